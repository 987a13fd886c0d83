/- The walks of package parse: whole, Table. The walks of package parse: found, Find. The walks of package parse: Find, Table, takes. -/
import Derived.Test.YtiopaenonjhlnaaGreatDoorParseMem
import Derived.Test.YtiopaenonjhlnaaGreatDoorParseLines
import Derived.Test.YtiopaenonjhlnaaGreatDoorShelf
import Derived.Test.YtiopaenonjhlnaaGreatDoorLexName
namespace Go.Proofs.YtiopaenonjhlnaaGreatDoor
set_option maxRecDepth 8000
open Go.RowKit
open Lx (Bytes)

theorem results_cell_tmp {fn : Func} {p t : Tmp} {ty : TypeId} (h : fn.results = #[.cell p ty, .tmp t]) (tmps : Array Value) (P : Program) (w : World) (a : Addr) (v : Value) (ha : tmps.getD p undef = .pointer (some a)) (hl : (loadVar ty a).run P w = .ok v w) :
    (results fn tmps).run P w = .ok (.tuple #[v, tmps.getD t undef]) w := by
  simp only [results, h]
  simp only [Array.getD_eq_getD_getElem?] at ha
  simp [ha, asAddr, hl]
theorem load_row {w : World} {b o : Nat} {r : Px.Row} (h : RowAt w b o r) : (loadVar 139 ⟨b, o, none⟩).run Tryz.prog w = .ok (rowV r) w := by
  obtain ⟨-, d0, d1, d2, d3, d4⟩ := h
  simp [go_sem, d0, d1, d2, d3, d4, rowV]
theorem load_five (w : World) (g : Nat) (v0 v1 v2 v3 v4 : Value) (h : Blk w g 139 #[v0, v1, v2, v3, v4]) : (loadVar 139 ⟨g, 0, none⟩).run Tryz.prog w = .ok (.agg #[v0, v1, v2, v3, v4]) w := by
  have d0 := h.cell 0
  have d1 := h.cell 1
  have d2 := h.cell 2
  have d3 := h.cell 3
  have d4 := h.cell 4
  clear h
  simp at d0 d1 d2 d3 d4
  simp [go_sem, d0, d1, d2, d3, d4]
theorem set_five {w wr : World} {a0 a1 a2 a3 a4 : Value} {t : TypeId} (h : Blk wr w.heap.size t #[a0, a1, a2, a3, a4]) (ht : Turns Nothing w wr) (v0 v1 v2 v3 v4 : Value) :
    Blk (((((wr.setCell ⟨w.heap.size, 0, none⟩ v0).setCell ⟨w.heap.size, 1, none⟩ v1).setCell ⟨w.heap.size, 2, none⟩ v2).setCell ⟨w.heap.size, 3, none⟩ v3).setCell ⟨w.heap.size, 4, none⟩ v4) w.heap.size t #[v0, v1, v2, v3, v4] ∧
    Turns Nothing w (((((wr.setCell ⟨w.heap.size, 0, none⟩ v0).setCell ⟨w.heap.size, 1, none⟩ v1).setCell ⟨w.heap.size, 2, none⟩ v2).setCell ⟨w.heap.size, 3, none⟩ v3).setCell ⟨w.heap.size, 4, none⟩ v4) :=
  ⟨((((h.set_ 0 v0).set_ 1 v1).set_ 2 v2).set_ 3 v3).set_ 4 v4,
   ((((ht.setCell (.inr (Nat.le_refl _)) v0).setCell (.inr (Nat.le_refl _)) v1).setCell (.inr (Nat.le_refl _)) v2).setCell (.inr (Nat.le_refl _)) v3).setCell (.inr (Nat.le_refl _)) v4⟩
def zeroRow : Px.Row := ⟨[], [], [], 0, 0⟩
def rowOr (o : Option Px.Row) : Px.Row := o.getD zeroRow
theorem whole_step {s : Bytes} {k : Nat} (h : k < Px.table.length) : Px.wholeIn s (Px.table.drop k) = if Px.table[k].name = s then some Px.table[k] else Px.wholeIn s (Px.table.drop (k + 1)) := by
  rw [List.drop_eq_getElem_cons h]; rfl
theorem zero_cells {w : World} {b : Nat} (h : Blk w b 139 #[.string ⟨#[]⟩, .string ⟨#[]⟩, .string ⟨#[]⟩, .int .i64 0, .int .i64 0]) :
    w.cell? ⟨b, 0, none⟩ = some (.string ⟨#[]⟩) ∧ w.cell? ⟨b, 1, none⟩ = some (.string ⟨#[]⟩) ∧ w.cell? ⟨b, 2, none⟩ = some (.string ⟨#[]⟩) ∧ w.cell? ⟨b, 3, none⟩ = some (.int .i64 0) ∧ w.cell? ⟨b, 4, none⟩ = some (.int .i64 0) ∧
    w.frozen? ⟨b, 0, none⟩ = false ∧ w.frozen? ⟨b, 1, none⟩ = false ∧ w.frozen? ⟨b, 2, none⟩ = false ∧ w.frozen? ⟨b, 3, none⟩ = false ∧ w.frozen? ⟨b, 4, none⟩ = false :=
  ⟨h.cell 0, h.cell 1, h.cell 2, h.cell 3, h.cell 4, h.frozen 0, h.frozen 1, h.frozen 2, h.frozen 3, h.frozen 4⟩
structure WholeRel (w wr : World) (s : Bytes) (k : Nat) : Prop where
  le : k ≤ 65
  spec : Px.wholeIn s (Px.table.drop k) = Px.whole s
  res : Blk wr w.heap.size 139 #[.string ⟨#[]⟩, .string ⟨#[]⟩, .string ⟨#[]⟩, .int .i64 0, .int .i64 0]
  tab : Blk wr (w.heap.size + 1) 139 (rowCells Px.table).toArray
  turns : Turns Nothing w wr

set_option maxHeartbeats 1000000 in
theorem whole_in (w : World) (s : ByteArray) : Calls Tryz.prog 68 #[.string s] w fun e w' => e = .returned (.tuple #[rowV (rowOr (Px.whole (sl s))), .bool (Px.whole (sl s)).isSome]) ∧ Turns Nothing w w' := by
  go_enter Tryz.func68, Tryz.ntmps68
  go_wp2_with fail
  refine (table_in _).mono ?_
  rintro e w1 ⟨rfl, rfl⟩
  go_wp2_with fail
  go_loopw [8] (fun i wr => ∃ k : Nat, i = .int .i64 k ∧ WholeRel w wr (sl s) k) (fun i _ => 65 - (intOf i).toNat)
  case atStart => exact ⟨0, rfl, Nat.zero_le _, rfl, (Blk.new w _ _).alloc _, blk_new_at (by simp [go_sem]), ((Turns.refl _ w).alloc _).alloc _⟩
  case round =>
    obtain ⟨k, rfl, hR⟩ := hrel
    have hk := hR.le
    by_cases hlt : k < 65
    · have hrow := rows_at hR.tab k hlt
      obtain ⟨-, c0, c1, c2, c3, c4⟩ := hrow
      have hz := hR.tab.lt
      have hz2 := hR.res.lt
      have hst := Lib.hid (whole_step (s := sl s) (k := k) hlt)
      obtain ⟨r0, r1, r2, r3, r4, f0, f1, f2, f3, f4⟩ := zero_cells hR.res
      simp only [strV] at c0 c1 c2
      have HR := Lib.hid hR
      clear hR
      generalize Px.table[k] = r at c0 c1 c2 c3 c4 hst
      have hnm := Lib.hid (show sl ⟨r.name.toArray⟩ = r.name from rfl)
      have hrv := Lib.hid (show rowV r = .agg #[.string ⟨r.name.toArray⟩, .string ⟨r.others.toArray⟩, .string ⟨r.flags.toArray⟩, .int .i64 r.few, .int .i64 r.most] from rfl)
      generalize (⟨r.name.toArray⟩ : ByteArray) = nm at c0 hnm hrv
      generalize (⟨r.others.toArray⟩ : ByteArray) = oth at c1 hrv
      generalize (⟨r.flags.toArray⟩ : ByteArray) = fls at c2 hrv
      by_cases he : nm = s
      · subst he
        go_wp2_with fail
        have S := set_five HR.out.res HR.out.turns (.string nm) (.string oth) (.string fls) (.int .i64 r.few) (.int .i64 r.most)
        refine bodyPost_ret (results_cell_tmp Tryz.results68 _ _ _ ⟨w.heap.size, 0, none⟩ _ rfl (load_five _ _ _ _ _ _ _ (S.1.alloc _))) rfl ?_
        have hw : Px.whole (sl nm) = some r := by rw [← HR.out.spec, hst.out, if_pos hnm.out.symm]
        rw [hw]
        exact ⟨by rw [← hrv.out]; rfl, S.2.alloc _⟩
      · have hb : (nm.toList == s.toList) = false := txt_ne fun e => he (txt_inj e)
        have he2 := Lib.hid he
        clear he
        go_wp2_with fail
        go_roundw
        case rel =>
          have hsp := HR.out.spec
          rw [hst.out, if_neg fun e => he2.out (txt_inj (hnm.out.trans e))] at hsp
          exact ⟨k + 1, by go_num, by omega, hsp, HR.out.res.alloc _, HR.out.tab.alloc _, HR.out.turns.alloc _⟩
        case measure => simp [intOf]; omega
    · obtain ⟨r0, r1, r2, r3, r4, f0, f1, f2, f3, f4⟩ := zero_cells hR.res
      have HR := Lib.hid hR
      clear hR
      go_wp2_with fail
      have S := set_five HR.out.res HR.out.turns (.string ⟨#[]⟩) (.string ⟨#[]⟩) (.string ⟨#[]⟩) (.int .i64 0) (.int .i64 0)
      refine bodyPost_ret (results_cell_tmp Tryz.results68 _ _ _ ⟨w.heap.size, 0, none⟩ _ rfl (load_five _ _ _ _ _ _ _ S.1)) rfl ?_
      have hsp := HR.out.spec
      rw [List.drop_eq_nil_of_le (show Px.table.length ≤ k by rw [show Px.table.length = 65 from rfl]; omega)] at hsp
      rw [← hsp]
      exact ⟨rfl, S.2⟩
end Go.Proofs.YtiopaenonjhlnaaGreatDoor
namespace Go.Proofs.YtiopaenonjhlnaaGreatDoor
set_option maxRecDepth 8000
open Go.RowKit
open Lx (Bytes)

def altCells (r : Px.Row) : Array Value := ((Px.alts r).map fun l => Value.string ⟨l.toArray⟩).toArray
theorem fields_in {r : Px.Row} (hr : r ∈ Px.table) {w : World} (h : Space w) : Calls Tryz.prog 64 #[.string ⟨r.others.toArray⟩] w fun e w' =>
    ∃ g, e = .returned (.slice (some ⟨g, 0, none⟩) (Px.alts r).length (Px.alts r).length) ∧ Blk w' g 9 (altCells r) ∧ Turns Nothing w w' := by
  have h1 := List.all_eq_true.1 Px.others_short r hr
  have h2 := List.all_eq_true.1 Px.others_ascii r hr
  simp only [Bool.and_eq_true, decide_eq_true_eq] at h1
  refine (Tryz.strings_Fields ⟨r.others.toArray⟩ w ?_ (fun j b hb => ?_) h).mono ?_
  · show r.others.toArray.size < _
    simp; omega
  · have hb : r.others[j]? = some b := by simpa using hb
    have := List.all_eq_true.1 h2 b (List.mem_of_getElem? hb)
    simp only [decide_eq_true_eq] at this
    exact this
  · rintro e w' ⟨rfl, rfl⟩
    exact ⟨_, rfl, Blk.new w _ _, (Turns.refl _ w).alloc _⟩
theorem fcontains_in (r : Px.Row) (hr : r ∈ Px.table) (s : ByteArray) (w : World) (g : Nat) (hb : Blk w g 9 (altCells r)) : Calls Tryz.prog 95 #[.slice (some ⟨g, 0, none⟩) (Px.alts r).length (Px.alts r).length, .string s] w fun e w' =>
    e = .returned (.bool (decide (sl s ∈ Px.alts r))) ∧ w = w' := by
  have hl : (Px.alts r).length ≤ 9223372036854775807 := by
    have h1 := List.all_eq_true.1 Px.alts_few r hr
    simp only [decide_eq_true_eq] at h1
    omega
  refine (Tryz.slices_Contains_string g 0 (Px.alts r).length (Px.alts r).length ((Px.alts r).map fun l => ⟨l.toArray⟩) s _ (by simp) hl (fun j hj => ?_)).mono ?_
  · rw [Nat.zero_add, hb.cell]
    have hj' : j < (Px.alts r).length := by simpa using hj
    simp [altCells, List.getD_eq_getElem?_getD, hj']
  · rintro e w' ⟨rfl, rfl⟩
    refine ⟨?_, rfl⟩
    rw [List.take_of_length_le (by simp)]
    congr 2
    rw [Bool.eq_iff_iff, Lib.containsS_iff, decide_eq_true_eq, List.mem_map]
    constructor
    · rintro ⟨l, hl, rfl⟩; exact hl
    · intro hm; exact ⟨_, hm, txt_inj rfl⟩
theorem five_cells {w : World} {b : Nat} {t : TypeId} {v0 v1 v2 v3 v4 : Value} (h : Blk w b t #[v0, v1, v2, v3, v4]) :
    w.cell? ⟨b, 0, none⟩ = some v0 ∧ w.cell? ⟨b, 1, none⟩ = some v1 ∧ w.cell? ⟨b, 2, none⟩ = some v2 ∧ w.cell? ⟨b, 3, none⟩ = some v3 ∧ w.cell? ⟨b, 4, none⟩ = some v4 :=
  ⟨h.cell 0, h.cell 1, h.cell 2, h.cell 3, h.cell 4⟩
theorem found_step {s : Bytes} {k : Nat} {acc : List Px.Row} (h : k < Px.table.length) : Px.foundIn s (Px.table.drop k) acc =
    if Px.table[k].name = s ∨ s ∈ Px.alts Px.table[k] then some Px.table[k] else Px.foundIn s (Px.table.drop (k + 1)) (if s ≠ [] ∧ s.isPrefixOf Px.table[k].name = true then acc ++ [Px.table[k]] else acc) := by
  rw [List.drop_eq_getElem_cons h]; rfl
structure FoundRel (w wr : World) (s : Bytes) (k : Nat) (v : Value) (acc : List Px.Row) : Prop where
  le : k ≤ 65
  spec : Px.foundIn s (Px.table.drop k) acc = Px.found s
  res : Blk wr w.heap.size 139 #[.string ⟨#[]⟩, .string ⟨#[]⟩, .string ⟨#[]⟩, .int .i64 0, .int .i64 0]
  tab : Blk wr (w.heap.size + 1) 139 (rowCells Px.table).toArray
  own : wr.ownsRow (w.heap.size + 2) 139 5 v acc.length (rowCells acc)
  few : acc.length ≤ k
  turns : Turns Nothing w wr
theorem FoundRel.still {w wr w1 : World} {s : Bytes} {k : Nat} {v : Value} {acc : List Px.Row} (h : FoundRel w wr s k v acc) (ht : Turns Nothing wr w1) : FoundRel w w1 s k v acc :=
  ⟨h.le, h.spec, ht.blk h.res id, ht.blk h.tab id, ht.own h.own fun _ _ => id, h.few, h.turns.same ht⟩
theorem FoundRel.lt {w wr : World} {s : Bytes} {k : Nat} {v : Value} {acc : List Px.Row} (h : FoundRel w wr s k v acc) {b : Nat} (e : v.ownBlock = some b) : w.heap.size + 2 ≤ b := (h.own.lt b e).1
theorem FoundRel.push {w w2 w3 : World} {s : Bytes} {k : Nat} {v v' : Value} {acc : List Px.Row} {r : Px.Row} {o : Obj} (h : FoundRel w w2 s k v acc) (hk : k < 65) (hg : (w2.alloc o).grownBy w3 v.ownBlock) (ho : w3.ownsRow (w.heap.size + 2) 139 5 v' (acc.length + 1) (rowCells acc ++ rowCell r))
    (hs : Px.foundIn s (Px.table.drop (k + 1)) (acc ++ [r]) = Px.found s) : FoundRel w w3 s (k + 1) v' (acc ++ [r]) := by
  have h2 := h.still ((Turns.refl Nothing w2).alloc o)
  refine ⟨hk, hs, h2.res.grown hg fun e => ?_, h2.tab.grown hg fun e => ?_, ?_, ?_, h2.turns.grown hg fun b hb e => ?_⟩
  · have := h.lt e.symm; omega
  · have := h.lt e.symm; omega
  · have e : rowCells (acc ++ [r]) = rowCells acc ++ rowCell r := by simp [rowCells]
    rw [List.length_append, e]
    exact ho
  · have := h.few
    rw [List.length_append, List.length_singleton]
    omega
  · have := h.lt e; omega
theorem own_first {w : World} {B cp : Nat} {A : Option Addr} {r : Px.Row} (h : w.ownsRow B 139 5 (.slice A 1 cp) 1 (rowCells [r])) : ∃ g, A = some ⟨g, 0, none⟩ ∧ RowAt w g 0 r := by
  rcases h.2 with ⟨e, h0⟩ | ⟨g, cap, cur, e, hb, hg, _⟩
  · exact absurd h0 (by decide)
  · injection e with e1 e2 e3
    subst e1
    refine ⟨g, rfl, (Array.getElem?_eq_some_iff.1 hg).1, ?_, ?_, ?_, ?_, ?_⟩
    all_goals (rw [h.cellAt _ (by decide)]; rfl)

set_option maxHeartbeats 1000000 in
theorem found_in {w : World} (hsp : Space w) (s : ByteArray) : Calls Tryz.prog 57 #[.string s] w fun e w' => e = .returned (.tuple #[rowV (rowOr (Px.found (sl s))), .bool (Px.found (sl s)).isSome]) ∧ Turns Nothing w w' := by
  have SP := Lib.hid hsp
  clear hsp
  obtain ⟨i0, hi0, hz0, hz1, hz2⟩ := info_parts A.info_row
  go_enter Tryz.func57, Tryz.ntmps57
  go_wp2_with fail
  refine (table_in _).mono ?_
  rintro e w1 ⟨rfl, rfl⟩
  go_wp2_with fail
  go_loopw [9, 4] (fun i v wr => ∃ (k : Nat) (acc : List Px.Row), i = .int .i64 k ∧ FoundRel w wr (sl s) k v acc) (fun i _ _ => 65 - (intOf i).toNat)
  case atStart => exact ⟨0, [], rfl, Nat.zero_le _, rfl, (Blk.new w _ _).alloc _, blk_new_at (by simp [go_sem]), World.ownsRow_nil _ _ _ _, Nat.le_refl _, ((Turns.refl _ w).alloc _).alloc _⟩
  case round =>
    obtain ⟨k, acc, rfl, hR⟩ := hrel
    have hk := hR.le
    have hz := hR.tab.lt
    have hz2' := hR.res.lt
    obtain ⟨r0, r1, r2, r3, r4, f0, f1, f2, f3, f4⟩ := zero_cells hR.res
    by_cases hlt : k < 65
    · have hrow := rows_at hR.tab k hlt
      have hmem : Px.table[k] ∈ Px.table := List.getElem_mem _
      obtain ⟨-, c0, c1, c2, c3, c4⟩ := hrow
      simp only [strV] at c0 c1 c2
      have hst := Lib.hid (found_step (s := sl s) (k := k) (acc := acc) hlt)
      have SP2 := Lib.hid (SP.out.still hR.turns)
      have HR := Lib.hid hR
      clear hR
      generalize Px.table[k] = r at c0 c1 c2 c3 c4 hst hmem
      have HF := Lib.hid (fun (w : World) (h : Space w) => fields_in hmem h)
      have HC := Lib.hid (fcontains_in r hmem s)
      have hnm := Lib.hid (show sl ⟨r.name.toArray⟩ = r.name from rfl)
      have hrv := Lib.hid (show rowV r = .agg #[.string ⟨r.name.toArray⟩, .string ⟨r.others.toArray⟩, .string ⟨r.flags.toArray⟩, .int .i64 r.few, .int .i64 r.most] from rfl)
      have hrc := Lib.hid (show rowCell r = [.string ⟨r.name.toArray⟩, .string ⟨r.others.toArray⟩, .string ⟨r.flags.toArray⟩, .int .i64 r.few, .int .i64 r.most] from rfl)
      clear hmem
      generalize (⟨r.name.toArray⟩ : ByteArray) = nm at c0 hnm hrv hrc
      generalize (⟨r.others.toArray⟩ : ByteArray) = oth at c1 hrv hrc HF
      generalize (⟨r.flags.toArray⟩ : ByteArray) = fls at c2 hrv hrc
      by_cases he : nm = s
      · subst he
        go_wp2_with fail
        have S := set_five HR.out.res HR.out.turns (.string nm) (.string oth) (.string fls) (.int .i64 r.few) (.int .i64 r.most)
        refine bodyPost_ret (results_cell_tmp Tryz.results57 _ _ _ ⟨w.heap.size, 0, none⟩ _ rfl (load_five _ _ _ _ _ _ _ (S.1.alloc _))) rfl ?_
        have hw : Px.found (sl nm) = some r := by rw [← HR.out.spec, hst.out, if_pos (.inl hnm.out.symm)]
        rw [hw]
        exact ⟨by rw [← hrv.out]; rfl, S.2.alloc _⟩
      · have hb : (nm.toList == s.toList) = false := txt_ne fun e => he (txt_inj e)
        have he2 := Lib.hid he
        clear he
        go_wp2_with fail
        refine (HF.out _ ?_).mono ?_
        · exact SP2.out.still ((Turns.refl _ _).alloc _)
        rintro e w2 ⟨g, rfl, hB, hT⟩
        have RB := Lib.hid (hT.blk (Blk.new wr 139 #[.string nm, .string oth, .string fls, .int .i64 r.few, .int .i64 r.most]) id)
        have R2 := HR.out.still (((Turns.refl _ wr).alloc _).same hT)
        clear r0 r1 r2 r3 r4 f0 f1 f2 f3 f4 c0 c1 c2 c3 c4 SP2 hT
        obtain ⟨p0, p1, p2, p3, p4⟩ := five_cells RB.out
        obtain ⟨r0, r1, r2, r3, r4, f0, f1, f2, f3, f4⟩ := zero_cells R2.res
        have hz3 := R2.tab.lt
        have hz4 := RB.out.lt
        have HR2 := Lib.hid R2
        have HB := Lib.hid hB
        clear R2 hB HR
        go_wp2_with fail
        refine (HC.out _ _ HB.out).mono ?_
        rintro e w3 ⟨rfl, rfl⟩
        by_cases hin : sl s ∈ Px.alts r
        · rw [decide_eq_true hin]
          have hin2 := Lib.hid hin
          clear hin
          go_wp2_with fail
          have S := set_five HR2.out.res HR2.out.turns (.string nm) (.string oth) (.string fls) (.int .i64 r.few) (.int .i64 r.most)
          refine bodyPost_ret (results_cell_tmp Tryz.results57 _ _ _ ⟨w.heap.size, 0, none⟩ _ rfl (load_five _ _ _ _ _ _ _ S.1)) rfl ?_
          have hw : Px.found (sl s) = some r := by rw [← HR2.out.spec, hst.out, if_pos (.inr hin2.out)]
          rw [hw]
          exact ⟨by rw [← hrv.out]; rfl, S.2⟩
        · rw [decide_eq_false hin]
          have hin2 := Lib.hid hin
          clear hin
          by_cases hs : s.toList.isEmpty = true
          · have hs2 := Lib.hid hs
            go_wp2_with fail
            go_roundw
            case rel =>
              refine ⟨k + 1, acc, by go_num, ?_⟩
              have hsp := HR2.out.spec
              rw [hst.out, if_neg (by rw [← hnm.out]; rintro (e | e); exact he2.out (txt_inj e); exact hin2.out e), if_neg (by rw [← txt_list, List.isEmpty_iff.1 hs2.out]; simp)] at hsp
              exact ⟨by omega, hsp, HR2.out.res, HR2.out.tab, HR2.out.own, Nat.le_succ_of_le HR2.out.few, HR2.out.turns⟩
            case measure => simp [intOf]; omega
          · have hs1 : s.toList.isEmpty = false := by simpa using hs
            have hs2 := Lib.hid hs1
            clear hs
            go_wp2_with fail
            refine (Tryz.strings_HasPrefix nm s w2).mono ?_
            rintro e w2 ⟨rfl, rfl⟩
            by_cases hpre : Lib.hasPrefix nm.data.toList s.data.toList = true
            · rw [hpre]
              have hp2 := Lib.hid hpre
              clear hpre
              obtain ⟨A0, cp0, rfl⟩ := own_slice HR2.out.own
              have hO := ((Turns.refl Nothing w2).alloc (.cells #[.string nm, .string oth, .string fls, .int .i64 r.few, .int .i64 r.most] 139)).own HR2.out.own fun _ _ => id
              have hS := psrc_block (size := 5) Tryz.underlying179 (Blk.new w2 139 #[.string nm, .string oth, .string fls, .int .i64 r.few, .int .i64 r.most]) 1 1 rfl (by simp [Value.oneCell'])
              have hn := HR2.out.few
              have hm : acc.length + 1 ≤ maxLen := by simp only [maxLen]; omega
              have hy : ((acc.length + 1) + (acc.length + 1 + 768) / 4 + 512) * 64 ≤ 281474976710656 := by omega
              have hb2 : w.heap.size + 2 ≤ (w2.alloc (.cells #[.string nm, .string oth, .string fls, .int .i64 r.few, .int .i64 r.most] 139)).heap.size := by simp [go_sem]; omega
              have HO := Lib.hid (And.intro hO (And.intro hS (And.intro hb2 (And.intro hm hy))))
              clear hO hS hb2 hm hy hn
              go_wp2_with (first
                | (at_builtin
                   refine wpList_append_src _ rfl (.tmp 33) (.tmp 35) _ _ rfl (w.heap.size + 2) 139 i0 _ 5 64 Tryz.underlying179 hi0 hz0 hz1 hz2 rfl (.slice A0 acc.length cp0) acc.length (rowCells acc) rfl HO.out.1 _ 1 _ rfl HO.out.2.1 HO.out.2.2.2.1 HO.out.2.2.2.2 HO.out.2.2.1 ?_
                   intro A1 cp1 w3 ho hg hat
                   have HN := Lib.hid (And.intro hg ho)
                   clear ho hg hat))
              go_roundw
              case rel =>
                refine ⟨k + 1, acc ++ [r], by go_num, ?_⟩
                have hsp := HR2.out.spec
                rw [hst.out, if_neg (by rw [← hnm.out]; rintro (e | e); exact he2.out (txt_inj e); exact hin2.out e), if_pos (by rw [← hnm.out]; exact ⟨fun e => (by have := hs2.out; rw [txt_list, e] at this; cases this), hp2.out⟩)] at hsp
                have h3 := HR2.out.push (by omega) HN.out.1 (by rw [hrc.out]; exact HN.out.2) hsp
                exact h3
              case measure => simp [intOf]; omega
            · have hpre1 : Lib.hasPrefix nm.data.toList s.data.toList = false := by simpa using hpre
              rw [hpre1]
              have hp2 := Lib.hid hpre1
              clear hpre hpre1
              go_wp2_with fail
              go_roundw
              case rel =>
                refine ⟨k + 1, acc, by go_num, ?_⟩
                have hsp := HR2.out.spec
                rw [hst.out, if_neg (by rw [← hnm.out]; rintro (e | e); exact he2.out (txt_inj e); exact hin2.out e), if_neg (by rintro ⟨-, e⟩; rw [← hnm.out] at e; have := hp2.out; unfold Lib.hasPrefix at this; rw [show s.data.toList = sl s from rfl, show nm.data.toList = sl nm from rfl, e] at this; cases this)] at hsp
                exact ⟨by omega, hsp, HR2.out.res, HR2.out.tab, HR2.out.own, Nat.le_succ_of_le HR2.out.few, HR2.out.turns⟩
              case measure => simp [intOf]; omega
    · have hsp := hR.spec
      rw [List.drop_eq_nil_of_le (show Px.table.length ≤ k by rw [show Px.table.length = 65 from rfl]; omega)] at hsp
      obtain ⟨A0, cp0, rfl⟩ := own_slice hR.own
      have HR := Lib.hid hR
      have SPP := Lib.hid hsp
      clear hR hsp
      by_cases hn : acc.length = 1
      · match acc, hn with
        | [r], _ =>
          obtain ⟨g, rfl, -, c0, c1, c2, c3, c4⟩ := own_first HR.out.own
          simp only [strV, Nat.zero_add] at c0 c1 c2 c3 c4
          simp only [List.length_singleton]
          go_wp2_with fail
          have S := set_five HR.out.res HR.out.turns (.string ⟨r.name.toArray⟩) (.string ⟨r.others.toArray⟩) (.string ⟨r.flags.toArray⟩) (.int .i64 r.few) (.int .i64 r.most)
          refine bodyPost_ret (results_cell_tmp Tryz.results57 _ _ _ ⟨w.heap.size, 0, none⟩ _ rfl (load_five _ _ _ _ _ _ _ S.1)) rfl ?_
          rw [← SPP.out]
          exact ⟨rfl, S.2⟩
      · have hne : ((acc.length : Int) == 1) = false := by simpa using fun e => hn (by omega)
        have hne2 : ((acc.length : Int) != 1) = true := by simpa using fun e => hn (by omega)
        have hfd : Px.foundIn (sl s) [] acc = none := by
          match acc, hn with
          | [], _ => rfl
          | [_], h => exact absurd rfl h
          | _ :: _ :: _, _ => rfl
        have HN := Lib.hid hfd
        clear hn hfd
        go_wp2_with fail
        have S := set_five HR.out.res HR.out.turns (.string ⟨#[]⟩) (.string ⟨#[]⟩) (.string ⟨#[]⟩) (.int .i64 0) (.int .i64 0)
        refine bodyPost_ret (results_cell_tmp Tryz.results57 _ _ _ ⟨w.heap.size, 0, none⟩ _ rfl (load_five _ _ _ _ _ _ _ S.1)) rfl ?_
        rw [← SPP.out, HN.out]
        exact ⟨rfl, S.2⟩
end Go.Proofs.YtiopaenonjhlnaaGreatDoor
namespace Go.Proofs.YtiopaenonjhlnaaGreatDoor
set_option maxRecDepth 8000
open Go.RowKit
open Lx (Bytes)

theorem index_takes (c : UInt8) : ∀ l : Bytes, (Lib.indexByte l c = -1 ∧ Px.takesIn c l = none) ∨ ∃ i : Nat, Lib.indexByte l c = i ∧ i < l.length ∧ Px.takesIn c l = some (decide ((l.drop (i + 1)).head? = some 58))
  | [] => .inl ⟨rfl, rfl⟩
  | x :: l => by
    simp only [Lib.indexByte, Px.takesIn]
    by_cases e : x = c
    · exact .inr ⟨0, by simp [e], by simp, by simp [e]⟩
    · have e2 : (x == c) = false := by simp [e]
      rcases index_takes c l with ⟨h1, h2⟩ | ⟨i, h1, h2, h3⟩
      · left
        simp [e, e2, h1, h2]
      · right
        refine ⟨i + 1, ?_, by simp; omega, ?_⟩
        · have : ¬ (i : Int) = -1 := by omega
          simp [e2, h1, this]
        · simp [e, h3]
theorem colon_prefix (l : Bytes) : Lib.hasPrefix l [58] = decide (l.head? = some 58) := by
  cases l with
  | nil => rfl
  | cons x r =>
    unfold Lib.hasPrefix
    by_cases e : x = 58
    · simp [e]
    · have e2 : (58 == x) = false := beq_false_of_ne fun q => e q.symm
      rw [List.isPrefixOf_cons_cons, e2]
      simp [e]
set_option maxHeartbeats 1000000 in
theorem takes_in (w : World) (r : Px.Row) (c : UInt8) (hl : r.flags.length ≤ 1000) : Calls Tryz.prog 69 #[rowV r, .int .u8 c.toNat] w fun e w' =>
    e = .returned (.tuple #[.bool (Px.takes r c).isSome, .bool ((Px.takes r c).getD false)]) ∧ Turns Nothing w w' := by
  have hix := index_takes c r.flags
  have hi := Lib.hid (fun w => ibc ⟨r.flags.toArray⟩ r.flags rfl c w)
  simp only [rowV, strV]
  go_enter Tryz.func69, Tryz.ntmps69
  rcases hix with ⟨h1, h2⟩ | ⟨i, h1, h2, h3⟩
  · rw [h1] at hi
    have H2 := Lib.hid h2
    clear h1 h2
    go_wp2_with fail
    refine (hi.out _).mono ?_
    rintro e w1 ⟨rfl, rfl⟩
    go_wp2_with fail
    refine bodyPost_ret (results_tmp2 rfl _ _ _) rfl ?_
    have ht : Px.takes r c = none := by unfold Px.takes; rw [H2.out]; simp
    rw [ht]
    exact ⟨rfl, (Turns.refl _ w).alloc _⟩
  · rw [h1] at hi
    have H3 := Lib.hid h3
    clear h1 h3
    by_cases hc : c = 58
    · subst hc
      have ht : Px.takes r 58 = none := rfl
      rw [ht]
      clear ht
      go_wp2_with fail
      refine (hi.out _).mono ?_
      rintro e w1 ⟨rfl, rfl⟩
      go_wp2_with fail
      refine bodyPost_ret (results_tmp2 rfl _ _ _) rfl ?_
      exact ⟨rfl, (Turns.refl _ w).alloc _⟩
    · have hc2 : ¬ (c.toNat : Int) = 58 := fun e => hc (UInt8.toNat_inj.1 (by show c.toNat = 58; omega))
      have hc3 : ((c.toNat : Int) == 58) = false := by simpa using hc2
      have hc4 := Lib.hid hc
      clear hc
      go_wp2_with fail
      refine (hi.out _).mono ?_
      rintro e w1 ⟨rfl, rfl⟩
      go_wp2_with fail
      refine (Tryz.strings_HasPrefix _ _ _).mono ?_
      rintro e w1 ⟨rfl, rfl⟩
      go_wp2_with fail
      refine bodyPost_ret (results_tmp2 rfl _ _ _) rfl ?_
      have ht : Px.takes r c = some (Lib.hasPrefix (List.take (r.flags.length - (i + 1)) (List.drop (i + 1) r.flags)) [58]) := by
        unfold Px.takes
        rw [H3.out, if_neg hc4.out, colon_prefix, List.take_of_length_le (by simp)]
      rw [ht]
      exact ⟨rfl, (Turns.refl _ w).alloc _⟩
end Go.Proofs.YtiopaenonjhlnaaGreatDoor
