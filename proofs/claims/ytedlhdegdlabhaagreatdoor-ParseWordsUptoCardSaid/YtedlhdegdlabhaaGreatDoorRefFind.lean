/- The document's table of commands (package mullionref12): Rows, Whole. The document's Whole (package mullionref12). The document's words (package mullionref12): what stands between blanks. The document's Find (package mullionref12). -/
import Derived.Test.YtedlhdegdlabhaaGreatDoorParseTakes
import Derived.Test.YtedlhdegdlabhaaGreatDoorParseRef
import Derived.Deep.LoopGhost
import Derived.Deep.CutBlock
import Derived.Deep.DeepCutAuto
namespace Go.Proofs.YtedlhdegdlabhaaGreatDoor
set_option maxRecDepth 8000
open Go.RowKit Go.Great
open Lx (Bytes)

theorem A.info_rrow : (Tryz.prog.info? 61).map (fun i => (i.zero, i.size, i.bytes)) = some (some (.agg #[.string ⟨#[]⟩, .string ⟨#[]⟩, .string ⟨#[]⟩, .int .i64 0, .int .i64 0]), 5, 64) := by kernel_rfl
theorem built_rrow (r : Px.Row) : Tryz.prog.built 61 (rowParts r) = some (rowCell r).toArray := by
  obtain ⟨a, b, c, d, e⟩ := r
  kernel_rfl
theorem wpList_rrows {ops : Array Oper} {rest : List Oper} {w : World} {Q : Exit → Act → World → Prop} : ∀ (rs : List Px.Row) (k : Nat) (l : List Oper) (a : Act), l.mapM (strip 61) = some (stripped k rs) →
    wpList Tryz.prog ops Q rest (putRows k rs a) w → wpList Tryz.prog ops Q (l ++ rest) a w
  | [], k, l, a, h, hw => by
    cases l with
    | nil => exact hw
    | cons o l =>
      rw [List.mapM_cons] at h
      cases ho : strip 61 o with
      | none => simp [ho] at h
      | some x => cases hr : l.mapM (strip 61) <;> simp [ho, hr, stripped] at h
  | r :: rs, k, l, a, h, hw => by
    cases l with
    | nil => simp [stripped] at h
    | cons o l =>
      rw [List.mapM_cons] at h
      cases ho : strip 61 o with
      | none => simp [ho] at h
      | some x =>
        cases hr : l.mapM (strip 61) with
        | none => simp [ho, hr] at h
        | some u =>
          simp [ho, hr, stripped] at h
          obtain ⟨rfl, rfl⟩ := h
          obtain ⟨hg, hd, parts, hop, hv⟩ := strip_is ho
          rw [List.cons_append]
          refine wpList_build hg 61 parts hop ?_ ?_
          · rw [hv, built_rrow]; rfl
          · rw [hv, built_rrow, hd]
            exact wpList_rrows rs (k + 1) l _ hr hw
theorem wpList_rtable {ops : Array Oper} {w : World} {Q : Exit → Act → World → Prop} (rs : List Px.Row) (n : Nat) (L rest : List Oper) (a : Act) (hl : (L.take n).mapM (strip 61) = some (stripped 1 rs)) (hr : L.drop n = rest)
    (hw : wpList Tryz.prog ops Q rest (putRows 1 rs a) w) : wpList Tryz.prog ops Q L a w := by
  rw [← List.take_append_drop n L, hr]
  exact wpList_rrows rs 1 _ a hl hw
set_option maxHeartbeats 1000000 in
set_option maxRecDepth 100000 in
theorem rows_in (w : World) : Calls Tryz.prog 46 #[] w fun e w' => e = .returned (.slice (some ⟨w.heap.size, 0, none⟩) 65 65) ∧ w' = w.alloc (.cells (rowCells Px.table).toArray 61) := by
  obtain ⟨i0, hi0, hz0, hz1, hz2⟩ := info_parts A.info_rrow
  go_enter Tryz.func46, Tryz.ntmps46
  refine wp_seq ?_
  apply wp_region_lit
  refine wpList_plain rfl fun K hK => BigFrame.wp_assign _ rfl (hK _ _ (wpList_nil ?_))
  refine wp_seq ?_
  apply wp_region_lit
  refine wpList_rtable Px.table 65 _ _ _ (by kernel_rfl) (by rfl) ?_
  refine wpList_buildSlice rfl 110 61 65 _ rfl (rowCells Px.table).toArray i0 _ Tryz.underlying110 hi0 hz0 (by rw [hz1]; decide) (by rw [hz1]; decide) (by rw [hz1]; kernel_rfl) ?_
  refine wpList_plain rfl fun K hK => BigFrame.wp_assign _ rfl (hK _ _ (wpList_nil ?_))
  clear hK K
  refine wp_ret ?_
  apply bodyPost_ret_by (v := .slice (some ⟨w.heap.size, 0, none⟩) 65 65)
  · kernel_rfl
  · kernel_rfl
  · exact ⟨rfl, rfl⟩
end Go.Proofs.YtedlhdegdlabhaaGreatDoor
namespace Go.Proofs.YtedlhdegdlabhaaGreatDoor
set_option maxRecDepth 8000
open Go.RowKit
open Lx (Bytes)

abbrev zeroRs : Array Value := #[.string ⟨#[]⟩, .string ⟨#[]⟩, .string ⟨#[]⟩, .int .i64 0, .int .i64 0]
theorem rload_five (w : World) (g : Nat) (v0 v1 v2 v3 v4 : Value) (h : Blk w g 61 #[v0, v1, v2, v3, v4]) : (loadVar 61 ⟨g, 0, none⟩).run Tryz.prog w = .ok (.agg #[v0, v1, v2, v3, v4]) w := by
  have d0 := h.cell 0
  have d1 := h.cell 1
  have d2 := h.cell 2
  have d3 := h.cell 3
  have d4 := h.cell 4
  clear h
  simp at d0 d1 d2 d3 d4
  simp [go_sem, d0, d1, d2, d3, d4]
theorem rzero_cells {w : World} {b : Nat} {t : TypeId} (h : Blk w b t zeroRs) :
    w.cell? ⟨b, 0, none⟩ = some (.string ⟨#[]⟩) ∧ w.cell? ⟨b, 1, none⟩ = some (.string ⟨#[]⟩) ∧ w.cell? ⟨b, 2, none⟩ = some (.string ⟨#[]⟩) ∧ w.cell? ⟨b, 3, none⟩ = some (.int .i64 0) ∧ w.cell? ⟨b, 4, none⟩ = some (.int .i64 0) ∧
    w.frozen? ⟨b, 0, none⟩ = false ∧ w.frozen? ⟨b, 1, none⟩ = false ∧ w.frozen? ⟨b, 2, none⟩ = false ∧ w.frozen? ⟨b, 3, none⟩ = false ∧ w.frozen? ⟨b, 4, none⟩ = false :=
  ⟨h.cell 0, h.cell 1, h.cell 2, h.cell 3, h.cell 4, h.frozen 0, h.frozen 1, h.frozen 2, h.frozen 3, h.frozen 4⟩
structure RWholeRel (w wr : World) (s : Bytes) (k : Nat) : Prop where
  le : k ≤ 65
  spec : Px.wholeIn s (Px.table.drop k) = Px.whole s
  res : Blk wr w.heap.size 61 zeroRs
  tab : Blk wr (w.heap.size + 1) 61 (rowCells Px.table).toArray
  turns : Turns Nothing w wr
set_option maxHeartbeats 1000000 in
theorem rwhole_in (w : World) (s : ByteArray) : Calls Tryz.prog 32 #[.string s] w fun e w' => e = .returned (.tuple #[rowV (rowOr (Px.whole (sl s))), .bool (Px.whole (sl s)).isSome]) ∧ Turns Nothing w w' := by
  go_enter Tryz.func32, Tryz.ntmps32
  go_wp2_with fail
  refine (rows_in _).mono ?_
  rintro e w1 ⟨rfl, rfl⟩
  go_wp2_with fail
  go_loopw [5] (fun i wr => ∃ k : Nat, i = .int .i64 k ∧ RWholeRel w wr (sl s) k) (fun i _ => 65 - (intOf i).toNat)
  case atStart => exact ⟨0, rfl, Nat.zero_le _, rfl, (Blk.new w _ _).alloc _, blk_new_at (by simp [go_sem]), ((Turns.refl _ w).alloc _).alloc _⟩
  case round =>
    obtain ⟨k, rfl, hR⟩ := hrel
    have hk := hR.le
    by_cases hlt : k < 65
    · have hrow := rows_at hR.tab k hlt
      obtain ⟨-, c0, c1, c2, c3, c4⟩ := hrow
      have hz := hR.tab.lt
      have hz2 := hR.res.lt
      have hst := Lib.hid (whole_step (s := sl s) (k := k) hlt)
      obtain ⟨r0, r1, r2, r3, r4, f0, f1, f2, f3, f4⟩ := rzero_cells hR.res
      simp only [strV] at c0 c1 c2
      have HR := Lib.hid hR
      clear hR
      generalize Px.table[k] = r at c0 c1 c2 c3 c4 hst
      have hnm := Lib.hid (show sl ⟨r.name.toArray⟩ = r.name from rfl)
      have hrv := Lib.hid (show rowV r = .agg #[.string ⟨r.name.toArray⟩, .string ⟨r.others.toArray⟩, .string ⟨r.flags.toArray⟩, .int .i64 r.few, .int .i64 r.most] from rfl)
      generalize (⟨r.name.toArray⟩ : ByteArray) = nm at c0 hnm hrv
      generalize (⟨r.others.toArray⟩ : ByteArray) = oth at c1 hrv
      generalize (⟨r.flags.toArray⟩ : ByteArray) = fls at c2 hrv
      by_cases he : nm = s
      · subst he
        go_wp2_with fail
        have S := set_five HR.out.res HR.out.turns (.string nm) (.string oth) (.string fls) (.int .i64 r.few) (.int .i64 r.most)
        refine bodyPost_ret (results_cell_tmp Tryz.results32 _ _ _ ⟨w.heap.size, 0, none⟩ _ rfl (rload_five _ _ _ _ _ _ _ S.1)) rfl ?_
        have hw : Px.whole (sl nm) = some r := by rw [← HR.out.spec, hst.out, if_pos hnm.out.symm]
        rw [hw]
        exact ⟨by rw [← hrv.out]; rfl, S.2⟩
      · have hb : (nm.toList == s.toList) = false := txt_ne fun e => he (txt_inj e)
        have he2 := Lib.hid he
        clear he
        go_wp2_with fail
        go_roundw
        case rel =>
          have hsp := HR.out.spec
          rw [hst.out, if_neg fun e => he2.out (txt_inj (hnm.out.trans e))] at hsp
          exact ⟨k + 1, by go_num, by omega, hsp, HR.out.res, HR.out.tab, HR.out.turns⟩
        case measure => simp [intOf]; omega
    · obtain ⟨r0, r1, r2, r3, r4, f0, f1, f2, f3, f4⟩ := rzero_cells hR.res
      have HR := Lib.hid hR
      clear hR
      go_wp2_with fail
      have S := set_five HR.out.res HR.out.turns (.string ⟨#[]⟩) (.string ⟨#[]⟩) (.string ⟨#[]⟩) (.int .i64 0) (.int .i64 0)
      refine bodyPost_ret (results_cell_tmp Tryz.results32 _ _ _ ⟨w.heap.size, 0, none⟩ _ rfl (rload_five _ _ _ _ _ _ _ S.1)) rfl ?_
      have hsp := HR.out.spec
      rw [List.drop_eq_nil_of_le (show Px.table.length ≤ k by rw [show Px.table.length = 65 from rfl]; omega)] at hsp
      rw [← hsp]
      exact ⟨rfl, S.2⟩
end Go.Proofs.YtedlhdegdlabhaaGreatDoor
namespace Go.Proofs.YtedlhdegdlabhaaGreatDoor
set_option maxRecDepth 8000
open Go.RowKit
open Lx (Bytes)

theorem A.info_rstr : (Tryz.prog.info? 9).map (fun i => (i.zero, i.size, i.bytes)) = some (some (.string ⟨#[]⟩), 1, 16) := by kernel_rfl
/-- the bytes from j up to k -/
def cut (s : Bytes) (j k : Nat) : Bytes := (s.drop j).take (k - j)
theorem cut_self (s : Bytes) (k : Nat) : cut s k k = [] := by simp [cut]
theorem cut_snoc {s : Bytes} {j k : Nat} (hj : j ≤ k) (hk : k < s.length) : cut s j (k + 1) = cut s j k ++ [s[k]] := by
  unfold cut
  rw [show k + 1 - j = (k - j) + 1 by omega, List.take_succ_eq_append_getElem (by rw [List.length_drop]; omega)]
  congr 2
  rw [List.getElem_drop]
  congr 1
  omega
theorem cut_empty {s : Bytes} {j k : Nat} (hj : j ≤ k) (hk : k ≤ s.length) : (cut s j k).isEmpty = decide (j = k) := by
  by_cases e : j = k
  · subst e; simp [cut_self]
  · have : (cut s j k).length = k - j := by simp [cut]; omega
    rw [decide_eq_false e, List.isEmpty_eq_false_iff]
    intro q
    rw [q] at this
    simp at this
    omega
theorem extract_cut (s : ByteArray) (j k : Nat) (_hk : k ≤ s.size) : s.extract j k = ⟨(cut (sl s) j k).toArray⟩ := by
  apply txt_inj
  simp [sl, cut]
structure BRelW (w wr : World) (s : Bytes) (k j : Nat) (v : Value) (acc : List Bytes) : Prop where
  le : k ≤ s.length + 1
  lej : j ≤ k
  spec : (k ≤ s.length → acc ++ Px.blanksGo (cut s j k) (s.drop k) = Px.blanks s) ∧ (s.length < k → acc = Px.blanks s)
  own : wr.ownsRow w.heap.size 9 1 v acc.length (acc.map strV)
  few : acc.length ≤ k
  turns : Turns Nothing w wr
/-- does a piece end before k? -/
def sepAt (s : Bytes) (k : Nat) : Bool := match s.drop k with
  | [] => true
  | b :: _ => b == 32
theorem sep_end {s : Bytes} {k : Nat} (h : s.length ≤ k) : sepAt s k = true := by
  unfold sepAt; rw [List.drop_eq_nil_of_le h]
theorem sep_mid {s : Bytes} {k : Nat} (h : k < s.length) : sepAt s k = (s[k] == 32) := by
  unfold sepAt; rw [List.drop_eq_getElem_cons h]
theorem BRelW.sep {w wr : World} {s : Bytes} {k j : Nat} {v : Value} {acc : List Bytes} (h : BRelW w wr s k j v acc) (hk : k ≤ s.length) (hs : sepAt s k = true) (he : j = k) : BRelW w wr s (k + 1) (k + 1) v acc := by
  refine ⟨by omega, Nat.le_refl _, ⟨fun h2 => ?_, fun h2 => ?_⟩, h.own, Nat.le_succ_of_le h.few, h.turns⟩
  · have hq := h.spec.1 hk
    have hlt : k < s.length := by omega
    rw [sep_mid hlt, beq_iff_eq] at hs
    rw [List.drop_eq_getElem_cons hlt, Px.blanksGo, if_pos hs, cut_empty h.lej hk, decide_eq_true he, if_pos rfl] at hq
    rw [cut_self]
    exact hq
  · have hq := h.spec.1 hk
    have hke : k = s.length := by omega
    rw [hke, List.drop_length, Px.blanksGo, cut_empty (hke ▸ h.lej) (Nat.le_refl _), decide_eq_true (hke ▸ he), if_pos rfl, List.append_nil] at hq
    exact hq
theorem BRelW.push {w wr w2 w3 : World} {s : Bytes} {k j : Nat} {v v' : Value} {acc : List Bytes} (h : BRelW w wr s k j v acc) (hk : k ≤ s.length) (hs : sepAt s k = true) (he : j < k) (h2 : Turns Nothing wr w2) (hg : w2.grownBy w3 v.ownBlock)
    (ho : w3.ownsRow w.heap.size 9 1 v' (acc.length + 1) (acc.map strV ++ [strV (cut s j k)])) : BRelW w w3 s (k + 1) (k + 1) v' (acc ++ [cut s j k]) := by
  have hcl : ∀ q : Bytes, (cut s j k).isEmpty = false := fun _ => by rw [cut_empty h.lej hk, decide_eq_false (by omega)]
  refine ⟨by omega, Nat.le_refl _, ⟨fun h3 => ?_, fun h3 => ?_⟩, ?_, ?_, (h.turns.same h2).grown hg fun b hb e => ?_⟩
  · have hq := h.spec.1 hk
    have hlt : k < s.length := by omega
    rw [sep_mid hlt, beq_iff_eq] at hs
    rw [List.drop_eq_getElem_cons hlt, Px.blanksGo, if_pos hs, hcl [], if_neg (by decide)] at hq
    rw [cut_self, List.append_assoc]
    exact hq
  · have hq := h.spec.1 hk
    have hke : k = s.length := by omega
    subst hke
    rw [List.drop_length, Px.blanksGo, hcl [], if_neg (by decide)] at hq
    exact hq
  · rw [List.length_append, List.map_append]
    exact ho
  · have := h.few; rw [List.length_append, List.length_singleton]; omega
  · have := (h.own.lt b e).1; omega
theorem BRelW.more {w wr : World} {s : Bytes} {k j : Nat} {v : Value} {acc : List Bytes} (h : BRelW w wr s k j v acc) (hk : k < s.length) (hs : sepAt s k = false) : BRelW w wr s (k + 1) j v acc := by
  refine ⟨by omega, Nat.le_succ_of_le h.lej, ⟨fun _ => ?_, fun h2 => by omega⟩, h.own, Nat.le_succ_of_le h.few, h.turns⟩
  have hq := h.spec.1 (by omega)
  rw [sep_mid hk] at hs
  have hne : ¬ s[k] = 32 := by intro e; rw [e] at hs; cases hs
  rw [List.drop_eq_getElem_cons hk, Px.blanksGo, if_neg hne, ← cut_snoc h.lej hk] at hq
  exact hq
set_option maxHeartbeats 2000000 in
theorem rwords_in (w : World) (s : ByteArray) (hsz : s.size ≤ 1000) : Calls Tryz.prog 47 #[.string s] w fun e w' => ∃ v, e = .returned v ∧ w'.ownsRow w.heap.size 9 1 v (Px.blanks (sl s)).length ((Px.blanks (sl s)).map strV) ∧ Turns Nothing w w' := by
  have hsl : (sl s).length = s.size := sl_size s
  obtain ⟨i0, hi0, hz0, hz1, hz2⟩ := info_parts A.info_rstr
  go_enter Tryz.func47, Tryz.ntmps47
  go_wp2_with fail
  go_loopg [5, 4, 3] (s.size + 1) (fun g i f v wr => ∃ (k j : Nat) (acc : List Bytes), g = s.size + 1 - k ∧ i = .int .i64 k ∧ f = .int .i64 j ∧ BRelW w wr (sl s) k j v acc)
  case atStart => exact ⟨0, 0, [], rfl, rfl, rfl, ⟨Nat.zero_le _, Nat.le_refl _, ⟨fun _ => by rw [cut_self]; rfl, fun h => absurd h (by omega)⟩, World.ownsRow_nil _ _ _ _, Nat.le_refl _, Turns.refl _ _⟩⟩
  case round =>
    obtain ⟨k, j, acc, rfl, rfl, rfl, hR⟩ := hrel
    obtain ⟨A0, cp0, rfl⟩ := own_slice hR.own
    have hle := hR.le
    have hlj := hR.lej
    have hfw := hR.few
    have HR := Lib.hid hR
    clear hR
    by_cases hk : k ≤ s.size
    · go_upto_region 6 with fail
      go_cut [21] (fun s21 wx => s21 = .bool (sepAt (sl s) k) ∧ wr = wx)
      case first =>
        by_cases hke : k = s.size
        · have e1 : ((k : Int) == (s.size : Int)) = true := by rw [beq_iff_eq]; omega
          have e2 : (k : Int) = (s.size : Int) := by omega
          go_wp2_with fail
          go_meet
          exact ⟨by rw [sep_end (by omega)], rfl⟩
        · have e1 : ((k : Int) == (s.size : Int)) = false := by simp; omega
          have e2 : ¬ (k : Int) = (s.size : Int) := by omega
          have hk2 : k < s.size := by omega
          have hsm : sepAt (sl s) k = (s[k] == 32) := by rw [sep_mid (by omega)]; rfl
          cases hb : s[k] == 32 with
          | true =>
            have e3 : (s[k].toNat : Int) = 32 := by have := beq_iff_eq.1 hb; rw [this]; rfl
            rw [hb] at hsm
            clear hb
            go_wp2_with fail
            go_meet
            exact ⟨by rw [hsm], rfl⟩
          | false =>
            have e3 : ¬ (s[k].toNat : Int) = 32 := fun e => by
              have : s[k] = 32 := UInt8.toNat_inj.1 (by show s[k].toNat = 32; omega)
              rw [this] at hb; cases hb
            have e4 : ((s[k].toNat : Int) == 32) = false := by simpa using e3
            rw [hb] at hsm
            clear hb
            go_wp2_with fail
            go_meet
            exact ⟨by rw [hsm], rfl⟩
      case rest =>
        obtain ⟨rfl, rfl⟩ := hcut
        cases hs : sepAt (sl s) k with
        | true =>
          have HS := Lib.hid hs
          clear hs
          by_cases hj : j < k
          · have hji : (j : Int) < (k : Int) := by omega
            have hex := extract_cut s j k hk
            obtain ⟨tx, htx⟩ : ∃ tx, s.extract j k = tx := ⟨_, rfl⟩
            rw [htx] at hex
            have HX := Lib.hid hex
            have hO := ((Turns.refl Nothing wr).alloc (.cells #[.string tx] 9)).own HR.out.own fun _ _ => id
            have hSc := psrc_block (size := 1) Tryz.underlying25 (Blk.new wr 9 #[.string tx]) 1 1 rfl (by simp [Value.oneCell'])
            have hm : acc.length + 1 ≤ maxLen := by simp only [maxLen]; omega
            have hy : ((acc.length + 1) + (acc.length + 1 + 768) / 4 + 512) * 16 ≤ 281474976710656 := by omega
            have hb2 : w.heap.size ≤ (wr.alloc (.cells #[.string tx] 9)).heap.size := by have := HR.out.turns.size; simp [go_sem]; omega
            have HO := Lib.hid (And.intro hO (And.intro hSc (And.intro hb2 (And.intro hm hy))))
            clear hO hSc hb2 hm hy hex
            go_wp2_with (first
              | (at_builtin
                 refine wpList_append_src _ rfl (.tmp 25) (.tmp 30) _ _ rfl w.heap.size 9 i0 _ 1 16 Tryz.underlying25 hi0 hz0 hz1 hz2 rfl (.slice A0 acc.length cp0) acc.length _ rfl HO.out.1 _ 1 _ rfl HO.out.2.1 HO.out.2.2.2.1 HO.out.2.2.2.2 HO.out.2.2.1 ?_
                 intro A1 cp1 w3 ho hg hat
                 have HN := Lib.hid (And.intro hg ho)
                 clear ho hg hat))
            go_roundg (s.size + 1 - (k + 1))
            case measure => omega
            case rel => exact ⟨k + 1, k + 1, acc ++ [cut (sl s) j k], rfl, by go_num, by go_num, by
              have h3 := HR.out.push (w2 := wr.alloc (.cells #[.string tx] 9)) (by omega) HS.out hj ((Turns.refl _ _).alloc _) HN.out.1 (by rw [strV, ← HX.out]; exact HN.out.2)
              exact h3⟩
          · have e3 : ¬ (j : Int) < (k : Int) := by omega
            go_wp2_with fail
            go_roundg (s.size + 1 - (k + 1))
            case measure => omega
            case rel => exact ⟨k + 1, k + 1, acc, rfl, by go_num, by go_num, HR.out.sep (by omega) HS.out (by omega)⟩
        | false =>
          have HS := Lib.hid hs
          have hk2 : k < s.size := by
            rcases Nat.lt_or_ge k s.size with h | h
            · exact h
            · rw [sep_end (by omega)] at hs; cases hs
          clear hs
          go_wp2_with fail
          go_roundg (s.size + 1 - (k + 1))
          case measure => omega
          case rel => exact ⟨k + 1, j, acc, rfl, by go_num, rfl, HR.out.more (by omega) HS.out⟩
    · go_wp2_with fail
      go_ret
      have hq := HR.out.spec.2 (by omega)
      have ho := HR.out.own
      rw [hq] at ho
      refine ⟨_, rfl, ?_, HR.out.turns⟩
      rw [show acc.length = (Px.blanks (sl s)).length by rw [hq]]
      exact ho
end Go.Proofs.YtedlhdegdlabhaaGreatDoor
namespace Go.Proofs.YtedlhdegdlabhaaGreatDoor
set_option maxRecDepth 8000
open Go.RowKit
open Lx (Bytes)

theorem prefix_iff (s nm : ByteArray) : (sl s).isPrefixOf (sl nm) = true ↔ s.size ≤ nm.size ∧ sl (nm.extract 0 s.size) = sl s := by
  rw [List.isPrefixOf_iff_prefix, List.prefix_iff_eq_take, sl_size]
  constructor
  · intro h
    have hl : s.size ≤ nm.size := by
      have := congrArg List.length h
      rw [List.length_take, sl_size, sl_size] at this
      omega
    refine ⟨hl, ?_⟩
    rw [extract_cut nm 0 s.size hl]
    show cut (sl nm) 0 s.size = sl s
    rw [cut, List.drop_zero, Nat.sub_zero]
    exact h.symm
  · rintro ⟨hl, h⟩
    rw [extract_cut nm 0 s.size hl] at h
    have h2 : cut (sl nm) 0 s.size = sl s := h
    rw [cut, List.drop_zero, Nat.sub_zero] at h2
    exact h2.symm
structure RFoundRel (w wr : World) (s : Bytes) (k : Nat) (v : Value) (acc : List Px.Row) : Prop where
  le : k ≤ 65
  spec : Px.foundIn s (Px.table.drop k) acc = Px.found s
  res : Blk wr w.heap.size 61 zeroRs
  tab : Blk wr (w.heap.size + 1) 61 (rowCells Px.table).toArray
  own : wr.ownsRow (w.heap.size + 2) 61 5 v acc.length (rowCells acc)
  few : acc.length ≤ k
  turns : Turns Nothing w wr
theorem RFoundRel.still {w wr w1 : World} {s : Bytes} {k : Nat} {v : Value} {acc : List Px.Row} (h : RFoundRel w wr s k v acc) (ht : Turns Nothing wr w1) : RFoundRel w w1 s k v acc :=
  ⟨h.le, h.spec, ht.blk h.res id, ht.blk h.tab id, ht.own h.own fun _ _ => id, h.few, h.turns.same ht⟩
theorem RFoundRel.lt {w wr : World} {s : Bytes} {k : Nat} {v : Value} {acc : List Px.Row} (h : RFoundRel w wr s k v acc) {b : Nat} (e : v.ownBlock = some b) : w.heap.size + 2 ≤ b := (h.own.lt b e).1
theorem RFoundRel.push {w w2 w3 : World} {s : Bytes} {k : Nat} {v v' : Value} {acc : List Px.Row} {r : Px.Row} {o : Obj} (h : RFoundRel w w2 s k v acc) (hk : k < 65) (hg : (w2.alloc o).grownBy w3 v.ownBlock) (ho : w3.ownsRow (w.heap.size + 2) 61 5 v' (acc.length + 1) (rowCells acc ++ rowCell r))
    (hs : Px.foundIn s (Px.table.drop (k + 1)) (acc ++ [r]) = Px.found s) : RFoundRel w w3 s (k + 1) v' (acc ++ [r]) := by
  have h2 := h.still ((Turns.refl Nothing w2).alloc o)
  refine ⟨hk, hs, h2.res.grown hg fun e => ?_, h2.tab.grown hg fun e => ?_, ?_, ?_, h2.turns.grown hg fun b hb e => ?_⟩
  · have := h.lt e.symm; omega
  · have := h.lt e.symm; omega
  · have e : rowCells (acc ++ [r]) = rowCells acc ++ rowCell r := by simp [rowCells]
    rw [List.length_append, e]
    exact ho
  · have := h.few
    rw [List.length_append, List.length_singleton]
    omega
  · have := h.lt e; omega
theorem rown_first {w : World} {B cp : Nat} {A : Option Addr} {r : Px.Row} (h : w.ownsRow B 61 5 (.slice A 1 cp) 1 (rowCells [r])) : ∃ g, A = some ⟨g, 0, none⟩ ∧ w.cell? ⟨g, 0, none⟩ = some (strV r.name) ∧ w.cell? ⟨g, 1, none⟩ = some (strV r.others) ∧ w.cell? ⟨g, 2, none⟩ = some (strV r.flags) ∧
    w.cell? ⟨g, 3, none⟩ = some (.int .i64 r.few) ∧ w.cell? ⟨g, 4, none⟩ = some (.int .i64 r.most) := by
  rcases h.2 with ⟨e, h0⟩ | ⟨g, cap, cur, e, hb, hg, _⟩
  · exact absurd h0 (by decide)
  · injection e with e1 e2 e3
    subst e1
    refine ⟨g, rfl, ?_, ?_, ?_, ?_, ?_⟩
    all_goals (rw [h.cellAt _ (by decide)]; rfl)
/-- words of the call's own, to be read -/
structure WordsR (w : World) (v : Value) (l : List Bytes) : Prop where
  at_ : ∃ A c, v = .slice A l.length c ∧ ∀ i, (h : i < l.length) → ∃ g, A = some ⟨g, 0, none⟩ ∧ g < w.heap.size ∧ w.cell? ⟨g, i, none⟩ = some (strV l[i])
theorem own_wordsR {w : World} {B : Nat} {v : Value} {l : List Bytes} (h : w.ownsRow B 9 1 v l.length (l.map strV)) : WordsR w v l := by
  rcases h.2 with ⟨rfl, h0⟩ | ⟨g, cap, cur, rfl, hb, hg, _⟩
  · exact ⟨none, 0, by rw [h0], fun i hi => by omega⟩
  · refine ⟨_, cap, rfl, fun i hi => ⟨g, rfl, (Array.getElem?_eq_some_iff.1 hg).1, ?_⟩⟩
    rw [h.cellAt _ (by omega)]
    simp [hi]
set_option maxHeartbeats 2000000 in
theorem rfind_in (w : World) (s : ByteArray) : Calls Tryz.prog 20 #[.string s] w fun e w' => e = .returned (.tuple #[rowV (rowOr (Px.found (sl s))), .bool (Px.found (sl s)).isSome]) ∧ Turns Nothing w w' := by
  obtain ⟨i0, hi0, hz0, hz1, hz2⟩ := info_parts A.info_rrow
  go_enter Tryz.func20, Tryz.ntmps20
  go_wp2_with fail
  refine (rows_in _).mono ?_
  rintro e w1 ⟨rfl, rfl⟩
  go_wp2_with fail
  go_loopw [6, 5] (fun i v wr => ∃ (k : Nat) (acc : List Px.Row), i = .int .i64 k ∧ RFoundRel w wr (sl s) k v acc) (fun i _ _ => 65 - (intOf i).toNat)
  case atStart => exact ⟨0, [], rfl, Nat.zero_le _, rfl, (Blk.new w _ _).alloc _, blk_new_at (by simp [go_sem]), World.ownsRow_nil _ _ _ _, Nat.le_refl _, ((Turns.refl _ w).alloc _).alloc _⟩
  case round =>
    obtain ⟨k, acc, rfl, hR⟩ := hrel
    obtain ⟨A0, cp0, rfl⟩ := own_slice hR.own
    have hk := hR.le
    have hz := hR.tab.lt
    have hz2' := hR.res.lt
    obtain ⟨r0, r1, r2, r3, r4, f0, f1, f2, f3, f4⟩ := rzero_cells hR.res
    by_cases hlt : k < 65
    · have hrow := rows_at hR.tab k hlt
      have hmem : Px.table[k] ∈ Px.table := List.getElem_mem _
      obtain ⟨-, c0, c1, c2, c3, c4⟩ := hrow
      simp only [strV] at c0 c1 c2
      have hst := Lib.hid (found_step (s := sl s) (k := k) (acc := acc) hlt)
      have HR := Lib.hid hR
      clear hR
      generalize Px.table[k] = r at c0 c1 c2 c3 c4 hst hmem
      have hol : (⟨r.others.toArray⟩ : ByteArray).size ≤ 1000 := by
        have h1 := List.all_eq_true.1 Px.others_short r hmem
        simp only [Bool.and_eq_true, decide_eq_true_eq] at h1
        show r.others.toArray.size ≤ 1000
        simp; omega
      have hbl := Px.blanks_is hmem
      have hal := List.all_eq_true.1 Px.alts_few r hmem
      simp only [decide_eq_true_eq] at hal
      have HWd := Lib.hid (fun W => (rwords_in W ⟨r.others.toArray⟩ hol).mono (R' := fun e w' => ∃ v, e = .returned v ∧ WordsR w' v (Px.alts r) ∧ Turns Nothing W w') fun e w' ⟨v, he, ho, ht⟩ => ⟨v, he, by
        have hq : Px.blanks (sl ⟨r.others.toArray⟩) = Px.alts r := hbl
        rw [hq] at ho
        exact own_wordsR ho, ht⟩)
      have hnm := Lib.hid (show sl ⟨r.name.toArray⟩ = r.name from rfl)
      have hrv := Lib.hid (show rowV r = .agg #[.string ⟨r.name.toArray⟩, .string ⟨r.others.toArray⟩, .string ⟨r.flags.toArray⟩, .int .i64 r.few, .int .i64 r.most] from rfl)
      have hrc := Lib.hid (show rowCell r = [.string ⟨r.name.toArray⟩, .string ⟨r.others.toArray⟩, .string ⟨r.flags.toArray⟩, .int .i64 r.few, .int .i64 r.most] from rfl)
      clear hmem hbl hol
      generalize (⟨r.name.toArray⟩ : ByteArray) = nm at c0 hnm hrv hrc
      generalize (⟨r.others.toArray⟩ : ByteArray) = oth at c1 hrv hrc HWd
      generalize (⟨r.flags.toArray⟩ : ByteArray) = fls at c2 hrv hrc
      by_cases he : nm = s
      · subst he
        go_wp2_with fail
        have S := set_five HR.out.res HR.out.turns (.string nm) (.string oth) (.string fls) (.int .i64 r.few) (.int .i64 r.most)
        refine bodyPost_ret (results_cell_tmp Tryz.results20 _ _ _ ⟨w.heap.size, 0, none⟩ _ rfl (rload_five _ _ _ _ _ _ _ S.1)) rfl ?_
        have hw : Px.found (sl nm) = some r := by rw [← HR.out.spec, hst.out, if_pos (.inl hnm.out.symm)]
        rw [hw]
        exact ⟨by rw [← hrv.out]; rfl, S.2⟩
      · have hb : (nm.toList == s.toList) = false := txt_ne fun e => he (txt_inj e)
        have he2 := Lib.hid he
        clear he
        go_wp2_with fail
        refine (HWd.out _).mono ?_
        rintro e w2 ⟨v2, rfl, hw2, ht2⟩
        obtain ⟨A2, cp2, rfl, hcell⟩ := hw2
        have R2 := HR.out.still ht2
        have hrow2 := (HR.out.turns.same ht2)
        have HC := Lib.hid (fun i hi => hcell i hi)
        have HT2 := Lib.hid ht2
        have HR2 := Lib.hid R2
        clear r0 r1 r2 r3 r4 f0 f1 f2 f3 f4 hcell hz hz2' hrow2
        have c0 := (ht2.cell (p := ⟨w.heap.size + 1, k * 5, none⟩) (by have := HR.out.tab.lt; exact this) id).trans c0
        have c1 := (ht2.cell (p := ⟨w.heap.size + 1, k * 5 + 1, none⟩) (by have := HR.out.tab.lt; exact this) id).trans c1
        have c2 := (ht2.cell (p := ⟨w.heap.size + 1, k * 5 + 2, none⟩) (by have := HR.out.tab.lt; exact this) id).trans c2
        have c3 := (ht2.cell (p := ⟨w.heap.size + 1, k * 5 + 3, none⟩) (by have := HR.out.tab.lt; exact this) id).trans c3
        have c4 := (ht2.cell (p := ⟨w.heap.size + 1, k * 5 + 4, none⟩) (by have := HR.out.tab.lt; exact this) id).trans c4
        obtain ⟨r0, r1, r2, r3, r4, f0, f1, f2, f3, f4⟩ := rzero_cells R2.res
        have hz := R2.tab.lt
        have hz2r := R2.res.lt
        clear R2 ht2
        have hal2 : ((Px.alts r).length : Int) ≤ 2 := by omega
        generalize hln : (Px.alts r).length = ln at hal2
        have HLn := Lib.hid hln
        clear hln hal
        go_wp2_with fail
        go_loopw [8] (fun i wx => ∃ q : Nat, i = .int .i64 q ∧ q ≤ ln ∧ w2 = wx ∧ Hid (∀ p (h : p < (Px.alts r).length), p < q → (Px.alts r)[p] ≠ sl s)) (fun i _ => ln - (intOf i).toNat)
        case atStart => exact ⟨0, rfl, Nat.zero_le _, rfl, Lib.hid fun p _ h => absurd h (Nat.not_lt_zero _)⟩
        case round =>
          obtain ⟨q, rfl, hq, rfl, HQ⟩ := hrel
          by_cases hql : q < ln
          · have hqa : q < (Px.alts r).length := by rw [HLn.out]; exact hql
            obtain ⟨g, rfl, hg, hcq⟩ := HC.out q hqa
            simp only [strV] at hcq
            have hax := Lib.hid (show sl ⟨(Px.alts r)[q].toArray⟩ = (Px.alts r)[q] from rfl)
            generalize (⟨(Px.alts r)[q].toArray⟩ : ByteArray) = ax at hcq hax
            by_cases hes : ax = s
            · subst hes
              go_wp2_with fail
              have S := set_five HR2.out.res HR2.out.turns (.string nm) (.string oth) (.string fls) (.int .i64 r.few) (.int .i64 r.most)
              refine bodyPost_ret (results_cell_tmp Tryz.results20 _ _ _ ⟨w.heap.size, 0, none⟩ _ rfl (rload_five _ _ _ _ _ _ _ S.1)) rfl ?_
              have hw : Px.found (sl ax) = some r := by rw [← HR2.out.spec, hst.out, if_pos (.inr (hax.out ▸ List.getElem_mem hqa))]
              rw [hw]
              exact ⟨by rw [← hrv.out]; rfl, S.2⟩
            · have hbs : (ax.toList == s.toList) = false := txt_ne fun e => hes (txt_inj e)
              have HE := Lib.hid hes
              clear hes
              go_wp2_with fail
              go_roundw
              case rel => exact ⟨q + 1, by go_num, by omega, trivial, Lib.hid fun p hp hpq => by
                rcases Nat.lt_or_ge p q with h | h
                · exact HQ.out p hp h
                · obtain rfl : p = q := by omega
                  exact fun e => HE.out (txt_inj (hax.out.trans e))⟩
              case measure => simp [intOf]; omega
          · have hno : ¬ sl s ∈ Px.alts r := by
              intro hm
              obtain ⟨p, hp, e⟩ := List.getElem_of_mem hm
              exact HQ.out p hp (by rw [HLn.out] at hp; omega) e
            have hno2 : ¬ (r.name = sl s ∨ sl s ∈ Px.alts r) := by
              rw [← hnm.out]
              rintro (e | e)
              · exact he2.out (txt_inj e)
              · exact hno e
            have HNo := Lib.hid hno2
            clear hno hno2
            by_cases hpre : sl s ≠ [] ∧ (sl s).isPrefixOf (sl nm) = true
            · have hp2 := (prefix_iff s nm).1 hpre.2
              have hse : s.toList.isEmpty = false := by rw [txt_list, List.isEmpty_eq_false_iff]; exact hpre.1
              have hle : (s.size : Int) ≤ (nm.size : Int) := by have := hp2.1; omega
              have hle2 : s.size ≤ nm.size := hp2.1
              have heq : ((nm.extract 0 s.size).toList == s.toList) = true := by rw [beq_iff_eq, txt_list, txt_list]; exact hp2.2
              have hsp := HR2.out.spec
              rw [hst.out, if_neg HNo.out, if_pos (by rw [← hnm.out]; exact hpre)] at hsp
              have HSP := Lib.hid hsp
              have hO := ((Turns.refl Nothing w2).alloc (.cells #[.string nm, .string oth, .string fls, .int .i64 r.few, .int .i64 r.most] 61)).own HR2.out.own fun _ _ => id
              have hSc := psrc_block (size := 5) Tryz.underlying110 (Blk.new w2 61 #[.string nm, .string oth, .string fls, .int .i64 r.few, .int .i64 r.most]) 1 1 rfl (by simp [Value.oneCell'])
              have hn := HR2.out.few
              have hm : acc.length + 1 ≤ maxLen := by simp only [maxLen]; omega
              have hy : ((acc.length + 1) + (acc.length + 1 + 768) / 4 + 512) * 64 ≤ 281474976710656 := by omega
              have hb2 : w.heap.size + 2 ≤ (w2.alloc (.cells #[.string nm, .string oth, .string fls, .int .i64 r.few, .int .i64 r.most] 61)).heap.size := by simp [go_sem]; omega
              have HO := Lib.hid (And.intro hO (And.intro hSc (And.intro hb2 (And.intro hm hy))))
              clear hO hSc hb2 hm hy hn hp2 hpre hsp hle2
              go_wp2_with (first
                | (at_builtin
                   refine wpList_append_src _ rfl (.tmp 74) (.tmp 79) _ _ rfl (w.heap.size + 2) 61 i0 _ 5 64 Tryz.underlying110 hi0 hz0 hz1 hz2 rfl (.slice A0 acc.length cp0) acc.length (rowCells acc) rfl HO.out.1 _ 1 _ rfl HO.out.2.1 HO.out.2.2.2.1 HO.out.2.2.2.2 HO.out.2.2.1 ?_
                   intro A1 cp1 w3 ho hg hat
                   have HN := Lib.hid (And.intro hg ho)
                   clear ho hg hat))
              go_roundw
              case rel =>
                refine ⟨k + 1, acc ++ [r], by go_num, ?_⟩
                exact HR2.out.push (by omega) HN.out.1 (by rw [hrc.out]; exact HN.out.2) HSP.out
              case measure => simp [intOf]; omega
            · have hsp := HR2.out.spec
              rw [hst.out, if_neg HNo.out, if_neg (by rw [← hnm.out]; exact hpre)] at hsp
              have hnx : RFoundRel w w2 (sl s) (k + 1) (.slice A0 acc.length cp0) acc := ⟨by omega, hsp, HR2.out.res, HR2.out.tab, HR2.out.own, Nat.le_succ_of_le HR2.out.few, HR2.out.turns⟩
              have HNX := Lib.hid hnx
              have HP := Lib.hid hpre
              clear hsp hnx hpre
              by_cases hs0 : s.toList.isEmpty = true
              · go_wp2_with fail
                go_roundw
                case rel => exact ⟨k + 1, acc, by go_num, HNX.out⟩
                case measure => simp [intOf]; omega
              · have hse : s.toList.isEmpty = false := by simpa using hs0
                by_cases hle : s.size ≤ nm.size
                · have hle1 : (s.size : Int) ≤ (nm.size : Int) := by omega
                  have heq : ((nm.extract 0 s.size).toList == s.toList) = false := by
                    rw [beq_eq_false_iff_ne, txt_list, txt_list]
                    intro e
                    refine HP.out ⟨?_, (prefix_iff s nm).2 ⟨hle, e⟩⟩
                    intro e2
                    rw [txt_list, e2] at hse
                    cases hse
                  go_wp2_with fail
                  go_roundw
                  case rel => exact ⟨k + 1, acc, by go_num, HNX.out⟩
                  case measure => simp [intOf]; omega
                · have hle1 : ¬ (s.size : Int) ≤ (nm.size : Int) := by omega
                  go_wp2_with fail
                  go_roundw
                  case rel => exact ⟨k + 1, acc, by go_num, HNX.out⟩
                  case measure => simp [intOf]; omega
    · have hsp := hR.spec
      rw [List.drop_eq_nil_of_le (show Px.table.length ≤ k by rw [show Px.table.length = 65 from rfl]; omega)] at hsp
      have HR := Lib.hid hR
      have SPP := Lib.hid hsp
      have hown1 := hR.own
      clear hR hsp
      by_cases hn : acc.length = 1
      · match acc, hn with
        | [r], _ =>
          obtain ⟨g, rfl, c0, c1, c2, c3, c4⟩ := rown_first HR.out.own
          simp only [strV] at c0 c1 c2 c3 c4
          simp only [List.length_singleton]
          clear hown1
          go_wp2_with fail
          have S := set_five HR.out.res HR.out.turns (.string ⟨r.name.toArray⟩) (.string ⟨r.others.toArray⟩) (.string ⟨r.flags.toArray⟩) (.int .i64 r.few) (.int .i64 r.most)
          refine bodyPost_ret (results_cell_tmp Tryz.results20 _ _ _ ⟨w.heap.size, 0, none⟩ _ rfl (rload_five _ _ _ _ _ _ _ S.1)) rfl ?_
          rw [← SPP.out]
          exact ⟨rfl, S.2⟩
      · have hne : ((acc.length : Int) == 1) = false := by simpa using fun e => hn (by omega)
        have hne2 : ((acc.length : Int) != 1) = true := by simpa using fun e => hn (by omega)
        have hfd : Px.foundIn (sl s) [] acc = none := by
          match acc, hn with
          | [], _ => rfl
          | [_], h => exact absurd rfl h
          | _ :: _ :: _, _ => rfl
        have HN := Lib.hid hfd
        clear hn hfd hown1
        go_wp2_with fail
        have S := set_five HR.out.res HR.out.turns (.string ⟨#[]⟩) (.string ⟨#[]⟩) (.string ⟨#[]⟩) (.int .i64 0) (.int .i64 0)
        refine bodyPost_ret (results_cell_tmp Tryz.results20 _ _ _ ⟨w.heap.size, 0, none⟩ _ rfl (rload_five _ _ _ _ _ _ _ S.1)) rfl ?_
        rw [← SPP.out, HN.out]
        exact ⟨rfl, S.2⟩
end Go.Proofs.YtedlhdegdlabhaaGreatDoor
