/- The walks of Names: the program's and the document's. -/
import Derived.Test.YtfpghijlffpheaaGreatDoorRefFind
import Derived.Test.YtfpghijlffpheaaGreatDoorParseTable
import Derived.Test.YtfpghijlffpheaaGreatDoorShelf
import Derived.Sort.OwnSorted
namespace Go.Proofs.YtfpghijlffpheaaGreatDoor
set_option maxRecDepth 8000
open Go.RowKit Go.Sort
open Lx (Bytes)

theorem names_take (k : Nat) (h : k < 65) : Px.names.take (k + 1) = Px.names.take k ++ [Px.table[k].name] := by
  rw [List.take_succ_eq_append_getElem (by rw [Px.names_len]; exact h)]
  congr 2
  exact List.getElem_map _
theorem names_all : Px.names.take 65 = Px.names := rfl
theorem names_merge : Px.names.mergeSort (fun x y => decide (x ≤ y)) = Px.names :=
  List.mergeSort_of_pairwise (by decide +kernel)
theorem own_weak2 {w : World} {B B' : Nat} {e : TypeId} {size n : Nat} {v : Value} {xs : List Value} (h : w.ownsRow B e size v n xs) (hB : B' ≤ B) : w.ownsRow B' e size v n xs := by
  refine ⟨h.1, h.2.imp id ?_⟩
  rintro ⟨g, cap, cur, e1, hb, rest⟩
  exact ⟨g, cap, cur, e1, Nat.le_trans hB hb, rest⟩
/-- the names met so far -/
structure NmRel (w wr : World) (T : TypeId) (t k : Nat) (v : Value) : Prop where
  le : k ≤ 65
  tab : Blk wr t T (rowCells Px.table).toArray
  own : wr.ownsRow (t + 1) 9 1 v k ((Px.names.take k).map strV)
  turns : Turns Nothing w wr
  low : w.heap.size ≤ t
theorem NmRel.drew {w wr : World} {T : TypeId} {t k : Nat} {v : Value} (h : NmRel w wr T t k v) (n : Nat) : NmRel w (wr.drewN n) T t k v :=
  ⟨h.le, h.tab.drewN n, ((Turns.refl Nothing wr).drewN n).own h.own fun _ _ => id, h.turns.drewN n, h.low⟩
theorem NmRel.push {w wr w2 w3 : World} {T : TypeId} {t k : Nat} {v v' : Value} {nm : ByteArray} (h : NmRel w wr T t k v) (hk : k < 65) (hnm : nm = ⟨Px.table[k].name.toArray⟩) (h2 : Turns Nothing wr w2) (hg : w2.grownBy w3 v.ownBlock)
    (ho : w3.ownsRow (t + 1) 9 1 v' (k + 1) ((Px.names.take k).map strV ++ [.string nm])) : NmRel w w3 T t (k + 1) v' := by
  refine ⟨hk, (h2.blk h.tab id).grown hg fun e => ?_, ?_, (h.turns.same h2).grown hg fun b hb e => ?_, h.low⟩
  · have := (h.own.lt _ e.symm).1; omega
  · rw [names_take k hk, List.map_append, List.map_singleton, strV, ← hnm]
    exact ho
  · have := (h.own.lt b e).1; have := h.low; omega
set_option maxHeartbeats 1000000 in
theorem names_in (w : World) : Calls Tryz.prog 9 #[] w fun e w' => ∃ A cp, e = .returned (.slice A 65 cp) ∧ w'.ownsRow w.heap.size 9 1 (.slice A 65 cp) 65 (Px.names.map strV) ∧ Turns Nothing w w' := by
  obtain ⟨i0, hi0, hz0, hz1, hz2⟩ := info_parts A.info_rstr
  go_enter Tryz.func9, Tryz.ntmps9
  go_wp2_with fail
  refine (table_in _).mono ?_
  rintro e w1 ⟨rfl, rfl⟩
  go_wp2_with fail
  go_loopw [6, 1] (fun i v wr => ∃ k : Nat, i = .int .i64 k ∧ NmRel w wr 53 w.heap.size k v) (fun i _ _ => 65 - (intOf i).toNat)
  case atStart => exact ⟨0, rfl, Nat.zero_le _, Blk.new _ _ _, World.ownsRow_nil _ _ _ _, (Turns.refl _ w).alloc _, Nat.le_refl _⟩
  case round =>
    obtain ⟨k, rfl, hR⟩ := hrel
    obtain ⟨A0, cp0, rfl⟩ := own_slice hR.own
    have hk := hR.le
    have hz := hR.tab.lt
    by_cases hlt : k < 65
    · obtain ⟨-, c0, c1, c2, c3, c4⟩ := rows_at hR.tab k hlt
      simp only [strV] at c0 c1 c2
      have HR := Lib.hid hR
      clear hR
      have HE := Lib.hid (fun (nm : ByteArray) (h : nm = ⟨Px.table[k].name.toArray⟩) => h)
      obtain ⟨nm, hnm⟩ : ∃ nm : ByteArray, nm = ⟨Px.table[k].name.toArray⟩ := ⟨_, rfl⟩
      rw [← hnm] at c0
      have HNm := Lib.hid hnm
      clear hnm HE
      generalize (⟨Px.table[k].others.toArray⟩ : ByteArray) = oth at c1
      generalize (⟨Px.table[k].flags.toArray⟩ : ByteArray) = fls at c2
      generalize Px.table[k].few = fe at c3
      generalize Px.table[k].most = mo at c4
      have hO := (((Turns.refl Nothing wr).alloc (.cells #[.string nm, .string oth, .string fls, .int .i64 fe, .int .i64 mo] 53)).alloc (.cells #[.string nm] 9)).own HR.out.own fun _ _ => id
      have hSc := psrc_block (size := 1) Tryz.underlying32 (blk_new_at (w := wr.alloc (.cells #[.string nm, .string oth, .string fls, .int .i64 fe, .int .i64 mo] 53)) (g := wr.heap.size + 1) (t := 9) (cs := #[.string nm]) (by simp [go_sem])) 1 1 rfl (by simp [Value.oneCell'])
      have hm : k + 1 ≤ maxLen := by simp only [maxLen]; omega
      have hy : ((k + 1) + (k + 1 + 768) / 4 + 512) * 16 ≤ 281474976710656 := by omega
      have hb2 : w.heap.size + 1 ≤ ((wr.alloc (.cells #[.string nm, .string oth, .string fls, .int .i64 fe, .int .i64 mo] 53)).alloc (.cells #[.string nm] 9)).heap.size := by simp [go_sem]; omega
      have HO := Lib.hid (And.intro hO (And.intro hSc (And.intro hb2 (And.intro hm hy))))
      clear hO hSc hb2 hm hy
      go_wp2_with (first
        | (at_builtin
           refine wpList_append_src _ rfl (.tmp 10) (.tmp 13) _ _ rfl (w.heap.size + 1) 9 i0 _ 1 16 Tryz.underlying32 hi0 hz0 hz1 hz2 rfl (.slice A0 k cp0) k _ rfl HO.out.1 _ 1 _ rfl HO.out.2.1 HO.out.2.2.2.1 HO.out.2.2.2.2 HO.out.2.2.1 ?_
           intro A1 cp1 w3 ho hg hat
           have HN := Lib.hid (And.intro hg ho)
           clear ho hg hat))
      go_roundw
      case rel => exact ⟨k + 1, by go_num, HR.out.push hlt HNm.out (((Turns.refl Nothing wr).alloc _).alloc _) HN.out.1 HN.out.2⟩
      case measure => simp [intOf]; omega
    · obtain rfl : k = 65 := by omega
      have HR := Lib.hid hR
      have ho := hR.own
      rw [names_all] at ho
      rcases ho.2 with ⟨_, h0⟩ | ⟨g, cap, cur, e, hbase, hb, h1, h2, h3, h4⟩
      · exact absurd h0 (by decide)
      · injection e with e1 e2 e3
        subst e1 e3
        have hH : Holds encStr wr g 0 Px.names.toArray := holds_of_block hb (by rw [Px.names_len]; exact h4)
        have hc := Tryz.slices_Sort_string g 0 cp0 Px.names wr hH (Array.getElem?_eq_some_iff.1 hb).1 (by rw [Px.names_len]; decide)
        rw [names_merge, Px.names_len] at hc
        have HC := Lib.hid hc
        have HB := Lib.hid (And.intro hb (And.intro h1 (And.intro h2 h3)))
        clear hR ho hc hH hb h1 h2 h3 h4
        go_wp2_with fail
        refine HC.out.mono ?_
        rintro e w' ⟨rfl, n, os, rfl⟩
        go_wp2_with fail
        go_ret
        refine ⟨_, _, rfl, ?_, ?_⟩
        · have := ownsRow_sorted (os := os) (n := n) (ss := Px.names) (ts := Px.names) rfl hbase HB.out.1 (by rw [Px.names_len]; exact HB.out.2.1) HB.out.2.2.1 HB.out.2.2.2
          rw [Px.names_len] at this
          exact own_weak2 this (Nat.le_succ _)
        · exact HR.out.turns.grown (grownBy_sorted _) fun b hb e => by injection e with e; omega
theorem names_less : (List.range 64).all (fun q => !Op.bytesLess ((Px.table[q + 1]?.map (·.name)).getD []) ((Px.table[q]?.map (·.name)).getD [])) = true := by decide +kernel
theorem less_at {q : Nat} (h : q + 1 < 65) : Op.bytesLess (Px.table[q + 1]'(by rw [Px.table_len]; omega)).name (Px.table[q]'(by rw [Px.table_len]; omega)).name = false := by
  have := List.all_eq_true.1 names_less q (List.mem_range.2 (by omega))
  rw [List.getElem?_eq_getElem (by rw [Px.table_len]; omega), List.getElem?_eq_getElem (by rw [Px.table_len]; omega)] at this
  simpa using this
theorem NmRel.two {w wr : World} {T : TypeId} {t q cp : Nat} {A : Option Addr} (h : NmRel w wr T t (q + 2) (.slice A (q + 2) cp)) (hq : q + 1 < 65) : ∃ g, A = some ⟨g, 0, none⟩ ∧ g < wr.heap.size ∧
    wr.cell? ⟨g, q + 1, none⟩ = some (strV (Px.table[q + 1]'(by rw [Px.table_len]; omega)).name) ∧ wr.cell? ⟨g, q, none⟩ = some (strV (Px.table[q]'(by rw [Px.table_len]; omega)).name) := by
  have ho := h.own
  rcases ho.2 with ⟨_, h0⟩ | ⟨g, cap, cur, e, hb, hg, _⟩
  · exact absurd h0 (by omega)
  · injection e with e1
    subst e1
    have hn : ∀ i (hi : i < 65), i < q + 2 → ((Px.names.take (q + 2)).map strV)[i]? = some (strV (Px.table[i]'(by rw [Px.table_len]; exact hi)).name) := by
      intro i hi hi2
      rw [List.getElem?_map, List.getElem?_take_of_lt hi2]
      have : Px.names[i]? = some (Px.table[i]'(by rw [Px.table_len]; exact hi)).name := by
        rw [Px.names, List.getElem?_map, List.getElem?_eq_getElem (by rw [Px.table_len]; exact hi)]
        rfl
      rw [this]
      rfl
    refine ⟨g, rfl, (Array.getElem?_eq_some_iff.1 hg).1, ?_, ?_⟩
    · rw [ho.cellAt _ (by omega)]; exact hn (q + 1) hq (by omega)
    · rw [ho.cellAt _ (by omega)]; exact hn q (by omega) (by omega)
set_option maxHeartbeats 1000000 in
theorem rnames_in (w : World) : Calls Tryz.prog 10 #[] w fun e w' => ∃ A cp, e = .returned (.slice A 65 cp) ∧ w'.ownsRow w.heap.size 9 1 (.slice A 65 cp) 65 (Px.names.map strV) ∧ Turns Nothing w w' := by
  obtain ⟨i0, hi0, hz0, hz1, hz2⟩ := info_parts A.info_rstr
  go_enter Tryz.func10, Tryz.ntmps10
  go_wp2_with fail
  refine (rows_in _).mono ?_
  rintro e w1 ⟨rfl, rfl⟩
  go_wp2_with fail
  go_loopw [3, 1] (fun i v wr => ∃ k : Nat, i = .int .i64 k ∧ NmRel w wr 27 w.heap.size k v) (fun i _ _ => 65 - (intOf i).toNat)
  case atStart => exact ⟨0, rfl, Nat.zero_le _, Blk.new _ _ _, World.ownsRow_nil _ _ _ _, (Turns.refl _ w).alloc _, Nat.le_refl _⟩
  case round =>
    obtain ⟨k, rfl, hR⟩ := hrel
    obtain ⟨A0, cp0, rfl⟩ := own_slice hR.own
    have hk := hR.le
    have hz := hR.tab.lt
    by_cases hlt : k < 65
    · obtain ⟨-, c0, c1, c2, c3, c4⟩ := rows_at hR.tab k hlt
      simp only [strV] at c0 c1 c2
      have HR := Lib.hid hR
      clear hR c1 c2 c3 c4
      obtain ⟨nm, hnm⟩ : ∃ nm : ByteArray, nm = ⟨Px.table[k].name.toArray⟩ := ⟨_, rfl⟩
      rw [← hnm] at c0
      have HNm := Lib.hid hnm
      clear hnm
      have hO := (((Turns.refl Nothing wr).alloc (.cells #[.string nm] 9))).own HR.out.own fun _ _ => id
      have hSc := psrc_block (size := 1) Tryz.underlying32 (Blk.new wr 9 #[.string nm]) 1 1 rfl (by simp [Value.oneCell'])
      have hm : k + 1 ≤ maxLen := by simp only [maxLen]; omega
      have hy : ((k + 1) + (k + 1 + 768) / 4 + 512) * 16 ≤ 281474976710656 := by omega
      have hb2 : w.heap.size + 1 ≤ (wr.alloc (.cells #[.string nm] 9)).heap.size := by simp [go_sem]; omega
      have HO := Lib.hid (And.intro hO (And.intro hSc (And.intro hb2 (And.intro hm hy))))
      clear hO hSc hb2 hm hy
      go_wp2_with (first
        | (at_builtin
           refine wpList_append_src _ rfl (.tmp 13) (.tmp 19) _ _ rfl (w.heap.size + 1) 9 i0 _ 1 16 Tryz.underlying32 hi0 hz0 hz1 hz2 rfl (.slice A0 k cp0) k _ rfl HO.out.1 _ 1 _ rfl HO.out.2.1 HO.out.2.2.2.1 HO.out.2.2.2.2 HO.out.2.2.1 ?_
           intro A1 cp1 w3 ho hg hat
           have HN := Lib.hid (HR.out.push hlt HNm.out ((Turns.refl Nothing wr).alloc _) hg ho)
           clear ho hg hat))
      refine wp_loop_rounds 1 ?_
      rw [rounds_succ]
      rcases k with _ | q
      · go_wp2_with fail
        go_quiet (fail)
        go_wp2_with fail
        go_roundw
        case rel => exact ⟨1, by go_num, HN.out.drew _⟩
        case measure => simp [intOf]
      · obtain ⟨g, rfl, hgl, n0, n1⟩ := HN.out.two hlt
        simp only [strV] at n0 n1
        have hq0 : (0 : Int) < ((q + 1 : Nat) : Int) := by omega
        have hle : Op.bytesLess (⟨(Px.table[q + 1]'(by rw [Px.table_len]; omega)).name.toArray⟩ : ByteArray).toList (⟨(Px.table[q]'(by rw [Px.table_len]; omega)).name.toArray⟩ : ByteArray).toList = false := by
          rw [txt_list, txt_list]
          exact less_at hlt
        generalize (⟨(Px.table[q + 1]'(by rw [Px.table_len]; omega)).name.toArray⟩ : ByteArray) = x1 at n0 hle
        generalize (⟨(Px.table[q]'(by rw [Px.table_len]; omega)).name.toArray⟩ : ByteArray) = x0 at n1 hle
        go_wp2_with fail
        go_quiet (fail)
        go_wp2_with fail
        go_roundw
        case rel => exact ⟨q + 1 + 1, by go_num, HN.out.drew _⟩
        case measure => simp [intOf]; omega
    · obtain rfl : k = 65 := by omega
      have HR := Lib.hid hR
      have ho := hR.own
      rw [names_all] at ho
      have HO := Lib.hid (own_weak2 ho (show w.heap.size ≤ w.heap.size + 1 from Nat.le_succ _))
      clear hR ho
      go_wp2_with fail
      go_ret
      exact ⟨_, _, rfl, HO.out, HR.out.turns⟩
end Go.Proofs.YtfpghijlffpheaaGreatDoor
