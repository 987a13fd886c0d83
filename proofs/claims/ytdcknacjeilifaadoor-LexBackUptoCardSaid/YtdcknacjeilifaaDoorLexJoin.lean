/- The walks of Join, the program's and the document's: both give the words' quotes with a space between. -/
import Derived.Test.YtdcknacjeilifaaDoorLexRefQuote
import Derived.Test.YtdcknacjeilifaaDoorShelf
namespace Go.Proofs.YtdcknacjeilifaaDoor
open Go.RowKit
open Lx (Bytes)

namespace Lx
def jn (l : List Bytes) : Bytes := Lib.join (l.map wquote) [32]
def cost (l : List Bytes) : Nat := (l.map fun s => 2 * s.length + 3).sum
theorem wquote_length (s : Bytes) : (wquote s).length ≤ 2 * s.length + 2 := by
  unfold wquote
  have := wesc_length s
  split
  · omega
  · split <;> simp only [List.length_append, List.length_cons, List.length_nil] <;> omega
theorem joinTail_snoc (r : List Bytes) (x : Bytes) : Lib.joinTail [32] (r ++ [x]) = Lib.joinTail [32] r ++ (32 :: x) := by
  simp [Lib.joinTail]
theorem jn_nil : jn [] = [] := rfl
theorem jn_one (x : Bytes) : jn [x] = wquote x := Lib.join_one _ _
theorem jn_snoc (l : List Bytes) (x : Bytes) (h : l ≠ []) : jn (l ++ [x]) = jn l ++ (32 :: wquote x) := by
  cases l with
  | nil => exact absurd rfl h
  | cons y l =>
    rw [jn, jn, List.cons_append, List.map_cons, List.map_cons, Lib.join_cons, Lib.join_cons, List.map_append, List.map_singleton, joinTail_snoc, List.append_assoc]
theorem joinTail_cost (r : List Bytes) : (Lib.joinTail [32] (r.map wquote)).length ≤ cost r := by
  induction r with
  | nil => simp [Lib.joinTail]
  | cons x r ih =>
    have := wquote_length x
    simp only [Lib.joinTail, cost, List.map_cons, List.flatten_cons, List.length_append, List.sum_cons, List.length_cons, List.singleton_append] at ih ⊢
    omega
theorem jn_cost (l : List Bytes) : (jn l).length ≤ cost l := by
  cases l with
  | nil => simp [jn_nil]
  | cons x r =>
    have h1 := joinTail_cost r
    have h2 := wquote_length x
    rw [jn, List.map_cons, Lib.join_cons, List.length_append]
    simp only [cost, List.map_cons, List.sum_cons] at h1 ⊢
    omega
theorem cost_append (a b : List Bytes) : cost (a ++ b) = cost a + cost b := by simp [cost]
theorem cost_take (l : List Bytes) (n : Nat) : cost (l.take n) ≤ cost l := by
  have h := cost_append (l.take n) (l.drop n)
  rw [List.take_append_drop] at h
  omega
theorem cost_mem {l : List Bytes} {s : Bytes} (h : s ∈ l) : 2 * s.length + 3 ≤ cost l := by
  induction l with
  | nil => cases h
  | cons x r ih =>
    simp only [cost, List.map_cons, List.sum_cons]
    rcases List.mem_cons.1 h with rfl | h
    · omega
    · have := ih h
      simp only [cost] at this
      omega
theorem cost_len (l : List Bytes) : 3 * l.length ≤ cost l := by
  induction l with
  | nil => simp [cost]
  | cons x r ih =>
    simp only [cost, List.map_cons, List.sum_cons, List.length_cons] at ih ⊢
    omega
theorem jn_succ (l : List Bytes) {n : Nat} (h : n < l.length) : jn (l.take (n + 1)) = if n = 0 then wquote l[n] else jn (l.take n) ++ (32 :: wquote l[n]) := by
  rw [List.take_succ_eq_append_getElem h]
  by_cases h0 : n = 0
  · rw [if_pos h0]; subst h0; exact jn_one _
  · rw [if_neg h0, jn_snoc]
    intro e
    have h1 : (l.take n).length = n := by rw [List.length_take]; omega
    rw [e] at h1
    exact h0 h1.symm
end Lx

/-- a row of strings below block B -/
structure StrsAt (w : World) (B : Nat) (v : Value) (ls : List ByteArray) : Prop where
  at_ : ∃ A c, v = .slice A ls.length c ∧ (0 < ls.length → ∃ b off, A = some ⟨b, off, none⟩ ∧ b < B ∧ ∀ i, (h : i < ls.length) → w.cell? ⟨b, off + i, none⟩ = some (.string ls[i]))
  small : Lx.cost (ls.map sl) ≤ 3200000
theorem StrsAt.len {w : World} {B : Nat} {v : Value} {ls : List ByteArray} (h : StrsAt w B v ls) : ls.length ≤ 1600000 := by
  have h1 := Lx.cost_len (ls.map sl)
  have h2 := h.small
  rw [List.length_map] at h1
  omega
theorem StrsAt.each {w : World} {B : Nat} {v : Value} {ls : List ByteArray} (h : StrsAt w B v ls) (n : Nat) (hn : n < ls.length) : ls[n].size ≤ 1600000 := by
  have h1 := Lx.cost_mem (List.mem_map.2 ⟨ls[n], List.getElem_mem hn, rfl⟩ : sl ls[n] ∈ ls.map sl)
  have h2 := h.small
  rw [sl_size] at h1
  have h3 := Lx.cost_len (ls.map sl)
  rw [List.length_map] at h3
  omega

theorem BRel.next0 {w wr w1 : World} {L : Bytes} {v v' : Value} {n : Nat} {xs : List Value} (h : BRel w L v wr) (u : Bytes) (hg : wr.grownBy w1 v.ownBlock) (hn : n = L.length + u.length) (hx : xs = u8s L ++ u8s u) (ho : w1.ownsRow w.heap.size 5 1 v' n xs) : BRel w (L ++ u) v' w1 := by
  subst hn hx
  refine ⟨by rw [List.length_append, u8s_append]; exact ho, h.turns.grown hg fun b hb e => ?_⟩
  have := h.own.lt b e
  omega
theorem BRel.still {w wr w1 : World} {L : Bytes} {v : Value} (h : BRel w L v wr) (ht : Turns Nothing wr w1) : BRel w L v w1 :=
  ⟨ht.own h.own fun _ _ => id, h.turns.same ht⟩

set_option maxHeartbeats 4000000 in
set_option maxRecDepth 4000 in
theorem refJoin_any {w : World} {v : Value} {ls : List ByteArray} (h : StrsAt w w.heap.size v ls) :
    Calls Tryd.prog 13 #[v] w fun e w' => e = .returned (.string ⟨(Lx.jn (ls.map sl)).toArray⟩) ∧ Turns Nothing w w' := by
  have hlen : (ls.length : Int) ≤ 1600000 := by have := h.len; omega
  have HE := Lib.hid h.each
  obtain ⟨⟨A9, c, rfl, hc⟩, hsm⟩ := h
  have HC := Lib.hid hc
  have HS := Lib.hid hsm
  clear hc hsm
  go_enter Tryd.func13, Tryd.ntmps13
  go_wp2_with fail
  go_loopw [4, 3] (fun i v wr => ∃ n : Nat, i = .int .i64 n ∧ n ≤ ls.length ∧ BRel w (Lx.jn ((ls.map sl).take n)) v wr) (fun i _ _ => ls.length - (intOf i).toNat)
  case atStart => exact ⟨0, rfl, Nat.zero_le _, ⟨World.ownsRow_nil _ _ _ _, Turns.refl _ _⟩⟩
  case round =>
    obtain ⟨n, rfl, hn, hrel⟩ := hrel
    obtain ⟨A0, c0, rfl⟩ := hrel.slice
    have hjl : (Lx.jn ((ls.map sl).take n)).length ≤ 3200000 := Nat.le_trans (Lx.jn_cost _) (Nat.le_trans (Lx.cost_take _ _) HS.out)
    have HR := Lib.hid hrel
    clear hrel
    obtain ⟨i0, hi0, hz0, hz1, hz2⟩ := info_parts A.info_u8
    by_cases hlt : n < ls.length
    · obtain ⟨b, off, rfl, hb, hcell⟩ := HC.out (by omega)
      have x1 := (HR.out.turns.cell (p := ⟨b, off + n, none⟩) hb id).trans (hcell n hlt)
      have hb2 : b < wr.heap.size := Nat.lt_of_lt_of_le hb HR.out.turns.size
      have hsz := HE.out n hlt
      have hjn := Lib.hid (Lx.jn_succ (ls.map sl) (n := n) (by rw [List.length_map]; exact hlt))
      have HB := Lib.hid (And.intro hb hcell)
      clear hcell hb
      by_cases h0 : n = 0
      · subst h0
        rw [Nat.add_zero] at x1
        go_wp2_with fail
        refine (refQuote_any _ hsz).mono ?_
        rintro e w2 ⟨u, rfl, hu, ht⟩
        have HR2 := Lib.hid (HR.out.still ht)
        have hul : u.size ≤ 3200002 := by rw [← sl_size, hu]; have := Lx.wquote_length (sl ls[0]); rw [sl_size] at this; omega
        have HU := Lib.hid hu
        clear hu ht x1
        go_wp2_with (first
          | (at_builtin
             refine wpList_append_src _ rfl (.tmp 16) (.tmp 21) _ _ rfl _ 5 i0 _ 1 1 Tryd.underlying46 hi0 hz0 hz1 hz2 rfl _ _ _ rfl HR2.out.own (.string u) _ _ rfl (Src.ofString _ Tryd.underlying9 u) (by simp only [maxLen]; omega) (by omega) HR2.out.turns.size ?_
             intro A1 cp1 w3 ho hg hat
             have HN2 := Lib.hid (BRel.next0 HR2.out (sl u) hg (by rw [sl_size]) rfl ho)
             clear ho hg hat))
        go_roundw
        case rel =>
          refine ⟨1, by go_num, hlt, ?_⟩
          have h := HN2.out
          rw [HU.out] at h
          rw [hjn.out]
          simpa [Lx.jn_nil] using h
        case measure => simp [intOf]; omega
      · have hpos : 0 < n := by omega
        go_wp2_with (first
          | (at_builtin
             refine wpList_append_src _ rfl (.tmp 13) (.tmp 14) _ _ rfl _ 5 i0 _ 1 1 Tryd.underlying46 hi0 hz0 hz1 hz2 rfl _ _ _ rfl (HR.out.own.alloc _) _ 1 [.int .u8 32] rfl (src_byte _ _) (by simp only [maxLen]; omega) (by omega) (Nat.le_trans HR.out.turns.size (by simp)) ?_
             intro A1 cp1 w1 ho hg hat
             have hN := BRel.next _ HR.out [32] hg rfl rfl ho
             have HN1 := Lib.hid hN
             have x1 := (hN.turns.cell (p := ⟨b, off + n, none⟩) HB.out.1 id).trans (HB.out.2 n hlt)
             have hb3 : b < w1.heap.size := Nat.lt_of_lt_of_le HB.out.1 hN.turns.size
             clear ho hg hat hN))
        refine (refQuote_any _ hsz).mono ?_
        rintro e w2 ⟨u, rfl, hu, ht⟩
        have HR2 := Lib.hid (HN1.out.still ht)
        have hul : u.size ≤ 3200002 := by rw [← sl_size, hu]; have := Lx.wquote_length (sl ls[n]); rw [sl_size] at this; omega
        have HU := Lib.hid hu
        have hjl2 : (Lx.jn ((ls.map sl).take n) ++ [32]).length ≤ 3200001 := by rw [List.length_append, List.length_singleton]; omega
        clear hu ht x1
        go_wp2_with (first
          | (at_builtin
             refine wpList_append_src _ rfl (.tmp 16) (.tmp 21) _ _ rfl _ 5 i0 _ 1 1 Tryd.underlying46 hi0 hz0 hz1 hz2 rfl _ _ _ rfl HR2.out.own (.string u) _ _ rfl (Src.ofString _ Tryd.underlying9 u) (by simp only [maxLen]; omega) (by omega) HR2.out.turns.size ?_
             intro A1 cp1 w3 ho hg hat
             have HN2 := Lib.hid (BRel.next0 HR2.out (sl u) hg (by rw [sl_size]) rfl ho)
             clear ho hg hat))
        go_roundw
        case rel =>
          refine ⟨n + 1, by go_num, hlt, ?_⟩
          have h := HN2.out
          rw [HU.out] at h
          rw [hjn.out, if_neg h0]
          simpa using h
        case measure => simp [intOf]; omega
    · obtain rfl : n = ls.length := by omega
      have hcv := conv_own HR.out.own
      have hall := Lib.hid (show (ls.map sl).take ls.length = ls.map sl by rw [List.take_of_length_le (by rw [List.length_map]; exact Nat.le_refl _)])
      go_wp2_with fail
      go_ret
      exact ⟨congrArg (fun z => Ending.returned (.string ⟨(Lx.jn z).toArray⟩)) hall.out, HR.out.turns⟩
end Go.Proofs.YtdcknacjeilifaaDoor
