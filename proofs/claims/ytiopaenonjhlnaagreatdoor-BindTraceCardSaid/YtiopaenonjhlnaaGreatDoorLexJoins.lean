/- Join, as a plain function; texts in a row. The walk of the program's Join. -/
import Derived.Test.YtiopaenonjhlnaaGreatDoorLexQuote
import Derived.Test.YtiopaenonjhlnaaGreatDoorShelf
namespace Go.Proofs.YtiopaenonjhlnaaGreatDoor
open Go.RowKit
open Lx (Bytes)

namespace Lx
def jn (l : List Bytes) : Bytes := Lib.join (l.map wquote) [32]
def cost (l : List Bytes) : Nat := (l.map fun s => 2 * s.length + 3).sum
theorem wquote_length (s : Bytes) : (wquote s).length ≤ 2 * s.length + 2 := by
  unfold wquote
  have := wesc_length s
  split
  · omega
  · split <;> simp only [List.length_append, List.length_cons, List.length_nil] <;> omega
theorem joinTail_snoc (r : List Bytes) (x : Bytes) : Lib.joinTail [32] (r ++ [x]) = Lib.joinTail [32] r ++ (32 :: x) := by
  simp [Lib.joinTail]
theorem jn_nil : jn [] = [] := rfl
theorem jn_one (x : Bytes) : jn [x] = wquote x := Lib.join_one _ _
theorem jn_snoc (l : List Bytes) (x : Bytes) (h : l ≠ []) : jn (l ++ [x]) = jn l ++ (32 :: wquote x) := by
  cases l with
  | nil => exact absurd rfl h
  | cons y l =>
    rw [jn, jn, List.cons_append, List.map_cons, List.map_cons, Lib.join_cons, Lib.join_cons, List.map_append, List.map_singleton, joinTail_snoc, List.append_assoc]
theorem joinTail_cost (r : List Bytes) : (Lib.joinTail [32] (r.map wquote)).length ≤ cost r := by
  induction r with
  | nil => simp [Lib.joinTail]
  | cons x r ih =>
    have := wquote_length x
    simp only [Lib.joinTail, cost, List.map_cons, List.flatten_cons, List.length_append, List.sum_cons, List.length_cons, List.singleton_append] at ih ⊢
    omega
theorem jn_cost (l : List Bytes) : (jn l).length ≤ cost l := by
  cases l with
  | nil => simp [jn_nil]
  | cons x r =>
    have h1 := joinTail_cost r
    have h2 := wquote_length x
    rw [jn, List.map_cons, Lib.join_cons, List.length_append]
    simp only [cost, List.map_cons, List.sum_cons] at h1 ⊢
    omega
theorem cost_append (a b : List Bytes) : cost (a ++ b) = cost a + cost b := by simp [cost]
theorem cost_take (l : List Bytes) (n : Nat) : cost (l.take n) ≤ cost l := by
  have h := cost_append (l.take n) (l.drop n)
  rw [List.take_append_drop] at h
  omega
theorem cost_mem {l : List Bytes} {s : Bytes} (h : s ∈ l) : 2 * s.length + 3 ≤ cost l := by
  induction l with
  | nil => cases h
  | cons x r ih =>
    simp only [cost, List.map_cons, List.sum_cons]
    rcases List.mem_cons.1 h with rfl | h
    · omega
    · have := ih h
      simp only [cost] at this
      omega
theorem cost_len (l : List Bytes) : 3 * l.length ≤ cost l := by
  induction l with
  | nil => simp [cost]
  | cons x r ih =>
    simp only [cost, List.map_cons, List.sum_cons, List.length_cons] at ih ⊢
    omega
theorem jn_succ (l : List Bytes) {n : Nat} (h : n < l.length) : jn (l.take (n + 1)) = if n = 0 then wquote l[n] else jn (l.take n) ++ (32 :: wquote l[n]) := by
  rw [List.take_succ_eq_append_getElem h]
  by_cases h0 : n = 0
  · rw [if_pos h0]; subst h0; exact jn_one _
  · rw [if_neg h0, jn_snoc]
    intro e
    have h1 : (l.take n).length = n := by rw [List.length_take]; omega
    rw [e] at h1
    exact h0 h1.symm
end Lx

/-- a row of strings below block B -/
structure StrsAt (w : World) (B : Nat) (v : Value) (ls : List ByteArray) : Prop where
  at_ : ∃ A c, v = .slice A ls.length c ∧ (0 < ls.length → ∃ b off, A = some ⟨b, off, none⟩ ∧ b < B ∧ ∀ i, (h : i < ls.length) → w.cell? ⟨b, off + i, none⟩ = some (.string ls[i]))
  small : Lx.cost (ls.map sl) ≤ 3200000
theorem StrsAt.len {w : World} {B : Nat} {v : Value} {ls : List ByteArray} (h : StrsAt w B v ls) : ls.length ≤ 1600000 := by
  have h1 := Lx.cost_len (ls.map sl)
  have h2 := h.small
  rw [List.length_map] at h1
  omega
theorem StrsAt.each {w : World} {B : Nat} {v : Value} {ls : List ByteArray} (h : StrsAt w B v ls) (n : Nat) (hn : n < ls.length) : ls[n].size ≤ 1600000 := by
  have h1 := Lx.cost_mem (List.mem_map.2 ⟨ls[n], List.getElem_mem hn, rfl⟩ : sl ls[n] ∈ ls.map sl)
  have h2 := h.small
  rw [sl_size] at h1
  have h3 := Lx.cost_len (ls.map sl)
  rw [List.length_map] at h3
  omega

end Go.Proofs.YtiopaenonjhlnaaGreatDoor
namespace Go.Proofs.YtiopaenonjhlnaaGreatDoor
open Go.RowKit
open Lx (Bytes)

theorem A.info_jstr : (Tryz.prog.info? 9).map (fun i => (i.zero, i.size, i.bytes)) = some (some (.string ⟨#[]⟩), 1, 16) := by kernel_rfl
def qstr (s : ByteArray) : ByteArray := ⟨(Lx.wquote (sl s)).toArray⟩
/-- a row of strings of the call's own -/
structure JRel (w : World) (L : List ByteArray) (v : Value) (wr : World) : Prop where
  own : wr.ownsRow w.heap.size 9 1 v L.length (L.map Value.string)
  turns : Turns Nothing w wr
theorem JRel.slice {w wr : World} {L : List ByteArray} {v : Value} (h : JRel w L v wr) : ∃ A c, v = .slice A L.length c := own_slice h.own
theorem JRel.next {w wr w1 : World} {L : List ByteArray} {v v' : Value} {n : Nat} {xs : List Value} (o : Obj) (h : JRel w L v wr) (u : ByteArray) (hg : (wr.alloc o).grownBy w1 v.ownBlock) (hn : n = L.length + 1) (hx : xs = L.map Value.string ++ [.string u]) (ho : w1.ownsRow w.heap.size 9 1 v' n xs) : JRel w (L ++ [u]) v' w1 := by
  subst hn hx
  refine ⟨by rw [List.length_append, List.map_append]; exact ho, (h.turns.alloc o).grown hg fun b hb e => ?_⟩
  have := h.own.lt b e
  omega
theorem JRel.still {w wr w1 : World} {L : List ByteArray} {v : Value} (h : JRel w L v wr) (ht : Turns Nothing wr w1) : JRel w L v w1 :=
  ⟨ht.own h.own fun _ _ => id, h.turns.same ht⟩
theorem src_str (w : World) (u : ByteArray) : Src Tryz.prog 1 55 (.slice (some ⟨w.heap.size, 0, none⟩) 1 1) 1 [.string u] (w.alloc (.cells #[.string u] 9)) := by
  refine Src.ofSlice _ Tryz.underlying55 ⟨_, 0, none⟩ 1 1 _ rfl (fun j u hj => ?_) (by simp [Value.oneCell'])
  have ha : (⟨w.heap.size, 0, none⟩ : Addr).add j = ⟨w.heap.size, j, none⟩ := by unfold Addr.add; split <;> simp_all
  rw [ha, cell_of_row _ w.heap.size _ _ _ (0, 0) (heap_alloc_new w _), ← hj]
  simp
theorem qstr_join (ls : List ByteArray) : (Lib.join ((ls.map qstr).map (·.data.toList)) (⟨#[32]⟩ : ByteArray).data.toList) = Lx.jn (ls.map sl) := by
  rw [Lx.jn, List.map_map, List.map_map]
  rfl

theorem quote_turns {w : World} (s : ByteArray) (hs : s.size ≤ 1600000) : Calls Tryz.prog 45 #[.string s] w fun e w' => e = .returned (.string (qstr s)) ∧ Turns Nothing w w' := by
  refine (quote_any s hs).mono ?_
  rintro e w' ⟨u, rfl, hu, hb⟩
  have : u = qstr s := sl_inj hu
  exact ⟨by rw [this], Turns.of_below hb fun b h1 h2 => absurd h2 (by omega)⟩

theorem strJoin_any {w wr : World} {L : List ByteArray} {v : Value} (h : JRel w L v wr) (hlen : (Lib.join (L.map (·.data.toList)) (⟨#[32]⟩ : ByteArray).data.toList).length ≤ 140737488355328) (hl : L.length ≤ 1600000) :
    Calls Tryz.prog 42 #[v, .string ⟨#[32]⟩] wr fun e w' => e = .returned (.string ⟨(Lib.join (L.map (·.data.toList)) (⟨#[32]⟩ : ByteArray).data.toList).toArray⟩) ∧ Turns Nothing wr w' := by
  rcases h.own.2 with ⟨rfl, h0⟩ | ⟨g, cap, cur, rfl, hb, hg, hcap, _⟩
  · have : L = [] := List.eq_nil_of_length_eq_zero h0
    subst this
    refine (Tryz.strings_Join_none none 0 ⟨#[32]⟩ wr).mono ?_
    rintro e w' ⟨rfl, rfl⟩
    exact ⟨rfl, Turns.refl _ _⟩
  · refine (Tryz.strings_Join g 0 cap L ⟨#[32]⟩ wr (fun j x hj => ?_) (Array.getElem?_eq_some_iff.1 hg).1 (by omega) hcap hlen).mono ?_
    · have hlt : j < L.length := (List.getElem?_eq_some_iff.1 hj).1
      rw [Nat.zero_add, h.own.cellAt _ (by omega), List.getElem?_map, hj]
      rfl
    · rintro e w' ⟨rfl, hb⟩
      exact ⟨rfl, Turns.of_below hb fun b h1 h2 => absurd h2 (by omega)⟩

set_option maxHeartbeats 4000000 in
set_option maxRecDepth 4000 in
theorem join_any {w : World} {v : Value} {ls : List ByteArray} (h : StrsAt w w.heap.size v ls) :
    Calls Tryz.prog 21 #[v] w fun e w' => e = .returned (.string ⟨(Lx.jn (ls.map sl)).toArray⟩) ∧ Turns Nothing w w' := by
  have hlen : (ls.length : Int) ≤ 1600000 := by have := h.len; omega
  have HE := Lib.hid h.each
  obtain ⟨⟨A9, c, rfl, hc⟩, hsm⟩ := h
  have HC := Lib.hid hc
  have HS := Lib.hid hsm
  clear hc hsm
  go_enter Tryz.func21, Tryz.ntmps21
  go_wp2_with fail
  go_loopw [8, 3] (fun i v wr => ∃ n : Nat, i = .int .i64 n ∧ n ≤ ls.length ∧ JRel w ((ls.take n).map qstr) v wr) (fun i _ _ => ls.length - (intOf i).toNat)
  case atStart => exact ⟨0, rfl, Nat.zero_le _, ⟨World.ownsRow_nil _ _ _ _, Turns.refl _ _⟩⟩
  case round =>
    obtain ⟨n, rfl, hn, hrel⟩ := hrel
    obtain ⟨A0, c0, rfl⟩ := hrel.slice
    have hjl : ((ls.take n).map qstr).length = n := by rw [List.length_map, List.length_take]; omega
    rw [hjl] at hrel ⊢
    have HR := Lib.hid hrel
    have HJL := Lib.hid hjl
    clear hrel hjl
    obtain ⟨i0, hi0, hz0, hz1, hz2⟩ := info_parts A.info_jstr
    by_cases hlt : n < ls.length
    · obtain ⟨b, off, rfl, hb, hcell⟩ := HC.out (by omega)
      have x1 := (HR.out.turns.cell (p := ⟨b, off + n, none⟩) hb id).trans (hcell n hlt)
      have hb2 : b < wr.heap.size := Nat.lt_of_lt_of_le hb HR.out.turns.size
      have hsz := HE.out n hlt
      clear hcell hb
      have htk := Lib.hid (show (ls.take (n + 1)).map qstr = (ls.take n).map qstr ++ [qstr ls[n]] by rw [List.take_succ_eq_append_getElem hlt, List.map_append]; rfl)
      go_wp2_with fail
      refine (quote_turns _ hsz).mono ?_
      rintro e w2 ⟨rfl, ht⟩
      have HR2 := Lib.hid (HR.out.still ht)
      clear ht x1
      have hO : (w2.alloc (.cells #[.string (qstr ls[n])] 9)).ownsRow w.heap.size 9 1 (.slice A0 n c0) n (((ls.take n).map qstr).map Value.string) := by
        have h := HR2.out.own.alloc (.cells #[.string (qstr ls[n])] 9)
        rw [HJL.out] at h
        exact h
      have hS := src_str w2 (qstr ls[n])
      have hB := Nat.le_trans HR2.out.turns.size (show w2.heap.size ≤ (w2.alloc (.cells #[.string (qstr ls[n])] 9)).heap.size by simp)
      have hm : n + 1 ≤ maxLen := by simp only [maxLen]; omega
      have hy : ((n + 1) + (n + 1 + 768) / 4 + 512) * 16 ≤ 281474976710656 := by omega
      have HO := Lib.hid (And.intro hO (And.intro hS (And.intro hB (And.intro hm hy))))
      clear hO hS hB hm hy
      go_wp2_with (first
        | (at_builtin
           refine wpList_append_src _ rfl (.tmp 12) (.tmp 15) _ _ rfl _ 9 i0 _ 1 16 Tryz.underlying55 hi0 hz0 hz1 hz2 rfl _ n _ rfl HO.out.1 _ 1 [.string (qstr ls[n])] rfl HO.out.2.1 HO.out.2.2.2.1 HO.out.2.2.2.2 HO.out.2.2.1 ?_
           intro A1 cp1 w3 ho hg hat
           have HN2 := Lib.hid (JRel.next _ HR2.out (qstr ls[n]) hg (by rw [HJL.out]) rfl ho)
           clear ho hg hat))
      go_roundw
      case rel =>
        refine ⟨n + 1, by go_num, hlt, ?_⟩
        rw [htk.out]
        exact HN2.out
      case measure => simp [intOf]; omega
    · obtain rfl : n = ls.length := by omega
      have hall : (ls.take ls.length).map qstr = ls.map qstr := by rw [List.take_length]
      rw [hall] at HR
      have hjn := qstr_join ls
      have hcost : (Lx.jn (ls.map sl)).length ≤ 140737488355328 := by have := Lx.jn_cost (ls.map sl); have := HS.out; omega
      have HQ := Lib.hid (And.intro hjn hcost)
      clear hjn hcost hall
      go_wp2_with fail
      refine (strJoin_any HR.out (by rw [HQ.out.1]; exact HQ.out.2) (by rw [List.length_map]; omega)).mono ?_
      rintro e w3 ⟨rfl, ht⟩
      rw [HQ.out.1]
      have HT := Lib.hid ht
      clear ht
      go_wp2_with fail
      go_ret
      exact ⟨rfl, HR.out.turns.same HT.out⟩
end Go.Proofs.YtiopaenonjhlnaaGreatDoor
