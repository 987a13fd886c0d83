/- The walk of the program's Join. -/
import Derived.Test.YtdcknacjeilifaaDoorLexJoin
namespace Go.Proofs.YtdcknacjeilifaaDoor
open Go.RowKit
open Lx (Bytes)

theorem A.info_str : (Tryd.prog.info? 9).map (fun i => (i.zero, i.size, i.bytes)) = some (some (.string ⟨#[]⟩), 1, 16) := by kernel_rfl
def qstr (s : ByteArray) : ByteArray := ⟨(Lx.wquote (sl s)).toArray⟩
/-- a row of strings of the call's own -/
structure SRel (w : World) (L : List ByteArray) (v : Value) (wr : World) : Prop where
  own : wr.ownsRow w.heap.size 9 1 v L.length (L.map Value.string)
  turns : Turns Nothing w wr
theorem SRel.slice {w wr : World} {L : List ByteArray} {v : Value} (h : SRel w L v wr) : ∃ A c, v = .slice A L.length c := own_slice h.own
theorem SRel.next {w wr w1 : World} {L : List ByteArray} {v v' : Value} {n : Nat} {xs : List Value} (o : Obj) (h : SRel w L v wr) (u : ByteArray) (hg : (wr.alloc o).grownBy w1 v.ownBlock) (hn : n = L.length + 1) (hx : xs = L.map Value.string ++ [.string u]) (ho : w1.ownsRow w.heap.size 9 1 v' n xs) : SRel w (L ++ [u]) v' w1 := by
  subst hn hx
  refine ⟨by rw [List.length_append, List.map_append]; exact ho, (h.turns.alloc o).grown hg fun b hb e => ?_⟩
  have := h.own.lt b e
  omega
theorem SRel.still {w wr w1 : World} {L : List ByteArray} {v : Value} (h : SRel w L v wr) (ht : Turns Nothing wr w1) : SRel w L v w1 :=
  ⟨ht.own h.own fun _ _ => id, h.turns.same ht⟩
theorem src_str (w : World) (u : ByteArray) : Src Tryd.prog 1 33 (.slice (some ⟨w.heap.size, 0, none⟩) 1 1) 1 [.string u] (w.alloc (.cells #[.string u] 9)) := by
  refine Src.ofSlice _ Tryd.underlying33 ⟨_, 0, none⟩ 1 1 _ rfl (fun j u hj => ?_) (by simp [Value.oneCell'])
  have ha : (⟨w.heap.size, 0, none⟩ : Addr).add j = ⟨w.heap.size, j, none⟩ := by unfold Addr.add; split <;> simp_all
  rw [ha, cell_of_row _ w.heap.size _ _ _ (0, 0) (heap_alloc_new w _), ← hj]
  simp
theorem qstr_join (ls : List ByteArray) : (Lib.join ((ls.map qstr).map (·.data.toList)) (⟨#[32]⟩ : ByteArray).data.toList) = Lx.jn (ls.map sl) := by
  rw [Lx.jn, List.map_map, List.map_map]
  rfl

theorem quote_turns {w : World} (s : ByteArray) (hs : s.size ≤ 1600000) : Calls Tryd.prog 10 #[.string s] w fun e w' => e = .returned (.string (qstr s)) ∧ Turns Nothing w w' := by
  refine (quote_any s hs).mono ?_
  rintro e w' ⟨u, rfl, hu, hb⟩
  have : u = qstr s := sl_inj hu
  exact ⟨by rw [this], Turns.of_below hb fun b h1 h2 => absurd h2 (by omega)⟩

theorem strJoin_any {w wr : World} {L : List ByteArray} {v : Value} (h : SRel w L v wr) (hlen : (Lib.join (L.map (·.data.toList)) (⟨#[32]⟩ : ByteArray).data.toList).length ≤ 140737488355328) (hl : L.length ≤ 1600000) :
    Calls Tryd.prog 22 #[v, .string ⟨#[32]⟩] wr fun e w' => e = .returned (.string ⟨(Lib.join (L.map (·.data.toList)) (⟨#[32]⟩ : ByteArray).data.toList).toArray⟩) ∧ Turns Nothing wr w' := by
  rcases h.own.2 with ⟨rfl, h0⟩ | ⟨g, cap, cur, rfl, hb, hg, hcap, _⟩
  · have : L = [] := List.eq_nil_of_length_eq_zero h0
    subst this
    refine (Tryd.strings_Join_none none 0 ⟨#[32]⟩ wr).mono ?_
    rintro e w' ⟨rfl, rfl⟩
    exact ⟨rfl, Turns.refl _ _⟩
  · refine (Tryd.strings_Join g 0 cap L ⟨#[32]⟩ wr (fun j x hj => ?_) (Array.getElem?_eq_some_iff.1 hg).1 (by omega) hcap hlen).mono ?_
    · have hlt : j < L.length := (List.getElem?_eq_some_iff.1 hj).1
      rw [Nat.zero_add, h.own.cellAt _ (by omega), List.getElem?_map, hj]
      rfl
    · rintro e w' ⟨rfl, hb⟩
      exact ⟨rfl, Turns.of_below hb fun b h1 h2 => absurd h2 (by omega)⟩

set_option maxHeartbeats 4000000 in
set_option maxRecDepth 4000 in
theorem join_any {w : World} {v : Value} {ls : List ByteArray} (h : StrsAt w w.heap.size v ls) :
    Calls Tryd.prog 12 #[v] w fun e w' => e = .returned (.string ⟨(Lx.jn (ls.map sl)).toArray⟩) ∧ Turns Nothing w w' := by
  have hlen : (ls.length : Int) ≤ 1600000 := by have := h.len; omega
  have HE := Lib.hid h.each
  obtain ⟨⟨A9, c, rfl, hc⟩, hsm⟩ := h
  have HC := Lib.hid hc
  have HS := Lib.hid hsm
  clear hc hsm
  go_enter Tryd.func12, Tryd.ntmps12
  go_wp2_with fail
  go_loopw [8, 3] (fun i v wr => ∃ n : Nat, i = .int .i64 n ∧ n ≤ ls.length ∧ SRel w ((ls.take n).map qstr) v wr) (fun i _ _ => ls.length - (intOf i).toNat)
  case atStart => exact ⟨0, rfl, Nat.zero_le _, ⟨World.ownsRow_nil _ _ _ _, Turns.refl _ _⟩⟩
  case round =>
    obtain ⟨n, rfl, hn, hrel⟩ := hrel
    obtain ⟨A0, c0, rfl⟩ := hrel.slice
    have hjl : ((ls.take n).map qstr).length = n := by rw [List.length_map, List.length_take]; omega
    rw [hjl] at hrel ⊢
    have HR := Lib.hid hrel
    have HJL := Lib.hid hjl
    clear hrel hjl
    obtain ⟨i0, hi0, hz0, hz1, hz2⟩ := info_parts A.info_str
    by_cases hlt : n < ls.length
    · obtain ⟨b, off, rfl, hb, hcell⟩ := HC.out (by omega)
      have x1 := (HR.out.turns.cell (p := ⟨b, off + n, none⟩) hb id).trans (hcell n hlt)
      have hb2 : b < wr.heap.size := Nat.lt_of_lt_of_le hb HR.out.turns.size
      have hsz := HE.out n hlt
      clear hcell hb
      have htk := Lib.hid (show (ls.take (n + 1)).map qstr = (ls.take n).map qstr ++ [qstr ls[n]] by rw [List.take_succ_eq_append_getElem hlt, List.map_append]; rfl)
      go_wp2_with fail
      refine (quote_turns _ hsz).mono ?_
      rintro e w2 ⟨rfl, ht⟩
      have HR2 := Lib.hid (HR.out.still ht)
      clear ht x1
      have hO : (w2.alloc (.cells #[.string (qstr ls[n])] 9)).ownsRow w.heap.size 9 1 (.slice A0 n c0) n (((ls.take n).map qstr).map Value.string) := by
        have h := HR2.out.own.alloc (.cells #[.string (qstr ls[n])] 9)
        rw [HJL.out] at h
        exact h
      have hS := src_str w2 (qstr ls[n])
      have hB := Nat.le_trans HR2.out.turns.size (show w2.heap.size ≤ (w2.alloc (.cells #[.string (qstr ls[n])] 9)).heap.size by simp)
      have hm : n + 1 ≤ maxLen := by simp only [maxLen]; omega
      have hy : ((n + 1) + (n + 1 + 768) / 4 + 512) * 16 ≤ 281474976710656 := by omega
      have HO := Lib.hid (And.intro hO (And.intro hS (And.intro hB (And.intro hm hy))))
      clear hO hS hB hm hy
      go_wp2_with (first
        | (at_builtin
           refine wpList_append_src _ rfl (.tmp 12) (.tmp 15) _ _ rfl _ 9 i0 _ 1 16 Tryd.underlying33 hi0 hz0 hz1 hz2 rfl _ n _ rfl HO.out.1 _ 1 [.string (qstr ls[n])] rfl HO.out.2.1 HO.out.2.2.2.1 HO.out.2.2.2.2 HO.out.2.2.1 ?_
           intro A1 cp1 w3 ho hg hat
           have HN2 := Lib.hid (SRel.next _ HR2.out (qstr ls[n]) hg (by rw [HJL.out]) rfl ho)
           clear ho hg hat))
      go_roundw
      case rel =>
        refine ⟨n + 1, by go_num, hlt, ?_⟩
        rw [htk.out]
        exact HN2.out
      case measure => simp [intOf]; omega
    · obtain rfl : n = ls.length := by omega
      have hall : (ls.take ls.length).map qstr = ls.map qstr := by rw [List.take_length]
      rw [hall] at HR
      have hjn := qstr_join ls
      have hcost : (Lx.jn (ls.map sl)).length ≤ 140737488355328 := by have := Lx.jn_cost (ls.map sl); have := HS.out; omega
      have HQ := Lib.hid (And.intro hjn hcost)
      clear hjn hcost hall
      go_wp2_with fail
      refine (strJoin_any HR.out (by rw [HQ.out.1]; exact HQ.out.2) (by rw [List.length_map]; omega)).mono ?_
      rintro e w3 ⟨rfl, ht⟩
      rw [HQ.out.1]
      have HT := Lib.hid ht
      clear ht
      go_wp2_with fail
      go_ret
      exact ⟨rfl, HR.out.turns.same HT.out⟩
end Go.Proofs.YtdcknacjeilifaaDoor
