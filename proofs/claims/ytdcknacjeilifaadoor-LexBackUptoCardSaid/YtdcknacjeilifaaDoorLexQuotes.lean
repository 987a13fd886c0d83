/- The walk of LexQuotes: it answers true. -/
import Derived.Test.YtdcknacjeilifaaDoorLexJoins
import Derived.Test.YtdcknacjeilifaaDoorLexShown
namespace Go.Proofs.YtdcknacjeilifaaDoor
open Go.RowKit
open Lx (Bytes)

theorem StrsAt.keep {w w' : World} {v : Value} {ls : List ByteArray} (h : StrsAt w w.heap.size v ls) (ht : Turns Nothing w w') : StrsAt w' w'.heap.size v ls := by
  obtain ⟨⟨A, c, rfl, h1⟩, hs⟩ := h
  refine ⟨⟨A, c, rfl, fun hn => ?_⟩, hs⟩
  obtain ⟨b, off, hA, hb, hc⟩ := h1 hn
  exact ⟨b, off, hA, Nat.lt_of_lt_of_le hb ht.size, fun i hi => (ht.cell (p := ⟨b, off + i, none⟩) hb id).trans (hc i hi)⟩
theorem refQuote_turns {w : World} (s : ByteArray) (hs : s.size ≤ 1600000) : Calls Tryd.prog 11 #[.string s] w fun e w' => e = .returned (.string (qstr s)) ∧ Turns Nothing w w' := by
  refine (refQuote_any s hs).mono ?_
  rintro e w' ⟨u, rfl, hu, hb⟩
  have : u = qstr s := sl_inj hu
  exact ⟨by rw [this], hb⟩

theorem keep_turns {w w1 w2 : World} (ht : Turns Nothing w1 w2) (h1 : Turns Nothing w w1) : Turns Nothing w w2 := h1.same ht
theorem keep_cell {w w1 w2 : World} {b o : Nat} {v : Value} (hb : b < w.heap.size) (ht : Turns Nothing w1 w2) (h1 : Turns Nothing w w1) (hc : w1.cell? ⟨b, o, none⟩ = some v) : w2.cell? ⟨b, o, none⟩ = some v :=
  (ht.cell (p := ⟨b, o, none⟩) (Nat.lt_of_lt_of_le hb h1.size) id).trans hc

set_option maxHeartbeats 4000000 in
set_option maxRecDepth 4000 in
theorem quotes_true {w : World} {v : Value} {ls : List ByteArray} (h : StrsAt w w.heap.size v ls) :
    Calls Tryd.prog 5 #[v] w fun e w' => e = .returned (.bool true) ∧ Turns Nothing w w' := by
  have hlen : (ls.length : Int) ≤ 1600000 := by have := h.len; omega
  have HE := Lib.hid h.each
  have HW := Lib.hid h
  obtain ⟨⟨A9, c, rfl, hc⟩, -⟩ := h
  have HC := Lib.hid hc
  clear hc
  go_enter Tryd.func5, Tryd.ntmps5
  go_wp2_with fail
  refine (shown_true _).mono ?_
  rintro e w1 ⟨rfl, ht⟩
  have H1 := Lib.hid ht
  clear ht
  go_wp2_with fail
  go_loopw [4] (fun i wr => ∃ n : Nat, i = .int .i64 n ∧ n ≤ ls.length ∧ Turns Nothing w wr) (fun i _ => ls.length - (intOf i).toNat)
  case atStart => exact ⟨0, rfl, Nat.zero_le _, H1.out⟩
  case round =>
    obtain ⟨n, rfl, hn, ht⟩ := hrel
    have HT := Lib.hid ht
    clear ht H1
    by_cases hlt : n < ls.length ∧ (n : Int) < 50
    · obtain ⟨hlt, h50⟩ := hlt
      obtain ⟨b, off, rfl, hb, hcell⟩ := HC.out (by omega)
      have x1 := (HT.out.cell (p := ⟨b, off + n, none⟩) hb id).trans (hcell n hlt)
      have hb2 : b < wr.heap.size := Nat.lt_of_lt_of_le hb HT.out.size
      have hsz := HE.out n hlt
      clear hcell hb
      go_wp2_with fail
      have T0 : Turns Nothing wr wr.drew := ⟨rfl, rfl, rfl, Nat.le_refl _, fun _ _ _ => rfl⟩
      have x2 : wr.drew.cell? ⟨b, off + n, none⟩ = some (.string ls[n]) := x1
      go_region_held3 (fun w' => w'.cell? ⟨b, off + n, none⟩ = some (.string ls[n]) ∧ Turns Nothing wr w') (first | (go_split_ands; refine ⟨?_, ?_⟩; (exact keep_cell hb2 (by assumption) (by assumption) (by assumption)); (exact keep_turns (by assumption) (by assumption))) | exact ⟨by assumption, by assumption⟩ | go_keep)
        (first | (go_at_call 10; refine (quote_turns _ hsz).mono ?_; rintro e w2 ⟨rfl, ht⟩) | (go_at_call 11; refine (refQuote_turns _ hsz).mono ?_; rintro e w2 ⟨rfl, ht⟩))
      go_split_ands
      go_wp2_with fail
      go_roundw
      case rel => exact ⟨n + 1, by go_num, hlt, HT.out.same (by first | assumption | exact keep_turns (by assumption) (by assumption))⟩
      case measure => simp [intOf]; omega
    · have hend : (decide ((n : Int) < ls.length) && decide ((n : Int) < 50)) = false := by
        rw [Bool.and_eq_false_iff]
        by_cases h : n < ls.length
        · exact .inr (decide_eq_false (fun h2 => hlt ⟨h, h2⟩))
        · exact .inl (decide_eq_false (by omega))
      have HWr := Lib.hid (HW.out.keep HT.out)
      by_cases hl2 : n < ls.length
      · have h50 : ¬ (n : Int) < 50 := fun h2 => hlt ⟨hl2, h2⟩
        clear hlt
        go_wp2_with fail
        refine (join_any HWr.out).mono ?_
        rintro e w2 ⟨rfl, ht⟩
        have HT2 := Lib.hid (HT.out.same ht)
        have HW2 := Lib.hid (HWr.out.keep ht)
        clear ht
        go_wp2_with fail
        refine (refJoin_any HW2.out).mono ?_
        rintro e w3 ⟨rfl, ht⟩
        have HT3 := Lib.hid (HT2.out.same ht)
        clear ht
        go_wp2_with fail
        go_ret
        exact ⟨rfl, HT3.out⟩
      · clear hlt
        go_wp2_with fail
        refine (join_any HWr.out).mono ?_
        rintro e w2 ⟨rfl, ht⟩
        have HT2 := Lib.hid (HT.out.same ht)
        have HW2 := Lib.hid (HWr.out.keep ht)
        clear ht
        go_wp2_with fail
        refine (refJoin_any HW2.out).mono ?_
        rintro e w3 ⟨rfl, ht⟩
        have HT3 := Lib.hid (HT2.out.same ht)
        clear ht
        go_wp2_with fail
        go_ret
        exact ⟨rfl, HT3.out⟩
end Go.Proofs.YtdcknacjeilifaaDoor
