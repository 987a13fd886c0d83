/- The walk of LexBack: it answers true. -/
import Derived.Test.YtdcknacjeilifaaDoorLexBackLaw
import Derived.Test.YtdcknacjeilifaaDoorLexRemarks
import Derived.Test.YtdcknacjeilifaaDoorLexQuotes
namespace Go.Proofs.YtdcknacjeilifaaDoor
open Go.RowKit
open Lx (Bytes)

def tot (l : List ByteArray) : Nat := (l.map ByteArray.size).sum
theorem tot_cost (l : List ByteArray) : Lx.cost (l.map sl) = 2 * tot l + 3 * l.length := by
  induction l with
  | nil => rfl
  | cons x l ih =>
    have e : (sl x).length = x.size := sl_size x
    simp only [Lx.cost, tot, List.map_cons, List.sum_cons, List.length_cons] at ih ⊢
    omega
theorem tot_append (a b : List ByteArray) : tot (a ++ b) = tot a + tot b := by rw [tot, List.map_append, List.sum_append]; rfl
theorem tot_succ (l : List ByteArray) {n : Nat} (h : n < l.length) : tot (l.take (n + 1)) = tot (l.take n) + l[n].size := by
  rw [List.take_succ_eq_append_getElem h, tot_append]; simp [tot]
theorem tot_take (l : List ByteArray) (n : Nat) : tot (l.take n) ≤ tot l := by
  have h := tot_append (l.take n) (l.drop n)
  rw [List.take_append_drop] at h
  omega

set_option maxHeartbeats 8000000 in
set_option maxRecDepth 4000 in
theorem back_true {w : World} {v ev : Value} {ls : List ByteArray} {es : List (ByteArray × ByteArray)} (h : StrsAt w w.heap.size v ls) (hen : EnvAt w w.heap.size ev es) :
    Calls Tryd.prog 6 #[v, ev] w fun e w' => e = .returned (.bool true) ∧ Turns Nothing w w' := by
  have hlen : (ls.length : Int) ≤ 1600000 := by have := h.len; omega
  have htot : tot ls ≤ 1600000 := by have h1 := h.small; rw [tot_cost] at h1; omega
  have HE := Lib.hid h.each
  have HW := Lib.hid h
  obtain ⟨⟨A9, c, rfl, hc⟩, -⟩ := h
  obtain ⟨AE, cE, rfl, -⟩ := hen.at_
  have HEN := Lib.hid hen
  have HC := Lib.hid hc
  have HTO := Lib.hid htot
  clear hc hen htot
  go_enter Tryd.func6, Tryd.ntmps6
  go_wp2_with fail
  refine (shown_true _).mono ?_
  rintro e w1 ⟨rfl, ht⟩
  have H1 := Lib.hid ht
  clear ht
  go_wp2_with fail
  go_loopw [7, 6] (fun i q wr => ∃ n k : Nat, i = .int .i64 n ∧ q = .int .i64 k ∧ n ≤ ls.length ∧ k = tot (ls.take n) ∧ (∀ j (h : j < ls.length), j < n → ls[j].size ≤ 8192) ∧ Turns Nothing w wr) (fun i _ _ => ls.length - (intOf i).toNat)
  case atStart => exact ⟨0, 0, rfl, rfl, Nat.zero_le _, rfl, fun j _ h => absurd h (by omega), H1.out⟩
  case round =>
    obtain ⟨n, k, rfl, rfl, hn, hk, hs, ht⟩ := hrel
    have HT := Lib.hid ht
    have hkb : (k : Int) ≤ 1600000 := by have := tot_take ls n; have := HTO.out; omega
    have HK := Lib.hid hk
    have HS := Lib.hid hs
    clear ht H1 hk hs
    by_cases hlt : n < ls.length
    · obtain ⟨b, off, rfl, hb, hcell⟩ := HC.out (by omega)
      have x1 := (HT.out.cell (p := ⟨b, off + n, none⟩) hb id).trans (hcell n hlt)
      have hsz : (ls[n].size : Int) ≤ 1600000 := by have := HE.out n hlt; omega
      have hts := Lib.hid (tot_succ ls hlt)
      clear hcell hb
      by_cases hbig : 8192 < (ls[n].size : Int)
      · go_wp2_with fail
        go_ret
        exact ⟨rfl, HT.out⟩
      · have hle := Lib.hid (show ls[n].size ≤ 8192 by omega)
        go_wp2_with fail
        go_roundw
        case rel =>
          refine ⟨n + 1, k + ls[n].size, by go_num, by go_num, hlt, by rw [hts.out, HK.out], fun j hj h => ?_, HT.out⟩
          by_cases e : j = n
          · subst e; exact hle.out
          · exact HS.out j hj (by omega)
        case measure => simp [intOf]; omega
    · obtain rfl : n = ls.length := by omega
      have hk : k = tot ls := by rw [HK.out, List.take_length]
      clear HK
      have HK := Lib.hid hk
      clear hk
      by_cases hmany : 256 < (ls.length : Int)
      · go_wp2_with fail
        go_ret
        exact ⟨rfl, HT.out⟩
      by_cases hlong : 20000 < (k : Int)
      · go_wp2_with fail
        go_ret
        exact ⟨rfl, HT.out⟩
      have HWr := Lib.hid (HW.out.keep HT.out)
      go_wp2_with fail
      refine (join_any HWr.out).mono ?_
      rintro e w2 ⟨rfl, ht⟩
      have HT2 := Lib.hid (HT.out.same ht)
      clear ht
      have hE2 := env_up (HEN.out.keep (w' := w2) fun p hp => HT2.out.cell hp id) HT2.out.size
      have hlaw := Lx.split_jn (env := envOf es) (l := ls.map sl) (fun x hx => by
        obtain ⟨s, hs, rfl⟩ := List.mem_map.1 hx
        obtain ⟨j, hj, rfl⟩ := List.getElem_of_mem hs
        rw [sl_size]; exact HS.out j hj hj) (by rw [List.length_map]; omega) (by
        have h1 := Lx.jn_cost (ls.map sl)
        rw [tot_cost] at h1
        have := HK.out
        omega)
      have hTs : sl ⟨(Lx.jn (ls.map sl)).toArray⟩ = Lx.jn (ls.map sl) := rfl
      rw [← hTs] at hlaw
      have HE2 := Lib.hid hE2
      clear hE2 hTs
      generalize (⟨(Lx.jn (ls.map sl)).toArray⟩ : ByteArray) = T at *
      rcases hlaw with ⟨h0, hsp⟩ | ⟨ws, hne, htx, hbl, hsp⟩
      · have h0 : ls = [] := by simpa using h0
        subst h0
        have HSP := Lib.hid hsp
        clear hsp
        go_wp2_with fail
        refine (split_ok HE2.out HSP.out).mono ?_
        rintro e w3 ⟨ht, A, c3, rfl, -⟩
        have HT3 := Lib.hid (HT2.out.same ht)
        clear ht
        go_wp2_with fail
        go_ret
        exact ⟨rfl, HT3.out⟩
      · have HSP := Lib.hid hsp
        have hwl : ws.length = ls.length := by have := congrArg List.length htx; simpa using this
        have hpos : (ls.length : Int) ≠ 0 := by
          intro e
          apply hne
          rw [List.map_eq_nil_iff]
          exact List.eq_nil_of_length_eq_zero (by omega)
        have HWL := Lib.hid (And.intro hwl (And.intro htx hbl))
        clear hsp hwl hne htx hbl
        go_wp2_with fail
        refine (split_ok HE2.out HSP.out).mono ?_
        rintro e w3 ⟨ht, A, c3, rfl, hL⟩
        have HT3 := Lib.hid (HT2.out.same ht)
        clear ht
        obtain ⟨b, A4, c4, rfl, hB, hb, x1, y1, z1⟩ := hL.cell 0 (by simp)
        simp only [List.getElem_cons_zero, Nat.zero_mul, Nat.zero_add] at x1 y1 z1
        rw [HWL.out.1] at x1 z1
        have Z := Lib.hid (And.intro z1 hb)
        have X := Lib.hid x1
        clear z1 hL hB
        dsimp only
        go_wp2_with fail
        go_loopw [11] (fun i wr => ∃ j : Nat, i = .int .i64 j ∧ j ≤ ls.length ∧ Turns Nothing w3 wr) (fun i _ => ls.length - (intOf i).toNat)
        case atStart => exact ⟨0, rfl, Nat.zero_le _, Turns.refl _ _⟩
        case round =>
          obtain ⟨j, rfl, hj, ht⟩ := hrel
          by_cases hlt2 : j < ls.length
          · have hjw : j < ws.length := by rw [HWL.out.1]; exact hlt2
            obtain ⟨A5, c5, e5, hw⟩ := Z.out.1.at_
            obtain ⟨b5, off5, rfl, hb5, u1, -, u3⟩ := hw j hjw
            obtain rfl : A4 = some ⟨b5, off5, none⟩ := by injection e5
            have htxt : (⟨ws[j].text.toArray⟩ : ByteArray) = ls[j] := by
              have h1 : (ws.map (·.text))[j]? = (ls.map sl)[j]? := by rw [HWL.out.2.1]
              rw [List.getElem?_map, List.getElem?_map, List.getElem?_eq_getElem hjw, List.getElem?_eq_getElem hlt2] at h1
              have h2 : ws[j].text = sl ls[j] := by simpa using h1
              exact sl_inj h2
            have hblk : ws[j].block = false := HWL.out.2.2 _ (List.getElem_mem _)
            rw [htxt] at u1
            rw [hblk] at u3
            obtain ⟨b6, off6, rfl, hb6, hcell⟩ := HC.out (by omega)
            have HB := Lib.hid (HT3.out.same ht)
            have q1 := (HB.out.cell (p := ⟨b6, off6 + j, none⟩) hb6 id).trans (hcell j hlt2)
            have q2 := (ht.cell (p := ⟨b, 0, none⟩) Z.out.2 id).trans X.out
            have q3 := (ht.cell (p := ⟨b5, off5 + j * 3, none⟩) hb5 id).trans u1
            have q4 := (ht.cell (p := ⟨b5, off5 + j * 3 + 2, none⟩) hb5 id).trans u3
            have HJ := Lib.hid ht
            clear ht hw u1 u3 e5 hcell htxt hblk y1 hb6 hb5 hjw
            go_wp2_with fail
            go_quiet (fail)
            go_wp2_with fail
            go_roundw
            case rel => exact ⟨j + 1, by go_num, hlt2, HJ.out.drewN _⟩
            case measure => simp [intOf]; omega
          · have HJ := Lib.hid ht
            clear ht
            go_wp2_with fail
            go_ret
            exact ⟨rfl, HT3.out.same HJ.out⟩
end Go.Proofs.YtdcknacjeilifaaDoor
