/- The walk of LexRemarks: it answers true, whatever the text, the remark and the environment are. -/
import Derived.Test.YtdcknacjeilifaaDoorLexShown
namespace Go.Proofs.YtdcknacjeilifaaDoor
open Go.RowKit
open Lx (Bytes)

theorem sl_append (a b : ByteArray) : sl (a ++ b) = sl a ++ sl b := by simp [sl]

theorem env_up {w : World} {B B' : Nat} {v : Value} {es : List (ByteArray × ByteArray)} (h : EnvAt w B v es) (hB : B ≤ B') : EnvAt w B' v es := by
  obtain ⟨⟨A, c, hv, h1⟩, h2, h3⟩ := h
  refine ⟨⟨A, c, hv, fun hn => ?_⟩, h2, h3⟩
  obtain ⟨b, off, hA, hb, hc⟩ := h1 hn
  exact ⟨b, off, hA, by omega, hc⟩
set_option maxHeartbeats 4000000 in
set_option maxRecDepth 4000 in
theorem remarks_true {w : World} (s m : ByteArray) (ev : Value) (es : List (ByteArray × ByteArray)) (hen : EnvAt w w.heap.size ev es) (hs : s.size ≤ strMost) (hm : m.size ≤ strMost) :
    Calls Tryd.prog 4 #[.string s, .string m, ev] w fun e w' => e = .returned (.bool true) ∧ Turns Nothing w w' := by
  obtain ⟨AE, cE, rfl, -⟩ := hen.at_
  have HE := Lib.hid hen
  clear hen
  have hs2 : (s.size : Int) ≤ 140737488355328 := by unfold strMost at hs; omega
  have hm2 : (m.size : Int) ≤ 140737488355328 := by unfold strMost at hm; omega
  clear hs hm
  go_enter Tryd.func4, Tryd.ntmps4
  go_wp2_with fail
  refine (shown_true _).mono ?_
  rintro e w1 ⟨rfl, ht⟩
  have H1 := Lib.hid ht
  clear ht
  by_cases hbig : 60000 < (s.size : Int) + m.size
  · go_wp2_with fail
    go_ret
    exact ⟨rfl, H1.out⟩
  have hb1 : (s.size : Int) ≤ 60000 := by omega
  have hb2 : (m.size : Int) ≤ 60000 := by omega
  clear hs2 hm2
  go_wp2_with fail
  go_loopw [8] (fun i wr => ∃ n : Nat, i = .int .i64 n ∧ n ≤ m.size ∧ (∀ j, (h : j < m.size) → j < n → m[j] ≠ 10) ∧ Turns Nothing w wr) (fun i _ => m.size - (intOf i).toNat)
  case atStart => exact ⟨0, rfl, Nat.zero_le _, fun j _ h => absurd h (by omega), H1.out⟩
  case round =>
    obtain ⟨n, rfl, hn, hno, ht⟩ := hrel
    have HT := Lib.hid ht
    clear ht H1
    by_cases hlt : n < m.size
    · have HN := Lib.hid hno
      clear hno
      by_cases h10 : (m[n].toNat : Int) = 10
      · go_wp2_with fail
        go_ret
        exact ⟨rfl, HT.out⟩
      · have HM := Lib.hid (show m[n] ≠ 10 from fun e => h10 (by rw [e]; rfl))
        go_wp2_with fail
        go_roundw
        case rel =>
          refine ⟨n + 1, by go_num, hlt, fun j hj h => ?_, HT.out⟩
          by_cases e : j = n
          · subst e; exact HM.out
          · exact HN.out j hj (by omega)
        case measure => simp [intOf]; omega
    · have hall : ∀ x ∈ sl m, x ≠ 10 := by
        intro x hx
        obtain ⟨j, hj, rfl⟩ := List.getElem_of_mem hx
        rw [sl_size] at hj
        exact hno j hj (by omega)
      have HA := Lib.hid hall
      clear hno hall
      go_wp2_with fail
      have hE1 := HE.out.keep (w' := wr) fun p hp => HT.out.cell hp id
      have hE1 := env_up hE1 HT.out.size
      have hrm := Lx.split_remarks (env := envOf es) (m := sl m) (s := sl s) (by rw [sl_size, sl_size]; omega) HA.out
      cases hr : Lx.split (envOf es) (sl s) with
      | error x =>
        obtain ⟨c, k⟩ := x
        have he := Lx.split_err hr
        have hc : 2 ≤ c := he.1.1
        have hc2 : c ≤ 4 := he.1.2
        have hk : (k : Int) ≤ 65537 := by have := he.2; dsimp only at this; omega
        refine (split_no hE1 hr).mono ?_
        rintro e w2 ⟨ht, rfl⟩
        rw [hr] at hrm
        have HR := Lib.hid hrm
        have H2 := Lib.hid (HT.out.same ht)
        clear ht he hr hrm
        dsimp only
        go_wp2_with fail
        have hE2 := env_up (HE.out.keep (w' := w2) fun p hp => H2.out.cell hp id) H2.out.size
        refine (split_no hE2 (x := (c, k + 3)) ?_).mono ?_
        · have hT : sl ((⟨#[10, 32, 9, 35]⟩ : ByteArray) ++ m ++ ⟨#[10, 10]⟩ ++ s) = 10 :: 32 :: 9 :: 35 :: (sl m ++ Lx.tail (Lx.tail (sl s))) := by
            simp [sl_append, Lx.tail]; simp [sl]
          rw [hT, HR.out]; rfl
        rintro e w3 ⟨ht, rfl⟩
        have H3 := Lib.hid (H2.out.same ht)
        clear ht hE1 hE2
        dsimp only
        go_wp2_with fail
        go_loopw [15] (fun i wr => i = .int .i64 0 ∧ Turns Nothing w wr) (fun i _ => 0)
        case atStart => exact ⟨rfl, H3.out⟩
        case round =>
          obtain ⟨rfl, ht⟩ := hrel
          have HL := Lib.hid ht
          clear ht
          go_wp2_with fail
          go_ret
          exact ⟨rfl, HL.out⟩
      | ok L =>
        have hgood := Lx.split_good hr
        have hN : (L.length : Int) ≤ 1000 := by have := hgood.many; omega
        refine (split_ok hE1 hr).mono ?_
        rintro e w2 ⟨ht, A, c, rfl, hl⟩
        rw [hr] at hrm
        have HR := Lib.hid hrm
        have H2 := Lib.hid (HT.out.same ht)
        have HL := Lib.hid hl
        have HG := Lib.hid hgood
        clear ht hr hrm hl hgood
        dsimp only
        go_wp2_with fail
        have hE2 := env_up (HE.out.keep (w' := w2) fun p hp => H2.out.cell hp id) H2.out.size
        refine (split_ok hE2 (L := [] ++ L.map (Lx.ll 3 0)) ?_).mono ?_
        · have hT : sl ((⟨#[10, 32, 9, 35]⟩ : ByteArray) ++ m ++ ⟨#[10, 10]⟩ ++ s) = 10 :: 32 :: 9 :: 35 :: (sl m ++ Lx.tail (Lx.tail (sl s))) := by
            simp [sl_append, Lx.tail]; simp [sl]
          rw [hT, HR.out]; rfl
        rintro e w3 ⟨ht, A', c', rfl, hm⟩
        rw [show (([] : List Lx.Ln) ++ L.map (Lx.ll 3 0)).length = L.length from List.length_map _] at hm ⊢
        have H3 := Lib.hid (H2.out.same ht)
        have HL3 := Lib.hid (HL.out.still ht)
        have HM := Lib.hid hm
        clear ht hE1 hE2 hm HL HR
        dsimp only
        go_wp2_with fail
        go_loopw [15] (fun i wr => ∃ n : Nat, i = .int .i64 n ∧ n ≤ L.length ∧ Turns Nothing w3 wr) (fun i _ => L.length - (intOf i).toNat)
        case atStart => exact ⟨0, rfl, Nat.zero_le _, Turns.refl _ _⟩
        case round =>
          obtain ⟨j, rfl, hj, ht⟩ := hrel
          by_cases hlt2 : j < L.length
          · obtain ⟨b, A3, c3, rfl, hB, hb, x1, y1, z1⟩ := HL3.out.cell j hlt2
            obtain ⟨b', A4, c4, rfl, hB', hb', x2, y2, z2⟩ := HM.out.cellLater j hlt2
            simp only [List.length_nil, Nat.zero_add, Nat.add_zero] at x2 y2
            have x1 := (ht.cell (p := ⟨b, j * 2, none⟩) hb id).trans x1
            have y1 := (ht.cell (p := ⟨b, j * 2 + 1, none⟩) hb id).trans y1
            have x2 := (ht.cell (p := ⟨b', j * 2, none⟩) hb' id).trans x2
            have y2 := (ht.cell (p := ⟨b', j * 2 + 1, none⟩) hb' id).trans y2
            have HJ := Lib.hid ht
            have hb := Nat.lt_of_lt_of_le hb ht.size
            have hb' := Nat.lt_of_lt_of_le hb' ht.size
            have Z := Lib.hid (And.intro (z1.still ht) (z2.still ht))
            clear ht z1 z2 hB hB'
            go_wp2_with fail
            go_still_tail 10, (by kernel_rfl)
            change wpList _ _ _ _ _ wr.drew
            have hd : Turns Nothing wr wr.drew := ⟨rfl, rfl, rfl, Nat.le_refl _, fun _ _ _ => rfl⟩
            generalize wr.drew = w4 at hd ⊢
            have HD := Lib.hid hd
            clear hd
            go_wp2_with fail
            refine (same_in (Z.out.2.still HD.out) (Z.out.1.still HD.out) (fun x hx => ?_) (by decide)).mono ?_
            · have := (HG.out.each _ (List.getElem_mem hlt2)).lines x hx; omega
            rintro e w5 ⟨rfl, ht⟩
            have ht2 := HD.out.same ht
            have y1 := (ht2.cell (p := ⟨b, j * 2 + 1, none⟩) hb id).trans y1
            have y2 := (ht2.cell (p := ⟨b', j * 2 + 1, none⟩) hb' id).trans y2
            have HJ2 := Lib.hid (HJ.out.same ht2)
            clear ht ht2 HD HJ Z
            go_wp2_with fail
            go_quiet (fail)
            go_wp2_with fail
            go_roundw
            case rel => exact ⟨j + 1, by go_num, hlt2, HJ2.out.drewN _⟩
            case measure => simp [intOf]; omega
          · have HJ := Lib.hid ht
            clear ht
            go_wp2_with fail
            go_ret
            exact ⟨rfl, H3.out.same HJ.out⟩
end Go.Proofs.YtdcknacjeilifaaDoor
