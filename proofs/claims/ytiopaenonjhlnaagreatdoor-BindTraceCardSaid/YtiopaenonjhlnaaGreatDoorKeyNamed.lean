/- The walk of package cell: within, Width. The walk of package key: named, mouse, Right, Name. -/
import Derived.Test.YtiopaenonjhlnaaGreatDoorParseMem
import Derived.Test.YtiopaenonjhlnaaGreatDoorParseTakes
import Derived.Test.YtiopaenonjhlnaaGreatDoorBindPure
namespace Go.Proofs.YtiopaenonjhlnaaGreatDoor
set_option maxRecDepth 8000
open Go.RowKit
open Lx (Bytes)

def pairCells (l : List (Int × Int)) : List Value := l.flatMap fun x => [.int .i32 x.1, .int .i32 x.2]
theorem pairCells_at : ∀ (l : List (Int × Int)) (i : Nat) (h : i < l.length), (pairCells l)[i * 2]? = some (.int .i32 l[i].1) ∧ (pairCells l)[i * 2 + 1]? = some (.int .i32 l[i].2)
  | x :: l, 0, _ => ⟨rfl, rfl⟩
  | x :: l, i + 1, h => by
    have := pairCells_at l i (by simpa using h)
    have e : pairCells (x :: l) = .int .i32 x.1 :: .int .i32 x.2 :: pairCells l := rfl
    rw [e, show (i + 1) * 2 = i * 2 + 2 by omega]
    simpa using this
def inP (r : Int) (l : List (Int × Int)) : Bool := l.any fun x => decide (x.1 ≤ r) && decide (r ≤ x.2)
theorem inP_drop {r : Int} {l : List (Int × Int)} {k : Nat} (h : k < l.length) : inP r (l.drop k) = (decide (l[k].1 ≤ r) && decide (r ≤ l[k].2) || inP r (l.drop (k + 1))) := by
  rw [List.drop_eq_getElem_cons h]
  rfl
set_option maxHeartbeats 1000000 in
theorem within_in {w : World} {b c : Nat} (r : Int) (l : List (Int × Int)) (hb : Blk w b 198 (pairCells l).toArray) (hl : l.length ≤ 100) :
    Calls Tryz.prog 109 #[.int .i32 r, .slice (some ⟨b, 0, none⟩) l.length c] w fun e w' => e = .returned (.bool (inP r l)) ∧ Turns Nothing w w' := by
  have HB := Lib.hid hb
  have hl2 : (l.length : Int) ≤ 100 := by omega
  have H0 := Lib.hid (show inP r (l.drop 0) = inP r l from rfl)
  clear hb
  go_enter Tryz.func109, Tryz.ntmps109
  go_wp2_with fail
  go_loopw [9] (fun i wr => ∃ k : Nat, i = .int .i64 k ∧ k ≤ l.length ∧ inP r (l.drop k) = inP r l ∧ Turns Nothing w wr) (fun i _ => l.length - (intOf i).toNat)
  case atStart => exact ⟨0, rfl, Nat.zero_le _, H0.out, Turns.refl _ _⟩
  case round =>
    obtain ⟨k, rfl, hk, hs, ht⟩ := hrel
    have HT := Lib.hid ht
    have HS := Lib.hid hs
    clear ht hs H0
    by_cases hlt : k < l.length
    · have hB := HT.out.blk HB.out id
      have hc := pairCells_at l k hlt
      have c0 := (hB.cell (k * 2)).trans (by simpa using hc.1)
      have c1 := (hB.cell (k * 2 + 1)).trans (by simpa using hc.2)
      have hz := hB.lt
      have hd := inP_drop (r := r) hlt
      rw [HS.out] at hd
      have HD := Lib.hid hd
      clear hB hc hd
      generalize l[k] = x at c0 c1 HD
      obtain ⟨lo, hi⟩ := x
      dsimp only at c0 c1 HD
      by_cases h1 : lo ≤ r
      · have d1 : decide (lo ≤ r) = true := decide_eq_true h1
        by_cases h2 : r ≤ hi
        · have d2 : decide (r ≤ hi) = true := decide_eq_true h2
          have HE := Lib.hid (show inP r l = true by rw [HD.out, d1, d2]; rfl)
          go_wp2_with fail
          go_ret
          exact ⟨by rw [HE.out]; rfl, HT.out.alloc _⟩
        · have d2 : decide (r ≤ hi) = false := decide_eq_false h2
          have HE := Lib.hid (show inP r (l.drop (k + 1)) = inP r l by rw [HD.out, d2, Bool.and_false, Bool.false_or])
          go_wp2_with fail
          go_roundw
          case rel => exact ⟨k + 1, by go_num, hlt, HE.out, HT.out.alloc _⟩
          case measure => simp [intOf]; omega
      · have d1 : decide (lo ≤ r) = false := decide_eq_false h1
        have HE := Lib.hid (show inP r (l.drop (k + 1)) = inP r l by rw [HD.out, d1, Bool.false_and, Bool.false_or])
        go_wp2_with fail
        go_roundw
        case rel => exact ⟨k + 1, by go_num, hlt, HE.out, HT.out.alloc _⟩
        case measure => simp [intOf]; omega
    · have HE := Lib.hid (show inP r l = false by rw [← HS.out, List.drop_eq_nil_of_le (by omega)]; rfl)
      go_wp2_with fail
      go_ret
      exact ⟨by rw [HE.out]; rfl, HT.out⟩
def zeroL : List (Int × Int) := [(768, 879), (8203, 8207), (65024, 65039)]
def wideL : List (Int × Int) := [(4352, 4447), (11904, 12350), (12353, 19903), (19968, 42191), (44032, 55203), (63744, 64255), (65072, 65135), (65280, 65376), (65504, 65510), (127744, 128591), (129280, 129535), (131072, 262141)]
def widthP (r : Int) : Int := if r < 32 ∨ 1114111 < r ∨ inP r [(127, 159)] = true then -1 else if inP r zeroL then 0 else if inP r wideL then 2 else 1
set_option maxHeartbeats 2000000 in
theorem width_in (w : World) (r : Int) : Calls Tryz.prog 66 #[.int .i32 r] w fun e w' => e = .returned (.int .i64 (widthP r)) ∧ Turns Nothing w w' := by
  by_cases h1 : r < 32
  · have d1 : decide (r < 32) = true := decide_eq_true h1
    have HE := Lib.hid (show widthP r = -1 by rw [widthP, if_pos (.inl h1)])
    go_enter Tryz.func66, Tryz.ntmps66
    go_wp2_with fail
    go_ret
    exact ⟨by rw [HE.out]; rfl, Turns.refl _ _⟩
  · have d1 : decide (r < 32) = false := decide_eq_false h1
    by_cases h2 : 1114111 < r
    · have d2 : decide (1114111 < r) = true := decide_eq_true h2
      have HE := Lib.hid (show widthP r = -1 by rw [widthP, if_pos (.inr (.inl h2))])
      go_enter Tryz.func66, Tryz.ntmps66
      go_wp2_with fail
      go_ret
      exact ⟨by rw [HE.out]; rfl, Turns.refl _ _⟩
    · have d2 : decide (1114111 < r) = false := decide_eq_false h2
      have HW1 := Lib.hid (within_in (w := w.alloc (.cells #[.int .i32 127, .int .i32 159] 198)) (c := 1) r [(127, 159)] (Blk.new w 198 #[.int .i32 127, .int .i32 159]) (by decide))
      have HWP := Lib.hid (show widthP r = if inP r [(127, 159)] = true then -1 else if inP r zeroL then 0 else if inP r wideL then 2 else 1 by simp [widthP, h1, h2])
      generalize inP r [(127, 159)] = b1 at HW1 HWP
      go_enter Tryz.func66, Tryz.ntmps66
      go_wp2_with fail
      refine HW1.out.mono ?_
      rintro e w1 ⟨rfl, ht⟩
      have T1 := Lib.hid (((Turns.refl Nothing w).alloc _).same ht)
      clear ht HW1
      cases b1 with
      | true =>
        go_wp2_with fail
        go_ret
        exact ⟨by rw [HWP.out]; rfl, T1.out⟩
      | false =>
        have HW2 := Lib.hid (within_in (w := w1.alloc (.cells #[.int .i32 768, .int .i32 879, .int .i32 8203, .int .i32 8207, .int .i32 65024, .int .i32 65039] 198)) (c := 3) r zeroL (Blk.new w1 198 #[.int .i32 768, .int .i32 879, .int .i32 8203, .int .i32 8207, .int .i32 65024, .int .i32 65039]) (by decide))
        generalize inP r zeroL = b2 at HW2 HWP
        go_wp2_with fail
        refine HW2.out.mono ?_
        rintro e w2 ⟨rfl, ht⟩
        have T2 := Lib.hid ((T1.out.alloc _).same ht)
        clear ht HW2 T1
        cases b2 with
        | true =>
          go_wp2_with fail
          go_ret
          exact ⟨by rw [HWP.out]; rfl, T2.out⟩
        | false =>
          have HW3 := Lib.hid (within_in (w := w2.alloc (.cells #[.int .i32 4352, .int .i32 4447, .int .i32 11904, .int .i32 12350, .int .i32 12353, .int .i32 19903, .int .i32 19968, .int .i32 42191, .int .i32 44032, .int .i32 55203, .int .i32 63744, .int .i32 64255, .int .i32 65072, .int .i32 65135, .int .i32 65280, .int .i32 65376, .int .i32 65504, .int .i32 65510, .int .i32 127744, .int .i32 128591, .int .i32 129280, .int .i32 129535, .int .i32 131072, .int .i32 262141] 198)) (c := 12) r wideL (Blk.new w2 198 #[.int .i32 4352, .int .i32 4447, .int .i32 11904, .int .i32 12350, .int .i32 12353, .int .i32 19903, .int .i32 19968, .int .i32 42191, .int .i32 44032, .int .i32 55203, .int .i32 63744, .int .i32 64255, .int .i32 65072, .int .i32 65135, .int .i32 65280, .int .i32 65376, .int .i32 65504, .int .i32 65510, .int .i32 127744, .int .i32 128591, .int .i32 129280, .int .i32 129535, .int .i32 131072, .int .i32 262141]) (by decide))
          generalize inP r wideL = b3 at HW3 HWP
          go_wp2_with fail
          refine HW3.out.mono ?_
          rintro e w3 ⟨rfl, ht⟩
          have T3 := Lib.hid ((T2.out.alloc _).same ht)
          clear ht HW3 T2
          cases b3 with
          | true =>
            go_wp2_with fail
            go_ret
            exact ⟨by rw [HWP.out]; rfl, T3.out⟩
          | false =>
            go_wp2_with fail
            go_ret
            exact ⟨by rw [HWP.out]; rfl, T3.out⟩
end Go.Proofs.YtiopaenonjhlnaaGreatDoor
namespace Go.Proofs.YtiopaenonjhlnaaGreatDoor
set_option maxRecDepth 8000
open Go.RowKit
open Lx (Bytes)

theorem width_eq (r : Int) : widthP r = Bx.width r := by
  have e1 : inP r [(127, 159)] = true ↔ 127 ≤ r ∧ r ≤ 159 := by simp [inP]
  have e2 : inP r zeroL = Bx.zeroR r := by
    rw [Bool.eq_iff_iff]
    simp [inP, zeroL, Bx.zeroR]
  have e3 : inP r wideL = Bx.wideR r := by
    rw [Bool.eq_iff_iff]
    simp [inP, wideL, Bx.wideR]
  unfold widthP Bx.width
  rw [e2, e3]
  have e4 : (r < 32 ∨ 1114111 < r ∨ inP r [(127, 159)] = true) ↔ (r < 32 ∨ r > 1114111 ∨ (127 ≤ r ∧ r ≤ 159)) := by rw [e1]
  by_cases h : r < 32 ∨ 1114111 < r ∨ inP r [(127, 159)] = true
  · rw [if_pos h, if_pos (e4.1 h)]
  · rw [if_neg h, if_neg (fun q => h (e4.2 q))]
theorem spec_any {l : Bytes} (hl : l = Bx.specialsT) {w : World} (h : Space w) : Calls Tryz.prog 64 #[.string ⟨l.toArray⟩] w fun e w' =>
    ∃ g, e = .returned (.slice (some ⟨g, 0, none⟩) 31 31) ∧ Blk w' g 9 (Bx.specials.map strV).toArray ∧ Turns Nothing w w' := by
  subst hl
  refine (Tryz.strings_Fields ⟨Bx.specialsT.toArray⟩ w ?_ (fun j b hb => ?_) h).mono ?_
  · show Bx.specialsT.toArray.size < _
    rw [List.size_toArray]
    exact Nat.lt_of_le_of_lt (show Bx.specialsT.length ≤ 1000 by decide +kernel) (by decide)
  · have hb : Bx.specialsT[j]? = some b := by simpa using hb
    have := List.all_eq_true.1 (show (Bx.specialsT.all fun b => decide (b.toNat < 128)) = true by decide +kernel) b (List.mem_of_getElem? hb)
    simpa using this
  · rintro e w' ⟨rfl, rfl⟩
    exact ⟨_, rfl, Blk.new w _ _, (Turns.refl _ w).alloc _⟩
theorem vrune_in (r : Int) (w : World) : Calls Tryz.prog 65 #[.int .i32 r] w fun e w' => e = .returned (.bool (Lib.validRune r)) ∧ w = w' := (Tryz.utf8_ValidRune r w).mono fun _ _ ⟨h1, h2⟩ => ⟨h1, h2.symm⟩
theorem A.rune_str (w : World) (c : Int) : (convert 21 9 (.int .i32 c)).run Tryz.prog w = .ok (.string (Utf8.encode c)) w := by
  simp [convert, run_underlying Tryz.underlying21, run_underlying Tryz.underlying9, Conv.intToString]
theorem strV_named {c : Int} {l : Bytes} (h : Bx.named c = l) : strV (Bx.named c) = .string ⟨l.toArray⟩ := by rw [h]
theorem named_far (i : Nat) (h : i < 31) : Bx.named (1114112 + i) = (Bx.specials[i]?).getD [] := by
  unfold Bx.named
  rw [if_neg (by omega), if_neg (by omega), if_neg (by omega), if_neg (by omega), if_pos (by omega)]
  rw [show (1114112 + (i : Int) - 1114112).toNat = i by omega]
theorem named_rune {c : Int} (h : ¬ c = 9 ∧ ¬ c = 13 ∧ ¬ c = 32 ∧ ¬ c = 127 ∧ ¬ (1114112 ≤ c ∧ c < 1114143)) : Bx.named c = if 32 < c ∧ c ≤ 1114111 ∧ Lib.validRune c = true ∧ 0 < widthP c then (Utf8.encode c).data.toList else [] := by
  unfold Bx.named
  rw [if_neg h.1, if_neg h.2.1, if_neg h.2.2.1, if_neg h.2.2.2.1, if_neg h.2.2.2.2, width_eq]
set_option maxHeartbeats 2000000 in
theorem named_in {w : World} (hsp : Space w) (c : Int) : Calls Tryz.prog 39 #[.int .i64 c] w fun e w' => e = .returned (strV (Bx.named c)) ∧ Turns Nothing w w' := by
  have HSP := Lib.hid hsp
  clear hsp
  by_cases h9 : c = 9
  · subst h9
    go_enter Tryz.func39, Tryz.ntmps39
    go_wp2_with fail
    go_ret
    exact ⟨rfl, Turns.refl _ _⟩
  have d9 : (c == 9) = false := beq_eq_false_iff_ne.2 h9
  by_cases h13 : c = 13
  · subst h13
    go_enter Tryz.func39, Tryz.ntmps39
    go_wp2_with fail
    go_ret
    exact ⟨rfl, Turns.refl _ _⟩
  have d13 : (c == 13) = false := beq_eq_false_iff_ne.2 h13
  by_cases h32 : c = 32
  · subst h32
    go_enter Tryz.func39, Tryz.ntmps39
    go_wp2_with fail
    go_ret
    exact ⟨rfl, Turns.refl _ _⟩
  have d32 : (c == 32) = false := beq_eq_false_iff_ne.2 h32
  by_cases h127 : c = 127
  · subst h127
    go_enter Tryz.func39, Tryz.ntmps39
    go_wp2_with fail
    go_ret
    exact ⟨rfl, Turns.refl _ _⟩
  have d127 : (c == 127) = false := beq_eq_false_iff_ne.2 h127
  by_cases hf : 1114112 ≤ c ∧ c < 1114143
  · obtain ⟨i, hi, rfl⟩ : ∃ i : Nat, i < 31 ∧ c = 1114112 + i := ⟨(c - 1114112).toNat, by omega, by omega⟩
    have HN := Lib.hid (named_far i hi)
    have HV := Lib.hid (show (Bx.specials.map strV).toArray[i]? = some (strV ((Bx.specials[i]?).getD [])) by
      have h31 : i < Bx.specials.length := by rw [show Bx.specials.length = 31 by decide +kernel]; exact hi
      simp [h31])
    have g1 : decide ((1114112 : Int) ≤ 1114112 + i) = true := decide_eq_true (by omega)
    have g2 : decide ((1114112 : Int) + i < 1114143) = true := decide_eq_true (by omega)
    have hi2 : (i : Int) < 31 := by omega
    have hsub : (1114112 : Int) + i - 1114112 = i := by omega
    go_enter Tryz.func39, Tryz.ntmps39
    go_wp2_with fail
    refine (spec_any (by decide +kernel) HSP.out).mono ?_
    rintro e w1 ⟨g, rfl, hB, ht⟩
    have c0 := (hB.cell i).trans HV.out
    have hg := hB.lt
    have HT := Lib.hid ht
    clear hB ht
    go_wp2_with fail
    go_ret
    exact ⟨by rw [HN.out]; rfl, HT.out⟩
  · have HN := Lib.hid (named_rune ⟨h9, h13, h32, h127, hf⟩)
    by_cases h1 : 32 < c
    · have e1 : decide (32 < c) = true := decide_eq_true h1
      by_cases h2 : c ≤ 1114111
      · have e2 : decide (c ≤ 1114111) = true := decide_eq_true h2
        have g1 : decide ((1114112 : Int) ≤ c) = false := decide_eq_false (by omega)
        have HR := Lib.hid (vrune_in c)
        generalize hv : Lib.validRune c = v at HR
        have HV := Lib.hid hv
        clear hv hf
        have HW := Lib.hid (width_in w c)
        cases v with
        | false =>
          go_enter Tryz.func39, Tryz.ntmps39
          go_wp2_with fail
          refine (HR.out _).mono ?_
          rintro e w' ⟨rfl, rfl⟩
          go_wp2_with fail
          go_ret
          exact ⟨by rw [HN.out, if_neg (fun h => by rw [HV.out] at h; exact absurd h.2.2.1 (by decide))]; rfl, Turns.refl _ _⟩
        | true =>
          generalize hwd : widthP c = n at HW
          have HWD := Lib.hid hwd
          clear hwd
          by_cases hn : 0 < n
          · have e3 : decide (0 < n) = true := decide_eq_true hn
            have HC := Lib.hid (fun W => A.rune_str W c)
            go_enter Tryz.func39, Tryz.ntmps39
            go_wp2_with fail
            refine (HR.out _).mono ?_
            rintro e w' ⟨rfl, rfl⟩
            go_wp2_with fail
            refine HW.out.mono ?_
            rintro e w1 ⟨rfl, ht⟩
            have HT := Lib.hid ht
            clear ht
            have hc := HC.out w1
            go_wp2_with fail
            go_ret
            exact ⟨by rw [HN.out, if_pos ⟨h1, h2, HV.out, by rw [HWD.out]; exact hn⟩]; rfl, HT.out⟩
          · have e3 : decide (0 < n) = false := decide_eq_false hn
            have HNN := Lib.hid hn
            clear hn
            go_enter Tryz.func39, Tryz.ntmps39
            go_wp2_with fail
            refine (HR.out _).mono ?_
            rintro e w' ⟨rfl, rfl⟩
            go_wp2_with fail
            refine HW.out.mono ?_
            rintro e w1 ⟨rfl, ht⟩
            have HT := Lib.hid ht
            clear ht
            go_wp2_with fail
            go_ret
            exact ⟨by rw [HN.out, if_neg (fun h => by rw [HWD.out] at h; have h1 := h.2.2.2; have h2 := HNN.out; omega)]; rfl, HT.out⟩
      · have e2 : decide (c ≤ 1114111) = false := decide_eq_false h2
        have H2 := Lib.hid h2
        have g2 : decide (c < 1114143) = false := decide_eq_false (by omega)
        go_enter Tryz.func39, Tryz.ntmps39
        go_wp2_with fail
        go_ret
        exact ⟨by rw [HN.out, if_neg (fun h => by have h1 := h.2.1; have h2 := H2.out; omega)]; rfl, Turns.refl _ _⟩
    · have e1 : decide (32 < c) = false := decide_eq_false h1
      have H1 := Lib.hid h1
      have g1 : decide ((1114112 : Int) ≤ c) = false := decide_eq_false (by omega)
      go_enter Tryz.func39, Tryz.ntmps39
      go_wp2_with fail
      go_ret
      exact ⟨by rw [HN.out, if_neg (fun h => by have h1 := h.1; have h2 := H1.out; omega)]; rfl, Turns.refl _ _⟩
end Go.Proofs.YtiopaenonjhlnaaGreatDoor
