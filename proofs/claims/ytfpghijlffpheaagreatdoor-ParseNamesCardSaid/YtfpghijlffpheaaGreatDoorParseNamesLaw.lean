/- The walk of the law ParseNames: it answers true, whatever the text. -/
import Derived.Test.YtfpghijlffpheaaGreatDoorParseShown
import Derived.Test.YtfpghijlffpheaaGreatDoorParseNames
import Derived.Test.YtfpghijlffpheaaGreatDoorRefFind
namespace Go.Proofs.YtfpghijlffpheaaGreatDoor
set_option maxRecDepth 8000
open Go.RowKit
open Lx (Bytes)

theorem name_cell {w w' : World} {B c i : Nat} {A : Option Addr} (h : w.ownsRow B 9 1 (.slice A 65 c) 65 (Px.names.map strV)) (ht : Turns Nothing w w') (hi : i < 65) :
    ∃ b, A = some ⟨b, 0, none⟩ ∧ b < w'.heap.size ∧ w'.cell? ⟨b, i, none⟩ = some (strV (Px.names[i]?.getD [])) := by
  have h' := ht.own h fun _ _ => id
  rcases h'.2 with ⟨e, h0⟩ | ⟨g, cap, cur, e, hb, hg, _⟩
  · omega
  · injection e with e1
    subst e1
    refine ⟨g, rfl, (Array.getElem?_eq_some_iff.1 hg).1, ?_⟩
    rw [h'.cellAt _ (by omega), List.getElem?_map]
    have : i < Px.names.length := by rw [Px.names, List.length_map, Px.table_len]; exact hi
    rw [List.getElem?_eq_getElem this]
    rfl

/-- what Find and the document's Find answer: one and the same -/
theorem find_both (s : ByteArray) : ∃ (nm oo ofl : ByteArray) (ofe omo : Int) (ok : Bool) (ec : Int), (∀ W, Space W → Calls Tryz.prog 5 #[.string s] W fun e w' => e = .returned (.tuple #[.string nm, .int .i64 ec]) ∧ Turns Nothing W w') ∧
    (∀ W, Calls Tryz.prog 6 #[.string s] W fun e w' => e = .returned (.tuple #[.agg #[.string nm, .string oo, .string ofl, .int .i64 ofe, .int .i64 omo], .bool ok]) ∧ Turns Nothing W w') ∧ ((ok = true ∧ ec = 0) ∨ (ok = false ∧ ec = 10 ∧ nm = ⟨#[]⟩)) := by
  have h1 := fun W (h : Space W) => find_in h s
  have h2 := fun W => rfind_in W s
  generalize Px.found (sl s) = o at h1 h2
  cases o with
  | none => exact ⟨_, _, _, _, _, _, _, h1, h2, .inr ⟨rfl, rfl, rfl⟩⟩
  | some r => exact ⟨_, _, _, _, _, _, _, h1, h2, .inl ⟨rfl, rfl⟩⟩
/-- .. Table and the document's Whole -/
theorem table_both (s : ByteArray) : ∃ (qn qo fls : ByteArray) (fe mo : Int) (qi : Bool), (∀ W, Calls Tryz.prog 7 #[.string s] W fun e w' => e = .returned (.tuple #[.string fls, .int .i64 fe, .int .i64 mo]) ∧ Turns Nothing W w') ∧
    (∀ W, Calls Tryz.prog 8 #[.string s] W fun e w' => e = .returned (.tuple #[.agg #[.string qn, .string qo, .string fls, .int .i64 fe, .int .i64 mo], .bool qi]) ∧ Turns Nothing W w') :=
  ⟨_, _, _, _, _, _, fun W => table_of W s, fun W => rwhole_in W s⟩

set_option maxHeartbeats 2000000 in
theorem pnames_true {w : World} (hsp : Space w) (s : ByteArray) : Calls Tryz.prog 3 #[.string s] w fun e w' => e = .returned (.bool true) ∧ Turns Nothing w w' := by
  have HS := Lib.hid hsp
  clear hsp
  obtain ⟨nm, oo, ofl, ofe, omo, ok, ec, hf, hrf, hcase⟩ := find_both s
  obtain ⟨qn, qo, fls, fe, mo, qi, ht, hw⟩ := table_both s
  have HF := Lib.hid hf
  have HRF := Lib.hid hrf
  have HT := Lib.hid ht
  have HW := Lib.hid hw
  clear hf hrf ht hw
  rcases hcase with ⟨rfl, rfl⟩ | ⟨rfl, rfl, rfl⟩
  all_goals
    go_enter Tryz.func3, Tryz.ntmps3
    go_wp2_with fail
    refine (pshown_true HS.out).mono ?_
    rintro e w1 ⟨rfl, ht⟩
    have T1 := Lib.hid ht
    clear ht
    go_wp2_with fail
    refine (HF.out _ (HS.out.still T1.out)).mono ?_
    rintro e w2 ⟨rfl, ht⟩
    have T2 := Lib.hid (T1.out.same ht)
    clear ht T1
    go_wp2_with fail
    refine (HRF.out _).mono ?_
    rintro e w3 ⟨rfl, ht⟩
    have T3 := Lib.hid (T2.out.same ht)
    clear ht T2
    go_wp2_with fail
    refine (HT.out _).mono ?_
    rintro e w4 ⟨rfl, ht⟩
    have T4 := Lib.hid ((T3.out.alloc _).same ht)
    clear ht T3 HT
    go_wp2_with fail
    refine (HW.out _).mono ?_
    rintro e w5 ⟨rfl, ht⟩
    have T5 := Lib.hid (T4.out.same ht)
    clear ht T4 HW
    go_wp2_with fail
    refine (names_in _).mono ?_
    rintro e w6 ⟨A, cA, rfl, hA, ht⟩
    have B6 := Lib.hid (ht.blk (Blk.new w5 27 #[.string qn, .string qo, .string fls, .int .i64 fe, .int .i64 mo]) id)
    have T6 := Lib.hid ((T5.out.alloc _).same ht)
    have A6 := Lib.hid hA
    clear ht T5 hA
    go_wp2_with fail
    refine (rnames_in _).mono ?_
    rintro e w7 ⟨C, cC, rfl, hC, ht⟩
    have c2 := (ht.blk B6.out id).cell 2
    have c3 := (ht.blk B6.out id).cell 3
    have c4 := (ht.blk B6.out id).cell 4
    have cl := (ht.blk B6.out id).lt
    simp at c2 c3 c4
    have T7 := Lib.hid (T6.out.same ht)
    have A7 := Lib.hid (fun W (h : Turns Nothing w7 W) i (hi : i < 65) => And.intro (name_cell A6.out (ht.same h) hi) (name_cell hC h hi))
    clear ht T6 A6 B6 hC
    go_wp2_with fail
    clear c2 c3 c4 cl
    go_loopw [15] (fun i wr => ∃ k : Nat, i = .int .i64 k ∧ k ≤ 65 ∧ Turns Nothing w7 wr) (fun i _ => 65 - (intOf i).toNat)
    case atStart => exact ⟨0, rfl, Nat.zero_le _, Turns.refl _ _⟩
    case round =>
      obtain ⟨k, rfl, hk, hR⟩ := hrel
      by_cases hlt : k < 65
      · obtain ⟨⟨b, rfl, hb, p0⟩, ⟨d, rfl, hd, p1⟩⟩ := A7.out _ hR k hlt
        simp only [strV] at p0 p1
        generalize (⟨(Px.names[k]?.getD []).toArray⟩ : ByteArray) = nx at p0 p1
        have HR := Lib.hid hR
        clear hR
        go_wp2_with fail
        go_quiet (fail)
        go_wp2_with fail
        go_roundw
        case rel => exact ⟨k + 1, by go_num, hlt, HR.out.drewN _⟩
        case measure => simp [intOf]; omega
      · have HR := Lib.hid hR
        clear hR
        go_wp2_with fail
        go_ret
        exact ⟨rfl, T7.out.same HR.out⟩
end Go.Proofs.YtfpghijlffpheaaGreatDoor
