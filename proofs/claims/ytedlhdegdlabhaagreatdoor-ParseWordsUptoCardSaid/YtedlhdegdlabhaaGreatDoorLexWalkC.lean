/- The walks of package lex's reader, third part: over, name, value. -/
import Derived.Test.YtedlhdegdlabhaaGreatDoorLexWalkB
import Derived.Test.YtedlhdegdlabhaaGreatDoorShelf
namespace Go.Proofs.YtedlhdegdlabhaaGreatDoor
set_option maxRecDepth 8000
open Go.RowKit
open Lx (Bytes)

/-! a byte among the bytes of a constant -/
theorem ib_one (x c : UInt8) (l : Bytes) : decide (0 ≤ Lib.indexByte (x :: l) c) = (x == c || decide (0 ≤ Lib.indexByte l c)) := by
  have h := Lib.indexByte_ge l c
  simp only [Lib.indexByte]
  by_cases e : x == c
  · simp [e]
  · simp only [e]
    by_cases e2 : Lib.indexByte l c == -1
    · simp only [e2]; have := eq_of_beq e2; simp [this]
    · simp only [e2]
      have : ¬ Lib.indexByte l c = -1 := fun q => e2 (by simp [q])
      have h0 : 0 ≤ Lib.indexByte l c := by omega
      simp [h0]; omega
theorem ib_none (c : UInt8) : decide (0 ≤ Lib.indexByte [] c) = false := by simp [Lib.indexByte]
theorem over_is (b : UInt8) (r : Bytes) : Lx.over (b :: r) = decide (0 ≤ Lib.indexByte [32, 9, 10, 59] b) := by
  rw [ib_one, ib_one, ib_one, ib_one, ib_none]
  simp only [Lx.over, Bool.or_false, BEq.comm (a := b)]
  simp only [Bool.or_assoc]
theorem toU8 (b : UInt8) : ((b.toNat : Int)).toNat.toUInt8 = b := by simp

theorem ibc (s : ByteArray) (l : Bytes) (hl : s.data.toList = l) (b : UInt8) (w : World) : Calls Tryz.prog 49 #[.string s, .int .u8 b.toNat] w fun e w' => e = .returned (.int .i64 (Lib.indexByte l b)) ∧ w = w' :=
  (Tryz.strings_IndexByte s b.toNat w).mono fun e w' ⟨he, hw⟩ => ⟨by rw [he, toU8, hl], hw.symm⟩

set_option maxHeartbeats 400000 in
theorem over_any {w : World} {c : Cfg} {k : Nat} {tx : Value} {t : Bytes} (h : Ctx w c k tx t) :
    Calls Tryz.prog 102 #[.pointer (some ⟨c.R, 0, none⟩)] w fun e w' => e = .returned (.bool (Lx.over ((sl c.s).drop k))) ∧ ∃ n, w' = w.drewN n := by
  rcases hd : (sl c.s).drop k with _ | ⟨b, r⟩
  · have hp := Lib.hid (peek_none h hd)
    clear h hd
    go_enter Tryz.func102, Tryz.ntmps102
    go_wp2_with fail
    refine hp.out.mono ?_
    rintro e w1 ⟨rfl, n, rfl⟩
    go_wp2_with fail
    go_ret
    exact ⟨rfl, n, rfl⟩
  · have hp := Lib.hid (peek_some h hd)
    have ho := Lib.hid (over_is b r)
    clear h hd
    go_enter Tryz.func102, Tryz.ntmps102
    go_wp2_with fail
    refine hp.out.mono ?_
    rintro e w1 ⟨rfl, n, rfl⟩
    go_wp2_with fail
    refine (ibc _ _ rfl b _).mono ?_
    rintro e w1 ⟨rfl, rfl⟩
    go_wp2_with fail
    go_ret
    refine ⟨?_, n, rfl⟩
    rw [ho.out]
    rfl
end Go.Proofs.YtedlhdegdlabhaaGreatDoor
