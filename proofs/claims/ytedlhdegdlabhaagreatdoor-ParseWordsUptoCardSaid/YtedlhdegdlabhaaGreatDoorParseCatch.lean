/- The walk of the deferred closure of parse.Parse: what is thrown is caught. -/
import Derived.Test.YtedlhdegdlabhaaGreatDoorParseElse
import Derived.Test.YtedlhdegdlabhaaGreatDoorLexCatch
import Derived.Defers
import Derived.Recover
namespace Go.Proofs.YtedlhdegdlabhaaGreatDoor
set_option maxRecDepth 8000
open Go.RowKit
open Lx (Bytes)

theorem A.wrong_yes (e l : Int) (w : World) : (Instr.typeAssert (.iface 88 (.agg #[.int .i64 e, .int .i64 l])) 20 88 true).run Tryz.prog w = .ok (.tuple #[.agg #[.int .i64 e, .int .i64 l], .bool true]) w := by kernel_rfl
/-- what the closure leaves: the three results' cells written -/
structure PCaught (w : World) (a b c : Nat) (e l : Int) (w' : World) : Prop where
  ca : Blk w' a 41 #[.slice none 0 0]
  cb : Blk w' b 28 #[.int .i64 e]
  cc : Blk w' c 3 #[.int .i64 l]
  turns : Turns (fun k => k = a ∨ k = b ∨ k = c) w w'
def PClosePost (w : World) (a b c : Nat) (e l : Int) (ex : Exit) (act : Act) (w' : World) : Prop := (ex = .normal ∨ ex = .ret) ∧ act.defers = [] ∧ PCaught w a b c e l w'
theorem caught_at {w w1 : World} {a b c : Nat} {e l : Int} {x0 x1 x2 : Value} (ha : Blk w a 41 #[x0]) (hb : Blk w b 28 #[x1]) (hc : Blk w c 3 #[x2]) (hT : Turns Nothing w w1) :
    PCaught w a b c e l (((w1.setCell ⟨a, 0, none⟩ (.slice none 0 0)).setCell ⟨b, 0, none⟩ (.int .i64 e)).setCell ⟨c, 0, none⟩ (.int .i64 l)) := by
  have hab : a ≠ b := Blk.ne_ ha hb (by decide)
  have hac : a ≠ c := Blk.ne_ ha hc (by decide)
  have hbc : b ≠ c := Blk.ne_ hb hc (by decide)
  refine ⟨?_, ?_, ?_, ?_⟩
  · exact (((hT.blk ha id).set_ 0 _).far (p := ⟨b, 0, none⟩) hab _).far (p := ⟨c, 0, none⟩) hac _
  · exact (((hT.blk hb id).far (p := ⟨a, 0, none⟩) hab.symm _).set_ 0 _).far (p := ⟨c, 0, none⟩) hbc _
  · exact (((hT.blk hc id).far (p := ⟨a, 0, none⟩) hac.symm _).far (p := ⟨b, 0, none⟩) hbc.symm _).set_ 0 _
  · exact (((hT.mono fun _ _ e => e.elim).setCell (p := ⟨a, 0, none⟩) (.inl (.inl rfl)) _).setCell (p := ⟨b, 0, none⟩) (.inl (.inr (.inl rfl))) _).setCell (p := ⟨c, 0, none⟩) (.inl (.inr (.inr rfl))) _
theorem PCaught.later {w w1 w2 : World} {a b c : Nat} {e l : Int} (h : PCaught w a b c e l w1) (ht : Turns Nothing w1 w2) : PCaught w a b c e l w2 :=
  ⟨ht.blk h.ca id, ht.blk h.cb id, ht.blk h.cc id, h.turns.trans ht fun _ _ e => e.elim⟩
set_option maxHeartbeats 400000 in
theorem pcatch_panic (w : World) (a b c : Nat) (e l : Int) (x0 x1 x2 : Value) (ha : Blk w a 41 #[x0]) (hb : Blk w b 28 #[x1]) (hc : Blk w c 3 #[x2]) :
    CallsD Tryz.prog 36 #[.pointer (some ⟨a, 0, none⟩), .pointer (some ⟨b, 0, none⟩), .pointer (some ⟨c, 0, none⟩)] (.panicking (wrong e l)) w fun e' u' w' =>
      e' = .returned (.tuple #[]) ∧ u' = .panicking [{ v := .iface 88 (.agg #[.int .i64 e, .int .i64 l]), recovered := true }] ∧ PCaught w a b c e l w' := by
  have W1 := A.wrong_yes e l
  refine callsD_of_wpS Tryz.func36 rfl fun c₀ cs hu => ?_
  apply wpS_seq
  apply wpS_region
  unfold wrong at hu
  simp [wpOpsS, go_sem, recoverD, hu, Tryz.ntmps36, Exit.thenS]
  refine wpS_of_wp ?_
  clear hu
  refine Code.wp_mono (Q := PClosePost w a b c e l) ?_ ?_
  · rintro ex act w' ⟨hex, hd, hcau⟩
    rcases hex with rfl | rfl
    all_goals
      exact ⟨hd, _, rfl, .tuple #[], by simp [results, Tryz.results36], rfl, rfl, hcau⟩
  have ha0 := ha.cell 0
  have hb0 := hb.cell 0
  have hc0 := hc.cell 0
  simp at ha0 hb0 hc0
  have fa := ha.frozen 0
  have fb := hb.frozen 0
  have fc := hc.frozen 0
  have hal := ha.lt
  have hbl := hb.lt
  have hcl := hc.lt
  have hab : a ≠ b := Blk.ne_ ha hb (by decide)
  have hac : a ≠ c := Blk.ne_ ha hc (by decide)
  have hbc : b ≠ c := Blk.ne_ hb hc (by decide)
  have HB := Lib.hid (fun (W : World) => caught_at (w := w) (w1 := W) (e := e) (l := l) ha hb hc)
  clear ha hb hc
  refine wp_frame (tmps' := #[.pointer (some ⟨a, 0, none⟩), .pointer (some ⟨b, 0, none⟩), .pointer (some ⟨c, 0, none⟩), .iface 88 (.agg #[.int .i64 e, .int .i64 l]), undef, undef, .iface 88 (.agg #[.int .i64 e, .int .i64 l]), undef, undef, undef, undef, undef, undef, undef, undef, undef, undef, undef, undef, undef, undef, undef]) (by kernel_rfl) ?_
  go_wp2_with fail
  go_region
  all_goals
    go_wp2_with fail
    exact ⟨.inl rfl, rfl, (HB.out _ (Turns.refl _ w)).later (((Turns.refl _ _).alloc _).drewN 1)⟩
set_option maxHeartbeats 400000 in
/-- nothing is thrown: nothing happens -/
theorem pcatch_idle (w : World) (args : Array Value) (a b c : Nat) (hargs : args = #[.pointer (some ⟨a, 0, none⟩), .pointer (some ⟨b, 0, none⟩), .pointer (some ⟨c, 0, none⟩)]) :
    CallsD Tryz.prog 36 args .returning w fun e' u' w' => e' = .returned (.tuple #[]) ∧ u' = .returning ∧ Turns Nothing w w' := by
  subst hargs
  refine callsD_of_wpS Tryz.func36 rfl fun c₀ cs hu => ?_
  apply wpS_seq
  apply wpS_region
  simp [wpOpsS, go_sem, recoverD, hu, Tryz.ntmps36, Exit.thenS]
  refine wpS_of_wp ?_
  refine Code.wp_mono (Q := fun ex act w' => (ex = .normal ∨ ex = .ret) ∧ act.defers = [] ∧ Turns Nothing w w') ?_ ?_
  · rintro ex act w' ⟨hex, hd, ht⟩
    rcases hex with rfl | rfl
    all_goals
      refine ⟨hd, .returning, ?_, .tuple #[], by simp [results, Tryz.results36], rfl, rfl, ht⟩
      cases c₀
      simp_all
  clear hu
  refine wp_frame (tmps' := #[.pointer (some ⟨a, 0, none⟩), .pointer (some ⟨b, 0, none⟩), .pointer (some ⟨c, 0, none⟩), .nilIface, undef, undef, .nilIface, undef, undef, undef, undef, undef, undef, undef, undef, undef, undef, undef, undef, undef, undef, undef]) (by kernel_rfl) ?_
  go_wp2_with fail
  exact Turns.refl _ w
end Go.Proofs.YtedlhdegdlabhaaGreatDoor
