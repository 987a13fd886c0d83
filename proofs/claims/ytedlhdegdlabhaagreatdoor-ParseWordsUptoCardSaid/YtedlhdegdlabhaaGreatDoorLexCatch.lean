/- The walk of the deferred closure of lex.Split: what is thrown is caught. -/
import Derived.Test.YtedlhdegdlabhaaGreatDoorLexWords
import Derived.Defers
import Derived.Recover
import Derived.Laws.Pointers
namespace Go.Proofs.YtedlhdegdlabhaaGreatDoor
set_option maxRecDepth 8000
open Go.RowKit
open Lx (Bytes)

theorem A.assert_yes (e l : Int) (w : World) : (Instr.typeAssert (.iface 119 (.agg #[.int .i64 e, .int .i64 l])) 20 119 true).run Tryz.prog w = .ok (.tuple #[.agg #[.int .i64 e, .int .i64 l], .bool true]) w := by kernel_rfl
theorem A.assert_no (w : World) : (Instr.typeAssert .nilIface 20 119 true).run Tryz.prog w = .ok (.tuple #[.agg #[.int .i64 0, .int .i64 0], .bool false]) w := by kernel_rfl
theorem wp_frame {P : Program} {co : Code} {Q : Exit → Act → World → Prop} {tmps tmps' : Array Value} {d : List Deferred} {w : World} (h : tmps = tmps') (hw : co.wp P Q { tmps := tmps', defers := d } w) : co.wp P Q { tmps := tmps, defers := d } w := by rw [h]; exact hw
theorem cell_new {w0 w1 : World} {cs : Array Value} {t : TypeId} {i : Nat} {v : Option Value} (h : w1.heap.size = w0.heap.size) (hv : cs[i]? = v) : ((w1.alloc (.cells cs t)).drew).cell? ⟨w0.heap.size, i, none⟩ = v := by
  show (w1.alloc (.cells cs t)).cell? _ = _
  rw [← h, (Blk.new w1 t cs).cell]; exact hv
/-- what the closure leaves: the three results' cells written -/
structure Caught (w : World) (a b c : Nat) (e l : Int) (w' : World) : Prop where
  ca : w'.cell? ⟨a, 0, none⟩ = some (.slice none 0 0)
  cb : w'.cell? ⟨b, 0, none⟩ = some (.int .i64 e)
  cc : w'.cell? ⟨c, 0, none⟩ = some (.int .i64 l)
  turns : Turns (fun k => k = a ∨ k = b ∨ k = c) w w'
def ClosePost (w : World) (a b c : Nat) (e l : Int) (ex : Exit) (act : Act) (w' : World) : Prop := (ex = .normal ∨ ex = .ret) ∧ act.defers = [] ∧ Caught w a b c e l w'
set_option maxHeartbeats 400000 in
theorem catch_panic (w : World) (a b c : Nat) (e l : Int) (x0 x1 x2 : Value) (ha : w.cell? ⟨a, 0, none⟩ = some x0) (hb : w.cell? ⟨b, 0, none⟩ = some x1) (hc : w.cell? ⟨c, 0, none⟩ = some x2)
    (fa : w.frozen? ⟨a, 0, none⟩ = false) (fb : w.frozen? ⟨b, 0, none⟩ = false) (fc : w.frozen? ⟨c, 0, none⟩ = false) (hab : a ≠ b) (hac : a ≠ c) (hbc : b ≠ c) (la : a < w.heap.size) (lb : b < w.heap.size) (lc : c < w.heap.size) :
    CallsD Tryz.prog 55 #[.pointer (some ⟨a, 0, none⟩), .pointer (some ⟨b, 0, none⟩), .pointer (some ⟨c, 0, none⟩)] (.panicking (trouble e l)) w fun e' u' w' =>
      e' = .returned (.tuple #[]) ∧ u' = .panicking [{ v := .iface 119 (.agg #[.int .i64 e, .int .i64 l]), recovered := true }] ∧ Caught w a b c e l w' := by
  refine callsD_of_wpS Tryz.func55 rfl fun c₀ cs hu => ?_
  apply wpS_seq
  apply wpS_region
  unfold trouble at hu
  simp [wpOpsS, go_sem, recoverD, hu, Tryz.ntmps55, Exit.thenS, A.assert_yes]
  refine wpS_of_wp ?_
  have hT : ∀ w', Turns (fun k => k = a ∨ k = b ∨ k = c) (w.alloc (.cells #[.int .i64 e, .int .i64 l] 119)) w' → Turns (fun k => k = a ∨ k = b ∨ k = c) w w' := fun w' h => ((Turns.refl _ w).alloc _).same h
  have HT := Lib.hid hT
  clear hT hu
  have na : a ≠ w.heap.size := by omega
  have nb : b ≠ w.heap.size := by omega
  have nc : c ≠ w.heap.size := by omega
  refine Code.wp_mono (Q := ClosePost w a b c e l) ?_ ?_
  · rintro ex act w' ⟨hex, hd, hcau⟩
    rcases hex with rfl | rfl
    all_goals
      exact ⟨hd, _, rfl, .tuple #[], by simp [results, Tryz.results55], rfl, rfl, hcau⟩
  refine wp_frame (tmps' := #[.pointer (some ⟨a, 0, none⟩), .pointer (some ⟨b, 0, none⟩), .pointer (some ⟨c, 0, none⟩), .pointer (some ⟨w.heap.size, 0, none⟩), .bool true, .tuple #[.agg #[.int .i64 e, .int .i64 l], .bool true], .iface 119 (.agg #[.int .i64 e, .int .i64 l]), .tuple #[.agg #[.int .i64 e, .int .i64 l], .bool true], .agg #[.int .i64 e, .int .i64 l], .bool true, undef, undef, undef, undef, undef]) (by kernel_rfl) ?_
  go_wp2_with fail
  go_region_held3 (fun w' => w'.cell? ⟨w.heap.size, 0, none⟩ = some (.int .i64 e) ∧ w'.cell? ⟨w.heap.size, 1, none⟩ = some (.int .i64 l)) (first | (refine ⟨?_, ?_⟩ <;> exact cell_new (by simp [World.setCell]) rfl) | go_keep) (fail)
  all_goals
    go_wp2_with fail
    refine ⟨.inl rfl, rfl, ⟨?_, ?_, ?_, ?_⟩⟩
    · show ((_ : World).alloc _).cell? _ = _
      rw [World.cell?_alloc_lt _ _ _ (by simpa [World.setCell] using la)]
      rw [World.cell?_setCell_other _ _ _ _ (by simp), World.cell?_setCell_other _ _ _ _ (by simp), World.cell?_setCell_same _ _ _ ha]
    · show ((_ : World).alloc _).cell? _ = _
      rw [World.cell?_alloc_lt _ _ _ (by simpa [World.setCell] using lb)]
      rw [World.cell?_setCell_other _ _ _ _ (by simp), World.cell?_setCell_same _ _ _ ((World.cell?_setCell_other _ _ _ _ (by simp)).trans hb)]
    · show ((_ : World).alloc _).cell? _ = _
      rw [World.cell?_alloc_lt _ _ _ (by simpa [World.setCell] using lc)]
      rw [World.cell?_setCell_same _ _ _ ((World.cell?_setCell_other _ _ _ _ (by simp)).trans ((World.cell?_setCell_other _ _ _ _ (by simp)).trans hc))]
    · exact ((((Turns.refl _ w).setCell (p := ⟨a, 0, none⟩) (.inl (.inl rfl)) _).setCell (p := ⟨b, 0, none⟩) (.inl (.inr (.inl rfl))) _).setCell (p := ⟨c, 0, none⟩) (.inl (.inr (.inr rfl))) _).alloc _ |>.drewN 1

set_option maxHeartbeats 400000 in
/-- nothing is thrown: nothing happens -/
theorem catch_idle (w : World) (args : Array Value) (a b c : Nat) (hargs : args = #[.pointer (some ⟨a, 0, none⟩), .pointer (some ⟨b, 0, none⟩), .pointer (some ⟨c, 0, none⟩)]) :
    CallsD Tryz.prog 55 args .returning w fun e' u' w' => e' = .returned (.tuple #[]) ∧ u' = .returning ∧ Turns Nothing w w' := by
  subst hargs
  refine callsD_of_wpS Tryz.func55 rfl fun c₀ cs hu => ?_
  apply wpS_seq
  apply wpS_region
  simp [wpOpsS, go_sem, recoverD, hu, Tryz.ntmps55, Exit.thenS, A.assert_no]
  refine wpS_of_wp ?_
  refine Code.wp_mono (Q := fun ex act w' => (ex = .normal ∨ ex = .ret) ∧ act.defers = [] ∧ Turns Nothing w w') ?_ ?_
  · rintro ex act w' ⟨hex, hd, ht⟩
    rcases hex with rfl | rfl
    all_goals
      refine ⟨hd, .returning, ?_, .tuple #[], by simp [results, Tryz.results55], rfl, rfl, ht⟩
      cases c₀
      simp_all
  clear hu
  refine wp_frame (tmps' := #[.pointer (some ⟨a, 0, none⟩), .pointer (some ⟨b, 0, none⟩), .pointer (some ⟨c, 0, none⟩), .pointer (some ⟨w.heap.size, 0, none⟩), .bool false, .tuple #[.agg #[.int .i64 0, .int .i64 0], .bool false], .nilIface, .tuple #[.agg #[.int .i64 0, .int .i64 0], .bool false], .agg #[.int .i64 0, .int .i64 0], .bool false, undef, undef, undef, undef, undef]) (by kernel_rfl) ?_
  go_wp2_with fail
  exact (Turns.refl _ w).alloc _
end Go.Proofs.YtedlhdegdlabhaaGreatDoor
