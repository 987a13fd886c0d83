/- The walks of package format at the text #{x}, where the scope has no variable: it comes to nothing. -/
import Derived.Test.YtedlhdegdlabhaaGreatDoorParseMem
import Derived.Test.YtedlhdegdlabhaaGreatDoorLexWalkB
import Derived.Test.YtedlhdegdlabhaaGreatDoorShelf
import Derived.Defers
import Derived.Recover
import Derived.Laws.Pointers
namespace Go.Proofs.YtedlhdegdlabhaaGreatDoor
set_option maxRecDepth 8000
open Go.RowKit
open Lx (Bytes)

abbrev bX : ByteArray := ⟨#[120]⟩
abbrev bText : ByteArray := ⟨#[35, 123, 120, 125]⟩
/-- the maker, and its one scope -/
structure MakerAt (w : World) (M S : Nat) (deep steps : Int) : Prop where
  mb : Blk w M 179 #[.slice (some ⟨S, 0, none⟩) 1 1, .int .i64 deep, .int .i64 steps]
  sc : Blk w S 49 #[.slice none 0 0, .slice none 0 0]
  ne : M ≠ S
theorem MakerAt.cells {w : World} {M S : Nat} {deep steps : Int} (h : MakerAt w M S deep steps) : w.cell? ⟨M, 0, none⟩ = some (.slice (some ⟨S, 0, none⟩) 1 1) ∧ w.cell? ⟨M, 1, none⟩ = some (.int .i64 deep) ∧ w.cell? ⟨M, 2, none⟩ = some (.int .i64 steps) ∧
    w.cell? ⟨S, 0, none⟩ = some (.slice none 0 0) ∧ w.cell? ⟨S, 1, none⟩ = some (.slice none 0 0) ∧ w.frozen? ⟨M, 1, none⟩ = false ∧ w.frozen? ⟨M, 2, none⟩ = false :=
  ⟨h.mb.cell 0, h.mb.cell 1, h.mb.cell 2, h.sc.cell 0, h.sc.cell 1, h.mb.frozen 1, h.mb.frozen 2⟩
theorem MakerAt.still {w w' : World} {M S : Nat} {deep steps : Int} (h : MakerAt w M S deep steps) (ht : Turns Nothing w w') : MakerAt w' M S deep steps := ⟨ht.blk h.mb id, ht.blk h.sc id, h.ne⟩

set_option maxHeartbeats 1000000 in
theorem fmust_yes (w : World) (e : Int) : Calls Tryz.prog 124 #[.bool true, .int .i64 e] w fun en w' => en = .returned (.tuple #[]) ∧ w = w' := by
  go_enter Tryz.func124, Tryz.ntmps124
  go_wp2_with fail
  go_end0
  exact ⟨rfl, rfl⟩
set_option maxHeartbeats 1000000 in
theorem short_nil (w : World) : Calls Tryz.prog 132 #[.string ⟨#[]⟩] w fun e w' => e = .returned (.string ⟨#[]⟩) ∧ w = w' := by
  go_enter Tryz.func132, Tryz.ntmps132
  go_wp2_with (go_at_call 124; refine (fmust_yes _ _).mono ?_; rintro en w' ⟨rfl, rfl⟩)
  go_ret
  exact ⟨rfl, rfl⟩
set_option maxHeartbeats 1000000 in
theorem true_nil (w : World) : Calls Tryz.prog 59 #[.string ⟨#[]⟩] w fun e w' => e = .returned (.bool false) ∧ w' = w := by
  go_enter Tryz.func59, Tryz.ntmps59
  go_wp2_with fail
  go_ret
  exact ⟨rfl, rfl⟩
set_option maxHeartbeats 1000000 in
theorem closing_x (w : World) : Calls Tryz.prog 123 #[.string bText, .int .i64 2] w fun e w' => e = .returned (.int .i64 3) ∧ Turns Nothing w w' := by
  go_enter Tryz.func123, Tryz.ntmps123
  go_wp2_with fail
  refine wp_loop_rounds 2 ?_
  rw [rounds_succ]
  go_wp2_with fail
  rw [rounds_succ]
  go_wp2_with fail
  go_ret
  exact ⟨rfl, Turns.refl _ _⟩
set_option maxHeartbeats 1000000 in
theorem outside_x (w : World) : Calls Tryz.prog 137 #[.string bX, .int .u8 58] w fun e w' => e = .returned (.int .i64 (-1)) ∧ Turns Nothing w w' := by
  go_enter Tryz.func137, Tryz.ntmps137
  go_wp2_with fail
  refine wp_loop_rounds 2 ?_
  rw [rounds_succ]
  go_wp2_with fail
  rw [rounds_succ]
  go_wp2_with fail
  go_ret
  exact ⟨rfl, Turns.refl _ _⟩
set_option maxHeartbeats 1000000 in
theorem in_nil (w : World) (nm : ByteArray) : Calls Tryz.prog 134 #[.agg #[.slice none 0 0, .slice none 0 0], .string nm] w fun e w' => e = .returned (.tuple #[.string ⟨#[]⟩, .bool false]) ∧ Turns Nothing w w' := by
  go_enter Tryz.func134, Tryz.ntmps134
  go_wp2_with fail
  refine wp_loop_rounds 1 ?_
  rw [rounds_succ]
  go_wp2_with fail
  refine bodyPost_ret (results_tmp2 rfl _ _ _) rfl ?_
  exact ⟨rfl, (Turns.refl _ _).alloc _⟩
set_option maxHeartbeats 1000000 in
theorem value_x {w : World} {M S : Nat} {deep steps : Int} (h : MakerAt w M S deep steps) (nm : ByteArray) : Calls Tryz.prog 127 #[.pointer (some ⟨M, 0, none⟩), .string nm] w fun e w' => e = .returned (.tuple #[.string ⟨#[]⟩, .bool false]) ∧ Turns Nothing w w' := by
  obtain ⟨c0, c1, c2, s0, s1, -, -⟩ := h.cells
  have H := Lib.hid h
  clear h
  go_enter Tryz.func127, Tryz.ntmps127
  go_wp2_with fail
  refine wp_loop_rounds 2 ?_
  rw [rounds_succ]
  go_wp2_with (go_at_call 134; refine (in_nil _ _).mono ?_; rintro en w1 ⟨rfl, ht⟩; have HT := Lib.hid ht; clear ht)
  rw [rounds_succ]
  go_wp2_with fail
  refine bodyPost_ret (results_tmp2 rfl _ _ _) rfl ?_
  exact ⟨rfl, HT.out⟩
set_option maxHeartbeats 1000000 in
theorem made_x {w : World} {M S : Nat} {deep steps : Int} (h : MakerAt w M S deep steps) : Calls Tryz.prog 133 #[.pointer (some ⟨M, 0, none⟩), .string bX] w fun e w' => e = .returned (.string ⟨#[]⟩) ∧ Turns Nothing w w' := by
  have H := Lib.hid h
  clear h
  go_enter Tryz.func133, Tryz.ntmps133
  go_wp2_with fail
  refine (Tryz.strings_CutPrefix _ _ _).mono ?_
  rintro e w1 ⟨rfl, rfl⟩
  go_wp2_with fail
  refine (outside_x _).mono ?_
  rintro e w2 ⟨rfl, ht⟩
  have H2 := Lib.hid (H.out.still ht)
  have HT := Lib.hid ht
  clear ht
  go_wp2_with fail
  refine (value_x H2.out _).mono ?_
  rintro e w3 ⟨rfl, ht⟩
  have HT2 := Lib.hid (HT.out.same ht)
  clear ht
  go_wp2_with fail
  go_ret
  exact ⟨rfl, HT2.out⟩
set_option maxHeartbeats 1000000 in
theorem step_x {w : World} {M S : Nat} {deep : Int} (h : MakerAt w M S deep 0) : Calls Tryz.prog 131 #[.pointer (some ⟨M, 0, none⟩)] w fun e w' => e = .returned (.tuple #[]) ∧ w' = w.setCell ⟨M, 2, none⟩ (.int .i64 1) := by
  obtain ⟨c0, c1, c2, s0, s1, f1, f2⟩ := h.cells
  clear h
  go_enter Tryz.func131, Tryz.ntmps131
  go_wp2_with (go_at_call 124; refine (fmust_yes _ _).mono ?_; rintro en w' ⟨rfl, rfl⟩)
  go_end0
  exact ⟨rfl, rfl⟩
theorem MakerAt.set2 {w : World} {M S : Nat} {deep steps : Int} (h : MakerAt w M S deep steps) (n : Int) : MakerAt (w.setCell ⟨M, 2, none⟩ (.int .i64 n)) M S deep n := ⟨h.mb.set_ 2 _, h.sc.far (p := ⟨M, 2, none⟩) (fun e => h.ne e.symm) _, h.ne⟩
theorem MakerAt.set1 {w : World} {M S : Nat} {deep steps : Int} (h : MakerAt w M S deep steps) (n : Int) : MakerAt (w.setCell ⟨M, 1, none⟩ (.int .i64 n)) M S n steps := ⟨h.mb.set_ 1 _, h.sc.far (p := ⟨M, 1, none⟩) (fun e => h.ne e.symm) _, h.ne⟩
set_option maxHeartbeats 1000000 in
theorem expression_x {w : World} {M S : Nat} (h : MakerAt w M S 0 0) : Calls Tryz.prog 125 #[.pointer (some ⟨M, 0, none⟩), .string bX] w fun e w' => e = .returned (.string ⟨#[]⟩) ∧ MakerAt w' M S 0 1 ∧ Turns (Only M) w w' := by
  obtain ⟨c0, c1, c2, s0, s1, f1, f2⟩ := h.cells
  have H := Lib.hid h
  clear h
  go_enter Tryz.func125, Tryz.ntmps125
  go_wp2_with (go_at_call 124; refine (fmust_yes _ _).mono ?_; rintro en w' ⟨rfl, rfl⟩)
  refine (step_x H.out).mono ?_
  rintro e w1 ⟨rfl, rfl⟩
  have H1 := Lib.hid ((H.out.set2 1).set1 1)
  go_wp2_with fail
  refine (made_x H1.out).mono ?_
  rintro e w2 ⟨rfl, ht⟩
  have H2 := Lib.hid (H1.out.still ht)
  have HT := Lib.hid ((((Turns.refl (Only M) w).setCell (p := ⟨M, 2, none⟩) (.inl rfl) (.int .i64 1)).setCell (p := ⟨M, 1, none⟩) (.inl rfl) (.int .i64 1)).same (ht.mono fun _ _ e => e.elim))
  clear ht c0 c1 c2 s0 s1 f1 f2
  obtain ⟨c0, c1, c2, s0, s1, f1, f2⟩ := H2.out.cells
  go_wp2_with (go_at_call 132; refine (short_nil _).mono ?_; rintro en w' ⟨rfl, rfl⟩)
  go_ret
  exact ⟨rfl, H2.out.set1 0, HT.out.setCell (p := ⟨M, 1, none⟩) (.inl rfl) _⟩
theorem A.conv_nil (w : World) : (convert 73 9 (.slice none 0 0)).run Tryz.prog w = .ok (.string ⟨#[]⟩) w := by kernel_rfl
set_option maxHeartbeats 2000000 in
theorem text_x {w : World} {M S : Nat} (h : MakerAt w M S 0 0) : Calls Tryz.prog 108 #[.pointer (some ⟨M, 0, none⟩), .string bText] w fun e w' => e = .returned (.string ⟨#[]⟩) ∧ MakerAt w' M S 0 1 ∧ Turns (Only M) w w' := by
  have H := Lib.hid h
  have hx : bText.extract 2 3 = bX := by kernel_rfl
  have hcv := A.conv_nil
  clear h
  go_enter Tryz.func108, Tryz.ntmps108
  go_wp2_with fail
  refine wp_loop_rounds 2 ?_
  rw [rounds_succ]
  go_wp2_with fail
  refine (closing_x _).mono ?_
  rintro e w1 ⟨rfl, ht⟩
  have H1 := Lib.hid (H.out.still ht)
  have HT := Lib.hid ht
  clear ht
  go_wp2_with (go_at_call 124; refine (fmust_yes _ _).mono ?_; rintro en w' ⟨rfl, rfl⟩)
  refine (expression_x H1.out).mono ?_
  rintro e w2 ⟨rfl, hm, ht⟩
  have H2 := Lib.hid hm
  have HT2 := Lib.hid ((HT.out.mono fun _ _ e => e.elim).same ht)
  clear hm ht
  go_wp2_with (go_at_call 124; refine (fmust_yes _ _).mono ?_; rintro en w' ⟨rfl, rfl⟩)
  rw [rounds_succ]
  go_wp2_with fail
  go_ret
  exact ⟨rfl, H2.out, HT2.out⟩
theorem A.fassert_no (w : World) : (Instr.typeAssert .nilIface 20 28 true).run Tryz.prog w = .ok (.tuple #[.int .i64 0, .bool false]) w := by kernel_rfl
theorem fwp_frame {P : Program} {co : Code} {Q : Exit → Act → World → Prop} {tmps tmps' : Array Value} {d : List Deferred} {w : World} (h : tmps = tmps') (hw : co.wp P Q { tmps := tmps', defers := d } w) : co.wp P Q { tmps := tmps, defers := d } w := by rw [h]; exact hw
set_option maxHeartbeats 400000 in
/-- nothing is thrown: nothing happens -/
theorem fcatch_idle (w : World) (args : Array Value) (a b c : Nat) (hargs : args = #[.pointer (some ⟨a, 0, none⟩), .pointer (some ⟨b, 0, none⟩), .pointer (some ⟨c, 0, none⟩)]) :
    CallsD Tryz.prog 107 args .returning w fun e' u' w' => e' = .returned (.tuple #[]) ∧ u' = .returning ∧ Turns Nothing w w' := by
  subst hargs
  refine callsD_of_wpS Tryz.func107 rfl fun c₀ cs hu => ?_
  apply wpS_seq
  apply wpS_region
  simp [wpOpsS, go_sem, recoverD, hu, Tryz.ntmps107, Exit.thenS]
  refine wpS_of_wp ?_
  refine Code.wp_mono (Q := fun ex act w' => (ex = .normal ∨ ex = .ret) ∧ act.defers = [] ∧ Turns Nothing w w') ?_ ?_
  · rintro ex act w' ⟨hex, hd, ht⟩
    rcases hex with rfl | rfl
    all_goals
      refine ⟨hd, .returning, ?_, .tuple #[], by simp [results, Tryz.results107], rfl, rfl, ht⟩
      cases c₀
      simp_all
  clear hu
  refine fwp_frame (tmps' := #[.pointer (some ⟨a, 0, none⟩), .pointer (some ⟨b, 0, none⟩), .pointer (some ⟨c, 0, none⟩), .nilIface, undef, undef, .nilIface, undef, undef, undef, undef, undef, undef, undef, undef, undef, undef, undef]) (by kernel_rfl) ?_
  go_wp2_with fail
  exact Turns.refl _ w
abbrev scopeN : Value := .agg #[.slice none 0 0, .slice none 0 0]
/-- the world in which the text is expanded -/
def startX (w : World) : World := (((((w.alloc (.cells #[.slice none 0 0, .slice none 0 0] 49)).alloc (.cells #[.string ⟨#[]⟩] 9)).alloc (.cells #[.int .i64 0] 3)).alloc (.cells #[.int .i64 0] 28)).alloc
  (.cells #[.slice none 0 0, .slice none 0 0] 49)).alloc (.cells #[.slice (some ⟨w.heap.size + 1 + 1 + 1 + 1, 0, none⟩) 1 1, .int .i64 0, .int .i64 0] 179)
structure ResX (w w1 : World) : Prop where
  a : Blk w1 (w.heap.size + 1) 9 #[.string ⟨#[]⟩]
  b : Blk w1 (w.heap.size + 1 + 1) 3 #[.int .i64 0]
  c : Blk w1 (w.heap.size + 1 + 1 + 1) 28 #[.int .i64 0]
  turns : Turns Nothing w w1
theorem start_x (w : World) : MakerAt (startX w) (w.heap.size + 1 + 1 + 1 + 1 + 1) (w.heap.size + 1 + 1 + 1 + 1) 0 0 ∧ ResX w (startX w) := by
  have hT : Turns Nothing w (startX w) := ((((((Turns.refl Nothing w).alloc _).alloc _).alloc _).alloc _).alloc _).alloc _
  refine ⟨⟨?_, ?_, by omega⟩, ?_, ?_, ?_, hT⟩
  · exact blk_new_at (by simp [go_sem])
  · exact Blk.alloc (blk_new_at (by simp [go_sem])) _
  · exact Blk.alloc (Blk.alloc (Blk.alloc (Blk.alloc (blk_new_at (by simp [go_sem])) _) _) _) _
  · exact Blk.alloc (Blk.alloc (Blk.alloc (blk_new_at (by simp [go_sem])) _) _) _
  · exact Blk.alloc (Blk.alloc (blk_new_at (by simp [go_sem])) _) _
theorem ResX.only {w w1 w2 : World} (h : ResX w w1) (ht : Turns (Only (w.heap.size + 1 + 1 + 1 + 1 + 1)) w1 w2) : ResX w w2 :=
  ⟨ht.blk h.a (fun e => by have : w.heap.size + 1 = _ := e; omega), ht.blk h.b (fun e => by have : w.heap.size + 1 + 1 = _ := e; omega), ht.blk h.c (fun e => by have : w.heap.size + 1 + 1 + 1 = _ := e; omega),
   h.turns.trans ht fun b hb e => by have : b = _ := e; omega⟩
theorem ResX.set0 {w w2 : World} (h : ResX w w2) : ResX w (w2.setCell ⟨w.heap.size + 1, 0, none⟩ (.string ⟨#[]⟩)) :=
  ⟨h.a.set_ 0 (.string ⟨#[]⟩), h.b.far (p := ⟨w.heap.size + 1, 0, none⟩) (by dsimp only; omega) _, h.c.far (p := ⟨w.heap.size + 1, 0, none⟩) (by dsimp only; omega) _, h.turns.setCell (p := ⟨w.heap.size + 1, 0, none⟩) (.inr (by dsimp only; omega)) _⟩
theorem ResX.done {w w2 w3 : World} {n : Int} (h : ResX w w2) (hc : Turns Nothing ((((w2.setCell ⟨w.heap.size + 1, 0, none⟩ (.string ⟨#[]⟩)).setCell ⟨w.heap.size + 1 + 1, 0, none⟩ (.int .i64 n)).setCell ⟨w.heap.size + 1 + 1 + 1, 0, none⟩ (.int .i64 0)).drewN 1) w3) :
    w3.cell? ⟨w.heap.size + 1, 0, none⟩ = some (.string ⟨#[]⟩) ∧ w3.cell? ⟨w.heap.size + 1 + 1, 0, none⟩ = some (.int .i64 n) ∧ w3.cell? ⟨w.heap.size + 1 + 1 + 1, 0, none⟩ = some (.int .i64 0) ∧ Turns Nothing w w3 := by
  have a1 := ((h.a.set_ 0 (.string ⟨#[]⟩)).far (p := ⟨w.heap.size + 1 + 1, 0, none⟩) (by dsimp only; omega) (.int .i64 n)).far (p := ⟨w.heap.size + 1 + 1 + 1, 0, none⟩) (by dsimp only; omega) (.int .i64 0)
  have b1 := ((h.b.far (p := ⟨w.heap.size + 1, 0, none⟩) (by dsimp only; omega) (.string ⟨#[]⟩)).set_ 0 (.int .i64 n)).far (p := ⟨w.heap.size + 1 + 1 + 1, 0, none⟩) (by dsimp only; omega) (.int .i64 0)
  have c1 := ((h.c.far (p := ⟨w.heap.size + 1, 0, none⟩) (by dsimp only; omega) (.string ⟨#[]⟩)).far (p := ⟨w.heap.size + 1 + 1, 0, none⟩) (by dsimp only; omega) (.int .i64 n)).set_ 0 (.int .i64 0)
  refine ⟨((hc.blk (a1.drewN 1) id).cell 0).trans rfl, ((hc.blk (b1.drewN 1) id).cell 0).trans rfl, ((hc.blk (c1.drewN 1) id).cell 0).trans rfl, ?_⟩
  exact ((((h.turns.setCell (p := ⟨w.heap.size + 1, 0, none⟩) (.inr (by dsimp only; omega)) _).setCell (p := ⟨w.heap.size + 1 + 1, 0, none⟩) (.inr (by dsimp only; omega)) _).setCell (p := ⟨w.heap.size + 1 + 1 + 1, 0, none⟩) (.inr (by dsimp only; omega)) _).drewN 1).same hc
set_option maxHeartbeats 2000000 in
theorem expanded_x (w : World) : Calls Tryz.prog 83 #[.string bText, scopeN] w fun e w' => (∃ n, e = .returned (.tuple #[.string ⟨#[]⟩, .int .i64 n, .int .i64 0])) ∧ Turns Nothing w w' := by
  have hmf : ∀ (fn : Fn) (first cap : Array Value) (w : World), (Instr.makeFunc fn first cap).run Tryz.prog w = .ok (.func fn first cap) w := fun _ _ _ _ => rfl
  go_enter_defers Tryz.func83, Tryz.ntmps83
  go_wp2_with fail
  refine (text_x (start_x w).1).mono ?_
  rintro e w2 ⟨rfl, hm, ht⟩
  have hr := (start_x w).2.only ht
  obtain ⟨m0, m1, m2, -, -, -, -⟩ := hm.cells
  have ca := hr.a.cell 0
  have cb := hr.b.cell 0
  have cc := hr.c.cell 0
  have fa := hr.a.frozen 0
  have fb := hr.b.frozen 0
  have fc := hr.c.frozen 0
  simp at ca cb cc
  have HR := Lib.hid hr
  clear hm ht hr
  go_wp2_with fail
  go_region
  go_wp2_with fail
  refine leaves_cons (f := 107) (args := #[.pointer (some ⟨w.heap.size + 1, 0, none⟩), .pointer (some ⟨w.heap.size + 1 + 1, 0, none⟩), .pointer (some ⟨w.heap.size + 1 + 1 + 1, 0, none⟩)]) (by simp) (by simp [go_sem]) ?_
  refine (fcatch_idle _ _ (w.heap.size + 1) (w.heap.size + 1 + 1) (w.heap.size + 1 + 1 + 1) rfl).mono ?_
  rintro e u w3 ⟨rfl, rfl, hc⟩
  have hd := HR.out.set0.done hc
  have da := hd.1
  have db := hd.2.1
  have dc := hd.2.2.1
  simp [Leaves, settle, results, Tryz.results83, go_sem, da, db, dc]
  exact hd.2.2.2
set_option maxHeartbeats 1000000 in
theorem expand_x (w : World) : Calls Tryz.prog 58 #[.string bText, scopeN] w fun e w' => e = .returned (.tuple #[.string ⟨#[]⟩, .int .i64 0]) ∧ Turns Nothing w w' := by
  go_enter Tryz.func58, Tryz.ntmps58
  go_wp2_with fail
  refine (expanded_x _).mono ?_
  rintro e w1 ⟨⟨n, rfl⟩, ht⟩
  go_wp2_with fail
  refine bodyPost_ret (results_tmp2 rfl _ _ _) rfl ?_
  exact ⟨rfl, ((Turns.refl _ w).alloc _).same ht⟩
end Go.Proofs.YtedlhdegdlabhaaGreatDoor
