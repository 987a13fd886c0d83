/- The walk of package parse: do, at %if, where no condition is open and the condition is the example's. -/
import Derived.Test.YtedlhdegdlabhaaGreatDoorParseElse
import Derived.Test.YtedlhdegdlabhaaGreatDoorFormatX
import Derived.StillTailTactics
import Derived.Deep.CutBlock
import Derived.Deep.DeepCutAuto
namespace Go.Proofs.YtedlhdegdlabhaaGreatDoor
set_option maxRecDepth 8000
open Go.RowKit
open Lx (Bytes)

theorem A.info_cond : (Tryz.prog.info? 101).map (fun i => (i.zero, i.size, i.bytes)) = some (some (.agg #[.int .i64 0, .bool false, .bool false, .bool false, .bool false]), 5, 16) := by kernel_rfl
/-- behind the condition's being opened -/
def IfMid (w : World) (K : Nat) (ov : Value) (line : Int) (wx : World) : Prop := ∃ ov', CondsAt wx K (.slice none 0 0) (.slice none 0 0) ov' [⟨line, true, false, false, false⟩] ∧ Turns (fun b => b = K ∨ ov.ownBlock = some b) w wx ∧
  (ov'.ownBlock = ov.ownBlock ∨ ∃ b, ov'.ownBlock = some b ∧ w.heap.size ≤ b) ∧ Blk wx w.heap.size 3 #[.int .i64 line]
theorem if_mid {w w1 w2 : World} {K cp0 cp1 N : Nat} {A0 A1 : Option Addr} {line : Int} (T1 : Turns Nothing w w1) (ho1 : w2.ownsRow (K + 1) 101 5 (.slice A1 1 cp1) 1 [.int .i64 line, .bool true, .bool false, .bool false, .bool false])
    (kb : Blk w2 K 93 #[.slice none 0 0, .slice none 0 0, .slice A0 0 cp0]) (hT2 : Turns (fun b => (Value.slice A0 0 cp0).ownBlock = some b) w1 w2) (hat : (Value.slice A1 1 cp1).ownBlock = (Value.slice A0 0 cp0).ownBlock ∨ (Value.slice A1 1 cp1).ownBlock = some N) (hN : w.heap.size ≤ N)
    (kl : Blk w2 w.heap.size 3 #[.int .i64 line]) (hK : K < w.heap.size) : IfMid w K (.slice A0 0 cp0) line (w2.setCell ⟨K, 2, none⟩ (.slice A1 1 cp1)) := by
  refine ⟨_, ⟨kb.set_ 2 _, ?_⟩, ?_, ?_, kl.far (p := ⟨K, 2, none⟩) (by dsimp only; omega) _⟩
  · refine ((Turns.refl (Only K) w2).setCell (p := ⟨K, 2, none⟩) (.inl rfl) _).own ho1 fun g hg e => ?_
    have := (ho1.lt g hg).1
    have e2 : g = K := e
    omega
  · exact ((T1.mono (S' := fun b => b = K ∨ (Value.slice A0 0 cp0).ownBlock = some b) fun _ _ e => e.elim).same (hT2.mono fun b _ e => .inr e)).setCell (p := ⟨K, 2, none⟩) (.inl (.inl rfl)) _
  · rcases hat with e | e
    · exact .inl e
    · exact .inr ⟨_, e, hN⟩
theorem cond_set2 {w : World} {K g cp : Nat} {line : Int} {ar nw ws la : Bool} (h : CondsAt w K (.slice none 0 0) (.slice none 0 0) (.slice (some ⟨g, 0, none⟩) 1 cp) [⟨line, ar, nw, ws, la⟩]) (hg : K + 1 ≤ g) (la' nw' : Bool) :
    CondsAt ((w.setCell ⟨g, 4, none⟩ (.bool la')).setCell ⟨g, 2, none⟩ (.bool nw')) K (.slice none 0 0) (.slice none 0 0) (.slice (some ⟨g, 0, none⟩) 1 cp) [⟨line, ar, nw', ws, la'⟩] :=
  ⟨(h.blk.far (p := ⟨g, 4, none⟩) (by dsimp only; omega) _).far (p := ⟨g, 2, none⟩) (by dsimp only; omega) _, own_set (own_set h.own 4 (.bool la')) 2 (.bool nw')⟩
theorem cond_set23 {w : World} {K g cp : Nat} {line : Int} {ar nw ws la : Bool} (h : CondsAt w K (.slice none 0 0) (.slice none 0 0) (.slice (some ⟨g, 0, none⟩) 1 cp) [⟨line, ar, nw, ws, la⟩]) (hg : K + 1 ≤ g) (nw' ws' : Bool) :
    CondsAt ((w.setCell ⟨g, 2, none⟩ (.bool nw')).setCell ⟨g, 3, none⟩ (.bool ws')) K (.slice none 0 0) (.slice none 0 0) (.slice (some ⟨g, 0, none⟩) 1 cp) [⟨line, ar, nw', ws', la⟩] :=
  ⟨(h.blk.far (p := ⟨g, 2, none⟩) (by dsimp only; omega) _).far (p := ⟨g, 3, none⟩) (by dsimp only; omega) _, own_set (own_set h.own 2 (.bool nw')) 3 (.bool ws')⟩
theorem if_post {w wc w4 w5 : World} {K g cp : Nat} {ov : Value} {line : Int} (h1 : Turns (fun b => b = K ∨ ov.ownBlock = some b) w wc) (hat : (Value.slice (some ⟨g, 0, none⟩) 1 cp).ownBlock = ov.ownBlock ∨ ∃ b, (Value.slice (some ⟨g, 0, none⟩) 1 cp).ownBlock = some b ∧ w.heap.size ≤ b)
    (h4 : Turns (Only g) wc w4) (h5 : Turns Nothing w4 w5) (hc : CondsAt w5 K (.slice none 0 0) (.slice none 0 0) (.slice (some ⟨g, 0, none⟩) 1 cp) [⟨line, true, true, false, false⟩]) (hg : K + 1 ≤ g) :
    DoPost w K (.slice none 0 0) (.slice none 0 0) ov [⟨line, true, false, false, false⟩] (.returned (.tuple #[])) ((w5.setCell ⟨g, 2, none⟩ (.bool false)).setCell ⟨g, 3, none⟩ (.bool false)) := by
  refine ⟨rfl, _, cond_set23 hc hg false false, ?_, hat⟩
  have h6 := ((h4.same (h5.mono fun _ _ e => e.elim)).setCell (p := ⟨g, 2, none⟩) (.inl rfl) (.bool false)).setCell (p := ⟨g, 3, none⟩) (.inl rfl) (.bool false)
  refine h1.trans h6 fun b hb e => ?_
  have e2 : b = g := e
  subst e2
  rcases hat with e | ⟨b', e, hb'⟩
  · exact .inr e.symm
  · have e3 : some b = some b' := e
    injection e3 with e3
    omega
set_option maxHeartbeats 2000000 in
theorem do_if {w0 w : World} {K : Nat} {ov dv : Value} {x y : Px.PW} (h : CondsAt w K (.slice none 0 0) (.slice none 0 0) ov []) (hd : PWordsAt w0 dv [x, y]) (h0 : Turns Nothing w0 w) (hlow : w0.heap.size ≤ K) (hx : x.text = Px.tIf) (hy : y.text = [35, 123, 120, 125]) :
    Calls Tryz.prog 38 #[.pointer (some ⟨K, 0, none⟩), dv] w (DoPost w K (.slice none 0 0) (.slice none 0 0) ov [⟨x.line, true, false, false, false⟩]) := by
  obtain ⟨b, off, cw, rfl, hc1, hc2, hb, x0, x1, x2, htl⟩ := hd.cons
  have hcw : ¬ cw = 0 := by simp at hc2; omega
  rw [if_neg hcw] at htl
  obtain ⟨b', off', cw', e', -, -, hb', y0, -, -, -⟩ := htl.cons
  have : b' = b ∧ off' = off + 3 := by
    injection e' with e'
    injection e' with e'
    injection e' with e1 e2
    exact ⟨e1.symm, e2.symm⟩
  obtain ⟨rfl, rfl⟩ := this
  have hbK : b' < K := by omega
  have x0 := (h0.cell (p := ⟨b', off, none⟩) hb id).trans x0
  have x1 := (h0.cell (p := ⟨b', off + 1, none⟩) hb id).trans x1
  have y0 := (h0.cell (p := ⟨b', off + 3, none⟩) hb id).trans y0
  have hb : b' < w.heap.size := Nat.lt_of_lt_of_le hb h0.size
  rw [hx] at x0
  rw [hy] at y0
  simp only [strV] at x0 y0
  have y0w := y0
  obtain ⟨A0, cp0, rfl⟩ := own_slice h.own
  obtain ⟨c0, c1, c2, fK⟩ := three_cells h.blk
  have hKl := h.blk.lt
  have H := Lib.hid h
  obtain ⟨i0, hi0, hz0, hz1, hz2⟩ := info_parts A.info_cond
  clear h hd htl x2 e' hc2 h0 hlow
  simp only [List.length_cons, List.length_nil, Nat.zero_add] at *
  go_enter Tryz.func38, Tryz.ntmps38
  go_wp2_with fail
  go_region
  go_upto_region 6 with (go_at_call 57; refine (must_yes _ _ _).mono ?_; rintro en w' ⟨rfl, rfl⟩)
  have T1 := ((Turns.refl Nothing w).alloc (.cells #[.int .i64 x.line] 3)).drewN 1
  have L1 := (Blk.new w 3 #[.int .i64 x.line]).drewN 1
  change Turns Nothing w (w.alloc (.cells #[.int .i64 x.line] 3)).drew at T1
  change Blk (w.alloc (.cells #[.int .i64 x.line] 3)).drew _ _ _ at L1
  generalize (w.alloc (.cells #[.int .i64 x.line] 3)).drew = w1 at T1 L1 ⊢
  have c2 := (T1.cell (p := ⟨K, 2, none⟩) hKl id).trans c2
  have c0 := (T1.cell (p := ⟨K, 0, none⟩) hKl id).trans c0
  have c1 := (T1.cell (p := ⟨K, 1, none⟩) hKl id).trans c1
  have y0 := (T1.cell (p := ⟨b', off + 3, none⟩) hb id).trans y0
  have HY := Lib.hid y0w
  have l0 := L1.cell 0
  simp at l0
  have hKl1 := Nat.lt_of_lt_of_le hKl T1.size
  have hwl1 := L1.lt
  have HTK := Lib.hid (fun (W : World) (ht : Turns Nothing w1 W) => taken_nil (H.out.still (T1.same ht)))
  have HOW := Lib.hid (fun (W : World) (ht : Turns Nothing w1 W) => (H.out.still (T1.same ht)).own)
  have HKB := Lib.hid (T1.blk H.out.blk id)
  have hne : Hid (some K ≠ (Value.slice A0 0 cp0).ownBlock) := Lib.hid fun e => by have := (H.out.own.lt _ e.symm).1; omega
  have HKW := Lib.hid (fun (W : World) (ht : Turns Nothing w1 W) => ht.blk HKB.out id)
  have hfzK : ∀ i, w1.frozen? ⟨K, i, none⟩ = false := fun i => HKB.out.frozen i
  have fK1 := hfzK 2
  have HT1 := Lib.hid (And.intro T1 L1)
  clear T1 L1 x0 x1 hfzK fK
  have hK2 : ∀ n o, ((w1.drewN n).alloc o).cell? ⟨K, 2, none⟩ = some (.slice A0 0 cp0) := fun n o => ((((Turns.refl Nothing w1).drewN n).alloc o).cell (p := ⟨K, 2, none⟩) hKl1 id).trans c2
  have HLB := Lib.hid (fun (W : World) (ht : Turns Nothing w1 W) => ht.blk HT1.out.2 id)
  have hneL : Hid (some w.heap.size ≠ (Value.slice A0 0 cp0).ownBlock) := Lib.hid fun e => by have := (H.out.own.lt _ e.symm).2; omega
  have hs1 := HT1.out.1.size
  go_cut [7] (fun s7 wx => s7 = .bool true ∧ IfMid w K (.slice A0 0 cp0) x.line wx)
  case first =>
    go_region_law (first
      | (refine step_append_src _ (by rfl) _ _ _ _ (by rfl) (K + 1) 101 i0 _ 5 16 Tryz.underlying91 hi0 hz0 hz1 hz2 (by rfl) (.slice A0 0 cp0) 0 [] (by rfl) (by exact HOW.out _ (by first | exact (Turns.refl _ w1).alloc _ | exact ((Turns.refl _ w1).drewN _).alloc _ | exact (((Turns.refl _ w1).drewN 1).drewN _).alloc _)) _ 1 [.int .i64 x.line, .bool true, .bool false, .bool false, .bool false] (by rfl) (by first | exact psrc_block Tryz.underlying91 (Blk.new w1 _ _) 1 1 rfl (by intro u hu; simp at hu; rcases hu with rfl | rfl | rfl | rfl | rfl <;> rfl)) (by simp only [maxLen]; omega) (by omega) (by simp; omega) ?_; intro A1 cp1 w2 ho1 hg1 hat1; have kb := (HKW.out _ (by first | exact (Turns.refl _ w1).alloc _ | exact ((Turns.refl _ w1).drewN _).alloc _ | exact (((Turns.refl _ w1).drewN 1).drewN _).alloc _)).grown hg1 hne.out; have kl := (HLB.out _ (by first | exact (Turns.refl _ w1).alloc _ | exact ((Turns.refl _ w1).drewN _).alloc _ | exact (((Turns.refl _ w1).drewN 1).drewN _).alloc _)).grown hg1 hneL.out; have k2 := kb.cell 2; have kf := kb.frozen 2; have hT2 := Turns.grown (S := fun b => (Value.slice A0 0 cp0).ownBlock = some b) (w := w1) (by first | exact (Turns.refl _ w1).alloc _ | exact ((Turns.refl _ w1).drewN _).alloc _ | exact (((Turns.refl _ w1).drewN 1).drewN _).alloc _) hg1 (fun _ _ e => e); have HN := Lib.hid (if_mid HT1.out.1 ho1 kb hT2 hat1 (by simp; omega) kl hKl); clear ho1 hg1 hat1 kb hT2 kl)
      | (go_simp; go_at_call 39; refine (HTK.out _ (by first | exact Turns.refl _ w1 | exact (Turns.refl _ w1).drewN 1)).mono ?_; rintro e w' ⟨rfl, n, rfl⟩))
    all_goals
      go_wp2_with fail
      go_meet
      exact ⟨rfl, HN.out⟩
  case rest =>
    obtain ⟨rfl, ov', hc, ht, hat, hl⟩ := hcut
    obtain ⟨g, cp, rfl, hg, hgl, d0, d1, d2, d3, d4, hfz⟩ := CondsAt.last (o := []) hc
    have f2 := hfz 2
    have f3 := hfz 3
    have f4 := hfz 4
    obtain ⟨e0, e1, e2, -⟩ := three_cells hc.blk
    have hnb : ¬ (b' = K ∨ (Value.slice A0 0 cp0).ownBlock = some b') := by
      rintro (e | e)
      · omega
      · have := (H.out.own.lt _ e).1
        omega
    have y0' := (ht.cell (p := ⟨b', off + 3, none⟩) hb hnb).trans HY.out
    have hbc : b' < wc.heap.size := Nat.lt_of_lt_of_le hb ht.size
    have hKc := hc.blk.lt
    simp only [List.length_nil, Nat.zero_mul, Nat.zero_add] at *
    have HC := Lib.hid (And.intro hc (And.intro ht (And.intro hat hl)))
    clear hc ht hat hl hfz
    go_upto_region 8 with (go_at_call 57; refine (must_yes _ _ _).mono ?_; rintro en w' ⟨rfl, rfl⟩)
    go_quiet (fail)
    go_upto_region 15 with (go_at_call 57; refine (must_yes _ _ _).mono ?_; rintro en w' ⟨rfl, rfl⟩)
    have C4 := cond_set2 (HC.out.1.still ((Turns.refl Nothing wc).drewN nq)) hg false true
    have T4 := (((Turns.refl (Only g) wc).drewN nq).setCell (p := ⟨g, 4, none⟩) (.inl rfl) (.bool false)).setCell (p := ⟨g, 2, none⟩) (.inl rfl) (.bool true)
    generalize (((wc.drewN nq).setCell ⟨g, 4, none⟩ (.bool false)).setCell ⟨g, 2, none⟩ (.bool true)) = w4 at C4 T4 ⊢
    have y4 := (T4.cell (p := ⟨b', off + 3, none⟩) hbc (fun e => by have : b' = g := e; omega)).trans y0'
    obtain ⟨e0', e1', e2', -⟩ := three_cells C4.blk
    have hz4 := Nat.lt_of_lt_of_le hbc T4.size
    have hK4 := C4.blk.lt
    have HC4 := Lib.hid (And.intro C4 T4)
    clear C4 T4 d0 d1 d2 d3 d4 f2 f3 f4 e0 e1 e2 y0'
    go_region_with (go_at_call 58; refine (expand_x _).mono ?_; rintro e w5 ⟨rfl, ht5⟩; have H5 := Lib.hid ht5; clear ht5)
    all_goals
      have T5 := ((Turns.refl Nothing w4).drewN 1).same H5.out
      have C5 := HC4.out.1.still T5
      obtain ⟨g', cp', e', -, hgl5, d0, d1, d2, d3, d4, hfz⟩ := CondsAt.last (o := []) C5
      obtain rfl : g = g' := by injection e' with e'; injection e' with e'; injection e'
      have f2 := hfz 2
      have f3 := hfz 3
      simp only [List.length_nil, Nat.zero_mul, Nat.zero_add] at d0 d1 d2 d3 d4
      have HC5 := Lib.hid (And.intro C5 T5)
      clear C5 T5 hfz e'
      go_wp2_with (first
        | (go_at_call 57; refine (must_yes _ _ _).mono ?_; rintro en w' ⟨rfl, rfl⟩)
        | (go_at_call 59; refine (true_nil _).mono ?_; rintro en w' ⟨rfl, rfl⟩))
      go_end0
      exact if_post HC.out.2.1 HC.out.2.2.1 HC4.out.2 HC5.out.2 HC5.out.1 hg
end Go.Proofs.YtedlhdegdlabhaaGreatDoor
