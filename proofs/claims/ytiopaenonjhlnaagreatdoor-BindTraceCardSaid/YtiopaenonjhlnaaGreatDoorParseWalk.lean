/- The walk of parse.Parse. -/
import Derived.Test.YtiopaenonjhlnaaGreatDoorParseDoor
import Derived.StillTailTactics
import Derived.Deep.CutBlock
import Derived.Deep.DeepCutAuto
namespace Go.Proofs.YtiopaenonjhlnaaGreatDoor
set_option maxRecDepth 8000
open Go.RowKit
open Lx (Bytes)

theorem PBox.err {w w1 : World} (h : PBox w w1) (e : Int) (l : Nat) (W : World := (((((w1.setCell ⟨w.heap.size + 1 + 1, 0, none⟩ (.int .i64 e)).setCell ⟨w.heap.size + 1 + 1 + 1, 0, none⟩ (.int .i64 l)).setCell ⟨w.heap.size + 1, 0, none⟩ (.slice none 0 0)).setCell ⟨w.heap.size + 1 + 1, 0, none⟩ (.int .i64 e)).setCell ⟨w.heap.size + 1 + 1 + 1, 0, none⟩ (.int .i64 l)).drew) (hW : W = (((((w1.setCell ⟨w.heap.size + 1 + 1, 0, none⟩ (.int .i64 e)).setCell ⟨w.heap.size + 1 + 1 + 1, 0, none⟩ (.int .i64 l)).setCell ⟨w.heap.size + 1, 0, none⟩ (.slice none 0 0)).setCell ⟨w.heap.size + 1 + 1, 0, none⟩ (.int .i64 e)).setCell ⟨w.heap.size + 1 + 1 + 1, 0, none⟩ (.int .i64 l)).drew := by rfl) :
    W.cell? ⟨w.heap.size + 1, 0, none⟩ = some (.slice none 0 0) ∧ W.cell? ⟨w.heap.size + 1 + 1, 0, none⟩ = some (.int .i64 e) ∧ W.cell? ⟨w.heap.size + 1 + 1 + 1, 0, none⟩ = some (.int .i64 l) ∧ Turns Nothing w W := by
  subst hW
  have n1 : w.heap.size + 1 ≠ w.heap.size + 1 + 1 := by omega
  have n2 : w.heap.size + 1 ≠ w.heap.size + 1 + 1 + 1 := by omega
  have n3 : w.heap.size + 1 + 1 ≠ w.heap.size + 1 + 1 + 1 := by omega
  refine ⟨?_, ?_, ?_, ?_⟩
  · exact ((((((h.a.far (p := ⟨_, 0, none⟩) n1 _).far (p := ⟨_, 0, none⟩) n2 _).set_ 0 _).far (p := ⟨_, 0, none⟩) n1 _).far (p := ⟨_, 0, none⟩) n2 _).drewN 1).cell 0
  · exact ((((((h.b.set_ 0 _).far (p := ⟨_, 0, none⟩) n3 _).far (p := ⟨_, 0, none⟩) n1.symm _).set_ 0 _).far (p := ⟨_, 0, none⟩) n3 _).drewN 1).cell 0
  · exact ((((((h.c.far (p := ⟨_, 0, none⟩) n3.symm _).set_ 0 _).far (p := ⟨_, 0, none⟩) n2.symm _).far (p := ⟨_, 0, none⟩) n3.symm _).set_ 0 _).drewN 1).cell 0
  · exact (((((h.turns.setCell (p := ⟨_, 0, none⟩) (.inr (by dsimp only; omega)) _).setCell (p := ⟨_, 0, none⟩) (.inr (by dsimp only; omega)) _).setCell (p := ⟨_, 0, none⟩) (.inr (by dsimp only; omega)) _).setCell (p := ⟨_, 0, none⟩) (.inr (by dsimp only; omega)) _).setCell (p := ⟨_, 0, none⟩) (.inr (by dsimp only; omega)) _).drewN 1
/-- what holds ahead of the loop -/
theorem start_rel {w w1 : World} {n oc : Nat} {sv lv : Value} {oA : Option Addr} {X : Bytes → Bytes × Int} {I : List Px.PLn → List Px.Cond → Prop} {L : List Lx.Ln} {R : Except (Int × Int) (List (List Px.Cmd))} {vs : List Value} {o1 o2 o3 o4 : Obj}
    (hb : PBox w w1) (hT : Turns Nothing ((((w.alloc o1).alloc o2).alloc o3).alloc o4) w1) (_sc : Blk w1 w.heap.size 43 #[sv, lv]) (hL : LinesAt w1 ((((w.alloc o1).alloc o2).alloc o3).alloc o4).heap.size (.slice oA n oc) L vs) (hf : Fit L) (hI : I (L.map Px.ofLn) []) (hR : Px.parseL X (L.map Px.ofLn) [] 0 [] = R) :
    ∃ K, K = w1.heap.size ∧ ∀ w2, ((w1.setCell ⟨w.heap.size + 1 + 1, 0, none⟩ (.int .i64 0)).setCell ⟨w.heap.size + 1 + 1 + 1, 0, none⟩ (.int .i64 0)) = w2 → PBox w w2 ∧ w2.heap.size = K ∧ w.heap.size + 1 < K ∧
      (∀ wr, Turns (Only (w.heap.size + 1)) w2 wr → ∀ i (hi : i < L.length), ∃ b v, oA = some ⟨b, 0, none⟩ ∧ b < wr.heap.size ∧ wr.cell? ⟨b, i * 2, none⟩ = some v ∧ wr.cell? ⟨b, i * 2 + 1, none⟩ = some (.int .i64 L[i].2) ∧ PLow wr K v (L[i].1.map Px.ofW)) ∧
      PRel w w2 K sv lv X I L R 0 0 [] [] (.slice none 0 0) (.slice none 0 0) (w2.alloc (.cells #[sv, lv, .slice none 0 0] 93)) := by
  refine ⟨_, rfl, ?_⟩
  rintro w2 rfl
  have hsz : ((((w.alloc o1).alloc o2).alloc o3).alloc o4).heap.size = w.heap.size + 4 := by simp [go_sem]
  have hK : ((w1.setCell ⟨w.heap.size + 1 + 1, 0, none⟩ (.int .i64 0)).setCell ⟨w.heap.size + 1 + 1 + 1, 0, none⟩ (.int .i64 0)).heap.size = w1.heap.size := by simp [World.setCell]
  have n1 : w.heap.size + 1 ≠ w.heap.size + 1 + 1 := by omega
  have n2 : w.heap.size + 1 ≠ w.heap.size + 1 + 1 + 1 := by omega
  have n3 : w.heap.size + 1 + 1 ≠ w.heap.size + 1 + 1 + 1 := by omega
  have hlt : w.heap.size + 4 ≤ w1.heap.size := by have := hT.size; omega
  have hT2 : Turns (fun b => b = w.heap.size + 1 + 1 ∨ b = w.heap.size + 1 + 1 + 1) w1 ((w1.setCell ⟨w.heap.size + 1 + 1, 0, none⟩ (.int .i64 0)).setCell ⟨w.heap.size + 1 + 1 + 1, 0, none⟩ (.int .i64 0)) :=
    ((Turns.refl _ w1).setCell (p := ⟨_, 0, none⟩) (.inl (.inl rfl)) _).setCell (p := ⟨_, 0, none⟩) (.inl (.inr rfl)) _
  have hbx : PBox w ((w1.setCell ⟨w.heap.size + 1 + 1, 0, none⟩ (.int .i64 0)).setCell ⟨w.heap.size + 1 + 1 + 1, 0, none⟩ (.int .i64 0)) := by
    refine ⟨hT2.blk hb.a fun e => ?_, (hb.b.set_ 0 _).far (p := ⟨_, 0, none⟩) n3 _, (hb.c.far (p := ⟨_, 0, none⟩) n3.symm _).set_ 0 _, hb.turns.trans hT2 fun b hb e => ?_⟩
    · rcases e with e | e <;> omega
    · rcases e with e | e <;> omega
  refine ⟨hbx, hK, by omega, fun wr ht => ?_, ?_⟩
  · refine (lines_low hK (hL.turns hT2 (fun b hb e => ?_) fun v hv b hb e => ?_) ht (fun b e => by have : b = w.heap.size + 1 := e; omega) hf).2
    · have := own_from hL.row b hb
      rcases e with e | e <;> omega
    · obtain ⟨i, hi, rfl⟩ := List.getElem_of_mem hv
      have := own_from (hL.words i hi (by rw [← hL.len]; exact hi)) b hb
      rcases e with e | e <;> omega
  · exact ⟨Nat.zero_le _, (Turns.refl _ _).alloc _, ⟨blk_new_at hK, World.ownsRow_nil _ _ _ _⟩, GroupsAt.nil _ _, hbx.a.alloc _, hR, hI, Nat.zero_le _, fun z hz => (List.not_mem_nil hz).elim⟩
theorem box_at {w w2 w3 : World} (hb : PBox w w2) (ht : Turns (Only (w.heap.size + 1)) w2 w3) : Blk w3 (w.heap.size + 1 + 1) 37 #[.int .i64 0] ∧ Blk w3 (w.heap.size + 1 + 1 + 1) 3 #[.int .i64 0] :=
  ⟨ht.blk hb.b fun e => by have : w.heap.size + 1 + 1 = w.heap.size + 1 := e; omega, ht.blk hb.c fun e => by have : w.heap.size + 1 + 1 + 1 = w.heap.size + 1 := e; omega⟩
theorem thrown_do {w w2 wr w0 w3 : World} {K : Nat} {sv lv : Value} {X : Bytes → Bytes × Int} {I : List Px.PLn → List Px.Cond → Prop} {L : List Lx.Ln} {R : Except (Int × Int) (List (List Px.Cmd))} {k g : Nat} {o : List Px.Cond} {Z : List (Value × List CQ)} {ov gv : Value}
    (hb : PBox w w2) (h : PRel w w2 K sv lv X I L R k g o Z ov gv wr) (hK : w2.heap.size = K) (hlt : w.heap.size + 1 < K) (h0 : Turns Nothing wr w0) (h3 : Turns (fun b => b = K ∨ ov.ownBlock = some b) w0 w3) :
    Turns (Only (w.heap.size + 1)) w2 w3 ∧ Blk w3 (w.heap.size + 1) 32 #[gv] ∧ Blk w3 (w.heap.size + 1 + 1) 37 #[.int .i64 0] ∧ Blk w3 (w.heap.size + 1 + 1 + 1) 3 #[.int .i64 0] := by
  have hf : ∀ b, (b = K ∨ ov.ownBlock = some b) → K ≤ b := fun b e => by
    rcases e with e | e
    · omega
    · have := (h.conds.own.lt b e).1; omega
  have ht : Turns (Only (w.heap.size + 1)) w2 w3 := (h.turns.trans h0 fun _ _ e => e.elim).trans h3 fun b hb e => by have := hf b e; omega
  refine ⟨ht, h3.blk (h0.blk h.box id) fun e => ?_, box_at hb ht⟩
  have := hf _ e
  omega
theorem thrown_still {w w2 wr w3 : World} {K : Nat} {sv lv : Value} {X : Bytes → Bytes × Int} {I : List Px.PLn → List Px.Cond → Prop} {L : List Lx.Ln} {R : Except (Int × Int) (List (List Px.Cmd))} {k g : Nat} {o : List Px.Cond} {Z : List (Value × List CQ)} {ov gv : Value}
    (hb : PBox w w2) (h : PRel w w2 K sv lv X I L R k g o Z ov gv wr) (h0 : Turns Nothing wr w3) :
    Turns (Only (w.heap.size + 1)) w2 w3 ∧ Blk w3 (w.heap.size + 1) 32 #[gv] ∧ Blk w3 (w.heap.size + 1 + 1) 37 #[.int .i64 0] ∧ Blk w3 (w.heap.size + 1 + 1 + 1) 3 #[.int .i64 0] :=
  have ht : Turns (Only (w.heap.size + 1)) w2 w3 := h.turns.trans h0 fun _ _ e => e.elim
  ⟨ht, h0.blk h.box id, box_at hb ht⟩
theorem thrown_end {w w2 w3 w4 : World} {e l : Int} {R : Except (Int × Int) (List (List Px.Cmd))} (hb : PBox w w2) (ht : Turns (Only (w.heap.size + 1)) w2 w3) (hc : PCaught w3 (w.heap.size + 1) (w.heap.size + 1 + 1) (w.heap.size + 1 + 1 + 1) e l w4) (hR : R = .error (e, l)) :
    ParsePost w R (.returned (.tuple #[.agg #[.slice none 0 0], .int .i64 e, .int .i64 l])) w4 := by
  subst hR
  exact ⟨thrown_post hb ht hc, rfl⟩
theorem cmd_cq2 {w : World} {B : Nat} {v : Value} {c : Px.Cmd} (h : CmdAt w B v c) : ∃ fA fc aA ac, v = .agg #[strV c.name, .slice fA c.flags.length fc, .slice aA c.args.length ac, .int .i64 c.line] ∧ CQAt w B (c, .slice fA c.flags.length fc, .slice aA c.args.length ac) := by
  obtain ⟨fv, av, e, h1, h2⟩ := h.at_
  obtain ⟨fA, fc, rfl⟩ := own_slice h1
  obtain ⟨aA, ac, rfl⟩ := own_slice h2
  exact ⟨fA, fc, aA, ac, e, h1, h2⟩
theorem A.info_groups : (Tryz.prog.info? 53).map (fun i => (i.zero, i.size, i.bytes)) = some (some (.slice none 0 0), 1, 24) := by kernel_rfl
theorem A.info_cmd : (Tryz.prog.info? 57).map (fun i => (i.zero, i.size, i.bytes)) = some (some (.agg #[.string ⟨#[]⟩, .slice none 0 0, .slice none 0 0, .int .i64 0]), 4, 72) := by kernel_rfl
/-- a command has been read, and lies in a block of its own -/
theorem at_cmd {w w2 wr w3 w4 : World} {K : Nat} {sv lv : Value} {X : Bytes → Bytes × Int} {I : List Px.PLn → List Px.Cond → Prop} {L : List Lx.Ln} {R : Except (Int × Int) (List (List Px.Cmd))} {k g : Nat} {o : List Px.Cond} {Z : List (Value × List CQ)} {ov gv v lg : Value} {q : CQ}
    (h : PRel w w2 K sv lv X I L R k g o Z ov gv wr) (h3 : Turns Nothing wr w3) (h4 : Turns Nothing w3 w4) (lb : Blk w4 wr.heap.size 96 #[v, lg]) (hq : CQAt w4 w3.heap.size q) :
    ∃ w5 cb, w5 = w4.alloc (.cells #[strV q.1.name, q.2.1, q.2.2, .int .i64 q.1.line] 57) ∧ cb = w4.heap.size ∧ Turns Nothing wr w5 ∧ Blk w5 wr.heap.size 96 #[v, lg] ∧ Blk w5 cb 57 #[strV q.1.name, q.2.1, q.2.2, .int .i64 q.1.line] ∧ CQAt w5 (K + 1) q := by
  have hK : K + 1 ≤ w3.heap.size := Nat.lt_of_lt_of_le h.conds.blk.lt h3.size
  have t5 := (Turns.refl Nothing w4).alloc (.cells #[strV q.1.name, q.2.1, q.2.2, .int .i64 q.1.line] 57)
  exact ⟨_, _, rfl, rfl, (h3.same h4).alloc _, lb.alloc _, Blk.new _ _ _, own_weak (t5.own hq.flags fun _ _ => id) hK, own_weak (t5.own hq.args fun _ _ => id) hK⟩
/-- behind the row of groups' growing -/
theorem grow_facts {w wb wr w0 w2 : World} {K lb : Nat} {sv lv : Value} {X : Bytes → Bytes × Int} {I : List Px.PLn → List Px.Cond → Prop} {L : List Lx.Ln} {R : Except (Int × Int) (List (List Px.Cmd))} {k g : Nat} {o : List Px.Cond} {Z : List (Value × List CQ)} {ov gv v lg : Value}
    (h : PRel w wb K sv lv X I L R k g o Z ov gv wr) (_hK : wb.heap.size = K) (hlt : w.heap.size + 1 < K) (h0 : Turns Nothing wr w0) (hl : Blk w0 lb 96 #[v, lg]) (hg : w0.grownBy w2 gv.ownBlock) :
    Blk w2 (w.heap.size + 1) 32 #[gv] ∧ Blk w2 lb 96 #[v, lg] := by
  have h' := h.still h0
  refine ⟨h'.box.grown hg fun e => ?_, hl.grown hg fun e => own_blk_ne h'.groups.outer hl (by decide) e.symm⟩
  have := (h.groups.outer.lt _ e.symm).1
  omega
theorem grow_turns {w0 w w' : World} {row : Option Nat} (_ : w.grownBy w' row) (ht : Turns Nothing w0 w) : Turns Nothing w0 w := ht
theorem outer_cell {w : World} {B g n cp : Nat} {xs : List Value} (h : w.ownsRow B 53 1 (.slice (some ⟨g, 0, none⟩) n cp) n xs) (i : Nat) (hi : i < n) : w.cell? ⟨g, i, none⟩ = xs[i]? ∧ w.frozen? ⟨g, i, none⟩ = false := by
  refine ⟨h.cellAt _ (by omega), ?_⟩
  rcases h.2 with ⟨e, _⟩ | ⟨g', cap, cur, e, _, hg, _⟩
  · injection e with e1
    cases e1
  · injection e with e1
    injection e1 with e1
    injection e1 with e1
    subst e1
    simp [World.frozen?, hg]
/-- behind the last group's growing -/
theorem push_facts {w wb wr w0 w2 : World} {K : Nat} {sv lv : Value} {X : Bytes → Bytes × Int} {I : List Px.PLn → List Px.Cond → Prop} {L : List Lx.Ln} {R : Except (Int × Int) (List (List Px.Cmd))} {k g : Nat} {o : List Px.Cond} {Z : List (Value × List CQ)} {ov gl : Value} {l : List CQ} {q : CQ} {gb cp cb : Nat}
    (h : PMid w wb K sv lv X I L R k g o Z gl l ov (.slice (some ⟨gb, 0, none⟩) (Z.length + 1) cp) q cb wr) (_hK : wb.heap.size = K) (hlt : w.heap.size + 1 < K) (h0 : Turns Nothing wr w0) (hg : w0.grownBy w2 gl.ownBlock) :
    Blk w2 (w.heap.size + 1) 32 #[.slice (some ⟨gb, 0, none⟩) (Z.length + 1) cp] ∧ w2.cell? ⟨gb, Z.length, none⟩ = some gl ∧ w2.frozen? ⟨gb, Z.length, none⟩ = false := by
  have hin := h.groups.inner (gl, l) (by simp)
  have ht2 : Turns (fun b => gl.ownBlock = some b) w0 w2 := (Turns.refl _ w0).grown hg fun _ _ e => e
  have ho := h.groups.outer
  rw [List.length_append, List.length_singleton] at ho
  have ho2 := ht2.own (h0.own ho fun _ _ => id) fun b hb e => own_ne hin ho (by decide) b e hb
  have hc := outer_cell ho2 Z.length (by omega)
  refine ⟨(h0.blk h.box id).grown hg fun e => ?_, by rw [hc.1]; simp, hc.2⟩
  have := (hin.lt _ e.symm).1
  omega
theorem done_parse {w w2 wr w4 : World} {K : Nat} {sv lv : Value} {X : Bytes → Bytes × Int} {I : List Px.PLn → List Px.Cond → Prop} {L : List Lx.Ln} {R : Except (Int × Int) (List (List Px.Cmd))} {k g : Nat} {o : List Px.Cond} {Z : List (Value × List CQ)} {ov gv : Value}
    (hb : PBox w w2) (h : PRel w w2 K sv lv X I L R k g o Z ov gv wr) (hlt : w.heap.size + 1 < K) (hc : Turns Nothing (((wr.setCell ⟨w.heap.size + 1, 0, none⟩ gv).setCell ⟨w.heap.size + 1 + 1, 0, none⟩ (.int .i64 0)).setCell ⟨w.heap.size + 1 + 1 + 1, 0, none⟩ (.int .i64 0)) w4) :
    w4.cell? ⟨w.heap.size + 1, 0, none⟩ = some gv ∧ w4.cell? ⟨w.heap.size + 1 + 1, 0, none⟩ = some (.int .i64 0) ∧ w4.cell? ⟨w.heap.size + 1 + 1 + 1, 0, none⟩ = some (.int .i64 0) ∧ ParsePost w (.ok (plainG Z)) (.returned (.tuple #[.agg #[gv], .int .i64 0, .int .i64 0])) w4 := by
  have n1 : w.heap.size + 1 ≠ w.heap.size + 1 + 1 := by omega
  have n2 : w.heap.size + 1 ≠ w.heap.size + 1 + 1 + 1 := by omega
  have n3 : w.heap.size + 1 + 1 ≠ w.heap.size + 1 + 1 + 1 := by omega
  obtain ⟨hbb, hcc⟩ := box_at hb h.turns
  have hT : Turns (fun b => b = w.heap.size + 1 ∨ b = w.heap.size + 1 + 1 ∨ b = w.heap.size + 1 + 1 + 1) wr w4 :=
    ((((Turns.refl _ wr).setCell (p := ⟨_, 0, none⟩) (.inl (.inl rfl)) _).setCell (p := ⟨_, 0, none⟩) (.inl (.inr (.inl rfl))) _).setCell (p := ⟨_, 0, none⟩) (.inl (.inr (.inr rfl))) _).trans hc fun _ _ e => e.elim
  refine ⟨(hc.blk (((h.box.set_ 0 gv).far (p := ⟨_, 0, none⟩) n1 _).far (p := ⟨_, 0, none⟩) n2 _) id).cell 0, (hc.blk (((hbb.far (p := ⟨_, 0, none⟩) n1.symm _).set_ 0 _).far (p := ⟨_, 0, none⟩) n3 _) id).cell 0,
    (hc.blk (((hcc.far (p := ⟨_, 0, none⟩) n2.symm _).far (p := ⟨_, 0, none⟩) n3.symm _).set_ 0 _) id).cell 0, ?_, gv, Z, rfl, ?_, rfl⟩
  · refine ((hb.turns.trans h.turns fun b hb e => ?_).trans hT fun b hb e => ?_)
    · have : b = w.heap.size + 1 := e
      omega
    · rcases e with e | e | e <;> omega
  · refine (h.groups.turns hT fun b _ e => ?_).weak (by omega)
    rcases e with rfl | rfl | rfl
    · exact foreign_box h.box
    · exact ⟨_, _, hbb, by decide, by decide, by decide, by decide⟩
    · exact ⟨_, _, hcc, by decide, by decide, by decide, by decide⟩
theorem kind_dir {w : World} {v : Value} {x : Px.PW} {l : List Px.PW} (h : PWordsAt w v (x :: l)) (hd : Px.isDir (x :: l) = true) : Calls Tryz.prog 31 #[v] w fun e w' => e = .returned (.iface 98 v) ∧ w' = w := by
  have := kind_in h
  rw [hd] at this
  exact this
theorem kind_cmd {w : World} {v : Value} {x : Px.PW} {l : List Px.PW} (h : PWordsAt w v (x :: l)) (hd : Px.isDir (x :: l) = false) : Calls Tryz.prog 31 #[v] w fun e w' => e = .returned (.iface 100 v) ∧ w' = w := by
  have := kind_in h
  rw [hd] at this
  exact this
set_option maxHeartbeats 4000000 in
theorem parse_in {w : World} {s : ByteArray} {sv lv ev : Value} {es : List (ByteArray × ByteArray)} (hsp : Space w) (hen : EnvAt w w.heap.size ev es) (X : Bytes → Bytes × Int) (I : List Px.PLn → List Px.Cond → Prop) (hI : DoInv sv lv X I)
    (hfit : ∀ L, Lx.split (envOf es) (sl s) = .ok L → Fit L ∧ I (L.map Px.ofLn) []) :
    Calls Tryz.prog 9 #[.string s, .agg #[sv, lv], ev] w (ParsePost w (Px.parse X (envOf es) (sl s))) := by
  have hmf : ∀ (fn : Fn) (first cap : Array Value) (w : World), (Instr.makeFunc fn first cap).run Tryz.prog w = .ok (.func fn first cap) w := fun _ _ _ _ => rfl
  have HEN := Lib.hid (fun (W : World) (ht : Turns Nothing w W) => split_any (s := s) (env_up (hen.keep fun p hp => ht.cell hp id) ht.size))
  obtain ⟨eA, ec, rfl, -⟩ := hen.at_
  clear hen
  go_enter_defers Tryz.func9, Tryz.ntmps9
  go_wp2_with fail
  refine (HEN.out _ (by exact ((((Turns.refl _ w).alloc _).alloc _).alloc _).alloc _)).mono ?_
  intro e w1 hp
  obtain ⟨hT1, hp⟩ := hp
  have hbox : PBox w w1 := by
    refine ⟨hT1.blk ?_ id, hT1.blk ?_ id, hT1.blk ?_ id, ((((Turns.refl Nothing w).alloc _).alloc _).alloc _).alloc _ |>.same hT1⟩
    · exact Blk.alloc (Blk.alloc (blk_new_at (by simp [go_sem])) _) _
    · exact Blk.alloc (blk_new_at (by simp [go_sem])) _
    · exact blk_new_at (by simp [go_sem])
  have r0 := hbox.a.cell 0
  have r1 := hbox.b.cell 0
  have r2 := hbox.c.cell 0
  have f0 := hbox.a.frozen 0
  have f1 := hbox.b.frozen 0
  have f2 := hbox.c.frozen 0
  simp at r0 r1 r2
  have HB := Lib.hid hbox
  cases hres : Lx.split (envOf es) (sl s) with
  | error x =>
    rw [hres] at hp
    subst hp
    have hx1 := (Lx.split_err hres).1.1
    have hx2 := (Lx.split_err hres).1.2
    have hx0 : (x.1 != 0) = true := by simp; omega
    have HX := Lib.hid hres
    clear hT1 hbox hres
    go_wp2_with fail
    go_region
    all_goals
      go_wp2_with fail
      have hE := HB.out.err x.1 x.2
      obtain ⟨e0, e1, e2, e3⟩ := hE
      simp [bodyPostD, Leaves, results, Tryz.results9, go_sem, e0, e1, e2]
      refine ⟨e3, ?_⟩
      rw [Px.parse, HX.out]
  | ok L =>
    rw [hres] at hp
    obtain ⟨ov, vs, rfl, hL⟩ := hp
    obtain ⟨hft, hI0⟩ := hfit L hres
    have sc := (hT1.blk (Blk.alloc (Blk.alloc (Blk.alloc (Blk.new w 43 #[sv, lv]) _) _) _) id)
    have s0 := sc.cell 0
    have s1 := sc.cell 1
    have sl1 := sc.lt
    simp at s0 s1
    obtain ⟨oA, oc, rfl⟩ := own_slice hL.row
    have hR : ∃ R, Px.parseL X (L.map Px.ofLn) [] 0 [] = R := ⟨_, rfl⟩
    obtain ⟨R, hR⟩ := hR
    have hpR : Px.parse X (envOf es) (sl s) = R := by rw [Px.parse, hres, ← hR]
    have HpR := Lib.hid hpR
    have HS := Lib.hid (start_rel hbox hT1 sc hL hft hI0 hR)
    clear hT1 hbox hI0 hL hres sc hfit hR hpR HEN
    go_upto_block 0 with fail
    obtain ⟨K, hK, HS2⟩ := HS.out
    rw [← hK]
    generalize hw2 : ((w1.setCell ⟨w.heap.size + 1 + 1, 0, none⟩ (.int .i64 0)).setCell ⟨w.heap.size + 1 + 1 + 1, 0, none⟩ (.int .i64 0)) = w2 at HS2 ⊢
    obtain ⟨hb2, hk2, hlt2, hlow, hrel⟩ := HS2 w2 rfl
    clear HS2
    have HL := Lib.hid hlow
    have HB2 := Lib.hid hb2
    have HF := Lib.hid hft
    have HR := Lib.hid hrel
    have HSP := Lib.hid hsp
    have HK2 := Lib.hid hk2
    clear hK hk2 HS hlow hrel hb2 hft hw2 f0 f1 f2 r0 r1 r2 s0 s1 sl1 HB hsp
    have td1 : ∀ v W, (Instr.typeAssert (.iface 98 v) 20 98 true).run Tryz.prog W = .ok (.tuple #[v, .bool true]) W := fun v W => by kernel_rfl
    have td2 : ∀ v W, (Instr.typeAssert (.iface 100 v) 20 98 true).run Tryz.prog W = .ok (.tuple #[.slice none 0 0, .bool false]) W := fun v W => by kernel_rfl
    have td3 : ∀ v W, (Instr.typeAssert (.iface 100 v) 20 100 true).run Tryz.prog W = .ok (.tuple #[v, .bool true]) W := fun v W => by kernel_rfl
    go_wp2_with fail
    go_loopw [38, 11] (fun i g wr => ∃ (k gn : Nat) (o : List Px.Cond) (Z : List (Value × List CQ)) (ov gv : Value), i = .int .i64 k ∧ g = .int .i64 gn ∧ PRel w w2 K sv lv X I L R k gn o Z ov gv wr) (fun i _ _ => L.length - (intOf i).toNat)
    case atStart => exact ⟨0, 0, _, _, _, _, rfl, rfl, HR.out⟩
    case round =>
      obtain ⟨k, gn, o, Z, ov, gv, rfl, rfl, hP⟩ := hrel
      have hk := hP.le
      by_cases hlt : k < L.length
      · obtain ⟨b, v, hA, hb, y0, y1, hpl⟩ := HL.out wr hP.turns k hlt
        subst hA
        have hfk := HF.out.each _ (List.getElem_mem hlt)
        obtain ⟨x, l, hxl⟩ : ∃ x l, L[k].1.map Px.ofW = x :: l := by
          cases h : L[k].1 with
          | nil => exact absurd h hfk.1
          | cons y r => exact ⟨_, _, rfl⟩
        have hlen : (x :: l).length ≤ 256 := by rw [← hxl, List.length_map]; exact hfk.2.1
        have hln : Px.line0 (L[k].1.map Px.ofW) = x.line := by rw [hxl]; rfl
        rw [hxl] at hpl
        obtain ⟨bw, ow, cw, rfl, hc1, hc2, hbw, x0, x1, x2, -⟩ := hpl.at_.cons
        clear x0 x2
        have hi := hP.inv
        rw [drop_line hlt, hxl] at hi
        have HX := Lib.hid (And.intro hxl (And.intro hlen hln))
        have hnum := hP.num.1
        have hmany := HF.out.many
        clear hfk hxl hlen hln
        cases hd : Px.isDir (x :: l) with
        | true =>
          have HKD := Lib.hid (fun (W : World) (ht : Turns Nothing wr W) => kind_dir (hpl.at_.still ht) hd)
          cases hdir : Px.dir X (x :: l) o with
          | ok o' =>
            have HDO := Lib.hid (fun (W : World) (ht : Turns Nothing wr W) => (hI.spec _ _ _ hi hd) W K ov _ (hP.conds.still ht) (hpl.still ht))
            have HP := Lib.hid (And.intro hP (And.intro hd hdir))
            clear hP hd hi hpl
            rw [hdir] at HDO
            clear hdir
            go_wp2_with (first
              | (go_at_call 31; refine (HKD.out _ ((Turns.refl _ wr).alloc _)).mono ?_; rintro e w' ⟨rfl, rfl⟩)
              | (go_at_call 32; refine (HDO.out _ ((Turns.refl _ wr).alloc _)).mono ?_; rintro e w3 ⟨rfl, ov', hc, ht, hat⟩; have H3 := Lib.hid (And.intro hc ht); clear hc ht hat))
            go_roundw
            case rel => exact ⟨k + 1, gn, o', Z, ov', gv, by go_num, rfl, HP.out.1.dir hI HK2.out hlt2 hlt (by rw [HX.out.1]; exact HP.out.2.1) (by rw [HX.out.1]; exact HP.out.2.2) ((Turns.refl _ wr).alloc _) H3.out.1 H3.out.2⟩
            case measure => simp [intOf]; omega
          | error m =>
            have HDO := Lib.hid (fun (W : World) (ht : Turns Nothing wr W) => (hI.spec _ _ _ hi hd) W K ov _ (hP.conds.still ht) (hpl.still ht))
            have HP := Lib.hid (And.intro hP (And.intro hd hdir))
            clear hP hd hi hpl
            rw [hdir] at HDO
            clear hdir
            go_wp2_with (first
              | (go_at_call 31; refine (HKD.out _ ((Turns.refl _ wr).alloc _)).mono ?_; rintro e w' ⟨rfl, rfl⟩)
              | (go_at_call 32; refine (HDO.out _ ((Turns.refl _ wr).alloc _)).mono ?_; rintro e w3 ⟨rfl, ht⟩; have H3 := Lib.hid ht; clear ht))
            have HTH := Lib.hid (thrown_do HB2.out HP.out.1 HK2.out hlt2 ((Turns.refl _ wr).alloc _) H3.out)
            have HRE := Lib.hid ((HP.out.1.dir_bad hlt (by rw [HX.out.1]; exact HP.out.2.1) (by rw [HX.out.1]; exact HP.out.2.2)).trans (by rw [HX.out.1]))
            refine leaves_cons (f := 30) (args := #[.pointer (some ⟨w.heap.size + 1, 0, none⟩), .pointer (some ⟨w.heap.size + 1 + 1, 0, none⟩), .pointer (some ⟨w.heap.size + 1 + 1 + 1, 0, none⟩)]) (by simp) (by simp [go_sem]) ?_
            refine (pcatch_panic _ _ _ _ _ _ _ _ _ HTH.out.2.1 HTH.out.2.2.1 HTH.out.2.2.2).mono ?_
            rintro e u w4 ⟨rfl, rfl, hc⟩
            have ca := hc.ca.cell 0
            have cb := hc.cb.cell 0
            have cc := hc.cc.cell 0
            simp at ca cb cc
            simp [Leaves, settle, results, Tryz.results9, go_sem, ca, cb, cc]
            rw [HpR.out]
            exact thrown_end HB2.out HTH.out.1 hc HRE.out
        | false =>
          have HKD := Lib.hid (fun (W : World) (ht : Turns Nothing wr W) => kind_cmd (hpl.at_.still ht) hd)
          have HTK := Lib.hid (fun (W : World) (ht : Turns Nothing wr W) => taken_in (hP.conds.still ht) (hI.few _ _ hi))
          have hww : Turns Nothing w wr := HB2.out.turns.trans hP.turns fun b hb e => by have : b = w.heap.size + 1 := e; omega
          have HWD := Lib.hid (fun (W : World) (ht : Turns Nothing wr W) => words_in (HSP.out.still (hww.same ht)) _ (x :: l) (hpl.at_.still ht) (by have := HX.out.2.1; omega))
          have HWW := Lib.hid hww
          clear hww
          cases htk : Px.taken o with
          | false =>
            have HP := Lib.hid (And.intro hP (And.intro hd htk))
            clear hP hd hi hpl
            rw [htk] at HTK
            clear htk
            go_wp2_with (first
              | (go_at_call 31; refine (HKD.out _ ((Turns.refl _ wr).alloc _)).mono ?_; rintro e w' ⟨rfl, rfl⟩)
              | (go_at_call 33; refine (HTK.out _ ((Turns.refl _ wr).alloc _)).mono ?_; rintro e w3 ⟨rfl, ht⟩; have T3 := Lib.hid (((Turns.refl Nothing wr).alloc _).same ht); have LB3 := Lib.hid (ht.blk (Blk.new wr _ _) id); clear ht))
            go_roundw
            case rel => exact ⟨k + 1, gn, o, Z, ov, gv, by go_num, rfl, HP.out.1.skip hI hlt (by rw [HX.out.1]; exact HP.out.2.1) HP.out.2.2 T3.out⟩
            case measure => simp [intOf]; omega
          | true =>
            cases hwd : Px.words (x :: l) with
            | error m =>
              have hm0 : (m != 0) = true := by
                rcases words_err hwd with rfl | rfl <;> decide
              have HP := Lib.hid (And.intro hP (And.intro hd (And.intro htk hwd)))
              clear hP hd hi hpl
              rw [htk] at HTK
              rw [hwd] at HWD
              clear htk hwd
              have HX1 := Lib.hid x1
              go_wp2_with (first
                | (go_at_call 31; refine (HKD.out _ ((Turns.refl _ wr).alloc _)).mono ?_; rintro e w' ⟨rfl, rfl⟩)
                | (go_at_call 33; refine (HTK.out _ ((Turns.refl _ wr).alloc _)).mono ?_; rintro e w3 ⟨rfl, ht⟩; have T3 := Lib.hid (((Turns.refl Nothing wr).alloc _).same ht); have LB3 := Lib.hid (ht.blk (Blk.new wr _ _) id); clear ht)
                | (go_at_call 34; refine (HWD.out _ T3.out).mono ?_; rintro e w4 ⟨ht, rfl⟩; simp only [zeroCmd]; have T4 := Lib.hid (T3.out.same ht); have x1 := (T4.out.cell (p := ⟨bw, ow + 1, none⟩) hbw id).trans HX1.out; have hbw4 := Nat.lt_of_lt_of_le hbw T4.out.size; clear ht))
              have HTH := Lib.hid (thrown_still HB2.out HP.out.1 (T4.out.alloc (.cells #[.string ⟨#[]⟩, .slice none 0 0, .slice none 0 0, .int .i64 0] 57)))
              have HRE := Lib.hid ((HP.out.1.words_bad hlt (by rw [HX.out.1]; exact HP.out.2.1) HP.out.2.2.1 (by rw [HX.out.1]; exact HP.out.2.2.2)).trans (by rw [HX.out.2.2]))
              refine leaves_cons (f := 30) (args := #[.pointer (some ⟨w.heap.size + 1, 0, none⟩), .pointer (some ⟨w.heap.size + 1 + 1, 0, none⟩), .pointer (some ⟨w.heap.size + 1 + 1 + 1, 0, none⟩)]) (by simp) (by simp [go_sem]) ?_
              refine (pcatch_panic _ _ _ _ _ _ _ _ _ HTH.out.2.1 HTH.out.2.2.1 HTH.out.2.2.2).mono ?_
              rintro e u w5 ⟨rfl, rfl, hc⟩
              have ca := hc.ca.cell 0
              have cb := hc.cb.cell 0
              have cc := hc.cc.cell 0
              simp at ca cb cc
              simp [Leaves, settle, results, Tryz.results9, go_sem, ca, cb, cc]
              rw [HpR.out]
              exact thrown_end HB2.out HTH.out.1 hc HRE.out
            | ok c =>
              have HP := Lib.hid (And.intro hP (And.intro hd (And.intro htk hwd)))
              clear hP hd hi hpl
              rw [htk] at HTK
              rw [hwd] at HWD
              clear htk hwd
              go_upto_region 20 with (first
                | (go_at_call 31; refine (HKD.out _ ((Turns.refl _ wr).alloc _)).mono ?_; rintro e w' ⟨rfl, rfl⟩)
                | (go_at_call 33; refine (HTK.out _ ((Turns.refl _ wr).alloc _)).mono ?_; rintro e w3 ⟨rfl, ht⟩; have T3 := Lib.hid (((Turns.refl Nothing wr).alloc _).same ht); have LB3 := Lib.hid (ht.blk (Blk.new wr _ _) id); clear ht)
                | (go_at_call 34; refine (HWD.out _ T3.out).mono ?_; rintro e w4 ⟨ht, cv, rfl, hcm⟩; have T4 := Lib.hid ht; have LB4 := Lib.hid (ht.blk LB3.out id); obtain ⟨fA, fc, aA, ac, rfl, hq⟩ := cmd_cq2 hcm; have HQ := Lib.hid hq; clear ht hcm hq))
              obtain ⟨w5, cb, hw5, hcb, F5⟩ := at_cmd HP.out.1 T3.out T4.out LB4.out HQ.out
              rw [← hw5, ← hcb]
              have HF5 := Lib.hid F5
              have hl5 := F5.2.1.cell 1
              have hl5l := F5.2.1.lt
              have hb5 := (F5.1.blk HP.out.1.box id).cell 0
              have hb5f := (F5.1.blk HP.out.1.box id).frozen 0
              have hb5l := (F5.1.blk HP.out.1.box id).lt
              simp at hl5 hb5
              obtain ⟨gA, gc, rfl⟩ := own_slice HP.out.1.groups.outer
              obtain ⟨ig, hig, hzg0, hzg1, hzg2⟩ := info_parts A.info_groups
              have hnum2 := hnum
              have HO5 := Lib.hid (fun (W : World) (ht : Turns Nothing w5 W) => (HP.out.1.still (F5.1.same ht)).groups.outer)
              have HG5 := Lib.hid (fun (W W2 : World) (ht : Turns Nothing w5 W) => grow_facts (w2 := W2) HP.out.1 HK2.out hlt2 (F5.1.same ht) (ht.blk F5.2.1 id))
              have hKl := Nat.lt_of_lt_of_le HP.out.1.conds.blk.lt F5.1.size
              clear T4 T3 LB4 LB3 HQ hw5 hcb F5 x1 y0 y1 HTK HKD HWD
              generalize hzn : Z.length = zn at *
              have HZN := Lib.hid hzn
              generalize hgl : L[k].2 = lg at *
              have HGL := Lib.hid hgl
              clear hzn hgl
              go_cut [38, 80] from 38 to 104 (fun s38 s80 wx => s38 = .int .i64 k ∧ s80 = .bool (decide (¬ lg = gn ∨ zn = 0)) ∧ wx = w5)
              case first =>
                by_cases hg : lg = gn
                · have e1 : ((lg : Int) != (gn : Int)) = false := by simp [hg]
                  by_cases hz : zn = 0
                  · have e2 : ((zn : Int) == 0) = true := by simp [hz]
                    go_wp2_with fail
                    go_meet
                    exact ⟨rfl, by rw [decide_eq_true (.inr hz)], rfl⟩
                  · have e2 : ((zn : Int) == 0) = false := by simp [hz]
                    go_wp2_with fail
                    go_meet
                    exact ⟨rfl, by rw [decide_eq_false (by omega)], rfl⟩
                · have e1 : ((lg : Int) != (gn : Int)) = true := by simp; omega
                  go_wp2_with fail
                  go_meet
                  exact ⟨rfl, by rw [decide_eq_true (.inl hg)], rfl⟩
              case rest =>
                obtain ⟨rfl, rfl, e5⟩ := hcut
                rw [e5]
                clear e5
                go_upto_if 80 with fail
                go_cut [11, 38] from 38 to 104 (fun s11 s38 wx => ∃ (g' : Nat) (Z' : List (Value × List CQ)) (gl : Value) (l' : List CQ) (gv' : Value), s11 = .int .i64 g' ∧ s38 = .int .i64 k ∧
                  PMid w w2 K sv lv X I L R k g' o Z' gl l' ov gv' (c, .slice fA c.flags.length fc, .slice aA c.args.length ac) cb wx)
                case first =>
                  by_cases hc : ¬ lg = gn ∨ zn = 0
                  · rw [decide_eq_true hc]
                    have HC := Lib.hid hc
                    clear hc
                    have HM := Lib.hid (fun (W W2 : World) (gv' : Value) (ht : Turns Nothing w5 W) => HP.out.1.mid_new (w2 := W2) (gv' := gv') (q := (c, .slice fA c.flags.length fc, .slice aA c.args.length ac)) hI HK2.out hlt2 hlt (by rw [HX.out.1]; exact HP.out.2.1) HP.out.2.2.1 (by rw [HX.out.1]; exact HP.out.2.2.2) (by rw [HGL.out, HZN.out]; exact HC.out) (HF5.out.1.same ht) (ht.blk HF5.out.2.2.1 id) ⟨ht.own HF5.out.2.2.2.flags fun _ _ => id, ht.own HF5.out.2.2.2.args fun _ _ => id⟩)
                    rw [HGL.out, HZN.out] at HM
                    go_upto_region 21 with fail
                    refine wp_region_noPanic ?_
                    go_region_law (refine step_append_src _ (by rfl) _ _ _ _ (by rfl) (K + 1) 53 ig _ 1 24 Tryz.underlying30 hig hzg0 hzg1 hzg2 (by rfl) (.slice gA zn gc) zn (Z.map (·.1)) (by rfl) (by exact HO5.out _ (by first | exact (Turns.refl _ w5).alloc _ | exact ((Turns.refl _ w5).drewN _).alloc _ | exact (((Turns.refl _ w5).drewN 1).drewN _).alloc _)) _ 1 [.slice none 0 0] (by rfl) (by first | exact psrc_block Tryz.underlying30 (Blk.new w5 _ _) 1 1 rfl (by intro u hu; simp at hu; rcases hu with rfl; rfl)) (by simp only [maxLen]; omega) (by omega) (by simp; omega) ?_; intro A1 cp1 w6 ho1 hg1 hat1; have kb := HG5.out _ w6 (by first | exact (Turns.refl _ w5).alloc _ | exact ((Turns.refl _ w5).drewN _).alloc _ | exact (((Turns.refl _ w5).drewN 1).drewN _).alloc _) hg1; have k0 := kb.1.cell 0; have k1 := kb.1.frozen 0; have k2 := kb.2.cell 1; have HN := Lib.hid (And.intro (grow_turns hg1 (by first | exact (Turns.refl _ w5).alloc _ | exact ((Turns.refl _ w5).drewN _).alloc _ | exact (((Turns.refl _ w5).drewN 1).drewN _).alloc _)) (And.intro ho1 hg1)); clear ho1 hg1 hat1 kb)
                    all_goals
                      apply NoPanic.normal
                      go_wp2_with fail
                      go_meet
                      exact ⟨lg, Z, _, _, _, rfl, rfl, HM.out _ _ _ HN.out.1 HN.out.2.1 HN.out.2.2⟩
                  · rw [decide_eq_false hc]
                    have HC := Lib.hid hc
                    clear hc
                    go_wp2_with fail
                    go_meet
                    obtain ⟨Z', gl, l', hz, hm⟩ := HP.out.1.mid_old (q := (c, .slice fA c.flags.length fc, .slice aA c.args.length ac)) hI hlt (by rw [HX.out.1]; exact HP.out.2.1) HP.out.2.2.1 (by rw [HX.out.1]; exact HP.out.2.2.2) (by rw [HGL.out]; have := HC.out; omega) (by rw [HZN.out]; have := HC.out; omega) HF5.out.1 HF5.out.2.2.1 HF5.out.2.2.2
                    exact ⟨gn, Z', gl, l', _, rfl, rfl, hm⟩
                case rest =>
                  obtain ⟨g', Z', gl, l', gv', rfl, rfl, hM⟩ := hcut
                  obtain ⟨gb, cp, rfl, hgb, hgbl, hgc, hgf⟩ := hM.groups.last
                  obtain ⟨lA, lc, e⟩ := own_slice (hM.groups.inner (gl, l') (by simp))
                  dsimp only at e hgc
                  subst e
                  obtain ⟨ic, hic, hzc0, hzc1, hzc2⟩ := info_parts A.info_cmd
                  have q0 := hM.box.cell 0
                  have qf := hM.box.frozen 0
                  have ql := hM.box.lt
                  obtain ⟨d0, d1, d2, d3, -, -, -, -⟩ := four_cells hM.cmd
                  have dl := hM.cmd.lt
                  simp at q0
                  have hn1 := hM.num.1
                  have hn2 := hM.num.2.2
                  have HOL := Lib.hid (fun (W : World) (ht : Turns Nothing wc W) => ht.own (hM.groups.inner _ (List.mem_append_right _ (List.mem_singleton.2 rfl))) fun _ _ => id)
                  have HPF := Lib.hid (fun (W W2 : World) (ht : Turns Nothing wc W) => push_facts (w2 := W2) hM HK2.out hlt2 ht)
                  have HM := Lib.hid (fun (W W2 : World) (gl' : Value) (ht : Turns Nothing wc W) => hM.push (w2 := W2) (gl' := gl') HK2.out hlt2 ht)
                  have hKc := Nat.lt_of_lt_of_le hKl (Nat.le_refl _)
                  have hKc2 := hM.conds.blk.lt
                  clear hM hl5 hb5 hb5f hl5l hb5l HO5 HG5 HF5
                  generalize hzs : Z'.length + 1 = zs at *
                  have hz1 : ((zs : Int) - 1) = (Z'.length : Int) := by omega
                  have hz2 : Z'.length < zs := by omega
                  generalize Z'.length = zn' at *
                  generalize hln : l'.length = ln at *
                  have HLN := Lib.hid hln
                  clear hzs hln
                  go_upto_region 23 with fail
                  refine wp_region_noPanic ?_
                  go_region_law (refine step_append_src _ (by rfl) _ _ _ _ (by rfl) (K + 1) 57 ic _ 4 72 Tryz.underlying53 hic hzc0 hzc1 hzc2 (by rfl) (.slice lA ln lc) ln (cqCells l') (by rfl) (by exact HOL.out _ (by first | exact (Turns.refl _ wc).alloc _ | exact ((Turns.refl _ wc).drewN _).alloc _ | exact (((Turns.refl _ wc).drewN 1).drewN _).alloc _)) _ 1 [strV c.name, .slice fA c.flags.length fc, .slice aA c.args.length ac, .int .i64 c.line] (by rfl) (by first | exact psrc_block Tryz.underlying53 (Blk.new wc _ _) 1 1 rfl (by intro u hu; simp at hu; rcases hu with rfl | rfl | rfl | rfl <;> rfl)) (by simp only [maxLen]; omega) (by omega) (by simp; omega) ?_; intro A1 cp1 w6 ho1 hg1 hat1; have kb := HPF.out _ w6 (by first | exact (Turns.refl _ wc).alloc _ | exact ((Turns.refl _ wc).drewN _).alloc _ | exact (((Turns.refl _ wc).drewN 1).drewN _).alloc _) hg1; have k0 := kb.1.cell 0; have k1 := kb.2.1; have k2 := kb.2.2; have HN := Lib.hid (And.intro (grow_turns hg1 (by first | exact (Turns.refl _ wc).alloc _ | exact ((Turns.refl _ wc).drewN _).alloc _ | exact (((Turns.refl _ wc).drewN 1).drewN _).alloc _)) (And.intro ho1 (And.intro hg1 hat1))); clear ho1 hg1 hat1 kb)
                  all_goals
                    apply NoPanic.normal
                    go_wp2_with fail
                    go_roundw
                    case rel => exact ⟨k + 1, g', o, _, ov, _, by go_num, rfl, HM.out _ _ _ HN.out.1 HN.out.2.1 HN.out.2.2.1 (HN.out.2.2.2.imp id fun e => ⟨_, e, HN.out.1.size⟩)⟩
                    case measure => simp [intOf]; omega
      · obtain rfl : k = L.length := by omega
        have hr := hP.res
        rw [List.drop_eq_nil_of_le (by simp)] at hr
        have hfw := hI.few _ _ hP.inv
        obtain ⟨gA, gc, rfl⟩ := own_slice hP.groups.outer
        rcases List.eq_nil_or_concat o with rfl | ⟨o', c, rfl⟩
        · obtain ⟨cA, ccp, rfl⟩ := own_slice hP.conds.own
          have HRE := Lib.hid (show R = .ok (plainG Z) from hr.symm)
          obtain ⟨c0, c1, c2, -⟩ := three_cells hP.conds.blk
          have hKl := hP.conds.blk.lt
          have HTH := Lib.hid (thrown_still HB2.out hP (Turns.refl _ wr))
          have r0 := HTH.out.2.1.cell 0
          have r1 := HTH.out.2.2.1.cell 0
          have r2 := HTH.out.2.2.2.cell 0
          have f0 := HTH.out.2.1.frozen 0
          have f1 := HTH.out.2.2.1.frozen 0
          have f2 := HTH.out.2.2.2.frozen 0
          simp at r0 r1 r2 c2
          have HP := Lib.hid hP
          clear hP hr
          go_wp2_with fail
          refine leaves_cons (f := 30) (args := #[.pointer (some ⟨w.heap.size + 1, 0, none⟩), .pointer (some ⟨w.heap.size + 1 + 1, 0, none⟩), .pointer (some ⟨w.heap.size + 1 + 1 + 1, 0, none⟩)]) (by simp) (by simp [go_sem]) ?_
          refine (pcatch_idle _ _ (w.heap.size + 1) (w.heap.size + 1 + 1) (w.heap.size + 1 + 1 + 1) rfl).mono ?_
          rintro e u w4 ⟨rfl, rfl, hc⟩
          obtain ⟨ca, cb, cc, hp⟩ := done_parse HB2.out HP.out hlt2 hc
          simp [Leaves, settle, results, Tryz.results9, go_sem, ca, cb, cc]
          rw [HpR.out, HRE.out]
          exact hp
        · rw [List.concat_eq_append] at *
          have HRE := Lib.hid (show R = .error (4, c.line) from by rw [← hr]; simp [Px.parseL])
          obtain ⟨c0, c1, c2, -⟩ := three_cells hP.conds.blk
          obtain ⟨cg, cp, rfl, hcg, hcgl, d0, -, -, -, -, -⟩ := hP.conds.last
          have hKl := hP.conds.blk.lt
          have HTH := Lib.hid (thrown_still HB2.out hP (Turns.refl _ wr))
          rw [List.length_append, List.length_singleton] at hfw
          have HP := Lib.hid hP
          clear hP hr
          generalize hos : o'.length + 1 = os at *
          have hz1 : ((os : Int) - 1) = (o'.length : Int) := by omega
          have hz2 : o'.length < os := by omega
          generalize o'.length = on' at *
          clear hos
          go_wp2_with fail
          refine leaves_cons (f := 30) (args := #[.pointer (some ⟨w.heap.size + 1, 0, none⟩), .pointer (some ⟨w.heap.size + 1 + 1, 0, none⟩), .pointer (some ⟨w.heap.size + 1 + 1 + 1, 0, none⟩)]) (by simp) (by simp [go_sem]) ?_
          refine (pcatch_panic _ _ _ _ _ _ _ _ _ HTH.out.2.1 HTH.out.2.2.1 HTH.out.2.2.2).mono ?_
          rintro e u w4 ⟨rfl, rfl, hc⟩
          have ca := hc.ca.cell 0
          have cb := hc.cb.cell 0
          have cc := hc.cc.cell 0
          simp at ca cb cc
          simp [Leaves, settle, results, Tryz.results9, go_sem, ca, cb, cc]
          rw [HpR.out]
          exact thrown_end HB2.out HTH.out.1 hc HRE.out
end Go.Proofs.YtiopaenonjhlnaaGreatDoor
