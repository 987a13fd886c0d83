/- The walks of package lex's reader: end; the state between words. -/
import Derived.Test.YtedlhdegdlabhaaGreatDoorLexBlock
import Derived.Deep.RegionHeld3
import Derived.Deep.RegionLaw
namespace Go.Proofs.YtedlhdegdlabhaaGreatDoor
set_option maxRecDepth 8000
open Go.RowKit
open Lx (Bytes)

structure RCfg where
  B : Nat
  W0 : Nat
  R : Nat
  s : ByteArray
  ev : Value
  es : List (ByteArray × ByteArray)

def wordCells (l : List Lx.W) : List Value := l.flatMap fun x => [.string ⟨x.text.toArray⟩, .int .i64 x.line, .bool x.block]
def lineCells : List Value → List Lx.Ln → List Value
  | v :: vs, x :: l => v :: .int .i64 x.2 :: lineCells vs l
  | _, _ => []
theorem lineCells_snoc : ∀ (vs : List Value) (l : List Lx.Ln) (v : Value) (x : Lx.Ln), vs.length = l.length → lineCells (vs ++ [v]) (l ++ [x]) = lineCells vs l ++ [v, .int .i64 x.2]
  | [], [], v, x, _ => rfl
  | u :: vs, y :: l, v, x, h => by
    simp only [List.cons_append, lineCells]
    rw [lineCells_snoc vs l v x (by simpa using h)]
  | [], _ :: _, _, _, h => by cases h
  | _ :: _, [], _, _, h => by cases h
/-- commands that lie in memory from block W0 on -/
structure LinesAt (w : World) (W0 : Nat) (ov : Value) (out : List Lx.Ln) (vs : List Value) : Prop where
  len : vs.length = out.length
  row : w.ownsRow W0 95 2 ov out.length (lineCells vs out)
  words : ∀ i (h : i < vs.length) (h' : i < out.length), w.ownsRow W0 53 3 vs[i] out[i].1.length (wordCells out[i].1)

structure RC (w : World) (c : RCfg) (k : Nat) (wl : Int) (tx nv ov : Value) (now : List Lx.W) (out : List Lx.Ln) (vs : List Value) (g : Nat) : Prop where
  blk : Blk w c.R 124 #[.string c.s, c.ev, .int .i64 k, .int .i64 (lineAt c.s k), .int .i64 wl, tx, ov, nv, .int .i64 g]
  hB : c.B ≤ c.R
  hW : c.R < c.W0
  hw : c.W0 ≤ w.heap.size
  size : c.s.size ≤ 65536
  le : k ≤ c.s.size
  nown : w.ownsRow c.W0 53 3 nv now.length (wordCells now)
  lines : LinesAt w c.W0 ov out vs
  apart : ∀ v ∈ vs, ∀ b, v.ownBlock = some b → nv.ownBlock ≠ some b
  few : now.length ≤ 256
  many : out.length + (if now = [] then 0 else 1) ≤ 1000
  grp : g ≤ k + 1
  env : EnvAt w c.B c.ev c.es

def RS (c : RCfg) : Nat → Prop := fun b => b = c.R ∨ c.W0 ≤ b

section
variable {w w' : World} {c : RCfg} {k : Nat} {wl : Int} {tx nv ov : Value} {now : List Lx.W} {out : List Lx.Ln} {vs : List Value} {g : Nat}
theorem RC.c0 (h : RC w c k wl tx nv ov now out vs g) : w.cell? ⟨c.R, 0, none⟩ = some (.string c.s) := by rw [h.blk.cell]; rfl
theorem RC.c2 (h : RC w c k wl tx nv ov now out vs g) : w.cell? ⟨c.R, 2, none⟩ = some (.int .i64 k) := by rw [h.blk.cell]; rfl
theorem RC.c3 (h : RC w c k wl tx nv ov now out vs g) : w.cell? ⟨c.R, 3, none⟩ = some (.int .i64 (lineAt c.s k)) := by rw [h.blk.cell]; rfl
theorem RC.c4 (h : RC w c k wl tx nv ov now out vs g) : w.cell? ⟨c.R, 4, none⟩ = some (.int .i64 wl) := by rw [h.blk.cell]; rfl
theorem RC.c5 (h : RC w c k wl tx nv ov now out vs g) : w.cell? ⟨c.R, 5, none⟩ = some tx := by rw [h.blk.cell]; rfl
theorem RC.c6 (h : RC w c k wl tx nv ov now out vs g) : w.cell? ⟨c.R, 6, none⟩ = some ov := by rw [h.blk.cell]; rfl
theorem RC.c7 (h : RC w c k wl tx nv ov now out vs g) : w.cell? ⟨c.R, 7, none⟩ = some nv := by rw [h.blk.cell]; rfl
theorem RC.c8 (h : RC w c k wl tx nv ov now out vs g) : w.cell? ⟨c.R, 8, none⟩ = some (.int .i64 g) := by rw [h.blk.cell]; rfl
theorem RC.f (h : RC w c k wl tx nv ov now out vs g) (i : Nat) : w.frozen? ⟨c.R, i, none⟩ = false := h.blk.frozen i
theorem RC.ltR (h : RC w c k wl tx nv ov now out vs g) : c.R < w.heap.size := h.blk.lt
theorem LinesAt.turns {S : Nat → Prop} {W0 : Nat} (h : LinesAt w W0 ov out vs) (ht : Turns S w w') (h1 : ∀ b, ov.ownBlock = some b → ¬ S b) (h2 : ∀ v ∈ vs, ∀ b, v.ownBlock = some b → ¬ S b) : LinesAt w' W0 ov out vs :=
  ⟨h.len, ht.own h.row h1, fun i hi hi' => ht.own (h.words i hi hi') (h2 _ (List.getElem_mem hi))⟩
end
theorem own_ne {w : World} {b1 b2 : Nat} {e1 e2 : TypeId} {s1 s2 n1 n2 : Nat} {v1 v2 : Value} {x1 x2 : List Value} (h1 : w.ownsRow b1 e1 s1 v1 n1 x1) (h2 : w.ownsRow b2 e2 s2 v2 n2 x2) (hne : e1 ≠ e2) :
    ∀ g, v1.ownBlock = some g → v2.ownBlock ≠ some g := by
  intro g hg hg2
  rcases h2.2 with ⟨rfl, _⟩ | ⟨g', cap, cur, rfl, _, hh, _⟩
  · simp [Value.ownBlock] at hg2
  · have : g' = g := by simpa [Value.ownBlock] using hg2
    subst this
    exact own_blk_ne h1 hh hne hg

theorem A.info_line : (Tryz.prog.info? 95).map (fun i => (i.zero, i.size, i.bytes)) = some (some (.agg #[.slice none 0 0, .int .i64 0]), 2, 32) := by kernel_rfl
theorem A.info_word : (Tryz.prog.info? 53).map (fun i => (i.zero, i.size, i.bytes)) = some (some (.agg #[.string ⟨#[]⟩, .int .i64 0, .bool false]), 3, 32) := by kernel_rfl

theorem Src.ofBlock {P : Program} {size : Nat} {tx e' : TypeId} (hk : P.underlying tx = some (.slice e')) {w w' : World} {g : Nat} {t : TypeId} {cs : Array Value} (hb : Blk w g t cs) (n c : Nat) (hl : cs.toList.length = n * size) (h1 : ∀ u ∈ cs.toList, u.oneCell' = true)
    (hw : w'.heap = w.heap := by rfl) : Src P size tx (.slice (some ⟨g, 0, none⟩) n c) n cs.toList w' := by
  refine Src.ofSlice w' hk ⟨g, 0, none⟩ n c cs.toList hl (fun j u hj => ?_) h1
  have hb' : Blk w' g t cs := by unfold Blk; rw [hw]; exact hb
  have ha : (⟨g, 0, none⟩ : Addr).add j = ⟨g, j, none⟩ := by unfold Addr.add; split <;> simp_all
  rw [ha, hb'.cell]
  simpa using hj
/-- what end leaves of the two rows -/
structure EndPost (w : World) (R W0 : Nat) (ov nv : Value) (n : Nat) (xs : List Value) (g : Int) (w' : World) : Prop where
  ex : ∃ ov' w1, w' = (w1.setCell ⟨R, 6, none⟩ ov').setCell ⟨R, 7, none⟩ (.slice none 0 0) ∧ w1.ownsRow W0 95 2 ov' (n + 1) (xs ++ [nv, .int .i64 g]) ∧ Turns (fun b => ov.ownBlock = some b) w w1 ∧ (ov'.ownBlock = ov.ownBlock ∨ ∃ b, ov'.ownBlock = some b ∧ w.heap.size ≤ b)

set_option maxRecDepth 100000 in
set_option maxHeartbeats 2000000 in
theorem end_in {w : World} {R W0 n m : Nat} {ov nv : Value} {Ad : Option Addr} {cp : Nat} {xs : List Value} {g : Int} (hnv : nv = .slice Ad m cp) (hm : 0 < m) (h6 : w.cell? ⟨R, 6, none⟩ = some ov) (h7 : w.cell? ⟨R, 7, none⟩ = some nv) (h8 : w.cell? ⟨R, 8, none⟩ = some (.int .i64 g))
    (f6 : w.frozen? ⟨R, 6, none⟩ = false) (f7 : w.frozen? ⟨R, 7, none⟩ = false) (hn : some R ≠ ov.ownBlock) (hR : R < w.heap.size) (hB : W0 ≤ w.heap.size) (ho : w.ownsRow W0 95 2 ov n xs) (hfew : n ≤ 1000) :
    Calls Tryz.prog 79 #[.pointer (some ⟨R, 0, none⟩)] w fun e w' => e = .returned (.tuple #[]) ∧ EndPost w R W0 ov nv n xs g w' := by
  obtain ⟨i0, hi0, hz0, hz1, hz2⟩ := info_parts A.info_line
  subst hnv
  go_enter Tryz.func79, Tryz.ntmps79
  go_wp2_with fail
  go_region_law ((refine step_append_src _ (by rfl) _ _ _ _ (by rfl) W0 95 i0 _ 2 32 Tryz.underlying84 hi0 hz0 hz1 hz2 (by rfl) ov n xs (by rfl) (by exact (ho.alloc _).drew) _ 1 [.slice Ad m cp, .int .i64 g] (by rfl) (by exact Src.ofBlock Tryz.underlying84 (Blk.new w _ _) 1 1 rfl (by intro u hu; simp at hu; rcases hu with rfl | rfl <;> rfl)) (by simp only [maxLen]; omega) (by omega) (by simp; omega) ?_; intro A1 cp1 w1 ho1 hg1 hat1; have c6 := hg1.cell (a := ⟨R, 6, none⟩) ((World.cell?_of_block (Below.heap_alloc w _ R hR)).trans h6) hn; have g6 := (World.frozen?_of_block (a := ⟨R, 6, none⟩) (hg1.block R (by simp; omega) hn)).trans ((World.frozen?_of_block (Below.heap_alloc w _ R hR)).trans f6); have c7 := hg1.cell (a := ⟨R, 7, none⟩) ((World.cell?_of_block (Below.heap_alloc w _ R hR)).trans h7) hn; have g7 := (World.frozen?_of_block (a := ⟨R, 7, none⟩) (hg1.block R (by simp; omega) hn)).trans ((World.frozen?_of_block (Below.heap_alloc w _ R hR)).trans f7)))
  all_goals
    go_wp2_with fail
    go_end0
    refine ⟨rfl, ⟨_, w1, rfl, ho1, ((((Turns.refl _ w).alloc _).drewN 1).grown hg1 fun b _ e => e), ?_⟩⟩
    rcases hat1 with e | e
    · exact .inl e
    · exact .inr ⟨_, e, by simp⟩

/-- behind end: the command at hand, if it has words, stands with the others -/
theorem end_some {w : World} {c : RCfg} {k : Nat} {wl : Int} {tx nv ov : Value} {now : List Lx.W} {out : List Lx.Ln} {vs : List Value} {g : Nat} (h : RC w c k wl tx nv ov now out vs g) (hne : now ≠ []) :
    Calls Tryz.prog 79 #[.pointer (some ⟨c.R, 0, none⟩)] w fun e w' => e = .returned (.tuple #[]) ∧ ∃ ov', RC w' c k wl tx (.slice none 0 0) ov' [] (out ++ [(now, g)]) (vs ++ [nv]) g ∧ Turns (RS c) w w' := by
  have hpos : 0 < now.length := by cases now with | nil => exact absurd rfl hne | cons => simp
  have hBw : c.W0 ≤ w.heap.size := h.hw
  have hovR : ov.ownBlock ≠ some c.R := own_blk_ne h.lines.row h.blk (by decide)
  have hm := h.many
  rw [if_neg hne] at hm
  obtain ⟨Ad, cp, hnv⟩ := own_slice h.nown
  refine (end_in hnv hpos h.c6 h.c7 h.c8 (h.f 6) (h.f 7) (fun e => hovR e.symm) h.ltR hBw h.lines.row (by omega)).mono ?_
  rintro e w' ⟨rfl, ⟨ov', w1, rfl, ho1, ht, hat⟩⟩
  have hnR : nv.ownBlock ≠ some c.R := own_blk_ne h.nown h.blk (by decide)
  have hovL : ∀ b, ov.ownBlock = some b → c.W0 ≤ b := fun b hb => (h.lines.row.lt b hb).1
  have hbk : Blk w1 c.R 124 #[.string c.s, c.ev, .int .i64 k, .int .i64 (lineAt c.s k), .int .i64 wl, tx, ov, nv, .int .i64 g] := ht.blk h.blk hovR
  have hvR : ∀ v ∈ vs, ∀ b, v.ownBlock = some b → b ≠ c.R := by
    intro v hv b hb e
    subst e
    obtain ⟨i, hi, rfl⟩ := List.getElem_of_mem hv
    exact own_blk_ne (h.lines.words i hi (by rw [← h.lines.len]; exact hi)) h.blk (by decide) hb
  have hT2 : Turns (Only c.R) w1 ((w1.setCell ⟨c.R, 6, none⟩ ov').setCell ⟨c.R, 7, none⟩ (.slice none 0 0)) := ((Turns.refl (Only c.R) w1).setCell (p := ⟨c.R, 6, none⟩) (.inl rfl) ov').setCell (p := ⟨c.R, 7, none⟩) (.inl rfl) _
  have hov' : ∀ b, ov'.ownBlock = some b → b ≠ c.R := by
    intro b hb e; subst e
    exact own_blk_ne ho1 hbk (by decide) hb
  refine ⟨rfl, ov', ⟨?_, h.hB, h.hW, ?_, h.size, h.le, ⟨by simp [wordCells], .inl ⟨rfl, rfl⟩⟩, ⟨by simp [h.lines.len], ?_, ?_⟩, ?_, by simp, by simp; omega, h.grp, ?_⟩, ?_⟩
  · have := (hbk.set_ 6 ov').set_ 7 (.slice none 0 0)
    exact this
  · have := hT2.size; have := ht.size; omega
  · have := hT2.own ho1 hov'
    rw [List.length_append, show (lineCells (vs ++ [nv]) (out ++ [(now, g)])) = lineCells vs out ++ [nv, .int .i64 g] from lineCells_snoc vs out nv (now, g) h.lines.len]
    exact this
  · intro i hi hi'
    rcases Nat.lt_or_ge i vs.length with hl | hl
    · have hl' : i < out.length := by rw [← h.lines.len]; exact hl
      have hr := h.lines.words i hl hl'
      have e1 : (vs ++ [nv])[i] = vs[i] := List.getElem_append_left hl
      have e2 : (out ++ [(now, g)])[i] = out[i] := List.getElem_append_left hl'
      rw [e1, e2]
      refine hT2.own (ht.own hr fun b hb e => own_ne hr h.lines.row (by decide) b hb e) fun b hb e => hvR _ (List.getElem_mem hl) b hb e
    · have hv : i = vs.length := by simp at hi; omega
      subst hv
      have e1 : (vs ++ [nv])[vs.length] = nv := by simp
      have e2 : (out ++ [(now, g)])[vs.length] = (now, g) := by simp [h.lines.len]
      rw [e1, e2]
      exact hT2.own (ht.own h.nown fun b hb e => own_ne h.nown h.lines.row (by decide) b hb e) fun b hb e => hnR (by rw [hb, e])
  · intro v hv b hb; simp [Value.ownBlock]
  · refine h.env.keep fun p hp => (hT2.cell ?_ ?_).trans (ht.cell ?_ ?_)
    · have := ht.size; have := h.hB; have := h.hW; omega
    · intro e; have e2 : p.block = c.R := e; have := h.hB; omega
    · have := h.hB; have := h.hW; omega
    · intro e; have := hovL _ e; have := h.hB; have := h.hW; omega
  · refine (ht.mono fun b _ e => .inr (hovL b e)).trans hT2 fun b _ e => .inl e
end Go.Proofs.YtedlhdegdlabhaaGreatDoor
