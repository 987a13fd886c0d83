/- Package parse: the commands' groups, as they lie in memory; a group is begun, a command is put into the last. -/
import Derived.Test.YtedlhdegdlabhaaGreatDoorParseIf
import Derived.Test.YtedlhdegdlabhaaGreatDoorParseWords
import Derived.Test.YtedlhdegdlabhaaGreatDoorLexSplitIn
namespace Go.Proofs.YtedlhdegdlabhaaGreatDoor
set_option maxRecDepth 8000
open Go.RowKit
open Lx (Bytes)

/-- a command, with its rows of flags and of arguments -/
abbrev CQ := Px.Cmd × Value × Value
def cqCell (q : CQ) : List Value := [strV q.1.name, q.2.1, q.2.2, .int .i64 q.1.line]
def cqCells (l : List CQ) : List Value := l.flatMap cqCell
theorem cqCells_len : ∀ l : List CQ, (cqCells l).length = l.length * 4
  | [] => rfl
  | x :: l => by
    have e : cqCells (x :: l) = cqCell x ++ cqCells l := rfl
    rw [e, List.length_append, cqCells_len l, List.length_cons]
    show 4 + _ = _
    omega
theorem cqCells_last (l : List CQ) (q : CQ) : cqCells (l ++ [q]) = cqCells l ++ cqCell q := by simp [cqCells]
structure CQAt (w : World) (B : Nat) (q : CQ) : Prop where
  flags : w.ownsRow B 67 2 q.2.1 q.1.flags.length (flagCells q.1.flags)
  args : w.ownsRow B 9 1 q.2.2 q.1.args.length (q.1.args.map strV)
structure GroupsAt (w : World) (B : Nat) (gv : Value) (Z : List (Value × List CQ)) : Prop where
  outer : w.ownsRow B 37 1 gv Z.length (Z.map (·.1))
  inner : ∀ z ∈ Z, w.ownsRow B 27 4 z.1 z.2.length (cqCells z.2)
  rows : ∀ z ∈ Z, ∀ q ∈ z.2, CQAt w B q
  apart : Z.Pairwise fun a b => ∀ k, a.1.ownBlock = some k → b.1.ownBlock ≠ some k
/-- a block that is no part of any groups -/
def Foreign (w : World) (b : Nat) : Prop := ∃ t cs, Blk w b t cs ∧ 37 ≠ t ∧ 27 ≠ t ∧ 67 ≠ t ∧ 9 ≠ t
theorem GroupsAt.turns {w w' : World} {B : Nat} {gv : Value} {Z : List (Value × List CQ)} (h : GroupsAt w B gv Z) {S : Nat → Prop} (ht : Turns S w w') (hs : ∀ b, b < w.heap.size → S b → Foreign w b) : GroupsAt w' B gv Z := by
  refine ⟨ht.own h.outer fun g hg e => ?_, fun z hz => ht.own (h.inner z hz) fun g hg e => ?_, fun z hz q hq => ⟨ht.own (h.rows z hz q hq).flags fun g hg e => ?_, ht.own (h.rows z hz q hq).args fun g hg e => ?_⟩, h.apart⟩
  · obtain ⟨t, cs, hb, h1, h2, h3, h4⟩ := hs g (h.outer.lt g hg).2 e
    exact own_blk_ne h.outer hb h1 hg
  · obtain ⟨t, cs, hb, h1, h2, h3, h4⟩ := hs g ((h.inner z hz).lt g hg).2 e
    exact own_blk_ne (h.inner z hz) hb h2 hg
  · obtain ⟨t, cs, hb, h1, h2, h3, h4⟩ := hs g ((h.rows z hz q hq).flags.lt g hg).2 e
    exact own_blk_ne (h.rows z hz q hq).flags hb h3 hg
  · obtain ⟨t, cs, hb, h1, h2, h3, h4⟩ := hs g ((h.rows z hz q hq).args.lt g hg).2 e
    exact own_blk_ne (h.rows z hz q hq).args hb h4 hg
theorem GroupsAt.still {w w' : World} {B : Nat} {gv : Value} {Z : List (Value × List CQ)} (h : GroupsAt w B gv Z) (ht : Turns Nothing w w') : GroupsAt w' B gv Z := h.turns ht fun _ _ e => e.elim
theorem GroupsAt.weak {w : World} {B B' : Nat} {gv : Value} {Z : List (Value × List CQ)} (h : GroupsAt w B gv Z) (hB : B' ≤ B) : GroupsAt w B' gv Z :=
  ⟨own_weak h.outer hB, fun z hz => own_weak (h.inner z hz) hB, fun z hz q hq => ⟨own_weak (h.rows z hz q hq).flags hB, own_weak (h.rows z hz q hq).args hB⟩, h.apart⟩
theorem GroupsAt.nil (w : World) (B : Nat) : GroupsAt w B (.slice none 0 0) [] := ⟨World.ownsRow_nil _ _ _ _, fun _z hz => (List.not_mem_nil hz).elim, fun _z hz => (List.not_mem_nil hz).elim, .nil⟩
/-- behind the row of groups' growing -/
theorem GroupsAt.begun {w w2 : World} {B : Nat} {gv gv' : Value} {Z : List (Value × List CQ)} (h : GroupsAt w B gv Z) (ho : w2.ownsRow B 37 1 gv' (Z.length + 1) (Z.map (·.1) ++ [.slice none 0 0])) (hg : w.grownBy w2 gv.ownBlock) :
    GroupsAt w2 B gv' (Z ++ [(.slice none 0 0, [])]) := by
  have ht : Turns (fun b => gv.ownBlock = some b) w w2 := (Turns.refl _ w).grown hg fun _ _ e => e
  refine ⟨by simpa using ho, ?_, ?_, ?_⟩
  · intro z hz
    rcases List.mem_append.1 hz with hz | hz
    · exact ht.own (h.inner z hz) fun g hg e => own_ne (h.inner z hz) h.outer (by decide) g hg e
    · rw [List.mem_singleton.1 hz]
      exact World.ownsRow_nil _ _ _ _
  · intro z hz q hq
    rcases List.mem_append.1 hz with hz | hz
    · exact ⟨ht.own (h.rows z hz q hq).flags fun g hg e => own_ne (h.rows z hz q hq).flags h.outer (by decide) g hg e, ht.own (h.rows z hz q hq).args fun g hg e => own_ne (h.rows z hz q hq).args h.outer (by decide) g hg e⟩
    · rw [List.mem_singleton.1 hz] at hq
      exact (List.not_mem_nil hq).elim
  · refine List.pairwise_append.2 ⟨h.apart, List.pairwise_singleton _ _, fun a _ b hb k _ e => ?_⟩
    rw [List.mem_singleton.1 hb] at e
    simp [Value.ownBlock] at e
/-- the last group's slice, in the row of groups -/
theorem GroupsAt.last {w : World} {B : Nat} {gv : Value} {Z : List (Value × List CQ)} {z : Value × List CQ} (h : GroupsAt w B gv (Z ++ [z])) : ∃ g cp, gv = .slice (some ⟨g, 0, none⟩) (Z.length + 1) cp ∧ B ≤ g ∧ g < w.heap.size ∧ w.cell? ⟨g, Z.length, none⟩ = some z.1 ∧ w.frozen? ⟨g, Z.length, none⟩ = false := by
  have ho := h.outer
  rw [List.length_append, List.length_singleton] at ho
  rcases ho.2 with ⟨_, h0⟩ | ⟨g, cap, cur, rfl, hb, hg, _⟩
  · exact absurd h0 (by omega)
  · refine ⟨g, cap, rfl, hb, (Array.getElem?_eq_some_iff.1 hg).1, ?_, by simp [World.frozen?, hg]⟩
    rw [ho.cellAt _ (by omega)]
    simp
/-- behind the last group's growing, and its being written into the row of groups -/
theorem GroupsAt.pushed {w w1 w2 : World} {B g n cp : Nat} {Z : List (Value × List CQ)} {gl gl' : Value} {l : List CQ} {q : CQ} (h : GroupsAt w B (.slice (some ⟨g, 0, none⟩) n cp) (Z ++ [(gl, l)])) (h1 : Turns Nothing w w1) (hq : CQAt w1 B q)
    (ho : w2.ownsRow B 27 4 gl' (l.length + 1) (cqCells l ++ cqCell q)) (hg : w1.grownBy w2 gl.ownBlock) (hat : gl'.ownBlock = gl.ownBlock ∨ ∃ N, gl'.ownBlock = some N ∧ w.heap.size ≤ N) :
    GroupsAt (w2.setCell ⟨g, Z.length, none⟩ gl') B (.slice (some ⟨g, 0, none⟩) n cp) (Z ++ [(gl', l ++ [q])]) := by
  have h' := h.still h1
  have ht : Turns (fun b => gl.ownBlock = some b) w1 w2 := (Turns.refl _ w1).grown hg fun _ _ e => e
  have hmem : (gl, l) ∈ Z ++ [(gl, l)] := by simp
  have hin := h'.inner _ hmem
  have hn : n = Z.length + 1 := by
    obtain ⟨g', cp', e, -⟩ := h.last
    injection e
  have houter := ht.own h'.outer fun k hk e => own_ne hin h'.outer (by decide) k e hk
  have hlen : ∀ x : Value × List CQ, (Z ++ [x]).length = n := fun x => by rw [List.length_append, List.length_singleton, hn]
  have hT : Turns (Only g) w2 (w2.setCell ⟨g, Z.length, none⟩ gl') := (Turns.refl (Only g) w2).setCell (p := ⟨g, _, none⟩) (.inl rfl) _
  have hgo : (Value.slice (some ⟨g, 0, none⟩) n cp).ownBlock = some g := rfl
  have hap := List.pairwise_append.1 h.apart
  have hrows : ∀ q', CQAt w1 B q' → CQAt (w2.setCell ⟨g, Z.length, none⟩ gl') B q' := fun q' hq' =>
    ⟨hT.own (ht.own hq'.flags fun k hk e => own_ne hq'.flags hin (by decide) k hk e) fun k hk e => own_ne hq'.flags h'.outer (by decide) k hk (by rw [hgo]; exact congrArg some e.symm),
     hT.own (ht.own hq'.args fun k hk e => own_ne hq'.args hin (by decide) k hk e) fun k hk e => own_ne hq'.args h'.outer (by decide) k hk (by rw [hgo]; exact congrArg some e.symm)⟩
  refine ⟨?_, ?_, ?_, ?_⟩
  · rw [hlen] at houter ⊢
    have := own_set houter Z.length gl'
    have e : ((Z ++ [(gl, l)]).map (·.1)).set Z.length gl' = (Z ++ [(gl', l ++ [q])]).map (·.1) := by
      rw [List.map_append, List.map_append, List.set_append_right _ _ (by simp)]
      simp
    rw [e] at this
    exact this
  · intro z hz
    rcases List.mem_append.1 hz with hz | hz
    · have hi := h'.inner z (List.mem_append_left _ hz)
      refine hT.own (ht.own hi fun k hk e => hap.2.2 z hz _ (List.mem_singleton.2 rfl) k hk e) fun k hk e => own_ne hi h'.outer (by decide) k hk (by rw [hgo]; exact congrArg some e.symm)
    · rw [List.mem_singleton.1 hz]
      refine hT.own (by rw [cqCells_last, List.length_append, List.length_singleton]; exact ho) fun k hk e => ?_
      have e : k = g := e
      subst e
      exact own_ne ho houter (by decide) k hk hgo
  · intro z hz q' hq'
    rcases List.mem_append.1 hz with hz | hz
    · exact hrows q' (h'.rows z (List.mem_append_left _ hz) q' hq')
    · rw [List.mem_singleton.1 hz] at hq'
      rcases List.mem_append.1 hq' with hq' | hq'
      · exact hrows q' (h'.rows _ hmem q' hq')
      · rw [List.mem_singleton.1 hq']
        exact hrows q hq
  · refine List.pairwise_append.2 ⟨hap.1, List.pairwise_singleton _ _, fun a ha b hb k hk e => ?_⟩
    rw [List.mem_singleton.1 hb] at e
    rcases hat with h2 | ⟨N, h2, h3⟩
    · exact hap.2.2 a ha _ (List.mem_singleton.2 rfl) k hk (h2 ▸ e)
    · have h4 := ((h.inner a (List.mem_append_left _ ha)).lt k hk).2
      have e' : gl'.ownBlock = some k := e
      rw [h2] at e'
      injection e' with e'
      omega

/-- the groups' plain commands -/
def plainG (Z : List (Value × List CQ)) : List (List Px.Cmd) := Z.map fun z => z.2.map (·.1)
theorem plainG_new (Z : List (Value × List CQ)) (gl : Value) (q : CQ) : plainG (Z ++ [(gl, [q])]) = Px.putG (plainG Z) q.1 true := by simp [plainG, Px.putG]
theorem plainG_more (Z : List (Value × List CQ)) (gl gl' : Value) (l : List CQ) (q : CQ) : plainG (Z ++ [(gl', l ++ [q])]) = Px.putG (plainG (Z ++ [(gl, l)])) q.1 false := by
  simp [plainG, Px.putG]
theorem cmd_cq {w : World} {B : Nat} {v : Value} {c : Px.Cmd} (h : CmdAt w B v c) : ∃ fv av, v = .agg #[strV c.name, fv, av, .int .i64 c.line] ∧ CQAt w B (c, fv, av) := by
  obtain ⟨fv, av, e, h1, h2⟩ := h.at_
  exact ⟨fv, av, e, h1, h2⟩

theorem own_pwords {w : World} {B : Nat} {v : Value} {l : List Lx.W} (h : w.ownsRow B 53 3 v l.length (wordCells l)) (hs : ∀ x ∈ l, x.text.length ≤ maxLen) : PWordsAt w v (l.map Px.ofW) := by
  refine ⟨?_, fun x hx => ?_⟩
  · rcases h.2 with ⟨rfl, h0⟩ | ⟨g, cap, cur, rfl, hb, hg, hc1, hc2, _⟩
    · exact ⟨none, 0, by rw [List.length_map, h0], by rw [List.length_map]; omega, Nat.zero_le _, fun i hi => absurd hi (by rw [List.length_map]; omega)⟩
    · refine ⟨_, cap, by rw [List.length_map], by rw [List.length_map]; exact hc1, hc2, fun i hi => ⟨g, 0, rfl, (Array.getElem?_eq_some_iff.1 hg).1, ?_⟩⟩
      rw [List.length_map] at hi
      have hc := wordCells_at l i hi
      rw [Nat.zero_add, h.cellAt _ (by omega), h.cellAt _ (by omega), h.cellAt _ (by omega)]
      simpa [Px.ofW] using hc
  · obtain ⟨y, hy, rfl⟩ := List.mem_map.1 hx
    exact hs y hy
end Go.Proofs.YtedlhdegdlabhaaGreatDoor
