/- The walk of the deferred closure of parse.Parse: what is thrown is caught. Package parse: the commands' groups, as they lie in memory; a group is begun, a command is put into the last. The walk of parse.Parse: what holds at each round, at the door. -/
import Derived.Test.YtiopaenonjhlnaaGreatDoorParseIf
import Derived.Test.YtiopaenonjhlnaaGreatDoorLexWords
import Derived.Defers
import Derived.Recover
import Derived.Test.YtiopaenonjhlnaaGreatDoorParseWords
import Derived.Test.YtiopaenonjhlnaaGreatDoorLexSplitIn
namespace Go.Proofs.YtiopaenonjhlnaaGreatDoor
set_option maxRecDepth 8000
open Go.RowKit
open Lx (Bytes)

theorem A.wrong_yes (e l : Int) (w : World) : (Instr.typeAssert (.iface 88 (.agg #[.int .i64 e, .int .i64 l])) 20 88 true).run Tryz.prog w = .ok (.tuple #[.agg #[.int .i64 e, .int .i64 l], .bool true]) w := by kernel_rfl
/-- what the closure leaves: the three results' cells written -/
structure PCaught (w : World) (a b c : Nat) (e l : Int) (w' : World) : Prop where
  ca : Blk w' a 32 #[.slice none 0 0]
  cb : Blk w' b 37 #[.int .i64 e]
  cc : Blk w' c 3 #[.int .i64 l]
  turns : Turns (fun k => k = a ∨ k = b ∨ k = c) w w'
def PClosePost (w : World) (a b c : Nat) (e l : Int) (ex : Exit) (act : Act) (w' : World) : Prop := (ex = .normal ∨ ex = .ret) ∧ act.defers = [] ∧ PCaught w a b c e l w'
theorem caught_at {w w1 : World} {a b c : Nat} {e l : Int} {x0 x1 x2 : Value} (ha : Blk w a 32 #[x0]) (hb : Blk w b 37 #[x1]) (hc : Blk w c 3 #[x2]) (hT : Turns Nothing w w1) :
    PCaught w a b c e l (((w1.setCell ⟨a, 0, none⟩ (.slice none 0 0)).setCell ⟨b, 0, none⟩ (.int .i64 e)).setCell ⟨c, 0, none⟩ (.int .i64 l)) := by
  have hab : a ≠ b := Blk.ne_ ha hb (by decide)
  have hac : a ≠ c := Blk.ne_ ha hc (by decide)
  have hbc : b ≠ c := Blk.ne_ hb hc (by decide)
  refine ⟨?_, ?_, ?_, ?_⟩
  · exact (((hT.blk ha id).set_ 0 _).far (p := ⟨b, 0, none⟩) hab _).far (p := ⟨c, 0, none⟩) hac _
  · exact (((hT.blk hb id).far (p := ⟨a, 0, none⟩) hab.symm _).set_ 0 _).far (p := ⟨c, 0, none⟩) hbc _
  · exact (((hT.blk hc id).far (p := ⟨a, 0, none⟩) hac.symm _).far (p := ⟨b, 0, none⟩) hbc.symm _).set_ 0 _
  · exact (((hT.mono fun _ _ e => e.elim).setCell (p := ⟨a, 0, none⟩) (.inl (.inl rfl)) _).setCell (p := ⟨b, 0, none⟩) (.inl (.inr (.inl rfl))) _).setCell (p := ⟨c, 0, none⟩) (.inl (.inr (.inr rfl))) _
theorem PCaught.later {w w1 w2 : World} {a b c : Nat} {e l : Int} (h : PCaught w a b c e l w1) (ht : Turns Nothing w1 w2) : PCaught w a b c e l w2 :=
  ⟨ht.blk h.ca id, ht.blk h.cb id, ht.blk h.cc id, h.turns.trans ht fun _ _ e => e.elim⟩
set_option maxHeartbeats 400000 in
theorem pcatch_panic (w : World) (a b c : Nat) (e l : Int) (x0 x1 x2 : Value) (ha : Blk w a 32 #[x0]) (hb : Blk w b 37 #[x1]) (hc : Blk w c 3 #[x2]) :
    CallsD Tryz.prog 30 #[.pointer (some ⟨a, 0, none⟩), .pointer (some ⟨b, 0, none⟩), .pointer (some ⟨c, 0, none⟩)] (.panicking (wrong e l)) w fun e' u' w' =>
      e' = .returned (.tuple #[]) ∧ u' = .panicking [{ v := .iface 88 (.agg #[.int .i64 e, .int .i64 l]), recovered := true }] ∧ PCaught w a b c e l w' := by
  have W1 := A.wrong_yes e l
  refine callsD_of_wpS Tryz.func30 rfl fun c₀ cs hu => ?_
  apply wpS_seq
  apply wpS_region
  unfold wrong at hu
  simp [wpOpsS, go_sem, recoverD, hu, Tryz.ntmps30, Exit.thenS]
  refine wpS_of_wp ?_
  clear hu
  refine Code.wp_mono (Q := PClosePost w a b c e l) ?_ ?_
  · rintro ex act w' ⟨hex, hd, hcau⟩
    rcases hex with rfl | rfl
    all_goals
      exact ⟨hd, _, rfl, .tuple #[], by simp [results, Tryz.results30], rfl, rfl, hcau⟩
  have ha0 := ha.cell 0
  have hb0 := hb.cell 0
  have hc0 := hc.cell 0
  simp at ha0 hb0 hc0
  have fa := ha.frozen 0
  have fb := hb.frozen 0
  have fc := hc.frozen 0
  have hal := ha.lt
  have hbl := hb.lt
  have hcl := hc.lt
  have hab : a ≠ b := Blk.ne_ ha hb (by decide)
  have hac : a ≠ c := Blk.ne_ ha hc (by decide)
  have hbc : b ≠ c := Blk.ne_ hb hc (by decide)
  have HB := Lib.hid (fun (W : World) => caught_at (w := w) (w1 := W) (e := e) (l := l) ha hb hc)
  clear ha hb hc
  refine wp_frame (tmps' := #[.pointer (some ⟨a, 0, none⟩), .pointer (some ⟨b, 0, none⟩), .pointer (some ⟨c, 0, none⟩), .iface 88 (.agg #[.int .i64 e, .int .i64 l]), undef, undef, .iface 88 (.agg #[.int .i64 e, .int .i64 l]), undef, undef, undef, undef, undef, undef, undef, undef, undef, undef, undef, undef, undef, undef, undef]) (by kernel_rfl) ?_
  go_wp2_with fail
  go_region
  all_goals
    go_wp2_with fail
    exact ⟨.inl rfl, rfl, (HB.out _ (Turns.refl _ w)).later (((Turns.refl _ _).alloc _).drewN 1)⟩
set_option maxHeartbeats 400000 in
/-- nothing is thrown: nothing happens -/
theorem pcatch_idle (w : World) (args : Array Value) (a b c : Nat) (hargs : args = #[.pointer (some ⟨a, 0, none⟩), .pointer (some ⟨b, 0, none⟩), .pointer (some ⟨c, 0, none⟩)]) :
    CallsD Tryz.prog 30 args .returning w fun e' u' w' => e' = .returned (.tuple #[]) ∧ u' = .returning ∧ Turns Nothing w w' := by
  subst hargs
  refine callsD_of_wpS Tryz.func30 rfl fun c₀ cs hu => ?_
  apply wpS_seq
  apply wpS_region
  simp [wpOpsS, go_sem, recoverD, hu, Tryz.ntmps30, Exit.thenS]
  refine wpS_of_wp ?_
  refine Code.wp_mono (Q := fun ex act w' => (ex = .normal ∨ ex = .ret) ∧ act.defers = [] ∧ Turns Nothing w w') ?_ ?_
  · rintro ex act w' ⟨hex, hd, ht⟩
    rcases hex with rfl | rfl
    all_goals
      refine ⟨hd, .returning, ?_, .tuple #[], by simp [results, Tryz.results30], rfl, rfl, ht⟩
      cases c₀
      simp_all
  clear hu
  refine wp_frame (tmps' := #[.pointer (some ⟨a, 0, none⟩), .pointer (some ⟨b, 0, none⟩), .pointer (some ⟨c, 0, none⟩), .nilIface, undef, undef, .nilIface, undef, undef, undef, undef, undef, undef, undef, undef, undef, undef, undef, undef, undef, undef, undef]) (by kernel_rfl) ?_
  go_wp2_with fail
  exact Turns.refl _ w
end Go.Proofs.YtiopaenonjhlnaaGreatDoor
namespace Go.Proofs.YtiopaenonjhlnaaGreatDoor
set_option maxRecDepth 8000
open Go.RowKit
open Lx (Bytes)

/-- a command, with its rows of flags and of arguments -/
abbrev CQ := Px.Cmd × Value × Value
def cqCell (q : CQ) : List Value := [strV q.1.name, q.2.1, q.2.2, .int .i64 q.1.line]
def cqCells (l : List CQ) : List Value := l.flatMap cqCell
theorem cqCells_len : ∀ l : List CQ, (cqCells l).length = l.length * 4
  | [] => rfl
  | x :: l => by
    have e : cqCells (x :: l) = cqCell x ++ cqCells l := rfl
    rw [e, List.length_append, cqCells_len l, List.length_cons]
    show 4 + _ = _
    omega
theorem cqCells_last (l : List CQ) (q : CQ) : cqCells (l ++ [q]) = cqCells l ++ cqCell q := by simp [cqCells]
structure CQAt (w : World) (B : Nat) (q : CQ) : Prop where
  flags : w.ownsRow B 121 2 q.2.1 q.1.flags.length (flagCells q.1.flags)
  args : w.ownsRow B 9 1 q.2.2 q.1.args.length (q.1.args.map strV)
structure GroupsAt (w : World) (B : Nat) (gv : Value) (Z : List (Value × List CQ)) : Prop where
  outer : w.ownsRow B 53 1 gv Z.length (Z.map (·.1))
  inner : ∀ z ∈ Z, w.ownsRow B 57 4 z.1 z.2.length (cqCells z.2)
  rows : ∀ z ∈ Z, ∀ q ∈ z.2, CQAt w B q
  apart : Z.Pairwise fun a b => ∀ k, a.1.ownBlock = some k → b.1.ownBlock ≠ some k
/-- a block that is no part of any groups -/
def Foreign (w : World) (b : Nat) : Prop := ∃ t cs, Blk w b t cs ∧ 53 ≠ t ∧ 57 ≠ t ∧ 121 ≠ t ∧ 9 ≠ t
theorem GroupsAt.turns {w w' : World} {B : Nat} {gv : Value} {Z : List (Value × List CQ)} (h : GroupsAt w B gv Z) {S : Nat → Prop} (ht : Turns S w w') (hs : ∀ b, b < w.heap.size → S b → Foreign w b) : GroupsAt w' B gv Z := by
  refine ⟨ht.own h.outer fun g hg e => ?_, fun z hz => ht.own (h.inner z hz) fun g hg e => ?_, fun z hz q hq => ⟨ht.own (h.rows z hz q hq).flags fun g hg e => ?_, ht.own (h.rows z hz q hq).args fun g hg e => ?_⟩, h.apart⟩
  · obtain ⟨t, cs, hb, h1, h2, h3, h4⟩ := hs g (h.outer.lt g hg).2 e
    exact own_blk_ne h.outer hb h1 hg
  · obtain ⟨t, cs, hb, h1, h2, h3, h4⟩ := hs g ((h.inner z hz).lt g hg).2 e
    exact own_blk_ne (h.inner z hz) hb h2 hg
  · obtain ⟨t, cs, hb, h1, h2, h3, h4⟩ := hs g ((h.rows z hz q hq).flags.lt g hg).2 e
    exact own_blk_ne (h.rows z hz q hq).flags hb h3 hg
  · obtain ⟨t, cs, hb, h1, h2, h3, h4⟩ := hs g ((h.rows z hz q hq).args.lt g hg).2 e
    exact own_blk_ne (h.rows z hz q hq).args hb h4 hg
theorem GroupsAt.still {w w' : World} {B : Nat} {gv : Value} {Z : List (Value × List CQ)} (h : GroupsAt w B gv Z) (ht : Turns Nothing w w') : GroupsAt w' B gv Z := h.turns ht fun _ _ e => e.elim
theorem GroupsAt.weak {w : World} {B B' : Nat} {gv : Value} {Z : List (Value × List CQ)} (h : GroupsAt w B gv Z) (hB : B' ≤ B) : GroupsAt w B' gv Z :=
  ⟨own_weak h.outer hB, fun z hz => own_weak (h.inner z hz) hB, fun z hz q hq => ⟨own_weak (h.rows z hz q hq).flags hB, own_weak (h.rows z hz q hq).args hB⟩, h.apart⟩
theorem GroupsAt.nil (w : World) (B : Nat) : GroupsAt w B (.slice none 0 0) [] := ⟨World.ownsRow_nil _ _ _ _, fun _z hz => (List.not_mem_nil hz).elim, fun _z hz => (List.not_mem_nil hz).elim, .nil⟩
/-- behind the row of groups' growing -/
theorem GroupsAt.begun {w w2 : World} {B : Nat} {gv gv' : Value} {Z : List (Value × List CQ)} (h : GroupsAt w B gv Z) (ho : w2.ownsRow B 53 1 gv' (Z.length + 1) (Z.map (·.1) ++ [.slice none 0 0])) (hg : w.grownBy w2 gv.ownBlock) :
    GroupsAt w2 B gv' (Z ++ [(.slice none 0 0, [])]) := by
  have ht : Turns (fun b => gv.ownBlock = some b) w w2 := (Turns.refl _ w).grown hg fun _ _ e => e
  refine ⟨by simpa using ho, ?_, ?_, ?_⟩
  · intro z hz
    rcases List.mem_append.1 hz with hz | hz
    · exact ht.own (h.inner z hz) fun g hg e => own_ne (h.inner z hz) h.outer (by decide) g hg e
    · rw [List.mem_singleton.1 hz]
      exact World.ownsRow_nil _ _ _ _
  · intro z hz q hq
    rcases List.mem_append.1 hz with hz | hz
    · exact ⟨ht.own (h.rows z hz q hq).flags fun g hg e => own_ne (h.rows z hz q hq).flags h.outer (by decide) g hg e, ht.own (h.rows z hz q hq).args fun g hg e => own_ne (h.rows z hz q hq).args h.outer (by decide) g hg e⟩
    · rw [List.mem_singleton.1 hz] at hq
      exact (List.not_mem_nil hq).elim
  · refine List.pairwise_append.2 ⟨h.apart, List.pairwise_singleton _ _, fun a _ b hb k _ e => ?_⟩
    rw [List.mem_singleton.1 hb] at e
    simp [Value.ownBlock] at e
/-- the last group's slice, in the row of groups -/
theorem GroupsAt.last {w : World} {B : Nat} {gv : Value} {Z : List (Value × List CQ)} {z : Value × List CQ} (h : GroupsAt w B gv (Z ++ [z])) : ∃ g cp, gv = .slice (some ⟨g, 0, none⟩) (Z.length + 1) cp ∧ B ≤ g ∧ g < w.heap.size ∧ w.cell? ⟨g, Z.length, none⟩ = some z.1 ∧ w.frozen? ⟨g, Z.length, none⟩ = false := by
  have ho := h.outer
  rw [List.length_append, List.length_singleton] at ho
  rcases ho.2 with ⟨_, h0⟩ | ⟨g, cap, cur, rfl, hb, hg, _⟩
  · exact absurd h0 (by omega)
  · refine ⟨g, cap, rfl, hb, (Array.getElem?_eq_some_iff.1 hg).1, ?_, by simp [World.frozen?, hg]⟩
    rw [ho.cellAt _ (by omega)]
    simp
/-- behind the last group's growing, and its being written into the row of groups -/
theorem GroupsAt.pushed {w w1 w2 : World} {B g n cp : Nat} {Z : List (Value × List CQ)} {gl gl' : Value} {l : List CQ} {q : CQ} (h : GroupsAt w B (.slice (some ⟨g, 0, none⟩) n cp) (Z ++ [(gl, l)])) (h1 : Turns Nothing w w1) (hq : CQAt w1 B q)
    (ho : w2.ownsRow B 57 4 gl' (l.length + 1) (cqCells l ++ cqCell q)) (hg : w1.grownBy w2 gl.ownBlock) (hat : gl'.ownBlock = gl.ownBlock ∨ ∃ N, gl'.ownBlock = some N ∧ w.heap.size ≤ N) :
    GroupsAt (w2.setCell ⟨g, Z.length, none⟩ gl') B (.slice (some ⟨g, 0, none⟩) n cp) (Z ++ [(gl', l ++ [q])]) := by
  have h' := h.still h1
  have ht : Turns (fun b => gl.ownBlock = some b) w1 w2 := (Turns.refl _ w1).grown hg fun _ _ e => e
  have hmem : (gl, l) ∈ Z ++ [(gl, l)] := by simp
  have hin := h'.inner _ hmem
  have hn : n = Z.length + 1 := by
    obtain ⟨g', cp', e, -⟩ := h.last
    injection e
  have houter := ht.own h'.outer fun k hk e => own_ne hin h'.outer (by decide) k e hk
  have hlen : ∀ x : Value × List CQ, (Z ++ [x]).length = n := fun x => by rw [List.length_append, List.length_singleton, hn]
  have hT : Turns (Only g) w2 (w2.setCell ⟨g, Z.length, none⟩ gl') := (Turns.refl (Only g) w2).setCell (p := ⟨g, _, none⟩) (.inl rfl) _
  have hgo : (Value.slice (some ⟨g, 0, none⟩) n cp).ownBlock = some g := rfl
  have hap := List.pairwise_append.1 h.apart
  have hrows : ∀ q', CQAt w1 B q' → CQAt (w2.setCell ⟨g, Z.length, none⟩ gl') B q' := fun q' hq' =>
    ⟨hT.own (ht.own hq'.flags fun k hk e => own_ne hq'.flags hin (by decide) k hk e) fun k hk e => own_ne hq'.flags h'.outer (by decide) k hk (by rw [hgo]; exact congrArg some e.symm),
     hT.own (ht.own hq'.args fun k hk e => own_ne hq'.args hin (by decide) k hk e) fun k hk e => own_ne hq'.args h'.outer (by decide) k hk (by rw [hgo]; exact congrArg some e.symm)⟩
  refine ⟨?_, ?_, ?_, ?_⟩
  · rw [hlen] at houter ⊢
    have := own_set houter Z.length gl'
    have e : ((Z ++ [(gl, l)]).map (·.1)).set Z.length gl' = (Z ++ [(gl', l ++ [q])]).map (·.1) := by
      rw [List.map_append, List.map_append, List.set_append_right _ _ (by simp)]
      simp
    rw [e] at this
    exact this
  · intro z hz
    rcases List.mem_append.1 hz with hz | hz
    · have hi := h'.inner z (List.mem_append_left _ hz)
      refine hT.own (ht.own hi fun k hk e => hap.2.2 z hz _ (List.mem_singleton.2 rfl) k hk e) fun k hk e => own_ne hi h'.outer (by decide) k hk (by rw [hgo]; exact congrArg some e.symm)
    · rw [List.mem_singleton.1 hz]
      refine hT.own (by rw [cqCells_last, List.length_append, List.length_singleton]; exact ho) fun k hk e => ?_
      have e : k = g := e
      subst e
      exact own_ne ho houter (by decide) k hk hgo
  · intro z hz q' hq'
    rcases List.mem_append.1 hz with hz | hz
    · exact hrows q' (h'.rows z (List.mem_append_left _ hz) q' hq')
    · rw [List.mem_singleton.1 hz] at hq'
      rcases List.mem_append.1 hq' with hq' | hq'
      · exact hrows q' (h'.rows _ hmem q' hq')
      · rw [List.mem_singleton.1 hq']
        exact hrows q hq
  · refine List.pairwise_append.2 ⟨hap.1, List.pairwise_singleton _ _, fun a ha b hb k hk e => ?_⟩
    rw [List.mem_singleton.1 hb] at e
    rcases hat with h2 | ⟨N, h2, h3⟩
    · exact hap.2.2 a ha _ (List.mem_singleton.2 rfl) k hk (h2 ▸ e)
    · have h4 := ((h.inner a (List.mem_append_left _ ha)).lt k hk).2
      have e' : gl'.ownBlock = some k := e
      rw [h2] at e'
      injection e' with e'
      omega

/-- the groups' plain commands -/
def plainG (Z : List (Value × List CQ)) : List (List Px.Cmd) := Z.map fun z => z.2.map (·.1)
theorem plainG_new (Z : List (Value × List CQ)) (gl : Value) (q : CQ) : plainG (Z ++ [(gl, [q])]) = Px.putG (plainG Z) q.1 true := by simp [plainG, Px.putG]
theorem plainG_more (Z : List (Value × List CQ)) (gl gl' : Value) (l : List CQ) (q : CQ) : plainG (Z ++ [(gl', l ++ [q])]) = Px.putG (plainG (Z ++ [(gl, l)])) q.1 false := by
  simp [plainG, Px.putG]
theorem cmd_cq {w : World} {B : Nat} {v : Value} {c : Px.Cmd} (h : CmdAt w B v c) : ∃ fv av, v = .agg #[strV c.name, fv, av, .int .i64 c.line] ∧ CQAt w B (c, fv, av) := by
  obtain ⟨fv, av, e, h1, h2⟩ := h.at_
  exact ⟨fv, av, e, h1, h2⟩

theorem own_pwords {w : World} {B : Nat} {v : Value} {l : List Lx.W} (h : w.ownsRow B 104 3 v l.length (wordCells l)) (hs : ∀ x ∈ l, x.text.length ≤ maxLen) : PWordsAt w v (l.map Px.ofW) := by
  refine ⟨?_, fun x hx => ?_⟩
  · rcases h.2 with ⟨rfl, h0⟩ | ⟨g, cap, cur, rfl, hb, hg, hc1, hc2, _⟩
    · exact ⟨none, 0, by rw [List.length_map, h0], by rw [List.length_map]; omega, Nat.zero_le _, fun i hi => absurd hi (by rw [List.length_map]; omega)⟩
    · refine ⟨_, cap, by rw [List.length_map], by rw [List.length_map]; exact hc1, hc2, fun i hi => ⟨g, 0, rfl, (Array.getElem?_eq_some_iff.1 hg).1, ?_⟩⟩
      rw [List.length_map] at hi
      have hc := wordCells_at l i hi
      rw [Nat.zero_add, h.cellAt _ (by omega), h.cellAt _ (by omega), h.cellAt _ (by omega)]
      simpa [Px.ofW] using hc
  · obtain ⟨y, hy, rfl⟩ := List.mem_map.1 hx
    exact hs y hy
end Go.Proofs.YtiopaenonjhlnaaGreatDoor
namespace Go.Proofs.YtiopaenonjhlnaaGreatDoor
set_option maxRecDepth 8000
open Go.RowKit
open Lx (Bytes)

/-- words in memory that lie below the conditions -/
def PLow (w : World) (K : Nat) (v : Value) (l : List Px.PW) : Prop := ∃ w0, PWordsAt w0 v l ∧ Turns Nothing w0 w ∧ w0.heap.size ≤ K
/-- what do leaves, or throws -/
def DoRes (w : World) (K : Nat) (sv lv ov : Value) (l : List Px.PW) (r : Except Int (List Px.Cond)) (e : Ending) (w' : World) : Prop := match r with
  | .ok o' => DoPost w K sv lv ov o' e w'
  | .error m => e = .panicked (wrong m (Px.line0 l)) ∧ Turns (fun b => b = K ∨ ov.ownBlock = some b) w w'
abbrev DoSpec (sv lv : Value) (X : Bytes → Bytes × Int) (l : List Px.PW) (o : List Px.Cond) : Prop := ∀ (w : World) (K : Nat) (ov dv : Value), CondsAt w K sv lv ov o → PLow w K dv l →
  Calls Tryz.prog 32 #[.pointer (some ⟨K, 0, none⟩), dv] w (DoRes w K sv lv ov l (Px.dir X l o))
/-- lines and conditions at which the walk of Parse stands on contracts -/
structure DoInv (sv lv : Value) (X : Bytes → Bytes × Int) (I : List Px.PLn → List Px.Cond → Prop) : Prop where
  few : ∀ ls o, I ls o → o.length ≤ 1000
  skip : ∀ l ls o, I (l :: ls) o → Px.isDir l.1 = false → (Px.taken o = true → ∃ c, Px.words l.1 = .ok c) → I ls o
  spec : ∀ l ls o, I (l :: ls) o → Px.isDir l.1 = true → DoSpec sv lv X l.1 o
  step : ∀ l ls o o', I (l :: ls) o → Px.isDir l.1 = true → Px.dir X l.1 o = .ok o' → I ls o'
/-- what Split gives -/
structure Fit (L : List Lx.Ln) : Prop where
  many : L.length ≤ 1000
  each : ∀ l ∈ L, l.1 ≠ [] ∧ l.1.length ≤ 256 ∧ ∀ x ∈ l.1, x.text.length ≤ maxLen
/-- at each round -/
structure PRel (w w1 : World) (K : Nat) (sv lv : Value) (X : Bytes → Bytes × Int) (I : List Px.PLn → List Px.Cond → Prop) (L : List Lx.Ln) (R : Except (Int × Int) (List (List Px.Cmd))) (k g : Nat) (o : List Px.Cond) (Z : List (Value × List CQ)) (ov gv : Value) (wr : World) : Prop where
  le : k ≤ L.length
  turns : Turns (Only (w.heap.size + 1)) w1 wr
  conds : CondsAt wr K sv lv ov o
  groups : GroupsAt wr (K + 1) gv Z
  box : Blk wr (w.heap.size + 1) 32 #[gv]
  res : Px.parseL X ((L.map Px.ofLn).drop k) o g (plainG Z) = R
  inv : I ((L.map Px.ofLn).drop k) o
  num : Z.length ≤ k ∧ ∀ z ∈ Z, z.2.length ≤ k
/-- the results' variables -/
structure PBox (w w1 : World) : Prop where
  a : Blk w1 (w.heap.size + 1) 32 #[.slice none 0 0]
  b : Blk w1 (w.heap.size + 1 + 1) 37 #[.int .i64 0]
  c : Blk w1 (w.heap.size + 1 + 1 + 1) 3 #[.int .i64 0]
  turns : Turns Nothing w w1
def ParsePost (w : World) (R : Except (Int × Int) (List (List Px.Cmd))) (e : Ending) (w' : World) : Prop := Turns Nothing w w' ∧ match R with
  | .ok G => ∃ gv Z, e = .returned (.tuple #[.agg #[gv], .int .i64 0, .int .i64 0]) ∧ GroupsAt w' w.heap.size gv Z ∧ plainG Z = G
  | .error x => e = .returned (.tuple #[.agg #[.slice none 0 0], .int .i64 x.1, .int .i64 x.2])

/-- a world cut down to its first blocks -/
def cutTo (w : World) (K : Nat) : World := { w with heap := w.heap.extract 0 K }
theorem cut_turns {S : Nat → Prop} {w w' : World} (h : Turns S w w') : Turns S w (cutTo w' w.heap.size) ∧ Turns Nothing (cutTo w' w.heap.size) w' ∧ (cutTo w' w.heap.size).heap.size = w.heap.size := by
  have hs : (cutTo w' w.heap.size).heap.size = w.heap.size := by
    have := h.size
    simp [cutTo]
    omega
  have hb : ∀ k, k < w.heap.size → (cutTo w' w.heap.size).heap[k]? = w'.heap[k]? := fun k hk => by
    have := h.size
    simp [cutTo, Array.getElem?_extract]
    omega
  refine ⟨⟨h.os, h.tape, h.output, by omega, fun k hk hn => (hb k hk).trans (h.block k hk hn)⟩, ⟨rfl, rfl, rfl, by rw [hs]; exact h.size, fun k hk _ => (hb k (by omega)).symm⟩, hs⟩
theorem lines_low {w1 wr : World} {B K n c : Nat} {A : Option Addr} {L : List Lx.Ln} {vs : List Value} (hK : w1.heap.size = K) (h : LinesAt w1 B (.slice A n c) L vs) {S : Nat → Prop} (ht : Turns S w1 wr) (hs : ∀ b, S b → b < B) (hf : Fit L) :
    n = L.length ∧ ∀ i (hi : i < L.length), ∃ b v, A = some ⟨b, 0, none⟩ ∧ b < wr.heap.size ∧ wr.cell? ⟨b, i * 2, none⟩ = some v ∧ wr.cell? ⟨b, i * 2 + 1, none⟩ = some (.int .i64 L[i].2) ∧ PLow wr K v (L[i].1.map Px.ofW) := by
  subst hK
  have hL : LinesAt wr B (.slice A n c) L vs := h.turns ht (fun b hb e => by have := own_from h.row b hb; have := hs b e; omega) fun v hv b hb e => by
    obtain ⟨i, hi, rfl⟩ := List.getElem_of_mem hv
    have := own_from (h.words i hi (by rw [← h.len]; exact hi)) b hb
    have := hs b e
    omega
  obtain ⟨t1, t2, hz⟩ := cut_turns ht
  rcases hL.row.2 with ⟨e, h0⟩ | ⟨g, cap, cur, e, hb, hgg, _⟩
  · injection e with e1 e2
    exact ⟨by rw [h0]; exact e2, fun i hi => by omega⟩
  · injection e with e1 e2
    subst e1 e2
    refine ⟨rfl, fun i hi => ?_⟩
    have h1 : i < vs.length := by rw [h.len]; exact hi
    have hc := lineCells_at vs L i h1 hi h.len
    refine ⟨g, vs[i], rfl, (Array.getElem?_eq_some_iff.1 hgg).1, ?_, ?_, cutTo wr w1.heap.size, ?_, t2, by omega⟩
    · rw [hL.row.cellAt _ (by omega)]; exact hc.1
    · rw [hL.row.cellAt _ (by omega)]; exact hc.2
    · refine (own_pwords (t1.own (h.words i h1 hi) fun b hb e => ?_) fun x hx => ((hf.each _ (List.getElem_mem hi)).2.2 x hx))
      have := own_from (h.words i h1 hi) b hb
      have := hs b e
      omega
theorem PLow.at_ {w : World} {K : Nat} {v : Value} {l : List Px.PW} (h : PLow w K v l) : PWordsAt w v l := by
  obtain ⟨w0, h1, h2, _⟩ := h
  exact h1.still h2
theorem PLow.still {w w' : World} {K : Nat} {v : Value} {l : List Px.PW} (h : PLow w K v l) (ht : Turns Nothing w w') : PLow w' K v l := by
  obtain ⟨w0, h1, h2, h3⟩ := h
  exact ⟨w0, h1, h2.same ht, h3⟩

theorem taken_in {w : World} {K : Nat} {sv lv ov : Value} {o : List Px.Cond} (h : CondsAt w K sv lv ov o) (hn : o.length ≤ 1000) :
    Calls Tryz.prog 33 #[.pointer (some ⟨K, 0, none⟩)] w fun e w' => e = .returned (.bool (Px.taken o)) ∧ Turns Nothing w w' := by
  rcases List.eq_nil_or_concat o with rfl | ⟨o', c, rfl⟩
  · refine (taken_nil h).mono ?_
    rintro e w' ⟨rfl, n, rfl⟩
    exact ⟨rfl, (Turns.refl _ w).drewN n⟩
  · rw [List.concat_eq_append] at h ⊢
    refine (taken_last h (by rw [List.concat_eq_append, List.length_append] at hn; omega)).mono ?_
    rintro e w' ⟨rfl, n, rfl⟩
    exact ⟨by simp [Px.taken], (Turns.refl _ w).drewN n⟩
theorem words_err {l : List Px.PW} {c : Int} (h : Px.words l = .error c) : c = 9 ∨ c = 10 := by
  unfold Px.words at h
  split at h
  · injection h with h; exact .inr h.symm
  · split at h
    · injection h with h; exact .inr h.symm
    · split at h
      · injection h with h; exact .inr h.symm
      · split at h
        · injection h with h; exact .inl h.symm
        · split at h
          · injection h with h; exact .inl h.symm
          · cases h
theorem drop_line {L : List Lx.Ln} {k : Nat} (hk : k < L.length) : (L.map Px.ofLn).drop k = (L[k].1.map Px.ofW, L[k].2) :: (L.map Px.ofLn).drop (k + 1) := by
  rw [List.drop_eq_getElem_cons (by simpa using hk)]
  simp [Px.ofLn]
theorem foreign_conds {w : World} {K : Nat} {sv lv ov : Value} {o : List Px.Cond} (h : CondsAt w K sv lv ov o) : ∀ b, b < w.heap.size → (b = K ∨ ov.ownBlock = some b) → Foreign w b := by
  rintro b - (rfl | hb)
  · exact ⟨_, _, h.blk, by decide, by decide, by decide, by decide⟩
  · rcases h.own.2 with ⟨rfl, _⟩ | ⟨g, cap, cur, rfl, _, hg, _⟩
    · simp [Value.ownBlock] at hb
    · have : g = b := by simpa [Value.ownBlock] using hb
      subst this
      exact ⟨_, _, hg, by decide, by decide, by decide, by decide⟩
theorem foreign_box {w : World} {b : Nat} {gv : Value} (h : Blk w b 32 #[gv]) : Foreign w b := ⟨_, _, h, by decide, by decide, by decide, by decide⟩

section
variable {w w1 wr : World} {K : Nat} {sv lv : Value} {X : Bytes → Bytes × Int} {I : List Px.PLn → List Px.Cond → Prop} {L : List Lx.Ln} {R : Except (Int × Int) (List (List Px.Cmd))} {k g : Nat} {o : List Px.Cond} {Z : List (Value × List CQ)} {ov gv : Value}
theorem PRel.still (h : PRel w w1 K sv lv X I L R k g o Z ov gv wr) {w' : World} (ht : Turns Nothing wr w') : PRel w w1 K sv lv X I L R k g o Z ov gv w' :=
  ⟨h.le, h.turns.trans ht fun _ _ e => e.elim, h.conds.still ht, h.groups.still ht, ht.blk h.box id, h.res, h.inv, h.num⟩
theorem PRel.skip (h : PRel w w1 K sv lv X I L R k g o Z ov gv wr) (hI : DoInv sv lv X I) (hk : k < L.length) (hd : Px.isDir (L[k].1.map Px.ofW) = false) (ht : Px.taken o = false) {w' : World} (hw : Turns Nothing wr w') : PRel w w1 K sv lv X I L R (k + 1) g o Z ov gv w' := by
  have h' := h.still hw
  have hr := h.res
  have hi := h.inv
  rw [drop_line hk] at hr hi
  rw [Px.parseL, if_neg (by simp [hd]), if_neg (by simp [ht])] at hr
  exact ⟨hk, h'.turns, h'.conds, h'.groups, h'.box, hr, hI.skip _ _ _ hi hd (fun e => by rw [ht] at e; cases e), by have := h.num.1; omega, fun z hz => by have := h.num.2 z hz; omega⟩
theorem PRel.dir (h : PRel w w1 K sv lv X I L R k g o Z ov gv wr) (hI : DoInv sv lv X I) (hK : w1.heap.size = K) (hlt : w.heap.size + 1 < K) (hk : k < L.length) (hd : Px.isDir (L[k].1.map Px.ofW) = true) {o' : List Px.Cond} (ho : Px.dir X (L[k].1.map Px.ofW) o = .ok o') {w0 w' : World} (h0 : Turns Nothing wr w0)
    {ov' : Value} (hc : CondsAt w' K sv lv ov' o') (hw : Turns (fun b => b = K ∨ ov.ownBlock = some b) w0 w') : PRel w w1 K sv lv X I L R (k + 1) g o' Z ov' gv w' := by
  have h' := h.still h0
  have hr := h.res
  have hi := h.inv
  rw [drop_line hk] at hr hi
  rw [Px.parseL, if_pos (by simp [hd])] at hr
  simp only [ho] at hr
  have hf : ∀ b, (b = K ∨ ov.ownBlock = some b) → K ≤ b := fun b e => by
    rcases e with e | e
    · omega
    · have := (h.conds.own.lt b e).1; omega
  refine ⟨hk, h'.turns.trans hw fun b hb e => ?_, hc, h'.groups.turns hw (foreign_conds h'.conds), hw.blk h'.box fun e => ?_, hr, hI.step _ _ _ _ hi hd ho, by have := h.num.1; omega, fun z hz => by have := h.num.2 z hz; omega⟩
  · have := hf b e
    omega
  · have := hf _ e
    omega
theorem PRel.dir_bad (h : PRel w w1 K sv lv X I L R k g o Z ov gv wr) (hk : k < L.length) (hd : Px.isDir (L[k].1.map Px.ofW) = true) {m : Int} (ho : Px.dir X (L[k].1.map Px.ofW) o = .error m) : R = .error (m, Px.line0 (L[k].1.map Px.ofW)) := by
  have hr := h.res
  rw [drop_line hk] at hr
  rw [Px.parseL, if_pos (by simp [hd])] at hr
  simp only [ho] at hr
  exact hr.symm
theorem PRel.words_bad (h : PRel w w1 K sv lv X I L R k g o Z ov gv wr) (hk : k < L.length) (hd : Px.isDir (L[k].1.map Px.ofW) = false) (ht : Px.taken o = true) {m : Int} (ho : Px.words (L[k].1.map Px.ofW) = .error m) : R = .error (m, Px.line0 (L[k].1.map Px.ofW)) := by
  have hr := h.res
  rw [drop_line hk] at hr
  rw [Px.parseL, if_neg (by simp [hd]), if_pos (by simp [ht])] at hr
  simp only [ho] at hr
  exact hr.symm
/-- behind a group's being begun, where one is -/
structure PMid (w w1 : World) (K : Nat) (sv lv : Value) (X : Bytes → Bytes × Int) (I : List Px.PLn → List Px.Cond → Prop) (L : List Lx.Ln) (R : Except (Int × Int) (List (List Px.Cmd))) (k g : Nat) (o : List Px.Cond) (Z : List (Value × List CQ)) (gl : Value) (l : List CQ) (ov gv : Value) (q : CQ) (cb : Nat) (wr : World) : Prop where
  lt : k < L.length
  turns : Turns (Only (w.heap.size + 1)) w1 wr
  conds : CondsAt wr K sv lv ov o
  groups : GroupsAt wr (K + 1) gv (Z ++ [(gl, l)])
  box : Blk wr (w.heap.size + 1) 32 #[gv]
  cmd : Blk wr cb 57 #[strV q.1.name, q.2.1, q.2.2, .int .i64 q.1.line]
  rows : CQAt wr (K + 1) q
  res : Px.parseL X ((L.map Px.ofLn).drop (k + 1)) o g (Px.putG (plainG (Z ++ [(gl, l)])) q.1 false) = R
  inv : I ((L.map Px.ofLn).drop (k + 1)) o
  num : Z.length ≤ k ∧ (∀ z ∈ Z, z.2.length ≤ k) ∧ l.length ≤ k
theorem putG_last (Z : List (Value × List CQ)) (gl : Value) (c : Px.Cmd) : Px.putG (plainG (Z ++ [(gl, [])])) c false = Px.putG (plainG Z) c true := by simp [Px.putG, plainG]
theorem PRel.mid_old (h : PRel w w1 K sv lv X I L R k g o Z ov gv wr) (hI : DoInv sv lv X I) (hk : k < L.length) (hd : Px.isDir (L[k].1.map Px.ofW) = false) (ht : Px.taken o = true) {q : CQ} (ho : Px.words (L[k].1.map Px.ofW) = .ok q.1) (hg : L[k].2 = g) (hz : Z.length ≠ 0) {w' : World} (hw : Turns Nothing wr w') {cb : Nat}
    (hc : Blk w' cb 57 #[strV q.1.name, q.2.1, q.2.2, .int .i64 q.1.line]) (hq : CQAt w' (K + 1) q) : ∃ Z' gl l, Z = Z' ++ [(gl, l)] ∧ PMid w w1 K sv lv X I L R k g o Z' gl l ov gv q cb w' := by
  have h' := h.still hw
  rcases List.eq_nil_or_concat Z with rfl | ⟨Z', ⟨gl, l⟩, rfl⟩
  · exact absurd rfl hz
  · rw [List.concat_eq_append] at *
    refine ⟨Z', gl, l, rfl, hk, h'.turns, h'.conds, h'.groups, h'.box, hc, hq, ?_, ?_, ?_, ?_, ?_⟩
    · have hr := h.res
      rw [drop_line hk] at hr
      rw [Px.parseL, if_neg (by simp [hd]), if_pos (by simp [ht])] at hr
      simp only [ho] at hr
      rw [if_neg (by simp [hg, plainG])] at hr
      exact hr
    · have hi := h.inv
      rw [drop_line hk] at hi
      exact hI.skip _ _ _ hi hd fun _ => ⟨_, ho⟩
    · have := h.num.1
      rw [List.length_append, List.length_singleton] at this
      omega
    · exact fun z hz => h.num.2 z (List.mem_append_left _ hz)
    · exact h.num.2 (gl, l) (by simp)
theorem PRel.mid_new (h : PRel w w1 K sv lv X I L R k g o Z ov gv wr) (hI : DoInv sv lv X I) (hK : w1.heap.size = K) (hlt : w.heap.size + 1 < K) (hk : k < L.length) (hd : Px.isDir (L[k].1.map Px.ofW) = false) (ht : Px.taken o = true) {q : CQ} (ho : Px.words (L[k].1.map Px.ofW) = .ok q.1) (hg : L[k].2 ≠ g ∨ Z.length = 0)
    {w0 w2 : World} (hw : Turns Nothing wr w0) {cb : Nat} (hc : Blk w0 cb 57 #[strV q.1.name, q.2.1, q.2.2, .int .i64 q.1.line]) (hq : CQAt w0 (K + 1) q) {gv' : Value}
    (hrow : w2.ownsRow (K + 1) 53 1 gv' (Z.length + 1) (Z.map (·.1) ++ [.slice none 0 0])) (hgr : w0.grownBy w2 gv.ownBlock) :
    PMid w w1 K sv lv X I L R k L[k].2 o Z (.slice none 0 0) [] ov gv' q cb (w2.setCell ⟨w.heap.size + 1, 0, none⟩ gv') := by
  have h' := h.still hw
  have ht2 : Turns (fun b => gv.ownBlock = some b) w0 w2 := (Turns.refl _ w0).grown hgr fun _ _ e => e
  have ht3 : Turns (Only (w.heap.size + 1)) w2 (w2.setCell ⟨w.heap.size + 1, 0, none⟩ gv') := (Turns.refl (Only (w.heap.size + 1)) w2).setCell (p := ⟨w.heap.size + 1, 0, none⟩) (.inl rfl) _
  have hgK : ∀ b, gv.ownBlock = some b → K + 1 ≤ b := fun b e => (h.groups.outer.lt b e).1
  have hb2 : Blk w2 (w.heap.size + 1) 32 #[gv] := ht2.blk h'.box fun e => by have := hgK _ e; omega
  have hno : ∀ {base : Nat} {e : TypeId} {sz n : Nat} {v : Value} {xs : List Value}, w2.ownsRow base e sz v n xs → e ≠ 32 → (w2.setCell ⟨w.heap.size + 1, 0, none⟩ gv').ownsRow base e sz v n xs := fun hr hne =>
    ht3.own hr fun b hb e => by
      have e : b = w.heap.size + 1 := e
      subst e
      exact own_blk_ne hr hb2 hne hb
  refine ⟨hk, ?_, ⟨?_, ?_⟩, ?_, ?_, ?_, ⟨?_, ?_⟩, ?_, ?_, h.num.1, h.num.2, Nat.zero_le _⟩
  · refine (h'.turns.trans ht2 fun b hb e => ?_).same ht3
    have := hgK b e
    omega
  · exact ht3.blk (ht2.blk h'.conds.blk fun e => by have := hgK _ e; omega) fun e => by have : K = w.heap.size + 1 := e; omega
  · exact hno (ht2.own h'.conds.own fun b hb e => own_ne h'.conds.own h'.groups.outer (by decide) b hb e) (by decide)
  · exact (h'.groups.begun hrow hgr).turns ht3 fun b hb e => by
      have e : b = w.heap.size + 1 := e
      subst e
      exact foreign_box hb2
  · exact hb2.set_ 0 gv'
  · refine ht3.blk (ht2.blk hc fun e => own_blk_ne h'.groups.outer hc (by decide) e) fun e => ?_
    have e : cb = w.heap.size + 1 := e
    subst e
    exact Blk.ne_ hc h'.box (by decide) rfl
  · exact hno (ht2.own hq.flags fun b hb e => own_ne hq.flags h'.groups.outer (by decide) b hb e) (by decide)
  · exact hno (ht2.own hq.args fun b hb e => own_ne hq.args h'.groups.outer (by decide) b hb e) (by decide)
  · have hr := h.res
    rw [drop_line hk] at hr
    rw [Px.parseL, if_neg (by simp [hd]), if_pos (by simp [ht])] at hr
    simp only [ho] at hr
    rw [if_pos (by
      rcases hg with hg | hg
      · exact .inl hg
      · exact .inr (by rw [List.eq_nil_of_length_eq_zero hg]; rfl))] at hr
    rw [putG_last]
    exact hr
  · have hi := h.inv
    rw [drop_line hk] at hi
    exact hI.skip _ _ _ hi hd fun _ => ⟨_, ho⟩
theorem PMid.push {Z : List (Value × List CQ)} {gl gl' : Value} {l : List CQ} {q : CQ} {cb gb n cp : Nat} (h : PMid w w1 K sv lv X I L R k g o Z gl l ov (.slice (some ⟨gb, 0, none⟩) n cp) q cb wr) (hK : w1.heap.size = K) (hlt : w.heap.size + 1 < K)
    {w0 w2 : World} (hw : Turns Nothing wr w0) (hrow : w2.ownsRow (K + 1) 57 4 gl' (l.length + 1) (cqCells l ++ cqCell q)) (hgr : w0.grownBy w2 gl.ownBlock) (hat : gl'.ownBlock = gl.ownBlock ∨ ∃ N, gl'.ownBlock = some N ∧ wr.heap.size ≤ N) :
    PRel w w1 K sv lv X I L R (k + 1) g o (Z ++ [(gl', l ++ [q])]) ov (.slice (some ⟨gb, 0, none⟩) n cp) (w2.setCell ⟨gb, Z.length, none⟩ gl') := by
  have hG := h.groups.pushed hw ⟨hw.own h.rows.flags fun _ _ => id, hw.own h.rows.args fun _ _ => id⟩ hrow hgr hat
  have ht2 : Turns (fun b => gl.ownBlock = some b) w0 w2 := (Turns.refl _ w0).grown hgr fun _ _ e => e
  have hin := h.groups.inner (gl, l) (by simp)
  have hout := h.groups.outer
  have hgbo : (Value.slice (some ⟨gb, 0, none⟩) n cp).ownBlock = some gb := rfl
  have hgb := (hout.lt gb hgbo).1
  have ht : Turns (fun b => gl.ownBlock = some b ∨ b = gb) wr (w2.setCell ⟨gb, Z.length, none⟩ gl') :=
    (((hw.mono fun _ _ e => e.elim).same (ht2.mono fun _ _ e => .inl e))).setCell (p := ⟨gb, _, none⟩) (.inl (.inr rfl)) _
  have hf : ∀ b, (gl.ownBlock = some b ∨ b = gb) → K + 1 ≤ b := fun b e => by
    rcases e with e | e
    · exact (hin.lt b e).1
    · omega
  refine ⟨h.lt, h.turns.trans ht fun b hb e => ?_, ⟨ht.blk h.conds.blk fun e => ?_, ht.own h.conds.own fun b hb e => ?_⟩, hG, ht.blk h.box fun e => ?_, ?_, h.inv, ?_, ?_⟩
  · have := hf b e
    omega
  · have := hf _ e
    omega
  · rcases e with e | e
    · exact own_ne h.conds.own hin (by decide) b hb e
    · subst e
      exact own_ne h.conds.own hout (by decide) b hb hgbo
  · have := hf _ e
    omega
  · rw [plainG_more (gl := gl)]
    exact h.res
  · have := h.num.1
    rw [List.length_append, List.length_singleton]
    omega
  · intro z hz
    rcases List.mem_append.1 hz with hz | hz
    · have := h.num.2.1 z hz
      omega
    · rw [List.mem_singleton.1 hz, List.length_append, List.length_singleton]
      have := h.num.2.2
      omega
/-- where a panic goes through the door -/
structure Thrown (w w1 : World) (w' : World) : Prop where
  box : PBox w w1
  turns : Turns (Only (w.heap.size + 1)) w1 w'
theorem Thrown.blks (h : Thrown w w1 wr) : (∃ x, Blk wr (w.heap.size + 1) 32 #[x]) → Blk wr (w.heap.size + 1 + 1) 37 #[.int .i64 0] ∧ Blk wr (w.heap.size + 1 + 1 + 1) 3 #[.int .i64 0] := fun _ =>
  ⟨h.turns.blk h.box.b fun e => by have : w.heap.size + 1 + 1 = w.heap.size + 1 := e; omega, h.turns.blk h.box.c fun e => by have : w.heap.size + 1 + 1 + 1 = w.heap.size + 1 := e; omega⟩
/-- behind the door -/
theorem thrown_post {w w1 wr w' : World} {e l : Int} (hb : PBox w w1) (ht : Turns (Only (w.heap.size + 1)) w1 wr) (hc : PCaught wr (w.heap.size + 1) (w.heap.size + 1 + 1) (w.heap.size + 1 + 1 + 1) e l w') : Turns Nothing w w' := by
  refine (hb.turns.trans ht fun b hb e => ?_).trans hc.turns fun b hb e => ?_
  · have : b = w.heap.size + 1 := e
    omega
  · rcases e with e | e | e <;> omega
end
end Go.Proofs.YtiopaenonjhlnaaGreatDoor
