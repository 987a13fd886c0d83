/- Package bind: bare: a list of its own, without lines. Package bind: bare, walked. -/
import Derived.Test.YtiopaenonjhlnaaGreatDoorParsePrint
import Derived.Test.YtiopaenonjhlnaaGreatDoorBindMap
import Derived.Test.YtiopaenonjhlnaaGreatDoorBindPure
import Derived.Deep.RegionHeld3
namespace Go.Proofs.YtiopaenonjhlnaaGreatDoor
set_option maxRecDepth 8000
open Go.RowKit
open Lx (Bytes)

/-- groups that lie above B -/
structure GAt (w : World) (B : Nat) (gv : Value) (Z : List (Value × List CQ)) : Prop where
  outer : w.ownsRow B 53 1 gv Z.length (Z.map (·.1))
  inner : ∀ z ∈ Z, w.ownsRow B 57 4 z.1 z.2.length (cqCells z.2)
  rows : ∀ z ∈ Z, ∀ q ∈ z.2, CQAt w B q
theorem GAt.keep {w w' : World} {B : Nat} {gv : Value} {Z : List (Value × List CQ)} (h : GAt w B gv Z) {S : Nat → Prop} (ht : Turns S w w') (hs : ∀ b, S b → b < B) : GAt w' B gv Z := by
  refine ⟨ht.own h.outer fun g hg e => ?_, fun z hz => ht.own (h.inner z hz) fun g hg e => ?_, fun z hz q hq => ⟨ht.own (h.rows z hz q hq).flags fun g hg e => ?_, ht.own (h.rows z hz q hq).args fun g hg e => ?_⟩⟩
  · have := (h.outer.lt g hg).1; have := hs g e; omega
  · have := ((h.inner z hz).lt g hg).1; have := hs g e; omega
  · have := ((h.rows z hz q hq).flags.lt g hg).1; have := hs g e; omega
  · have := ((h.rows z hz q hq).args.lt g hg).1; have := hs g e; omega
theorem GAt.still {w w' : World} {B : Nat} {gv : Value} {Z : List (Value × List CQ)} (h : GAt w B gv Z) (ht : Turns Nothing w w') : GAt w' B gv Z := h.keep ht fun _ e => e.elim
theorem GAt.weak {w : World} {B B' : Nat} {gv : Value} {Z : List (Value × List CQ)} (h : GAt w B gv Z) (hB : B' ≤ B) : GAt w B' gv Z :=
  ⟨own_weak h.outer hB, fun z hz => own_weak (h.inner z hz) hB, fun z hz q hq => ⟨own_weak (h.rows z hz q hq).flags hB, own_weak (h.rows z hz q hq).args hB⟩⟩
theorem GAt.nil (w : World) (B : Nat) : GAt w B (.slice none 0 0) [] := ⟨World.ownsRow_nil _ _ _ _, fun _z hz => (List.not_mem_nil hz).elim, fun _z hz => (List.not_mem_nil hz).elim⟩
theorem GAt.of {w : World} {B : Nat} {gv : Value} {Z : List (Value × List CQ)} (h : GroupsAt w B gv Z) : GAt w B gv Z := ⟨h.outer, h.inner, h.rows⟩
theorem GAt.rd {w : World} {B : Nat} {gv : Value} {Z : List (Value × List CQ)} (h : GAt w B gv Z) : GroupsRd w gv Z := by
  refine ⟨?_, fun z hz => ⟨?_, fun q hq => ⟨own_flags (h.rows z hz q hq).flags, own_texts (h.rows z hz q hq).args⟩⟩⟩
  · rcases h.outer.2 with ⟨rfl, h0⟩ | ⟨g, cap, cur, rfl, hb, hg, _⟩
    · exact ⟨none, 0, by rw [h0], fun hi => by omega⟩
    · refine ⟨_, cap, rfl, fun _ => ⟨g, 0, rfl, (Array.getElem?_eq_some_iff.1 hg).1, fun i hi => ?_⟩⟩
      rw [Nat.zero_add, h.outer.cellAt _ (by omega), List.getElem?_map, List.getElem?_eq_getElem hi]
      rfl
  · have ho := h.inner z hz
    rcases ho.2 with ⟨e, h0⟩ | ⟨g, cap, cur, e, hb, hg, _⟩
    · exact ⟨none, 0, by rw [e, h0], fun hi => by omega⟩
    · refine ⟨_, cap, e, fun _ => ⟨g, 0, rfl, (Array.getElem?_eq_some_iff.1 hg).1, fun i hi => ?_⟩⟩
      have c := cqCells_at z.2 i hi
      rw [e] at ho
      rw [Nat.zero_add, ho.cellAt _ (by omega), ho.cellAt _ (by omega), ho.cellAt _ (by omega), ho.cellAt _ (by omega)]
      exact ⟨c.1, c.2.1, c.2.2.1, c.2.2.2⟩
/-- a group more -/
theorem GAt.push {w w1 w2 : World} {B b0 : Nat} {gv gv' gl : Value} {Z : List (Value × List CQ)} {l : List CQ} (h : GAt w B gv Z) (h1 : Turns Nothing w w1) (hi : w1.ownsRow B 57 4 gl l.length (cqCells l)) (hr : ∀ q ∈ l, CQAt w1 B q)
    (ho : w2.ownsRow B 53 1 gv' (Z.length + 1) (Z.map (·.1) ++ [gl])) (hg : w1.grownBy w2 gv.ownBlock) (hb : b0 < B) : GAt (w2.setCell ⟨b0, 0, none⟩ gv') B gv' (Z ++ [(gl, l)]) := by
  have h' := h.still h1
  have ht : Turns (fun b => gv.ownBlock = some b) w1 w2 := (Turns.refl _ w1).grown hg fun _ _ e => e
  refine GAt.keep (w := w2) ⟨by simpa using ho, ?_, ?_⟩ ((Turns.refl (Only b0) w2).setCell (p := ⟨b0, 0, none⟩) (.inl rfl) _) fun b e => by have e : b = b0 := e; omega
  · intro z hz
    rcases List.mem_append.1 hz with hz | hz
    · exact ht.own (h'.inner z hz) fun g hg e => own_ne (h'.inner z hz) h'.outer (by decide) g hg e
    · rw [List.mem_singleton.1 hz]
      exact ht.own hi fun g hg e => own_ne hi h'.outer (by decide) g hg e
  · have key : ∀ q, CQAt w1 B q → CQAt w2 B q := fun q hq => ⟨ht.own hq.flags fun g hg e => own_ne hq.flags h'.outer (by decide) g hg e, ht.own hq.args fun g hg e => own_ne hq.args h'.outer (by decide) g hg e⟩
    intro z hz q hq
    rcases List.mem_append.1 hz with hz | hz
    · exact key q (h'.rows z hz q hq)
    · rw [List.mem_singleton.1 hz] at hq
      exact key q (hr q hq)
theorem flags_row {w : World} {v : Value} {l : List Px.Fl} (h : FlagsAt w v l) : RowIs w 2 v l.length (flagCells l) := by
  obtain ⟨A, c, rfl, hc⟩ := h.at_
  refine ⟨flagCells_len l, A, c, rfl, fun h0 => ?_⟩
  obtain ⟨b, off, hA, hb, hat⟩ := hc h0
  refine ⟨b, off, hA, hb, fun j u hj => ?_⟩
  have hjl : j < l.length * 2 := by rw [← flagCells_len]; exact (List.getElem?_eq_some_iff.1 hj).1
  have hi : j / 2 < l.length := by omega
  obtain ⟨c0, c1⟩ := hat (j / 2) hi
  have f := flagCells_at l (j / 2) hi
  have hm : j % 2 = 0 ∨ j % 2 = 1 := by omega
  rcases hm with hm | hm
  · rw [show j / 2 * 2 = j by omega] at c0
    rw [show j / 2 * 2 = j by omega, hj] at f
    rw [c0]; exact f.1.symm
  · rw [show off + j / 2 * 2 + 1 = off + j by omega] at c1
    rw [show j / 2 * 2 + 1 = j by omega, hj] at f
    rw [c1]; exact f.2.symm
theorem texts_row {w : World} {v : Value} {l : List Bytes} (h : TextsAt w v l) : RowIs w 1 v l.length (l.map strV) := by
  obtain ⟨A, c, rfl, hc⟩ := h.at_
  refine ⟨by simp, A, c, rfl, fun h0 => ?_⟩
  obtain ⟨b, off, hA, hb, hat⟩ := hc h0
  refine ⟨b, off, hA, hb, fun j u hj => ?_⟩
  rw [List.getElem?_map] at hj
  obtain ⟨s, hs, rfl⟩ := Option.map_eq_some_iff.1 hj
  have hl := (List.getElem?_eq_some_iff.1 hs).1
  rw [hat j hl, ← (List.getElem?_eq_some_iff.1 hs).2]
theorem one_flags (l : List Px.Fl) : ∀ u ∈ flagCells l, u.oneCell' = true := by
  intro u hu
  obtain ⟨f, -, hf⟩ := List.mem_flatMap.1 hu
  simp [flagCell] at hf
  rcases hf with rfl | rfl <;> rfl
theorem one_texts (l : List Bytes) : ∀ u ∈ l.map strV, u.oneCell' = true := by
  intro u hu
  obtain ⟨f, -, rfl⟩ := List.mem_map.1 hu
  rfl
/-- a group, copied so far -/
structure BareIn (w1 : World) (L : List Px.Cmd) (l' : List CQ) (v : Value) (wr : World) : Prop where
  own : wr.ownsRow w1.heap.size 57 4 v l'.length (cqCells l')
  rows : ∀ q ∈ l', CQAt wr w1.heap.size q
  cmds : l'.map (·.1) = L
  turns : Turns Nothing w1 wr
theorem BareIn.start (w1 : World) : BareIn w1 [] [] (.slice none 0 0) w1 := ⟨World.ownsRow_nil _ _ _ _, fun _ h => (List.not_mem_nil h).elim, rfl, Turns.refl _ _⟩
theorem BareIn.still {w1 wr w2 : World} {L : List Px.Cmd} {l' : List CQ} {v : Value} (h : BareIn w1 L l' v wr) (ht : Turns Nothing wr w2) : BareIn w1 L l' v w2 :=
  ⟨ht.own h.own fun _ _ => id, fun q hq => ⟨ht.own (h.rows q hq).flags fun _ _ => id, ht.own (h.rows q hq).args fun _ _ => id⟩, h.cmds, h.turns.same ht⟩
theorem BareIn.push {w1 wr w2 : World} {L : List Px.Cmd} {l' : List CQ} {v v' : Value} {q : CQ} (h : BareIn w1 L l' v wr) (hq : CQAt wr w1.heap.size q) (ho : w2.ownsRow w1.heap.size 57 4 v' (l'.length + 1) (cqCells l' ++ cqCell q)) (hg : wr.grownBy w2 v.ownBlock) :
    BareIn w1 (L ++ [q.1]) (l' ++ [q]) v' w2 := by
  have ht : Turns (fun b => v.ownBlock = some b) wr w2 := (Turns.refl _ wr).grown hg fun _ _ e => e
  have key : ∀ q, CQAt wr w1.heap.size q → CQAt w2 w1.heap.size q := fun q hq => ⟨ht.own hq.flags fun g hg e => own_ne hq.flags h.own (by decide) g hg e, ht.own hq.args fun g hg e => own_ne hq.args h.own (by decide) g hg e⟩
  refine ⟨by rw [cqCells_last, List.length_append, List.length_singleton]; exact ho, fun p hp => ?_, by rw [List.map_append, h.cmds]; rfl, h.turns.trans ht fun b hb e => ?_⟩
  · rcases List.mem_append.1 hp with hp | hp
    · exact key p (h.rows p hp)
    · rw [List.mem_singleton.1 hp]; exact key q hq
  · have := (h.own.lt b e).1
    omega
end Go.Proofs.YtiopaenonjhlnaaGreatDoor
namespace Go.Proofs.YtiopaenonjhlnaaGreatDoor
set_option maxRecDepth 8000
open Go.RowKit
open Lx (Bytes)

/-- what bare may be given -/
structure BareFit (Z : List (Value × List CQ)) : Prop where
  n : Z.length ≤ 1050000
  each : ∀ z ∈ Z, z.2.length ≤ 1050000 ∧ ∀ q ∈ z.2, q.1.flags.length ≤ 1050000 ∧ q.1.args.length ≤ 1050000
structure OutRel (w : World) (G : List (List Px.Cmd)) (k : Nat) (gv' : Value) (Z' : List (Value × List CQ)) (wr : World) : Prop where
  out : Blk wr (w.heap.size + 2) 32 #[gv']
  res : Blk wr (w.heap.size + 1) 32 #[.slice none 0 0]
  g : GAt wr (w.heap.size + 3) gv' Z'
  cmds : plainG Z' = Px.stripG (G.take k)
  len : Z'.length = k
  turns : Turns Nothing w wr
theorem cmd_cells {w : World} {b : Nat} {u0 u1 u2 u3 : Value} (h : Blk w b 57 #[u0, u1, u2, u3]) : w.cell? ⟨b, 0, none⟩ = some u0 ∧ w.cell? ⟨b, 1, none⟩ = some u1 ∧ w.cell? ⟨b, 2, none⟩ = some u2 ∧ w.cell? ⟨b, 3, none⟩ = some u3 ∧ w.frozen? ⟨b, 1, none⟩ = false ∧ w.frozen? ⟨b, 2, none⟩ = false ∧ w.frozen? ⟨b, 3, none⟩ = false ∧ b < w.heap.size :=
  ⟨h.cell 0, h.cell 1, h.cell 2, h.cell 3, h.frozen 1, h.frozen 2, h.frozen 3, h.lt⟩
theorem cmd_set {w : World} {b : Nat} {u0 u1 u2 u3 x y z : Value} (h : Blk w b 57 #[u0, u1, u2, u3]) : Blk (((w.setCell ⟨b, 3, none⟩ x).setCell ⟨b, 1, none⟩ y).setCell ⟨b, 2, none⟩ z) b 57 #[u0, y, z, x] :=
  ((h.set_ 3 x).set_ 1 y).set_ 2 z
theorem cmd_turns {w : World} {b K : Nat} {x y z : Value} (h : K ≤ b) {w0 : World} (hK : w0.heap.size = K) (ht : Turns Nothing w0 w) : Turns Nothing w0 (((w.setCell ⟨b, 3, none⟩ x).setCell ⟨b, 1, none⟩ y).setCell ⟨b, 2, none⟩ z) :=
  ((ht.setCell (.inr (by rw [hK]; exact h)) x).setCell (.inr (by rw [hK]; exact h)) y).setCell (.inr (by rw [hK]; exact h)) z
theorem own_far {w : World} {B b i : Nat} {e : TypeId} {size n : Nat} {v : Value} {xs : List Value} (h : w.ownsRow B e size v n xs) {t : TypeId} {cs : Array Value} (hb : Blk w b t cs) (hne : e ≠ t) (u : Value) : (w.setCell ⟨b, i, none⟩ u).ownsRow B e size v n xs :=
  ((Turns.refl (Only b) w).setCell (p := ⟨b, i, none⟩) (.inl rfl) u).own h fun g hg e => by
    have e : g = b := e
    subst e
    exact own_blk_ne h hb hne hg
theorem own_far3 {w : World} {B b : Nat} {e : TypeId} {size n : Nat} {v : Value} {xs : List Value} (h : w.ownsRow B e size v n xs) {u0 u1 u2 u3 : Value} (hb : Blk w b 57 #[u0, u1, u2, u3]) (hne : e ≠ 57) (x y z : Value) :
    (((w.setCell ⟨b, 3, none⟩ x).setCell ⟨b, 1, none⟩ y).setCell ⟨b, 2, none⟩ z).ownsRow B e size v n xs :=
  own_far (own_far (own_far h hb hne x) (hb.set_ 3 x) hne y) ((hb.set_ 3 x).set_ 1 y) hne z
theorem A.info_bgrp : (Tryz.prog.info? 53).map (fun i => (i.zero, i.size, i.bytes)) = some (some (.slice none 0 0), 1, 24) := by kernel_rfl
theorem A.info_bcmd : (Tryz.prog.info? 57).map (fun i => (i.zero, i.size, i.bytes)) = some (some (.agg #[.string ⟨#[]⟩, .slice none 0 0, .slice none 0 0, .int .i64 0]), 4, 72) := by kernel_rfl
theorem bsrc_cmd (w : World) (v0 v1 v2 v3 : Value) (h0 : v0.oneCell' = true) (h1 : v1.oneCell' = true) (h2 : v2.oneCell' = true) (h3 : v3.oneCell' = true) : Src Tryz.prog 4 53 (.slice (some ⟨w.heap.size, 0, none⟩) 1 1) 1 [v0, v1, v2, v3] (w.alloc (.cells #[v0, v1, v2, v3] 57)) :=
  psrc_block (size := 4) Tryz.underlying53 (Blk.new w 57 #[v0, v1, v2, v3]) 1 1 rfl (by intro u hu; simp at hu; rcases hu with rfl | rfl | rfl | rfl <;> assumption)
theorem bsrc_row (w : World) (v : Value) (h : v.oneCell' = true) : Src Tryz.prog 1 30 (.slice (some ⟨w.heap.size, 0, none⟩) 1 1) 1 [v] (w.alloc (.cells #[v] 53)) :=
  psrc_block (size := 1) Tryz.underlying30 (Blk.new w 53 #[v]) 1 1 rfl (by intro u hu; simp at hu; subst hu; exact h)
theorem load_list (w : World) (g : Nat) (v0 : Value) (h : Blk w g 32 #[v0]) : (loadVar 32 ⟨g, 0, none⟩).run Tryz.prog w = .ok (.agg #[v0]) w := by
  have d0 := h.cell 0
  clear h
  simp at d0
  simp [go_sem, d0]
set_option maxHeartbeats 4000000 in
theorem bare_in {w : World} {gv : Value} {Z : List (Value × List CQ)} (hG : GroupsRd w gv Z) (hF : BareFit Z) :
    Calls Tryz.prog 23 #[.agg #[gv]] w fun e w' => ∃ gv' Z', e = .returned (.agg #[gv']) ∧ GAt w' w.heap.size gv' Z' ∧ plainG Z' = Px.stripG (plainG Z) ∧ Turns Nothing w w' := by
  have HG := Lib.hid hG
  obtain ⟨A, c, rfl, hat⟩ := hG.at_
  have HAT := Lib.hid hat
  have HF := Lib.hid hF
  have hzl : (Z.length : Int) ≤ 1050000 := by have := hF.n; omega
  have hpl : (plainG Z).length = Z.length := by simp [plainG]
  have HPL := Lib.hid hpl
  clear hG hat hF hpl
  have HP := Lib.hid (show OutRel w (plainG Z) 0 (.slice none 0 0) [] (((w.alloc (.cells #[.slice A Z.length c] 32)).alloc (.cells #[.slice none 0 0] 32)).alloc (.cells #[.slice none 0 0] 32)) from
    ⟨blk_new_at (by simp [go_sem]), (blk_new_at (by simp [go_sem])).alloc _, GAt.nil _ _, rfl, rfl, (((Turns.refl _ w).alloc _).alloc _).alloc _⟩)
  go_enter Tryz.func23, Tryz.ntmps23
  go_wp2_with fail
  go_loopw [12] (fun i wr => ∃ k gv' Z', i = .int .i64 (k : Nat) ∧ k ≤ Z.length ∧ OutRel w (plainG Z) k gv' Z' wr) (fun i _ => Z.length - (intOf i).toNat)
  case atStart => exact ⟨0, _, _, rfl, Nat.zero_le _, HP.out⟩
  case round =>
    obtain ⟨k, gv', Z', rfl, hk, hR⟩ := hrel
    clear HP
    by_cases hlt : k < Z.length
    · obtain ⟨g, off, rfl, hg, hc⟩ := HAT.out (by omega)
      have p0 := (hR.turns.cell (p := ⟨g, _, none⟩) hg id).trans (hc k hlt)
      have hgr : g < wr.heap.size := Nat.lt_of_lt_of_le hg hR.turns.size
      have hrow := (HG.out.still hR.turns).each _ (List.getElem_mem hlt)
      have hfit := HF.out.each _ (List.getElem_mem hlt)
      have hpk : (plainG Z)[k]'(by rw [HPL.out]; exact hlt) = Z[k].2.map (·.1) := by simp [plainG]
      have HPK := Lib.hid hpk
      generalize Z[k] = z at p0 hrow hfit HPK
      obtain ⟨z1, l⟩ := z
      dsimp only at p0 hrow hfit HPK
      obtain ⟨⟨A2, c2, rfl, hcm⟩, hft⟩ := hrow
      have HCM := Lib.hid (And.intro hcm hft)
      have HFI := Lib.hid hfit.2
      have hll : (l.length : Int) ≤ 1050000 := by have := hfit.1; omega
      have HR := Lib.hid hR
      clear hR hc hg hcm hft hfit hpk
      generalize hw1 : wr = w1 at *
      clear hw1
      go_wp2_with fail
      go_loopw [18, 6] (fun j v wr => ∃ n l', j = .int .i64 (n : Nat) ∧ n ≤ l.length ∧ BareIn w1 (((l.map (·.1)).take n).map Px.strip) l' v wr ∧ l'.length = n) (fun j _ _ => l.length - (intOf j).toNat)
      case atStart => exact ⟨0, [], rfl, Nat.zero_le _, BareIn.start w1, rfl⟩
      case round =>
        obtain ⟨n, l', rfl, hn, hB, hl'⟩ := hrel
        subst hl'
        obtain ⟨A0, c0, rfl⟩ := own_slice hB.own
        by_cases hn2 : l'.length < l.length
        · obtain ⟨b, off2, rfl, hb, hcells⟩ := HCM.out.1 (by omega)
          obtain ⟨q0, q1, q2, q3⟩ := hcells l'.length hn2
          obtain ⟨hFl, hTx⟩ := HCM.out.2 _ (List.getElem_mem hn2)
          have hfq := HFI.out _ (List.getElem_mem hn2)
          have hst : ((l.map (·.1)).take (l'.length + 1)).map Px.strip = ((l.map (·.1)).take l'.length).map Px.strip ++ [Px.strip l[l'.length].1] := by
            rw [List.take_succ_eq_append_getElem (by simpa using hn2)]
            simp
          generalize l[l'.length] = q at q0 q1 q2 q3 hFl hTx hfq hst
          obtain ⟨cq, fv, av⟩ := q
          dsimp only at q0 q1 q2 q3 hFl hTx hfq hst
          have q0 := (hB.turns.cell (p := ⟨b, _, none⟩) hb id).trans q0
          have q1 := (hB.turns.cell (p := ⟨b, _, none⟩) hb id).trans q1
          have q2 := (hB.turns.cell (p := ⟨b, _, none⟩) hb id).trans q2
          have q3 := (hB.turns.cell (p := ⟨b, _, none⟩) hb id).trans q3
          have hbr : b < wr.heap.size := Nat.lt_of_lt_of_le hb hB.turns.size
          have HST := Lib.hid hst
          have HB := Lib.hid hB
          have HCF := Lib.hid (fun W (ht : Turns Nothing w1 W) => clone_flags_in (flags_row (hFl.still ht)) (one_flags _) (by have := hfq.1; omega))
          have HCT := Lib.hid (fun W (ht : Turns Nothing w1 W) => clone_texts_in (texts_row (hTx.still ht)) (one_texts _) (by have := hfq.2; omega))
          obtain ⟨fA, fc, rfl, -⟩ := hFl.at_
          obtain ⟨rA, rc, rfl, -⟩ := hTx.at_
          simp only [strV] at q0
          have HNM := Lib.hid (show strV cq.name = .string ⟨cq.name.toArray⟩ from rfl)
          generalize (⟨cq.name.toArray⟩ : ByteArray) = nm at q0 HNM
          have B8 := Lib.hid (Blk.new wr 57 #[.string nm, .slice fA cq.flags.length fc, .slice rA cq.args.length rc, .int .i64 cq.line])
          have T8 := Lib.hid ((hB.turns.alloc (.cells #[.string nm, .slice fA cq.flags.length fc, .slice rA cq.args.length rc, .int .i64 cq.line] 57)))
          have TW8 := Lib.hid ((Turns.refl Nothing wr).alloc (.cells #[.string nm, .slice fA cq.flags.length fc, .slice rA cq.args.length rc, .int .i64 cq.line] 57))
          clear hst hFl hTx hfq hb hcells hB
          go_upto_region 9 with fail
          go_cut [] (fun wx => ∃ fv' av', Blk wx wr.heap.size 57 #[.string nm, fv', av', .int .i64 0] ∧ CQAt wx w1.heap.size (Px.strip cq, fv', av') ∧ Turns Nothing wr wx)
          case first =>
            have x1 := B8.out.cell 1
            have x2 := B8.out.cell 2
            simp only [List.getElem?_toArray, List.getElem?_cons_zero, List.getElem?_cons_succ] at x1 x2
            have xz := B8.out.lt
            have xs := T8.out.size
            clear q0 q1 q2 q3
            generalize wr.alloc (.cells #[.string nm, .slice fA cq.flags.length fc, .slice rA cq.args.length rc, .int .i64 cq.line] 57) = w8 at *
            go_region_with (first
              | (go_at_call 46; refine (HCF.out _ (by first | exact T8.out.drewN 1 | exact T8.out)).mono ?_; rintro e w5 ⟨fv', rfl, ho5, ht5⟩; obtain ⟨A5, c5, rfl⟩ := own_slice ho5; have H5 := Lib.hid (And.intro ho5 (And.intro ht5 (ht5.blk (B8.out) id))); have x2 := (ht5.cell (p := ⟨wr.heap.size, 2, none⟩) xz id).trans x2; have xz5 := Nat.lt_of_lt_of_le xz ht5.size; clear ho5 ht5)
              | (go_at_call 47; refine (HCT.out _ (by first | exact (T8.out.drewN 1).same H5.out.2.1)).mono ?_; rintro e w6 ⟨av', rfl, ho6, ht6⟩; obtain ⟨A6, c6, rfl⟩ := own_slice ho6; have H6 := Lib.hid (And.intro ho6 (And.intro ht6 (ht6.blk H5.out.2.2 id))); clear x2 xz5 x1; obtain ⟨y0, y1, y2, y3, f1, f2, f3, yz⟩ := cmd_cells H6.out.2.2; clear ho6 ht6))
            all_goals
              go_wp2_with fail
              go_meet
              refine ⟨_, _, cmd_set H6.out.2.2, ⟨?_, ?_⟩, ?_⟩
              · exact own_weak (own_far3 (H6.out.2.1.own H5.out.1 fun _ _ => id) H6.out.2.2 (by decide) _ _ _) (by exact xs)
              · exact own_weak (own_far3 H6.out.1 H6.out.2.2 (by decide) _ _ _) (by have := H5.out.2.1.size; exact Nat.le_trans xs this)
              · exact cmd_turns (Nat.le_refl _) rfl ((TW8.out.drewN 1).same (H5.out.2.1.same H6.out.2.1))
          case rest =>
            obtain ⟨fv', av', hB9, hQ9, hT9⟩ := hcut
            have hq1 : wc.ownsRow w1.heap.size 121 2 fv' cq.flags.length (flagCells cq.flags) := hQ9.flags
            have hq2 : wc.ownsRow w1.heap.size 9 1 av' cq.args.length (cq.args.map strV) := hQ9.args
            obtain ⟨A5, c5, rfl⟩ := own_slice hq1
            obtain ⟨A6, c6, rfl⟩ := own_slice hq2
            obtain ⟨y0, y1, y2, y3, f1, f2, f3, yz⟩ := cmd_cells hB9
            obtain ⟨i0, hi0, hz0, hz1, hz2⟩ := info_parts A.info_bcmd
            have hB10 := (HB.out.still hT9).still ((Turns.refl Nothing wc).alloc (.cells #[.string nm, .slice A5 cq.flags.length c5, .slice A6 cq.args.length c6, .int .i64 0] 57))
            have hS := bsrc_cmd wc (.string nm) (.slice A5 cq.flags.length c5) (.slice A6 cq.args.length c6) (.int .i64 0) rfl rfl rfl rfl
            have hm : l'.length + 1 ≤ maxLen := by simp only [maxLen]; omega
            have hy : ((l'.length + 1) + (l'.length + 1 + 768) / 4 + 512) * 72 ≤ 281474976710656 := by omega
            have hz : w1.heap.size ≤ (wc.alloc (.cells #[.string nm, .slice A5 cq.flags.length c5, .slice A6 cq.args.length c6, .int .i64 0] 57)).heap.size := hB10.turns.size
            have HO := Lib.hid (And.intro hB10 (And.intro hS (And.intro hm (And.intro hy hz))))
            have HQ := Lib.hid ((CQAt.mk (q := (Px.strip cq, .slice A5 cq.flags.length c5, .slice A6 cq.args.length c6)) hq1 hq2))
            have HT9 := Lib.hid hT9
            clear hB10 hS hm hy hz hQ9 hq1 hq2 hB9 hT9 q0 q1 q2 q3
            go_wp2_with (first
              | (at_builtin
                 refine wpList_append_src _ rfl (.tmp 31) (.tmp 33) _ _ rfl w1.heap.size 57 i0 _ 4 72 Tryz.underlying53 hi0 hz0 hz1 hz2 rfl (.slice A0 l'.length c0) l'.length _ rfl HO.out.1.own _ 1 [.string nm, .slice A5 cq.flags.length c5, .slice A6 cq.args.length c6, .int .i64 0] rfl HO.out.2.1 HO.out.2.2.1 HO.out.2.2.2.1 HO.out.2.2.2.2 ?_
                 intro A1 cp1 w4 ho hg hat
                 have HN := Lib.hid (And.intro ho hg)
                 clear ho hg hat))
            go_roundw
            case rel =>
              refine ⟨l'.length + 1, l' ++ [(Px.strip cq, .slice A5 cq.flags.length c5, .slice A6 cq.args.length c6)], by go_num, hn2, ?_, by simp⟩
              rw [HST.out]
              refine HO.out.1.push (q := (Px.strip cq, .slice A5 cq.flags.length c5, .slice A6 cq.args.length c6)) ⟨?_, ?_⟩ ?_ HN.out.2
              · exact ((Turns.refl Nothing wc).alloc _).own HQ.out.flags fun _ _ => id
              · exact ((Turns.refl Nothing wc).alloc _).own HQ.out.args fun _ _ => id
              · have e : cqCell (Px.strip cq, .slice A5 cq.flags.length c5, .slice A6 cq.args.length c6) = [.string nm, .slice A5 cq.flags.length c5, .slice A6 cq.args.length c6, .int .i64 0] := by
                  show [strV cq.name, _, _, _] = _
                  rw [HNM.out]
                  rfl
                rw [e]
                exact HN.out.1
            case measure => simp [intOf]; omega
        · have hle : l.length = l'.length := by omega
          have hb := hB
          rw [List.take_of_length_le (by simp; omega)] at hb
          have HB := Lib.hid hb
          have hlow : w.heap.size + 3 ≤ w1.heap.size := by have := HR.out.out.lt; omega
          obtain ⟨A3, c3, rfl⟩ := own_slice HR.out.g.outer
          have hblk := hB.turns.blk HR.out.out id
          have x0 : wr.cell? ⟨w.heap.size + 1 + 1, 0, none⟩ = some (.slice A3 Z'.length c3) := hblk.cell 0
          have xf : wr.frozen? ⟨w.heap.size + 1 + 1, 0, none⟩ = false := hblk.frozen 0
          have xz : w.heap.size + 1 + 1 < wr.heap.size := hblk.lt
          obtain ⟨i0, hi0, hz0, hz1, hz2⟩ := info_parts A.info_bgrp
          have hZl := HR.out.len
          have TA := (Turns.refl Nothing wr).alloc (.cells #[.slice A0 l'.length c0] 53)
          have hS := bsrc_row wr (.slice A0 l'.length c0) rfl
          have hO := ((HR.out.g.still hB.turns).still TA).outer
          have hm : Z'.length + 1 ≤ maxLen := by simp only [maxLen]; omega
          have hy : ((Z'.length + 1) + (Z'.length + 1 + 768) / 4 + 512) * 24 ≤ 281474976710656 := by omega
          have hz : w.heap.size + 3 ≤ (wr.alloc (.cells #[.slice A0 l'.length c0] 53)).heap.size := by have := hB.turns.size; have := TA.size; omega
          have HO := Lib.hid (And.intro hO (And.intro hS (And.intro hm (And.intro hy hz))))
          have HTA := Lib.hid TA
          have HLE := Lib.hid hle
          have HLOW := Lib.hid hlow
          have HBK := Lib.hid hblk
          have HZL := Lib.hid hZl
          clear hO hS hm hy hz TA hle hlow hb hB hblk hZl
          go_wp2_with (first
            | (at_builtin
               refine wpList_append_src _ rfl (.tmp 37) (.tmp 39) _ _ rfl (w.heap.size + 3) 53 i0 _ 1 24 Tryz.underlying30 hi0 hz0 hz1 hz2 rfl (.slice A3 Z'.length c3) Z'.length _ rfl HO.out.1 _ 1 [.slice A0 l'.length c0] rfl HO.out.2.1 HO.out.2.2.1 HO.out.2.2.2.1 HO.out.2.2.2.2 ?_
               intro A1 cp1 w4 ho hg hat
               have HN := Lib.hid (And.intro ho hg)
               have hbk4 : Blk w4 (w.heap.size + 2) 32 #[.slice A3 Z'.length c3] := (HTA.out.blk HBK.out id).grown hg (fun e => own_blk_ne HO.out.1 (HTA.out.blk HBK.out id) (by decide) e.symm)
               have HBK4 := Lib.hid hbk4
               have y0 : w4.cell? ⟨w.heap.size + 1 + 1, 0, none⟩ = some (.slice A3 Z'.length c3) := hbk4.cell 0
               have yf : w4.frozen? ⟨w.heap.size + 1 + 1, 0, none⟩ = false := hbk4.frozen 0
               have yz : w.heap.size + 1 + 1 < w4.heap.size := hbk4.lt
               clear ho hg hat hbk4))
          go_roundw
          case rel =>
            have hTT : Turns Nothing w (wr.alloc (.cells #[.slice A0 l'.length c0] 53)) := HR.out.turns.same (HB.out.turns.same HTA.out)
            have hres : Blk w4 (w.heap.size + 1) 32 #[.slice none 0 0] := (HTA.out.blk (HB.out.turns.blk HR.out.res id) id).grown HN.out.2 (fun e => own_blk_ne HO.out.1 (HTA.out.blk (HB.out.turns.blk HR.out.res id) id) (by decide) e.symm)
            refine ⟨k + 1, _, Z' ++ [(.slice A0 l'.length c0, l')], by go_num, hlt, ⟨HBK4.out.set_ 0 _, hres.far (by simp) _, ?_, ?_, ?_, ?_⟩⟩
            · refine HR.out.g.push (HB.out.turns.same HTA.out) (own_weak (HTA.out.own HB.out.own fun _ _ => id) HLOW.out) (fun q hq => ⟨own_weak (HTA.out.own (HB.out.rows q hq).flags fun _ _ => id) HLOW.out, own_weak (HTA.out.own (HB.out.rows q hq).args fun _ _ => id) HLOW.out⟩) HN.out.1 HN.out.2 (by omega)
            · rw [plainG, List.map_append, List.map_singleton]
              have h1 : List.map (fun z : Value × List CQ => z.2.map (·.1)) Z' = Px.stripG ((plainG Z).take k) := HR.out.cmds
              rw [h1, HB.out.cmds, List.take_succ_eq_append_getElem (by rw [HPL.out]; exact hlt), HPK.out]
              simp [Px.stripG]
            · rw [List.length_append, List.length_singleton, HZL.out]
            · refine (hTT.grown HN.out.2 fun b hb e => ?_).setCell (.inr (by show w.heap.size ≤ w.heap.size + 1 + 1; omega)) _
              have := (HO.out.1.lt b e).1
              omega
          case measure => simp [intOf]; omega
    · have hkl : k = Z.length := by omega
      subst hkl
      obtain ⟨A3, c3, rfl⟩ := own_slice hR.g.outer
      have x0 : wr.cell? ⟨w.heap.size + 1 + 1, 0, none⟩ = some (.slice A3 Z'.length c3) := hR.out.cell 0
      have xz : w.heap.size + 1 + 1 < wr.heap.size := hR.out.lt
      have y0 : wr.cell? ⟨w.heap.size + 1, 0, none⟩ = some (.slice none 0 0) := hR.res.cell 0
      have yf : wr.frozen? ⟨w.heap.size + 1, 0, none⟩ = false := hR.res.frozen 0
      have HR := Lib.hid hR
      clear hR
      go_wp2_with fail
      have hres := HR.out.res.set_ 0 (.slice A3 Z'.length c3)
      refine bodyPost_ret ((results_cell Tryz.results23 _ _ _ ⟨w.heap.size + 1, 0, none⟩ rfl).trans (load_list _ _ _ hres)) rfl ?_
      refine ⟨_, Z', rfl, ?_, ?_, HR.out.turns.setCell (.inr (Nat.le_succ _)) _⟩
      · exact (HR.out.g.keep ((Turns.refl (Only (w.heap.size + 1)) wr).setCell (p := ⟨w.heap.size + 1, 0, none⟩) (.inl rfl) _) fun b e => by have e : b = w.heap.size + 1 := e; omega).weak (by omega)
      · rw [HR.out.cmds, List.take_of_length_le (by rw [HPL.out]; exact Nat.le_refl _)]
end Go.Proofs.YtiopaenonjhlnaaGreatDoor
