/- Groups in memory, of which the last is still being put together, and is in no row yet. ParseBack's argument, as it lies in memory; what the walk of the law keeps from round to round; what is read again. -/
import Derived.Test.YtodcmeakgcgjfaaGreatDoorParseGroups
import Derived.Test.YtodcmeakgcgjfaaGreatDoorParseRaw
import Derived.Test.YtodcmeakgcgjfaaGreatDoorParsePrint
import Derived.Test.YtodcmeakgcgjfaaGreatDoorParseShown
namespace Go.Proofs.YtodcmeakgcgjfaaGreatDoor
set_option maxRecDepth 8000
open Go.RowKit
open Lx (Bytes)

structure PendAt (w : World) (B : Nat) (ov : Value) (Z : List (Value × List CQ)) (gl : Value) (l : List CQ) : Prop where
  outer : w.ownsRow B 25 1 ov Z.length (Z.map (·.1))
  inner : ∀ z ∈ Z ++ [(gl, l)], w.ownsRow B 30 4 z.1 z.2.length (cqCells z.2)
  rows : ∀ z ∈ Z ++ [(gl, l)], ∀ q ∈ z.2, CQAt w B q
  apart : (Z ++ [(gl, l)]).Pairwise fun a b => ∀ k, a.1.ownBlock = some k → b.1.ownBlock ≠ some k
theorem GroupsAt.pend {w : World} {B : Nat} {ov : Value} {Z : List (Value × List CQ)} (h : GroupsAt w B ov Z) : PendAt w B ov Z (.slice none 0 0) [] := by
  refine ⟨h.outer, fun z hz => ?_, fun z hz q hq => ?_, ?_⟩
  · rcases List.mem_append.1 hz with hz | hz
    · exact h.inner z hz
    · rw [List.mem_singleton.1 hz]
      exact World.ownsRow_nil _ _ _ _
  · rcases List.mem_append.1 hz with hz | hz
    · exact h.rows z hz q hq
    · rw [List.mem_singleton.1 hz] at hq
      exact (List.not_mem_nil hq).elim
  · refine List.pairwise_append.2 ⟨h.apart, List.pairwise_singleton _ _, fun a _ b hb k _ e => ?_⟩
    rw [List.mem_singleton.1 hb] at e
    simp [Value.ownBlock] at e
theorem PendAt.drop {w : World} {B : Nat} {ov gl : Value} {Z : List (Value × List CQ)} {l : List CQ} (h : PendAt w B ov Z gl l) : GroupsAt w B ov Z :=
  ⟨h.outer, fun z hz => h.inner z (List.mem_append_left _ hz), fun z hz => h.rows z (List.mem_append_left _ hz), (List.pairwise_append.1 h.apart).1⟩
theorem PendAt.still {w w' : World} {B : Nat} {ov gl : Value} {Z : List (Value × List CQ)} {l : List CQ} (h : PendAt w B ov Z gl l) (ht : Turns Nothing w w') : PendAt w' B ov Z gl l :=
  ⟨ht.own h.outer fun _ _ => id, fun z hz => ht.own (h.inner z hz) fun _ _ => id, fun z hz q hq => ⟨ht.own (h.rows z hz q hq).flags fun _ _ => id, ht.own (h.rows z hz q hq).args fun _ _ => id⟩, h.apart⟩
theorem PendAt.last {w : World} {B : Nat} {ov gl : Value} {Z : List (Value × List CQ)} {l : List CQ} (h : PendAt w B ov Z gl l) : w.ownsRow B 30 4 gl l.length (cqCells l) := h.inner (gl, l) (by simp)
/-- behind the group's growing -/
theorem PendAt.pushed {w w1 w2 : World} {B : Nat} {ov gl gl' : Value} {Z : List (Value × List CQ)} {l : List CQ} {q : CQ} (h : PendAt w B ov Z gl l) (h1 : Turns Nothing w w1) (hq : CQAt w1 B q)
    (ho : w2.ownsRow B 30 4 gl' (l.length + 1) (cqCells l ++ cqCell q)) (hg : w1.grownBy w2 gl.ownBlock) (hat : gl'.ownBlock = gl.ownBlock ∨ ∃ N, gl'.ownBlock = some N ∧ w.heap.size ≤ N) :
    PendAt w2 B ov Z gl' (l ++ [q]) := by
  have h' := h.still h1
  have ht : Turns (fun b => gl.ownBlock = some b) w1 w2 := (Turns.refl _ w1).grown hg fun _ _ e => e
  have hin := h'.last
  have hap := List.pairwise_append.1 h.apart
  have hrows : ∀ q', CQAt w1 B q' → CQAt w2 B q' := fun q' hq' =>
    ⟨ht.own hq'.flags fun k hk e => own_ne hq'.flags hin (by decide) k hk e, ht.own hq'.args fun k hk e => own_ne hq'.args hin (by decide) k hk e⟩
  refine ⟨ht.own h'.outer fun k hk e => own_ne hin h'.outer (by decide) k e hk, ?_, ?_, ?_⟩
  · intro z hz
    rcases List.mem_append.1 hz with hz | hz
    · exact ht.own (h'.inner z (List.mem_append_left _ hz)) fun k hk e => hap.2.2 z hz _ (List.mem_singleton.2 rfl) k hk e
    · rw [List.mem_singleton.1 hz]
      rw [cqCells_last, List.length_append, List.length_singleton]
      exact ho
  · intro z hz q' hq'
    rcases List.mem_append.1 hz with hz | hz
    · exact hrows q' (h'.rows z (List.mem_append_left _ hz) q' hq')
    · rw [List.mem_singleton.1 hz] at hq'
      rcases List.mem_append.1 hq' with hq' | hq'
      · exact hrows q' (h'.rows (gl, l) (by simp) q' hq')
      · rw [List.mem_singleton.1 hq']
        exact hrows q hq
  · refine List.pairwise_append.2 ⟨hap.1, List.pairwise_singleton _ _, fun a ha b hb k hk e => ?_⟩
    rw [List.mem_singleton.1 hb] at e
    rcases hat with h2 | ⟨N, h2, h3⟩
    · exact hap.2.2 a ha _ (List.mem_singleton.2 rfl) k hk (h2 ▸ e)
    · have h4 := ((h.inner a (List.mem_append_left _ ha)).lt k hk).2
      have e' : gl'.ownBlock = some k := e
      rw [h2] at e'
      injection e' with e'
      omega
/-- behind the row of groups' growing -/
theorem PendAt.done {w w2 : World} {B : Nat} {ov ov' gl : Value} {Z : List (Value × List CQ)} {l : List CQ} (h : PendAt w B ov Z gl l) (ho : w2.ownsRow B 25 1 ov' (Z.length + 1) (Z.map (·.1) ++ [gl])) (hg : w.grownBy w2 ov.ownBlock) :
    GroupsAt w2 B ov' (Z ++ [(gl, l)]) := by
  have ht : Turns (fun b => ov.ownBlock = some b) w w2 := (Turns.refl _ w).grown hg fun _ _ e => e
  exact ⟨by simpa using ho, fun z hz => ht.own (h.inner z hz) fun g hg e => own_ne (h.inner z hz) h.outer (by decide) g hg e,
    fun z hz q hq => ⟨ht.own (h.rows z hz q hq).flags fun g hg e => own_ne (h.rows z hz q hq).flags h.outer (by decide) g hg e, ht.own (h.rows z hz q hq).args fun g hg e => own_ne (h.rows z hz q hq).args h.outer (by decide) g hg e⟩, h.apart⟩
end Go.Proofs.YtodcmeakgcgjfaaGreatDoor
namespace Go.Proofs.YtodcmeakgcgjfaaGreatDoor
set_option maxRecDepth 8000
open Go.RowKit
open Lx (Bytes)

/-- a raw command -/
structure RawQ where
  of_ : Int
  bits : Int
  vv : Value
  av : Value
  vs : List ByteArray
  as_ : List ByteArray
structure RawIn (w : World) (q : RawQ) : Prop where
  of_ : -9223372036854775808 ≤ q.of_ ∧ q.of_ ≤ 9223372036854775807
  bits : -9223372036854775808 ≤ q.bits ∧ q.bits ≤ 9223372036854775807
  vv : StrsIn w q.vv q.vs
  av : StrsIn w q.av q.as_
structure RawRow (w : World) (v : Value) (l : List RawQ) : Prop where
  at_ : ∃ A c, v = .slice A l.length c ∧ (0 < l.length → ∃ b off, A = some ⟨b, off, none⟩ ∧ b < w.heap.size ∧ ∀ i, (h : i < l.length) →
    w.cell? ⟨b, off + i * 4, none⟩ = some (.int .i64 l[i].of_) ∧ w.cell? ⟨b, off + i * 4 + 1, none⟩ = some (.int .i64 l[i].bits) ∧ w.cell? ⟨b, off + i * 4 + 2, none⟩ = some l[i].vv ∧ w.cell? ⟨b, off + i * 4 + 3, none⟩ = some l[i].av)
  few : l.length ≤ 9223372036854775807
  each : ∀ q ∈ l, RawIn w q
structure RawsAt (w : World) (v : Value) (ll : List (Value × List RawQ)) : Prop where
  at_ : ∃ A c, v = .slice A ll.length c ∧ (0 < ll.length → ∃ b off, A = some ⟨b, off, none⟩ ∧ b < w.heap.size ∧ ∀ i, (h : i < ll.length) → w.cell? ⟨b, off + i, none⟩ = some ll[i].1)
  few : ll.length ≤ 9223372036854775807
  each : ∀ z ∈ ll, RawRow w z.1 z.2

/-! ### what is kept -/
def total (Z : List (Value × List CQ)) : Nat := (Z.map (·.2.length)).sum
/-- ahead of a group -/
structure BkOut (w : World) (Z : List (Value × List CQ)) (ov : Value) (n : Nat) (wr : World) : Prop where
  groups : GroupsAt wr w.heap.size ov Z
  turns : Turns Nothing w wr
  ok : ∀ z ∈ Z, z.2 ≠ [] ∧ ∀ q ∈ z.2, RawOk q.1
  num : total Z = n
  le : n ≤ 40
/-- within a group -/
structure BkIn (w : World) (Z : List (Value × List CQ)) (ov gl : Value) (l : List CQ) (n : Nat) (wr : World) : Prop where
  pend : PendAt wr w.heap.size ov Z gl l
  turns : Turns Nothing w wr
  ok : ∀ z ∈ Z, z.2 ≠ [] ∧ ∀ q ∈ z.2, RawOk q.1
  okl : ∀ q ∈ l, RawOk q.1
  num : total Z + l.length = n
  le : n ≤ 40
theorem BkOut.still {w wr w' : World} {Z : List (Value × List CQ)} {ov : Value} {n : Nat} (h : BkOut w Z ov n wr) (ht : Turns Nothing wr w') : BkOut w Z ov n w' := ⟨h.groups.still ht, h.turns.same ht, h.ok, h.num, h.le⟩
theorem BkIn.still {w wr w' : World} {Z : List (Value × List CQ)} {ov gl : Value} {l : List CQ} {n : Nat} (h : BkIn w Z ov gl l n wr) (ht : Turns Nothing wr w') : BkIn w Z ov gl l n w' := ⟨h.pend.still ht, h.turns.same ht, h.ok, h.okl, h.num, h.le⟩
theorem BkOut.begin_ {w wr : World} {Z : List (Value × List CQ)} {ov : Value} {n : Nat} (h : BkOut w Z ov n wr) : BkIn w Z ov (.slice none 0 0) [] n wr :=
  ⟨h.groups.pend, h.turns, h.ok, fun _q hq => (List.not_mem_nil hq).elim, h.num, h.le⟩
theorem BkIn.drop {w wr : World} {Z : List (Value × List CQ)} {ov gl : Value} {n : Nat} (h : BkIn w Z ov gl [] n wr) : BkOut w Z ov n wr := ⟨h.pend.drop, h.turns, h.ok, h.num, h.le⟩
theorem BkIn.push {w wr w1 w2 : World} {Z : List (Value × List CQ)} {ov gl gl' : Value} {l : List CQ} {n : Nat} {q : CQ} (h : BkIn w Z ov gl l n wr) (hn : n < 40) (h1 : Turns Nothing wr w1) (hq : CQAt w1 w.heap.size q) (hk : RawOk q.1)
    (ho : w2.ownsRow w.heap.size 30 4 gl' (l.length + 1) (cqCells l ++ cqCell q)) (hg : w1.grownBy w2 gl.ownBlock) (hat : gl'.ownBlock = gl.ownBlock ∨ ∃ N, gl'.ownBlock = some N ∧ wr.heap.size ≤ N) :
    BkIn w Z ov gl' (l ++ [q]) (n + 1) w2 := by
  refine ⟨h.pend.pushed h1 hq ho hg hat, (h.turns.same h1).grown hg fun b hb e => ?_, h.ok, fun q' hq' => ?_, ?_, hn⟩
  · have := (h.pend.last.lt b e).1
    omega
  · rcases List.mem_append.1 hq' with hq' | hq'
    · exact h.okl q' hq'
    · rw [List.mem_singleton.1 hq']
      exact hk
  · rw [List.length_append, List.length_singleton, ← h.num]
    omega
theorem BkIn.done {w wr w2 : World} {Z : List (Value × List CQ)} {ov ov' gl : Value} {l : List CQ} {n : Nat} (h : BkIn w Z ov gl l n wr) (hl : l ≠ [])
    (ho : w2.ownsRow w.heap.size 25 1 ov' (Z.length + 1) (Z.map (·.1) ++ [gl])) (hg : wr.grownBy w2 ov.ownBlock) : BkOut w (Z ++ [(gl, l)]) ov' n w2 := by
  refine ⟨h.pend.done ho hg, h.turns.grown hg fun b hb e => ?_, fun z hz => ?_, ?_, h.le⟩
  · have := (h.pend.outer.lt b e).1
    omega
  · rcases List.mem_append.1 hz with hz | hz
    · exact h.ok z hz
    · rw [List.mem_singleton.1 hz]
      exact ⟨hl, h.okl⟩
  · rw [← h.num, total, total, List.map_append, List.sum_append]
    rfl
theorem total_le : ∀ {Z : List (Value × List CQ)}, (∀ z ∈ Z, z.2 ≠ []) → Z.length ≤ total Z ∧ ∀ z ∈ Z, z.2.length ≤ total Z
  | [], _ => ⟨Nat.le_refl _, fun z hz => (List.not_mem_nil hz).elim⟩
  | x :: Z, h => by
    obtain ⟨h1, h2⟩ := total_le (Z := Z) fun z hz => h z (List.mem_cons_of_mem _ hz)
    have e : total (x :: Z) = x.2.length + total Z := rfl
    have hx := List.length_pos_iff.2 (h x (by simp))
    refine ⟨by rw [List.length_cons]; omega, fun z hz => ?_⟩
    rcases List.mem_cons.1 hz with rfl | hz
    · omega
    · have := h2 z hz
      omega
theorem total_plain (Z : List (Value × List CQ)) : ((plainG Z).map (·.length)).sum = total Z := by
  rw [plainG, List.map_map, total]
  congr 1
  exact List.map_congr_left fun z _ => List.length_map _
theorem RawOk.fine {c : Px.Cmd} (h : RawOk c) : Fine c := by
  obtain ⟨r, hr⟩ := Px.right_is h.right
  have := Px.flags_few hr
  exact ⟨⟨by omega, fun f hf => Nat.le_trans (h.fl f hf) (by decide)⟩, ⟨Nat.le_trans h.ar.1 (by decide), fun a ha => Nat.le_trans (h.ar.2 a ha) (by decide)⟩⟩
theorem BkOut.few {w wr : World} {Z : List (Value × List CQ)} {ov : Value} {n : Nat} (h : BkOut w Z ov n wr) : (∀ z ∈ Z, ∀ q ∈ z.2, Fine q.1) ∧ Z.length ≤ 1000 ∧ ∀ z ∈ Z, z.2.length ≤ 1000 := by
  have h1 := total_le fun z hz => (h.ok z hz).1
  have h2 := h.num
  have h3 := h.le
  exact ⟨fun z hz q hq => ((h.ok z hz).2 q hq).fine, by omega, fun z hz => by have := h1.2 z hz; omega⟩
theorem BkOut.plain {w wr : World} {Z : List (Value × List CQ)} {ov : Value} {n : Nat} (h : BkOut w Z ov n wr) : ∀ cs ∈ plainG Z, cs ≠ [] ∧ ∀ c ∈ cs, RawOk c := by
  intro cs hcs
  obtain ⟨z, hz, rfl⟩ := List.mem_map.1 hcs
  refine ⟨by simpa using (h.ok z hz).1, fun c hc => ?_⟩
  obtain ⟨q, hq, rfl⟩ := List.mem_map.1 hc
  exact (h.ok z hz).2 q hq
theorem strip_fine {Z Z' : List (Value × List CQ)} (h : Px.stripG (plainG Z') = Px.stripG (plainG Z)) (hf : (∀ z ∈ Z, ∀ q ∈ z.2, Fine q.1) ∧ Z.length ≤ 1000 ∧ ∀ z ∈ Z, z.2.length ≤ 1000) : (∀ z ∈ Z', ∀ q ∈ z.2, Fine q.1) ∧ Z'.length ≤ 1000 ∧ ∀ z ∈ Z', z.2.length ≤ 1000 := by
  have hl : Z'.length = Z.length := by
    have := congrArg List.length h
    simpa [Px.stripG, plainG] using this
  have each : ∀ z ∈ Z', ∃ y ∈ Z, y.2.map (fun q => Px.strip q.1) = z.2.map (fun q => Px.strip q.1) := fun z hz => by
    have hm : z.2.map (fun q => Px.strip q.1) ∈ Px.stripG (plainG Z) := by
      rw [← h]
      exact List.mem_map.2 ⟨z.2.map (·.1), List.mem_map.2 ⟨z, hz, rfl⟩, by rw [List.map_map]; rfl⟩
    obtain ⟨cs, hcs, e⟩ := List.mem_map.1 hm
    obtain ⟨y, hy, rfl⟩ := List.mem_map.1 hcs
    exact ⟨y, hy, by rw [← e, List.map_map]; rfl⟩
  refine ⟨fun z hz q hq => ?_, by rw [hl]; exact hf.2.1, fun z hz => ?_⟩
  · obtain ⟨y, hy, e⟩ := each z hz
    have hm : Px.strip q.1 ∈ y.2.map (fun q => Px.strip q.1) := by
      rw [e]
      exact List.mem_map.2 ⟨q, hq, rfl⟩
    obtain ⟨q', hq', e'⟩ := List.mem_map.1 hm
    have hfi := hf.1 y hy q' hq'
    simp only [Px.strip, Px.Cmd.mk.injEq] at e'
    have e1 : q'.1.flags = q.1.flags := e'.2.1
    have e2 : q'.1.args = q.1.args := e'.2.2.1
    exact ⟨by rw [← e1]; exact hfi.fl, by rw [← e2]; exact hfi.ar⟩
  · obtain ⟨y, hy, e⟩ := each z hz
    have := congrArg List.length e
    rw [List.length_map, List.length_map] at this
    rw [← this]
    exact hf.2.2 y hy
/-- what is written is read again -/
theorem back_facts {G : List (List Px.Cmd)} (hok : ∀ cs ∈ G, cs ≠ [] ∧ ∀ c ∈ cs, RawOk c) (hn : (G.map (·.length)).sum ≤ 40) (hl : (Px.print G).length ≤ 65536) :
    ∃ L G', Lx.split [] (Px.print G) = .ok L ∧ Fit L ∧ NoDir (L.map Px.ofLn) [] ∧ Px.parse nilX [] (Px.print G) = .ok G' ∧ Px.stripG G' = Px.stripG G ∧ Px.print G' = Px.print G := by
  have hs : ∀ cs ∈ G, ∀ c ∈ cs, Lx.Small (Px.wordsOf c) := fun cs hcs c hc => by
    have := (hok cs hcs).2 c hc
    exact Px.small_words this.right this.fl this.ar
  obtain ⟨L, G', h1, h2, h3, h4, h5⟩ := Px.parse_print (X := nilX) (fun cs hcs => ⟨(hok cs hcs).1, fun c hc => ((hok cs hcs).2 c hc).right⟩) hs (by omega) hl
  obtain ⟨h6, h7⟩ := Px.glines_all h2 rfl
  refine ⟨L, G', h1, ⟨by omega, fun l hm => ?_⟩, ⟨rfl, fun l hm => ?_⟩, h3, h4, h5⟩
  · obtain ⟨cs, hcs, c, hc, e, -⟩ := h6 l hm
    obtain ⟨s1, s2, s3⟩ := hs cs hcs c hc
    rw [← e, List.length_map] at s3
    refine ⟨fun e0 => s1 (by rw [← e, e0]; rfl), s3, fun x hx => Nat.le_trans (s2 x.text (by rw [← e]; exact List.mem_map.2 ⟨x, hx, rfl⟩)) (by decide)⟩
  · obtain ⟨l', hl', rfl⟩ := List.mem_map.1 hm
    obtain ⟨cs, hcs, c, hc, e, hb⟩ := h6 l' hl'
    refine (Px.words_back ((hok cs hcs).2 c hc).right (l := (Px.ofLn l').1) (by rw [Px.ofLn_texts]; exact e) fun x hx => ?_).1
    simp only [Px.ofLn] at hx
    obtain ⟨y, hy, rfl⟩ := List.mem_map.1 hx
    exact hb y hy
end Go.Proofs.YtodcmeakgcgjfaaGreatDoor
