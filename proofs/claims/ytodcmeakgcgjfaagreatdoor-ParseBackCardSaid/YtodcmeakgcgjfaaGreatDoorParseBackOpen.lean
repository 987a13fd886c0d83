/- The closed facts of the row of ParseBack, one by one. The argument of ParseBack: a slice of slices of raw commands, opened to cells. The start of chapter 12's rows: the listed variables laid by the kit's function; what the condition gives the walks: the library's table of white space. -/
import Derived.Test.YtodcmeakgcgjfaaGreatDoorTie
import Derived.Test.YtodcmeakgcgjfaaGreatDoorCards
import Derived.JoinedOf
import Derived.Test.YtodcmeakgcgjfaaGreatDoorParseArgs
import Derived.WalkKit
import Derived.ProofKit
import Derived.OpenShut
import Derived.Deep.Slices
import Derived.Deep.Fields
import Derived.Deep.Strs
import Derived.Test.YtodcmeakgcgjfaaGreatDoorParseMem
import Derived.LaidMore
import Derived.Lay
import Derived.SevenTiedAt
import Derived.Stop.Joined
import Derived.Stop.LaidErr
import Derived.Lib.LaidTab
namespace Go.Proofs.YtodcmeakgcgjfaaGreatDoor
set_option maxRecDepth 100000 in
set_option maxHeartbeats 400000000 in
theorem back_row_facts : joinedFacts Tryz.prog 3 Tryz.f3 Rows.parseBackSpec Rows.parseBackRow = true := by
  unfold joinedFacts
  simp only [Bool.and_eq_true]
  repeat' (refine And.intro ?_ ?_)
  all_goals (as_aux_lemma => kernel_rfl)
end Go.Proofs.YtodcmeakgcgjfaaGreatDoor
namespace Go.Proofs.YtodcmeakgcgjfaaGreatDoor
set_option maxRecDepth 100000
open Go.ChangeShapes Go.WideShapes Go.ChangeAt Go.RowKit Go.Deep

theorem rchosen {α : Type} (P : Nat → α → Prop) : ∀ n, (∀ i, i < n → ∃ x, P i x) → ∃ l : List α, l.length = n ∧ ∀ i (h : i < l.length), P i l[i]
  | 0, _ => ⟨[], rfl, fun i h => absurd h (by simp)⟩
  | n + 1, h => by
    obtain ⟨l, hl, hp⟩ := rchosen P n fun i hi => h i (by omega)
    obtain ⟨x, hx⟩ := h n (by omega)
    refine ⟨l ++ [x], by simp [hl], fun i hi => ?_⟩
    by_cases hlt : i < l.length
    · rw [List.getElem_append_left hlt]; exact hp i hlt
    · have : i = l.length := by simp at hi; omega
      subst this
      simpa [hl] using hx
theorem addr_plain {W : World} {a : Addr} {i : Nat} {v : Value} (h0 : i = 0) (hz : W.cell? (a.add i) = some v) : ∃ b off, a = ⟨b, off, none⟩ ∧ b < W.heap.size := by
  subst h0
  obtain ⟨b, off, sp⟩ := a
  have hsp : sp = none := by
    cases sp with
    | none => rfl
    | some k => simp [Addr.add, World.cell?] at hz; split at hz <;> simp at hz
  subst hsp
  refine ⟨b, off, rfl, ?_⟩
  simp only [Addr.add_lit] at hz
  unfold World.cell? at hz
  split at hz
  · rename_i hh; exact (Array.getElem?_eq_some_iff.1 hh).1
  · cases hz
section
variable {H : Type} {enc : TypeId × Value → H} {W : World}
theorem strs_in {fuel : Nat} {v : Value} {x : DataW H × List MemPlace} (h : DataW.trod enc Tryz.prog W 0 (fun _ => true) true fuel 28 [v] = some x) : ∃ ls, StrsIn W v ls := by
  rcases open_strs Tryz.underlying28 Tryz.underlying9 (by kernel_rfl) h with ⟨hcs, -⟩ | ⟨a, len, cap, m, Sx, hcs, hb, hl, hc, hm, hx, hi⟩
  · injection hcs with hcs
    subst hcs
    exact ⟨[], ⟨_, _, rfl, fun h => absurd h (by decide)⟩, by decide⟩
  · injection hcs with hcs
    subst hcs
    have hlm : len ≤ m := by rw [hm]; split <;> omega
    refine ⟨(List.range len).map Sx, ⟨some a, cap, by rw [List.length_map, List.length_range], fun hpos => ?_⟩, by rw [List.length_map, List.length_range]; unfold maxLen at hc; omega⟩
    rw [List.length_map, List.length_range] at hpos
    obtain ⟨b, off, rfl, hlt⟩ := addr_plain rfl (hi 0 (by omega)).1
    refine ⟨b, off, rfl, hlt, fun i h => ?_⟩
    rw [List.length_map, List.length_range] at h
    have := (hi i (by omega)).1
    rw [Addr.add_lit] at this
    rw [this]
    simp
theorem raw_open {fuel : Nat} {cs : List Value} {x : DataW H × List MemPlace} (h : DataW.trod enc Tryz.prog W 0 (fun _ => true) true fuel 33 cs = some x) :
    ∃ q : RawQ, cs = [.int .i64 q.of_, .int .i64 q.bits, q.vv, q.av] ∧ RawIn W q := by
  obtain ⟨ys, k, -, -, hlen, hyl, hf⟩ := DataW.trod_struct Tryz.underlying33 h
  have hC : Tryz.prog.cellsOf 33 = 4 := by kernel_rfl
  have hI : Tryz.prog.cellsOf 3 = 1 := by kernel_rfl
  have hS : Tryz.prog.cellsOf 28 = 1 := by kernel_rfl
  rw [hC] at hlen
  match cs, hlen, ys, hyl with
  | [c0, c1, c2, c3], _, [y0, y1, y2, y3], _ =>
    have h0 : DataW.trod enc Tryz.prog W 0 (fun _ => true) true k 3 (([c0, c1, c2, c3].drop 0).take (Tryz.prog.cellsOf 3)) = some y0 := hf 0 _ rfl
    have h1 : DataW.trod enc Tryz.prog W 0 (fun _ => true) true k 3 (([c0, c1, c2, c3].drop 1).take (Tryz.prog.cellsOf 3)) = some y1 := hf 1 _ rfl
    have h2 : DataW.trod enc Tryz.prog W 0 (fun _ => true) true k 28 (([c0, c1, c2, c3].drop 2).take (Tryz.prog.cellsOf 28)) = some y2 := hf 2 _ rfl
    have h3 : DataW.trod enc Tryz.prog W 0 (fun _ => true) true k 28 (([c0, c1, c2, c3].drop 3).take (Tryz.prog.cellsOf 28)) = some y3 := hf 3 _ rfl
    rw [hI] at h0 h1
    rw [hS] at h2 h3
    simp only [List.drop_zero, List.drop_succ_cons, List.take_succ_cons, List.take_zero] at h0 h1 h2 h3
    obtain ⟨n0, e0, -, w0⟩ := DataW.trod_int Tryz.underlying3 h0
    obtain ⟨n1, e1, -, w1⟩ := DataW.trod_int Tryz.underlying3 h1
    obtain ⟨vs, hv⟩ := strs_in h2
    obtain ⟨as_, ha⟩ := strs_in h3
    injection e0 with e0
    injection e1 with e1
    subst e0 e1
    simp only [Lit.wf, Bool.and_eq_true, decide_eq_true_eq] at w0 w1
    rw [show IntKind.i64.min = -9223372036854775808 by decide, show IntKind.i64.max = 9223372036854775807 by decide] at w0 w1
    exact ⟨⟨n0, n1, c2, c3, vs, as_⟩, rfl, ⟨w0, w1, hv, ha⟩⟩
theorem row_open {fuel : Nat} {v : Value} {x : DataW H × List MemPlace} (h : DataW.trod enc Tryz.prog W 0 (fun _ => true) true fuel 26 [v] = some x) : ∃ l, RawRow W v l := by
  have hC : Tryz.prog.cellsOf 33 = 4 := by kernel_rfl
  rcases open_slice Tryz.underlying26 h with ⟨hcs, -⟩ | ⟨a, len, cap, m, n, D, Pl, hcs, hb, hl, hc, hm, -, hx⟩
  · injection hcs with hcs
    subst hcs
    exact ⟨[], ⟨_, _, rfl, fun h => absurd h (by decide)⟩, by decide, fun q hq => (List.not_mem_nil hq).elim⟩
  · injection hcs with hcs
    subst hcs
    have hlm : len ≤ m := by rw [hm]; split <;> omega
    rw [hC] at hx
    have heach : ∀ i, i < len → ∃ q : RawQ, (W.cell? (a.add (i * 4)) = some (.int .i64 q.of_) ∧ W.cell? (a.add (i * 4 + 1)) = some (.int .i64 q.bits) ∧ W.cell? (a.add (i * 4 + 2)) = some q.vv ∧ W.cell? (a.add (i * 4 + 3)) = some q.av) ∧ RawIn W q := by
      intro i hi
      obtain ⟨cs', h1, h2⟩ := hx i (by omega)
      obtain ⟨q, rfl, hq⟩ := raw_open h2
      obtain ⟨-, -, hat⟩ := World.cells?_some h1
      have a0 := hat 0 (by decide)
      have a1 := hat 1 (by decide)
      have a2 := hat 2 (by decide)
      have a3 := hat 3 (by decide)
      rw [Go.Deep.add_add] at a0 a1 a2 a3
      exact ⟨q, ⟨a0, a1, a2, a3⟩, hq⟩
    obtain ⟨l, hll, hl2⟩ := rchosen _ len heach
    subst hll
    refine ⟨l, ⟨some a, cap, rfl, fun hpos => ?_⟩, by unfold maxLen at hc; omega, fun q hq => ?_⟩
    · obtain ⟨b, off, rfl, hlt⟩ := addr_plain rfl (hl2 0 hpos).1.1
      refine ⟨b, off, rfl, hlt, fun i hi => ?_⟩
      have := (hl2 i hi).1
      simp only [Addr.add_lit, ← Nat.add_assoc] at this
      exact this
    · obtain ⟨i, hi, rfl⟩ := List.getElem_of_mem hq
      exact (hl2 i hi).2
theorem raws_open {v : Value} {d : DataW H} {p : List MemPlace} (hval : Value.okWide Tryz.prog W .any 0 22 v) (h : DataW.Trod enc Tryz.prog W 0 (fun _ => true) true 22 v d p) : ∃ ll, RawsAt W v ll := by
  obtain ⟨fuel, hf⟩ := h
  obtain ⟨A, n', c, rfl⟩ := okWide_slice Tryz.underlying22 hval
  rcases open_slice1 Tryz.underlying22 (by kernel_rfl) hf with ⟨hcs, -⟩ | ⟨a, len, cap, m, n, V, D, Pl, hcs, hb, hl, hc, hm, -, hx⟩
  · simp [Value.cells] at hcs
    obtain ⟨rfl, rfl, rfl⟩ := hcs
    exact ⟨[], ⟨_, _, rfl, fun h => absurd h (by decide)⟩, by decide, fun q hq => (List.not_mem_nil hq).elim⟩
  · simp [Value.cells] at hcs
    obtain ⟨rfl, rfl, rfl⟩ := hcs
    have hlm : n' ≤ m := by rw [hm]; split <;> omega
    have heach : ∀ i, i < n' → ∃ z : Value × List RawQ, W.cell? (a.add i) = some z.1 ∧ RawRow W z.1 z.2 := by
      intro i hi
      obtain ⟨h1, h2⟩ := hx i (by omega)
      obtain ⟨l, hl⟩ := row_open h2
      exact ⟨(V i, l), h1, hl⟩
    obtain ⟨l, hll, hl2⟩ := rchosen _ n' heach
    subst hll
    refine ⟨l, ⟨some a, c, rfl, fun hpos => ?_⟩, by unfold maxLen at hc; omega, fun q hq => ?_⟩
    · obtain ⟨b, off, rfl, hlt⟩ := addr_plain rfl (hl2 0 hpos).1
      refine ⟨b, off, rfl, hlt, fun i hi => ?_⟩
      have := (hl2 i hi).1
      rw [Addr.add_lit] at this
      exact this
    · obtain ⟨i, hi, rfl⟩ := List.getElem_of_mem hq
      exact (hl2 i hi).2
end
end Go.Proofs.YtodcmeakgcgjfaaGreatDoor
namespace Go.Proofs.YtodcmeakgcgjfaaGreatDoor
open Go.ChangeShapes Go.WideShapes Go.ChangeAt Go.RowKit

theorem own : ownKnob Tryz.prog.godebug = none := by kernel_rfl
theorem laidOut : laidOutB Tryz.prog = true := by kernel_rfl
/-- the variables that the rows list -/
abbrev listed : List (String × DataW Unit) := Rows.parseBackRow.laid
set_option maxRecDepth 100000 in
theorem start_shaped (os : Os) (args : Array Value) : ((World.laidAll Tryz.prog os listed).forCall (fun _ _ => 0) ⟨#[], args, []⟩).Shaped Tryz.prog := World.shaped_of_ZipB (by kernel_rfl) (by kernel_rfl)
set_option maxRecDepth 100000 in
theorem listed_plain : (listed.all fun x => x.2.handleName?.isNone) = true := by kernel_rfl
set_option maxRecDepth 100000 in
theorem start_met (os : Os) (args : Array Value) : laidMet Tryz.prog listed ((World.laidAll Tryz.prog os listed).forCall (fun _ _ => 0) ⟨#[], args, []⟩).memory := laidMet_laidAll _ (by kernel_rfl) (by kernel_rfl)
theorem laidMet.drop {P : Program} {w : World} : ∀ (k : Nat) {l : List (String × DataW Unit)}, laidMet P l w → laidMet P (l.drop k) w
  | 0, _, h => h
  | _ + 1, [], h => h
  | k + 1, _ :: _, h => laidMet.drop k (Go.laidMet.tail h)
theorem gSpace : Tryz.prog.globalNamed "strings.asciiSpace" = some 0 := by kernel_rfl
set_option maxRecDepth 100000 in
theorem space_data : (Rows.laid_strings_asciiSpace : DataW Unit) = Lib.tabData .u8 Lib.asciiSpaceTab := by kernel_rfl
theorem space_of_laid {W : World} (h : laidMet Tryz.prog listed W) : Space W := by
  have h1 := laidMet.drop 13 h
  have e : listed.drop 13 = ("strings.asciiSpace", Lib.tabData .u8 Lib.asciiSpaceTab) :: listed.drop 14 := by rw [← space_data]; rfl
  rw [e] at h1
  exact Lib.tabIs_of_head gSpace (show (Tryz.prog.globals[0]?).map (·.type) = some 142 by kernel_rfl) Tryz.underlying142 Tryz.underlying5 (by kernel_rfl) (by kernel_rfl) h1
end Go.Proofs.YtodcmeakgcgjfaaGreatDoor
