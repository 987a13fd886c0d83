/- The environment of a law's call: a slice of pairs of strings, opened to cells; and that whole values are kept. -/
import Derived.Test.YtdcknacjeilifaaDoorLexShown
import Derived.Test.YtdcknacjeilifaaDoorTie
import Derived.Test.YtdcknacjeilifaaDoorCards
import Derived.WalkKit
import Derived.ProofKit
import Derived.OpenShut
import Derived.Deep.Slices
import Derived.Deep.Fields
import Derived.Deep.DeepHandedRow
import Derived.Deep.DeepLaidRun
import Derived.Lib.LaidTab
namespace Go.Proofs.YtdcknacjeilifaaDoor
open Go.ChangeShapes Go.WideShapes Go.ChangeAt Go.RowKit Go.Deep

/-- choosing, place by place -/
theorem chosen {α : Type} (P : Nat → α → Prop) : ∀ n, (∀ i, i < n → ∃ x, P i x) → ∃ l : List α, l.length = n ∧ ∀ i (h : i < l.length), P i l[i]
  | 0, _ => ⟨[], rfl, fun i h => absurd h (by simp)⟩
  | n + 1, h => by
    obtain ⟨l, hl, hp⟩ := chosen P n fun i hi => h i (by omega)
    obtain ⟨x, hx⟩ := h n (by omega)
    refine ⟨l ++ [x], by simp [hl], fun i hi => ?_⟩
    by_cases hlt : i < l.length
    · rw [List.getElem_append_left hlt]; exact hp i hlt
    · have : i = l.length := by simp at hi; omega
      subst this
      simpa [hl] using hx

theorem weights_mem {H : Type} {P : Program} {e : TypeId} {d : DataW H} : ∀ {l : List (DataW H)}, d ∈ l → ∀ k ∈ DataW.weights P e d, k ∈ DataW.weightsAll P e l
  | [], h, _, _ => by cases h
  | x :: l, h, k, hk => by
    rw [DataW.weightsAll, List.mem_append]
    rcases List.mem_cons.1 h with rfl | h
    · exact .inl hk
    · exact .inr (weights_mem h k hk)

section
variable {H : Type} {enc : TypeId × Value → H} {W : World}
theorem env_open {v : Value} {d : DataW H} {p : List MemPlace} (hval : Value.okWide Tryd.prog W .any 0 22 v) (h : DataW.Trod enc Tryd.prog W 0 (fun _ => true) true 22 v d p)
    (hw : ∀ k ∈ DataW.weights Tryd.prog 22 d, k ≤ reachBytes) (hlt : ∀ x ∈ p, x.block < W.heap.size) : ∃ es, EnvAt W W.heap.size v es := by
  obtain ⟨fuel, hf⟩ := h
  have hC : Tryd.prog.cellsOf 41 = 2 := by kernel_rfl
  rcases open_slice Tryd.underlying22 hf with ⟨hcs, -⟩ | ⟨a, len, cap, m, n, D, Pl, hcs, hb, hl, hm, rfl, hx, hi⟩
  · obtain ⟨A, n, c, rfl⟩ := okWide_slice Tryd.underlying22 hval
    simp [Value.cells] at hcs
    obtain ⟨rfl, rfl, rfl⟩ := hcs
    exact ⟨[], no_env _ _⟩
  · obtain ⟨A, n', c, rfl⟩ := okWide_slice Tryd.underlying22 hval
    simp [Value.cells] at hcs
    obtain ⟨rfl, rfl, rfl⟩ := hcs
    rw [hC] at hx
    simp only [Prod.mk.injEq] at hi hx
    obtain ⟨rfl, rfl⟩ := hx
    have hpair : ∀ i, i < n' → ∃ q : ByteArray × ByteArray, (W.cell? (a.add (i * 2)) = some (.string q.1) ∧ W.cell? (a.add (i * 2 + 1)) = some (.string q.2)) ∧ q.1.size ≤ strMost ∧ q.2.size ≤ strMost := by
      intro i hin
      obtain ⟨cs', hc, ht'⟩ := hi i (by omega)
      rw [hC] at hc
      obtain ⟨ys, k, -, hy, hlen, hyl, hf⟩ := DataW.trod_struct Tryd.underlying41 ht'
      obtain ⟨-, hcl, hat⟩ := World.cells?_some hc
      have hS : Tryd.prog.cellsOf 9 = 1 := by kernel_rfl
      match cs', hcl, ys, hyl with
      | [c0, c1], _, [y0, y1], _ =>
        have h0 : DataW.trod enc Tryd.prog W 0 (fun _ => true) true k 9 (([c0, c1].drop 0).take (Tryd.prog.cellsOf 9)) = some y0 := hf 0 _ rfl
        have h1 : DataW.trod enc Tryd.prog W 0 (fun _ => true) true k 9 (([c0, c1].drop 1).take (Tryd.prog.cellsOf 9)) = some y1 := hf 1 _ rfl
        rw [hS] at h0 h1
        simp only [List.drop_zero, List.drop_succ_cons, List.take_succ_cons, List.take_zero] at h0 h1
        obtain ⟨s0, e0, hy0, -⟩ := DataW.trod_string Tryd.underlying9 h0
        obtain ⟨s1, e1, hy1, -⟩ := DataW.trod_string Tryd.underlying9 h1
        have a0 := hat 0 (by decide)
        have a1 := hat 1 (by decide)
        rw [Go.Deep.add_add] at a0 a1
        simp only [List.cons.injEq, and_true] at e0 e1
        subst e0 e1 hy0 hy1
        have hD : D i = .agg [.lit (.string s0.data.toList), .lit (.string s1.data.toList)] := by
          have := congrArg Prod.fst hy
          simpa using this
        have hmem : D i ∈ (List.range n').map D := List.mem_map.2 ⟨i, List.mem_range.2 hin, rfl⟩
        have hin2 : ∀ k ∈ DataW.weights Tryd.prog 41 (D i), k ≤ reachBytes := by
          intro k hk
          refine hw k ?_
          rw [DataW.weights, Tryd.underlying22]
          exact List.mem_cons_of_mem _ (List.mem_append_left _ (weights_mem hmem k hk))
        rw [hD, DataW.weights, Tryd.underlying41] at hin2
        simp only [List.map_cons, List.map_nil, DataW.weightsEach, DataW.weights, List.mem_append, List.mem_singleton, List.append_nil, forall_eq_or_imp, forall_eq, reachBytes, Array.length_toList] at hin2
        exact ⟨(s0, s1), ⟨a0, a1⟩, by unfold strMost; show Array.size _ ≤ _; omega, by unfold strMost; show Array.size _ ≤ _; omega⟩
    obtain ⟨es, hel, hes⟩ := chosen _ n' hpair
    subst hel
    refine ⟨es, ⟨_, _, rfl, fun hpos => ?_⟩, by omega, fun q hq => ?_⟩
    · have hz := (hes 0 hpos).1.1
      obtain ⟨b, off, sp⟩ := a
      have hsp : sp = none := by
        cases sp with
        | none => rfl
        | some k => simp [Addr.add, World.cell?] at hz; split at hz <;> simp at hz
      subst hsp
      refine ⟨b, off, rfl, ?_, fun i hi => ?_⟩
      · simp only [Addr.add_lit] at hz
        unfold World.cell? at hz
        split at hz
        · rename_i hh; exact (Array.getElem?_eq_some_iff.1 hh).1
        · cases hz
      · have := (hes i hi).1
        simp only [Addr.add_lit] at this
        rw [← Nat.add_assoc] at this
        exact this
    · obtain ⟨i, hi, rfl⟩ := List.getElem_of_mem hq
      exact (hes i hi).2
end

/- a world for the witness: the settled one, the two tables holding what their initialisers lay -/
def flat1 : DataW Unit → List Value
  | .lit (.int k n) => [.int k n]
  | _ => []
def flat2 : DataW Unit → List Value
  | .agg l => l.flatMap flat1
  | d => flat1 d
def flat3 : DataW Unit → List Value
  | .agg l => l.flatMap flat2
  | d => flat1 d
def layCells (l : List Value) : Obj → Obj
  | .cells _ t frozen => .cells l.toArray t frozen
  | o => o
noncomputable def laidWorld (os : Os) : World :=
  { World.holding Tryd.prog os ⟨#[], #[], []⟩ with heap := ((World.holding Tryd.prog os ⟨#[], #[], []⟩).heap.modify 1 (layCells (flat3 Rows.laid_unicode_utf8_first))).modify 2 (layCells (flat3 Rows.laid_unicode_utf8_acceptRanges)) }
set_option maxRecDepth 100000 in
theorem laid_met (os : Os) (args : Array Value) : laidMet Tryd.prog Rows.lexRemarksRow.laid ((laidWorld os).forCall (fun _ _ => 0) ⟨#[], args, []⟩).memory :=
  laidMet_of_run3 8 (by kernel_rfl) (by kernel_rfl) (by kernel_rfl)
theorem own : ownKnob Tryd.prog.godebug = none := by kernel_rfl
theorem laidOut : laidOutB Tryd.prog = true := by kernel_rfl
end Go.Proofs.YtdcknacjeilifaaDoor
