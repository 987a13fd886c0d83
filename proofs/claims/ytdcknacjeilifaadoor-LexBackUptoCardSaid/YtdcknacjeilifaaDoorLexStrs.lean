/- What an argument of strings of small bulk is, in cells. -/
import Derived.Test.YtdcknacjeilifaaDoorLexOpen
import Derived.Test.YtdcknacjeilifaaDoorLexQuotes
import Derived.Deep.Strs
namespace Go.Proofs.YtdcknacjeilifaaDoor
open Go.ChangeShapes Go.WideShapes Go.ChangeAt Go.RowKit Go.Deep

theorem bulk_cost {H : Type} : ∀ ls : List ByteArray, Lx.cost (ls.map sl) ≤ 3 * Rows.uptoBulkAll (ls.map fun s => (DataW.lit (.string s.data.toList) : DataW H))
  | [] => by simp [Lx.cost, Rows.uptoBulkAll]
  | s :: ls => by
    have h := bulk_cost (H := H) ls
    have e : (sl s).length = s.data.toList.length := rfl
    simp only [Lx.cost, List.map_cons, List.sum_cons, Rows.uptoBulkAll, Rows.uptoBulk] at h ⊢
    omega
theorem strs_open {H : Type} {enc : TypeId × Value → H} {W : World} {v : Value} {d : DataW H} {p : List MemPlace} (hval : Value.okWide Tryd.prog W .any 0 33 v)
    (h : DataW.Trod enc Tryd.prog W 0 (fun _ => true) true 33 v d p) (hw : Rows.uptoBulk d ≤ 1048576) : ∃ ls, StrsAt W W.heap.size v ls := by
  obtain ⟨fuel, hf⟩ := h
  obtain ⟨A, n', c, rfl⟩ := okWide_slice Tryd.underlying33 hval
  rcases open_strs Tryd.underlying33 Tryd.underlying9 (by kernel_rfl) hf with ⟨hcs, -⟩ | ⟨a, len, cap, m, Sx, hcs, hb, hl, hm, rfl, hx, hi⟩
  · simp [Value.cells] at hcs
    obtain ⟨rfl, rfl, rfl⟩ := hcs
    exact ⟨[], ⟨_, _, rfl, fun h => absurd h (by decide)⟩, by decide⟩
  · simp [Value.cells] at hcs
    obtain ⟨rfl, rfl, rfl⟩ := hcs
    simp only [Prod.mk.injEq] at hi hx
    obtain ⟨rfl, -⟩ := hx
    have hbulk := bulk_cost (H := H) ((List.range n').map Sx)
    have e : ((List.range n').map Sx).map (fun s => (DataW.lit (.string s.data.toList) : DataW H)) = (List.range n').map fun i => .lit (.string (Sx i).data.toList) := by
      rw [List.map_map]; rfl
    rw [e] at hbulk
    simp only [Rows.uptoBulk] at hw
    refine ⟨(List.range n').map Sx, ⟨some a, c, by rw [List.length_map, List.length_range], fun hpos => ?_⟩, by omega⟩
    rw [List.length_map, List.length_range] at hpos
    have hi : ∀ i, i < c → W.cell? (a.add i) = some (.string (Sx i)) := fun i h => (hi i (by simpa using h)).1
    have hz := hi 0 (by omega)
    obtain ⟨b, off, sp⟩ := a
    have hsp : sp = none := by
      cases sp with
      | none => rfl
      | some k => simp [Addr.add, World.cell?] at hz; split at hz <;> simp at hz
    subst hsp
    refine ⟨b, off, rfl, ?_, fun i h => ?_⟩
    · simp only [Addr.add_lit] at hz
      unfold World.cell? at hz
      split at hz
      · rename_i hh; exact (Array.getElem?_eq_some_iff.1 hh).1
      · cases hz
    · rw [List.length_map, List.length_range] at h
      have := hi i (by omega)
      rw [Addr.add_lit] at this
      rw [this]
      simp
end Go.Proofs.YtdcknacjeilifaaDoor
