/- An argument of words, opened to cells. The start of the row of ParseWords: the listed variables laid by the kit's function; what the condition gives the walks. -/
import Derived.Test.YtedlhdegdlabhaaGreatDoorTie
import Derived.Test.YtedlhdegdlabhaaGreatDoorCards
import Derived.WalkKit
import Derived.ProofKit
import Derived.OpenShut
import Derived.Deep.Slices
import Derived.Deep.Fields
import Derived.Deep.Strs
import Derived.Test.YtedlhdegdlabhaaGreatDoorParseMem
import Derived.LaidMore
import Derived.Lay
import Derived.SevenTiedAt
import Derived.Stop.Joined
import Derived.Stop.LaidErr
import Derived.Lib.LaidTab
import Derived.JoinedCond
import Derived.ChangeArms
namespace Go.Proofs.YtedlhdegdlabhaaGreatDoor
set_option maxRecDepth 100000
open Go.ChangeShapes Go.WideShapes Go.ChangeAt Go.RowKit Go.Deep
open Lx (Bytes)

theorem pchosen {α : Type} (P : Nat → α → Prop) : ∀ n, (∀ i, i < n → ∃ x, P i x) → ∃ l : List α, l.length = n ∧ ∀ i (h : i < l.length), P i l[i]
  | 0, _ => ⟨[], rfl, fun i h => absurd h (by simp)⟩
  | n + 1, h => by
    obtain ⟨l, hl, hp⟩ := pchosen P n fun i hi => h i (by omega)
    obtain ⟨x, hx⟩ := h n (by omega)
    refine ⟨l ++ [x], by simp [hl], fun i hi => ?_⟩
    by_cases hlt : i < l.length
    · rw [List.getElem_append_left hlt]; exact hp i hlt
    · have : i = l.length := by simp at hi; omega
      subst this
      simpa [hl] using hx
theorem paddr_plain {W : World} {a : Addr} {i : Nat} {v : Value} (h0 : i = 0) (hz : W.cell? (a.add i) = some v) : ∃ b off, a = ⟨b, off, none⟩ ∧ b < W.heap.size := by
  subst h0
  obtain ⟨b, off, sp⟩ := a
  have hsp : sp = none := by
    cases sp with
    | none => rfl
    | some k => simp [Addr.add, World.cell?] at hz; split at hz <;> simp at hz
  subst hsp
  refine ⟨b, off, rfl, ?_⟩
  simp only [Addr.add_lit] at hz
  unfold World.cell? at hz
  split at hz
  · rename_i hh; exact (Array.getElem?_eq_some_iff.1 hh).1
  · cases hz
theorem bulk_from {H α : Type} (g : α → Nat) (D : Nat → DataW H) : ∀ (l : List α) (s : Nat), (∀ i (hi : i < l.length), g l[i] ≤ Rows.uptoBulk (D (s + i))) → (l.map g).sum ≤ Rows.uptoBulkAll ((List.range' s l.length).map D)
  | [], _, _ => Nat.zero_le _
  | x :: l, s, h => by
    have h0 : g x ≤ Rows.uptoBulk (D s) := h 0 (by simp)
    have ih := bulk_from g D l (s + 1) fun i hi => by
      have := h (i + 1) (by simpa using hi)
      rw [show s + 1 + i = s + (i + 1) by omega]
      simpa using this
    rw [List.length_cons, List.range'_succ, List.map_cons, List.map_cons, List.sum_cons, Rows.uptoBulkAll]
    omega
theorem bulk_sum {H α : Type} (g : α → Nat) (D : Nat → DataW H) (l : List α) (h : ∀ i (hi : i < l.length), g l[i] ≤ Rows.uptoBulk (D i)) : (l.map g).sum ≤ Rows.uptoBulkAll ((List.range l.length).map D) := by
  rw [List.range_eq_range']
  exact bulk_from g D l 0 fun i hi => by rw [Nat.zero_add]; exact h i hi
section
variable {H : Type} {enc : TypeId × Value → H} {W : World}
theorem word_open {fuel : Nat} {cs : List Value} {x : DataW H × List MemPlace} (h : DataW.trod enc Tryz.prog W 0 (fun _ => true) true fuel 53 cs = some x) :
    ∃ q : Px.PW, cs = [strV q.text, .int .i64 q.line, .bool q.block] ∧ q.text.length + 1 ≤ Rows.uptoBulk x.1 := by
  obtain ⟨ys, k, -, hx, hlen, hyl, hf⟩ := DataW.trod_struct Tryz.underlying53 h
  have hC : Tryz.prog.cellsOf 53 = 3 := by kernel_rfl
  have hI : Tryz.prog.cellsOf 3 = 1 := by kernel_rfl
  have hS : Tryz.prog.cellsOf 9 = 1 := by kernel_rfl
  have hB : Tryz.prog.cellsOf 4 = 1 := by kernel_rfl
  rw [hC] at hlen
  match cs, hlen, ys, hyl with
  | [c0, c1, c2], _, [y0, y1, y2], _ =>
    have h0 : DataW.trod enc Tryz.prog W 0 (fun _ => true) true k 9 (([c0, c1, c2].drop 0).take (Tryz.prog.cellsOf 9)) = some y0 := hf 0 _ rfl
    have h1 : DataW.trod enc Tryz.prog W 0 (fun _ => true) true k 3 (([c0, c1, c2].drop 1).take (Tryz.prog.cellsOf 3)) = some y1 := hf 1 _ rfl
    have h2 : DataW.trod enc Tryz.prog W 0 (fun _ => true) true k 4 (([c0, c1, c2].drop 2).take (Tryz.prog.cellsOf 4)) = some y2 := hf 2 _ rfl
    rw [hS] at h0
    rw [hI] at h1
    rw [hB] at h2
    simp only [List.drop_zero, List.drop_succ_cons, List.take_succ_cons, List.take_zero] at h0 h1 h2
    obtain ⟨s0, e0, hy0, -⟩ := DataW.trod_string Tryz.underlying9 h0
    obtain ⟨n1, e1, hy1, -⟩ := DataW.trod_int Tryz.underlying3 h1
    obtain ⟨b2, e2, hy2⟩ := DataW.trod_bool Tryz.underlying4 h2
    injection e0 with e0
    injection e1 with e1
    injection e2 with e2
    subst e0 e1 e2 hy0 hy1 hy2 hx
    refine ⟨⟨sl s0, n1, b2⟩, rfl, ?_⟩
    simp only [List.map_cons, List.map_nil, Rows.uptoBulk, Rows.uptoBulkAll]
    show s0.data.toList.length + 1 ≤ _
    omega
theorem words_open {base : Nat} {v : Value} {d : DataW H} {p : List MemPlace} (hval : Value.okWide Tryz.prog W .any base 22 v) (h : DataW.Trod enc Tryz.prog W 0 (fun _ => true) true 22 v d p) (hb : Rows.uptoBulk d ≤ 1048576) :
    ∃ l : List Px.PW, PWordsAt W v l ∧ l.length ≤ 1048576 := by
  have hC : Tryz.prog.cellsOf 53 = 3 := by kernel_rfl
  obtain ⟨fuel, hf⟩ := h
  obtain ⟨A, n', c, rfl⟩ := okWide_slice Tryz.underlying22 hval
  rcases open_slice Tryz.underlying22 hf with ⟨hcs, -⟩ | ⟨a, len, cap, m, n, D, Pl, hcs, hb0, hl, hc, hm, hx, hi⟩
  · simp [Value.cells] at hcs
    obtain ⟨rfl, rfl, rfl⟩ := hcs
    exact ⟨[], ⟨⟨_, _, rfl, Nat.le_refl _, Nat.zero_le _, fun i h => absurd h (Nat.not_lt_zero i)⟩, fun q hq => (List.not_mem_nil hq).elim⟩, Nat.zero_le _⟩
  · simp [Value.cells] at hcs
    obtain ⟨rfl, rfl, rfl⟩ := hcs
    simp only [Prod.mk.injEq] at hx
    obtain ⟨rfl, -⟩ := hx
    have hlm : n' ≤ m := by rw [hm]; split <;> omega
    rw [hC] at hi
    have heach : ∀ i, i < n' → ∃ q : Px.PW, (W.cell? (a.add (i * 3)) = some (strV q.text) ∧ W.cell? (a.add (i * 3 + 1)) = some (.int .i64 q.line) ∧ W.cell? (a.add (i * 3 + 2)) = some (.bool q.block)) ∧ q.text.length + 1 ≤ Rows.uptoBulk (D i) := by
      intro i hin
      obtain ⟨cs', h1, h2⟩ := hi i (by omega)
      obtain ⟨q, rfl, hq⟩ := word_open h2
      obtain ⟨-, -, hat⟩ := World.cells?_some h1
      have a0 := hat 0 (by decide)
      have a1 := hat 1 (by decide)
      have a2 := hat 2 (by decide)
      rw [Go.Deep.add_add] at a0 a1 a2
      exact ⟨q, ⟨a0, a1, a2⟩, hq⟩
    obtain ⟨l, hll, hl2⟩ := pchosen _ n' heach
    subst hll
    have hsum := bulk_sum (fun q : Px.PW => q.text.length + 1) D l fun i hin => (hl2 i hin).2
    have hlen : l.length ≤ (l.map fun q : Px.PW => q.text.length + 1).sum := by
      have : ∀ l : List Px.PW, l.length ≤ (l.map fun q : Px.PW => q.text.length + 1).sum := fun l => by
        induction l with
        | nil => exact Nat.le_refl _
        | cons y l ih =>
          rw [List.map_cons, List.sum_cons, List.length_cons]
          omega
      exact this l
    simp only [Rows.uptoBulk] at hb
    refine ⟨l, ⟨⟨some a, c, rfl, hl, hc, fun i hin => ?_⟩, fun q hq => ?_⟩, by omega⟩
    · have hpos : 0 < l.length := by omega
      obtain ⟨b, off, rfl, hlt⟩ := paddr_plain (i := 0 * 3) rfl (hl2 0 hpos).1.1
      have := (hl2 i hin).1
      simp only [Addr.add_lit, ← Nat.add_assoc] at this
      exact ⟨b, off, rfl, hlt, this⟩
    · obtain ⟨i, hin, rfl⟩ := List.getElem_of_mem hq
      have h1 := (hl2 i hin).2
      have h2 : l[i].text.length + 1 ≤ (l.map fun q : Px.PW => q.text.length + 1).sum := by
        have : ∀ (l : List Px.PW) (q : Px.PW), q ∈ l → q.text.length + 1 ≤ (l.map fun q : Px.PW => q.text.length + 1).sum := fun l q hq => by
          induction l with
          | nil => exact (List.not_mem_nil hq).elim
          | cons y l ih =>
            rw [List.map_cons, List.sum_cons]
            rcases List.mem_cons.1 hq with rfl | hq
            · omega
            · have := ih hq
              omega
        exact this l _ hq
      simp only [maxLen]
      omega
end
end Go.Proofs.YtedlhdegdlabhaaGreatDoor
namespace Go.Proofs.YtedlhdegdlabhaaGreatDoor
open Go.ChangeShapes Go.WideShapes Go.ChangeAt Go.RowKit

theorem own : ownKnob Tryz.prog.godebug = none := by kernel_rfl
theorem laidOut : laidOutB Tryz.prog = true := by kernel_rfl
/-- the variables that the rows list -/
abbrev listed : List (String × DataW Unit) := Rows.parseWordsUptoRow.laid
set_option maxRecDepth 100000 in
theorem start_shaped (os : Os) (args : Array Value) : ((World.laidAll Tryz.prog os listed).forCall (fun _ _ => 0) ⟨#[], args, []⟩).Shaped Tryz.prog := World.shaped_of_ZipB (by kernel_rfl) (by kernel_rfl)
set_option maxRecDepth 100000 in
theorem listed_plain : (listed.all fun x => x.2.handleName?.isNone) = true := by kernel_rfl
set_option maxRecDepth 100000 in
theorem start_met (os : Os) (args : Array Value) : laidMet Tryz.prog listed ((World.laidAll Tryz.prog os listed).forCall (fun _ _ => 0) ⟨#[], args, []⟩).memory := laidMet_laidAll _ (by kernel_rfl) (by kernel_rfl)
theorem laidMet.drop {P : Program} {w : World} : ∀ (k : Nat) {l : List (String × DataW Unit)}, laidMet P l w → laidMet P (l.drop k) w
  | 0, _, h => h
  | _ + 1, [], h => h
  | k + 1, _ :: _, h => laidMet.drop k (Go.laidMet.tail h)
theorem gSpace : Tryz.prog.globalNamed "strings.asciiSpace" = some 0 := by kernel_rfl
set_option maxRecDepth 100000 in
theorem space_data : (Rows.laid_strings_asciiSpace : DataW Unit) = Lib.tabData .u8 Lib.asciiSpaceTab := by kernel_rfl
theorem space_of_laid {W : World} (h : laidMet Tryz.prog listed W) : Space W := by
  have h1 := laidMet.drop 13 h
  have e : listed.drop 13 = ("strings.asciiSpace", Lib.tabData .u8 Lib.asciiSpaceTab) :: listed.drop 14 := by rw [← space_data]; rfl
  rw [e] at h1
  exact Lib.tabIs_of_head gSpace (show (Tryz.prog.globals[0]?).map (·.type) = some 130 by kernel_rfl) Tryz.underlying130 Tryz.underlying5 (by kernel_rfl) (by kernel_rfl) h1
set_option maxRecDepth 100000 in
set_option maxHeartbeats 400000000 in
theorem words_facts : joinedFacts Tryz.prog 3 Tryz.f3 (Rows.OpenSpec.upto Rows.parseWordsSpec).bare Rows.parseWordsUptoRow = true := by
  unfold joinedFacts
  simp only [Bool.and_eq_true]
  repeat' (refine And.intro ?_ ?_)
  all_goals (as_aux_lemma => kernel_rfl)
end Go.Proofs.YtedlhdegdlabhaaGreatDoor
