/- An argument of groups of commands, opened to cells; its cost is at most its bulk. The start of chapter 12's rows: the listed variables laid by the kit's function; what the condition gives the walks: the library's table of white space. -/
import Derived.Test.YtedlhdegdlabhaaGreatDoorParsePrint
import Derived.Test.YtedlhdegdlabhaaGreatDoorParsePutLaw
import Derived.Test.YtedlhdegdlabhaaGreatDoorTie
import Derived.Test.YtedlhdegdlabhaaGreatDoorCards
import Derived.WalkKit
import Derived.ProofKit
import Derived.OpenShut
import Derived.Deep.Slices
import Derived.Deep.Fields
import Derived.Deep.Strs
import Derived.Test.YtedlhdegdlabhaaGreatDoorParseMem
import Derived.LaidMore
import Derived.Lay
import Derived.SevenTiedAt
import Derived.Stop.Joined
import Derived.Stop.LaidErr
import Derived.Lib.LaidTab
import Derived.JoinedCond
namespace Go.Proofs.YtedlhdegdlabhaaGreatDoor
set_option maxRecDepth 100000
open Go.ChangeShapes Go.WideShapes Go.ChangeAt Go.RowKit Go.Deep
open Lx (Bytes)

theorem pchosen {α : Type} (P : Nat → α → Prop) : ∀ n, (∀ i, i < n → ∃ x, P i x) → ∃ l : List α, l.length = n ∧ ∀ i (h : i < l.length), P i l[i]
  | 0, _ => ⟨[], rfl, fun i h => absurd h (by simp)⟩
  | n + 1, h => by
    obtain ⟨l, hl, hp⟩ := pchosen P n fun i hi => h i (by omega)
    obtain ⟨x, hx⟩ := h n (by omega)
    refine ⟨l ++ [x], by simp [hl], fun i hi => ?_⟩
    by_cases hlt : i < l.length
    · rw [List.getElem_append_left hlt]; exact hp i hlt
    · have : i = l.length := by simp at hi; omega
      subst this
      simpa [hl] using hx
theorem paddr_plain {W : World} {a : Addr} {i : Nat} {v : Value} (h0 : i = 0) (hz : W.cell? (a.add i) = some v) : ∃ b off, a = ⟨b, off, none⟩ ∧ b < W.heap.size := by
  subst h0
  obtain ⟨b, off, sp⟩ := a
  have hsp : sp = none := by
    cases sp with
    | none => rfl
    | some k => simp [Addr.add, World.cell?] at hz; split at hz <;> simp at hz
  subst hsp
  refine ⟨b, off, rfl, ?_⟩
  simp only [Addr.add_lit] at hz
  unfold World.cell? at hz
  split at hz
  · rename_i hh; exact (Array.getElem?_eq_some_iff.1 hh).1
  · cases hz
theorem bulk_from {H α : Type} (g : α → Nat) (D : Nat → DataW H) : ∀ (l : List α) (s : Nat), (∀ i (hi : i < l.length), g l[i] ≤ Rows.uptoBulk (D (s + i))) → (l.map g).sum ≤ Rows.uptoBulkAll ((List.range' s l.length).map D)
  | [], _, _ => Nat.zero_le _
  | x :: l, s, h => by
    have h0 : g x ≤ Rows.uptoBulk (D s) := h 0 (by simp)
    have ih := bulk_from g D l (s + 1) fun i hi => by
      have := h (i + 1) (by simpa using hi)
      rw [show s + 1 + i = s + (i + 1) by omega]
      simpa using this
    rw [List.length_cons, List.range'_succ, List.map_cons, List.map_cons, List.sum_cons, Rows.uptoBulkAll]
    omega
theorem bulk_sum {H α : Type} (g : α → Nat) (D : Nat → DataW H) (l : List α) (h : ∀ i (hi : i < l.length), g l[i] ≤ Rows.uptoBulk (D i)) : (l.map g).sum ≤ Rows.uptoBulkAll ((List.range l.length).map D) := by
  rw [List.range_eq_range']
  exact bulk_from g D l 0 fun i hi => by rw [Nat.zero_add]; exact h i hi
section
variable {H : Type} {enc : TypeId × Value → H} {W : World}
theorem texts_open {fuel : Nat} {v : Value} {x : DataW H × List MemPlace} (h : DataW.trod enc Tryz.prog W 0 (fun _ => true) true fuel 25 [v] = some x) : ∃ ls : List Bytes, TextsAt W v ls ∧ Px.costA ls + 1 ≤ Rows.uptoBulk x.1 := by
  rcases open_strs Tryz.underlying25 Tryz.underlying9 (by kernel_rfl) h with ⟨hcs, hx⟩ | ⟨a, len, cap, m, Sx, hcs, hb, hl, hc, hm, hx, hi⟩
  · injection hcs with hcs
    subst hcs hx
    exact ⟨[], ⟨⟨_, _, rfl, fun h => absurd h (by decide)⟩⟩, Nat.le_refl _⟩
  · injection hcs with hcs
    subst hcs hx
    have hlm : len ≤ m := by rw [hm]; split <;> omega
    refine ⟨(List.range len).map fun i => sl (Sx i), ⟨⟨some a, cap, by rw [List.length_map, List.length_range], fun hpos => ?_⟩⟩, ?_⟩
    · rw [List.length_map, List.length_range] at hpos
      obtain ⟨b, off, rfl, hlt⟩ := paddr_plain rfl (hi 0 (by omega)).1
      refine ⟨b, off, rfl, hlt, fun i h => ?_⟩
      rw [List.length_map, List.length_range] at h
      have := (hi i (by omega)).1
      rw [Addr.add_lit] at this
      rw [this]
      simp [strV, sl]
    · have := bulk_sum (H := H) (fun s : Bytes => s.length + 1) (fun i => .lit (.string (Sx i).data.toList)) ((List.range len).map fun i => sl (Sx i)) fun i hi => by
        rw [List.getElem_map, List.getElem_range]
        exact Nat.le_refl _
      rw [List.length_map, List.length_range] at this
      simp only [Px.costA, Rows.uptoBulk]
      omega
theorem flag_open {fuel : Nat} {cs : List Value} {x : DataW H × List MemPlace} (h : DataW.trod enc Tryz.prog W 0 (fun _ => true) true fuel 67 cs = some x) :
    ∃ f : Px.Fl, cs = [.int .u8 f.1.toNat, strV f.2] ∧ f.2.length + 3 ≤ Rows.uptoBulk x.1 := by
  obtain ⟨ys, k, -, hx, hlen, hyl, hf⟩ := DataW.trod_struct Tryz.underlying67 h
  have hC : Tryz.prog.cellsOf 67 = 2 := by kernel_rfl
  have hI : Tryz.prog.cellsOf 5 = 1 := by kernel_rfl
  have hS : Tryz.prog.cellsOf 9 = 1 := by kernel_rfl
  rw [hC] at hlen
  match cs, hlen, ys, hyl with
  | [c0, c1], _, [y0, y1], _ =>
    have h0 : DataW.trod enc Tryz.prog W 0 (fun _ => true) true k 5 (([c0, c1].drop 0).take (Tryz.prog.cellsOf 5)) = some y0 := hf 0 _ rfl
    have h1 : DataW.trod enc Tryz.prog W 0 (fun _ => true) true k 9 (([c0, c1].drop 1).take (Tryz.prog.cellsOf 9)) = some y1 := hf 1 _ rfl
    rw [hI] at h0
    rw [hS] at h1
    simp only [List.drop_zero, List.drop_succ_cons, List.take_succ_cons, List.take_zero] at h0 h1
    obtain ⟨n0, e0, hy0, w0⟩ := DataW.trod_int Tryz.underlying5 h0
    obtain ⟨s1, e1, hy1, -⟩ := DataW.trod_string Tryz.underlying9 h1
    injection e0 with e0
    injection e1 with e1
    subst e0 e1 hy0 hy1
    simp only [Lit.wf, Bool.and_eq_true, decide_eq_true_eq] at w0
    rw [show IntKind.u8.min = 0 by decide, show IntKind.u8.max = 255 by decide] at w0
    subst hx
    refine ⟨(UInt8.ofNat n0.toNat, sl s1), ?_, ?_⟩
    · have e : ((UInt8.ofNat n0.toNat).toNat : Int) = n0 := by
        rw [UInt8.toNat_ofNat_of_lt' (by show n0.toNat < 256; omega)]
        omega
      rw [e]
      rfl
    · simp only [List.map_cons, List.map_nil, Rows.uptoBulk, Rows.uptoBulkAll]
      show s1.data.toList.length + 3 ≤ _
      omega
theorem flags_open {fuel : Nat} {v : Value} {x : DataW H × List MemPlace} (h : DataW.trod enc Tryz.prog W 0 (fun _ => true) true fuel 24 [v] = some x) : ∃ l : List Px.Fl, FlagsAt W v l ∧ Px.costF l + 1 ≤ Rows.uptoBulk x.1 := by
  have hC : Tryz.prog.cellsOf 67 = 2 := by kernel_rfl
  rcases open_slice Tryz.underlying24 h with ⟨hcs, hx⟩ | ⟨a, len, cap, m, n, D, Pl, hcs, hb, hl, hc, hm, hx, hi⟩
  · injection hcs with hcs
    subst hcs hx
    exact ⟨[], ⟨⟨_, _, rfl, fun h => absurd h (by decide)⟩, by decide⟩, Nat.le_refl _⟩
  · injection hcs with hcs
    subst hcs hx
    have hlm : len ≤ m := by rw [hm]; split <;> omega
    rw [hC] at hi
    have heach : ∀ i, i < len → ∃ f : Px.Fl, (W.cell? (a.add (i * 2)) = some (.int .u8 f.1.toNat) ∧ W.cell? (a.add (i * 2 + 1)) = some (strV f.2)) ∧ f.2.length + 3 ≤ Rows.uptoBulk (D i) := by
      intro i hin
      obtain ⟨cs', h1, h2⟩ := hi i (by omega)
      obtain ⟨f, rfl, hf⟩ := flag_open h2
      obtain ⟨-, -, hat⟩ := World.cells?_some h1
      have a0 := hat 0 (by decide)
      have a1 := hat 1 (by decide)
      rw [Go.Deep.add_add] at a0 a1
      exact ⟨f, ⟨a0, a1⟩, hf⟩
    obtain ⟨l, hll, hl2⟩ := pchosen _ len heach
    subst hll
    refine ⟨l, ⟨⟨some a, cap, rfl, fun hpos => ?_⟩, by unfold maxLen at hc; omega⟩, ?_⟩
    · obtain ⟨b, off, rfl, hlt⟩ := paddr_plain rfl (hl2 0 hpos).1.1
      refine ⟨b, off, rfl, hlt, fun i hin => ?_⟩
      have := (hl2 i hin).1
      simp only [Addr.add_lit, ← Nat.add_assoc] at this
      exact this
    · have := bulk_sum (fun f : Px.Fl => f.2.length + 3) D l fun i hin => (hl2 i hin).2
      simp only [Px.costF, Rows.uptoBulk]
      omega
theorem cmd_open {fuel : Nat} {cs : List Value} {x : DataW H × List MemPlace} (h : DataW.trod enc Tryz.prog W 0 (fun _ => true) true fuel 27 cs = some x) :
    ∃ q : CQ, cs = cqCell q ∧ (FlagsAt W q.2.1 q.1.flags ∧ TextsAt W q.2.2 q.1.args) ∧ Px.costC q.1 ≤ Rows.uptoBulk x.1 := by
  obtain ⟨ys, k, -, hx, hlen, hyl, hf⟩ := DataW.trod_struct Tryz.underlying27 h
  have hC : Tryz.prog.cellsOf 27 = 4 := by kernel_rfl
  have hI : Tryz.prog.cellsOf 3 = 1 := by kernel_rfl
  have hS : Tryz.prog.cellsOf 9 = 1 := by kernel_rfl
  have hF : Tryz.prog.cellsOf 24 = 1 := by kernel_rfl
  have hT : Tryz.prog.cellsOf 25 = 1 := by kernel_rfl
  rw [hC] at hlen
  match cs, hlen, ys, hyl with
  | [c0, c1, c2, c3], _, [y0, y1, y2, y3], _ =>
    have h0 : DataW.trod enc Tryz.prog W 0 (fun _ => true) true k 9 (([c0, c1, c2, c3].drop 0).take (Tryz.prog.cellsOf 9)) = some y0 := hf 0 _ rfl
    have h1 : DataW.trod enc Tryz.prog W 0 (fun _ => true) true k 24 (([c0, c1, c2, c3].drop 1).take (Tryz.prog.cellsOf 24)) = some y1 := hf 1 _ rfl
    have h2 : DataW.trod enc Tryz.prog W 0 (fun _ => true) true k 25 (([c0, c1, c2, c3].drop 2).take (Tryz.prog.cellsOf 25)) = some y2 := hf 2 _ rfl
    have h3 : DataW.trod enc Tryz.prog W 0 (fun _ => true) true k 3 (([c0, c1, c2, c3].drop 3).take (Tryz.prog.cellsOf 3)) = some y3 := hf 3 _ rfl
    rw [hS] at h0
    rw [hF] at h1
    rw [hT] at h2
    rw [hI] at h3
    simp only [List.drop_zero, List.drop_succ_cons, List.take_succ_cons, List.take_zero] at h0 h1 h2 h3
    obtain ⟨s0, e0, hy0, -⟩ := DataW.trod_string Tryz.underlying9 h0
    obtain ⟨fl, hfl, hfc⟩ := flags_open h1
    obtain ⟨as_, has, hac⟩ := texts_open h2
    obtain ⟨n3, e3, hy3, -⟩ := DataW.trod_int Tryz.underlying3 h3
    injection e0 with e0
    injection e3 with e3
    subst e0 e3 hy0 hy3 hx
    refine ⟨(⟨sl s0, fl, as_, n3⟩, c1, c2), rfl, ⟨hfl, has⟩, ?_⟩
    simp only [List.map_cons, List.map_nil, Rows.uptoBulk, Rows.uptoBulkAll, Px.costC]
    have e : (sl s0).length = s0.data.toList.length := rfl
    omega
theorem cmds_open {fuel : Nat} {v : Value} {x : DataW H × List MemPlace} (h : DataW.trod enc Tryz.prog W 0 (fun _ => true) true fuel 37 [v] = some x) : ∃ l : List CQ, RowRd W v l ∧ Px.costG (l.map (·.1)) ≤ Rows.uptoBulk x.1 := by
  have hC : Tryz.prog.cellsOf 27 = 4 := by kernel_rfl
  rcases open_slice Tryz.underlying37 h with ⟨hcs, hx⟩ | ⟨a, len, cap, m, n, D, Pl, hcs, hb, hl, hc, hm, hx, hi⟩
  · injection hcs with hcs
    subst hcs hx
    exact ⟨[], ⟨⟨_, _, rfl, fun h => absurd h (by decide)⟩, fun q hq => (List.not_mem_nil hq).elim⟩, Nat.le_refl _⟩
  · injection hcs with hcs
    subst hcs hx
    have hlm : len ≤ m := by rw [hm]; split <;> omega
    rw [hC] at hi
    have heach : ∀ i, i < len → ∃ q : CQ, (W.cell? (a.add (i * 4)) = some (strV q.1.name) ∧ W.cell? (a.add (i * 4 + 1)) = some q.2.1 ∧ W.cell? (a.add (i * 4 + 2)) = some q.2.2 ∧ W.cell? (a.add (i * 4 + 3)) = some (.int .i64 q.1.line)) ∧
        (FlagsAt W q.2.1 q.1.flags ∧ TextsAt W q.2.2 q.1.args) ∧ Px.costC q.1 ≤ Rows.uptoBulk (D i) := by
      intro i hin
      obtain ⟨cs', h1, h2⟩ := hi i (by omega)
      obtain ⟨q, rfl, hq, hk⟩ := cmd_open h2
      obtain ⟨-, -, hat⟩ := World.cells?_some h1
      have a0 := hat 0 (by decide)
      have a1 := hat 1 (by decide)
      have a2 := hat 2 (by decide)
      have a3 := hat 3 (by decide)
      rw [Go.Deep.add_add] at a0 a1 a2 a3
      exact ⟨q, ⟨a0, a1, a2, a3⟩, hq, hk⟩
    obtain ⟨l, hll, hl2⟩ := pchosen _ len heach
    subst hll
    refine ⟨l, ⟨⟨some a, cap, rfl, fun hpos => ?_⟩, fun q hq => ?_⟩, ?_⟩
    · obtain ⟨b, off, rfl, hlt⟩ := paddr_plain rfl (hl2 0 hpos).1.1
      refine ⟨b, off, rfl, hlt, fun i hin => ?_⟩
      have := (hl2 i hin).1
      simp only [Addr.add_lit, ← Nat.add_assoc] at this
      exact this
    · obtain ⟨i, hin, rfl⟩ := List.getElem_of_mem hq
      exact (hl2 i hin).2.1
    · have := bulk_sum (fun q : CQ => Px.costC q.1) D l fun i hin => (hl2 i hin).2.2
      rw [Px.costG, List.map_map]
      simp only [Rows.uptoBulk]
      show (l.map fun q => Px.costC q.1).sum + 1 ≤ _
      omega
theorem groups_open {base : Nat} {v : Value} {d : DataW H} {p : List MemPlace} (hval : Value.okWide Tryz.prog W .any base 36 v) (h : DataW.Trod enc Tryz.prog W 0 (fun _ => true) true 36 v d p) : ∃ Z : List (Value × List CQ), GroupsRd W v Z ∧ Px.costZ (plainG Z) ≤ Rows.uptoBulk d := by
  obtain ⟨fuel, hf⟩ := h
  obtain ⟨A, n', c, rfl⟩ := okWide_slice Tryz.underlying36 hval
  rcases open_slice1 Tryz.underlying36 (by kernel_rfl) hf with ⟨hcs, -⟩ | ⟨a, len, cap, m, n, V, D, Pl, hcs, hb, hl, hc, hm, hx, hi⟩
  · simp [Value.cells] at hcs
    obtain ⟨rfl, rfl, rfl⟩ := hcs
    exact ⟨[], ⟨⟨_, _, rfl, fun h => absurd h (by decide)⟩, fun q hq => (List.not_mem_nil hq).elim⟩, Nat.zero_le _⟩
  · simp [Value.cells] at hcs
    obtain ⟨rfl, rfl, rfl⟩ := hcs
    simp only [Prod.mk.injEq] at hx
    obtain ⟨rfl, -⟩ := hx
    have hlm : n' ≤ m := by rw [hm]; split <;> omega
    have heach : ∀ i, i < n' → ∃ z : Value × List CQ, (W.cell? (a.add i) = some z.1 ∧ RowRd W z.1 z.2) ∧ Px.costG (z.2.map (·.1)) ≤ Rows.uptoBulk (D i) := by
      intro i hin
      obtain ⟨h1, h2⟩ := hi i (by omega)
      obtain ⟨l, hl, hk⟩ := cmds_open h2
      exact ⟨(V i, l), ⟨h1, hl⟩, hk⟩
    obtain ⟨l, hll, hl2⟩ := pchosen _ n' heach
    subst hll
    refine ⟨l, ⟨⟨some a, c, rfl, fun hpos => ?_⟩, fun q hq => ?_⟩, ?_⟩
    · obtain ⟨b, off, rfl, hlt⟩ := paddr_plain rfl (hl2 0 hpos).1.1
      refine ⟨b, off, rfl, hlt, fun i hin => ?_⟩
      have := (hl2 i hin).1.1
      rw [Addr.add_lit] at this
      exact this
    · obtain ⟨i, hin, rfl⟩ := List.getElem_of_mem hq
      exact (hl2 i hin).1.2
    · have := bulk_sum (fun z : Value × List CQ => Px.costG (z.2.map (·.1))) D l fun i hin => (hl2 i hin).2
      rw [Px.costZ, plainG, List.map_map]
      simp only [Rows.uptoBulk]
      show (l.map fun z => Px.costG (z.2.map (·.1))).sum ≤ _
      omega
end
end Go.Proofs.YtedlhdegdlabhaaGreatDoor
namespace Go.Proofs.YtedlhdegdlabhaaGreatDoor
open Go.ChangeShapes Go.WideShapes Go.ChangeAt Go.RowKit

theorem own : ownKnob Tryz.prog.godebug = none := by kernel_rfl
theorem laidOut : laidOutB Tryz.prog = true := by kernel_rfl
/-- the variables that the rows list -/
abbrev listed : List (String × DataW Unit) := Rows.parsePrintsUptoRow.laid
set_option maxRecDepth 100000 in
theorem start_shaped (os : Os) (args : Array Value) : ((World.laidAll Tryz.prog os listed).forCall (fun _ _ => 0) ⟨#[], args, []⟩).Shaped Tryz.prog := World.shaped_of_ZipB (by kernel_rfl) (by kernel_rfl)
set_option maxRecDepth 100000 in
theorem listed_plain : (listed.all fun x => x.2.handleName?.isNone) = true := by kernel_rfl
set_option maxRecDepth 100000 in
theorem start_met (os : Os) (args : Array Value) : laidMet Tryz.prog listed ((World.laidAll Tryz.prog os listed).forCall (fun _ _ => 0) ⟨#[], args, []⟩).memory := laidMet_laidAll _ (by kernel_rfl) (by kernel_rfl)
theorem laidMet.drop {P : Program} {w : World} : ∀ (k : Nat) {l : List (String × DataW Unit)}, laidMet P l w → laidMet P (l.drop k) w
  | 0, _, h => h
  | _ + 1, [], h => h
  | k + 1, _ :: _, h => laidMet.drop k (Go.laidMet.tail h)
theorem gSpace : Tryz.prog.globalNamed "strings.asciiSpace" = some 0 := by kernel_rfl
set_option maxRecDepth 100000 in
theorem space_data : (Rows.laid_strings_asciiSpace : DataW Unit) = Lib.tabData .u8 Lib.asciiSpaceTab := by kernel_rfl
theorem space_of_laid {W : World} (h : laidMet Tryz.prog listed W) : Space W := by
  have h1 := laidMet.drop 13 h
  have e : listed.drop 13 = ("strings.asciiSpace", Lib.tabData .u8 Lib.asciiSpaceTab) :: listed.drop 14 := by rw [← space_data]; rfl
  rw [e] at h1
  exact Lib.tabIs_of_head gSpace (show (Tryz.prog.globals[0]?).map (·.type) = some 130 by kernel_rfl) Tryz.underlying130 Tryz.underlying5 (by kernel_rfl) (by kernel_rfl) h1
set_option maxRecDepth 100000 in
set_option maxHeartbeats 400000000 in
theorem prints_facts : joinedFacts Tryz.prog 4 Tryz.f4 (Rows.OpenSpec.upto Rows.parsePrintsSpec).bare Rows.parsePrintsUptoRow = true := by
  unfold joinedFacts
  simp only [Bool.and_eq_true]
  repeat' (refine And.intro ?_ ?_)
  all_goals (as_aux_lemma => kernel_rfl)
end Go.Proofs.YtedlhdegdlabhaaGreatDoor
