/- The walks of package parse: kind, taken. The walks of package parse: conditions that are open: taken, must. The walk of package parse: do, at %else. -/
import Derived.Test.YtedlhdegdlabhaaGreatDoorParseMem
import Derived.Test.YtedlhdegdlabhaaGreatDoorParseLines
import Derived.Test.YtedlhdegdlabhaaGreatDoorLexWalkB
import Derived.Test.YtedlhdegdlabhaaGreatDoorParseTakes
namespace Go.Proofs.YtedlhdegdlabhaaGreatDoor
set_option maxRecDepth 8000
open Go.RowKit
open Lx (Bytes)

theorem kind_bool {x : Px.PW} {l : List Px.PW} (hb : x.block = false) : Px.isDir (x :: l) = (x.text == Px.tIf || x.text == Px.tElif || x.text == Px.tElse || x.text == Px.tEndif) := by simp [Px.isDir, hb]
theorem txt_eq {X : ByteArray} {b c : Bytes} (hX : sl X = b) : (X.toList == c) = (b == c) := by rw [txt_list, hX]
def kindV (d : Bool) (v : Value) : Value := if d then .iface 97 v else .iface 99 v
set_option maxHeartbeats 1000000 in
theorem kind_in {w : World} {v : Value} {x : Px.PW} {l : List Px.PW} (h : PWordsAt w v (x :: l)) :
    Calls Tryz.prog 37 #[v] w fun e w' => e = .returned (kindV (Px.isDir (x :: l)) v) ∧ w' = w := by
  obtain ⟨b, off, c, rfl, hc1, hc2, hb, x0, x1, x2, htl⟩ := h.cons
  clear htl h
  simp only [strV] at x0
  obtain ⟨X, hX⟩ : ∃ X : ByteArray, X = ⟨x.text.toArray⟩ := ⟨_, rfl⟩
  have hsX : sl X = x.text := by rw [hX]; rfl
  rw [← hX] at x0
  clear hX
  cases hbl : x.block with
  | true =>
    have hd : Px.isDir (x :: l) = false := by simp [Px.isDir, hbl]
    rw [hbl] at x2
    rw [hd]
    clear hsX hd hbl
    go_enter Tryz.func37, Tryz.ntmps37
    go_wp2_with fail
    go_ret
    exact ⟨rfl, rfl⟩
  | false =>
    rw [kind_bool hbl, ← txt_eq hsX, ← txt_eq hsX, ← txt_eq hsX, ← txt_eq hsX]
    rw [hbl] at x2
    clear hsX hbl
    cases h1 : X.toList == Px.tIf with
    | true =>
      go_enter Tryz.func37, Tryz.ntmps37
      go_wp2_with fail
      go_ret
      exact ⟨rfl, rfl⟩
    | false =>
      cases h2 : X.toList == Px.tElif with
      | true =>
        go_enter Tryz.func37, Tryz.ntmps37
        go_wp2_with fail
        go_ret
        exact ⟨rfl, rfl⟩
      | false =>
        cases h3 : X.toList == Px.tElse with
        | true =>
          go_enter Tryz.func37, Tryz.ntmps37
          go_wp2_with fail
          go_ret
          exact ⟨rfl, rfl⟩
        | false =>
          cases h4 : X.toList == Px.tEndif with
          | true =>
            go_enter Tryz.func37, Tryz.ntmps37
            go_wp2_with fail
            go_ret
            exact ⟨rfl, rfl⟩
          | false =>
            go_enter Tryz.func37, Tryz.ntmps37
            go_wp2_with fail
            go_ret
            exact ⟨rfl, rfl⟩
end Go.Proofs.YtedlhdegdlabhaaGreatDoor
namespace Go.Proofs.YtedlhdegdlabhaaGreatDoor
set_option maxRecDepth 8000
open Go.RowKit
open Lx (Bytes)

def condCell (c : Px.Cond) : List Value := [.int .i64 c.line, .bool c.around, .bool c.now, .bool c.was, .bool c.last]
def condCells (o : List Px.Cond) : List Value := o.flatMap condCell
theorem condCells_len : ∀ l : List Px.Cond, (condCells l).length = l.length * 5
  | [] => rfl
  | x :: l => by
    have e : condCells (x :: l) = condCell x ++ condCells l := rfl
    rw [e, List.length_append, condCells_len l, List.length_cons]
    show 5 + _ = _
    omega
theorem condCells_last (o : List Px.Cond) (c : Px.Cond) : condCells (o ++ [c]) = condCells o ++ condCell c := by simp [condCells]
/-- the conditions that are open, in memory -/
structure CondsAt (w : World) (K : Nat) (sv lv ov : Value) (o : List Px.Cond) : Prop where
  blk : Blk w K 93 #[sv, lv, ov]
  own : w.ownsRow (K + 1) 101 5 ov o.length (condCells o)
theorem CondsAt.still {w w' : World} {K : Nat} {sv lv ov : Value} {o : List Px.Cond} (h : CondsAt w K sv lv ov o) (ht : Turns Nothing w w') : CondsAt w' K sv lv ov o :=
  ⟨ht.blk h.blk id, ht.own h.own fun _ _ => id⟩
/-- the innermost condition's cells -/
theorem CondsAt.last {w : World} {K : Nat} {sv lv ov : Value} {o : List Px.Cond} {c : Px.Cond} (h : CondsAt w K sv lv ov (o ++ [c])) : ∃ g cp, ov = .slice (some ⟨g, 0, none⟩) (o.length + 1) cp ∧ K + 1 ≤ g ∧ g < w.heap.size ∧
    w.cell? ⟨g, o.length * 5, none⟩ = some (.int .i64 c.line) ∧ w.cell? ⟨g, o.length * 5 + 1, none⟩ = some (.bool c.around) ∧ w.cell? ⟨g, o.length * 5 + 2, none⟩ = some (.bool c.now) ∧ w.cell? ⟨g, o.length * 5 + 3, none⟩ = some (.bool c.was) ∧ w.cell? ⟨g, o.length * 5 + 4, none⟩ = some (.bool c.last) ∧ ∀ i, w.frozen? ⟨g, i, none⟩ = false := by
  have ho := h.own
  rw [List.length_append, List.length_singleton] at ho
  rcases ho.2 with ⟨_, h0⟩ | ⟨g, cap, cur, rfl, hb, hg, _⟩
  · exact absurd h0 (by omega)
  · have hc : ∀ i, i < 5 → w.cell? ⟨g, o.length * 5 + i, none⟩ = (condCell c)[i]? := fun i hi => by
      rw [ho.cellAt _ (by omega), condCells_last, List.getElem?_append_right (by rw [condCells_len]; omega), condCells_len]
      congr 1
      omega
    exact ⟨g, cap, rfl, hb, (Array.getElem?_eq_some_iff.1 hg).1, hc 0 (by decide), hc 1 (by decide), hc 2 (by decide), hc 3 (by decide), hc 4 (by decide), fun i => by simp [World.frozen?, hg]⟩
theorem three_cells {w : World} {b : Nat} {t : TypeId} {v0 v1 v2 : Value} (h : Blk w b t #[v0, v1, v2]) :
    w.cell? ⟨b, 0, none⟩ = some v0 ∧ w.cell? ⟨b, 1, none⟩ = some v1 ∧ w.cell? ⟨b, 2, none⟩ = some v2 ∧ w.frozen? ⟨b, 2, none⟩ = false := ⟨h.cell 0, h.cell 1, h.cell 2, h.frozen 2⟩
set_option maxHeartbeats 1000000 in
theorem taken_nil {w : World} {K : Nat} {sv lv ov : Value} (h : CondsAt w K sv lv ov []) :
    Calls Tryz.prog 39 #[.pointer (some ⟨K, 0, none⟩)] w fun e w' => e = .returned (.bool true) ∧ ∃ n, w' = w.drewN n := by
  obtain ⟨A0, cp0, rfl⟩ := own_slice h.own
  obtain ⟨c0, c1, c2, -⟩ := three_cells h.blk
  simp only [List.length_nil] at c2
  clear h
  go_enter Tryz.func39, Tryz.ntmps39
  go_wp2_with fail
  go_quiet (fail)
  go_wp2_with fail
  go_ret
  exact ⟨rfl, _, rfl⟩
set_option maxHeartbeats 1000000 in
theorem taken_last {w : World} {K : Nat} {sv lv ov : Value} {o : List Px.Cond} {c : Px.Cond} (h : CondsAt w K sv lv ov (o ++ [c])) (hn : o.length ≤ 1000) :
    Calls Tryz.prog 39 #[.pointer (some ⟨K, 0, none⟩)] w fun e w' => e = .returned (.bool c.now) ∧ ∃ n, w' = w.drewN n := by
  obtain ⟨c0, c1, c2, -⟩ := three_cells h.blk
  obtain ⟨g, cp, rfl, hg, hgl, d0, d1, d2, d3, d4, -⟩ := h.last
  clear h
  generalize o.length = n at *
  have e1 : ((n : Int) + 1 == 0) = false := by simp; omega
  have e2 : ¬ (n : Int) + 1 = 0 := by omega
  go_enter Tryz.func39, Tryz.ntmps39
  go_wp2_with fail
  go_quiet (fail)
  go_wp2_with fail
  go_ret
  exact ⟨rfl, _, rfl⟩
/-- what is thrown -/
def wrong (e l : Int) : List PanicEntry := [{ v := .iface 88 (.agg #[.int .i64 e, .int .i64 l]), recovered := false }]
set_option maxHeartbeats 1000000 in
theorem must_yes (w : World) (e : Int) (p : Value) : Calls Tryz.prog 57 #[.bool true, .int .i64 e, p] w fun en w' => en = .returned (.tuple #[]) ∧ w = w' := by
  go_enter Tryz.func57, Tryz.ntmps57
  go_wp2_with fail
  go_end0
  exact ⟨rfl, rfl⟩
end Go.Proofs.YtedlhdegdlabhaaGreatDoor
namespace Go.Proofs.YtedlhdegdlabhaaGreatDoor
set_option maxRecDepth 8000
open Go.RowKit
open Lx (Bytes)

/-- a cell of an own row is written -/
theorem own_set {w : World} {B : Nat} {e : TypeId} {size n cp g : Nat} {xs : List Value} (h : w.ownsRow B e size (.slice (some ⟨g, 0, none⟩) n cp) n xs) (i : Nat) (v : Value) :
    (w.setCell ⟨g, i, none⟩ v).ownsRow B e size (.slice (some ⟨g, 0, none⟩) n cp) n (xs.set i v) := by
  refine ⟨by rw [List.length_set]; exact h.1, h.2.imp id ?_⟩
  rintro ⟨g', cap, cur, e1, hb, hg, h1, h2, h3, h4⟩
  injection e1 with e2 e3 e4
  injection e2 with e2
  injection e2 with e2
  subst e2
  refine ⟨g, cap, cur.setIfInBounds i v, by rw [e4], hb, ?_, h1, h2, by simpa using h3, ?_⟩
  · simp [World.setCell, Array.getElem?_modify, hg]
  · rw [Array.toList_setIfInBounds, List.take_set, h4]
theorem set_tail (o : List Px.Cond) (L : List Value) (i : Nat) (v : Value) : (condCells o ++ L).set (o.length * 5 + i) v = condCells o ++ L.set i v := by
  rw [List.set_append_right _ _ (by rw [condCells_len]; omega), condCells_len]
  congr 2
  omega
/-- what do leaves -/
def DoPost (w : World) (K : Nat) (sv lv ov : Value) (o' : List Px.Cond) (e : Ending) (w' : World) : Prop :=
  e = .returned (.tuple #[]) ∧ ∃ ov', CondsAt w' K sv lv ov' o' ∧ Turns (fun b => b = K ∨ ov.ownBlock = some b) w w' ∧ (ov'.ownBlock = ov.ownBlock ∨ ∃ b, ov'.ownBlock = some b ∧ w.heap.size ≤ b)
theorem CondsAt.set3 {w w1 : World} {K : Nat} {sv lv : Value} {o : List Px.Cond} {c : Px.Cond} {g cp n : Nat} (h : CondsAt w K sv lv (.slice (some ⟨g, 0, none⟩) (n + 1) cp) (o ++ [c])) (hn : o.length = n) (ht : Turns Nothing w w1) (hg : K + 1 ≤ g) (a b d : Bool) :
    DoPost w K sv lv (.slice (some ⟨g, 0, none⟩) (n + 1) cp) (o ++ [⟨c.line, c.around, a, b, d⟩]) (.returned (.tuple #[])) (((w1.setCell ⟨g, n * 5 + 4, none⟩ (.bool d)).setCell ⟨g, n * 5 + 2, none⟩ (.bool a)).setCell ⟨g, n * 5 + 3, none⟩ (.bool b)) := by
  subst hn
  have h1 := h.still ht
  have hne : K ≠ g := by omega
  refine ⟨rfl, _, ⟨((h1.blk.far (p := ⟨g, _, none⟩) hne _).far (p := ⟨g, _, none⟩) hne _).far (p := ⟨g, _, none⟩) hne _, ?_⟩, ?_, .inl rfl⟩
  · have ho := h1.own
    rw [List.length_append, List.length_singleton] at ho ⊢
    have h3 := own_set (own_set (own_set ho (o.length * 5 + 4) (.bool d)) (o.length * 5 + 2) (.bool a)) (o.length * 5 + 3) (.bool b)
    rw [condCells_last, set_tail, set_tail, set_tail] at h3
    rw [condCells_last]
    exact h3
  · exact (((ht.mono fun _ _ e => e.elim).setCell (p := ⟨g, _, none⟩) (.inl (.inr rfl)) _).setCell (p := ⟨g, _, none⟩) (.inl (.inr rfl)) _).setCell (p := ⟨g, _, none⟩) (.inl (.inr rfl)) _

set_option maxHeartbeats 2000000 in
theorem do_else {w : World} {K : Nat} {sv lv ov dv : Value} {o : List Px.Cond} {c : Px.Cond} {x : Px.PW} (h : CondsAt w K sv lv ov (o ++ [c])) (hn : o.length ≤ 1000) (hd : PWordsAt w dv [x]) (hx : x.text = Px.tElse) (hl : c.last = false) :
    Calls Tryz.prog 38 #[.pointer (some ⟨K, 0, none⟩), dv] w (DoPost w K sv lv ov (o ++ [⟨c.line, c.around, c.around && !c.was, c.was || (c.around && !c.was), true⟩])) := by
  obtain ⟨b, off, cw, rfl, hc1, hc2, hb, x0, x1, x2, -⟩ := hd.cons
  simp only [List.length_nil, Nat.zero_add] at *
  rw [hx] at x0
  simp only [strV] at x0
  obtain ⟨c0, c1, c2, fK⟩ := three_cells h.blk
  obtain ⟨g, cp, rfl, hg, hgl, d0, d1, d2, d3, d4, hfz⟩ := h.last
  have f2 := hfz (o.length * 5 + 2)
  have f3 := hfz (o.length * 5 + 3)
  have f4 := hfz (o.length * 5 + 4)
  have hKl := h.blk.lt
  have H := Lib.hid h
  obtain ⟨ln, ar, nw, ws, la⟩ := c
  dsimp only at *
  subst hl
  clear h hd x2 hfz
  generalize hon : o.length = n at *
  have HN := Lib.hid hon
  clear hon
  go_enter Tryz.func38, Tryz.ntmps38
  go_wp2_with fail
  go_region
  go_wp2_with (go_at_call 57; refine (must_yes _ _ _).mono ?_; rintro en w' ⟨rfl, rfl⟩)
  go_quiet (fail)
  cases ar <;> cases ws
  all_goals
    go_wp2_with (go_at_call 57; refine (must_yes _ _ _).mono ?_; rintro en w' ⟨rfl, rfl⟩)
    go_end0
    exact H.out.set3 HN.out (((Turns.refl Nothing w).alloc _).drewN _) hg _ _ _
end Go.Proofs.YtedlhdegdlabhaaGreatDoor
