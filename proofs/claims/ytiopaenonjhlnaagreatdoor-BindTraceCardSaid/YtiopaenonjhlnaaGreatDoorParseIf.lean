/- The walks of package parse: kind, taken. The walks of package parse: conditions that are open: taken, must. The walk of package parse: do, at %else. The walks of package format at the text #{x}, where the scope has no variable: it comes to nothing. The walk of package parse: do, at %if, where no condition is open and the condition is the example's. -/
import Derived.Test.YtiopaenonjhlnaaGreatDoorParseMem
import Derived.Test.YtiopaenonjhlnaaGreatDoorParseLines
import Derived.Test.YtiopaenonjhlnaaGreatDoorLexWalkA
import Derived.Test.YtiopaenonjhlnaaGreatDoorParseTakes
import Derived.Test.YtiopaenonjhlnaaGreatDoorShelf
import Derived.Defers
import Derived.Recover
import Derived.Laws.Pointers
import Derived.StillTailTactics
import Derived.Deep.CutBlock
import Derived.Deep.DeepCutAuto
namespace Go.Proofs.YtiopaenonjhlnaaGreatDoor
set_option maxRecDepth 8000
open Go.RowKit
open Lx (Bytes)

theorem kind_bool {x : Px.PW} {l : List Px.PW} (hb : x.block = false) : Px.isDir (x :: l) = (x.text == Px.tIf || x.text == Px.tElif || x.text == Px.tElse || x.text == Px.tEndif) := by simp [Px.isDir, hb]
theorem txt_eq {X : ByteArray} {b c : Bytes} (hX : sl X = b) : (X.toList == c) = (b == c) := by rw [txt_list, hX]
def kindV (d : Bool) (v : Value) : Value := if d then .iface 98 v else .iface 100 v
set_option maxHeartbeats 1000000 in
theorem kind_in {w : World} {v : Value} {x : Px.PW} {l : List Px.PW} (h : PWordsAt w v (x :: l)) :
    Calls Tryz.prog 31 #[v] w fun e w' => e = .returned (kindV (Px.isDir (x :: l)) v) ∧ w' = w := by
  obtain ⟨b, off, c, rfl, hc1, hc2, hb, x0, x1, x2, htl⟩ := h.cons
  clear htl h
  simp only [strV] at x0
  obtain ⟨X, hX⟩ : ∃ X : ByteArray, X = ⟨x.text.toArray⟩ := ⟨_, rfl⟩
  have hsX : sl X = x.text := by rw [hX]; rfl
  rw [← hX] at x0
  clear hX
  cases hbl : x.block with
  | true =>
    have hd : Px.isDir (x :: l) = false := by simp [Px.isDir, hbl]
    rw [hbl] at x2
    rw [hd]
    clear hsX hd hbl
    go_enter Tryz.func31, Tryz.ntmps31
    go_wp2_with fail
    go_ret
    exact ⟨rfl, rfl⟩
  | false =>
    rw [kind_bool hbl, ← txt_eq hsX, ← txt_eq hsX, ← txt_eq hsX, ← txt_eq hsX]
    rw [hbl] at x2
    clear hsX hbl
    cases h1 : X.toList == Px.tIf with
    | true =>
      go_enter Tryz.func31, Tryz.ntmps31
      go_wp2_with fail
      go_ret
      exact ⟨rfl, rfl⟩
    | false =>
      cases h2 : X.toList == Px.tElif with
      | true =>
        go_enter Tryz.func31, Tryz.ntmps31
        go_wp2_with fail
        go_ret
        exact ⟨rfl, rfl⟩
      | false =>
        cases h3 : X.toList == Px.tElse with
        | true =>
          go_enter Tryz.func31, Tryz.ntmps31
          go_wp2_with fail
          go_ret
          exact ⟨rfl, rfl⟩
        | false =>
          cases h4 : X.toList == Px.tEndif with
          | true =>
            go_enter Tryz.func31, Tryz.ntmps31
            go_wp2_with fail
            go_ret
            exact ⟨rfl, rfl⟩
          | false =>
            go_enter Tryz.func31, Tryz.ntmps31
            go_wp2_with fail
            go_ret
            exact ⟨rfl, rfl⟩
end Go.Proofs.YtiopaenonjhlnaaGreatDoor
namespace Go.Proofs.YtiopaenonjhlnaaGreatDoor
set_option maxRecDepth 8000
open Go.RowKit
open Lx (Bytes)

def condCell (c : Px.Cond) : List Value := [.int .i64 c.line, .bool c.around, .bool c.now, .bool c.was, .bool c.last]
def condCells (o : List Px.Cond) : List Value := o.flatMap condCell
theorem condCells_len : ∀ l : List Px.Cond, (condCells l).length = l.length * 5
  | [] => rfl
  | x :: l => by
    have e : condCells (x :: l) = condCell x ++ condCells l := rfl
    rw [e, List.length_append, condCells_len l, List.length_cons]
    show 5 + _ = _
    omega
theorem condCells_last (o : List Px.Cond) (c : Px.Cond) : condCells (o ++ [c]) = condCells o ++ condCell c := by simp [condCells]
/-- the conditions that are open, in memory -/
structure CondsAt (w : World) (K : Nat) (sv lv ov : Value) (o : List Px.Cond) : Prop where
  blk : Blk w K 93 #[sv, lv, ov]
  own : w.ownsRow (K + 1) 106 5 ov o.length (condCells o)
theorem CondsAt.still {w w' : World} {K : Nat} {sv lv ov : Value} {o : List Px.Cond} (h : CondsAt w K sv lv ov o) (ht : Turns Nothing w w') : CondsAt w' K sv lv ov o :=
  ⟨ht.blk h.blk id, ht.own h.own fun _ _ => id⟩
/-- the innermost condition's cells -/
theorem CondsAt.last {w : World} {K : Nat} {sv lv ov : Value} {o : List Px.Cond} {c : Px.Cond} (h : CondsAt w K sv lv ov (o ++ [c])) : ∃ g cp, ov = .slice (some ⟨g, 0, none⟩) (o.length + 1) cp ∧ K + 1 ≤ g ∧ g < w.heap.size ∧
    w.cell? ⟨g, o.length * 5, none⟩ = some (.int .i64 c.line) ∧ w.cell? ⟨g, o.length * 5 + 1, none⟩ = some (.bool c.around) ∧ w.cell? ⟨g, o.length * 5 + 2, none⟩ = some (.bool c.now) ∧ w.cell? ⟨g, o.length * 5 + 3, none⟩ = some (.bool c.was) ∧ w.cell? ⟨g, o.length * 5 + 4, none⟩ = some (.bool c.last) ∧ ∀ i, w.frozen? ⟨g, i, none⟩ = false := by
  have ho := h.own
  rw [List.length_append, List.length_singleton] at ho
  rcases ho.2 with ⟨_, h0⟩ | ⟨g, cap, cur, rfl, hb, hg, _⟩
  · exact absurd h0 (by omega)
  · have hc : ∀ i, i < 5 → w.cell? ⟨g, o.length * 5 + i, none⟩ = (condCell c)[i]? := fun i hi => by
      rw [ho.cellAt _ (by omega), condCells_last, List.getElem?_append_right (by rw [condCells_len]; omega), condCells_len]
      congr 1
      omega
    exact ⟨g, cap, rfl, hb, (Array.getElem?_eq_some_iff.1 hg).1, hc 0 (by decide), hc 1 (by decide), hc 2 (by decide), hc 3 (by decide), hc 4 (by decide), fun i => by simp [World.frozen?, hg]⟩
theorem three_cells {w : World} {b : Nat} {t : TypeId} {v0 v1 v2 : Value} (h : Blk w b t #[v0, v1, v2]) :
    w.cell? ⟨b, 0, none⟩ = some v0 ∧ w.cell? ⟨b, 1, none⟩ = some v1 ∧ w.cell? ⟨b, 2, none⟩ = some v2 ∧ w.frozen? ⟨b, 2, none⟩ = false := ⟨h.cell 0, h.cell 1, h.cell 2, h.frozen 2⟩
set_option maxHeartbeats 1000000 in
theorem taken_nil {w : World} {K : Nat} {sv lv ov : Value} (h : CondsAt w K sv lv ov []) :
    Calls Tryz.prog 33 #[.pointer (some ⟨K, 0, none⟩)] w fun e w' => e = .returned (.bool true) ∧ ∃ n, w' = w.drewN n := by
  obtain ⟨A0, cp0, rfl⟩ := own_slice h.own
  obtain ⟨c0, c1, c2, -⟩ := three_cells h.blk
  simp only [List.length_nil] at c2
  clear h
  go_enter Tryz.func33, Tryz.ntmps33
  go_wp2_with fail
  go_quiet (fail)
  go_wp2_with fail
  go_ret
  exact ⟨rfl, _, rfl⟩
set_option maxHeartbeats 1000000 in
theorem taken_last {w : World} {K : Nat} {sv lv ov : Value} {o : List Px.Cond} {c : Px.Cond} (h : CondsAt w K sv lv ov (o ++ [c])) (hn : o.length ≤ 1000) :
    Calls Tryz.prog 33 #[.pointer (some ⟨K, 0, none⟩)] w fun e w' => e = .returned (.bool c.now) ∧ ∃ n, w' = w.drewN n := by
  obtain ⟨c0, c1, c2, -⟩ := three_cells h.blk
  obtain ⟨g, cp, rfl, hg, hgl, d0, d1, d2, d3, d4, -⟩ := h.last
  clear h
  generalize o.length = n at *
  have e1 : ((n : Int) + 1 == 0) = false := by simp; omega
  have e2 : ¬ (n : Int) + 1 = 0 := by omega
  go_enter Tryz.func33, Tryz.ntmps33
  go_wp2_with fail
  go_quiet (fail)
  go_wp2_with fail
  go_ret
  exact ⟨rfl, _, rfl⟩
/-- what is thrown -/
def wrong (e l : Int) : List PanicEntry := [{ v := .iface 88 (.agg #[.int .i64 e, .int .i64 l]), recovered := false }]
set_option maxHeartbeats 1000000 in
theorem must_yes (w : World) (e : Int) (p : Value) : Calls Tryz.prog 54 #[.bool true, .int .i64 e, p] w fun en w' => en = .returned (.tuple #[]) ∧ w = w' := by
  go_enter Tryz.func54, Tryz.ntmps54
  go_wp2_with fail
  go_end0
  exact ⟨rfl, rfl⟩
end Go.Proofs.YtiopaenonjhlnaaGreatDoor
namespace Go.Proofs.YtiopaenonjhlnaaGreatDoor
set_option maxRecDepth 8000
open Go.RowKit
open Lx (Bytes)

/-- a cell of an own row is written -/
theorem own_set {w : World} {B : Nat} {e : TypeId} {size n cp g : Nat} {xs : List Value} (h : w.ownsRow B e size (.slice (some ⟨g, 0, none⟩) n cp) n xs) (i : Nat) (v : Value) :
    (w.setCell ⟨g, i, none⟩ v).ownsRow B e size (.slice (some ⟨g, 0, none⟩) n cp) n (xs.set i v) := by
  refine ⟨by rw [List.length_set]; exact h.1, h.2.imp id ?_⟩
  rintro ⟨g', cap, cur, e1, hb, hg, h1, h2, h3, h4⟩
  injection e1 with e2 e3 e4
  injection e2 with e2
  injection e2 with e2
  subst e2
  refine ⟨g, cap, cur.setIfInBounds i v, by rw [e4], hb, ?_, h1, h2, by simpa using h3, ?_⟩
  · simp [World.setCell, Array.getElem?_modify, hg]
  · rw [Array.toList_setIfInBounds, List.take_set, h4]
theorem set_tail (o : List Px.Cond) (L : List Value) (i : Nat) (v : Value) : (condCells o ++ L).set (o.length * 5 + i) v = condCells o ++ L.set i v := by
  rw [List.set_append_right _ _ (by rw [condCells_len]; omega), condCells_len]
  congr 2
  omega
/-- what do leaves -/
def DoPost (w : World) (K : Nat) (sv lv ov : Value) (o' : List Px.Cond) (e : Ending) (w' : World) : Prop :=
  e = .returned (.tuple #[]) ∧ ∃ ov', CondsAt w' K sv lv ov' o' ∧ Turns (fun b => b = K ∨ ov.ownBlock = some b) w w' ∧ (ov'.ownBlock = ov.ownBlock ∨ ∃ b, ov'.ownBlock = some b ∧ w.heap.size ≤ b)
theorem CondsAt.set3 {w w1 : World} {K : Nat} {sv lv : Value} {o : List Px.Cond} {c : Px.Cond} {g cp n : Nat} (h : CondsAt w K sv lv (.slice (some ⟨g, 0, none⟩) (n + 1) cp) (o ++ [c])) (hn : o.length = n) (ht : Turns Nothing w w1) (hg : K + 1 ≤ g) (a b d : Bool) :
    DoPost w K sv lv (.slice (some ⟨g, 0, none⟩) (n + 1) cp) (o ++ [⟨c.line, c.around, a, b, d⟩]) (.returned (.tuple #[])) (((w1.setCell ⟨g, n * 5 + 4, none⟩ (.bool d)).setCell ⟨g, n * 5 + 2, none⟩ (.bool a)).setCell ⟨g, n * 5 + 3, none⟩ (.bool b)) := by
  subst hn
  have h1 := h.still ht
  have hne : K ≠ g := by omega
  refine ⟨rfl, _, ⟨((h1.blk.far (p := ⟨g, _, none⟩) hne _).far (p := ⟨g, _, none⟩) hne _).far (p := ⟨g, _, none⟩) hne _, ?_⟩, ?_, .inl rfl⟩
  · have ho := h1.own
    rw [List.length_append, List.length_singleton] at ho ⊢
    have h3 := own_set (own_set (own_set ho (o.length * 5 + 4) (.bool d)) (o.length * 5 + 2) (.bool a)) (o.length * 5 + 3) (.bool b)
    rw [condCells_last, set_tail, set_tail, set_tail] at h3
    rw [condCells_last]
    exact h3
  · exact (((ht.mono fun _ _ e => e.elim).setCell (p := ⟨g, _, none⟩) (.inl (.inr rfl)) _).setCell (p := ⟨g, _, none⟩) (.inl (.inr rfl)) _).setCell (p := ⟨g, _, none⟩) (.inl (.inr rfl)) _

set_option maxHeartbeats 2000000 in
theorem do_else {w : World} {K : Nat} {sv lv ov dv : Value} {o : List Px.Cond} {c : Px.Cond} {x : Px.PW} (h : CondsAt w K sv lv ov (o ++ [c])) (hn : o.length ≤ 1000) (hd : PWordsAt w dv [x]) (hx : x.text = Px.tElse) (hl : c.last = false) :
    Calls Tryz.prog 32 #[.pointer (some ⟨K, 0, none⟩), dv] w (DoPost w K sv lv ov (o ++ [⟨c.line, c.around, c.around && !c.was, c.was || (c.around && !c.was), true⟩])) := by
  obtain ⟨b, off, cw, rfl, hc1, hc2, hb, x0, x1, x2, -⟩ := hd.cons
  simp only [List.length_nil, Nat.zero_add] at *
  rw [hx] at x0
  simp only [strV] at x0
  obtain ⟨c0, c1, c2, fK⟩ := three_cells h.blk
  obtain ⟨g, cp, rfl, hg, hgl, d0, d1, d2, d3, d4, hfz⟩ := h.last
  have f2 := hfz (o.length * 5 + 2)
  have f3 := hfz (o.length * 5 + 3)
  have f4 := hfz (o.length * 5 + 4)
  have hKl := h.blk.lt
  have H := Lib.hid h
  obtain ⟨ln, ar, nw, ws, la⟩ := c
  dsimp only at *
  subst hl
  clear h hd x2 hfz
  generalize hon : o.length = n at *
  have HN := Lib.hid hon
  clear hon
  go_enter Tryz.func32, Tryz.ntmps32
  go_wp2_with fail
  go_region
  go_wp2_with (go_at_call 54; refine (must_yes _ _ _).mono ?_; rintro en w' ⟨rfl, rfl⟩)
  go_quiet (fail)
  cases ar <;> cases ws
  all_goals
    go_wp2_with (go_at_call 54; refine (must_yes _ _ _).mono ?_; rintro en w' ⟨rfl, rfl⟩)
    go_end0
    exact H.out.set3 HN.out (((Turns.refl Nothing w).alloc _).drewN _) hg _ _ _
end Go.Proofs.YtiopaenonjhlnaaGreatDoor
namespace Go.Proofs.YtiopaenonjhlnaaGreatDoor
set_option maxRecDepth 8000
open Go.RowKit
open Lx (Bytes)

abbrev bX : ByteArray := ⟨#[120]⟩
abbrev bText : ByteArray := ⟨#[35, 123, 120, 125]⟩
/-- the maker, and its one scope -/
structure MakerAt (w : World) (M S : Nat) (deep steps : Int) : Prop where
  mb : Blk w M 209 #[.slice (some ⟨S, 0, none⟩) 1 1, .int .i64 deep, .int .i64 steps]
  sc : Blk w S 43 #[.slice none 0 0, .slice none 0 0]
  ne : M ≠ S
theorem MakerAt.cells {w : World} {M S : Nat} {deep steps : Int} (h : MakerAt w M S deep steps) : w.cell? ⟨M, 0, none⟩ = some (.slice (some ⟨S, 0, none⟩) 1 1) ∧ w.cell? ⟨M, 1, none⟩ = some (.int .i64 deep) ∧ w.cell? ⟨M, 2, none⟩ = some (.int .i64 steps) ∧
    w.cell? ⟨S, 0, none⟩ = some (.slice none 0 0) ∧ w.cell? ⟨S, 1, none⟩ = some (.slice none 0 0) ∧ w.frozen? ⟨M, 1, none⟩ = false ∧ w.frozen? ⟨M, 2, none⟩ = false :=
  ⟨h.mb.cell 0, h.mb.cell 1, h.mb.cell 2, h.sc.cell 0, h.sc.cell 1, h.mb.frozen 1, h.mb.frozen 2⟩
theorem MakerAt.still {w w' : World} {M S : Nat} {deep steps : Int} (h : MakerAt w M S deep steps) (ht : Turns Nothing w w') : MakerAt w' M S deep steps := ⟨ht.blk h.mb id, ht.blk h.sc id, h.ne⟩

set_option maxHeartbeats 1000000 in
theorem fmust_yes (w : World) (e : Int) : Calls Tryz.prog 138 #[.bool true, .int .i64 e] w fun en w' => en = .returned (.tuple #[]) ∧ w = w' := by
  go_enter Tryz.func138, Tryz.ntmps138
  go_wp2_with fail
  go_end0
  exact ⟨rfl, rfl⟩
set_option maxHeartbeats 1000000 in
theorem short_nil (w : World) : Calls Tryz.prog 158 #[.string ⟨#[]⟩] w fun e w' => e = .returned (.string ⟨#[]⟩) ∧ w = w' := by
  go_enter Tryz.func158, Tryz.ntmps158
  go_wp2_with (go_at_call 138; refine (fmust_yes _ _).mono ?_; rintro en w' ⟨rfl, rfl⟩)
  go_ret
  exact ⟨rfl, rfl⟩
set_option maxHeartbeats 1000000 in
theorem true_nil (w : World) : Calls Tryz.prog 56 #[.string ⟨#[]⟩] w fun e w' => e = .returned (.bool false) ∧ w' = w := by
  go_enter Tryz.func56, Tryz.ntmps56
  go_wp2_with fail
  go_ret
  exact ⟨rfl, rfl⟩
set_option maxHeartbeats 1000000 in
theorem closing_x (w : World) : Calls Tryz.prog 137 #[.string bText, .int .i64 2] w fun e w' => e = .returned (.int .i64 3) ∧ Turns Nothing w w' := by
  go_enter Tryz.func137, Tryz.ntmps137
  go_wp2_with fail
  refine wp_loop_rounds 2 ?_
  rw [rounds_succ]
  go_wp2_with fail
  rw [rounds_succ]
  go_wp2_with fail
  go_ret
  exact ⟨rfl, Turns.refl _ _⟩
set_option maxHeartbeats 1000000 in
theorem outside_x (w : World) : Calls Tryz.prog 167 #[.string bX, .int .u8 58] w fun e w' => e = .returned (.int .i64 (-1)) ∧ Turns Nothing w w' := by
  go_enter Tryz.func167, Tryz.ntmps167
  go_wp2_with fail
  refine wp_loop_rounds 2 ?_
  rw [rounds_succ]
  go_wp2_with fail
  rw [rounds_succ]
  go_wp2_with fail
  go_ret
  exact ⟨rfl, Turns.refl _ _⟩
set_option maxHeartbeats 1000000 in
theorem in_nil (w : World) (nm : ByteArray) : Calls Tryz.prog 160 #[.agg #[.slice none 0 0, .slice none 0 0], .string nm] w fun e w' => e = .returned (.tuple #[.string ⟨#[]⟩, .bool false]) ∧ Turns Nothing w w' := by
  go_enter Tryz.func160, Tryz.ntmps160
  go_wp2_with fail
  refine wp_loop_rounds 1 ?_
  rw [rounds_succ]
  go_wp2_with fail
  refine bodyPost_ret (results_tmp2 rfl _ _ _) rfl ?_
  exact ⟨rfl, (Turns.refl _ _).alloc _⟩
set_option maxHeartbeats 1000000 in
theorem value_x {w : World} {M S : Nat} {deep steps : Int} (h : MakerAt w M S deep steps) (nm : ByteArray) : Calls Tryz.prog 141 #[.pointer (some ⟨M, 0, none⟩), .string nm] w fun e w' => e = .returned (.tuple #[.string ⟨#[]⟩, .bool false]) ∧ Turns Nothing w w' := by
  obtain ⟨c0, c1, c2, s0, s1, -, -⟩ := h.cells
  have H := Lib.hid h
  clear h
  go_enter Tryz.func141, Tryz.ntmps141
  go_wp2_with fail
  refine wp_loop_rounds 2 ?_
  rw [rounds_succ]
  go_wp2_with (go_at_call 160; refine (in_nil _ _).mono ?_; rintro en w1 ⟨rfl, ht⟩; have HT := Lib.hid ht; clear ht)
  rw [rounds_succ]
  go_wp2_with fail
  refine bodyPost_ret (results_tmp2 rfl _ _ _) rfl ?_
  exact ⟨rfl, HT.out⟩
set_option maxHeartbeats 1000000 in
theorem made_x {w : World} {M S : Nat} {deep steps : Int} (h : MakerAt w M S deep steps) : Calls Tryz.prog 159 #[.pointer (some ⟨M, 0, none⟩), .string bX] w fun e w' => e = .returned (.string ⟨#[]⟩) ∧ Turns Nothing w w' := by
  have H := Lib.hid h
  clear h
  go_enter Tryz.func159, Tryz.ntmps159
  go_wp2_with fail
  refine (Tryz.strings_CutPrefix _ _ _).mono ?_
  rintro e w1 ⟨rfl, rfl⟩
  go_wp2_with fail
  refine (outside_x _).mono ?_
  rintro e w2 ⟨rfl, ht⟩
  have H2 := Lib.hid (H.out.still ht)
  have HT := Lib.hid ht
  clear ht
  go_wp2_with fail
  refine (value_x H2.out _).mono ?_
  rintro e w3 ⟨rfl, ht⟩
  have HT2 := Lib.hid (HT.out.same ht)
  clear ht
  go_wp2_with fail
  go_ret
  exact ⟨rfl, HT2.out⟩
set_option maxHeartbeats 1000000 in
theorem step_x {w : World} {M S : Nat} {deep : Int} (h : MakerAt w M S deep 0) : Calls Tryz.prog 157 #[.pointer (some ⟨M, 0, none⟩)] w fun e w' => e = .returned (.tuple #[]) ∧ w' = w.setCell ⟨M, 2, none⟩ (.int .i64 1) := by
  obtain ⟨c0, c1, c2, s0, s1, f1, f2⟩ := h.cells
  clear h
  go_enter Tryz.func157, Tryz.ntmps157
  go_wp2_with (go_at_call 138; refine (fmust_yes _ _).mono ?_; rintro en w' ⟨rfl, rfl⟩)
  go_end0
  exact ⟨rfl, rfl⟩
theorem MakerAt.set2 {w : World} {M S : Nat} {deep steps : Int} (h : MakerAt w M S deep steps) (n : Int) : MakerAt (w.setCell ⟨M, 2, none⟩ (.int .i64 n)) M S deep n := ⟨h.mb.set_ 2 _, h.sc.far (p := ⟨M, 2, none⟩) (fun e => h.ne e.symm) _, h.ne⟩
theorem MakerAt.set1 {w : World} {M S : Nat} {deep steps : Int} (h : MakerAt w M S deep steps) (n : Int) : MakerAt (w.setCell ⟨M, 1, none⟩ (.int .i64 n)) M S n steps := ⟨h.mb.set_ 1 _, h.sc.far (p := ⟨M, 1, none⟩) (fun e => h.ne e.symm) _, h.ne⟩
set_option maxHeartbeats 1000000 in
theorem expression_x {w : World} {M S : Nat} (h : MakerAt w M S 0 0) : Calls Tryz.prog 139 #[.pointer (some ⟨M, 0, none⟩), .string bX] w fun e w' => e = .returned (.string ⟨#[]⟩) ∧ MakerAt w' M S 0 1 ∧ Turns (Only M) w w' := by
  obtain ⟨c0, c1, c2, s0, s1, f1, f2⟩ := h.cells
  have H := Lib.hid h
  clear h
  go_enter Tryz.func139, Tryz.ntmps139
  go_wp2_with (go_at_call 138; refine (fmust_yes _ _).mono ?_; rintro en w' ⟨rfl, rfl⟩)
  refine (step_x H.out).mono ?_
  rintro e w1 ⟨rfl, rfl⟩
  have H1 := Lib.hid ((H.out.set2 1).set1 1)
  go_wp2_with fail
  refine (made_x H1.out).mono ?_
  rintro e w2 ⟨rfl, ht⟩
  have H2 := Lib.hid (H1.out.still ht)
  have HT := Lib.hid ((((Turns.refl (Only M) w).setCell (p := ⟨M, 2, none⟩) (.inl rfl) (.int .i64 1)).setCell (p := ⟨M, 1, none⟩) (.inl rfl) (.int .i64 1)).same (ht.mono fun _ _ e => e.elim))
  clear ht c0 c1 c2 s0 s1 f1 f2
  obtain ⟨c0, c1, c2, s0, s1, f1, f2⟩ := H2.out.cells
  go_wp2_with (go_at_call 158; refine (short_nil _).mono ?_; rintro en w' ⟨rfl, rfl⟩)
  go_ret
  exact ⟨rfl, H2.out.set1 0, HT.out.setCell (p := ⟨M, 1, none⟩) (.inl rfl) _⟩
theorem A.conv_nil (w : World) : (convert 64 9 (.slice none 0 0)).run Tryz.prog w = .ok (.string ⟨#[]⟩) w := by kernel_rfl
set_option maxHeartbeats 2000000 in
theorem text_x {w : World} {M S : Nat} (h : MakerAt w M S 0 0) : Calls Tryz.prog 125 #[.pointer (some ⟨M, 0, none⟩), .string bText] w fun e w' => e = .returned (.string ⟨#[]⟩) ∧ MakerAt w' M S 0 1 ∧ Turns (Only M) w w' := by
  have H := Lib.hid h
  have hx : bText.extract 2 3 = bX := by kernel_rfl
  have hcv := A.conv_nil
  clear h
  go_enter Tryz.func125, Tryz.ntmps125
  go_wp2_with fail
  refine wp_loop_rounds 2 ?_
  rw [rounds_succ]
  go_wp2_with fail
  refine (closing_x _).mono ?_
  rintro e w1 ⟨rfl, ht⟩
  have H1 := Lib.hid (H.out.still ht)
  have HT := Lib.hid ht
  clear ht
  go_wp2_with (go_at_call 138; refine (fmust_yes _ _).mono ?_; rintro en w' ⟨rfl, rfl⟩)
  refine (expression_x H1.out).mono ?_
  rintro e w2 ⟨rfl, hm, ht⟩
  have H2 := Lib.hid hm
  have HT2 := Lib.hid ((HT.out.mono fun _ _ e => e.elim).same ht)
  clear hm ht
  go_wp2_with (go_at_call 138; refine (fmust_yes _ _).mono ?_; rintro en w' ⟨rfl, rfl⟩)
  rw [rounds_succ]
  go_wp2_with fail
  go_ret
  exact ⟨rfl, H2.out, HT2.out⟩
theorem A.fassert_no (w : World) : (Instr.typeAssert .nilIface 20 37 true).run Tryz.prog w = .ok (.tuple #[.int .i64 0, .bool false]) w := by kernel_rfl
theorem fwp_frame {P : Program} {co : Code} {Q : Exit → Act → World → Prop} {tmps tmps' : Array Value} {d : List Deferred} {w : World} (h : tmps = tmps') (hw : co.wp P Q { tmps := tmps', defers := d } w) : co.wp P Q { tmps := tmps, defers := d } w := by rw [h]; exact hw
set_option maxHeartbeats 400000 in
/-- nothing is thrown: nothing happens -/
theorem fcatch_idle (w : World) (args : Array Value) (a b c : Nat) (hargs : args = #[.pointer (some ⟨a, 0, none⟩), .pointer (some ⟨b, 0, none⟩), .pointer (some ⟨c, 0, none⟩)]) :
    CallsD Tryz.prog 124 args .returning w fun e' u' w' => e' = .returned (.tuple #[]) ∧ u' = .returning ∧ Turns Nothing w w' := by
  subst hargs
  refine callsD_of_wpS Tryz.func124 rfl fun c₀ cs hu => ?_
  apply wpS_seq
  apply wpS_region
  simp [wpOpsS, go_sem, recoverD, hu, Tryz.ntmps124, Exit.thenS]
  refine wpS_of_wp ?_
  refine Code.wp_mono (Q := fun ex act w' => (ex = .normal ∨ ex = .ret) ∧ act.defers = [] ∧ Turns Nothing w w') ?_ ?_
  · rintro ex act w' ⟨hex, hd, ht⟩
    rcases hex with rfl | rfl
    all_goals
      refine ⟨hd, .returning, ?_, .tuple #[], by simp [results, Tryz.results124], rfl, rfl, ht⟩
      cases c₀
      simp_all
  clear hu
  refine fwp_frame (tmps' := #[.pointer (some ⟨a, 0, none⟩), .pointer (some ⟨b, 0, none⟩), .pointer (some ⟨c, 0, none⟩), .nilIface, undef, undef, .nilIface, undef, undef, undef, undef, undef, undef, undef, undef, undef, undef, undef]) (by kernel_rfl) ?_
  go_wp2_with fail
  exact Turns.refl _ w
abbrev scopeN : Value := .agg #[.slice none 0 0, .slice none 0 0]
/-- the world in which the text is expanded -/
def startX (w : World) : World := (((((w.alloc (.cells #[.slice none 0 0, .slice none 0 0] 43)).alloc (.cells #[.string ⟨#[]⟩] 9)).alloc (.cells #[.int .i64 0] 3)).alloc (.cells #[.int .i64 0] 37)).alloc
  (.cells #[.slice none 0 0, .slice none 0 0] 43)).alloc (.cells #[.slice (some ⟨w.heap.size + 1 + 1 + 1 + 1, 0, none⟩) 1 1, .int .i64 0, .int .i64 0] 209)
structure ResX (w w1 : World) : Prop where
  a : Blk w1 (w.heap.size + 1) 9 #[.string ⟨#[]⟩]
  b : Blk w1 (w.heap.size + 1 + 1) 3 #[.int .i64 0]
  c : Blk w1 (w.heap.size + 1 + 1 + 1) 37 #[.int .i64 0]
  turns : Turns Nothing w w1
theorem start_x (w : World) : MakerAt (startX w) (w.heap.size + 1 + 1 + 1 + 1 + 1) (w.heap.size + 1 + 1 + 1 + 1) 0 0 ∧ ResX w (startX w) := by
  have hT : Turns Nothing w (startX w) := ((((((Turns.refl Nothing w).alloc _).alloc _).alloc _).alloc _).alloc _).alloc _
  refine ⟨⟨?_, ?_, by omega⟩, ?_, ?_, ?_, hT⟩
  · exact blk_new_at (by simp [go_sem])
  · exact Blk.alloc (blk_new_at (by simp [go_sem])) _
  · exact Blk.alloc (Blk.alloc (Blk.alloc (Blk.alloc (blk_new_at (by simp [go_sem])) _) _) _) _
  · exact Blk.alloc (Blk.alloc (Blk.alloc (blk_new_at (by simp [go_sem])) _) _) _
  · exact Blk.alloc (Blk.alloc (blk_new_at (by simp [go_sem])) _) _
theorem ResX.only {w w1 w2 : World} (h : ResX w w1) (ht : Turns (Only (w.heap.size + 1 + 1 + 1 + 1 + 1)) w1 w2) : ResX w w2 :=
  ⟨ht.blk h.a (fun e => by have : w.heap.size + 1 = _ := e; omega), ht.blk h.b (fun e => by have : w.heap.size + 1 + 1 = _ := e; omega), ht.blk h.c (fun e => by have : w.heap.size + 1 + 1 + 1 = _ := e; omega),
   h.turns.trans ht fun b hb e => by have : b = _ := e; omega⟩
theorem ResX.set0 {w w2 : World} (h : ResX w w2) : ResX w (w2.setCell ⟨w.heap.size + 1, 0, none⟩ (.string ⟨#[]⟩)) :=
  ⟨h.a.set_ 0 (.string ⟨#[]⟩), h.b.far (p := ⟨w.heap.size + 1, 0, none⟩) (by dsimp only; omega) _, h.c.far (p := ⟨w.heap.size + 1, 0, none⟩) (by dsimp only; omega) _, h.turns.setCell (p := ⟨w.heap.size + 1, 0, none⟩) (.inr (by dsimp only; omega)) _⟩
theorem ResX.done {w w2 w3 : World} {n : Int} (h : ResX w w2) (hc : Turns Nothing ((((w2.setCell ⟨w.heap.size + 1, 0, none⟩ (.string ⟨#[]⟩)).setCell ⟨w.heap.size + 1 + 1, 0, none⟩ (.int .i64 n)).setCell ⟨w.heap.size + 1 + 1 + 1, 0, none⟩ (.int .i64 0)).drewN 1) w3) :
    w3.cell? ⟨w.heap.size + 1, 0, none⟩ = some (.string ⟨#[]⟩) ∧ w3.cell? ⟨w.heap.size + 1 + 1, 0, none⟩ = some (.int .i64 n) ∧ w3.cell? ⟨w.heap.size + 1 + 1 + 1, 0, none⟩ = some (.int .i64 0) ∧ Turns Nothing w w3 := by
  have a1 := ((h.a.set_ 0 (.string ⟨#[]⟩)).far (p := ⟨w.heap.size + 1 + 1, 0, none⟩) (by dsimp only; omega) (.int .i64 n)).far (p := ⟨w.heap.size + 1 + 1 + 1, 0, none⟩) (by dsimp only; omega) (.int .i64 0)
  have b1 := ((h.b.far (p := ⟨w.heap.size + 1, 0, none⟩) (by dsimp only; omega) (.string ⟨#[]⟩)).set_ 0 (.int .i64 n)).far (p := ⟨w.heap.size + 1 + 1 + 1, 0, none⟩) (by dsimp only; omega) (.int .i64 0)
  have c1 := ((h.c.far (p := ⟨w.heap.size + 1, 0, none⟩) (by dsimp only; omega) (.string ⟨#[]⟩)).far (p := ⟨w.heap.size + 1 + 1, 0, none⟩) (by dsimp only; omega) (.int .i64 n)).set_ 0 (.int .i64 0)
  refine ⟨((hc.blk (a1.drewN 1) id).cell 0).trans rfl, ((hc.blk (b1.drewN 1) id).cell 0).trans rfl, ((hc.blk (c1.drewN 1) id).cell 0).trans rfl, ?_⟩
  exact ((((h.turns.setCell (p := ⟨w.heap.size + 1, 0, none⟩) (.inr (by dsimp only; omega)) _).setCell (p := ⟨w.heap.size + 1 + 1, 0, none⟩) (.inr (by dsimp only; omega)) _).setCell (p := ⟨w.heap.size + 1 + 1 + 1, 0, none⟩) (.inr (by dsimp only; omega)) _).drewN 1).same hc
set_option maxHeartbeats 2000000 in
theorem expanded_x (w : World) : Calls Tryz.prog 93 #[.string bText, scopeN] w fun e w' => (∃ n, e = .returned (.tuple #[.string ⟨#[]⟩, .int .i64 n, .int .i64 0])) ∧ Turns Nothing w w' := by
  have hmf : ∀ (fn : Fn) (first cap : Array Value) (w : World), (Instr.makeFunc fn first cap).run Tryz.prog w = .ok (.func fn first cap) w := fun _ _ _ _ => rfl
  go_enter_defers Tryz.func93, Tryz.ntmps93
  go_wp2_with fail
  refine (text_x (start_x w).1).mono ?_
  rintro e w2 ⟨rfl, hm, ht⟩
  have hr := (start_x w).2.only ht
  obtain ⟨m0, m1, m2, -, -, -, -⟩ := hm.cells
  have ca := hr.a.cell 0
  have cb := hr.b.cell 0
  have cc := hr.c.cell 0
  have fa := hr.a.frozen 0
  have fb := hr.b.frozen 0
  have fc := hr.c.frozen 0
  simp at ca cb cc
  have HR := Lib.hid hr
  clear hm ht hr
  go_wp2_with fail
  go_region
  go_wp2_with fail
  refine leaves_cons (f := 124) (args := #[.pointer (some ⟨w.heap.size + 1, 0, none⟩), .pointer (some ⟨w.heap.size + 1 + 1, 0, none⟩), .pointer (some ⟨w.heap.size + 1 + 1 + 1, 0, none⟩)]) (by simp) (by simp [go_sem]) ?_
  refine (fcatch_idle _ _ (w.heap.size + 1) (w.heap.size + 1 + 1) (w.heap.size + 1 + 1 + 1) rfl).mono ?_
  rintro e u w3 ⟨rfl, rfl, hc⟩
  have hd := HR.out.set0.done hc
  have da := hd.1
  have db := hd.2.1
  have dc := hd.2.2.1
  simp [Leaves, settle, results, Tryz.results93, go_sem, da, db, dc]
  exact hd.2.2.2
set_option maxHeartbeats 1000000 in
theorem expand_x (w : World) : Calls Tryz.prog 55 #[.string bText, scopeN] w fun e w' => e = .returned (.tuple #[.string ⟨#[]⟩, .int .i64 0]) ∧ Turns Nothing w w' := by
  go_enter Tryz.func55, Tryz.ntmps55
  go_wp2_with fail
  refine (expanded_x _).mono ?_
  rintro e w1 ⟨⟨n, rfl⟩, ht⟩
  go_wp2_with fail
  refine bodyPost_ret (results_tmp2 rfl _ _ _) rfl ?_
  exact ⟨rfl, ((Turns.refl _ w).alloc _).same ht⟩
end Go.Proofs.YtiopaenonjhlnaaGreatDoor
namespace Go.Proofs.YtiopaenonjhlnaaGreatDoor
set_option maxRecDepth 8000
open Go.RowKit
open Lx (Bytes)

theorem A.info_cond : (Tryz.prog.info? 106).map (fun i => (i.zero, i.size, i.bytes)) = some (some (.agg #[.int .i64 0, .bool false, .bool false, .bool false, .bool false]), 5, 16) := by kernel_rfl
/-- behind the condition's being opened -/
def IfMid (w : World) (K : Nat) (ov : Value) (line : Int) (wx : World) : Prop := ∃ ov', CondsAt wx K (.slice none 0 0) (.slice none 0 0) ov' [⟨line, true, false, false, false⟩] ∧ Turns (fun b => b = K ∨ ov.ownBlock = some b) w wx ∧
  (ov'.ownBlock = ov.ownBlock ∨ ∃ b, ov'.ownBlock = some b ∧ w.heap.size ≤ b) ∧ Blk wx w.heap.size 3 #[.int .i64 line]
theorem if_mid {w w1 w2 : World} {K cp0 cp1 N : Nat} {A0 A1 : Option Addr} {line : Int} (T1 : Turns Nothing w w1) (ho1 : w2.ownsRow (K + 1) 106 5 (.slice A1 1 cp1) 1 [.int .i64 line, .bool true, .bool false, .bool false, .bool false])
    (kb : Blk w2 K 93 #[.slice none 0 0, .slice none 0 0, .slice A0 0 cp0]) (hT2 : Turns (fun b => (Value.slice A0 0 cp0).ownBlock = some b) w1 w2) (hat : (Value.slice A1 1 cp1).ownBlock = (Value.slice A0 0 cp0).ownBlock ∨ (Value.slice A1 1 cp1).ownBlock = some N) (hN : w.heap.size ≤ N)
    (kl : Blk w2 w.heap.size 3 #[.int .i64 line]) (hK : K < w.heap.size) : IfMid w K (.slice A0 0 cp0) line (w2.setCell ⟨K, 2, none⟩ (.slice A1 1 cp1)) := by
  refine ⟨_, ⟨kb.set_ 2 _, ?_⟩, ?_, ?_, kl.far (p := ⟨K, 2, none⟩) (by dsimp only; omega) _⟩
  · refine ((Turns.refl (Only K) w2).setCell (p := ⟨K, 2, none⟩) (.inl rfl) _).own ho1 fun g hg e => ?_
    have := (ho1.lt g hg).1
    have e2 : g = K := e
    omega
  · exact ((T1.mono (S' := fun b => b = K ∨ (Value.slice A0 0 cp0).ownBlock = some b) fun _ _ e => e.elim).same (hT2.mono fun b _ e => .inr e)).setCell (p := ⟨K, 2, none⟩) (.inl (.inl rfl)) _
  · rcases hat with e | e
    · exact .inl e
    · exact .inr ⟨_, e, hN⟩
theorem cond_set2 {w : World} {K g cp : Nat} {line : Int} {ar nw ws la : Bool} (h : CondsAt w K (.slice none 0 0) (.slice none 0 0) (.slice (some ⟨g, 0, none⟩) 1 cp) [⟨line, ar, nw, ws, la⟩]) (hg : K + 1 ≤ g) (la' nw' : Bool) :
    CondsAt ((w.setCell ⟨g, 4, none⟩ (.bool la')).setCell ⟨g, 2, none⟩ (.bool nw')) K (.slice none 0 0) (.slice none 0 0) (.slice (some ⟨g, 0, none⟩) 1 cp) [⟨line, ar, nw', ws, la'⟩] :=
  ⟨(h.blk.far (p := ⟨g, 4, none⟩) (by dsimp only; omega) _).far (p := ⟨g, 2, none⟩) (by dsimp only; omega) _, own_set (own_set h.own 4 (.bool la')) 2 (.bool nw')⟩
theorem cond_set23 {w : World} {K g cp : Nat} {line : Int} {ar nw ws la : Bool} (h : CondsAt w K (.slice none 0 0) (.slice none 0 0) (.slice (some ⟨g, 0, none⟩) 1 cp) [⟨line, ar, nw, ws, la⟩]) (hg : K + 1 ≤ g) (nw' ws' : Bool) :
    CondsAt ((w.setCell ⟨g, 2, none⟩ (.bool nw')).setCell ⟨g, 3, none⟩ (.bool ws')) K (.slice none 0 0) (.slice none 0 0) (.slice (some ⟨g, 0, none⟩) 1 cp) [⟨line, ar, nw', ws', la⟩] :=
  ⟨(h.blk.far (p := ⟨g, 2, none⟩) (by dsimp only; omega) _).far (p := ⟨g, 3, none⟩) (by dsimp only; omega) _, own_set (own_set h.own 2 (.bool nw')) 3 (.bool ws')⟩
theorem if_post {w wc w4 w5 : World} {K g cp : Nat} {ov : Value} {line : Int} (h1 : Turns (fun b => b = K ∨ ov.ownBlock = some b) w wc) (hat : (Value.slice (some ⟨g, 0, none⟩) 1 cp).ownBlock = ov.ownBlock ∨ ∃ b, (Value.slice (some ⟨g, 0, none⟩) 1 cp).ownBlock = some b ∧ w.heap.size ≤ b)
    (h4 : Turns (Only g) wc w4) (h5 : Turns Nothing w4 w5) (hc : CondsAt w5 K (.slice none 0 0) (.slice none 0 0) (.slice (some ⟨g, 0, none⟩) 1 cp) [⟨line, true, true, false, false⟩]) (hg : K + 1 ≤ g) :
    DoPost w K (.slice none 0 0) (.slice none 0 0) ov [⟨line, true, false, false, false⟩] (.returned (.tuple #[])) ((w5.setCell ⟨g, 2, none⟩ (.bool false)).setCell ⟨g, 3, none⟩ (.bool false)) := by
  refine ⟨rfl, _, cond_set23 hc hg false false, ?_, hat⟩
  have h6 := ((h4.same (h5.mono fun _ _ e => e.elim)).setCell (p := ⟨g, 2, none⟩) (.inl rfl) (.bool false)).setCell (p := ⟨g, 3, none⟩) (.inl rfl) (.bool false)
  refine h1.trans h6 fun b hb e => ?_
  have e2 : b = g := e
  subst e2
  rcases hat with e | ⟨b', e, hb'⟩
  · exact .inr e.symm
  · have e3 : some b = some b' := e
    injection e3 with e3
    omega
set_option maxHeartbeats 2000000 in
theorem do_if {w0 w : World} {K : Nat} {ov dv : Value} {x y : Px.PW} (h : CondsAt w K (.slice none 0 0) (.slice none 0 0) ov []) (hd : PWordsAt w0 dv [x, y]) (h0 : Turns Nothing w0 w) (hlow : w0.heap.size ≤ K) (hx : x.text = Px.tIf) (hy : y.text = [35, 123, 120, 125]) :
    Calls Tryz.prog 32 #[.pointer (some ⟨K, 0, none⟩), dv] w (DoPost w K (.slice none 0 0) (.slice none 0 0) ov [⟨x.line, true, false, false, false⟩]) := by
  obtain ⟨b, off, cw, rfl, hc1, hc2, hb, x0, x1, x2, htl⟩ := hd.cons
  have hcw : ¬ cw = 0 := by simp at hc2; omega
  rw [if_neg hcw] at htl
  obtain ⟨b', off', cw', e', -, -, hb', y0, -, -, -⟩ := htl.cons
  have : b' = b ∧ off' = off + 3 := by
    injection e' with e'
    injection e' with e'
    injection e' with e1 e2
    exact ⟨e1.symm, e2.symm⟩
  obtain ⟨rfl, rfl⟩ := this
  have hbK : b' < K := by omega
  have x0 := (h0.cell (p := ⟨b', off, none⟩) hb id).trans x0
  have x1 := (h0.cell (p := ⟨b', off + 1, none⟩) hb id).trans x1
  have y0 := (h0.cell (p := ⟨b', off + 3, none⟩) hb id).trans y0
  have hb : b' < w.heap.size := Nat.lt_of_lt_of_le hb h0.size
  rw [hx] at x0
  rw [hy] at y0
  simp only [strV] at x0 y0
  have y0w := y0
  obtain ⟨A0, cp0, rfl⟩ := own_slice h.own
  obtain ⟨c0, c1, c2, fK⟩ := three_cells h.blk
  have hKl := h.blk.lt
  have H := Lib.hid h
  obtain ⟨i0, hi0, hz0, hz1, hz2⟩ := info_parts A.info_cond
  clear h hd htl x2 e' hc2 h0 hlow
  simp only [List.length_cons, List.length_nil, Nat.zero_add] at *
  go_enter Tryz.func32, Tryz.ntmps32
  go_wp2_with fail
  go_region
  go_upto_region 6 with (go_at_call 54; refine (must_yes _ _ _).mono ?_; rintro en w' ⟨rfl, rfl⟩)
  have T1 := ((Turns.refl Nothing w).alloc (.cells #[.int .i64 x.line] 3)).drewN 1
  have L1 := (Blk.new w 3 #[.int .i64 x.line]).drewN 1
  change Turns Nothing w (w.alloc (.cells #[.int .i64 x.line] 3)).drew at T1
  change Blk (w.alloc (.cells #[.int .i64 x.line] 3)).drew _ _ _ at L1
  generalize (w.alloc (.cells #[.int .i64 x.line] 3)).drew = w1 at T1 L1 ⊢
  have c2 := (T1.cell (p := ⟨K, 2, none⟩) hKl id).trans c2
  have c0 := (T1.cell (p := ⟨K, 0, none⟩) hKl id).trans c0
  have c1 := (T1.cell (p := ⟨K, 1, none⟩) hKl id).trans c1
  have y0 := (T1.cell (p := ⟨b', off + 3, none⟩) hb id).trans y0
  have HY := Lib.hid y0w
  have l0 := L1.cell 0
  simp at l0
  have hKl1 := Nat.lt_of_lt_of_le hKl T1.size
  have hwl1 := L1.lt
  have HTK := Lib.hid (fun (W : World) (ht : Turns Nothing w1 W) => taken_nil (H.out.still (T1.same ht)))
  have HOW := Lib.hid (fun (W : World) (ht : Turns Nothing w1 W) => (H.out.still (T1.same ht)).own)
  have HKB := Lib.hid (T1.blk H.out.blk id)
  have hne : Hid (some K ≠ (Value.slice A0 0 cp0).ownBlock) := Lib.hid fun e => by have := (H.out.own.lt _ e.symm).1; omega
  have HKW := Lib.hid (fun (W : World) (ht : Turns Nothing w1 W) => ht.blk HKB.out id)
  have hfzK : ∀ i, w1.frozen? ⟨K, i, none⟩ = false := fun i => HKB.out.frozen i
  have fK1 := hfzK 2
  have HT1 := Lib.hid (And.intro T1 L1)
  clear T1 L1 x0 x1 hfzK fK
  have hK2 : ∀ n o, ((w1.drewN n).alloc o).cell? ⟨K, 2, none⟩ = some (.slice A0 0 cp0) := fun n o => ((((Turns.refl Nothing w1).drewN n).alloc o).cell (p := ⟨K, 2, none⟩) hKl1 id).trans c2
  have HLB := Lib.hid (fun (W : World) (ht : Turns Nothing w1 W) => ht.blk HT1.out.2 id)
  have hneL : Hid (some w.heap.size ≠ (Value.slice A0 0 cp0).ownBlock) := Lib.hid fun e => by have := (H.out.own.lt _ e.symm).2; omega
  have hs1 := HT1.out.1.size
  go_cut [7] (fun s7 wx => s7 = .bool true ∧ IfMid w K (.slice A0 0 cp0) x.line wx)
  case first =>
    go_region_law (first
      | (refine step_append_src _ (by rfl) _ _ _ _ (by rfl) (K + 1) 106 i0 _ 5 16 Tryz.underlying91 hi0 hz0 hz1 hz2 (by rfl) (.slice A0 0 cp0) 0 [] (by rfl) (by exact HOW.out _ (by first | exact (Turns.refl _ w1).alloc _ | exact ((Turns.refl _ w1).drewN _).alloc _ | exact (((Turns.refl _ w1).drewN 1).drewN _).alloc _)) _ 1 [.int .i64 x.line, .bool true, .bool false, .bool false, .bool false] (by rfl) (by first | exact psrc_block Tryz.underlying91 (Blk.new w1 _ _) 1 1 rfl (by intro u hu; simp at hu; rcases hu with rfl | rfl | rfl | rfl | rfl <;> rfl)) (by simp only [maxLen]; omega) (by omega) (by simp; omega) ?_; intro A1 cp1 w2 ho1 hg1 hat1; have kb := (HKW.out _ (by first | exact (Turns.refl _ w1).alloc _ | exact ((Turns.refl _ w1).drewN _).alloc _ | exact (((Turns.refl _ w1).drewN 1).drewN _).alloc _)).grown hg1 hne.out; have kl := (HLB.out _ (by first | exact (Turns.refl _ w1).alloc _ | exact ((Turns.refl _ w1).drewN _).alloc _ | exact (((Turns.refl _ w1).drewN 1).drewN _).alloc _)).grown hg1 hneL.out; have k2 := kb.cell 2; have kf := kb.frozen 2; have hT2 := Turns.grown (S := fun b => (Value.slice A0 0 cp0).ownBlock = some b) (w := w1) (by first | exact (Turns.refl _ w1).alloc _ | exact ((Turns.refl _ w1).drewN _).alloc _ | exact (((Turns.refl _ w1).drewN 1).drewN _).alloc _) hg1 (fun _ _ e => e); have HN := Lib.hid (if_mid HT1.out.1 ho1 kb hT2 hat1 (by simp; omega) kl hKl); clear ho1 hg1 hat1 kb hT2 kl)
      | (go_simp; go_at_call 33; refine (HTK.out _ (by first | exact Turns.refl _ w1 | exact (Turns.refl _ w1).drewN 1)).mono ?_; rintro e w' ⟨rfl, n, rfl⟩))
    all_goals
      go_wp2_with fail
      go_meet
      exact ⟨rfl, HN.out⟩
  case rest =>
    obtain ⟨rfl, ov', hc, ht, hat, hl⟩ := hcut
    obtain ⟨g, cp, rfl, hg, hgl, d0, d1, d2, d3, d4, hfz⟩ := CondsAt.last (o := []) hc
    have f2 := hfz 2
    have f3 := hfz 3
    have f4 := hfz 4
    obtain ⟨e0, e1, e2, -⟩ := three_cells hc.blk
    have hnb : ¬ (b' = K ∨ (Value.slice A0 0 cp0).ownBlock = some b') := by
      rintro (e | e)
      · omega
      · have := (H.out.own.lt _ e).1
        omega
    have y0' := (ht.cell (p := ⟨b', off + 3, none⟩) hb hnb).trans HY.out
    have hbc : b' < wc.heap.size := Nat.lt_of_lt_of_le hb ht.size
    have hKc := hc.blk.lt
    simp only [List.length_nil, Nat.zero_mul, Nat.zero_add] at *
    have HC := Lib.hid (And.intro hc (And.intro ht (And.intro hat hl)))
    clear hc ht hat hl hfz
    go_upto_region 8 with (go_at_call 54; refine (must_yes _ _ _).mono ?_; rintro en w' ⟨rfl, rfl⟩)
    go_quiet (fail)
    go_upto_region 15 with (go_at_call 54; refine (must_yes _ _ _).mono ?_; rintro en w' ⟨rfl, rfl⟩)
    have C4 := cond_set2 (HC.out.1.still ((Turns.refl Nothing wc).drewN nq)) hg false true
    have T4 := (((Turns.refl (Only g) wc).drewN nq).setCell (p := ⟨g, 4, none⟩) (.inl rfl) (.bool false)).setCell (p := ⟨g, 2, none⟩) (.inl rfl) (.bool true)
    generalize (((wc.drewN nq).setCell ⟨g, 4, none⟩ (.bool false)).setCell ⟨g, 2, none⟩ (.bool true)) = w4 at C4 T4 ⊢
    have y4 := (T4.cell (p := ⟨b', off + 3, none⟩) hbc (fun e => by have : b' = g := e; omega)).trans y0'
    obtain ⟨e0', e1', e2', -⟩ := three_cells C4.blk
    have hz4 := Nat.lt_of_lt_of_le hbc T4.size
    have hK4 := C4.blk.lt
    have HC4 := Lib.hid (And.intro C4 T4)
    clear C4 T4 d0 d1 d2 d3 d4 f2 f3 f4 e0 e1 e2 y0'
    go_region_with (go_at_call 55; refine (expand_x _).mono ?_; rintro e w5 ⟨rfl, ht5⟩; have H5 := Lib.hid ht5; clear ht5)
    all_goals
      have T5 := ((Turns.refl Nothing w4).drewN 1).same H5.out
      have C5 := HC4.out.1.still T5
      obtain ⟨g', cp', e', -, hgl5, d0, d1, d2, d3, d4, hfz⟩ := CondsAt.last (o := []) C5
      obtain rfl : g = g' := by injection e' with e'; injection e' with e'; injection e'
      have f2 := hfz 2
      have f3 := hfz 3
      simp only [List.length_nil, Nat.zero_mul, Nat.zero_add] at d0 d1 d2 d3 d4
      have HC5 := Lib.hid (And.intro C5 T5)
      clear C5 T5 hfz e'
      go_wp2_with (first
        | (go_at_call 54; refine (must_yes _ _ _).mono ?_; rintro en w' ⟨rfl, rfl⟩)
        | (go_at_call 56; refine (true_nil _).mono ?_; rintro en w' ⟨rfl, rfl⟩))
      go_end0
      exact if_post HC.out.2.1 HC.out.2.2.1 HC4.out.2 HC5.out.2 HC5.out.1 hg
end Go.Proofs.YtiopaenonjhlnaaGreatDoor
