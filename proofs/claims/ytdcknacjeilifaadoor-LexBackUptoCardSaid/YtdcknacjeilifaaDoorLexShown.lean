/- The walk of shown: it answers true. -/
import Derived.Test.YtdcknacjeilifaaDoorLexQuote
import Derived.Test.YtdcknacjeilifaaDoorLexView
import Derived.Test.YtdcknacjeilifaaDoorLexSplit
namespace Go.Proofs.YtdcknacjeilifaaDoor
open Go.RowKit
open Lx (Bytes)

def SplitIn (w : World) (res : Except (Int × Nat) (List Lx.Ln)) (e : Ending) (w' : World) : Prop :=
  Turns Nothing w w' ∧ match res with
  | .ok L => ∃ ov, e = .returned (.tuple #[ov, .int .i64 0, .int .i64 0]) ∧ LinesIn w' w.heap.size ov L
  | .error x => e = .returned (.tuple #[.slice none 0 0, .int .i64 x.1, .int .i64 x.2]) ∧ Lx.Err x.1 ∧ x.2 ≤ 65537
theorem split_in {w : World} {s : ByteArray} {ev : Value} {es : List (ByteArray × ByteArray)} (hen : EnvAt w w.heap.size ev es) :
    Calls Tryd.prog 8 #[.string s, ev] w (SplitIn w (Lx.split (envOf es) (sl s))) := by
  refine (split_any hen).mono ?_
  intro e w' hp
  refine ⟨hp.1, ?_⟩
  have h2 := hp.2
  cases hr : Lx.split (envOf es) (sl s) with
  | ok L =>
    rw [hr] at h2
    obtain ⟨ov, vs, he, hL⟩ := h2
    exact ⟨ov, he, hL.view (Lx.split_good hr)⟩
  | error x =>
    rw [hr] at h2
    exact ⟨h2, Lx.split_err hr⟩

theorem split_ok {w : World} {s : ByteArray} {ev : Value} {es : List (ByteArray × ByteArray)} {L : List Lx.Ln} (hen : EnvAt w w.heap.size ev es) (h : Lx.split (envOf es) (sl s) = .ok L) :
    Calls Tryd.prog 8 #[.string s, ev] w fun e w' => Turns Nothing w w' ∧ ∃ A c, e = .returned (.tuple #[.slice A L.length c, .int .i64 0, .int .i64 0]) ∧ LinesIn w' w.heap.size (.slice A L.length c) L := by
  refine (split_in hen).mono ?_
  intro e w' hp
  rw [h] at hp
  obtain ⟨ht, ov, he, hl⟩ := hp
  obtain ⟨A, c, e1, -⟩ := hl.at_
  rw [e1] at he hl
  exact ⟨ht, A, c, he, hl⟩
theorem split_no {w : World} {s : ByteArray} {ev : Value} {es : List (ByteArray × ByteArray)} {x : Int × Nat} (hen : EnvAt w w.heap.size ev es) (h : Lx.split (envOf es) (sl s) = .error x) :
    Calls Tryd.prog 8 #[.string s, ev] w fun e w' => Turns Nothing w w' ∧ e = .returned (.tuple #[.slice none 0 0, .int .i64 x.1, .int .i64 x.2]) := by
  refine (split_in hen).mono ?_
  intro e w' hp
  rw [h] at hp
  exact ⟨hp.1, hp.2.1⟩

theorem later_zero (l : List Lx.W) : later 0 l = l := by simp [later]
theorem same0 {w : World} {va vb : Value} {l : List Lx.W} (ha : WordsAt w va l) (hb : WordsAt w vb l) (hl : ∀ x ∈ l, x.line ≤ 1000000) :
    Calls Tryd.prog 9 #[va, vb, .int .i64 0] w fun e w' => e = .returned (.bool true) ∧ Turns Nothing w w' :=
  same_in (by_ := 0) (by rw [later_zero]; exact ha) hb hl (by decide)
theorem lit_words (w : World) (cs : Array Value) (e : TypeId) (l : List Lx.W) (hc : cs.toList = wordCells l) (hf : l.length ≤ 256) (n : Nat) (hn : n = l.length) :
    WordsAt (w.alloc (.cells cs e)) (.slice (some ⟨w.heap.size, 0, none⟩) n n) l := by
  subst hn
  refine ⟨⟨_, _, rfl, fun i hi => ⟨w.heap.size, 0, rfl, by simp [go_sem], ?_⟩⟩, hf⟩
  have h := wordCells_at l i hi
  rw [Nat.zero_add, cell_of_row _ w.heap.size _ cs e (0, 0) (heap_alloc_new w _), cell_of_row _ w.heap.size _ cs e (0, 0) (heap_alloc_new w _), cell_of_row _ w.heap.size _ cs e (0, 0) (heap_alloc_new w _)]
  rw [← hc, Array.getElem?_toList, Array.getElem?_toList, Array.getElem?_toList] at h
  exact h
theorem lit_env (w : World) (e : TypeId) (a b c d : ByteArray) (ha : a.size ≤ strMost) (hb : b.size ≤ strMost) (hc : c.size ≤ strMost) (hd : d.size ≤ strMost) :
    EnvAt (w.alloc (.cells #[.string a, .string b, .string c, .string d] e)) (w.alloc (.cells #[.string a, .string b, .string c, .string d] e)).heap.size (.slice (some ⟨w.heap.size, 0, none⟩) 2 2) [(a, b), (c, d)] := by
  refine ⟨⟨_, _, rfl, fun _ => ⟨w.heap.size, 0, rfl, by simp [go_sem], fun i hi => ?_⟩⟩, by simp [maxLen], fun p hp => ?_⟩
  · rw [cell_of_row _ w.heap.size _ _ e (0, 0) (heap_alloc_new w _), cell_of_row _ w.heap.size _ _ e (0, 0) (heap_alloc_new w _)]
    have : i = 0 ∨ i = 1 := by simp at hi; omega
    rcases this with rfl | rfl <;> exact ⟨rfl, rfl⟩
  · simp only [List.mem_cons, List.not_mem_nil, or_false] at hp
    rcases hp with rfl | rfl
    · exact ⟨ha, hb⟩
    · exact ⟨hc, hd⟩
theorem no_env (w : World) (B : Nat) : EnvAt w B (.slice none 0 0) [] := ⟨⟨_, _, rfl, fun h => absurd h (by decide)⟩, by simp [maxLen], fun p hp => by cases hp⟩

theorem quotes_at : Lx.split (envOf [(⟨#[88]⟩, ⟨#[120]⟩), (⟨#[72, 79, 77, 69]⟩, ⟨#[47, 104]⟩)]) (sl ⟨#[97, 32, 39, 98, 32, 99, 39, 32, 34, 100, 92, 110, 36, 88, 34, 32, 126, 47, 101, 32, 59, 32, 102]⟩) =
    .ok [([⟨[97], 1, false⟩, ⟨[98, 32, 99], 1, false⟩, ⟨[100, 10, 120], 1, false⟩, ⟨[47, 104, 47, 101], 1, false⟩], 1), ([⟨[102], 1, false⟩], 1)] := by
  rw [show envOf [(⟨#[88]⟩, ⟨#[120]⟩), (⟨#[72, 79, 77, 69]⟩, ⟨#[47, 104]⟩)] = [([88], [120]), ([72, 79, 77, 69], [47, 104])] from rfl]
  exact Lx.eval_quotes
theorem block_at : Lx.split (envOf []) (sl ⟨#[105, 102, 32, 123, 32, 97, 32, 59, 32, 98, 32, 125]⟩) = .ok [([⟨[105, 102], 1, false⟩, ⟨[32, 97, 32, 59, 32, 98, 32], 1, true⟩], 1)] := Lx.eval_block
theorem open_at : Lx.split (envOf []) (sl ⟨#[39, 120]⟩) = .error (4, 1) := Lx.eval_open
set_option maxHeartbeats 2000000 in
theorem shown_true (w : World) : Calls Tryd.prog 7 #[] w fun e w' => e = .returned (.bool true) ∧ Turns Nothing w w' := by
  go_enter Tryd.func7, Tryd.ntmps7
  go_wp2_with fail
  refine (split_ok (lit_env w _ ⟨#[88]⟩ ⟨#[120]⟩ ⟨#[72, 79, 77, 69]⟩ ⟨#[47, 104]⟩ (by decide) (by decide) (by decide) (by decide)) quotes_at).mono ?_
  rintro e w1 ⟨ht1, A1, c1, rfl, hl1⟩
  have H1 := Lib.hid (((Turns.refl Nothing w).alloc _).trans ht1 fun _ _ e => e)
  have L1 := Lib.hid hl1
  clear ht1 hl1
  go_wp2_with fail
  refine (split_ok (no_env _ _) block_at).mono ?_
  rintro e w2 ⟨ht2, A2, c2, rfl, hl2⟩
  have H2 := Lib.hid (H1.out.same ht2)
  have L2 := Lib.hid hl2
  have L1b := Lib.hid (L1.out.still ht2)
  clear ht2 hl2 L1
  go_wp2_with fail
  refine (split_no (no_env _ _) open_at).mono ?_
  rintro e w3 ⟨ht3, rfl⟩
  have H3 := Lib.hid (H2.out.same ht3)
  have L1 := Lib.hid (L1b.out.still ht3)
  have L2c := Lib.hid (L2.out.still ht3)
  clear ht3 L1b L2 H1 H2
  obtain ⟨b1, A3, c3, rfl, hB1, hb1, x1, y1, z1⟩ := L1.out.cell 0 (by decide)
  obtain ⟨b1', A4, c4, e4, -, -, -, y2, -⟩ := L1.out.cell 1 (by decide)
  obtain ⟨b2, A5, c5, rfl, hB2, hb2, x3, y3, z3⟩ := L2c.out.cell 0 (by decide)
  cases e4
  simp at x1 y1 y2 x3 y3
  have C := Lib.hid (And.intro z1 z3)
  have Y := Lib.hid (And.intro (And.intro y1 hb1) (And.intro y2 (And.intro x3 hb2)))
  clear z1 z3 y1 y2 x3 y3 hB1 hB2 hb1 hb2
  dsimp only
  go_wp2_with fail
  refine (same0 (C.out.1.still ((Turns.refl Nothing w3).alloc _)) (lit_words w3 _ _ [⟨[97], 1, false⟩, ⟨[98, 32, 99], 1, false⟩, ⟨[100, 10, 120], 1, false⟩, ⟨[47, 104, 47, 101], 1, false⟩] rfl (by decide) _ rfl) (by simp)).mono ?_
  rintro e w4 ⟨rfl, ht⟩
  have ht4 := ((Turns.refl Nothing w3).alloc _).same ht
  have x3 := (ht4.cell (p := ⟨b2, 0, none⟩) Y.out.2.2.2 id).trans Y.out.2.2.1
  have H4 := Lib.hid ht4
  clear ht ht4
  go_wp2_with fail
  refine (same0 ((C.out.2.still H4.out).still ((Turns.refl Nothing w4).alloc _)) (lit_words w4 _ _ [⟨[105, 102], 1, false⟩, ⟨[32, 97, 32, 59, 32, 98, 32], 1, true⟩] rfl (by decide) _ rfl) (by simp)).mono ?_
  rintro e w5 ⟨rfl, ht⟩
  have ht5 := H4.out.same (((Turns.refl Nothing w4).alloc _).same ht)
  have y1 := (ht5.cell (p := ⟨b1, 1, none⟩) Y.out.1.2 id).trans Y.out.1.1
  have y2 := (ht5.cell (p := ⟨b1, 3, none⟩) Y.out.1.2 id).trans Y.out.2.1
  have H5 := Lib.hid ht5
  clear ht ht5
  go_wp2_with fail
  refine (quote_any ⟨#[105, 116, 39, 115, 32, 36, 49]⟩ (by decide)).mono ?_
  rintro e w6 ⟨u, rfl, hu, hB⟩
  have hu : u = ⟨#[34, 105, 116, 39, 115, 32, 92, 36, 49, 34]⟩ := sl_inj (hu.trans (by decide))
  subst hu
  have H6 := Lib.hid hB
  clear hB
  go_wp2_with fail
  go_ret
  exact ⟨rfl, H3.out.same (H5.out.same (Turns.of_below H6.out fun b h1 h2 => absurd h2 (by omega)))⟩
end Go.Proofs.YtdcknacjeilifaaDoor
