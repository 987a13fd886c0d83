/- The commands that Split gave, as they lie in memory: each command's words and its group. -/
import Derived.Test.YtedlhdegdlabhaaGreatDoorLexWords
import Derived.Test.YtedlhdegdlabhaaGreatDoorLexEval
namespace Go.Proofs.YtedlhdegdlabhaaGreatDoor
set_option maxRecDepth 8000
open Go.RowKit
open Lx (Bytes)

structure WordsAt (w : World) (v : Value) (l : List Lx.W) : Prop where
  at_ : ∃ A c, v = .slice A l.length c ∧ ∀ i, (h : i < l.length) → ∃ b off, A = some ⟨b, off, none⟩ ∧ b < w.heap.size ∧ w.cell? ⟨b, off + i * 3, none⟩ = some (.string ⟨l[i].text.toArray⟩) ∧
    w.cell? ⟨b, off + i * 3 + 1, none⟩ = some (.int .i64 l[i].line) ∧ w.cell? ⟨b, off + i * 3 + 2, none⟩ = some (.bool l[i].block)
  few : l.length ≤ 256

def later (by_ : Nat) (l : List Lx.W) : List Lx.W := l.map fun x => { x with line := x.line + by_ }

theorem wordCells_at : ∀ (l : List Lx.W) (i : Nat) (h : i < l.length), (wordCells l)[i * 3]? = some (.string ⟨l[i].text.toArray⟩) ∧ (wordCells l)[i * 3 + 1]? = some (.int .i64 l[i].line) ∧ (wordCells l)[i * 3 + 2]? = some (.bool l[i].block)
  | x :: l, 0, _ => ⟨rfl, rfl, rfl⟩
  | x :: l, i + 1, h => by
    have := wordCells_at l i (by simpa using h)
    have e : wordCells (x :: l) = .string ⟨x.text.toArray⟩ :: .int .i64 x.line :: .bool x.block :: wordCells l := rfl
    rw [e, show (i + 1) * 3 = i * 3 + 3 by omega]
    simpa using this
theorem lineCells_at : ∀ (vs : List Value) (l : List Lx.Ln) (i : Nat) (h1 : i < vs.length) (h : i < l.length), vs.length = l.length →
    (lineCells vs l)[i * 2]? = some vs[i] ∧ (lineCells vs l)[i * 2 + 1]? = some (.int .i64 l[i].2)
  | v :: vs, x :: l, 0, _, _, _ => ⟨rfl, rfl⟩
  | v :: vs, x :: l, i + 1, h1, h, he => by
    have := lineCells_at vs l i (by simpa using h1) (by simpa using h) (by simpa using he)
    have e : lineCells (v :: vs) (x :: l) = v :: .int .i64 x.2 :: lineCells vs l := rfl
    rw [e, show (i + 1) * 2 = i * 2 + 2 by omega]
    simpa using this

theorem own_words {w : World} {B : Nat} {v : Value} {l : List Lx.W} (h : w.ownsRow B 53 3 v l.length (wordCells l)) (hf : l.length ≤ 256) : WordsAt w v l := by
  refine ⟨?_, hf⟩
  rcases h.2 with ⟨rfl, h0⟩ | ⟨g, cap, cur, rfl, hb, hg, _⟩
  · exact ⟨none, 0, by rw [h0], fun i hi => by omega⟩
  · refine ⟨_, cap, rfl, fun i hi => ⟨g, 0, rfl, (Array.getElem?_eq_some_iff.1 hg).1, ?_⟩⟩
    have hc := wordCells_at l i hi
    rw [Nat.zero_add, h.cellAt _ (by omega), h.cellAt _ (by omega), h.cellAt _ (by omega)]
    exact hc

/-- commands in memory, as the laws read them -/
structure LinesIn (w : World) (B : Nat) (ov : Value) (L : List Lx.Ln) : Prop where
  at_ : ∃ A c, ov = .slice A L.length c ∧ ∀ i (hi : i < L.length), ∃ b v, A = some ⟨b, 0, none⟩ ∧ B ≤ b ∧ b < w.heap.size ∧ w.cell? ⟨b, i * 2, none⟩ = some v ∧ w.cell? ⟨b, i * 2 + 1, none⟩ = some (.int .i64 L[i].2) ∧ WordsAt w v L[i].1
  good : Lx.Goods 65537 L

theorem LinesAt.view {w : World} {B : Nat} {ov : Value} {L : List Lx.Ln} {vs : List Value} (h : LinesAt w B ov L vs) (hg : Lx.Goods 65537 L) : LinesIn w B ov L := by
  refine ⟨?_, hg⟩
  rcases h.row.2 with ⟨rfl, h0⟩ | ⟨g, cap, cur, rfl, hb, hgg, _⟩
  · exact ⟨none, 0, by rw [h0], fun i hi => by omega⟩
  · refine ⟨_, cap, rfl, fun i hi => ?_⟩
    have h1 : i < vs.length := by rw [h.len]; exact hi
    have hc := lineCells_at vs L i h1 hi h.len
    refine ⟨g, vs[i], rfl, hb, (Array.getElem?_eq_some_iff.1 hgg).1, ?_, ?_, own_words (h.words i h1 hi) (hg.each _ (List.getElem_mem hi)).few⟩
    · rw [h.row.cellAt _ (by omega)]; exact hc.1
    · rw [h.row.cellAt _ (by omega)]; exact hc.2

theorem WordsAt.keep {w w' : World} {v : Value} {l : List Lx.W} (h : WordsAt w v l) (hk : ∀ p : Addr, p.block < w.heap.size → w'.cell? p = w.cell? p) (hz : w.heap.size ≤ w'.heap.size) : WordsAt w' v l := by
  obtain ⟨⟨A, c, rfl, h1⟩, hf⟩ := h
  refine ⟨⟨A, c, rfl, fun i hi => ?_⟩, hf⟩
  obtain ⟨b, off, hA, hb, x1, x2, x3⟩ := h1 i hi
  refine ⟨b, off, hA, by omega, ?_, ?_, ?_⟩
  · rw [hk _ hb]; exact x1
  · rw [hk _ hb]; exact x2
  · rw [hk _ hb]; exact x3
theorem LinesIn.keep {w w' : World} {B : Nat} {v : Value} {L : List Lx.Ln} (h : LinesIn w B v L) (hk : ∀ p : Addr, p.block < w.heap.size → w'.cell? p = w.cell? p) (hz : w.heap.size ≤ w'.heap.size) : LinesIn w' B v L := by
  obtain ⟨⟨A, c, rfl, h1⟩, hg⟩ := h
  refine ⟨⟨A, c, rfl, fun i hi => ?_⟩, hg⟩
  obtain ⟨b, u, hA, hB, hb, x1, x2, x3⟩ := h1 i hi
  refine ⟨b, u, hA, hB, by omega, ?_, ?_, x3.keep hk hz⟩
  · rw [hk _ hb]; exact x1
  · rw [hk _ hb]; exact x2
theorem Turns.still {w w' : World} (h : Turns Nothing w w') : (∀ p : Addr, p.block < w.heap.size → w'.cell? p = w.cell? p) ∧ w.heap.size ≤ w'.heap.size :=
  ⟨fun p hp => h.cell (p := p) hp id, h.size⟩
theorem LinesIn.still {w w' : World} {B : Nat} {v : Value} {L : List Lx.Ln} (h : LinesIn w B v L) (ht : Turns Nothing w w') : LinesIn w' B v L := h.keep (Turns.still ht).1 (Turns.still ht).2
theorem WordsAt.still {w w' : World} {v : Value} {l : List Lx.W} (h : WordsAt w v l) (ht : Turns Nothing w w') : WordsAt w' v l := h.keep (Turns.still ht).1 (Turns.still ht).2
theorem LinesIn.cell {w : World} {B n c : Nat} {A : Option Addr} {L : List Lx.Ln} (h : LinesIn w B (.slice A n c) L) (i : Nat) (hi : i < L.length) :
    ∃ b A' c', A = some ⟨b, 0, none⟩ ∧ B ≤ b ∧ b < w.heap.size ∧ w.cell? ⟨b, i * 2, none⟩ = some (.slice A' L[i].1.length c') ∧ w.cell? ⟨b, i * 2 + 1, none⟩ = some (.int .i64 L[i].2) ∧ WordsAt w (.slice A' L[i].1.length c') L[i].1 := by
  obtain ⟨⟨A1, c1, e, h1⟩, hg⟩ := h
  obtain ⟨b, v, hA, hB, hb, x1, x2, x3⟩ := h1 i hi
  obtain ⟨A', c', e', -⟩ := x3.at_
  subst e'
  have : A = A1 := by injection e
  exact ⟨b, A', c', this.trans hA, hB, hb, x1, x2, x3⟩
/-- a command of those that come later than L's own -/
theorem LinesIn.cellLater {w : World} {B n c : Nat} {A : Option Addr} {P L : List Lx.Ln} {d G : Nat} (h : LinesIn w B (.slice A n c) (P ++ L.map (Lx.ll d G))) (i : Nat) (hi : i < L.length) :
    ∃ b A' c', A = some ⟨b, 0, none⟩ ∧ B ≤ b ∧ b < w.heap.size ∧ w.cell? ⟨b, (P.length + i) * 2, none⟩ = some (.slice A' L[i].1.length c') ∧ w.cell? ⟨b, (P.length + i) * 2 + 1, none⟩ = some (.int .i64 (L[i].2 + G : Nat)) ∧
      WordsAt w (.slice A' L[i].1.length c') (later d L[i].1) := by
  have hlt : P.length + i < (P ++ L.map (Lx.ll d G)).length := by rw [List.length_append, List.length_map]; omega
  obtain ⟨b, A', c', hA, hB, hb, x1, x2, x3⟩ := h.cell (P.length + i) hlt
  have he : (P ++ L.map (Lx.ll d G))[P.length + i] = Lx.ll d G L[i] := by
    rw [List.getElem_append_right (by omega)]
    simp
  rw [he] at x1 x2 x3
  have hl : (Lx.ll d G L[i]).1.length = L[i].1.length := by simp [Lx.ll]
  rw [hl] at x1 x3
  exact ⟨b, A', c', hA, hB, hb, x1, x2, x3⟩
/-- a command of those that come first -/
theorem LinesIn.cellFirst {w : World} {B n c : Nat} {A : Option Addr} {P L : List Lx.Ln} (h : LinesIn w B (.slice A n c) (P ++ L)) (i : Nat) (hi : i < P.length) :
    ∃ b A' c', A = some ⟨b, 0, none⟩ ∧ B ≤ b ∧ b < w.heap.size ∧ w.cell? ⟨b, i * 2, none⟩ = some (.slice A' P[i].1.length c') ∧ w.cell? ⟨b, i * 2 + 1, none⟩ = some (.int .i64 P[i].2) ∧
      WordsAt w (.slice A' P[i].1.length c') P[i].1 := by
  have hlt : i < (P ++ L).length := by rw [List.length_append]; omega
  obtain ⟨b, A', c', hA, hB, hb, x1, x2, x3⟩ := h.cell i hlt
  have he : (P ++ L)[i] = P[i] := List.getElem_append_left hi
  rw [he] at x1 x2 x3
  exact ⟨b, A', c', hA, hB, hb, x1, x2, x3⟩
end Go.Proofs.YtedlhdegdlabhaaGreatDoor
