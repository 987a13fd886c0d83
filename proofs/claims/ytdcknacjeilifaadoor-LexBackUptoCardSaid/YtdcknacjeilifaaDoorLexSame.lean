/- The walk of sameWords, where the words agree. -/
import Derived.Test.YtdcknacjeilifaaDoorLexWords
namespace Go.Proofs.YtdcknacjeilifaaDoor
open Go.RowKit
open Lx (Bytes)

structure WordsAt (w : World) (v : Value) (l : List Lx.W) : Prop where
  at_ : ∃ A c, v = .slice A l.length c ∧ ∀ i, (h : i < l.length) → ∃ b off, A = some ⟨b, off, none⟩ ∧ b < w.heap.size ∧ w.cell? ⟨b, off + i * 3, none⟩ = some (.string ⟨l[i].text.toArray⟩) ∧
    w.cell? ⟨b, off + i * 3 + 1, none⟩ = some (.int .i64 l[i].line) ∧ w.cell? ⟨b, off + i * 3 + 2, none⟩ = some (.bool l[i].block)
  few : l.length ≤ 256

def later (by_ : Nat) (l : List Lx.W) : List Lx.W := l.map fun x => { x with line := x.line + by_ }

theorem WordsAt.pair {w : World} {va vb : Value} {by_ : Nat} {l : List Lx.W} (ha : WordsAt w va (later by_ l)) (hb : WordsAt w vb l) (hl : ∀ x ∈ l, x.line ≤ 1000000) (hby : by_ ≤ 1000000) :
    ∃ A c B d, va = .slice A l.length c ∧ vb = .slice B l.length d ∧ l.length ≤ 256 ∧ ∀ n, n < l.length → ∃ b off b' off' t ln bl, A = some ⟨b, off, none⟩ ∧ B = some ⟨b', off', none⟩ ∧ b < w.heap.size ∧ b' < w.heap.size ∧ (ln : Nat) + by_ ≤ 2000000 ∧
      w.cell? ⟨b, off + n * 3, none⟩ = some (.string t) ∧ w.cell? ⟨b, off + n * 3 + 1, none⟩ = some (.int .i64 ((ln : Int) + by_)) ∧ w.cell? ⟨b, off + n * 3 + 2, none⟩ = some (.bool bl) ∧
      w.cell? ⟨b', off' + n * 3, none⟩ = some (.string t) ∧ w.cell? ⟨b', off' + n * 3 + 1, none⟩ = some (.int .i64 ln) ∧ w.cell? ⟨b', off' + n * 3 + 2, none⟩ = some (.bool bl) := by
  obtain ⟨A, c, e1, h1⟩ := ha.at_
  obtain ⟨B, d, e2, h2⟩ := hb.at_
  refine ⟨A, c, B, d, by rw [e1]; simp [later], e2, hb.few, fun n hn => ?_⟩
  obtain ⟨b, off, hA, hb', x1, x2, x3⟩ := h1 n (by simpa [later] using hn)
  obtain ⟨b2, off2, hB, hb2, y1, y2, y3⟩ := h2 n hn
  simp only [later, List.getElem_map] at x1 x2 x3
  refine ⟨b, off, b2, off2, _, l[n].line, l[n].block, hA, hB, hb', hb2, ?_, x1, ?_, x3, y1, y2, y3⟩
  · have := hl _ (List.getElem_mem hn); omega
  · rw [x2]; simp

set_option maxHeartbeats 1000000 in
theorem same_in {w : World} {va vb : Value} {by_ : Nat} {l : List Lx.W} (ha : WordsAt w va (later by_ l)) (hb : WordsAt w vb l) (hl : ∀ x ∈ l, x.line ≤ 1000000) (hby : by_ ≤ 1000000) :
    Calls Tryd.prog 9 #[va, vb, .int .i64 by_] w fun e w' => e = .returned (.bool true) ∧ Turns Nothing w w' := by
  obtain ⟨A, c, B, d, rfl, rfl, hfew, hcell⟩ := ha.pair hb hl hby
  have HC := Lib.hid hcell
  clear ha hb hl hcell
  generalize l.length = m at *
  go_enter Tryd.func9, Tryd.ntmps9
  go_wp2_with fail
  go_loopw [7] (fun i wr => ∃ n : Nat, i = .int .i64 n ∧ n ≤ m ∧ Turns Nothing w wr) (fun i _ => m - (intOf i).toNat)
  case atStart => exact ⟨0, rfl, Nat.zero_le _, Turns.refl _ _⟩
  case round =>
    obtain ⟨n, rfl, hn, ht⟩ := hrel
    by_cases hlt : n < m
    · obtain ⟨b, off, b', off', t, ln, bl, rfl, rfl, k1, k2, hln, x1, x2, x3, y1, y2, y3⟩ := HC.out n hlt
      have x1 := (ht.cell (p := ⟨b, off + n * 3, none⟩) k1 id).trans x1
      have x2 := (ht.cell (p := ⟨b, off + n * 3 + 1, none⟩) k1 id).trans x2
      have x3 := (ht.cell (p := ⟨b, off + n * 3 + 2, none⟩) k1 id).trans x3
      have y1 := (ht.cell (p := ⟨b', off' + n * 3, none⟩) k2 id).trans y1
      have y2 := (ht.cell (p := ⟨b', off' + n * 3 + 1, none⟩) k2 id).trans y2
      have y3 := (ht.cell (p := ⟨b', off' + n * 3 + 2, none⟩) k2 id).trans y3
      have H1 := Lib.hid ht
      clear ht
      go_wp2_with fail
      go_quiet (fail)
      go_wp2_with fail
      go_roundw
      case rel => exact ⟨n + 1, by go_num, by omega, H1.out.drewN _⟩
      case measure => simp [intOf]; omega
    · have H1 := Lib.hid ht
      clear ht
      go_wp2_with fail
      go_ret
      exact ⟨rfl, H1.out⟩
end Go.Proofs.YtdcknacjeilifaaDoor
