/- Reading the joined quotes of words gives the words again: one command. No program. -/
import Derived.Test.YtdcknacjeilifaaDoorLexJoins
import Derived.Test.YtdcknacjeilifaaDoorLexEval
namespace Go.Proofs.YtdcknacjeilifaaDoor
namespace Lx
variable {env : Env}

theorem put_okay {t u : Bytes} (h : (t ++ u).length ≤ 8192) : put t u = .ok (t ++ u) := by rw [put, if_neg (by omega)]
theorem wset_plain : ∀ c ∈ wset, (c ≠ 32 ∧ c ≠ 9 ∧ c ≠ 10 ∧ c ≠ 59) ∧ c ≠ 39 ∧ c ≠ 34 ∧ c ≠ 92 ∧ c ≠ 36 ∧ c ≠ 126 ∧ c ≠ 35 ∧ c ≠ 125 ∧ c ≠ 123 := by decide
theorem over_not {c : UInt8} {r : Bytes} (h : c ≠ 32 ∧ c ≠ 9 ∧ c ≠ 10 ∧ c ≠ 59) : over (c :: r) = false := by simp [over, h]

theorem word_bare {rest : Bytes} (hr : over rest = true) : ∀ (x : Bytes) (f : Bool) (t : Bytes), (∀ c ∈ x, c ∈ wset) → (t ++ x).length ≤ 8192 → word env f t (x ++ rest) = .ok (t ++ x, rest)
  | [], f, t, _, _ => by rw [List.nil_append, List.append_nil, word_over _ _ _ _ hr]
  | c :: x, f, t, hx, hl => by
    obtain ⟨ho, h1, h2, h3, h4, h5, -⟩ := wset_plain c (hx c (by simp))
    rw [List.cons_append, word_cons _ _ _ _ _ (over_not ho), if_neg h1, if_neg h2, if_neg h3, if_neg h4, if_neg (fun h => h5 h.1)]
    rw [put_okay (by simp only [List.length_append, List.length_cons] at hl ⊢; simp; omega)]
    dsimp only
    rw [word_bare hr x false (t ++ [c]) (fun d hd => hx d (by simp [hd])) (by simpa using hl)]
    simp

theorem single_all (rest : Bytes) : ∀ (x t : Bytes), (39 : UInt8) ∉ x → (t ++ x).length ≤ 8192 → single t (x ++ 39 :: rest) = .ok (t ++ x, rest)
  | [], t, _, _ => by rw [List.nil_append, single, if_pos rfl, List.append_nil]
  | c :: x, t, hx, hl => by
    have hc : c ≠ 39 := fun e => hx (by simp [e])
    rw [List.cons_append, single, if_neg hc, put_okay (by simp only [List.length_append, List.length_cons] at hl ⊢; simp; omega)]
    dsimp only
    rw [single_all rest x (t ++ [c]) (fun h => hx (by simp [h])) (by simpa using hl)]
    simp

theorem quoted_all (rest : Bytes) : ∀ (x t : Bytes), (t ++ x).length ≤ 8192 → quoted env t (wesc x ++ 34 :: rest) = .ok (t ++ x, rest)
  | [], t, _ => by
    have e : wesc [] = [] := rfl
    rw [e, List.nil_append, quoted_cons, if_pos rfl, List.append_nil]
  | c :: x, t, hl => by
    have hp : (t ++ [c]).length ≤ 8192 := by simp only [List.length_append, List.length_cons] at hl ⊢; simp; omega
    have ih := quoted_all rest x (t ++ [c]) (by simpa using hl)
    have hx : t ++ [c] ++ x = t ++ c :: x := by simp
    rw [hx] at ih
    by_cases hc : c = 34 ∨ c = 92 ∨ c = 36
    · have e : wesc (c :: x) = 92 :: c :: wesc x := by
        rw [wesc, List.flatMap_cons, if_pos hc]; rfl
      have h10 : c ≠ 10 := by rcases hc with h | h | h <;> rw [h] <;> decide
      have hes : esc c = [c] := by rcases hc with h | h | h <;> rw [h] <;> rfl
      rw [e, List.cons_append, List.cons_append, quoted_cons, if_neg (by decide), if_neg (by decide), if_pos rfl]
      dsimp only
      rw [if_neg h10, hes, put_okay hp]
      exact ih
    · have e : wesc (c :: x) = c :: wesc x := by
        rw [wesc, List.flatMap_cons, if_neg hc]; rfl
      simp only [not_or] at hc
      rw [e, List.cons_append, quoted_cons, if_neg hc.1, if_neg hc.2.2, if_neg hc.2.1, put_okay hp]
      exact ih

theorem word_quote {rest x : Bytes} (hr : over rest = true) (hl : x.length ≤ 8192) : word env true [] (wquote x ++ rest) = .ok (x, rest) := by
  unfold wquote
  by_cases h1 : x ≠ [] ∧ x.all (wset.contains ·) = true
  · rw [if_pos h1]
    exact word_bare hr x true [] (fun c hc => by simpa using List.all_eq_true.1 h1.2 c hc) (by simpa using hl)
  · rw [if_neg h1]
    by_cases h2 : (39 : UInt8) ∈ x
    · rw [if_pos h2, show 34 :: wesc x ++ [34] ++ rest = 34 :: (wesc x ++ 34 :: rest) by simp, word_cons _ _ _ _ _ (over_not (by decide)), if_neg (by decide), if_pos rfl, quoted_all rest x [] (by simpa using hl)]
      dsimp only
      rw [word_over _ _ _ _ hr]; rfl
    · rw [if_neg h2, show 39 :: x ++ [39] ++ rest = 39 :: (x ++ 39 :: rest) by simp, word_cons _ _ _ _ _ (over_not (by decide)), if_pos rfl, single_all rest x [] h2 (by simpa using hl)]
      dsimp only
      rw [word_over _ _ _ _ hr]; rfl

theorem quote_head (x : Bytes) : ∃ c r, wquote x = c :: r ∧ (c ≠ 32 ∧ c ≠ 9 ∧ c ≠ 10 ∧ c ≠ 59) ∧ c ≠ 92 ∧ c ≠ 35 ∧ c ≠ 125 ∧ c ≠ 123 := by
  unfold wquote
  by_cases h1 : x ≠ [] ∧ x.all (wset.contains ·) = true
  · rw [if_pos h1]
    cases x with
    | nil => exact absurd rfl h1.1
    | cons c r =>
      obtain ⟨ho, -, -, h3, -, -, h6, h7, h8⟩ := wset_plain c (by simpa using List.all_eq_true.1 h1.2 c (by simp))
      exact ⟨c, r, rfl, ho, h3, h6, h7, h8⟩
  · rw [if_neg h1]
    by_cases h2 : (39 : UInt8) ∈ x
    · rw [if_pos h2]; exact ⟨34, _, rfl, by decide, by decide, by decide, by decide, by decide⟩
    · rw [if_neg h2]; exact ⟨39, _, rfl, by decide, by decide, by decide, by decide, by decide⟩

theorem read_quote {rest x : Bytes} {line : Nat} {now : List W} (hr : over rest = true) (hl : x.length ≤ 8192) (hn : now.length < 256) :
    ∃ line', read env line now [] 1 (wquote x ++ rest) = read env line' (now ++ [⟨x, line, false⟩]) [] 1 rest := by
  obtain ⟨c, r, e, ho, h1, h2, h3, h4⟩ := quote_head x
  have hw := word_quote (env := env) hr hl
  rw [e] at hw
  rw [List.cons_append] at hw
  refine ⟨line + (feeds (c :: (r ++ rest)) - feeds rest), ?_⟩
  rw [e, List.cons_append, read_cons, if_neg (by simp [ho.1, ho.2.1]), if_neg (fun h => h1 h.1), if_neg h2, if_neg ho.2.2.2, if_neg ho.2.2.1, if_neg h3, if_neg (by simp; omega), if_neg h4, hw]

theorem over_tails (r : List Bytes) : over (Lib.joinTail [32] (r.map wquote)) = true := by
  cases r with
  | nil => rfl
  | cons x r => rfl

theorem read_tails : ∀ (r : List Bytes) (line : Nat) (now : List W), now ≠ [] → (∀ x ∈ r, x.length ≤ 8192) → now.length + r.length ≤ 256 →
    ∃ ws : List W, ws.map (·.text) = r ∧ (∀ x ∈ ws, x.block = false) ∧ read env line now [] 1 (Lib.joinTail [32] (r.map wquote)) = .ok [(now ++ ws, 1)]
  | [], line, now, hn, _, _ => ⟨[], rfl, by simp, by
      have e : Lib.joinTail [32] (([] : List Bytes).map wquote) = [] := rfl
      rw [e, read_nil, fin, if_neg hn, List.append_nil]; rfl⟩
  | y :: r, line, now, hn, hl, hc => by
    simp only [List.length_cons] at hc
    obtain ⟨line', hq⟩ := read_quote (env := env) (line := line) (now := now) (over_tails r) (hl y (by simp)) (by omega)
    obtain ⟨ws, h1, h2, h3⟩ := read_tails r line' (now ++ [⟨y, line, false⟩]) (by simp) (fun x hx => hl x (by simp [hx])) (by simp; omega)
    refine ⟨⟨y, line, false⟩ :: ws, by simp [h1], ?_, ?_⟩
    · intro x hx
      rcases List.mem_cons.1 hx with rfl | hx
      · rfl
      · exact h2 x hx
    · have e : Lib.joinTail [32] ((y :: r).map wquote) = 32 :: (wquote y ++ Lib.joinTail [32] (r.map wquote)) := rfl
      rw [e, read_cons, if_pos (.inl rfl), hq, h3]
      simp

/-- the law of words read back -/
theorem split_jn {l : List Bytes} (hl : ∀ x ∈ l, x.length ≤ 8192) (hn : l.length ≤ 256) (hc : (jn l).length ≤ 65536) :
    (l = [] ∧ split env (jn l) = .ok []) ∨ ∃ ws : List W, l ≠ [] ∧ ws.map (·.text) = l ∧ (∀ x ∈ ws, x.block = false) ∧ split env (jn l) = .ok [(ws, 1)] := by
  rw [split, if_neg (by omega)]
  cases l with
  | nil => exact .inl ⟨rfl, by rw [jn_nil, read_nil]; rfl⟩
  | cons x r =>
    refine .inr ?_
    simp only [List.length_cons] at hn
    have e : jn (x :: r) = wquote x ++ Lib.joinTail [32] (r.map wquote) := by rw [jn, List.map_cons, Lib.join_cons]
    obtain ⟨line', hq⟩ := read_quote (env := env) (line := 1) (now := []) (over_tails r) (hl x (by simp)) (by decide)
    obtain ⟨ws, h1, h2, h3⟩ := read_tails (env := env) r line' [⟨x, 1, false⟩] (by simp) (fun y hy => hl y (by simp [hy])) (by simp; omega)
    refine ⟨⟨x, 1, false⟩ :: ws, by simp, by simp [h1], ?_, ?_⟩
    · intro y hy
      rcases List.mem_cons.1 hy with rfl | hy
      · rfl
      · exact h2 y hy
    · rw [e, hq, List.nil_append, h3]; rfl
end Lx
end Go.Proofs.YtdcknacjeilifaaDoor
