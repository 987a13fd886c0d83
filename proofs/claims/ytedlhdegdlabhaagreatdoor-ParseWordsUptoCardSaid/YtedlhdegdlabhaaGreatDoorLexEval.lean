/- What package lex computes at the three texts of 'shown', and the bounds that hold of all it reads. No program. -/
import Derived.Test.YtedlhdegdlabhaaGreatDoorLexLaw
namespace Go.Proofs.YtedlhdegdlabhaaGreatDoor
namespace Lx

theorem word_nil (env : Env) (f : Bool) (t : Bytes) : word env f t [] = .ok (t, []) := word_over _ _ _ _ rfl
theorem eval_block : split [] [105, 102, 32, 123, 32, 97, 32, 59, 32, 98, 32, 125] = .ok [([⟨[105, 102], 1, false⟩, ⟨[32, 97, 32, 59, 32, 98, 32], 1, true⟩], 1)] := by
  simp [split, read_cons, read_nil, word_cons, word_over, over, put, blk_cons, feeds, fin]
theorem eval_open : split [] [39, 120] = .error (4, 1) := by
  simp [split, read_cons, word_cons, over, put, single]
theorem eval_quotes : split [([88], [120]), ([72, 79, 77, 69], [47, 104])] [97, 32, 39, 98, 32, 99, 39, 32, 34, 100, 92, 110, 36, 88, 34, 32, 126, 47, 101, 32, 59, 32, 102] =
    .ok [([⟨[97], 1, false⟩, ⟨[98, 32, 99], 1, false⟩, ⟨[100, 10, 120], 1, false⟩, ⟨[47, 104, 47, 101], 1, false⟩], 1), ([⟨[102], 1, false⟩], 1)] := by
  simp [split, read_cons, read_nil, word_cons, word_over, word_nil, over, put, single, quoted_cons, dollar, name, more, letter, digit, value, esc, feeds, fin]

/-- a command of at most 256 words, its group and its lines at most K -/
structure Good (K : Nat) (l : Ln) : Prop where
  few : l.1.length ≤ 256
  grp : l.2 ≤ K
  lines : ∀ x ∈ l.1, x.line ≤ K
structure Goods (K : Nat) (out : List Ln) : Prop where
  many : out.length ≤ 1000
  each : ∀ l ∈ out, Good K l

theorem feeds_le (r : Bytes) : feeds r ≤ r.length := List.count_le_length
theorem fin_good {K : Nat} {now : List W} {out : List Ln} {g : Nat} (h1 : ∀ l ∈ out, Good K l) (h2 : now.length ≤ 256) (h3 : g ≤ K) (h4 : ∀ x ∈ now, x.line ≤ K) : ∀ l ∈ fin now out g, Good K l := by
  unfold fin
  split
  · exact h1
  · intro l hl
    rcases List.mem_append.1 hl with h | h
    · exact h1 l h
    · rw [List.mem_singleton.1 h]; exact ⟨h2, h3, h4⟩
theorem bump_le (out : List Ln) (g : Nat) : bump out g ≤ g + 1 := by
  unfold bump
  split
  · omega
  · split <;> omega

theorem read_good {env : Env} {K : Nat} : ∀ (n : Nat) {line : Nat} {now : List W} {out : List Ln} {g : Nat} {r : Bytes} {M : List Ln}, r.length ≤ n →
    out.length + one now ≤ 1000 → now.length ≤ 256 → line + r.length ≤ K → g + r.length ≤ K → (∀ x ∈ now, x.line ≤ K) → (∀ l ∈ out, Good K l) →
    read env line now out g r = .ok M → Goods K M := by
  intro n
  induction n with
  | zero =>
    intro line now out g r M hn h1 h2 h3 h4 h5 h6 h
    have : r = [] := List.eq_nil_of_length_eq_zero (by omega)
    subst this
    rw [read_nil] at h; cases h
    exact ⟨by rw [fin_len]; omega, fin_good h6 h2 (by omega) h5⟩
  | succ n ih =>
    intro line now out g r M hn h1 h2 h3 h4 h5 h6 h
    cases r with
    | nil =>
      rw [read_nil] at h; cases h
      exact ⟨by rw [fin_len]; omega, fin_good h6 h2 (by omega) h5⟩
    | cons c r =>
      simp only [List.length_cons] at hn h3 h4
      have h0 : one [] = 0 := rfl
      have hs : ∀ x, one (now ++ [x]) = 1 := by intro x; unfold one; simp
      have hl := fin_len now out g
      have hF := fin_good h6 h2 (g := g) (by omega) h5
      rw [read_cons] at h
      split at h
      · exact ih (by omega) h1 h2 (by omega) (by omega) h5 h6 h
      rename_i e1
      split at h
      · exact ih (by rw [List.length_tail]; omega) h1 h2 (by rw [List.length_tail]; omega) (by rw [List.length_tail]; omega) h5 h6 h
      split at h
      · have := toFeed_len r; exact ih (by omega) h1 h2 (by omega) (by omega) h5 h6 h
      split at h
      · exact ih (by omega) (by omega) (by simp) (by omega) (by omega) (by simp) hF h
      rename_i e4
      split at h
      · have := bump_le (fin now out g) g
        exact ih (by omega) (by omega) (by simp) (by omega) (by omega) (by simp) hF h
      rename_i e5
      split at h
      · cases h
      split at h
      · cases h
      rename_i e7
      have hroom : out.length + 1 ≤ 1000 := by
        by_cases hn : now = []
        · have : out.length ≠ 1000 := fun e => e7 (.inr ⟨hn, e⟩)
          omega
        · have : one now = 1 := by unfold one; rw [if_neg hn]
          omega
      have hnow : now.length + 1 ≤ 256 := by
        have : now.length ≠ 256 := fun e => e7 (.inl e)
        omega
      split at h
      · split at h
        · cases h
        · rename_i r1 hd
          have hlt := blk_len _ (Nat.le_refl _) hd
          obtain ⟨⟨p, hp⟩, -⟩ := blk_part [] _ (Nat.le_refl _) hd
          have hf : feeds r - feeds r1 + r1.length ≤ r.length := by
            rw [hp, feeds_append, List.length_append]; have := feeds_le p; omega
          split at h
          · refine ih (by omega) (by rw [hs]; omega) (by rw [List.length_append]; exact hnow) (by omega) (by omega) ?_ h6 h
            intro x hx
            rcases List.mem_append.1 hx with hx | hx
            · exact h5 x hx
            · rw [List.mem_singleton.1 hx]; show line ≤ K; omega
          · cases h
      · split at h
        · cases h
        · rename_i t1 r1 hd
          have ho : over (c :: r) = false := by
            simp only [not_or] at e1
            simp [over, e1, e4, e5]
          have hlt := word_lt ho hd
          simp only [List.length_cons] at hlt
          obtain ⟨⟨p, hp⟩, -⟩ := word_part [] _ (Nat.le_refl _) hd
          have hf : feeds (c :: r) - feeds r1 + r1.length ≤ r.length + 1 := by
            have : r.length + 1 = p.length + r1.length := by rw [← List.length_cons (a := c), hp, List.length_append]
            rw [hp, feeds_append]; have := feeds_le p; omega
          refine ih (by omega) (by rw [hs]; omega) (by rw [List.length_append]; exact hnow) (by omega) (by omega) ?_ h6 h
          intro x hx
          rcases List.mem_append.1 hx with hx | hx
          · exact h5 x hx
          · rw [List.mem_singleton.1 hx]; show line ≤ K; omega

theorem split_good {env : Env} {s : Bytes} {M : List Ln} (h : split env s = .ok M) : Goods 65537 M := by
  unfold split at h
  split at h
  · cases h
  · exact read_good _ (Nat.le_refl _) (by simp [one]) (by simp) (by omega) (by omega) (by simp) (by simp) h

/-- an error names a line, and no code is 0 -/
theorem put_err {t u : Bytes} {c : Int} (h : put t u = .error c) : c = 2 := by
  unfold put at h
  split at h
  · cases h; rfl
  · cases h
def Err (c : Int) : Prop := 2 ≤ c ∧ c ≤ 4
theorem put_err2 {t u : Bytes} {c : Int} (h : put t u = .error c) : Err c := by rw [put_err h]; exact ⟨by decide, by decide⟩
theorem err3 : Err 3 := ⟨by decide, by decide⟩
theorem err4 : Err 4 := ⟨by decide, by decide⟩
theorem dollar_err {env : Env} {t r : Bytes} {c : Int} (h : dollar env t r = .error c) : Err c := by
  unfold dollar at h
  split at h
  · split at h
    · cases h; exact err4
    · split at h
      · split at h
        · rename_i hp; cases h; exact put_err2 hp
        · cases h
      · cases h; exact err4
  · split at h
    · split at h
      · rename_i hp; cases h; exact put_err2 hp
      · cases h
    · split at h
      · rename_i hp; cases h; exact put_err2 hp
      · cases h
theorem single_err {r : Bytes} : ∀ {t : Bytes} {c : Int}, single t r = .error c → Err c := by
  induction r with
  | nil => intro t c h; cases h; exact err4
  | cons b r ih =>
    intro t c h
    unfold single at h
    split at h
    · cases h
    · split at h
      · rename_i hp; cases h; exact put_err2 hp
      · exact ih h
theorem quoted_err {env : Env} : ∀ (n : Nat) {t r : Bytes} {c : Int}, r.length ≤ n → quoted env t r = .error c → Err c := by
  intro n
  induction n with
  | zero =>
    intro t r c hn h
    have : r = [] := List.eq_nil_of_length_eq_zero (by omega)
    subst this
    rw [quoted_nil] at h; cases h; exact err4
  | succ n ih =>
    intro t r c hn h
    cases r with
    | nil => rw [quoted_nil] at h; cases h; exact err4
    | cons b r =>
      simp only [List.length_cons] at hn
      rw [quoted_cons] at h
      split at h
      · cases h
      split at h
      · split at h
        · rename_i hd; cases h; exact dollar_err hd
        · rename_i hd
          have := dollar_len hd
          exact ih (by omega) h
      split at h
      · split at h
        · cases h; exact err4
        · simp only [List.length_cons] at hn
          split at h
          · exact ih (by omega) h
          · split at h
            · rename_i hp; cases h; exact put_err2 hp
            · exact ih (by omega) h
      · split at h
        · rename_i hp; cases h; exact put_err2 hp
        · exact ih (by omega) h
theorem word_err {env : Env} : ∀ (n : Nat) {f : Bool} {t r : Bytes} {c : Int}, r.length ≤ n → word env f t r = .error c → Err c := by
  intro n
  induction n with
  | zero =>
    intro f t r c hn h
    have : r = [] := List.eq_nil_of_length_eq_zero (by omega)
    subst this
    rw [word_nil] at h; cases h
  | succ n ih =>
    intro f t r c hn h
    cases ho : over r with
    | true => rw [word_over _ _ _ _ ho] at h; cases h
    | false =>
    cases r with
    | nil => cases ho
    | cons b r =>
      simp only [List.length_cons] at hn
      rw [word_cons _ _ _ _ _ ho] at h
      split at h
      · split at h
        · rename_i hd; cases h; exact single_err hd
        · rename_i hd
          have := single_len hd
          exact ih (by omega) h
      split at h
      · split at h
        · rename_i hd; cases h; exact quoted_err _ (Nat.le_refl _) hd
        · rename_i hd
          have := quoted_len _ (Nat.le_refl _) hd
          exact ih (by omega) h
      split at h
      · split at h
        · cases h; exact err4
        · simp only [List.length_cons] at hn
          split at h
          · exact ih (by omega) h
          · split at h
            · rename_i hp; cases h; exact put_err2 hp
            · exact ih (by omega) h
      split at h
      · split at h
        · rename_i hd; cases h; exact dollar_err hd
        · rename_i hd
          have := dollar_len hd
          exact ih (by omega) h
      split at h
      · split at h
        · rename_i hp; cases h; exact put_err2 hp
        · exact ih (by omega) h
      · split at h
        · rename_i hp; cases h; exact put_err2 hp
        · exact ih (by omega) h

theorem read_err {env : Env} {K : Nat} : ∀ (n : Nat) {line : Nat} {now : List W} {out : List Ln} {g : Nat} {r : Bytes} {x : Int × Nat}, r.length ≤ n → line + r.length ≤ K →
    read env line now out g r = .error x → Err x.1 ∧ x.2 ≤ K := by
  intro n
  induction n with
  | zero =>
    intro line now out g r x hn h3 h
    have : r = [] := List.eq_nil_of_length_eq_zero (by omega)
    subst this
    rw [read_nil] at h; cases h
  | succ n ih =>
    intro line now out g r x hn h3 h
    cases r with
    | nil => rw [read_nil] at h; cases h
    | cons c r =>
      simp only [List.length_cons] at hn h3
      rw [read_cons] at h
      split at h
      · exact ih (by omega) (by omega) h
      rename_i e1
      split at h
      · exact ih (by rw [List.length_tail]; omega) (by rw [List.length_tail]; omega) h
      split at h
      · have := toFeed_len r; exact ih (by omega) (by omega) h
      split at h
      · exact ih (by omega) (by omega) h
      rename_i e4
      split at h
      · exact ih (by omega) (by omega) h
      rename_i e5
      split at h
      · cases h; exact ⟨err4, by dsimp only; omega⟩
      split at h
      · cases h; exact ⟨err3, by dsimp only; omega⟩
      split at h
      · split at h
        · cases h; exact ⟨err4, by dsimp only; omega⟩
        · rename_i r1 hd
          have hlt := blk_len _ (Nat.le_refl _) hd
          obtain ⟨⟨p, hp⟩, -⟩ := blk_part [] _ (Nat.le_refl _) hd
          have hf : feeds r - feeds r1 + r1.length ≤ r.length := by
            rw [hp, feeds_append, List.length_append]; have := feeds_le p; omega
          split at h
          · exact ih (by omega) (by omega) h
          · cases h; exact ⟨err4, by dsimp only; omega⟩
      · split at h
        · rename_i hd; cases h; exact ⟨word_err _ (Nat.le_refl _) hd, by dsimp only; omega⟩
        · rename_i t1 r1 hd
          have ho : over (c :: r) = false := by
            simp only [not_or] at e1
            simp [over, e1, e4, e5]
          have hlt := word_lt ho hd
          simp only [List.length_cons] at hlt
          obtain ⟨⟨p, hp⟩, -⟩ := word_part [] _ (Nat.le_refl _) hd
          have hf : feeds (c :: r) - feeds r1 + r1.length ≤ r.length + 1 := by
            have : r.length + 1 = p.length + r1.length := by rw [← List.length_cons (a := c), hp, List.length_append]
            rw [hp, feeds_append]; have := feeds_le p; omega
          exact ih (by omega) (by omega) h
theorem split_err {env : Env} {s : Bytes} {x : Int × Nat} (h : split env s = .error x) : Err x.1 ∧ x.2 ≤ 65537 := by
  unfold split at h
  split at h
  · cases h; exact ⟨⟨by decide, by decide⟩, by decide⟩
  · exact read_err _ (Nat.le_refl _) (by omega) h
end Lx
end Go.Proofs.YtedlhdegdlabhaaGreatDoor
