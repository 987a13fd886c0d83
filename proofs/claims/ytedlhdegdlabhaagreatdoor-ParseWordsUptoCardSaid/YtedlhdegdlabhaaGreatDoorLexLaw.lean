/- What package lex computes: a text that is read to its end is read as well ahead of a line feed, and reading on from a later line and a later group gives the same commands, later. No program. -/
import Derived.Test.YtedlhdegdlabhaaGreatDoorLexPure
namespace Go.Proofs.YtedlhdegdlabhaaGreatDoor
namespace Lx
variable {env : Env}

/-- what is read to its end stays read whatever a line feed and a text behind it are -/
def tail (b : Bytes) : Bytes := 10 :: b

theorem feeds_append (p r : Bytes) : feeds (p ++ r) = feeds p + feeds r := List.count_append
theorem over_tail (r b : Bytes) (h : over r = true) : over (r ++ tail b) = true := by
  cases r with
  | nil => simp [over, tail]
  | cons c r => simpa [over] using h
theorem over_cons_tail (c : UInt8) (r b : Bytes) : over (c :: r ++ tail b) = over (c :: r) := rfl

theorem more_part (r b : Bytes) : r = (more r).1 ++ (more r).2 ∧ more (r ++ tail b) = ((more r).1, (more r).2 ++ tail b) := by
  induction r with
  | nil => exact ⟨rfl, by simp [more, tail, letter, digit]⟩
  | cons c r ih =>
    rw [List.cons_append]
    simp only [more]
    split
    · refine ⟨?_, by rw [ih.2]⟩
      have := ih.1
      rw [List.cons_append, ← this]
    · exact ⟨rfl, rfl⟩
theorem name_part (r b : Bytes) : r = (name r).1 ++ (name r).2 ∧ name (r ++ tail b) = ((name r).1, (name r).2 ++ tail b) := by
  cases r with
  | nil => exact ⟨rfl, by simp [name, tail, letter]⟩
  | cons c r =>
    have h := more_part r b
    rw [List.cons_append]
    simp only [name]
    split
    · refine ⟨?_, by rw [h.2]⟩
      rw [List.cons_append, ← h.1]
    · exact ⟨rfl, rfl⟩

theorem dollar_part {t r t' r' : Bytes} (b : Bytes) (h : dollar env t r = .ok (t', r')) :
    (∃ p, r = p ++ r') ∧ dollar env t (r ++ tail b) = .ok (t', r' ++ tail b) := by
  unfold dollar at h
  split at h
  · rename_i r0
    have hn := name_part r0 b
    split at h
    · cases h
    · rename_i hne
      split at h
      · rename_i r1 e
        split at h
        · cases h
        · rename_i t1 hp
          cases h
          rw [e] at hn
          refine ⟨⟨123 :: (name r0).1 ++ [125], by simp; simpa using hn.1⟩, ?_⟩
          rw [List.cons_append, dollar.eq_def]
          simp only [hn.2, if_neg hne, List.cons_append, hp]
      · cases h
  · rename_i hx
    have hn := name_part r b
    have hx' : ∀ r0, r ++ tail b = 123 :: r0 → False := by
      intro r0 e
      cases r with
      | nil => simp [tail] at e
      | cons c r => rw [List.cons_append] at e; exact hx r (by rw [(List.cons.inj e).1])
    split at h
    · rename_i hne
      split at h
      · cases h
      · rename_i t1 hp
        cases h
        refine ⟨⟨[], rfl⟩, ?_⟩
        rw [dollar.eq_def]
        split
        · rename_i r0 e
          exact absurd e (hx' r0)
        · simp only [hn.2, if_pos hne, hp]
    · rename_i hne
      split at h
      · cases h
      · rename_i t1 hp
        cases h
        refine ⟨⟨_, hn.1⟩, ?_⟩
        rw [dollar.eq_def]
        split
        · rename_i r0 e
          exact absurd e (hx' r0)
        · simp only [hn.2, if_neg hne, hp]

theorem single_part {r : Bytes} (b : Bytes) : ∀ {t t' r' : Bytes}, single t r = .ok (t', r') → (∃ p, r = p ++ r') ∧ single t (r ++ tail b) = .ok (t', r' ++ tail b) := by
  induction r with
  | nil => intro t t' r' h; cases h
  | cons c r ih =>
    intro t t' r' h
    unfold single at h
    rw [List.cons_append]
    unfold single
    split at h
    · rename_i e
      cases h
      exact ⟨⟨[c], rfl⟩, by rw [if_pos e]⟩
    · rename_i e
      rw [if_neg e]
      split at h
      · cases h
      · rename_i t1 hp
        obtain ⟨⟨p, hp1⟩, hp2⟩ := ih h
        exact ⟨⟨c :: p, by rw [hp1]; rfl⟩, hp2⟩

theorem quoted_part (b : Bytes) : ∀ (n : Nat) {t r t' r' : Bytes}, r.length ≤ n → quoted env t r = .ok (t', r') → (∃ p, r = p ++ r') ∧ quoted env t (r ++ tail b) = .ok (t', r' ++ tail b) := by
  intro n
  induction n with
  | zero =>
    intro t r t' r' hn h
    have : r = [] := List.eq_nil_of_length_eq_zero (by omega)
    subst this
    rw [quoted_nil] at h; cases h
  | succ n ih =>
    intro t r t' r' hn h
    cases r with
    | nil => rw [quoted_nil] at h; cases h
    | cons c r =>
      simp only [List.length_cons] at hn
      rw [quoted_cons] at h
      rw [List.cons_append, quoted_cons]
      split at h
      · rename_i e
        cases h
        exact ⟨⟨[c], rfl⟩, by rw [if_pos e]⟩
      · rename_i e1
        rw [if_neg e1]
        split at h
        · rename_i e2
          rw [if_pos e2]
          split at h
          · cases h
          · rename_i t1 r1 hd
            have h1 := dollar_len hd
            obtain ⟨⟨p, hp⟩, hp2⟩ := dollar_part b hd
            obtain ⟨⟨q, hq⟩, hq2⟩ := ih (by omega) h
            refine ⟨⟨c :: (p ++ q), by rw [hp, hq]; simp⟩, ?_⟩
            rw [hp2]
            exact hq2
        · rename_i e2
          rw [if_neg e2]
          split at h
          · rename_i e3
            rw [if_pos e3]
            split at h
            · cases h
            · rename_i c2 r2
              simp only [List.length_cons] at hn
              rw [List.cons_append]
              dsimp only
              split at h
              · rename_i e4
                rw [if_pos e4]
                obtain ⟨⟨q, hq⟩, hq2⟩ := ih (by omega) h
                exact ⟨⟨c :: c2 :: q, by rw [hq]; rfl⟩, hq2⟩
              · rename_i e4
                rw [if_neg e4]
                split at h
                · cases h
                · rename_i t1 hp
                  obtain ⟨⟨q, hq⟩, hq2⟩ := ih (by omega) h
                  exact ⟨⟨c :: c2 :: q, by rw [hq]; rfl⟩, hq2⟩
          · rename_i e3
            rw [if_neg e3]
            split at h
            · cases h
            · rename_i t1 hp
              obtain ⟨⟨q, hq⟩, hq2⟩ := ih (by omega) h
              exact ⟨⟨c :: q, by rw [hq]; rfl⟩, hq2⟩

theorem word_part (b : Bytes) : ∀ (n : Nat) {f : Bool} {t r t' r' : Bytes}, r.length ≤ n → word env f t r = .ok (t', r') → (∃ p, r = p ++ r') ∧ word env f t (r ++ tail b) = .ok (t', r' ++ tail b) := by
  intro n
  induction n with
  | zero =>
    intro f t r t' r' hn h
    have : r = [] := List.eq_nil_of_length_eq_zero (by omega)
    subst this
    rw [word_over _ _ _ _ rfl] at h; cases h
    exact ⟨⟨[], rfl⟩, word_over _ _ _ _ rfl⟩
  | succ n ih =>
    intro f t r t' r' hn h
    cases ho : over r with
    | true =>
      rw [word_over _ _ _ _ ho] at h; cases h
      exact ⟨⟨[], rfl⟩, word_over _ _ _ _ (over_tail _ _ ho)⟩
    | false =>
    cases r with
    | nil => cases ho
    | cons c r =>
      simp only [List.length_cons] at hn
      rw [word_cons _ _ _ _ _ ho] at h
      rw [List.cons_append, word_cons _ _ _ _ _ (show over (c :: (r ++ tail b)) = false from ho)]
      split at h
      · rename_i e1
        rw [if_pos e1]
        split at h
        · cases h
        · rename_i t1 r1 hd
          have h1 := single_len hd
          obtain ⟨⟨p, hp⟩, hp2⟩ := single_part b hd
          obtain ⟨⟨q, hq⟩, hq2⟩ := ih (by omega) h
          refine ⟨⟨c :: (p ++ q), by rw [hp, hq]; simp⟩, ?_⟩
          rw [hp2]
          exact hq2
      · rename_i e1
        rw [if_neg e1]
        split at h
        · rename_i e2
          rw [if_pos e2]
          split at h
          · cases h
          · rename_i t1 r1 hd
            have h1 := quoted_len _ (Nat.le_refl _) hd
            obtain ⟨⟨p, hp⟩, hp2⟩ := quoted_part b _ (Nat.le_refl _) hd
            obtain ⟨⟨q, hq⟩, hq2⟩ := ih (by omega) h
            refine ⟨⟨c :: (p ++ q), by rw [hp, hq]; simp⟩, ?_⟩
            rw [hp2]
            exact hq2
        · rename_i e2
          rw [if_neg e2]
          split at h
          · rename_i e3
            rw [if_pos e3]
            split at h
            · cases h
            · rename_i c2 r2
              simp only [List.length_cons] at hn
              rw [List.cons_append]
              dsimp only
              split at h
              · rename_i e4
                rw [if_pos e4]
                obtain ⟨⟨q, hq⟩, hq2⟩ := ih (by omega) h
                exact ⟨⟨c :: c2 :: q, by rw [hq]; rfl⟩, hq2⟩
              · rename_i e4
                rw [if_neg e4]
                split at h
                · cases h
                · rename_i t1 hp
                  obtain ⟨⟨q, hq⟩, hq2⟩ := ih (by omega) h
                  exact ⟨⟨c :: c2 :: q, by rw [hq]; rfl⟩, hq2⟩
          · rename_i e3
            rw [if_neg e3]
            split at h
            · rename_i e4
              rw [if_pos e4]
              split at h
              · cases h
              · rename_i t1 r1 hd
                have h1 := dollar_len hd
                obtain ⟨⟨p, hp⟩, hp2⟩ := dollar_part b hd
                obtain ⟨⟨q, hq⟩, hq2⟩ := ih (by omega) h
                refine ⟨⟨c :: (p ++ q), by rw [hp, hq]; simp⟩, ?_⟩
                rw [hp2]
                exact hq2
            · rename_i e4
              rw [if_neg e4]
              have hc : ((r ++ tail b).head? = some 47 ∨ over (r ++ tail b) = true) ↔ (r.head? = some 47 ∨ over r = true) := by
                cases r <;> simp [over, tail]
              simp only [hc]
              split at h
              · rename_i e5
                rw [if_pos e5]
                split at h
                · cases h
                · rename_i t1 hp
                  obtain ⟨⟨q, hq⟩, hq2⟩ := ih (by omega) h
                  exact ⟨⟨c :: q, by rw [hq]; rfl⟩, hq2⟩
              · rename_i e5
                rw [if_neg e5]
                split at h
                · cases h
                · rename_i t1 hp
                  obtain ⟨⟨q, hq⟩, hq2⟩ := ih (by omega) h
                  exact ⟨⟨c :: q, by rw [hq]; rfl⟩, hq2⟩

theorem skipS_part (x : Bytes) {r : Bytes} : ∀ {r' : Bytes}, skipS r = some r' → (∃ p, r = p ++ r') ∧ skipS (r ++ x) = some (r' ++ x) := by
  induction r with
  | nil => intro r' h; cases h
  | cons c r ih =>
    intro r' h
    unfold skipS at h
    rw [List.cons_append]
    unfold skipS
    split at h
    · rename_i e
      cases h
      exact ⟨⟨[c], rfl⟩, by rw [if_pos e]⟩
    · rename_i e
      obtain ⟨⟨p, hp⟩, hp2⟩ := ih h
      exact ⟨⟨c :: p, by rw [hp]; rfl⟩, by rw [if_neg e]; exact hp2⟩

theorem skipD_nil : skipD [] = none := by rw [skipD]
theorem skipD_cons (b : UInt8) (r : Bytes) : skipD (b :: r) = if b = 34 then some r else if b = 92 then match r with
    | [] => none
    | _ :: r' => skipD r'
    else skipD r := by
  rw [skipD.eq_def]
  rfl

theorem skipD_part (x : Bytes) : ∀ (n : Nat) {r r' : Bytes}, r.length ≤ n → skipD r = some r' → (∃ p, r = p ++ r') ∧ skipD (r ++ x) = some (r' ++ x) := by
  intro n
  induction n with
  | zero =>
    intro r r' hn h
    have : r = [] := List.eq_nil_of_length_eq_zero (by omega)
    subst this; rw [skipD_nil] at h; cases h
  | succ n ih =>
    intro r r' hn h
    cases r with
    | nil => rw [skipD_nil] at h; cases h
    | cons c r =>
      simp only [List.length_cons] at hn
      rw [skipD_cons] at h
      rw [List.cons_append, skipD_cons]
      split at h
      · rename_i e
        cases h
        exact ⟨⟨[c], rfl⟩, by rw [if_pos e]⟩
      · rename_i e
        rw [if_neg e]
        split at h
        · rename_i e2
          rw [if_pos e2]
          split at h
          · cases h
          · rename_i c2 r2
            simp only [List.length_cons] at hn
            obtain ⟨⟨p, hp⟩, hp2⟩ := ih (by omega) h
            exact ⟨⟨c :: c2 :: p, by rw [hp]; rfl⟩, hp2⟩
        · rename_i e2
          rw [if_neg e2]
          obtain ⟨⟨p, hp⟩, hp2⟩ := ih (by omega) h
          exact ⟨⟨c :: p, by rw [hp]; rfl⟩, hp2⟩

theorem blk_part (x : Bytes) : ∀ (n : Nat) {deep : Nat} {r r' : Bytes}, r.length ≤ n → blk deep r = some r' → (∃ p, r = p ++ r') ∧ blk deep (r ++ x) = some (r' ++ x) := by
  intro n
  induction n with
  | zero =>
    intro deep r r' hn h
    have : r = [] := List.eq_nil_of_length_eq_zero (by omega)
    subst this; rw [blk_nil] at h; cases h
  | succ n ih =>
    intro deep r r' hn h
    cases r with
    | nil => rw [blk_nil] at h; cases h
    | cons c r =>
      simp only [List.length_cons] at hn
      rw [blk_cons] at h
      rw [List.cons_append, blk_cons]
      split at h
      · rename_i e
        rw [if_pos e]
        obtain ⟨⟨p, hp⟩, hp2⟩ := ih (by omega) h
        exact ⟨⟨c :: p, by rw [hp]; rfl⟩, hp2⟩
      · rename_i e
        rw [if_neg e]
        split at h
        · rename_i e2
          rw [if_pos e2]
          split at h
          · rename_i e3
            cases h
            exact ⟨⟨[c], rfl⟩, by rw [if_pos e3]⟩
          · rename_i e3
            rw [if_neg e3]
            obtain ⟨⟨p, hp⟩, hp2⟩ := ih (by omega) h
            exact ⟨⟨c :: p, by rw [hp]; rfl⟩, hp2⟩
        · rename_i e2
          rw [if_neg e2]
          split at h
          · rename_i e3
            rw [if_pos e3]
            split at h
            · cases h
            · rename_i c2 r2
              simp only [List.length_cons] at hn
              obtain ⟨⟨p, hp⟩, hp2⟩ := ih (by omega) h
              exact ⟨⟨c :: c2 :: p, by rw [hp]; rfl⟩, hp2⟩
          · rename_i e3
            rw [if_neg e3]
            split at h
            · rename_i e4
              rw [if_pos e4]
              split at h
              · cases h
              · rename_i r1 hd
                have h1 := skipS_len hd
                obtain ⟨⟨p, hp⟩, hp2⟩ := skipS_part x hd
                obtain ⟨⟨q, hq⟩, hq2⟩ := ih (by omega) h
                refine ⟨⟨c :: (p ++ q), by rw [hp, hq]; simp⟩, ?_⟩
                rw [hp2]
                exact hq2
            · rename_i e4
              rw [if_neg e4]
              split at h
              · rename_i e5
                rw [if_pos e5]
                split at h
                · cases h
                · rename_i r1 hd
                  have h1 := skipD_len _ (Nat.le_refl _) hd
                  obtain ⟨⟨p, hp⟩, hp2⟩ := skipD_part x _ (Nat.le_refl _) hd
                  obtain ⟨⟨q, hq⟩, hq2⟩ := ih (by omega) h
                  refine ⟨⟨c :: (p ++ q), by rw [hp, hq]; simp⟩, ?_⟩
                  rw [hp2]
                  exact hq2
              · rename_i e5
                rw [if_neg e5]
                obtain ⟨⟨p, hp⟩, hp2⟩ := ih (by omega) h
                exact ⟨⟨c :: p, by rw [hp]; rfl⟩, hp2⟩

theorem toFeed_part (r b : Bytes) : feeds (toFeed r) = feeds r ∧ toFeed (r ++ tail b) = toFeed r ++ tail b := by
  induction r with
  | nil => exact ⟨rfl, by simp [toFeed, tail]⟩
  | cons c r ih =>
    rw [List.cons_append]
    simp only [toFeed]
    split
    · exact ⟨rfl, rfl⟩
    · rename_i e
      refine ⟨?_, ih.2⟩
      rw [ih.1]
      simp [feeds, e]

/-- the last command's group, 0 if there is none -/
def lastg (L : List Ln) : Nat := match L.getLast? with
  | none => 0
  | some l => l.2
/-- a group that fits what was read: the last one's or the next -/
def Fit (out : List Ln) (g : Nat) : Prop := (out = [] ∧ g = 1) ∨ (out ≠ [] ∧ (lastg out = g ∨ lastg out + 1 = g))
theorem lastg_snoc (out : List Ln) (l : Ln) : lastg (out ++ [l]) = l.2 := by simp [lastg]
theorem Fit.fin {now : List W} {out : List Ln} {g : Nat} (h : Fit out g) : Fit (Lx.fin now out g) g := by
  unfold Lx.fin
  split
  · exact h
  · exact .inr ⟨by simp, .inl (lastg_snoc _ _)⟩
theorem bump_eq {out : List Ln} {g : Nat} (h : Fit out g) : bump out g = lastg out + 1 := by
  rcases h with ⟨rfl, rfl⟩ | ⟨hne, h⟩
  · rfl
  · have : ∃ l, out.getLast? = some l := ⟨out.getLast hne, List.getLast?_eq_some_getLast hne⟩
    obtain ⟨l, hl⟩ := this
    simp only [lastg, hl, bump] at h ⊢
    split <;> omega
theorem Fit.next {out : List Ln} {g : Nat} (h : Fit out g) : Fit out (bump out g) := by
  rw [bump_eq h]
  rcases h with ⟨rfl, rfl⟩ | ⟨hne, h⟩
  · exact .inl ⟨rfl, rfl⟩
  · exact .inr ⟨hne, .inr rfl⟩

theorem read_feed (line : Nat) (now : List W) (out : List Ln) (g : Nat) (b : Bytes) : read env line now out g (tail b) = read env (line + 1) [] (fin now out g) (bump (fin now out g) g) b := by
  rw [tail, read_cons]
  simp

theorem read_part (b : Bytes) : ∀ (n : Nat) {line : Nat} {now : List W} {out : List Ln} {g : Nat} {r : Bytes} {L : List Ln}, r.length ≤ n → Fit out g → read env line now out g r = .ok L →
    read env line now out g (r ++ tail b) = read env (line + feeds r + 1) [] L (lastg L + 1) b := by
  intro n
  induction n with
  | zero =>
    intro line now out g r L hn hf h
    have : r = [] := List.eq_nil_of_length_eq_zero (by omega)
    subst this
    rw [read_nil] at h; cases h
    rw [List.nil_append, read_feed, bump_eq hf.fin]
    rfl
  | succ n ih =>
    intro line now out g r L hn hf h
    cases r with
    | nil =>
      rw [read_nil] at h; cases h
      rw [List.nil_append, read_feed, bump_eq hf.fin]
      rfl
    | cons c r =>
      simp only [List.length_cons] at hn
      rw [read_cons] at h
      rw [List.cons_append, read_cons]
      split at h
      · rename_i e1
        rw [if_pos e1, ih (by omega) hf h]
        have : feeds (c :: r) = feeds r := by rcases e1 with rfl | rfl <;> simp [feeds]
        rw [this]
      rename_i e1
      rw [if_neg e1]
      split at h
      · rename_i e2
        cases r with
        | nil => simp at e2
        | cons d r =>
          obtain ⟨rfl, e2⟩ := e2
          cases e2
          simp only [List.tail_cons, List.length_cons] at h hn
          rw [if_pos ⟨rfl, rfl⟩, List.cons_append, List.tail_cons, ih (by omega) hf h]
          have : feeds (92 :: 10 :: r) = feeds r + 1 := by simp [feeds]
          rw [this]
          congr 1; omega
      rename_i e2
      have e2' : ¬ (c = 92 ∧ (r ++ tail b).head? = some 10) := by
        intro ⟨h1, h2⟩
        cases r with
        | nil =>
          subst h1
          have ho : over [92] = false := rfl
          rw [word_cons _ _ _ _ _ ho] at h
          simp at h
          split at h <;> cases h
        | cons d r => exact e2 ⟨h1, h2⟩
      rw [if_neg e2']
      split at h
      · rename_i e3
        have h1 := toFeed_len r
        have hp := toFeed_part r b
        rw [if_pos e3, hp.2, ih (by omega) hf h, hp.1]
        have : feeds (c :: r) = feeds r := by subst e3; simp [feeds]
        rw [this]
      rename_i e3
      rw [if_neg e3]
      split at h
      · rename_i e4
        rw [if_pos e4, ih (by omega) hf.fin h]
        have : feeds (c :: r) = feeds r := by subst e4; simp [feeds]
        rw [this]
      rename_i e4
      rw [if_neg e4]
      split at h
      · rename_i e5
        rw [if_pos e5, ih (by omega) hf.fin.next h]
        have : feeds (c :: r) = feeds r + 1 := by subst e5; simp [feeds]
        rw [this]
        congr 1; omega
      rename_i e5
      rw [if_neg e5]
      split at h
      · cases h
      rename_i e6
      rw [if_neg e6]
      split at h
      · cases h
      rename_i e7
      rw [if_neg e7]
      split at h
      · rename_i e8
        rw [if_pos e8]
        split at h
        · cases h
        · rename_i r1 hd
          have h1 := blk_len _ (Nat.le_refl _) hd
          obtain ⟨⟨p, hp⟩, hp2⟩ := blk_part (tail b) _ (Nat.le_refl _) hd
          rw [hp2]
          dsimp only
          split at h
          · rename_i ho
            have hx : feeds (r ++ tail b) - feeds (r1 ++ tail b) = feeds r - feeds r1 := by rw [feeds_append, feeds_append]; omega
            have hy : List.take ((r ++ tail b).length - (r1 ++ tail b).length - 1) (r ++ tail b) = List.take (r.length - r1.length - 1) r := by
              rw [List.length_append, List.length_append, show r.length + (tail b).length - (r1.length + (tail b).length) - 1 = r.length - r1.length - 1 by omega, List.take_append_of_le_length (by omega)]
            rw [if_pos (over_tail _ _ ho), hx, hy, ih (by omega) hf h]
            have : feeds (c :: r) = feeds r := by subst e8; simp [feeds]
            have h3 : feeds r = feeds p + feeds r1 := by rw [hp, feeds_append]
            rw [this]
            congr 1; omega
          · cases h
      · rename_i e8
        rw [if_neg e8]
        split at h
        · cases h
        · rename_i t1 r1 hd
          have ho : over (c :: r) = false := by
            simp only [not_or] at e1
            simp [over, e1, e4, e5]
          have h1 := word_lt ho hd
          simp only [List.length_cons] at h1
          obtain ⟨⟨p, hp⟩, hp2⟩ := word_part b _ (Nat.le_refl _) hd
          rw [← List.cons_append, hp2]
          dsimp only
          have hx : feeds (c :: r ++ tail b) - feeds (r1 ++ tail b) = feeds (c :: r) - feeds r1 := by rw [feeds_append, feeds_append]; omega
          rw [hx, ih (by omega) hf h]
          have h3 : feeds (c :: r) = feeds p + feeds r1 := by rw [hp, feeds_append]
          congr 1; omega

/-- words and commands, d lines and G groups later -/
def lw (d : Nat) (x : W) : W := { x with line := x.line + d }
def ll (d G : Nat) (x : Ln) : Ln := (x.1.map (lw d), x.2 + G)
def lres (P : List Ln) (d G : Nat) : Except (Int × Nat) (List Ln) → Except (Int × Nat) (List Ln)
  | .ok M => .ok (P ++ M.map (ll d G))
  | .error (c, k) => .error (c, k + d)
def one (now : List W) : Nat := if now = [] then 0 else 1

theorem fin_len (now : List W) (out : List Ln) (g : Nat) : (fin now out g).length = out.length + one now := by
  unfold fin one
  split <;> simp
theorem read_few : ∀ (n : Nat) {line : Nat} {now : List W} {out : List Ln} {g : Nat} {r : Bytes} {M : List Ln}, r.length ≤ n → read env line now out g r = .ok M → out.length + one now ≤ M.length := by
  intro n
  induction n with
  | zero =>
    intro line now out g r M hn h
    have : r = [] := List.eq_nil_of_length_eq_zero (by omega)
    subst this
    rw [read_nil] at h; cases h
    rw [fin_len]; omega
  | succ n ih =>
    intro line now out g r M hn h
    cases r with
    | nil => rw [read_nil] at h; cases h; rw [fin_len]; omega
    | cons c r =>
      simp only [List.length_cons] at hn
      have h0 : one [] = 0 := rfl
      have hs : ∀ x, one now ≤ one (now ++ [x]) := by intro x; unfold one; split <;> simp
      have hl := fin_len now out g
      rw [read_cons] at h
      split at h
      · exact ih (by omega) h
      rename_i e1
      split at h
      · exact ih (by rw [List.length_tail]; omega) h
      split at h
      · have := toFeed_len r; exact ih (by omega) h
      split at h
      · have := ih (by omega) h; omega
      rename_i e4
      split at h
      · have := ih (by omega) h; omega
      rename_i e5
      split at h
      · cases h
      split at h
      · cases h
      split at h
      · split at h
        · cases h
        · rename_i r1 hd
          have h1 := blk_len _ (Nat.le_refl _) hd
          split at h
          · have := ih (by omega) h
            have := hs ⟨r.take (r.length - r1.length - 1), line, true⟩
            omega
          · cases h
      · split at h
        · cases h
        · rename_i t1 r1 hd
          have ho : over (c :: r) = false := by
            simp only [not_or] at e1
            simp [over, e1, e4, e5]
          have h1 := word_lt ho hd
          simp only [List.length_cons] at h1
          have := ih (by omega) h
          have := hs ⟨t1, line, false⟩
          omega

theorem lastg_append (P out : List Ln) (h : out ≠ []) : lastg (P ++ out) = lastg out := by
  unfold lastg
  rw [List.getLast?_append, List.getLast?_eq_some_getLast h]
  rfl
theorem lastg_map (d G : Nat) (out : List Ln) (h : out ≠ []) : lastg (out.map (ll d G)) = lastg out + G := by
  unfold lastg
  rw [List.getLast?_map, List.getLast?_eq_some_getLast h]
  rfl
theorem fin_later (P : List Ln) (d G : Nat) (now : List W) (out : List Ln) (g : Nat) :
    fin (now.map (lw d)) (P ++ out.map (ll d G)) (g + G) = P ++ (fin now out g).map (ll d G) := by
  unfold fin
  by_cases h : now = []
  · simp [h]
  · simp [h, ll]
theorem bump_later {P : List Ln} {d G : Nat} {out : List Ln} {g : Nat} (hP : P = [] ∨ lastg P = G) (hg : 1 ≤ g) :
    bump (P ++ out.map (ll d G)) (g + G) = bump out g + G := by
  have hb : ∀ (L : List Ln) x, L ≠ [] → bump L x = if lastg L = x then x + 1 else x := by
    intro L x h
    unfold bump lastg
    rw [List.getLast?_eq_some_getLast h]
  by_cases ho : out = []
  · subst ho
    rw [List.map_nil, List.append_nil]
    by_cases hp : P = []
    · subst hp; rfl
    · have hP := hP.resolve_left hp
      rw [hb _ _ hp, if_neg (by omega)]
      rfl
  · have hm : out.map (ll d G) ≠ [] := by simpa using ho
    rw [hb _ _ (by simp [ho]), hb _ _ ho, lastg_append _ _ hm, lastg_map _ _ _ ho]
    by_cases h : lastg out = g
    · rw [if_pos h, if_pos (by omega)]; omega
    · rw [if_neg h, if_neg (by omega)]

def Room (P out : List Ln) (now : List W) (r : Bytes) (res : Except (Int × Nat) (List Ln)) : Prop :=
  P = [] ∨ P.length + out.length + one now + r.length ≤ 1000 ∨ ∃ M, res = .ok M ∧ P.length + M.length ≤ 1000

theorem bump_pos {out : List Ln} {g : Nat} (h : 1 ≤ g) : 1 ≤ bump out g := by
  unfold bump
  split
  · exact h
  · split <;> omega

theorem read_later {P : List Ln} {d G : Nat} (hP : P = [] ∨ lastg P = G) : ∀ (n : Nat) {line : Nat} {now : List W} {out : List Ln} {g : Nat} {r : Bytes}, r.length ≤ n → 1 ≤ g →
    Room P out now r (read env line now out g r) →
    read env (line + d) (now.map (lw d)) (P ++ out.map (ll d G)) (g + G) r = lres P d G (read env line now out g r) := by
  intro n
  induction n with
  | zero =>
    intro line now out g r hn hg hr
    have : r = [] := List.eq_nil_of_length_eq_zero (by omega)
    subst this
    rw [read_nil, read_nil, fin_later]; rfl
  | succ n ih =>
    intro line now out g r hn hg hr
    cases r with
    | nil => rw [read_nil, read_nil, fin_later]; rfl
    | cons c r =>
      simp only [List.length_cons] at hn
      have h0 : one [] = 0 := rfl
      have hs : ∀ x, one (now ++ [x]) = 1 := by intro x; unfold one; simp
      have hone : one now ≤ 1 := by unfold one; split <;> omega
      have hl := fin_len now out g
      rw [read_cons] at hr ⊢
      rw [read_cons]
      by_cases e1 : c = 32 ∨ c = 9
      · rw [if_pos e1] at hr ⊢
        rw [if_pos e1]
        refine ih (by omega) hg ?_
        rcases hr with h | h | h
        · exact .inl h
        · exact .inr (.inl (by simp only [List.length_cons] at h; omega))
        · exact .inr (.inr h)
      rw [if_neg e1] at hr ⊢
      rw [if_neg e1]
      by_cases e2 : c = 92 ∧ r.head? = some 10
      · rw [if_pos e2] at hr ⊢
        rw [if_pos e2, Nat.add_right_comm]
        refine ih (by rw [List.length_tail]; omega) hg ?_
        rcases hr with h | h | h
        · exact .inl h
        · exact .inr (.inl (by simp only [List.length_cons, List.length_tail] at h ⊢; omega))
        · exact .inr (.inr h)
      rw [if_neg e2] at hr ⊢
      rw [if_neg e2]
      by_cases e3 : c = 35
      · have := toFeed_len r
        rw [if_pos e3] at hr ⊢
        rw [if_pos e3]
        refine ih (by omega) hg ?_
        rcases hr with h | h | h
        · exact .inl h
        · exact .inr (.inl (by simp only [List.length_cons] at h; omega))
        · exact .inr (.inr h)
      rw [if_neg e3] at hr ⊢
      rw [if_neg e3]
      by_cases e4 : c = 59
      · rw [if_pos e4] at hr ⊢
        rw [if_pos e4, fin_later]
        refine ih (now := []) (by omega) hg ?_
        rcases hr with h | h | h
        · exact .inl h
        · exact .inr (.inl (by simp only [List.length_cons] at h; omega))
        · exact .inr (.inr h)
      rw [if_neg e4] at hr ⊢
      rw [if_neg e4]
      by_cases e5 : c = 10
      · rw [if_pos e5] at hr ⊢
        rw [if_pos e5, fin_later, bump_later hP hg, Nat.add_right_comm]
        refine ih (now := []) (by omega) (bump_pos hg) ?_
        rcases hr with h | h | h
        · exact .inl h
        · exact .inr (.inl (by simp only [List.length_cons] at h; omega))
        · exact .inr (.inr h)
      rw [if_neg e5] at hr ⊢
      rw [if_neg e5]
      by_cases e6 : c = 125
      · rw [if_pos e6, if_pos e6]; rfl
      rw [if_neg e6] at hr ⊢
      rw [if_neg e6]
      by_cases e7 : now.length = 256 ∨ now = [] ∧ out.length = 1000
      · rw [if_pos e7] at hr ⊢
        have e7' : (now.map (lw d)).length = 256 ∨ now.map (lw d) = [] ∧ (P ++ out.map (ll d G)).length = 1000 := by
          rw [List.length_map, List.map_eq_nil_iff, List.length_append, List.length_map]
          rcases e7 with h | ⟨h1, h2⟩
          · exact .inl h
          · refine .inr ⟨h1, ?_⟩
            rcases hr with rfl | h | ⟨M, h, _⟩
            · simpa using h2
            · simp only [List.length_cons] at h; omega
            · cases h
        rw [if_pos e7']
        rfl
      rw [if_neg e7] at hr ⊢
      have e7' : ¬ ((now.map (lw d)).length = 256 ∨ now.map (lw d) = [] ∧ (P ++ out.map (ll d G)).length = 1000) := by
        rw [List.length_map, List.map_eq_nil_iff, List.length_append, List.length_map]
        intro h
        rcases h with h | ⟨h1, h2⟩
        · exact e7 (.inl h)
        · rcases hr with rfl | h | ⟨M, h, hM⟩
          · exact e7 (.inr ⟨h1, by simpa using h2⟩)
          · simp only [List.length_cons] at h; omega
          · have hlen : out.length + 1 ≤ M.length := by
              split at h
              · split at h
                · cases h
                · rename_i r1 hd
                  split at h
                  · have := read_few _ (Nat.le_refl _) h
                    rw [hs] at this; omega
                  · cases h
              · split at h
                · cases h
                · have := read_few _ (Nat.le_refl _) h
                  rw [hs] at this; omega
            omega
      rw [if_neg e7']
      by_cases e8 : c = 123
      · rw [if_pos e8] at hr ⊢
        rw [if_pos e8]
        cases hd : blk 1 r with
        | none => rfl
        | some r1 =>
          have h1 := blk_len _ (Nat.le_refl _) hd
          rw [hd] at hr
          dsimp only at hr ⊢
          by_cases ho : over r1 = true
          · rw [if_pos ho] at hr ⊢
            rw [if_pos ho]
            have := @ih (line + (feeds r - feeds r1)) (now ++ [⟨r.take (r.length - r1.length - 1), line, true⟩]) out g r1 (by omega) hg ?_
            · rw [← this, List.map_append, Nat.add_right_comm]; rfl
            · rcases hr with h | h | h
              · exact .inl h
              · refine .inr (.inl ?_)
                rw [hs]; simp only [List.length_cons] at h; omega
              · exact .inr (.inr h)
          · rw [if_neg ho, if_neg ho]; rfl
      · rw [if_neg e8] at hr ⊢
        rw [if_neg e8]
        cases hd : word env true [] (c :: r) with
        | error x => rfl
        | ok p =>
          obtain ⟨t1, r1⟩ := p
          have ho : over (c :: r) = false := by
            simp only [not_or] at e1
            simp [over, e1, e4, e5]
          have h1 := word_lt ho hd
          simp only [List.length_cons] at h1
          rw [hd] at hr
          dsimp only at hr ⊢
          have := @ih (line + (feeds (c :: r) - feeds r1)) (now ++ [⟨t1, line, false⟩]) out g r1 (by omega) hg ?_
          · rw [← this, List.map_append, Nat.add_right_comm]; rfl
          · rcases hr with h | h | h
            · exact .inl h
            · refine .inr (.inl ?_)
              rw [hs]; simp only [List.length_cons] at h; omega
            · exact .inr (.inr h)

/-- the law of two texts -/
theorem split_two {a b : Bytes} {L : List Ln} (hlen : a.length + b.length ≤ 60000) (ha : split env a = .ok L)
    (hr : L.length + b.length ≤ 1000 ∨ ∃ M, split env b = .ok M ∧ L.length + M.length ≤ 1000) :
    split env (a ++ tail b) = lres L (feeds a + 1) (lastg L) (split env b) := by
  have ht : (tail b).length = b.length + 1 := rfl
  have hfa : ∀ s : Bytes, s.length ≤ 60001 → split env s = read env 1 [] [] 1 s := fun s hs => by rw [split, if_neg (by omega)]
  rw [hfa _ (by omega)] at ha
  rw [hfa _ (by rw [List.length_append]; omega)]
  rw [hfa b (by omega)] at hr ⊢
  rw [read_part b _ (Nat.le_refl _) (.inl ⟨rfl, rfl⟩) ha]
  have := @read_later env L (feeds a + 1) (lastg L) (.inr rfl) _ 1 [] [] 1 b (Nat.le_refl _) (Nat.le_refl _) (by
    rcases hr with h | h
    · exact .inr (.inl (by simp [one]; omega))
    · exact .inr (.inr h))
  rw [← this]
  simp only [List.map_nil, List.append_nil]
  congr 1 <;> omega

theorem toFeed_out {m s : Bytes} (h : ∀ x ∈ m, x ≠ 10) : toFeed (m ++ tail s) = tail s := by
  induction m with
  | nil => simp [toFeed, tail]
  | cons c m ih =>
    rw [List.cons_append, toFeed, if_neg (h c (by simp))]
    exact ih fun x hx => h x (by simp [hx])

/-- the law of remarks -/
theorem split_remarks {m s : Bytes} (hlen : s.length + m.length ≤ 60000) (h : ∀ x ∈ m, x ≠ 10) :
    split env (10 :: 32 :: 9 :: 35 :: (m ++ tail (tail s))) = lres [] 3 0 (split env s) := by
  have ht : ∀ b, (tail b).length = b.length + 1 := fun _ => rfl
  rw [split, if_neg (by simp only [List.length_cons, List.length_append, ht]; omega), split, if_neg (by omega)]
  rw [read_cons, if_neg (by decide), if_neg (by simp), if_neg (by decide), if_neg (by decide), if_pos rfl]
  rw [read_cons, if_pos (by decide), read_cons, if_pos (by decide), read_cons, if_neg (by decide), if_neg (by simp), if_pos rfl, toFeed_out h, read_feed, read_feed]
  have := @read_later env [] 3 0 (.inl rfl) _ 1 [] [] 1 s (Nat.le_refl _) (Nat.le_refl _) (.inl rfl)
  rw [← this]
  rfl
end Lx
end Go.Proofs.YtedlhdegdlabhaaGreatDoor
