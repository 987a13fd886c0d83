/- What package lex computes, as plain functions on lists of bytes: names, values, quoted texts, words, blocks, commands. No program. -/
import Derived.KernelRfl
namespace Go.Proofs.YtedlhdegdlabhaaGreatDoor
namespace Lx
abbrev Bytes := List UInt8
abbrev Env := List (Bytes × Bytes)
abbrev Res (α : Type) := Except Int α

def feeds (l : Bytes) : Nat := l.count 10
def over : Bytes → Bool
  | [] => true
  | b :: _ => b == 32 || b == 9 || b == 10 || b == 59
def letter (b : UInt8) : Bool := (97 ≤ b && b ≤ 122) || (65 ≤ b && b ≤ 90) || b == 95
def digit (b : UInt8) : Bool := 48 ≤ b && b ≤ 57
/-- the bytes that go on a name -/
def more : Bytes → Bytes × Bytes
  | [] => ([], [])
  | b :: r => if letter b || digit b then (b :: (more r).1, (more r).2) else ([], b :: r)
def name : Bytes → Bytes × Bytes
  | [] => ([], [])
  | b :: r => if letter b then (b :: (more r).1, (more r).2) else ([], b :: r)
def value (env : Env) (n : Bytes) : Bytes := env.foldl (fun v p => if p.1 = n then p.2 else v) []
def put (t u : Bytes) : Res Bytes := if (t ++ u).length > 8192 then .error 2 else .ok (t ++ u)
/-- behind a dollar: the text, what is left -/
def dollar (env : Env) (t : Bytes) : Bytes → Res (Bytes × Bytes)
  | 123 :: r =>
    if (name r).1 = [] then .error 4
    else match (name r).2 with
      | 125 :: r' => match put t (value env (name r).1) with
        | .error c => .error c
        | .ok t' => .ok (t', r')
      | _ => .error 4
  | r =>
    if (name r).1 = [] then match put t [36] with
      | .error c => .error c
      | .ok t' => .ok (t', r)
    else match put t (value env (name r).1) with
      | .error c => .error c
      | .ok t' => .ok (t', (name r).2)
def esc (c : UInt8) : Bytes := if c = 110 then [10] else if c = 116 then [9] else if c = 101 then [27] else [c]

theorem more_len (r : Bytes) : (more r).2.length ≤ r.length := by
  induction r with
  | nil => simp [more]
  | cons b r ih => simp only [more]; split <;> simp; omega
theorem name_len (r : Bytes) : (name r).2.length ≤ r.length := by
  cases r with
  | nil => simp [name]
  | cons b r => simp only [name]; split <;> simp; have := more_len r; omega
theorem dollar_len {env : Env} {t r t' r' : Bytes} (h : dollar env t r = .ok (t', r')) : r'.length ≤ r.length := by
  unfold dollar at h
  split at h
  · rename_i r0
    have hn := name_len r0
    split at h
    · cases h
    · split at h
      · rename_i r1 e
        rw [e] at hn
        split at h
        · cases h
        · cases h; simp at hn ⊢; omega
      · cases h
  · have hn := name_len r
    split at h
    · split at h
      · cases h
      · cases h; omega
    · split at h
      · cases h
      · cases h; omega

/-- up to the closing quote -/
def quoted (env : Env) (t : Bytes) : Bytes → Res (Bytes × Bytes)
  | [] => .error 4
  | b :: r =>
    if b = 34 then .ok (t, r)
    else if b = 36 then match hd : dollar env t r with
      | .error c => .error c
      | .ok (t', r') =>
        have := dollar_len hd
        quoted env t' r'
    else if b = 92 then match r with
      | [] => .error 4
      | c :: r' => if c = 10 then quoted env t r' else match put t (esc c) with
        | .error e => .error e
        | .ok t' => quoted env t' r'
    else match put t [b] with
      | .error e => .error e
      | .ok t' => quoted env t' r
  termination_by r => r.length
  decreasing_by all_goals ((try simp only [List.length_cons] at *); omega)

theorem quoted_nil (env : Env) (t : Bytes) : quoted env t [] = .error 4 := by rw [quoted]
theorem quoted_cons (env : Env) (t : Bytes) (b : UInt8) (r : Bytes) : quoted env t (b :: r) =
    if b = 34 then .ok (t, r)
    else if b = 36 then match dollar env t r with
      | .error c => .error c
      | .ok (t', r') => quoted env t' r'
    else if b = 92 then match r with
      | [] => .error 4
      | c :: r' => if c = 10 then quoted env t r' else match put t (esc c) with
        | .error e => .error e
        | .ok t' => quoted env t' r'
    else match put t [b] with
      | .error e => .error e
      | .ok t' => quoted env t' r := by
  rw [quoted.eq_def]
  dsimp only
  congr 1
  split
  · split <;> simp_all
  · rfl

/-- up to the closing single quote -/
def single (t : Bytes) : Bytes → Res (Bytes × Bytes)
  | [] => .error 4
  | b :: r => if b = 39 then .ok (t, r) else match put t [b] with
    | .error e => .error e
    | .ok t' => single t' r

theorem single_len {r : Bytes} : ∀ {t t' r' : Bytes}, single t r = .ok (t', r') → r'.length < r.length := by
  induction r with
  | nil => intro t t' r' h; cases h
  | cons b r ih =>
    intro t t' r' h
    unfold single at h
    split at h
    · cases h; simp
    · split at h
      · cases h
      · have := ih h; simp; omega

theorem quoted_len {env : Env} : ∀ (n : Nat) {t r t' r' : Bytes}, r.length ≤ n → quoted env t r = .ok (t', r') → r'.length < r.length := by
  intro n
  induction n with
  | zero =>
    intro t r t' r' hn h
    have : r = [] := List.eq_nil_of_length_eq_zero (by omega)
    subst this
    rw [quoted_nil] at h; cases h
  | succ n ih =>
    intro t r t' r' hn h
    cases r with
    | nil => rw [quoted_nil] at h; cases h
    | cons b r =>
      simp only [List.length_cons] at hn ⊢
      rw [quoted_cons] at h
      split at h
      · cases h; omega
      · split at h
        · split at h
          · cases h
          · rename_i hd
            have h1 := dollar_len hd
            have h2 := ih (by omega) h
            omega
        · split at h
          · split at h
            · cases h
            · simp only [List.length_cons] at hn ⊢
              split at h
              · have := ih (by omega) h; omega
              · split at h
                · cases h
                · have := ih (by omega) h; omega
          · split at h
            · cases h
            · have := ih (by omega) h; omega

/-- the word that stands here -/
def word (env : Env) (first : Bool) (t : Bytes) (r : Bytes) : Res (Bytes × Bytes) :=
  if over r then .ok (t, r) else match r with
  | [] => .ok (t, [])
  | b :: r =>
    if b = 39 then match hd : single t r with
      | .error c => .error c
      | .ok (t', r') =>
        have := single_len hd
        word env false t' r'
    else if b = 34 then match hd : quoted env t r with
      | .error c => .error c
      | .ok (t', r') =>
        have := quoted_len _ (Nat.le_refl _) hd
        word env false t' r'
    else if b = 92 then match r with
      | [] => .error 4
      | c :: r' => if c = 10 then word env false t r' else match put t [c] with
        | .error e => .error e
        | .ok t' => word env false t' r'
    else if b = 36 then match hd : dollar env t r with
      | .error c => .error c
      | .ok (t', r') =>
        have := dollar_len hd
        word env false t' r'
    else if b = 126 ∧ first = true ∧ (r.head? = some 47 ∨ over r = true) then match put t (value env [72, 79, 77, 69]) with
      | .error e => .error e
      | .ok t' => word env false t' r
    else match put t [b] with
      | .error e => .error e
      | .ok t' => word env false t' r
  termination_by r.length
  decreasing_by all_goals ((try simp only [List.length_cons] at *); omega)

theorem word_over (env : Env) (f : Bool) (t r : Bytes) (h : over r = true) : word env f t r = .ok (t, r) := by
  rw [word.eq_def, if_pos h]
theorem word_cons (env : Env) (first : Bool) (t : Bytes) (b : UInt8) (r : Bytes) : over (b :: r) = false → word env first t (b :: r) =
    if b = 39 then match single t r with
      | .error c => .error c
      | .ok (t', r') => word env false t' r'
    else if b = 34 then match quoted env t r with
      | .error c => .error c
      | .ok (t', r') => word env false t' r'
    else if b = 92 then match r with
      | [] => .error 4
      | c :: r' => if c = 10 then word env false t r' else match put t [c] with
        | .error e => .error e
        | .ok t' => word env false t' r'
    else if b = 36 then match dollar env t r with
      | .error c => .error c
      | .ok (t', r') => word env false t' r'
    else if b = 126 ∧ first = true ∧ (r.head? = some 47 ∨ over r = true) then match put t (value env [72, 79, 77, 69]) with
      | .error e => .error e
      | .ok t' => word env false t' r
    else match put t [b] with
      | .error e => .error e
      | .ok t' => word env false t' r := by
  intro ho
  rw [word.eq_def, if_neg (by simp [ho])]
  dsimp only
  by_cases h1 : b = 39
  · rw [if_pos h1, if_pos h1]
    split <;> simp_all
  by_cases h2 : b = 34
  · rw [if_neg h1, if_pos h2, if_neg h1, if_pos h2]
    split <;> simp_all
  by_cases h3 : b = 92
  · simp only [if_neg h1, if_neg h2, if_pos h3]
    cases r <;> rfl
  by_cases h4 : b = 36
  · rw [if_neg h1, if_neg h2, if_neg h3, if_pos h4, if_neg h1, if_neg h2, if_neg h3, if_pos h4]
    split <;> simp_all
  simp only [if_neg h1, if_neg h2, if_neg h3, if_neg h4]

/-- behind a single, a double quote in a block -/
def skipS : Bytes → Option Bytes
  | [] => none
  | b :: r => if b = 39 then some r else skipS r
def skipD : Bytes → Option Bytes
  | [] => none
  | b :: r => if b = 34 then some r else if b = 92 then match r with
    | [] => none
    | _ :: r' => skipD r'
    else skipD r
theorem skipS_len {r r' : Bytes} (h : skipS r = some r') : r'.length < r.length := by
  induction r with
  | nil => cases h
  | cons b r ih =>
    unfold skipS at h
    split at h
    · cases h; simp
    · have := ih h; simp; omega
theorem skipD_len : ∀ (n : Nat) {r r' : Bytes}, r.length ≤ n → skipD r = some r' → r'.length < r.length := by
  intro n
  induction n with
  | zero =>
    intro r r' hn h
    have : r = [] := List.eq_nil_of_length_eq_zero (by omega)
    subst this; unfold skipD at h; cases h
  | succ n ih =>
    intro r r' hn h
    cases r with
    | nil => unfold skipD at h; cases h
    | cons b r =>
      simp only [List.length_cons] at hn ⊢
      rw [skipD.eq_def] at h
      simp only at h
      split at h
      · cases h; omega
      · split at h
        · split at h
          · cases h
          · simp only [List.length_cons] at hn ⊢
            have := ih (by omega) h; omega
        · have := ih (by omega) h; omega
/-- behind the brace that ends a block; deep: how many are open -/
def blk (deep : Nat) : Bytes → Option Bytes
  | [] => none
  | b :: r =>
    if b = 123 then blk (deep + 1) r
    else if b = 125 then (if deep ≤ 1 then some r else blk (deep - 1) r)
    else if b = 92 then match r with
      | [] => none
      | _ :: r' => blk deep r'
    else if b = 39 then match hd : skipS r with
      | none => none
      | some r' =>
        have := skipS_len hd
        blk deep r'
    else if b = 34 then match hd : skipD r with
      | none => none
      | some r' =>
        have := skipD_len _ (Nat.le_refl _) hd
        blk deep r'
    else blk deep r
  termination_by r => r.length
  decreasing_by all_goals ((try simp only [List.length_cons] at *); omega)

theorem blk_nil (deep : Nat) : blk deep [] = none := by rw [blk]
theorem blk_cons (deep : Nat) (b : UInt8) (r : Bytes) : blk deep (b :: r) =
    if b = 123 then blk (deep + 1) r
    else if b = 125 then (if deep ≤ 1 then some r else blk (deep - 1) r)
    else if b = 92 then match r with
      | [] => none
      | _ :: r' => blk deep r'
    else if b = 39 then match skipS r with
      | none => none
      | some r' => blk deep r'
    else if b = 34 then match skipD r with
      | none => none
      | some r' => blk deep r'
    else blk deep r := by
  rw [blk.eq_def]
  dsimp only
  congr 1
  congr 1
  congr 1
  congr 1
  · split <;> simp_all
  · congr 1
    split <;> simp_all

theorem blk_len : ∀ (n : Nat) {deep : Nat} {r r' : Bytes}, r.length ≤ n → blk deep r = some r' → r'.length < r.length := by
  intro n
  induction n with
  | zero =>
    intro deep r r' hn h
    have : r = [] := List.eq_nil_of_length_eq_zero (by omega)
    subst this; rw [blk_nil] at h; cases h
  | succ n ih =>
    intro deep r r' hn h
    cases r with
    | nil => rw [blk_nil] at h; cases h
    | cons b r =>
      simp only [List.length_cons] at hn ⊢
      rw [blk_cons] at h
      split at h
      · have := ih (by omega) h; omega
      · split at h
        · split at h
          · cases h; omega
          · have := ih (by omega) h; omega
        · split at h
          · split at h
            · cases h
            · simp only [List.length_cons] at hn ⊢
              have := ih (by omega) h; omega
          · split at h
            · split at h
              · cases h
              · rename_i hd
                have h1 := skipS_len hd
                have := ih (by omega) h; omega
            · split at h
              · split at h
                · cases h
                · rename_i hd
                  have h1 := skipD_len _ (Nat.le_refl _) hd
                  have := ih (by omega) h; omega
              · have := ih (by omega) h; omega

theorem word_len {env : Env} : ∀ (n : Nat) {f : Bool} {t r t' r' : Bytes}, r.length ≤ n → word env f t r = .ok (t', r') → r'.length ≤ r.length := by
  intro n
  induction n with
  | zero =>
    intro f t r t' r' hn h
    have : r = [] := List.eq_nil_of_length_eq_zero (by omega)
    subst this
    rw [word_over _ _ _ _ rfl] at h
    cases h; simp
  | succ n ih =>
    intro f t r t' r' hn h
    cases ho : over r with
    | true => rw [word_over _ _ _ _ ho] at h; cases h; omega
    | false =>
      cases r with
      | nil => simp [over] at ho
      | cons b r =>
        rw [word_cons _ _ _ _ _ ho] at h
        simp only [List.length_cons] at hn ⊢
        split at h
        · split at h
          · cases h
          · rename_i hd
            have h1 := single_len hd
            have := ih (by omega) h; omega
        · split at h
          · split at h
            · cases h
            · rename_i hd
              have h1 := quoted_len _ (Nat.le_refl _) hd
              have := ih (by omega) h; omega
          · split at h
            · split at h
              · cases h
              · simp only [List.length_cons] at hn ⊢
                split at h
                · have := ih (by omega) h; omega
                · split at h
                  · cases h
                  · have := ih (by omega) h; omega
            · split at h
              · split at h
                · cases h
                · rename_i hd
                  have h1 := dollar_len hd
                  have := ih (by omega) h; omega
              · split at h
                · split at h
                  · cases h
                  · have := ih (by omega) h; omega
                · split at h
                  · cases h
                  · have := ih (by omega) h; omega
theorem word_lt {env : Env} {f : Bool} {t r t' r' : Bytes} (ho : over r = false) (h : word env f t r = .ok (t', r')) : r'.length < r.length := by
  cases r with
  | nil => simp [over] at ho
  | cons b r =>
    rw [word_cons _ _ _ _ _ ho] at h
    simp only [List.length_cons]
    split at h
    · split at h
      · cases h
      · rename_i hd
        have h1 := single_len hd
        have := word_len _ (Nat.le_refl _) h; omega
    · split at h
      · split at h
        · cases h
        · rename_i hd
          have h1 := quoted_len _ (Nat.le_refl _) hd
          have := word_len _ (Nat.le_refl _) h; omega
      · split at h
        · split at h
          · cases h
          · simp only [List.length_cons]
            split at h
            · have := word_len _ (Nat.le_refl _) h; omega
            · split at h
              · cases h
              · have := word_len _ (Nat.le_refl _) h; omega
        · split at h
          · split at h
            · cases h
            · rename_i hd
              have h1 := dollar_len hd
              have := word_len _ (Nat.le_refl _) h; omega
          · split at h
            · split at h
              · cases h
              · have := word_len _ (Nat.le_refl _) h; omega
            · split at h
              · cases h
              · have := word_len _ (Nat.le_refl _) h; omega

structure W where
  text : Bytes
  line : Nat
  block : Bool
  deriving DecidableEq
abbrev Ln := List W × Nat
def fin (now : List W) (out : List Ln) (g : Nat) : List Ln := if now = [] then out else out ++ [(now, g)]
def bump (out : List Ln) (g : Nat) : Nat := match out.getLast? with
  | none => g
  | some l => if l.2 = g then g + 1 else g
def toFeed : Bytes → Bytes
  | [] => []
  | b :: r => if b = 10 then b :: r else toFeed r
theorem toFeed_len (r : Bytes) : (toFeed r).length ≤ r.length := by
  induction r with
  | nil => simp [toFeed]
  | cons b r ih => simp only [toFeed]; split <;> simp; omega
/-- the commands that stand here -/
def read (env : Env) (line : Nat) (now : List W) (out : List Ln) (g : Nat) : Bytes → Except (Int × Nat) (List Ln)
  | [] => .ok (fin now out g)
  | b :: r =>
    if b = 32 ∨ b = 9 then read env line now out g r
    else if b = 92 ∧ r.head? = some 10 then read env (line + 1) now out g r.tail
    else if b = 35 then
      have := toFeed_len r
      read env line now out g (toFeed r)
    else if b = 59 then read env line [] (fin now out g) g r
    else if b = 10 then read env (line + 1) [] (fin now out g) (bump (fin now out g) g) r
    else if b = 125 then .error (4, line)
    else if now.length = 256 ∨ now = [] ∧ out.length = 1000 then .error (3, line)
    else if b = 123 then match hd : blk 1 r with
      | none => .error (4, line)
      | some r' =>
        have := blk_len _ (Nat.le_refl _) hd
        if over r' then read env (line + (feeds r - feeds r')) (now ++ [⟨r.take (r.length - r'.length - 1), line, true⟩]) out g r'
        else .error (4, line)
    else if ho : over (b :: r) = false then match hd : word env true [] (b :: r) with
      | .error c => .error (c, line)
      | .ok (t, r') =>
        have := word_lt ho hd
        read env (line + (feeds (b :: r) - feeds r')) (now ++ [⟨t, line, false⟩]) out g r'
    else .error (0, 0)
  termination_by r => r.length
  decreasing_by all_goals ((try simp only [List.length_cons, List.length_tail] at *); omega)
theorem read_nil (env : Env) (line : Nat) (now : List W) (out : List Ln) (g : Nat) : read env line now out g [] = .ok (fin now out g) := by rw [read]
theorem read_cons (env : Env) (line : Nat) (now : List W) (out : List Ln) (g : Nat) (b : UInt8) (r : Bytes) : read env line now out g (b :: r) =
    if b = 32 ∨ b = 9 then read env line now out g r
    else if b = 92 ∧ r.head? = some 10 then read env (line + 1) now out g r.tail
    else if b = 35 then read env line now out g (toFeed r)
    else if b = 59 then read env line [] (fin now out g) g r
    else if b = 10 then read env (line + 1) [] (fin now out g) (bump (fin now out g) g) r
    else if b = 125 then .error (4, line)
    else if now.length = 256 ∨ now = [] ∧ out.length = 1000 then .error (3, line)
    else if b = 123 then match blk 1 r with
      | none => .error (4, line)
      | some r' =>
        if over r' then read env (line + (feeds r - feeds r')) (now ++ [⟨r.take (r.length - r'.length - 1), line, true⟩]) out g r'
        else .error (4, line)
    else match word env true [] (b :: r) with
      | .error c => .error (c, line)
      | .ok (t, r') => read env (line + (feeds (b :: r) - feeds r')) (now ++ [⟨t, line, false⟩]) out g r' := by
  rw [read.eq_def]
  dsimp only
  by_cases h1 : b = 32 ∨ b = 9
  · rw [if_pos h1, if_pos h1]
  by_cases h2 : b = 92 ∧ r.head? = some 10
  · simp only [if_neg h1, if_pos h2]
  by_cases h3 : b = 35
  · simp only [if_neg h1, if_neg h2, if_pos h3]
  by_cases h4 : b = 59
  · simp only [if_neg h1, if_neg h2, if_neg h3, if_pos h4]
  by_cases h5 : b = 10
  · simp only [if_neg h1, if_neg h2, if_neg h3, if_neg h4, if_pos h5]
  have ho : over (b :: r) = false := by
    simp only [not_or] at h1
    simp [over, h1, h4, h5]
  simp only [if_neg h1, if_neg h2, if_neg h3, if_neg h4, if_neg h5, ho]
  congr 1
  congr 1
  congr 1
  · split <;> simp_all
  · rw [dif_pos True.intro]
    split <;> (rename_i heq; rw [heq])
def split (env : Env) (s : Bytes) : Except (Int × Nat) (List Ln) := if s.length > 65536 then .error (2, 0) else read env 1 [] [] 1 s
end Lx
end Go.Proofs.YtedlhdegdlabhaaGreatDoor
