/- What package lex computes, as plain functions on lists of bytes: names, values, quoted texts, words, blocks, commands. No program. What package lex computes: a text that is read to its end is read as well ahead of a line feed, and reading on from a later line and a later group gives the same commands, later. No program. What package lex computes at the three texts of 'shown', and the bounds that hold of all it reads. No program. -/
import Derived.KernelRfl
namespace Go.Proofs.YtiopaenonjhlnaaGreatDoor
namespace Lx
abbrev Bytes := List UInt8
abbrev Env := List (Bytes × Bytes)
abbrev Res (α : Type) := Except Int α

def feeds (l : Bytes) : Nat := l.count 10
def over : Bytes → Bool
  | [] => true
  | b :: _ => b == 32 || b == 9 || b == 10 || b == 59
def letter (b : UInt8) : Bool := (97 ≤ b && b ≤ 122) || (65 ≤ b && b ≤ 90) || b == 95
def digit (b : UInt8) : Bool := 48 ≤ b && b ≤ 57
/-- the bytes that go on a name -/
def more : Bytes → Bytes × Bytes
  | [] => ([], [])
  | b :: r => if letter b || digit b then (b :: (more r).1, (more r).2) else ([], b :: r)
def name : Bytes → Bytes × Bytes
  | [] => ([], [])
  | b :: r => if letter b then (b :: (more r).1, (more r).2) else ([], b :: r)
def value (env : Env) (n : Bytes) : Bytes := env.foldl (fun v p => if p.1 = n then p.2 else v) []
def put (t u : Bytes) : Res Bytes := if (t ++ u).length > 8192 then .error 2 else .ok (t ++ u)
/-- behind a dollar: the text, what is left -/
def dollar (env : Env) (t : Bytes) : Bytes → Res (Bytes × Bytes)
  | 123 :: r =>
    if (name r).1 = [] then .error 4
    else match (name r).2 with
      | 125 :: r' => match put t (value env (name r).1) with
        | .error c => .error c
        | .ok t' => .ok (t', r')
      | _ => .error 4
  | r =>
    if (name r).1 = [] then match put t [36] with
      | .error c => .error c
      | .ok t' => .ok (t', r)
    else match put t (value env (name r).1) with
      | .error c => .error c
      | .ok t' => .ok (t', (name r).2)
def esc (c : UInt8) : Bytes := if c = 110 then [10] else if c = 116 then [9] else if c = 101 then [27] else [c]

theorem more_len (r : Bytes) : (more r).2.length ≤ r.length := by
  induction r with
  | nil => simp [more]
  | cons b r ih => simp only [more]; split <;> simp; omega
theorem name_len (r : Bytes) : (name r).2.length ≤ r.length := by
  cases r with
  | nil => simp [name]
  | cons b r => simp only [name]; split <;> simp; have := more_len r; omega
theorem dollar_len {env : Env} {t r t' r' : Bytes} (h : dollar env t r = .ok (t', r')) : r'.length ≤ r.length := by
  unfold dollar at h
  split at h
  · rename_i r0
    have hn := name_len r0
    split at h
    · cases h
    · split at h
      · rename_i r1 e
        rw [e] at hn
        split at h
        · cases h
        · cases h; simp at hn ⊢; omega
      · cases h
  · have hn := name_len r
    split at h
    · split at h
      · cases h
      · cases h; omega
    · split at h
      · cases h
      · cases h; omega

/-- up to the closing quote -/
def quoted (env : Env) (t : Bytes) : Bytes → Res (Bytes × Bytes)
  | [] => .error 4
  | b :: r =>
    if b = 34 then .ok (t, r)
    else if b = 36 then match hd : dollar env t r with
      | .error c => .error c
      | .ok (t', r') =>
        have := dollar_len hd
        quoted env t' r'
    else if b = 92 then match r with
      | [] => .error 4
      | c :: r' => if c = 10 then quoted env t r' else match put t (esc c) with
        | .error e => .error e
        | .ok t' => quoted env t' r'
    else match put t [b] with
      | .error e => .error e
      | .ok t' => quoted env t' r
  termination_by r => r.length
  decreasing_by all_goals ((try simp only [List.length_cons] at *); omega)

theorem quoted_nil (env : Env) (t : Bytes) : quoted env t [] = .error 4 := by rw [quoted]
theorem quoted_cons (env : Env) (t : Bytes) (b : UInt8) (r : Bytes) : quoted env t (b :: r) =
    if b = 34 then .ok (t, r)
    else if b = 36 then match dollar env t r with
      | .error c => .error c
      | .ok (t', r') => quoted env t' r'
    else if b = 92 then match r with
      | [] => .error 4
      | c :: r' => if c = 10 then quoted env t r' else match put t (esc c) with
        | .error e => .error e
        | .ok t' => quoted env t' r'
    else match put t [b] with
      | .error e => .error e
      | .ok t' => quoted env t' r := by
  rw [quoted.eq_def]
  dsimp only
  congr 1
  split
  · split <;> simp_all
  · rfl

/-- up to the closing single quote -/
def single (t : Bytes) : Bytes → Res (Bytes × Bytes)
  | [] => .error 4
  | b :: r => if b = 39 then .ok (t, r) else match put t [b] with
    | .error e => .error e
    | .ok t' => single t' r

theorem single_len {r : Bytes} : ∀ {t t' r' : Bytes}, single t r = .ok (t', r') → r'.length < r.length := by
  induction r with
  | nil => intro t t' r' h; cases h
  | cons b r ih =>
    intro t t' r' h
    unfold single at h
    split at h
    · cases h; simp
    · split at h
      · cases h
      · have := ih h; simp; omega

theorem quoted_len {env : Env} : ∀ (n : Nat) {t r t' r' : Bytes}, r.length ≤ n → quoted env t r = .ok (t', r') → r'.length < r.length := by
  intro n
  induction n with
  | zero =>
    intro t r t' r' hn h
    have : r = [] := List.eq_nil_of_length_eq_zero (by omega)
    subst this
    rw [quoted_nil] at h; cases h
  | succ n ih =>
    intro t r t' r' hn h
    cases r with
    | nil => rw [quoted_nil] at h; cases h
    | cons b r =>
      simp only [List.length_cons] at hn ⊢
      rw [quoted_cons] at h
      split at h
      · cases h; omega
      · split at h
        · split at h
          · cases h
          · rename_i hd
            have h1 := dollar_len hd
            have h2 := ih (by omega) h
            omega
        · split at h
          · split at h
            · cases h
            · simp only [List.length_cons] at hn ⊢
              split at h
              · have := ih (by omega) h; omega
              · split at h
                · cases h
                · have := ih (by omega) h; omega
          · split at h
            · cases h
            · have := ih (by omega) h; omega

/-- the word that stands here -/
def word (env : Env) (first : Bool) (t : Bytes) (r : Bytes) : Res (Bytes × Bytes) :=
  if over r then .ok (t, r) else match r with
  | [] => .ok (t, [])
  | b :: r =>
    if b = 39 then match hd : single t r with
      | .error c => .error c
      | .ok (t', r') =>
        have := single_len hd
        word env false t' r'
    else if b = 34 then match hd : quoted env t r with
      | .error c => .error c
      | .ok (t', r') =>
        have := quoted_len _ (Nat.le_refl _) hd
        word env false t' r'
    else if b = 92 then match r with
      | [] => .error 4
      | c :: r' => if c = 10 then word env false t r' else match put t [c] with
        | .error e => .error e
        | .ok t' => word env false t' r'
    else if b = 36 then match hd : dollar env t r with
      | .error c => .error c
      | .ok (t', r') =>
        have := dollar_len hd
        word env false t' r'
    else if b = 126 ∧ first = true ∧ (r.head? = some 47 ∨ over r = true) then match put t (value env [72, 79, 77, 69]) with
      | .error e => .error e
      | .ok t' => word env false t' r
    else match put t [b] with
      | .error e => .error e
      | .ok t' => word env false t' r
  termination_by r.length
  decreasing_by all_goals ((try simp only [List.length_cons] at *); omega)

theorem word_over (env : Env) (f : Bool) (t r : Bytes) (h : over r = true) : word env f t r = .ok (t, r) := by
  rw [word.eq_def, if_pos h]
theorem word_cons (env : Env) (first : Bool) (t : Bytes) (b : UInt8) (r : Bytes) : over (b :: r) = false → word env first t (b :: r) =
    if b = 39 then match single t r with
      | .error c => .error c
      | .ok (t', r') => word env false t' r'
    else if b = 34 then match quoted env t r with
      | .error c => .error c
      | .ok (t', r') => word env false t' r'
    else if b = 92 then match r with
      | [] => .error 4
      | c :: r' => if c = 10 then word env false t r' else match put t [c] with
        | .error e => .error e
        | .ok t' => word env false t' r'
    else if b = 36 then match dollar env t r with
      | .error c => .error c
      | .ok (t', r') => word env false t' r'
    else if b = 126 ∧ first = true ∧ (r.head? = some 47 ∨ over r = true) then match put t (value env [72, 79, 77, 69]) with
      | .error e => .error e
      | .ok t' => word env false t' r
    else match put t [b] with
      | .error e => .error e
      | .ok t' => word env false t' r := by
  intro ho
  rw [word.eq_def, if_neg (by simp [ho])]
  dsimp only
  by_cases h1 : b = 39
  · rw [if_pos h1, if_pos h1]
    split <;> simp_all
  by_cases h2 : b = 34
  · rw [if_neg h1, if_pos h2, if_neg h1, if_pos h2]
    split <;> simp_all
  by_cases h3 : b = 92
  · simp only [if_neg h1, if_neg h2, if_pos h3]
    cases r <;> rfl
  by_cases h4 : b = 36
  · rw [if_neg h1, if_neg h2, if_neg h3, if_pos h4, if_neg h1, if_neg h2, if_neg h3, if_pos h4]
    split <;> simp_all
  simp only [if_neg h1, if_neg h2, if_neg h3, if_neg h4]

/-- behind a single, a double quote in a block -/
def skipS : Bytes → Option Bytes
  | [] => none
  | b :: r => if b = 39 then some r else skipS r
def skipD : Bytes → Option Bytes
  | [] => none
  | b :: r => if b = 34 then some r else if b = 92 then match r with
    | [] => none
    | _ :: r' => skipD r'
    else skipD r
theorem skipS_len {r r' : Bytes} (h : skipS r = some r') : r'.length < r.length := by
  induction r with
  | nil => cases h
  | cons b r ih =>
    unfold skipS at h
    split at h
    · cases h; simp
    · have := ih h; simp; omega
theorem skipD_len : ∀ (n : Nat) {r r' : Bytes}, r.length ≤ n → skipD r = some r' → r'.length < r.length := by
  intro n
  induction n with
  | zero =>
    intro r r' hn h
    have : r = [] := List.eq_nil_of_length_eq_zero (by omega)
    subst this; unfold skipD at h; cases h
  | succ n ih =>
    intro r r' hn h
    cases r with
    | nil => unfold skipD at h; cases h
    | cons b r =>
      simp only [List.length_cons] at hn ⊢
      rw [skipD.eq_def] at h
      simp only at h
      split at h
      · cases h; omega
      · split at h
        · split at h
          · cases h
          · simp only [List.length_cons] at hn ⊢
            have := ih (by omega) h; omega
        · have := ih (by omega) h; omega
/-- behind the brace that ends a block; deep: how many are open -/
def blk (deep : Nat) : Bytes → Option Bytes
  | [] => none
  | b :: r =>
    if b = 123 then blk (deep + 1) r
    else if b = 125 then (if deep ≤ 1 then some r else blk (deep - 1) r)
    else if b = 92 then match r with
      | [] => none
      | _ :: r' => blk deep r'
    else if b = 39 then match hd : skipS r with
      | none => none
      | some r' =>
        have := skipS_len hd
        blk deep r'
    else if b = 34 then match hd : skipD r with
      | none => none
      | some r' =>
        have := skipD_len _ (Nat.le_refl _) hd
        blk deep r'
    else blk deep r
  termination_by r => r.length
  decreasing_by all_goals ((try simp only [List.length_cons] at *); omega)

theorem blk_nil (deep : Nat) : blk deep [] = none := by rw [blk]
theorem blk_cons (deep : Nat) (b : UInt8) (r : Bytes) : blk deep (b :: r) =
    if b = 123 then blk (deep + 1) r
    else if b = 125 then (if deep ≤ 1 then some r else blk (deep - 1) r)
    else if b = 92 then match r with
      | [] => none
      | _ :: r' => blk deep r'
    else if b = 39 then match skipS r with
      | none => none
      | some r' => blk deep r'
    else if b = 34 then match skipD r with
      | none => none
      | some r' => blk deep r'
    else blk deep r := by
  rw [blk.eq_def]
  dsimp only
  congr 1
  congr 1
  congr 1
  congr 1
  · split <;> simp_all
  · congr 1
    split <;> simp_all

theorem blk_len : ∀ (n : Nat) {deep : Nat} {r r' : Bytes}, r.length ≤ n → blk deep r = some r' → r'.length < r.length := by
  intro n
  induction n with
  | zero =>
    intro deep r r' hn h
    have : r = [] := List.eq_nil_of_length_eq_zero (by omega)
    subst this; rw [blk_nil] at h; cases h
  | succ n ih =>
    intro deep r r' hn h
    cases r with
    | nil => rw [blk_nil] at h; cases h
    | cons b r =>
      simp only [List.length_cons] at hn ⊢
      rw [blk_cons] at h
      split at h
      · have := ih (by omega) h; omega
      · split at h
        · split at h
          · cases h; omega
          · have := ih (by omega) h; omega
        · split at h
          · split at h
            · cases h
            · simp only [List.length_cons] at hn ⊢
              have := ih (by omega) h; omega
          · split at h
            · split at h
              · cases h
              · rename_i hd
                have h1 := skipS_len hd
                have := ih (by omega) h; omega
            · split at h
              · split at h
                · cases h
                · rename_i hd
                  have h1 := skipD_len _ (Nat.le_refl _) hd
                  have := ih (by omega) h; omega
              · have := ih (by omega) h; omega

theorem word_len {env : Env} : ∀ (n : Nat) {f : Bool} {t r t' r' : Bytes}, r.length ≤ n → word env f t r = .ok (t', r') → r'.length ≤ r.length := by
  intro n
  induction n with
  | zero =>
    intro f t r t' r' hn h
    have : r = [] := List.eq_nil_of_length_eq_zero (by omega)
    subst this
    rw [word_over _ _ _ _ rfl] at h
    cases h; simp
  | succ n ih =>
    intro f t r t' r' hn h
    cases ho : over r with
    | true => rw [word_over _ _ _ _ ho] at h; cases h; omega
    | false =>
      cases r with
      | nil => simp [over] at ho
      | cons b r =>
        rw [word_cons _ _ _ _ _ ho] at h
        simp only [List.length_cons] at hn ⊢
        split at h
        · split at h
          · cases h
          · rename_i hd
            have h1 := single_len hd
            have := ih (by omega) h; omega
        · split at h
          · split at h
            · cases h
            · rename_i hd
              have h1 := quoted_len _ (Nat.le_refl _) hd
              have := ih (by omega) h; omega
          · split at h
            · split at h
              · cases h
              · simp only [List.length_cons] at hn ⊢
                split at h
                · have := ih (by omega) h; omega
                · split at h
                  · cases h
                  · have := ih (by omega) h; omega
            · split at h
              · split at h
                · cases h
                · rename_i hd
                  have h1 := dollar_len hd
                  have := ih (by omega) h; omega
              · split at h
                · split at h
                  · cases h
                  · have := ih (by omega) h; omega
                · split at h
                  · cases h
                  · have := ih (by omega) h; omega
theorem word_lt {env : Env} {f : Bool} {t r t' r' : Bytes} (ho : over r = false) (h : word env f t r = .ok (t', r')) : r'.length < r.length := by
  cases r with
  | nil => simp [over] at ho
  | cons b r =>
    rw [word_cons _ _ _ _ _ ho] at h
    simp only [List.length_cons]
    split at h
    · split at h
      · cases h
      · rename_i hd
        have h1 := single_len hd
        have := word_len _ (Nat.le_refl _) h; omega
    · split at h
      · split at h
        · cases h
        · rename_i hd
          have h1 := quoted_len _ (Nat.le_refl _) hd
          have := word_len _ (Nat.le_refl _) h; omega
      · split at h
        · split at h
          · cases h
          · simp only [List.length_cons]
            split at h
            · have := word_len _ (Nat.le_refl _) h; omega
            · split at h
              · cases h
              · have := word_len _ (Nat.le_refl _) h; omega
        · split at h
          · split at h
            · cases h
            · rename_i hd
              have h1 := dollar_len hd
              have := word_len _ (Nat.le_refl _) h; omega
          · split at h
            · split at h
              · cases h
              · have := word_len _ (Nat.le_refl _) h; omega
            · split at h
              · cases h
              · have := word_len _ (Nat.le_refl _) h; omega

structure W where
  text : Bytes
  line : Nat
  block : Bool
  deriving DecidableEq
abbrev Ln := List W × Nat
def fin (now : List W) (out : List Ln) (g : Nat) : List Ln := if now = [] then out else out ++ [(now, g)]
def bump (out : List Ln) (g : Nat) : Nat := match out.getLast? with
  | none => g
  | some l => if l.2 = g then g + 1 else g
def toFeed : Bytes → Bytes
  | [] => []
  | b :: r => if b = 10 then b :: r else toFeed r
theorem toFeed_len (r : Bytes) : (toFeed r).length ≤ r.length := by
  induction r with
  | nil => simp [toFeed]
  | cons b r ih => simp only [toFeed]; split <;> simp; omega
/-- the commands that stand here -/
def read (env : Env) (line : Nat) (now : List W) (out : List Ln) (g : Nat) : Bytes → Except (Int × Nat) (List Ln)
  | [] => .ok (fin now out g)
  | b :: r =>
    if b = 32 ∨ b = 9 then read env line now out g r
    else if b = 92 ∧ r.head? = some 10 then read env (line + 1) now out g r.tail
    else if b = 35 then
      have := toFeed_len r
      read env line now out g (toFeed r)
    else if b = 59 then read env line [] (fin now out g) g r
    else if b = 10 then read env (line + 1) [] (fin now out g) (bump (fin now out g) g) r
    else if b = 125 then .error (4, line)
    else if now.length = 256 ∨ now = [] ∧ out.length = 1000 then .error (3, line)
    else if b = 123 then match hd : blk 1 r with
      | none => .error (4, line)
      | some r' =>
        have := blk_len _ (Nat.le_refl _) hd
        if over r' then read env (line + (feeds r - feeds r')) (now ++ [⟨r.take (r.length - r'.length - 1), line, true⟩]) out g r'
        else .error (4, line)
    else if ho : over (b :: r) = false then match hd : word env true [] (b :: r) with
      | .error c => .error (c, line)
      | .ok (t, r') =>
        have := word_lt ho hd
        read env (line + (feeds (b :: r) - feeds r')) (now ++ [⟨t, line, false⟩]) out g r'
    else .error (0, 0)
  termination_by r => r.length
  decreasing_by all_goals ((try simp only [List.length_cons, List.length_tail] at *); omega)
theorem read_nil (env : Env) (line : Nat) (now : List W) (out : List Ln) (g : Nat) : read env line now out g [] = .ok (fin now out g) := by rw [read]
theorem read_cons (env : Env) (line : Nat) (now : List W) (out : List Ln) (g : Nat) (b : UInt8) (r : Bytes) : read env line now out g (b :: r) =
    if b = 32 ∨ b = 9 then read env line now out g r
    else if b = 92 ∧ r.head? = some 10 then read env (line + 1) now out g r.tail
    else if b = 35 then read env line now out g (toFeed r)
    else if b = 59 then read env line [] (fin now out g) g r
    else if b = 10 then read env (line + 1) [] (fin now out g) (bump (fin now out g) g) r
    else if b = 125 then .error (4, line)
    else if now.length = 256 ∨ now = [] ∧ out.length = 1000 then .error (3, line)
    else if b = 123 then match blk 1 r with
      | none => .error (4, line)
      | some r' =>
        if over r' then read env (line + (feeds r - feeds r')) (now ++ [⟨r.take (r.length - r'.length - 1), line, true⟩]) out g r'
        else .error (4, line)
    else match word env true [] (b :: r) with
      | .error c => .error (c, line)
      | .ok (t, r') => read env (line + (feeds (b :: r) - feeds r')) (now ++ [⟨t, line, false⟩]) out g r' := by
  rw [read.eq_def]
  dsimp only
  by_cases h1 : b = 32 ∨ b = 9
  · rw [if_pos h1, if_pos h1]
  by_cases h2 : b = 92 ∧ r.head? = some 10
  · simp only [if_neg h1, if_pos h2]
  by_cases h3 : b = 35
  · simp only [if_neg h1, if_neg h2, if_pos h3]
  by_cases h4 : b = 59
  · simp only [if_neg h1, if_neg h2, if_neg h3, if_pos h4]
  by_cases h5 : b = 10
  · simp only [if_neg h1, if_neg h2, if_neg h3, if_neg h4, if_pos h5]
  have ho : over (b :: r) = false := by
    simp only [not_or] at h1
    simp [over, h1, h4, h5]
  simp only [if_neg h1, if_neg h2, if_neg h3, if_neg h4, if_neg h5, ho]
  congr 1
  congr 1
  congr 1
  · split <;> simp_all
  · rw [dif_pos True.intro]
    split <;> (rename_i heq; rw [heq])
def split (env : Env) (s : Bytes) : Except (Int × Nat) (List Ln) := if s.length > 65536 then .error (2, 0) else read env 1 [] [] 1 s
end Lx
end Go.Proofs.YtiopaenonjhlnaaGreatDoor
namespace Go.Proofs.YtiopaenonjhlnaaGreatDoor
namespace Lx
variable {env : Env}

/-- what is read to its end stays read whatever a line feed and a text behind it are -/
def tail (b : Bytes) : Bytes := 10 :: b

theorem feeds_append (p r : Bytes) : feeds (p ++ r) = feeds p + feeds r := List.count_append
theorem over_tail (r b : Bytes) (h : over r = true) : over (r ++ tail b) = true := by
  cases r with
  | nil => simp [over, tail]
  | cons c r => simpa [over] using h
theorem over_cons_tail (c : UInt8) (r b : Bytes) : over (c :: r ++ tail b) = over (c :: r) := rfl

theorem more_part (r b : Bytes) : r = (more r).1 ++ (more r).2 ∧ more (r ++ tail b) = ((more r).1, (more r).2 ++ tail b) := by
  induction r with
  | nil => exact ⟨rfl, by simp [more, tail, letter, digit]⟩
  | cons c r ih =>
    rw [List.cons_append]
    simp only [more]
    split
    · refine ⟨?_, by rw [ih.2]⟩
      have := ih.1
      rw [List.cons_append, ← this]
    · exact ⟨rfl, rfl⟩
theorem name_part (r b : Bytes) : r = (name r).1 ++ (name r).2 ∧ name (r ++ tail b) = ((name r).1, (name r).2 ++ tail b) := by
  cases r with
  | nil => exact ⟨rfl, by simp [name, tail, letter]⟩
  | cons c r =>
    have h := more_part r b
    rw [List.cons_append]
    simp only [name]
    split
    · refine ⟨?_, by rw [h.2]⟩
      rw [List.cons_append, ← h.1]
    · exact ⟨rfl, rfl⟩

theorem dollar_part {t r t' r' : Bytes} (b : Bytes) (h : dollar env t r = .ok (t', r')) :
    (∃ p, r = p ++ r') ∧ dollar env t (r ++ tail b) = .ok (t', r' ++ tail b) := by
  unfold dollar at h
  split at h
  · rename_i r0
    have hn := name_part r0 b
    split at h
    · cases h
    · rename_i hne
      split at h
      · rename_i r1 e
        split at h
        · cases h
        · rename_i t1 hp
          cases h
          rw [e] at hn
          refine ⟨⟨123 :: (name r0).1 ++ [125], by simp; simpa using hn.1⟩, ?_⟩
          rw [List.cons_append, dollar.eq_def]
          simp only [hn.2, if_neg hne, List.cons_append, hp]
      · cases h
  · rename_i hx
    have hn := name_part r b
    have hx' : ∀ r0, r ++ tail b = 123 :: r0 → False := by
      intro r0 e
      cases r with
      | nil => simp [tail] at e
      | cons c r => rw [List.cons_append] at e; exact hx r (by rw [(List.cons.inj e).1])
    split at h
    · rename_i hne
      split at h
      · cases h
      · rename_i t1 hp
        cases h
        refine ⟨⟨[], rfl⟩, ?_⟩
        rw [dollar.eq_def]
        split
        · rename_i r0 e
          exact absurd e (hx' r0)
        · simp only [hn.2, if_pos hne, hp]
    · rename_i hne
      split at h
      · cases h
      · rename_i t1 hp
        cases h
        refine ⟨⟨_, hn.1⟩, ?_⟩
        rw [dollar.eq_def]
        split
        · rename_i r0 e
          exact absurd e (hx' r0)
        · simp only [hn.2, if_neg hne, hp]

theorem single_part {r : Bytes} (b : Bytes) : ∀ {t t' r' : Bytes}, single t r = .ok (t', r') → (∃ p, r = p ++ r') ∧ single t (r ++ tail b) = .ok (t', r' ++ tail b) := by
  induction r with
  | nil => intro t t' r' h; cases h
  | cons c r ih =>
    intro t t' r' h
    unfold single at h
    rw [List.cons_append]
    unfold single
    split at h
    · rename_i e
      cases h
      exact ⟨⟨[c], rfl⟩, by rw [if_pos e]⟩
    · rename_i e
      rw [if_neg e]
      split at h
      · cases h
      · rename_i t1 hp
        obtain ⟨⟨p, hp1⟩, hp2⟩ := ih h
        exact ⟨⟨c :: p, by rw [hp1]; rfl⟩, hp2⟩

theorem quoted_part (b : Bytes) : ∀ (n : Nat) {t r t' r' : Bytes}, r.length ≤ n → quoted env t r = .ok (t', r') → (∃ p, r = p ++ r') ∧ quoted env t (r ++ tail b) = .ok (t', r' ++ tail b) := by
  intro n
  induction n with
  | zero =>
    intro t r t' r' hn h
    have : r = [] := List.eq_nil_of_length_eq_zero (by omega)
    subst this
    rw [quoted_nil] at h; cases h
  | succ n ih =>
    intro t r t' r' hn h
    cases r with
    | nil => rw [quoted_nil] at h; cases h
    | cons c r =>
      simp only [List.length_cons] at hn
      rw [quoted_cons] at h
      rw [List.cons_append, quoted_cons]
      split at h
      · rename_i e
        cases h
        exact ⟨⟨[c], rfl⟩, by rw [if_pos e]⟩
      · rename_i e1
        rw [if_neg e1]
        split at h
        · rename_i e2
          rw [if_pos e2]
          split at h
          · cases h
          · rename_i t1 r1 hd
            have h1 := dollar_len hd
            obtain ⟨⟨p, hp⟩, hp2⟩ := dollar_part b hd
            obtain ⟨⟨q, hq⟩, hq2⟩ := ih (by omega) h
            refine ⟨⟨c :: (p ++ q), by rw [hp, hq]; simp⟩, ?_⟩
            rw [hp2]
            exact hq2
        · rename_i e2
          rw [if_neg e2]
          split at h
          · rename_i e3
            rw [if_pos e3]
            split at h
            · cases h
            · rename_i c2 r2
              simp only [List.length_cons] at hn
              rw [List.cons_append]
              dsimp only
              split at h
              · rename_i e4
                rw [if_pos e4]
                obtain ⟨⟨q, hq⟩, hq2⟩ := ih (by omega) h
                exact ⟨⟨c :: c2 :: q, by rw [hq]; rfl⟩, hq2⟩
              · rename_i e4
                rw [if_neg e4]
                split at h
                · cases h
                · rename_i t1 hp
                  obtain ⟨⟨q, hq⟩, hq2⟩ := ih (by omega) h
                  exact ⟨⟨c :: c2 :: q, by rw [hq]; rfl⟩, hq2⟩
          · rename_i e3
            rw [if_neg e3]
            split at h
            · cases h
            · rename_i t1 hp
              obtain ⟨⟨q, hq⟩, hq2⟩ := ih (by omega) h
              exact ⟨⟨c :: q, by rw [hq]; rfl⟩, hq2⟩

theorem word_part (b : Bytes) : ∀ (n : Nat) {f : Bool} {t r t' r' : Bytes}, r.length ≤ n → word env f t r = .ok (t', r') → (∃ p, r = p ++ r') ∧ word env f t (r ++ tail b) = .ok (t', r' ++ tail b) := by
  intro n
  induction n with
  | zero =>
    intro f t r t' r' hn h
    have : r = [] := List.eq_nil_of_length_eq_zero (by omega)
    subst this
    rw [word_over _ _ _ _ rfl] at h; cases h
    exact ⟨⟨[], rfl⟩, word_over _ _ _ _ rfl⟩
  | succ n ih =>
    intro f t r t' r' hn h
    cases ho : over r with
    | true =>
      rw [word_over _ _ _ _ ho] at h; cases h
      exact ⟨⟨[], rfl⟩, word_over _ _ _ _ (over_tail _ _ ho)⟩
    | false =>
    cases r with
    | nil => cases ho
    | cons c r =>
      simp only [List.length_cons] at hn
      rw [word_cons _ _ _ _ _ ho] at h
      rw [List.cons_append, word_cons _ _ _ _ _ (show over (c :: (r ++ tail b)) = false from ho)]
      split at h
      · rename_i e1
        rw [if_pos e1]
        split at h
        · cases h
        · rename_i t1 r1 hd
          have h1 := single_len hd
          obtain ⟨⟨p, hp⟩, hp2⟩ := single_part b hd
          obtain ⟨⟨q, hq⟩, hq2⟩ := ih (by omega) h
          refine ⟨⟨c :: (p ++ q), by rw [hp, hq]; simp⟩, ?_⟩
          rw [hp2]
          exact hq2
      · rename_i e1
        rw [if_neg e1]
        split at h
        · rename_i e2
          rw [if_pos e2]
          split at h
          · cases h
          · rename_i t1 r1 hd
            have h1 := quoted_len _ (Nat.le_refl _) hd
            obtain ⟨⟨p, hp⟩, hp2⟩ := quoted_part b _ (Nat.le_refl _) hd
            obtain ⟨⟨q, hq⟩, hq2⟩ := ih (by omega) h
            refine ⟨⟨c :: (p ++ q), by rw [hp, hq]; simp⟩, ?_⟩
            rw [hp2]
            exact hq2
        · rename_i e2
          rw [if_neg e2]
          split at h
          · rename_i e3
            rw [if_pos e3]
            split at h
            · cases h
            · rename_i c2 r2
              simp only [List.length_cons] at hn
              rw [List.cons_append]
              dsimp only
              split at h
              · rename_i e4
                rw [if_pos e4]
                obtain ⟨⟨q, hq⟩, hq2⟩ := ih (by omega) h
                exact ⟨⟨c :: c2 :: q, by rw [hq]; rfl⟩, hq2⟩
              · rename_i e4
                rw [if_neg e4]
                split at h
                · cases h
                · rename_i t1 hp
                  obtain ⟨⟨q, hq⟩, hq2⟩ := ih (by omega) h
                  exact ⟨⟨c :: c2 :: q, by rw [hq]; rfl⟩, hq2⟩
          · rename_i e3
            rw [if_neg e3]
            split at h
            · rename_i e4
              rw [if_pos e4]
              split at h
              · cases h
              · rename_i t1 r1 hd
                have h1 := dollar_len hd
                obtain ⟨⟨p, hp⟩, hp2⟩ := dollar_part b hd
                obtain ⟨⟨q, hq⟩, hq2⟩ := ih (by omega) h
                refine ⟨⟨c :: (p ++ q), by rw [hp, hq]; simp⟩, ?_⟩
                rw [hp2]
                exact hq2
            · rename_i e4
              rw [if_neg e4]
              have hc : ((r ++ tail b).head? = some 47 ∨ over (r ++ tail b) = true) ↔ (r.head? = some 47 ∨ over r = true) := by
                cases r <;> simp [over, tail]
              simp only [hc]
              split at h
              · rename_i e5
                rw [if_pos e5]
                split at h
                · cases h
                · rename_i t1 hp
                  obtain ⟨⟨q, hq⟩, hq2⟩ := ih (by omega) h
                  exact ⟨⟨c :: q, by rw [hq]; rfl⟩, hq2⟩
              · rename_i e5
                rw [if_neg e5]
                split at h
                · cases h
                · rename_i t1 hp
                  obtain ⟨⟨q, hq⟩, hq2⟩ := ih (by omega) h
                  exact ⟨⟨c :: q, by rw [hq]; rfl⟩, hq2⟩

theorem skipS_part (x : Bytes) {r : Bytes} : ∀ {r' : Bytes}, skipS r = some r' → (∃ p, r = p ++ r') ∧ skipS (r ++ x) = some (r' ++ x) := by
  induction r with
  | nil => intro r' h; cases h
  | cons c r ih =>
    intro r' h
    unfold skipS at h
    rw [List.cons_append]
    unfold skipS
    split at h
    · rename_i e
      cases h
      exact ⟨⟨[c], rfl⟩, by rw [if_pos e]⟩
    · rename_i e
      obtain ⟨⟨p, hp⟩, hp2⟩ := ih h
      exact ⟨⟨c :: p, by rw [hp]; rfl⟩, by rw [if_neg e]; exact hp2⟩

theorem skipD_nil : skipD [] = none := by rw [skipD]
theorem skipD_cons (b : UInt8) (r : Bytes) : skipD (b :: r) = if b = 34 then some r else if b = 92 then match r with
    | [] => none
    | _ :: r' => skipD r'
    else skipD r := by
  rw [skipD.eq_def]
  rfl

theorem skipD_part (x : Bytes) : ∀ (n : Nat) {r r' : Bytes}, r.length ≤ n → skipD r = some r' → (∃ p, r = p ++ r') ∧ skipD (r ++ x) = some (r' ++ x) := by
  intro n
  induction n with
  | zero =>
    intro r r' hn h
    have : r = [] := List.eq_nil_of_length_eq_zero (by omega)
    subst this; rw [skipD_nil] at h; cases h
  | succ n ih =>
    intro r r' hn h
    cases r with
    | nil => rw [skipD_nil] at h; cases h
    | cons c r =>
      simp only [List.length_cons] at hn
      rw [skipD_cons] at h
      rw [List.cons_append, skipD_cons]
      split at h
      · rename_i e
        cases h
        exact ⟨⟨[c], rfl⟩, by rw [if_pos e]⟩
      · rename_i e
        rw [if_neg e]
        split at h
        · rename_i e2
          rw [if_pos e2]
          split at h
          · cases h
          · rename_i c2 r2
            simp only [List.length_cons] at hn
            obtain ⟨⟨p, hp⟩, hp2⟩ := ih (by omega) h
            exact ⟨⟨c :: c2 :: p, by rw [hp]; rfl⟩, hp2⟩
        · rename_i e2
          rw [if_neg e2]
          obtain ⟨⟨p, hp⟩, hp2⟩ := ih (by omega) h
          exact ⟨⟨c :: p, by rw [hp]; rfl⟩, hp2⟩

theorem blk_part (x : Bytes) : ∀ (n : Nat) {deep : Nat} {r r' : Bytes}, r.length ≤ n → blk deep r = some r' → (∃ p, r = p ++ r') ∧ blk deep (r ++ x) = some (r' ++ x) := by
  intro n
  induction n with
  | zero =>
    intro deep r r' hn h
    have : r = [] := List.eq_nil_of_length_eq_zero (by omega)
    subst this; rw [blk_nil] at h; cases h
  | succ n ih =>
    intro deep r r' hn h
    cases r with
    | nil => rw [blk_nil] at h; cases h
    | cons c r =>
      simp only [List.length_cons] at hn
      rw [blk_cons] at h
      rw [List.cons_append, blk_cons]
      split at h
      · rename_i e
        rw [if_pos e]
        obtain ⟨⟨p, hp⟩, hp2⟩ := ih (by omega) h
        exact ⟨⟨c :: p, by rw [hp]; rfl⟩, hp2⟩
      · rename_i e
        rw [if_neg e]
        split at h
        · rename_i e2
          rw [if_pos e2]
          split at h
          · rename_i e3
            cases h
            exact ⟨⟨[c], rfl⟩, by rw [if_pos e3]⟩
          · rename_i e3
            rw [if_neg e3]
            obtain ⟨⟨p, hp⟩, hp2⟩ := ih (by omega) h
            exact ⟨⟨c :: p, by rw [hp]; rfl⟩, hp2⟩
        · rename_i e2
          rw [if_neg e2]
          split at h
          · rename_i e3
            rw [if_pos e3]
            split at h
            · cases h
            · rename_i c2 r2
              simp only [List.length_cons] at hn
              obtain ⟨⟨p, hp⟩, hp2⟩ := ih (by omega) h
              exact ⟨⟨c :: c2 :: p, by rw [hp]; rfl⟩, hp2⟩
          · rename_i e3
            rw [if_neg e3]
            split at h
            · rename_i e4
              rw [if_pos e4]
              split at h
              · cases h
              · rename_i r1 hd
                have h1 := skipS_len hd
                obtain ⟨⟨p, hp⟩, hp2⟩ := skipS_part x hd
                obtain ⟨⟨q, hq⟩, hq2⟩ := ih (by omega) h
                refine ⟨⟨c :: (p ++ q), by rw [hp, hq]; simp⟩, ?_⟩
                rw [hp2]
                exact hq2
            · rename_i e4
              rw [if_neg e4]
              split at h
              · rename_i e5
                rw [if_pos e5]
                split at h
                · cases h
                · rename_i r1 hd
                  have h1 := skipD_len _ (Nat.le_refl _) hd
                  obtain ⟨⟨p, hp⟩, hp2⟩ := skipD_part x _ (Nat.le_refl _) hd
                  obtain ⟨⟨q, hq⟩, hq2⟩ := ih (by omega) h
                  refine ⟨⟨c :: (p ++ q), by rw [hp, hq]; simp⟩, ?_⟩
                  rw [hp2]
                  exact hq2
              · rename_i e5
                rw [if_neg e5]
                obtain ⟨⟨p, hp⟩, hp2⟩ := ih (by omega) h
                exact ⟨⟨c :: p, by rw [hp]; rfl⟩, hp2⟩

theorem toFeed_part (r b : Bytes) : feeds (toFeed r) = feeds r ∧ toFeed (r ++ tail b) = toFeed r ++ tail b := by
  induction r with
  | nil => exact ⟨rfl, by simp [toFeed, tail]⟩
  | cons c r ih =>
    rw [List.cons_append]
    simp only [toFeed]
    split
    · exact ⟨rfl, rfl⟩
    · rename_i e
      refine ⟨?_, ih.2⟩
      rw [ih.1]
      simp [feeds, e]

/-- the last command's group, 0 if there is none -/
def lastg (L : List Ln) : Nat := match L.getLast? with
  | none => 0
  | some l => l.2
/-- a group that fits what was read: the last one's or the next -/
def Fit (out : List Ln) (g : Nat) : Prop := (out = [] ∧ g = 1) ∨ (out ≠ [] ∧ (lastg out = g ∨ lastg out + 1 = g))
theorem lastg_snoc (out : List Ln) (l : Ln) : lastg (out ++ [l]) = l.2 := by simp [lastg]
theorem Fit.fin {now : List W} {out : List Ln} {g : Nat} (h : Fit out g) : Fit (Lx.fin now out g) g := by
  unfold Lx.fin
  split
  · exact h
  · exact .inr ⟨by simp, .inl (lastg_snoc _ _)⟩
theorem bump_eq {out : List Ln} {g : Nat} (h : Fit out g) : bump out g = lastg out + 1 := by
  rcases h with ⟨rfl, rfl⟩ | ⟨hne, h⟩
  · rfl
  · have : ∃ l, out.getLast? = some l := ⟨out.getLast hne, List.getLast?_eq_some_getLast hne⟩
    obtain ⟨l, hl⟩ := this
    simp only [lastg, hl, bump] at h ⊢
    split <;> omega
theorem Fit.next {out : List Ln} {g : Nat} (h : Fit out g) : Fit out (bump out g) := by
  rw [bump_eq h]
  rcases h with ⟨rfl, rfl⟩ | ⟨hne, h⟩
  · exact .inl ⟨rfl, rfl⟩
  · exact .inr ⟨hne, .inr rfl⟩

theorem read_feed (line : Nat) (now : List W) (out : List Ln) (g : Nat) (b : Bytes) : read env line now out g (tail b) = read env (line + 1) [] (fin now out g) (bump (fin now out g) g) b := by
  rw [tail, read_cons]
  simp

theorem read_part (b : Bytes) : ∀ (n : Nat) {line : Nat} {now : List W} {out : List Ln} {g : Nat} {r : Bytes} {L : List Ln}, r.length ≤ n → Fit out g → read env line now out g r = .ok L →
    read env line now out g (r ++ tail b) = read env (line + feeds r + 1) [] L (lastg L + 1) b := by
  intro n
  induction n with
  | zero =>
    intro line now out g r L hn hf h
    have : r = [] := List.eq_nil_of_length_eq_zero (by omega)
    subst this
    rw [read_nil] at h; cases h
    rw [List.nil_append, read_feed, bump_eq hf.fin]
    rfl
  | succ n ih =>
    intro line now out g r L hn hf h
    cases r with
    | nil =>
      rw [read_nil] at h; cases h
      rw [List.nil_append, read_feed, bump_eq hf.fin]
      rfl
    | cons c r =>
      simp only [List.length_cons] at hn
      rw [read_cons] at h
      rw [List.cons_append, read_cons]
      split at h
      · rename_i e1
        rw [if_pos e1, ih (by omega) hf h]
        have : feeds (c :: r) = feeds r := by rcases e1 with rfl | rfl <;> simp [feeds]
        rw [this]
      rename_i e1
      rw [if_neg e1]
      split at h
      · rename_i e2
        cases r with
        | nil => simp at e2
        | cons d r =>
          obtain ⟨rfl, e2⟩ := e2
          cases e2
          simp only [List.tail_cons, List.length_cons] at h hn
          rw [if_pos ⟨rfl, rfl⟩, List.cons_append, List.tail_cons, ih (by omega) hf h]
          have : feeds (92 :: 10 :: r) = feeds r + 1 := by simp [feeds]
          rw [this]
          congr 1; omega
      rename_i e2
      have e2' : ¬ (c = 92 ∧ (r ++ tail b).head? = some 10) := by
        intro ⟨h1, h2⟩
        cases r with
        | nil =>
          subst h1
          have ho : over [92] = false := rfl
          rw [word_cons _ _ _ _ _ ho] at h
          simp at h
          split at h <;> cases h
        | cons d r => exact e2 ⟨h1, h2⟩
      rw [if_neg e2']
      split at h
      · rename_i e3
        have h1 := toFeed_len r
        have hp := toFeed_part r b
        rw [if_pos e3, hp.2, ih (by omega) hf h, hp.1]
        have : feeds (c :: r) = feeds r := by subst e3; simp [feeds]
        rw [this]
      rename_i e3
      rw [if_neg e3]
      split at h
      · rename_i e4
        rw [if_pos e4, ih (by omega) hf.fin h]
        have : feeds (c :: r) = feeds r := by subst e4; simp [feeds]
        rw [this]
      rename_i e4
      rw [if_neg e4]
      split at h
      · rename_i e5
        rw [if_pos e5, ih (by omega) hf.fin.next h]
        have : feeds (c :: r) = feeds r + 1 := by subst e5; simp [feeds]
        rw [this]
        congr 1; omega
      rename_i e5
      rw [if_neg e5]
      split at h
      · cases h
      rename_i e6
      rw [if_neg e6]
      split at h
      · cases h
      rename_i e7
      rw [if_neg e7]
      split at h
      · rename_i e8
        rw [if_pos e8]
        split at h
        · cases h
        · rename_i r1 hd
          have h1 := blk_len _ (Nat.le_refl _) hd
          obtain ⟨⟨p, hp⟩, hp2⟩ := blk_part (tail b) _ (Nat.le_refl _) hd
          rw [hp2]
          dsimp only
          split at h
          · rename_i ho
            have hx : feeds (r ++ tail b) - feeds (r1 ++ tail b) = feeds r - feeds r1 := by rw [feeds_append, feeds_append]; omega
            have hy : List.take ((r ++ tail b).length - (r1 ++ tail b).length - 1) (r ++ tail b) = List.take (r.length - r1.length - 1) r := by
              rw [List.length_append, List.length_append, show r.length + (tail b).length - (r1.length + (tail b).length) - 1 = r.length - r1.length - 1 by omega, List.take_append_of_le_length (by omega)]
            rw [if_pos (over_tail _ _ ho), hx, hy, ih (by omega) hf h]
            have : feeds (c :: r) = feeds r := by subst e8; simp [feeds]
            have h3 : feeds r = feeds p + feeds r1 := by rw [hp, feeds_append]
            rw [this]
            congr 1; omega
          · cases h
      · rename_i e8
        rw [if_neg e8]
        split at h
        · cases h
        · rename_i t1 r1 hd
          have ho : over (c :: r) = false := by
            simp only [not_or] at e1
            simp [over, e1, e4, e5]
          have h1 := word_lt ho hd
          simp only [List.length_cons] at h1
          obtain ⟨⟨p, hp⟩, hp2⟩ := word_part b _ (Nat.le_refl _) hd
          rw [← List.cons_append, hp2]
          dsimp only
          have hx : feeds (c :: r ++ tail b) - feeds (r1 ++ tail b) = feeds (c :: r) - feeds r1 := by rw [feeds_append, feeds_append]; omega
          rw [hx, ih (by omega) hf h]
          have h3 : feeds (c :: r) = feeds p + feeds r1 := by rw [hp, feeds_append]
          congr 1; omega

/-- words and commands, d lines and G groups later -/
def lw (d : Nat) (x : W) : W := { x with line := x.line + d }
def ll (d G : Nat) (x : Ln) : Ln := (x.1.map (lw d), x.2 + G)
def lres (P : List Ln) (d G : Nat) : Except (Int × Nat) (List Ln) → Except (Int × Nat) (List Ln)
  | .ok M => .ok (P ++ M.map (ll d G))
  | .error (c, k) => .error (c, k + d)
def one (now : List W) : Nat := if now = [] then 0 else 1

theorem fin_len (now : List W) (out : List Ln) (g : Nat) : (fin now out g).length = out.length + one now := by
  unfold fin one
  split <;> simp
theorem read_few : ∀ (n : Nat) {line : Nat} {now : List W} {out : List Ln} {g : Nat} {r : Bytes} {M : List Ln}, r.length ≤ n → read env line now out g r = .ok M → out.length + one now ≤ M.length := by
  intro n
  induction n with
  | zero =>
    intro line now out g r M hn h
    have : r = [] := List.eq_nil_of_length_eq_zero (by omega)
    subst this
    rw [read_nil] at h; cases h
    rw [fin_len]; omega
  | succ n ih =>
    intro line now out g r M hn h
    cases r with
    | nil => rw [read_nil] at h; cases h; rw [fin_len]; omega
    | cons c r =>
      simp only [List.length_cons] at hn
      have h0 : one [] = 0 := rfl
      have hs : ∀ x, one now ≤ one (now ++ [x]) := by intro x; unfold one; split <;> simp
      have hl := fin_len now out g
      rw [read_cons] at h
      split at h
      · exact ih (by omega) h
      rename_i e1
      split at h
      · exact ih (by rw [List.length_tail]; omega) h
      split at h
      · have := toFeed_len r; exact ih (by omega) h
      split at h
      · have := ih (by omega) h; omega
      rename_i e4
      split at h
      · have := ih (by omega) h; omega
      rename_i e5
      split at h
      · cases h
      split at h
      · cases h
      split at h
      · split at h
        · cases h
        · rename_i r1 hd
          have h1 := blk_len _ (Nat.le_refl _) hd
          split at h
          · have := ih (by omega) h
            have := hs ⟨r.take (r.length - r1.length - 1), line, true⟩
            omega
          · cases h
      · split at h
        · cases h
        · rename_i t1 r1 hd
          have ho : over (c :: r) = false := by
            simp only [not_or] at e1
            simp [over, e1, e4, e5]
          have h1 := word_lt ho hd
          simp only [List.length_cons] at h1
          have := ih (by omega) h
          have := hs ⟨t1, line, false⟩
          omega

theorem lastg_append (P out : List Ln) (h : out ≠ []) : lastg (P ++ out) = lastg out := by
  unfold lastg
  rw [List.getLast?_append, List.getLast?_eq_some_getLast h]
  rfl
theorem lastg_map (d G : Nat) (out : List Ln) (h : out ≠ []) : lastg (out.map (ll d G)) = lastg out + G := by
  unfold lastg
  rw [List.getLast?_map, List.getLast?_eq_some_getLast h]
  rfl
theorem fin_later (P : List Ln) (d G : Nat) (now : List W) (out : List Ln) (g : Nat) :
    fin (now.map (lw d)) (P ++ out.map (ll d G)) (g + G) = P ++ (fin now out g).map (ll d G) := by
  unfold fin
  by_cases h : now = []
  · simp [h]
  · simp [h, ll]
theorem bump_later {P : List Ln} {d G : Nat} {out : List Ln} {g : Nat} (hP : P = [] ∨ lastg P = G) (hg : 1 ≤ g) :
    bump (P ++ out.map (ll d G)) (g + G) = bump out g + G := by
  have hb : ∀ (L : List Ln) x, L ≠ [] → bump L x = if lastg L = x then x + 1 else x := by
    intro L x h
    unfold bump lastg
    rw [List.getLast?_eq_some_getLast h]
  by_cases ho : out = []
  · subst ho
    rw [List.map_nil, List.append_nil]
    by_cases hp : P = []
    · subst hp; rfl
    · have hP := hP.resolve_left hp
      rw [hb _ _ hp, if_neg (by omega)]
      rfl
  · have hm : out.map (ll d G) ≠ [] := by simpa using ho
    rw [hb _ _ (by simp [ho]), hb _ _ ho, lastg_append _ _ hm, lastg_map _ _ _ ho]
    by_cases h : lastg out = g
    · rw [if_pos h, if_pos (by omega)]; omega
    · rw [if_neg h, if_neg (by omega)]

def Room (P out : List Ln) (now : List W) (r : Bytes) (res : Except (Int × Nat) (List Ln)) : Prop :=
  P = [] ∨ P.length + out.length + one now + r.length ≤ 1000 ∨ ∃ M, res = .ok M ∧ P.length + M.length ≤ 1000

theorem bump_pos {out : List Ln} {g : Nat} (h : 1 ≤ g) : 1 ≤ bump out g := by
  unfold bump
  split
  · exact h
  · split <;> omega

theorem read_later {P : List Ln} {d G : Nat} (hP : P = [] ∨ lastg P = G) : ∀ (n : Nat) {line : Nat} {now : List W} {out : List Ln} {g : Nat} {r : Bytes}, r.length ≤ n → 1 ≤ g →
    Room P out now r (read env line now out g r) →
    read env (line + d) (now.map (lw d)) (P ++ out.map (ll d G)) (g + G) r = lres P d G (read env line now out g r) := by
  intro n
  induction n with
  | zero =>
    intro line now out g r hn hg hr
    have : r = [] := List.eq_nil_of_length_eq_zero (by omega)
    subst this
    rw [read_nil, read_nil, fin_later]; rfl
  | succ n ih =>
    intro line now out g r hn hg hr
    cases r with
    | nil => rw [read_nil, read_nil, fin_later]; rfl
    | cons c r =>
      simp only [List.length_cons] at hn
      have h0 : one [] = 0 := rfl
      have hs : ∀ x, one (now ++ [x]) = 1 := by intro x; unfold one; simp
      have hone : one now ≤ 1 := by unfold one; split <;> omega
      have hl := fin_len now out g
      rw [read_cons] at hr ⊢
      rw [read_cons]
      by_cases e1 : c = 32 ∨ c = 9
      · rw [if_pos e1] at hr ⊢
        rw [if_pos e1]
        refine ih (by omega) hg ?_
        rcases hr with h | h | h
        · exact .inl h
        · exact .inr (.inl (by simp only [List.length_cons] at h; omega))
        · exact .inr (.inr h)
      rw [if_neg e1] at hr ⊢
      rw [if_neg e1]
      by_cases e2 : c = 92 ∧ r.head? = some 10
      · rw [if_pos e2] at hr ⊢
        rw [if_pos e2, Nat.add_right_comm]
        refine ih (by rw [List.length_tail]; omega) hg ?_
        rcases hr with h | h | h
        · exact .inl h
        · exact .inr (.inl (by simp only [List.length_cons, List.length_tail] at h ⊢; omega))
        · exact .inr (.inr h)
      rw [if_neg e2] at hr ⊢
      rw [if_neg e2]
      by_cases e3 : c = 35
      · have := toFeed_len r
        rw [if_pos e3] at hr ⊢
        rw [if_pos e3]
        refine ih (by omega) hg ?_
        rcases hr with h | h | h
        · exact .inl h
        · exact .inr (.inl (by simp only [List.length_cons] at h; omega))
        · exact .inr (.inr h)
      rw [if_neg e3] at hr ⊢
      rw [if_neg e3]
      by_cases e4 : c = 59
      · rw [if_pos e4] at hr ⊢
        rw [if_pos e4, fin_later]
        refine ih (now := []) (by omega) hg ?_
        rcases hr with h | h | h
        · exact .inl h
        · exact .inr (.inl (by simp only [List.length_cons] at h; omega))
        · exact .inr (.inr h)
      rw [if_neg e4] at hr ⊢
      rw [if_neg e4]
      by_cases e5 : c = 10
      · rw [if_pos e5] at hr ⊢
        rw [if_pos e5, fin_later, bump_later hP hg, Nat.add_right_comm]
        refine ih (now := []) (by omega) (bump_pos hg) ?_
        rcases hr with h | h | h
        · exact .inl h
        · exact .inr (.inl (by simp only [List.length_cons] at h; omega))
        · exact .inr (.inr h)
      rw [if_neg e5] at hr ⊢
      rw [if_neg e5]
      by_cases e6 : c = 125
      · rw [if_pos e6, if_pos e6]; rfl
      rw [if_neg e6] at hr ⊢
      rw [if_neg e6]
      by_cases e7 : now.length = 256 ∨ now = [] ∧ out.length = 1000
      · rw [if_pos e7] at hr ⊢
        have e7' : (now.map (lw d)).length = 256 ∨ now.map (lw d) = [] ∧ (P ++ out.map (ll d G)).length = 1000 := by
          rw [List.length_map, List.map_eq_nil_iff, List.length_append, List.length_map]
          rcases e7 with h | ⟨h1, h2⟩
          · exact .inl h
          · refine .inr ⟨h1, ?_⟩
            rcases hr with rfl | h | ⟨M, h, _⟩
            · simpa using h2
            · simp only [List.length_cons] at h; omega
            · cases h
        rw [if_pos e7']
        rfl
      rw [if_neg e7] at hr ⊢
      have e7' : ¬ ((now.map (lw d)).length = 256 ∨ now.map (lw d) = [] ∧ (P ++ out.map (ll d G)).length = 1000) := by
        rw [List.length_map, List.map_eq_nil_iff, List.length_append, List.length_map]
        intro h
        rcases h with h | ⟨h1, h2⟩
        · exact e7 (.inl h)
        · rcases hr with rfl | h | ⟨M, h, hM⟩
          · exact e7 (.inr ⟨h1, by simpa using h2⟩)
          · simp only [List.length_cons] at h; omega
          · have hlen : out.length + 1 ≤ M.length := by
              split at h
              · split at h
                · cases h
                · rename_i r1 hd
                  split at h
                  · have := read_few _ (Nat.le_refl _) h
                    rw [hs] at this; omega
                  · cases h
              · split at h
                · cases h
                · have := read_few _ (Nat.le_refl _) h
                  rw [hs] at this; omega
            omega
      rw [if_neg e7']
      by_cases e8 : c = 123
      · rw [if_pos e8] at hr ⊢
        rw [if_pos e8]
        cases hd : blk 1 r with
        | none => rfl
        | some r1 =>
          have h1 := blk_len _ (Nat.le_refl _) hd
          rw [hd] at hr
          dsimp only at hr ⊢
          by_cases ho : over r1 = true
          · rw [if_pos ho] at hr ⊢
            rw [if_pos ho]
            have := @ih (line + (feeds r - feeds r1)) (now ++ [⟨r.take (r.length - r1.length - 1), line, true⟩]) out g r1 (by omega) hg ?_
            · rw [← this, List.map_append, Nat.add_right_comm]; rfl
            · rcases hr with h | h | h
              · exact .inl h
              · refine .inr (.inl ?_)
                rw [hs]; simp only [List.length_cons] at h; omega
              · exact .inr (.inr h)
          · rw [if_neg ho, if_neg ho]; rfl
      · rw [if_neg e8] at hr ⊢
        rw [if_neg e8]
        cases hd : word env true [] (c :: r) with
        | error x => rfl
        | ok p =>
          obtain ⟨t1, r1⟩ := p
          have ho : over (c :: r) = false := by
            simp only [not_or] at e1
            simp [over, e1, e4, e5]
          have h1 := word_lt ho hd
          simp only [List.length_cons] at h1
          rw [hd] at hr
          dsimp only at hr ⊢
          have := @ih (line + (feeds (c :: r) - feeds r1)) (now ++ [⟨t1, line, false⟩]) out g r1 (by omega) hg ?_
          · rw [← this, List.map_append, Nat.add_right_comm]; rfl
          · rcases hr with h | h | h
            · exact .inl h
            · refine .inr (.inl ?_)
              rw [hs]; simp only [List.length_cons] at h; omega
            · exact .inr (.inr h)

/-- the law of two texts -/
theorem split_two {a b : Bytes} {L : List Ln} (hlen : a.length + b.length ≤ 60000) (ha : split env a = .ok L)
    (hr : L.length + b.length ≤ 1000 ∨ ∃ M, split env b = .ok M ∧ L.length + M.length ≤ 1000) :
    split env (a ++ tail b) = lres L (feeds a + 1) (lastg L) (split env b) := by
  have ht : (tail b).length = b.length + 1 := rfl
  have hfa : ∀ s : Bytes, s.length ≤ 60001 → split env s = read env 1 [] [] 1 s := fun s hs => by rw [split, if_neg (by omega)]
  rw [hfa _ (by omega)] at ha
  rw [hfa _ (by rw [List.length_append]; omega)]
  rw [hfa b (by omega)] at hr ⊢
  rw [read_part b _ (Nat.le_refl _) (.inl ⟨rfl, rfl⟩) ha]
  have := @read_later env L (feeds a + 1) (lastg L) (.inr rfl) _ 1 [] [] 1 b (Nat.le_refl _) (Nat.le_refl _) (by
    rcases hr with h | h
    · exact .inr (.inl (by simp [one]; omega))
    · exact .inr (.inr h))
  rw [← this]
  simp only [List.map_nil, List.append_nil]
  congr 1 <;> omega

theorem toFeed_out {m s : Bytes} (h : ∀ x ∈ m, x ≠ 10) : toFeed (m ++ tail s) = tail s := by
  induction m with
  | nil => simp [toFeed, tail]
  | cons c m ih =>
    rw [List.cons_append, toFeed, if_neg (h c (by simp))]
    exact ih fun x hx => h x (by simp [hx])

/-- the law of remarks -/
theorem split_remarks {m s : Bytes} (hlen : s.length + m.length ≤ 60000) (h : ∀ x ∈ m, x ≠ 10) :
    split env (10 :: 32 :: 9 :: 35 :: (m ++ tail (tail s))) = lres [] 3 0 (split env s) := by
  have ht : ∀ b, (tail b).length = b.length + 1 := fun _ => rfl
  rw [split, if_neg (by simp only [List.length_cons, List.length_append, ht]; omega), split, if_neg (by omega)]
  rw [read_cons, if_neg (by decide), if_neg (by simp), if_neg (by decide), if_neg (by decide), if_pos rfl]
  rw [read_cons, if_pos (by decide), read_cons, if_pos (by decide), read_cons, if_neg (by decide), if_neg (by simp), if_pos rfl, toFeed_out h, read_feed, read_feed]
  have := @read_later env [] 3 0 (.inl rfl) _ 1 [] [] 1 s (Nat.le_refl _) (Nat.le_refl _) (.inl rfl)
  rw [← this]
  rfl
end Lx
end Go.Proofs.YtiopaenonjhlnaaGreatDoor
namespace Go.Proofs.YtiopaenonjhlnaaGreatDoor
namespace Lx

theorem word_nil (env : Env) (f : Bool) (t : Bytes) : word env f t [] = .ok (t, []) := word_over _ _ _ _ rfl
theorem eval_block : split [] [105, 102, 32, 123, 32, 97, 32, 59, 32, 98, 32, 125] = .ok [([⟨[105, 102], 1, false⟩, ⟨[32, 97, 32, 59, 32, 98, 32], 1, true⟩], 1)] := by
  simp [split, read_cons, read_nil, word_cons, word_over, over, put, blk_cons, feeds, fin]
theorem eval_open : split [] [39, 120] = .error (4, 1) := by
  simp [split, read_cons, word_cons, over, put, single]
theorem eval_quotes : split [([88], [120]), ([72, 79, 77, 69], [47, 104])] [97, 32, 39, 98, 32, 99, 39, 32, 34, 100, 92, 110, 36, 88, 34, 32, 126, 47, 101, 32, 59, 32, 102] =
    .ok [([⟨[97], 1, false⟩, ⟨[98, 32, 99], 1, false⟩, ⟨[100, 10, 120], 1, false⟩, ⟨[47, 104, 47, 101], 1, false⟩], 1), ([⟨[102], 1, false⟩], 1)] := by
  simp [split, read_cons, read_nil, word_cons, word_over, word_nil, over, put, single, quoted_cons, dollar, name, more, letter, digit, value, esc, feeds, fin]

/-- a command of at most 256 words, its group and its lines at most K -/
structure Good (K : Nat) (l : Ln) : Prop where
  few : l.1.length ≤ 256
  grp : l.2 ≤ K
  lines : ∀ x ∈ l.1, x.line ≤ K
structure Goods (K : Nat) (out : List Ln) : Prop where
  many : out.length ≤ 1000
  each : ∀ l ∈ out, Good K l

theorem feeds_le (r : Bytes) : feeds r ≤ r.length := List.count_le_length
theorem fin_good {K : Nat} {now : List W} {out : List Ln} {g : Nat} (h1 : ∀ l ∈ out, Good K l) (h2 : now.length ≤ 256) (h3 : g ≤ K) (h4 : ∀ x ∈ now, x.line ≤ K) : ∀ l ∈ fin now out g, Good K l := by
  unfold fin
  split
  · exact h1
  · intro l hl
    rcases List.mem_append.1 hl with h | h
    · exact h1 l h
    · rw [List.mem_singleton.1 h]; exact ⟨h2, h3, h4⟩
theorem bump_le (out : List Ln) (g : Nat) : bump out g ≤ g + 1 := by
  unfold bump
  split
  · omega
  · split <;> omega

theorem read_good {env : Env} {K : Nat} : ∀ (n : Nat) {line : Nat} {now : List W} {out : List Ln} {g : Nat} {r : Bytes} {M : List Ln}, r.length ≤ n →
    out.length + one now ≤ 1000 → now.length ≤ 256 → line + r.length ≤ K → g + r.length ≤ K → (∀ x ∈ now, x.line ≤ K) → (∀ l ∈ out, Good K l) →
    read env line now out g r = .ok M → Goods K M := by
  intro n
  induction n with
  | zero =>
    intro line now out g r M hn h1 h2 h3 h4 h5 h6 h
    have : r = [] := List.eq_nil_of_length_eq_zero (by omega)
    subst this
    rw [read_nil] at h; cases h
    exact ⟨by rw [fin_len]; omega, fin_good h6 h2 (by omega) h5⟩
  | succ n ih =>
    intro line now out g r M hn h1 h2 h3 h4 h5 h6 h
    cases r with
    | nil =>
      rw [read_nil] at h; cases h
      exact ⟨by rw [fin_len]; omega, fin_good h6 h2 (by omega) h5⟩
    | cons c r =>
      simp only [List.length_cons] at hn h3 h4
      have h0 : one [] = 0 := rfl
      have hs : ∀ x, one (now ++ [x]) = 1 := by intro x; unfold one; simp
      have hl := fin_len now out g
      have hF := fin_good h6 h2 (g := g) (by omega) h5
      rw [read_cons] at h
      split at h
      · exact ih (by omega) h1 h2 (by omega) (by omega) h5 h6 h
      rename_i e1
      split at h
      · exact ih (by rw [List.length_tail]; omega) h1 h2 (by rw [List.length_tail]; omega) (by rw [List.length_tail]; omega) h5 h6 h
      split at h
      · have := toFeed_len r; exact ih (by omega) h1 h2 (by omega) (by omega) h5 h6 h
      split at h
      · exact ih (by omega) (by omega) (by simp) (by omega) (by omega) (by simp) hF h
      rename_i e4
      split at h
      · have := bump_le (fin now out g) g
        exact ih (by omega) (by omega) (by simp) (by omega) (by omega) (by simp) hF h
      rename_i e5
      split at h
      · cases h
      split at h
      · cases h
      rename_i e7
      have hroom : out.length + 1 ≤ 1000 := by
        by_cases hn : now = []
        · have : out.length ≠ 1000 := fun e => e7 (.inr ⟨hn, e⟩)
          omega
        · have : one now = 1 := by unfold one; rw [if_neg hn]
          omega
      have hnow : now.length + 1 ≤ 256 := by
        have : now.length ≠ 256 := fun e => e7 (.inl e)
        omega
      split at h
      · split at h
        · cases h
        · rename_i r1 hd
          have hlt := blk_len _ (Nat.le_refl _) hd
          obtain ⟨⟨p, hp⟩, -⟩ := blk_part [] _ (Nat.le_refl _) hd
          have hf : feeds r - feeds r1 + r1.length ≤ r.length := by
            rw [hp, feeds_append, List.length_append]; have := feeds_le p; omega
          split at h
          · refine ih (by omega) (by rw [hs]; omega) (by rw [List.length_append]; exact hnow) (by omega) (by omega) ?_ h6 h
            intro x hx
            rcases List.mem_append.1 hx with hx | hx
            · exact h5 x hx
            · rw [List.mem_singleton.1 hx]; show line ≤ K; omega
          · cases h
      · split at h
        · cases h
        · rename_i t1 r1 hd
          have ho : over (c :: r) = false := by
            simp only [not_or] at e1
            simp [over, e1, e4, e5]
          have hlt := word_lt ho hd
          simp only [List.length_cons] at hlt
          obtain ⟨⟨p, hp⟩, -⟩ := word_part [] _ (Nat.le_refl _) hd
          have hf : feeds (c :: r) - feeds r1 + r1.length ≤ r.length + 1 := by
            have : r.length + 1 = p.length + r1.length := by rw [← List.length_cons (a := c), hp, List.length_append]
            rw [hp, feeds_append]; have := feeds_le p; omega
          refine ih (by omega) (by rw [hs]; omega) (by rw [List.length_append]; exact hnow) (by omega) (by omega) ?_ h6 h
          intro x hx
          rcases List.mem_append.1 hx with hx | hx
          · exact h5 x hx
          · rw [List.mem_singleton.1 hx]; show line ≤ K; omega

theorem split_good {env : Env} {s : Bytes} {M : List Ln} (h : split env s = .ok M) : Goods 65537 M := by
  unfold split at h
  split at h
  · cases h
  · exact read_good _ (Nat.le_refl _) (by simp [one]) (by simp) (by omega) (by omega) (by simp) (by simp) h

/-- an error names a line, and no code is 0 -/
theorem put_err {t u : Bytes} {c : Int} (h : put t u = .error c) : c = 2 := by
  unfold put at h
  split at h
  · cases h; rfl
  · cases h
def Err (c : Int) : Prop := 2 ≤ c ∧ c ≤ 4
theorem put_err2 {t u : Bytes} {c : Int} (h : put t u = .error c) : Err c := by rw [put_err h]; exact ⟨by decide, by decide⟩
theorem err3 : Err 3 := ⟨by decide, by decide⟩
theorem err4 : Err 4 := ⟨by decide, by decide⟩
theorem dollar_err {env : Env} {t r : Bytes} {c : Int} (h : dollar env t r = .error c) : Err c := by
  unfold dollar at h
  split at h
  · split at h
    · cases h; exact err4
    · split at h
      · split at h
        · rename_i hp; cases h; exact put_err2 hp
        · cases h
      · cases h; exact err4
  · split at h
    · split at h
      · rename_i hp; cases h; exact put_err2 hp
      · cases h
    · split at h
      · rename_i hp; cases h; exact put_err2 hp
      · cases h
theorem single_err {r : Bytes} : ∀ {t : Bytes} {c : Int}, single t r = .error c → Err c := by
  induction r with
  | nil => intro t c h; cases h; exact err4
  | cons b r ih =>
    intro t c h
    unfold single at h
    split at h
    · cases h
    · split at h
      · rename_i hp; cases h; exact put_err2 hp
      · exact ih h
theorem quoted_err {env : Env} : ∀ (n : Nat) {t r : Bytes} {c : Int}, r.length ≤ n → quoted env t r = .error c → Err c := by
  intro n
  induction n with
  | zero =>
    intro t r c hn h
    have : r = [] := List.eq_nil_of_length_eq_zero (by omega)
    subst this
    rw [quoted_nil] at h; cases h; exact err4
  | succ n ih =>
    intro t r c hn h
    cases r with
    | nil => rw [quoted_nil] at h; cases h; exact err4
    | cons b r =>
      simp only [List.length_cons] at hn
      rw [quoted_cons] at h
      split at h
      · cases h
      split at h
      · split at h
        · rename_i hd; cases h; exact dollar_err hd
        · rename_i hd
          have := dollar_len hd
          exact ih (by omega) h
      split at h
      · split at h
        · cases h; exact err4
        · simp only [List.length_cons] at hn
          split at h
          · exact ih (by omega) h
          · split at h
            · rename_i hp; cases h; exact put_err2 hp
            · exact ih (by omega) h
      · split at h
        · rename_i hp; cases h; exact put_err2 hp
        · exact ih (by omega) h
theorem word_err {env : Env} : ∀ (n : Nat) {f : Bool} {t r : Bytes} {c : Int}, r.length ≤ n → word env f t r = .error c → Err c := by
  intro n
  induction n with
  | zero =>
    intro f t r c hn h
    have : r = [] := List.eq_nil_of_length_eq_zero (by omega)
    subst this
    rw [word_nil] at h; cases h
  | succ n ih =>
    intro f t r c hn h
    cases ho : over r with
    | true => rw [word_over _ _ _ _ ho] at h; cases h
    | false =>
    cases r with
    | nil => cases ho
    | cons b r =>
      simp only [List.length_cons] at hn
      rw [word_cons _ _ _ _ _ ho] at h
      split at h
      · split at h
        · rename_i hd; cases h; exact single_err hd
        · rename_i hd
          have := single_len hd
          exact ih (by omega) h
      split at h
      · split at h
        · rename_i hd; cases h; exact quoted_err _ (Nat.le_refl _) hd
        · rename_i hd
          have := quoted_len _ (Nat.le_refl _) hd
          exact ih (by omega) h
      split at h
      · split at h
        · cases h; exact err4
        · simp only [List.length_cons] at hn
          split at h
          · exact ih (by omega) h
          · split at h
            · rename_i hp; cases h; exact put_err2 hp
            · exact ih (by omega) h
      split at h
      · split at h
        · rename_i hd; cases h; exact dollar_err hd
        · rename_i hd
          have := dollar_len hd
          exact ih (by omega) h
      split at h
      · split at h
        · rename_i hp; cases h; exact put_err2 hp
        · exact ih (by omega) h
      · split at h
        · rename_i hp; cases h; exact put_err2 hp
        · exact ih (by omega) h

theorem read_err {env : Env} {K : Nat} : ∀ (n : Nat) {line : Nat} {now : List W} {out : List Ln} {g : Nat} {r : Bytes} {x : Int × Nat}, r.length ≤ n → line + r.length ≤ K →
    read env line now out g r = .error x → Err x.1 ∧ x.2 ≤ K := by
  intro n
  induction n with
  | zero =>
    intro line now out g r x hn h3 h
    have : r = [] := List.eq_nil_of_length_eq_zero (by omega)
    subst this
    rw [read_nil] at h; cases h
  | succ n ih =>
    intro line now out g r x hn h3 h
    cases r with
    | nil => rw [read_nil] at h; cases h
    | cons c r =>
      simp only [List.length_cons] at hn h3
      rw [read_cons] at h
      split at h
      · exact ih (by omega) (by omega) h
      rename_i e1
      split at h
      · exact ih (by rw [List.length_tail]; omega) (by rw [List.length_tail]; omega) h
      split at h
      · have := toFeed_len r; exact ih (by omega) (by omega) h
      split at h
      · exact ih (by omega) (by omega) h
      rename_i e4
      split at h
      · exact ih (by omega) (by omega) h
      rename_i e5
      split at h
      · cases h; exact ⟨err4, by dsimp only; omega⟩
      split at h
      · cases h; exact ⟨err3, by dsimp only; omega⟩
      split at h
      · split at h
        · cases h; exact ⟨err4, by dsimp only; omega⟩
        · rename_i r1 hd
          have hlt := blk_len _ (Nat.le_refl _) hd
          obtain ⟨⟨p, hp⟩, -⟩ := blk_part [] _ (Nat.le_refl _) hd
          have hf : feeds r - feeds r1 + r1.length ≤ r.length := by
            rw [hp, feeds_append, List.length_append]; have := feeds_le p; omega
          split at h
          · exact ih (by omega) (by omega) h
          · cases h; exact ⟨err4, by dsimp only; omega⟩
      · split at h
        · rename_i hd; cases h; exact ⟨word_err _ (Nat.le_refl _) hd, by dsimp only; omega⟩
        · rename_i t1 r1 hd
          have ho : over (c :: r) = false := by
            simp only [not_or] at e1
            simp [over, e1, e4, e5]
          have hlt := word_lt ho hd
          simp only [List.length_cons] at hlt
          obtain ⟨⟨p, hp⟩, -⟩ := word_part [] _ (Nat.le_refl _) hd
          have hf : feeds (c :: r) - feeds r1 + r1.length ≤ r.length + 1 := by
            have : r.length + 1 = p.length + r1.length := by rw [← List.length_cons (a := c), hp, List.length_append]
            rw [hp, feeds_append]; have := feeds_le p; omega
          exact ih (by omega) (by omega) h
theorem split_err {env : Env} {s : Bytes} {x : Int × Nat} (h : split env s = .error x) : Err x.1 ∧ x.2 ≤ 65537 := by
  unfold split at h
  split at h
  · cases h; exact ⟨⟨by decide, by decide⟩, by decide⟩
  · exact read_err _ (Nat.le_refl _) (by omega) h
end Lx
end Go.Proofs.YtiopaenonjhlnaaGreatDoor
