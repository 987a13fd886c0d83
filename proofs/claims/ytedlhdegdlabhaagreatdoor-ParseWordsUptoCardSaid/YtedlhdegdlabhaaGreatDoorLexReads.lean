/- A quoted word is read as it is: the pieces that laws on writing and reading again use. No program. -/
import Derived.Test.YtedlhdegdlabhaaGreatDoorLexQuote
namespace Go.Proofs.YtedlhdegdlabhaaGreatDoor
namespace Lx
variable {env : Env}

theorem put_okay {t u : Bytes} (h : (t ++ u).length ≤ 8192) : put t u = .ok (t ++ u) := by rw [put, if_neg (by omega)]
theorem wset_plain : ∀ c ∈ wset, (c ≠ 32 ∧ c ≠ 9 ∧ c ≠ 10 ∧ c ≠ 59) ∧ c ≠ 39 ∧ c ≠ 34 ∧ c ≠ 92 ∧ c ≠ 36 ∧ c ≠ 126 ∧ c ≠ 35 ∧ c ≠ 125 ∧ c ≠ 123 := by decide
theorem over_not {c : UInt8} {r : Bytes} (h : c ≠ 32 ∧ c ≠ 9 ∧ c ≠ 10 ∧ c ≠ 59) : over (c :: r) = false := by simp [over, h]

theorem word_bare {rest : Bytes} (hr : over rest = true) : ∀ (x : Bytes) (f : Bool) (t : Bytes), (∀ c ∈ x, c ∈ wset) → (t ++ x).length ≤ 8192 → word env f t (x ++ rest) = .ok (t ++ x, rest)
  | [], f, t, _, _ => by rw [List.nil_append, List.append_nil, word_over _ _ _ _ hr]
  | c :: x, f, t, hx, hl => by
    obtain ⟨ho, h1, h2, h3, h4, h5, -⟩ := wset_plain c (hx c (by simp))
    rw [List.cons_append, word_cons _ _ _ _ _ (over_not ho), if_neg h1, if_neg h2, if_neg h3, if_neg h4, if_neg (fun h => h5 h.1)]
    rw [put_okay (by simp only [List.length_append, List.length_cons] at hl ⊢; simp; omega)]
    dsimp only
    rw [word_bare hr x false (t ++ [c]) (fun d hd => hx d (by simp [hd])) (by simpa using hl)]
    simp

theorem single_all (rest : Bytes) : ∀ (x t : Bytes), (39 : UInt8) ∉ x → (t ++ x).length ≤ 8192 → single t (x ++ 39 :: rest) = .ok (t ++ x, rest)
  | [], t, _, _ => by rw [List.nil_append, single, if_pos rfl, List.append_nil]
  | c :: x, t, hx, hl => by
    have hc : c ≠ 39 := fun e => hx (by simp [e])
    rw [List.cons_append, single, if_neg hc, put_okay (by simp only [List.length_append, List.length_cons] at hl ⊢; simp; omega)]
    dsimp only
    rw [single_all rest x (t ++ [c]) (fun h => hx (by simp [h])) (by simpa using hl)]
    simp

theorem quoted_all (rest : Bytes) : ∀ (x t : Bytes), (t ++ x).length ≤ 8192 → quoted env t (wesc x ++ 34 :: rest) = .ok (t ++ x, rest)
  | [], t, _ => by
    have e : wesc [] = [] := rfl
    rw [e, List.nil_append, quoted_cons, if_pos rfl, List.append_nil]
  | c :: x, t, hl => by
    have hp : (t ++ [c]).length ≤ 8192 := by simp only [List.length_append, List.length_cons] at hl ⊢; simp; omega
    have ih := quoted_all rest x (t ++ [c]) (by simpa using hl)
    have hx : t ++ [c] ++ x = t ++ c :: x := by simp
    rw [hx] at ih
    by_cases hc : c = 34 ∨ c = 92 ∨ c = 36
    · have e : wesc (c :: x) = 92 :: c :: wesc x := by
        rw [wesc, List.flatMap_cons, if_pos hc]; rfl
      have h10 : c ≠ 10 := by rcases hc with h | h | h <;> rw [h] <;> decide
      have hes : esc c = [c] := by rcases hc with h | h | h <;> rw [h] <;> rfl
      rw [e, List.cons_append, List.cons_append, quoted_cons, if_neg (by decide), if_neg (by decide), if_pos rfl]
      dsimp only
      rw [if_neg h10, hes, put_okay hp]
      exact ih
    · have e : wesc (c :: x) = c :: wesc x := by
        rw [wesc, List.flatMap_cons, if_neg hc]; rfl
      simp only [not_or] at hc
      rw [e, List.cons_append, quoted_cons, if_neg hc.1, if_neg hc.2.2, if_neg hc.2.1, put_okay hp]
      exact ih

theorem word_quote {rest x : Bytes} (hr : over rest = true) (hl : x.length ≤ 8192) : word env true [] (wquote x ++ rest) = .ok (x, rest) := by
  unfold wquote
  by_cases h1 : x ≠ [] ∧ x.all (wset.contains ·) = true
  · rw [if_pos h1]
    exact word_bare hr x true [] (fun c hc => by simpa using List.all_eq_true.1 h1.2 c hc) (by simpa using hl)
  · rw [if_neg h1]
    by_cases h2 : (39 : UInt8) ∈ x
    · rw [if_pos h2, show 34 :: wesc x ++ [34] ++ rest = 34 :: (wesc x ++ 34 :: rest) by simp, word_cons _ _ _ _ _ (over_not (by decide)), if_neg (by decide), if_pos rfl, quoted_all rest x [] (by simpa using hl)]
      dsimp only
      rw [word_over _ _ _ _ hr]; rfl
    · rw [if_neg h2, show 39 :: x ++ [39] ++ rest = 39 :: (x ++ 39 :: rest) by simp, word_cons _ _ _ _ _ (over_not (by decide)), if_pos rfl, single_all rest x [] h2 (by simpa using hl)]
      dsimp only
      rw [word_over _ _ _ _ hr]; rfl

theorem quote_head (x : Bytes) : ∃ c r, wquote x = c :: r ∧ (c ≠ 32 ∧ c ≠ 9 ∧ c ≠ 10 ∧ c ≠ 59) ∧ c ≠ 92 ∧ c ≠ 35 ∧ c ≠ 125 ∧ c ≠ 123 := by
  unfold wquote
  by_cases h1 : x ≠ [] ∧ x.all (wset.contains ·) = true
  · rw [if_pos h1]
    cases x with
    | nil => exact absurd rfl h1.1
    | cons c r =>
      obtain ⟨ho, -, -, h3, -, -, h6, h7, h8⟩ := wset_plain c (by simpa using List.all_eq_true.1 h1.2 c (by simp))
      exact ⟨c, r, rfl, ho, h3, h6, h7, h8⟩
  · rw [if_neg h1]
    by_cases h2 : (39 : UInt8) ∈ x
    · rw [if_pos h2]; exact ⟨34, _, rfl, by decide, by decide, by decide, by decide, by decide⟩
    · rw [if_neg h2]; exact ⟨39, _, rfl, by decide, by decide, by decide, by decide, by decide⟩

/-- a quoted word is read -/
theorem read_word {rest x : Bytes} {line g : Nat} {now : List W} {out : List Ln} (hr : over rest = true) (hl : x.length ≤ 8192) (hn : now.length < 256) (ho : now ≠ [] ∨ out.length < 1000) :
    ∃ line', read env line now out g (wquote x ++ rest) = read env line' (now ++ [⟨x, line, false⟩]) out g rest := by
  obtain ⟨c, r, e, ho', h1, h2, h3, h4⟩ := quote_head x
  have hw := word_quote (env := env) hr hl
  rw [e] at hw
  rw [List.cons_append] at hw
  have hno : ¬ (now.length = 256 ∨ now = [] ∧ out.length = 1000) := by
    rintro (h | ⟨h, h'⟩)
    · omega
    · rcases ho with ho | ho
      · exact ho h
      · omega
  refine ⟨line + (feeds (c :: (r ++ rest)) - feeds rest), ?_⟩
  rw [e, List.cons_append, read_cons, if_neg (by simp [ho'.1, ho'.2.1]), if_neg (fun h => h1 h.1), if_neg h2, if_neg ho'.2.2.2, if_neg ho'.2.2.1, if_neg h3, if_neg hno, if_neg h4, hw]
/-- words, each behind a blank -/
def tails (r : List Bytes) : Bytes := r.flatMap fun y => 32 :: wquote y
theorem over_tails' (r : List Bytes) {rest : Bytes} (hr : over rest = true) : over (tails r ++ rest) = true := by
  cases r with
  | nil => exact hr
  | cons x r => rfl
theorem read_tail {rest : Bytes} (hr : over rest = true) {out : List Ln} {g : Nat} : ∀ (r : List Bytes) (line : Nat) (now : List W), now ≠ [] → (∀ x ∈ r, x.length ≤ 8192) → now.length + r.length ≤ 256 →
    ∃ (line' : Nat) (ws : List W), ws.map (·.text) = r ∧ (∀ x ∈ ws, x.block = false) ∧ read env line now out g (tails r ++ rest) = read env line' (now ++ ws) out g rest
  | [], line, now, hn, _, _ => ⟨line, [], rfl, by simp, by rw [List.append_nil]; rfl⟩
  | y :: r, line, now, hn, hl, hc => by
    simp only [List.length_cons] at hc
    obtain ⟨line', hq⟩ := read_word (env := env) (line := line) (now := now) (out := out) (g := g) (over_tails' r hr) (hl y (by simp)) (by omega) (.inl hn)
    obtain ⟨line2, ws, h1, h2, h3⟩ := read_tail hr r line' (now ++ [⟨y, line, false⟩]) (by simp) (fun x hx => hl x (by simp [hx])) (by simp; omega)
    refine ⟨line2, ⟨y, line, false⟩ :: ws, by simp [h1], ?_, ?_⟩
    · intro x hx
      rcases List.mem_cons.1 hx with rfl | hx
      · rfl
      · exact h2 x hx
    · have e : tails (y :: r) ++ rest = 32 :: (wquote y ++ (tails r ++ rest)) := by simp [tails]
      rw [e, read_cons, if_pos (.inl rfl), hq, h3]
      simp
/-- a command's words, written -/
def cat : List Bytes → Bytes
  | [] => []
  | x :: r => wquote x ++ tails r
theorem read_cmd {rest : Bytes} (hr : over rest = true) {out : List Ln} {g line : Nat} {ws : List Bytes} (hne : ws ≠ []) (hl : ∀ x ∈ ws, x.length ≤ 8192) (hc : ws.length ≤ 256) (ho : out.length < 1000) :
    ∃ (line' : Nat) (l : List W), l.map (·.text) = ws ∧ (∀ x ∈ l, x.block = false) ∧ read env line [] out g (cat ws ++ rest) = read env line' l out g rest := by
  cases ws with
  | nil => exact absurd rfl hne
  | cons x r =>
    simp only [List.length_cons] at hc
    obtain ⟨line', hq⟩ := read_word (env := env) (line := line) (now := []) (out := out) (g := g) (over_tails' r hr) (hl x (by simp)) (by decide) (.inr ho)
    obtain ⟨line2, ws, h1, h2, h3⟩ := read_tail (env := env) hr (out := out) (g := g) r line' [⟨x, line, false⟩] (by simp) (fun y hy => hl y (by simp [hy])) (by simp; omega)
    refine ⟨line2, ⟨x, line, false⟩ :: ws, by simp [h1], ?_, ?_⟩
    · intro y hy
      rcases List.mem_cons.1 hy with rfl | hy
      · rfl
      · exact h2 y hy
    · rw [cat, List.append_assoc, hq, List.nil_append, h3]
      rfl
/-- commands in one group -/
def gcat : List (List Bytes) → Bytes
  | [] => []
  | [c] => cat c
  | c :: r => cat c ++ 32 :: 59 :: 32 :: gcat r
/-- groups, each on a line -/
def gtext (gs : List (List (List Bytes))) : Bytes := gs.flatMap fun c => gcat c ++ [10]
def Small (c : List Bytes) : Prop := c ≠ [] ∧ (∀ x ∈ c, x.length ≤ 8192) ∧ c.length ≤ 256
/-- the lines of one group -/
structure GLine (g : Nat) (L : List Ln) (c : List (List Bytes)) : Prop where
  texts : L.map (fun l => l.1.map (·.text)) = c
  each : ∀ l ∈ L, l.2 = g ∧ ∀ x ∈ l.1, x.block = false
theorem bump_last (out : List Ln) (l : List W) (g : Nat) : bump (out ++ [(l, g)]) g = g + 1 := by simp [bump]
theorem read_group {rest : Bytes} {g : Nat} : ∀ (cs : List (List Bytes)) (line : Nat) (out : List Ln), cs ≠ [] → (∀ c ∈ cs, Small c) → out.length + cs.length ≤ 1000 →
    ∃ (line' : Nat) (L : List Ln), GLine g L cs ∧ read env line [] out g (gcat cs ++ 10 :: rest) = read env line' [] (out ++ L) (g + 1) rest
  | [], _, _, h, _, _ => absurd rfl h
  | [c], line, out, _, hs, hn => by
    obtain ⟨h1, h2, h3⟩ := hs c (by simp)
    obtain ⟨line', l, k1, k2, k3⟩ := read_cmd (env := env) (rest := 10 :: rest) rfl (out := out) (g := g) (line := line) h1 h2 h3 (by simp at hn; omega)
    have hl : l ≠ [] := fun e => h1 (by rw [← k1, e]; rfl)
    refine ⟨line' + 1, [(l, g)], ⟨by simp [k1], fun x hx => ?_⟩, ?_⟩
    · rw [List.mem_singleton.1 hx]
      exact ⟨rfl, k2⟩
    · rw [gcat, k3, read_cons, if_neg (by decide), if_neg (fun h => absurd h.1 (by decide)), if_neg (by decide), if_neg (by decide), if_pos rfl, fin, if_neg hl, bump_last]
  | c :: d :: r, line, out, _, hs, hn => by
    obtain ⟨h1, h2, h3⟩ := hs c (by simp)
    simp only [List.length_cons] at hn
    obtain ⟨line', l, k1, k2, k3⟩ := read_cmd (env := env) (rest := 32 :: 59 :: 32 :: (gcat (d :: r) ++ 10 :: rest)) rfl (out := out) (g := g) (line := line) h1 h2 h3 (by omega)
    have hl : l ≠ [] := fun e => h1 (by rw [← k1, e]; rfl)
    obtain ⟨line2, L, m1, m2⟩ := read_group (rest := rest) (g := g) (d :: r) line' (out ++ [(l, g)]) (by simp) (fun x hx => hs x (List.mem_cons_of_mem _ hx)) (by simp; omega)
    refine ⟨line2, (l, g) :: L, ⟨by simp [k1, m1.texts], fun x hx => ?_⟩, ?_⟩
    · rcases List.mem_cons.1 hx with rfl | hx
      · exact ⟨rfl, k2⟩
      · exact m1.each x hx
    · have e : gcat (c :: d :: r) ++ 10 :: rest = cat c ++ 32 :: 59 :: 32 :: (gcat (d :: r) ++ 10 :: rest) := by simp [gcat]
      rw [e, k3, read_cons, if_pos (.inl rfl), read_cons, if_neg (by decide), if_neg (fun h => absurd h.1 (by decide)), if_neg (by decide), if_pos rfl, fin, if_neg hl, read_cons, if_pos (.inl rfl), m2]
      simp
/-- the lines of groups, numbered from g on -/
inductive GLines : Nat → List Ln → List (List (List Bytes)) → Prop
  | nil (g : Nat) : GLines g [] []
  | cons {g : Nat} {L M : List Ln} {c : List (List Bytes)} {gs : List (List (List Bytes))} (h : GLine g L c) (hne : c ≠ []) (t : GLines (g + 1) M gs) : GLines g (L ++ M) (c :: gs)
theorem read_groups : ∀ (gs : List (List (List Bytes))) (line g : Nat) (out : List Ln), (∀ c ∈ gs, c ≠ [] ∧ ∀ x ∈ c, Small x) → out.length + (gs.map (·.length)).sum ≤ 1000 →
    ∃ L, GLines g L gs ∧ read env line [] out g (gtext gs) = .ok (out ++ L)
  | [], line, g, out, _, _ => ⟨[], .nil g, by rw [gtext, List.flatMap_nil, read_nil, fin, if_pos rfl, List.append_nil]⟩
  | c :: gs, line, g, out, hs, hn => by
    simp only [List.map_cons, List.sum_cons] at hn
    obtain ⟨line', L, h1, h2⟩ := read_group (env := env) (rest := gtext gs) (g := g) c line out (hs c (by simp)).1 (hs c (by simp)).2 (by omega)
    have hL : L.length = c.length := by rw [← h1.texts, List.length_map]
    obtain ⟨M, h3, h4⟩ := read_groups gs line' (g + 1) (out ++ L) (fun x hx => hs x (List.mem_cons_of_mem _ hx)) (by rw [List.length_append]; omega)
    refine ⟨L ++ M, .cons h1 (hs c (by simp)).1 h3, ?_⟩
    have e : gtext (c :: gs) = gcat c ++ 10 :: gtext gs := by simp [gtext]
    rw [e, h2, h4, List.append_assoc]
theorem split_groups {gs : List (List (List Bytes))} (hs : ∀ c ∈ gs, c ≠ [] ∧ ∀ x ∈ c, Small x) (hn : (gs.map (·.length)).sum ≤ 1000) (hl : (gtext gs).length ≤ 65536) : ∃ L, GLines 1 L gs ∧ split env (gtext gs) = .ok L := by
  obtain ⟨L, h1, h2⟩ := read_groups (env := env) gs 1 1 [] hs (by simpa using hn)
  exact ⟨L, h1, by rw [split, if_neg (by omega), h2, List.nil_append]⟩
end Lx
end Go.Proofs.YtedlhdegdlabhaaGreatDoor
