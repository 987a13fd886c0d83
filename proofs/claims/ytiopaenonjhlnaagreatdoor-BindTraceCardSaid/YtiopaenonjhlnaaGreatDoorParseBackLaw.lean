/- Commands that are right, written as text, are read as they were. No program. When is a command right; its words are few and small. No program. The letters of a command's row, place by place; what a raw command's flags are while they are put together. No program. The document's put is putF, on flags in order; the document's Print is Print. No program. How long the text of written commands can be, against the bulk of what they hold. No program. -/
import Derived.Test.YtiopaenonjhlnaaGreatDoorParseOneP
import Derived.Test.YtiopaenonjhlnaaGreatDoorLexQuote
namespace Go.Proofs.YtiopaenonjhlnaaGreatDoor
namespace Px
open Lx (Bytes)

abbrev noRow : Row := ⟨[], [], [], 0, 0⟩
def rowOf (c : Cmd) : Row := (whole c.name).getD noRow
/-- a command's words -/
def flagWs (r : Row) (f : Fl) : List Bytes := [45, f.1] :: if (takes r f.1).getD false then [f.2] else []
def dashWs : List Bytes → List Bytes
  | [] => []
  | a :: _ => if 1 < a.length ∧ a.head? = some 45 then [[45, 45]] else []
def wordsOf (c : Cmd) : List Bytes := c.name :: (c.flags.flatMap (flagWs (rowOf c)) ++ dashWs c.args ++ c.args)
theorem table_plain : ∀ r ∈ table, (r.name ≠ [] ∧ r.name.all (Lx.wset.contains ·) = true ∧ r.name ≠ tIf ∧ r.name ≠ tElif ∧ r.name ≠ tElse ∧ r.name ≠ tEndif) ∧ ∀ c ∈ r.flags, Lx.wset.contains c = true ∧ c ≠ 45 := by decide +kernel
theorem found_name : ∀ r ∈ table, found r.name = some r := by decide +kernel
theorem wquote_plain {s : Bytes} (h : s ≠ []) (h2 : s.all (Lx.wset.contains ·) = true) : Lx.wquote s = s := by rw [Lx.wquote, if_pos ⟨h, h2⟩]
theorem tails_append (a b : List Bytes) : Lx.tails (a ++ b) = Lx.tails a ++ Lx.tails b := by simp [Lx.tails]
theorem tails_args (l : List Bytes) : Lx.tails l = l.flatMap oneA := rfl
theorem tails_dash (l : List Bytes) : Lx.tails (dashWs l) = dashes l := by
  cases l with
  | nil => rfl
  | cons a l =>
    simp only [dashWs, dashes]
    split
    · decide
    · rfl
theorem tails_flags (r : Row) : ∀ (l : List Fl), (∀ f ∈ l, Lx.wset.contains f.1 = true) → Lx.tails (l.flatMap (flagWs r)) = l.flatMap (oneF r)
  | [], _ => rfl
  | f :: l, h => by
    rw [List.flatMap_cons, tails_append, tails_flags r l fun x hx => h x (List.mem_cons_of_mem _ hx), List.flatMap_cons]
    congr 1
    have hq : Lx.wquote [45, f.1] = [45, f.1] := wquote_plain (by simp) (by
      have := h f List.mem_cons_self
      simp only [List.all_cons, List.all_nil, this, Bool.and_true]
      decide)
    unfold flagWs oneF Lx.tails
    split <;> simp [hq]
/-- what right says of a command's flags -/
theorem flagsOk_all {r : Row} : ∀ {l : List Fl} {p : Option UInt8}, flagsOk r p l = true → (∀ q, p = some q → ∀ f ∈ l, q < f.1) ∧ Sorted l ∧ ∀ f ∈ l, ∃ v, takes r f.1 = some v ∧ (v = true ∨ f.2 = [])
  | [], _, _ => ⟨fun _ _ f hf => (List.not_mem_nil hf).elim, .nil, fun f hf => (List.not_mem_nil hf).elim⟩
  | x :: l, p, h => by
    simp only [flagsOk, Bool.and_eq_true] at h
    obtain ⟨h1, h2⟩ := h
    obtain ⟨a1, a2, a3⟩ := flagsOk_all h2
    simp only [flagOk, Bool.and_eq_true] at h1
    obtain ⟨⟨b1, b2⟩, b3⟩ := h1
    have hlt := a1 x.1 rfl
    refine ⟨fun q hq f hf => ?_, List.pairwise_cons.2 ⟨fun f hf => hlt f hf, a2⟩, fun f hf => ?_⟩
    · subst hq
      simp only [decide_eq_true_eq] at b3
      rcases List.mem_cons.1 hf with rfl | hf
      · exact b3
      · have := hlt f hf
        rw [u8_lt] at *
        omega
    · rcases List.mem_cons.1 hf with rfl | hf
      · cases hk : takes r f.1 with
        | none => rw [hk] at b1; cases b1
        | some v =>
          rw [hk] at b2
          refine ⟨v, rfl, ?_⟩
          simpa using b2
      · exact a3 f hf
structure Right (c : Cmd) (r : Row) : Prop where
  row : whole c.name = some r
  mem : r ∈ table
  name : r.name = c.name
  fit : fits r c.args.length = true
  sorted : Sorted c.flags
  each : ∀ f ∈ c.flags, (∃ v, takes r f.1 = some v ∧ (v = true ∨ f.2 = [])) ∧ Lx.wset.contains f.1 = true ∧ f.1 ≠ 45
theorem right_is {c : Cmd} (h : right c = true) : ∃ r, Right c r := by
  unfold right at h
  split at h
  · cases h
  · rename_i r e
    rw [Bool.and_eq_true] at h
    have hm := whole_mem e
    obtain ⟨-, h2, h3⟩ := flagsOk_all h.2
    refine ⟨r, e, hm.1, hm.2, h.1, h2, fun f hf => ⟨h3 f hf, ?_⟩⟩
    obtain ⟨v, hv, -⟩ := h3 f hf
    exact (table_plain r hm.1).2 _ (takes_mem (by rw [hv]; rfl))
theorem Right.rowOf {c : Cmd} {r : Row} (h : Right c r) : rowOf c = r := by rw [Px.rowOf, h.row]; rfl
/-- a right command is its words, written -/
theorem one_cat {c : Cmd} (h : right c = true) : one c = Lx.cat (wordsOf c) := by
  obtain ⟨r, hr⟩ := right_is h
  have hp := (table_plain r hr.mem).1
  rw [hr.name] at hp
  unfold one wordsOf
  rw [if_pos h, Lx.cat, wquote_plain hp.1 hp.2.1, tails_append, tails_append, tails_flags _ _ (fun f hf => (hr.each f hf).2.1), tails_dash, tails_args]
  simp [Px.rowOf]
theorem putF_last (f : Fl) : ∀ (m : List Fl), (∀ x ∈ m, x.1 < f.1) → putF f m = m ++ [f]
  | [], _ => rfl
  | x :: m, h => by
    have hx := h x List.mem_cons_self
    have h1 : ¬ f.1 < x.1 := fun e => by rw [u8_lt] at *; omega
    have h2 : ¬ f.1 = x.1 := fun e => by rw [e, u8_lt] at hx; omega
    rw [putF, if_neg h1, if_neg h2, putF_last f m fun y hy => h y (List.mem_cons_of_mem _ hy)]
    rfl
theorem isFlag_two {x : PW} {c : UInt8} (h : x.text = [45, c]) (hb : x.block = false) : isFlag x = true := by simp [isFlag, h, hb]
theorem letters_bare {r : Row} {c : UInt8} {l : List PW} {m : List Fl} (h : takes r c = some false) : letters r [c] l m = some (l, putF (c, []) m) := by
  simp only [letters, h]
theorem letters_next {r : Row} {c : UInt8} {x : PW} {l : List PW} {m : List Fl} (h : takes r c = some true) : letters r [c] (x :: l) m = some (l, putF (c, x.text) m) := by
  simp only [letters, h]
/-- the flags' words are read -/
theorem flags_back {r : Row} {args : List Bytes} : ∀ (fl : List Fl) (l : List PW) (m : List Fl) (n : Nat), l.length < n → l.map (·.text) = fl.flatMap (flagWs r) ++ dashWs args ++ args → (∀ x ∈ l, x.block = false) → Sorted fl → (∀ x ∈ m, ∀ f ∈ fl, x.1 < f.1) →
    (∀ f ∈ fl, (∃ v, takes r f.1 = some v ∧ (v = true ∨ f.2 = [])) ∧ f.1 ≠ 45) → ∃ rest, flagsN r n l m = some (rest, m ++ fl) ∧ rest.map (·.text) = args
  | [], l, m, n, hn, hl, hb, _, _, _ => by
    cases n with
    | zero => omega
    | succ n =>
      cases args with
      | nil =>
        have : l = [] := by simpa [dashWs] using hl
        subst this
        exact ⟨[], by simp [flagsN], rfl⟩
      | cons a al =>
        simp only [List.flatMap_nil, List.nil_append, dashWs] at hl
        by_cases hd : 1 < a.length ∧ a.head? = some 45
        · rw [if_pos hd] at hl
          cases l with
          | nil => cases hl
          | cons y z =>
            simp only [List.map_cons, List.singleton_append, List.cons.injEq] at hl
            have hf := isFlag_two hl.1 (hb y (by simp))
            refine ⟨z, ?_, by rw [hl.2]⟩
            simp [flagsN, hf, hl.1]
        · rw [if_neg hd] at hl
          cases l with
          | nil => cases hl
          | cons y z =>
            simp only [List.map_cons, List.nil_append, List.cons.injEq] at hl
            have hf : isFlag y = false := by
              simp only [isFlag, hb y (by simp), hl.1, Bool.not_false, Bool.true_and]
              rw [Bool.and_eq_false_iff]
              by_cases h1 : 1 < a.length
              · right
                rw [beq_eq_false_iff_ne]
                exact fun e => hd ⟨h1, e⟩
              · left
                simpa using h1
            refine ⟨y :: z, ?_, by rw [List.map_cons, hl.1, hl.2]⟩
            simp [flagsN, hf]
  | f :: fl, l, m, n, hn, hl, hb, hs, hm, he => by
    cases n with
    | zero => omega
    | succ n =>
      rw [Sorted, List.pairwise_cons] at hs
      obtain ⟨⟨v, hv, hv2⟩, h45⟩ := he f List.mem_cons_self
      have hput : putF f m = m ++ [f] := putF_last f m fun x hx => hm x hx f List.mem_cons_self
      have hm' : ∀ x ∈ m ++ [f], ∀ g ∈ fl, x.1 < g.1 := fun x hx g hg => by
        rcases List.mem_append.1 hx with hx | hx
        · exact hm x hx g (List.mem_cons_of_mem _ hg)
        · rw [List.mem_singleton.1 hx]
          exact hs.1 g hg
      cases l with
      | nil => simp [flagWs] at hl
      | cons y z =>
        rw [List.flatMap_cons] at hl
        have hy : y.text = [45, f.1] := by
          simp [flagWs] at hl
          exact hl.1
        have hf := isFlag_two hy (hb y (by simp))
        have ht : y.text.tail = [f.1] := by rw [hy]; rfl
        have hne : ¬ ([f.1] : Bytes) = [45] := fun e => h45 (by injection e)
        cases v with
        | false =>
          have hf2 : f.2 = [] := by simpa using hv2
          have hff : (f.1, ([] : Bytes)) = f := by rw [← hf2]
          have hz : z.map (·.text) = fl.flatMap (flagWs r) ++ dashWs args ++ args := by
            simp [flagWs, hv] at hl
            simp [hl.2]
          obtain ⟨rest, h1, h2⟩ := flags_back fl z (m ++ [f]) n (by simp at hn; omega) hz (fun x hx => hb x (List.mem_cons_of_mem _ hx)) hs.2 hm' fun g hg => he g (List.mem_cons_of_mem _ hg)
          refine ⟨rest, ?_, h2⟩
          rw [flagsN, if_pos hf, ht, if_neg hne, letters_bare hv, hff, hput]
          dsimp only
          rw [h1]
          simp
        | true =>
          cases z with
          | nil => simp [flagWs, hv] at hl
          | cons x z =>
            have hx : x.text = f.2 ∧ z.map (·.text) = fl.flatMap (flagWs r) ++ dashWs args ++ args := by
              simp [flagWs, hv] at hl
              exact ⟨hl.2.1, by simp [hl.2.2]⟩
            obtain ⟨rest, h1, h2⟩ := flags_back fl z (m ++ [f]) n (by simp at hn; omega) hx.2 (fun w hw => hb w (List.mem_cons_of_mem _ (List.mem_cons_of_mem _ hw))) hs.2 hm' fun g hg => he g (List.mem_cons_of_mem _ hg)
            refine ⟨rest, ?_, h2⟩
            rw [flagsN, if_pos hf, ht, if_neg hne, letters_next hv, hx.1]
            dsimp only
            rw [hput, h1]
            simp
/-- a right command's words are read as that command -/
theorem words_back {c : Cmd} (h : right c = true) {l : List PW} (ht : l.map (·.text) = wordsOf c) (hb : ∀ x ∈ l, x.block = false) : isDir l = false ∧ words l = .ok ⟨c.name, c.flags, c.args, line0 l⟩ := by
  obtain ⟨r, hr⟩ := right_is h
  have hp := (table_plain r hr.mem).1
  rw [hr.name] at hp
  cases l with
  | nil => cases ht
  | cons x l =>
    simp only [List.map_cons, wordsOf, List.cons.injEq, hr.rowOf] at ht
    have hx := hb x (by simp)
    obtain ⟨rest, h1, h2⟩ := flags_back (r := r) (args := c.args) c.flags l [] (l.length + 1) (Nat.lt_succ_self _) ht.2 (fun y hy => hb y (List.mem_cons_of_mem _ hy)) hr.sorted (fun x hx => (List.not_mem_nil hx).elim) fun f hf => ⟨(hr.each f hf).1, (hr.each f hf).2.2⟩
    have hf : flags r l = some (rest, c.flags) := h1
    have hlen : rest.length = c.args.length := by rw [← h2, List.length_map]
    refine ⟨?_, ?_⟩
    · simp [isDir, hx, ht.1, hp.2.2.1, hp.2.2.2.1, hp.2.2.2.2.1, hp.2.2.2.2.2]
    · have hfound : found x.text = some r := by rw [ht.1, ← hr.name]; exact found_name r hr.mem
      have hfit := hr.fit
      simp only [fits, Bool.and_eq_true, Bool.or_eq_true, decide_eq_true_eq] at hfit
      have hno : ¬ ((rest.length : Int) < r.few ∨ (0 ≤ r.most ∧ r.most < rest.length)) := by
        rw [hlen]
        rintro (h | h) <;> omega
      simp only [words, hx, hfound, hf, if_neg hno, h2, hr.name]
      rfl
/-- a command without its line -/
def strip (c : Cmd) : Cmd := { c with line := 0 }
def stripG (G : List (List Cmd)) : List (List Cmd) := G.map (·.map strip)
theorem ofLn_texts (l : Lx.Ln) : (ofLn l).1.map (·.text) = l.1.map (·.text) := by simp [ofLn, ofW]
theorem putG_more (out : List (List Cmd)) (d : List Cmd) (c : Cmd) : putG (out ++ [d]) c false = out ++ [d ++ [c]] := by simp [putG]
/-- the further commands of a group that is begun -/
theorem parse_more {X : Bytes → Bytes × Int} {g : Nat} {out : List (List Cmd)} {T : List PLn} : ∀ (L : List Lx.Ln) (cs d : List Cmd), Lx.GLine g L (cs.map wordsOf) → (∀ c ∈ cs, right c = true) →
    ∃ cs', cs'.map strip = cs.map strip ∧ parseL X (L.map ofLn ++ T) [] g (out ++ [d]) = parseL X T [] g (out ++ [d ++ cs'])
  | [], cs, d, h, _ => by
    have : cs = [] := by simpa using h.texts.symm
    subst this
    exact ⟨[], rfl, by simp⟩
  | l :: L, cs, d, h, hr => by
    cases cs with
    | nil => have := h.texts; simp at this
    | cons c cs =>
      have ht := h.texts
      simp only [List.map_cons, List.cons.injEq] at ht
      have he := h.each l (by simp)
      obtain ⟨w1, w2⟩ := words_back (c := c) (l := (ofLn l).1) (hr c (by simp)) (by rw [ofLn_texts]; exact ht.1) (fun x hx => by
        simp only [ofLn] at hx
        obtain ⟨y, hy, rfl⟩ := List.mem_map.1 hx
        exact he.2 y hy)
      obtain ⟨cs', h1, h2⟩ := parse_more (X := X) (out := out) (T := T) L cs (d ++ [⟨c.name, c.flags, c.args, line0 (ofLn l).1⟩]) ⟨ht.2, fun x hx => h.each x (List.mem_cons_of_mem _ hx)⟩ fun x hx => hr x (List.mem_cons_of_mem _ hx)
      refine ⟨⟨c.name, c.flags, c.args, line0 (ofLn l).1⟩ :: cs', by simp [h1, strip], ?_⟩
      have e2 : (ofLn l).2 = g := he.1
      rw [List.map_cons, List.cons_append, parseL, w1, w2]
      simp only [Bool.false_eq_true, if_false, taken, List.getLast?_nil, if_true, e2, ne_eq, not_true_eq_false, false_or]
      rw [if_neg (by simp), putG_more, h2]
      simp
theorem parse_all {X : Bytes → Bytes × Int} : ∀ (G : List (List Cmd)) (g g0 : Nat) (L : List Lx.Ln) (out : List (List Cmd)), Lx.GLines g L (G.map (·.map wordsOf)) → g ≠ g0 → (∀ cs ∈ G, ∀ c ∈ cs, right c = true) →
    ∃ G', stripG G' = stripG G ∧ parseL X (L.map ofLn) [] g0 out = .ok (out ++ G')
  | [], g, g0, L, out, h, _, _ => by
    cases h
    exact ⟨[], rfl, by simp [parseL]⟩
  | cs :: G, g, g0, _, out, h, hg, hr => by
    cases h with
    | @cons _ L M _ _ h hne t =>
      cases cs with
      | nil => exact absurd rfl hne
      | cons c cs =>
        cases L with
        | nil => have := h.texts; simp at this
        | cons l L =>
          have ht := h.texts
          simp only [List.map_cons, List.cons.injEq] at ht
          have he := h.each l (by simp)
          obtain ⟨w1, w2⟩ := words_back (c := c) (l := (ofLn l).1) (hr (c :: cs) (by simp) c (by simp)) (by rw [ofLn_texts]; exact ht.1) (fun x hx => by
            simp only [ofLn] at hx
            obtain ⟨y, hy, rfl⟩ := List.mem_map.1 hx
            exact he.2 y hy)
          obtain ⟨cs', h1, h2⟩ := parse_more (X := X) (out := out) (T := M.map ofLn) L cs [⟨c.name, c.flags, c.args, line0 (ofLn l).1⟩] ⟨ht.2, fun x hx => h.each x (List.mem_cons_of_mem _ hx)⟩ fun x hx => hr (c :: cs) (by simp) x (List.mem_cons_of_mem _ hx)
          obtain ⟨G', h3, h4⟩ := parse_all (X := X) G (g + 1) g M (out ++ [[⟨c.name, c.flags, c.args, line0 (ofLn l).1⟩] ++ cs']) t (by omega) fun x hx => hr x (List.mem_cons_of_mem _ hx)
          refine ⟨([⟨c.name, c.flags, c.args, line0 (ofLn l).1⟩] ++ cs') :: G', ?_, ?_⟩
          · simp only [stripG, List.map_cons] at h3 ⊢
            rw [h3]
            simp [h1, strip]
          · have e2 : (ofLn l).2 = g := he.1
            rw [List.cons_append, List.map_cons, parseL, w1, w2]
            simp only [Bool.false_eq_true, if_false, taken, List.getLast?_nil, if_true, e2]
            rw [if_pos (.inl hg), putG, if_pos rfl, List.map_append, h2, h4]
            simp
/-- what Print makes of groups -/
def joined : List Bytes → Bytes
  | [] => []
  | [s] => s
  | s :: r => s ++ 32 :: 59 :: 32 :: joined r
def printG (cs : List Cmd) : Bytes := if (cs.map one).filter (· ≠ []) = [] then [] else joined ((cs.map one).filter (· ≠ [])) ++ [10]
def print (G : List (List Cmd)) : Bytes := G.flatMap printG
theorem one_ne {c : Cmd} (h : right c = true) : one c ≠ [] := by
  obtain ⟨r, hr⟩ := right_is h
  have hp := (table_plain r hr.mem).1
  rw [hr.name] at hp
  rw [one_cat h, wordsOf, Lx.cat, wquote_plain hp.1 hp.2.1]
  intro e
  exact hp.1 (List.append_eq_nil_iff.1 e).1
theorem joined_gcat : ∀ (l : List (List Bytes)), joined (l.map Lx.cat) = Lx.gcat l
  | [] => rfl
  | [c] => rfl
  | c :: d :: r => by
    have ih := joined_gcat (d :: r)
    show Lx.cat c ++ 32 :: 59 :: 32 :: joined ((d :: r).map Lx.cat) = Lx.cat c ++ 32 :: 59 :: 32 :: Lx.gcat (d :: r)
    rw [ih]
theorem print_right {G : List (List Cmd)} (hr : ∀ cs ∈ G, cs ≠ [] ∧ ∀ c ∈ cs, right c = true) : print G = Lx.gtext (G.map (·.map wordsOf)) := by
  unfold print Lx.gtext
  induction G with
  | nil => rfl
  | cons cs G ih =>
    rw [List.flatMap_cons, List.map_cons, List.flatMap_cons, ih fun x hx => hr x (List.mem_cons_of_mem _ hx)]
    congr 1
    obtain ⟨hne, hc⟩ := hr cs (by simp)
    have hfil : (cs.map one).filter (· ≠ []) = cs.map one := List.filter_eq_self.2 fun s hs => by
      obtain ⟨c, hc', rfl⟩ := List.mem_map.1 hs
      simpa using one_ne (hc c hc')
    have hmap : cs.map one = (cs.map wordsOf).map Lx.cat := by
      rw [List.map_map]
      exact List.map_congr_left fun c hc' => one_cat (hc c hc')
    rw [printG, hfil, if_neg (by simpa using hne), hmap, joined_gcat]
theorem one_strip (c : Cmd) : one (strip c) = one c := rfl
theorem printG_strip (cs : List Cmd) : printG (cs.map strip) = printG cs := by
  have : (cs.map strip).map one = cs.map one := by rw [List.map_map]; exact List.map_congr_left fun c _ => one_strip c
  rw [printG, this, printG]
theorem print_strip (G : List (List Cmd)) : print (stripG G) = print G := by
  unfold print stripG
  rw [List.flatMap_map]
  exact congrArg List.flatten (List.map_congr_left fun cs _ => printG_strip cs)
/-- THE LAW: what is written of right commands is read as they were, and written the same -/
theorem parse_print {X : Bytes → Bytes × Int} {G : List (List Cmd)} (hr : ∀ cs ∈ G, cs ≠ [] ∧ ∀ c ∈ cs, right c = true) (hs : ∀ cs ∈ G, ∀ c ∈ cs, Lx.Small (wordsOf c)) (hn : (G.map (·.length)).sum ≤ 1000) (hl : (print G).length ≤ 65536) :
    ∃ L G', Lx.split [] (print G) = .ok L ∧ Lx.GLines 1 L (G.map (·.map wordsOf)) ∧ parse X [] (print G) = .ok G' ∧ stripG G' = stripG G ∧ print G' = print G := by
  rw [print_right hr] at hl ⊢
  obtain ⟨L, h1, h2⟩ := Lx.split_groups (env := []) (gs := G.map (·.map wordsOf)) (fun c hc => by
    obtain ⟨cs, hcs, rfl⟩ := List.mem_map.1 hc
    refine ⟨by simpa using (hr cs hcs).1, fun x hx => ?_⟩
    obtain ⟨c, hc', rfl⟩ := List.mem_map.1 hx
    exact hs cs hcs c hc') (by rw [List.map_map]; simpa [Function.comp_def] using hn) hl
  obtain ⟨G', h3, h4⟩ := parse_all (X := X) G 1 0 L [] h1 (by decide) fun cs hcs => (hr cs hcs).2
  refine ⟨L, G', h2, h1, ?_, h3, ?_⟩
  · rw [parse, h2]
    exact h4
  · rw [← print_strip, h3, print_strip, print_right hr]
end Px
end Go.Proofs.YtiopaenonjhlnaaGreatDoor
namespace Go.Proofs.YtiopaenonjhlnaaGreatDoor
namespace Px
open Lx (Bytes)

theorem flagsOk_mk {r : Row} : ∀ {l : List Fl} {p : Option UInt8}, (∀ q, p = some q → ∀ f ∈ l, q < f.1) → Sorted l → (∀ f ∈ l, ∃ v, takes r f.1 = some v ∧ (v = true ∨ f.2 = [])) → flagsOk r p l = true
  | [], _, _, _, _ => rfl
  | x :: l, p, hp, hs, he => by
    rw [Sorted, List.pairwise_cons] at hs
    obtain ⟨v, hv, hv2⟩ := he x List.mem_cons_self
    have ih := flagsOk_mk (r := r) (l := l) (p := some x.1) (fun q hq f hf => by injection hq with hq; rw [← hq]; exact hs.1 f hf) hs.2 fun f hf => he f (List.mem_cons_of_mem _ hf)
    have hx : flagOk r p x = true := by
      unfold flagOk
      rw [hv]
      have h2 : (v || x.2.isEmpty) = true := by
        rcases hv2 with rfl | h
        · rfl
        · rw [h]; simp
      cases p with
      | none => simp [h2]
      | some q => simp [h2, hp q rfl x List.mem_cons_self]
    rw [flagsOk, hx, ih]
    rfl
theorem right_of {c : Cmd} {r : Row} (hw : whole c.name = some r) (hs : Sorted c.flags) (he : ∀ f ∈ c.flags, ∃ v, takes r f.1 = some v ∧ (v = true ∨ f.2 = [])) (hf : r.few ≤ (c.args.length : Int) ∧ (0 ≤ r.most → (c.args.length : Int) ≤ r.most)) : right c = true := by
  unfold right
  rw [hw]
  have h1 : fits r c.args.length = true := by
    unfold fits
    rw [decide_eq_true hf.1]
    by_cases hm : 0 ≤ r.most
    · rw [decide_eq_true (hf.2 hm)]; simp
    · rw [decide_eq_true (show r.most < 0 by omega)]; rfl
  show (fits r c.args.length && flagsOk r none c.flags) = true
  rw [h1, flagsOk_mk (fun q hq => by cases hq) hs he]
  rfl
theorem nodup_sub : ∀ (l m : Bytes), l.Nodup → (∀ x ∈ l, x ∈ m) → l.length ≤ m.length
  | [], _, _, _ => Nat.zero_le _
  | a :: l, m, hn, hs => by
    rw [List.nodup_cons] at hn
    have ha := hs a List.mem_cons_self
    have := nodup_sub l (m.erase a) hn.2 fun x hx => (List.mem_erase_of_ne fun e => hn.1 (by rw [← e]; exact hx)).2 (hs x (List.mem_cons_of_mem _ hx))
    rw [List.length_erase_of_mem ha] at this
    have := List.length_pos_of_mem ha
    rw [List.length_cons]
    omega
theorem nodup_of {l : List Fl} (h : Sorted l) : (l.map (·.1)).Nodup := by
  rw [List.Nodup, List.pairwise_map]
  exact h.imp fun hlt e => by rw [e, u8_lt] at hlt; omega
theorem flags_few {c : Cmd} {r : Row} (h : Right c r) : c.flags.length ≤ 20 := by
  have hsub : ∀ x ∈ c.flags.map (·.1), x ∈ r.flags := fun x hx => by
    obtain ⟨f, hf, rfl⟩ := List.mem_map.1 hx
    obtain ⟨⟨v, hv, -⟩, -⟩ := h.each f hf
    exact takes_mem (by rw [hv]; rfl)
  have := nodup_sub _ _ (nodup_of h.sorted) hsub
  rw [List.length_map] at this
  exact Nat.le_trans this (table_flags r h.mem).1
theorem flagWs_len (r : Row) : ∀ (l : List Fl), (l.flatMap (flagWs r)).length ≤ 2 * l.length
  | [] => by simp
  | f :: l => by
    rw [List.flatMap_cons, List.length_append, List.length_cons]
    have := flagWs_len r l
    have : (flagWs r f).length ≤ 2 := by
      unfold flagWs
      split <;> simp
    omega
theorem dashWs_len (l : List Bytes) : (dashWs l).length ≤ 1 := by
  cases l with
  | nil => simp [dashWs]
  | cons a l => simp only [dashWs]; split <;> simp
theorem small_words {c : Cmd} (h : right c = true) (hv : ∀ f ∈ c.flags, f.2.length ≤ 500) (ha : c.args.length ≤ 200 ∧ ∀ a ∈ c.args, a.length ≤ 500) : Lx.Small (wordsOf c) := by
  obtain ⟨r, hr⟩ := right_is h
  refine ⟨by simp [wordsOf], fun x hx => ?_, ?_⟩
  · simp only [wordsOf, List.mem_cons, List.mem_append, List.mem_flatMap] at hx
    rcases hx with rfl | (⟨f, hf, hx⟩ | hx) | hx
    · have := (table_flags r hr.mem).2.1
      rw [hr.name] at this
      omega
    · unfold flagWs at hx
      rcases List.mem_cons.1 hx with rfl | hx
      · simp
      · split at hx
        · rw [List.mem_singleton.1 hx]
          exact Nat.le_trans (hv f hf) (by decide)
        · exact (List.not_mem_nil hx).elim
    · cases hc : c.args with
      | nil => rw [hc] at hx; exact (List.not_mem_nil hx).elim
      | cons a l =>
        rw [hc, dashWs] at hx
        split at hx
        · rw [List.mem_singleton.1 hx]; simp
        · exact (List.not_mem_nil hx).elim
    · exact Nat.le_trans (ha.2 x hx) (by decide)
  · simp only [wordsOf, List.length_cons, List.length_append]
    have h1 := flagWs_len (rowOf c) c.flags
    have h2 := flags_few hr
    have h3 := dashWs_len c.args
    omega
/-- what the lines of written commands are -/
theorem glines_all {G : List (List Cmd)} : ∀ {g : Nat} {L : List Lx.Ln} {gs : List (List (List Bytes))}, Lx.GLines g L gs → gs = G.map (·.map wordsOf) → (∀ l ∈ L, ∃ cs ∈ G, ∃ c ∈ cs, l.1.map (·.text) = wordsOf c ∧ ∀ x ∈ l.1, x.block = false) ∧ L.length = (G.map (·.length)).sum := by
  intro g L gs h
  induction h generalizing G with
  | nil g =>
    intro e
    have : G = [] := by simpa using e.symm
    subst this
    exact ⟨fun l hl => (List.not_mem_nil hl).elim, rfl⟩
  | @cons g L M c gs h hne t ih =>
    intro e
    cases G with
    | nil => cases e
    | cons cs G =>
      rw [List.map_cons] at e
      injection e with e1 e2
      obtain ⟨i1, i2⟩ := ih e2
      have ht := h.texts
      rw [e1] at ht
      refine ⟨fun l hl => ?_, ?_⟩
      · rcases List.mem_append.1 hl with hl | hl
        · have hm : l.1.map (·.text) ∈ L.map (fun l => l.1.map (·.text)) := List.mem_map.2 ⟨l, hl, rfl⟩
          rw [ht] at hm
          obtain ⟨c, hc, hc2⟩ := List.mem_map.1 hm
          exact ⟨cs, by simp, c, hc, hc2.symm, (h.each l hl).2⟩
        · obtain ⟨cs', h1, h2⟩ := i1 l hl
          exact ⟨cs', List.mem_cons_of_mem _ h1, h2⟩
      · have hL : L.length = cs.length := by
          have := congrArg List.length ht
          simpa using this
        rw [List.length_append, i2, List.map_cons, List.sum_cons, hL]
end Px
end Go.Proofs.YtiopaenonjhlnaaGreatDoor
namespace Go.Proofs.YtiopaenonjhlnaaGreatDoor
namespace Px
open Lx (Bytes)

theorem table_at : ∀ r ∈ table, (List.range 20).all (fun i => match r.flags[i]? with
    | none => true
    | some c => c == 58 || (takes r c == some (r.flags[i + 1]? == some 58) && !(r.flags.take i).contains c)) = true := by decide +kernel
theorem letter_at {r : Row} (hr : r ∈ table) {i : Nat} (hi : i < r.flags.length) (hc : r.flags[i] ≠ 58) : takes r r.flags[i] = some (r.flags[i + 1]? == some 58) ∧ r.flags[i] ∉ r.flags.take i := by
  have hl := (table_flags r hr).1
  have h := List.all_eq_true.1 (table_at r hr) i (List.mem_range.2 (by omega))
  rw [List.getElem?_eq_getElem hi] at h
  simp only [Bool.or_eq_true, Bool.and_eq_true, beq_iff_eq, Bool.not_eq_true'] at h
  rcases h with h | ⟨h1, h2⟩
  · exact absurd h hc
  · refine ⟨h1, fun hm => ?_⟩
    rw [List.contains_iff_mem.2 hm] at h2
    cases h2
/-- the flags so far: before byte b, at place i of the row -/
structure RawFl (r : Row) (b i : Nat) (acc : List Fl) : Prop where
  sorted : Sorted acc
  below : ∀ f ∈ acc, f.1.toNat ≤ b ∧ (f.1.toNat = b → f.1 ∈ r.flags.take i)
  each : ∀ f ∈ acc, (∃ v, takes r f.1 = some v ∧ (v = true ∨ f.2 = [])) ∧ f.2.length ≤ 500
theorem RawFl.nil (r : Row) : RawFl r 0 0 [] := ⟨.nil, fun _f hf => (List.not_mem_nil hf).elim, fun _f hf => (List.not_mem_nil hf).elim⟩
theorem RawFl.skip {r : Row} {b i : Nat} {acc : List Fl} (h : RawFl r b i acc) : RawFl r b (i + 1) acc :=
  ⟨h.sorted, fun f hf => ⟨(h.below f hf).1, fun e => List.mem_of_mem_take (i := i) (by
    have := (h.below f hf).2 e
    rw [List.take_take, Nat.min_eq_left (Nat.le_succ i)]
    exact this)⟩, h.each⟩
theorem RawFl.put {r : Row} (hr : r ∈ table) {b i : Nat} {acc : List Fl} (h : RawFl r b i acc) (hi : i < r.flags.length) (hb : r.flags[i].toNat = b) (hc : r.flags[i] ≠ 58) {s : Bytes} (hs : s.length ≤ 500) (hs2 : (r.flags[i + 1]? == some 58) = true ∨ s = []) : RawFl r b (i + 1) (acc ++ [(r.flags[i], s)]) := by
  obtain ⟨h1, h2⟩ := letter_at hr hi hc
  have hlt : ∀ f ∈ acc, f.1 < r.flags[i] := fun f hf => by
    obtain ⟨h3, h4⟩ := h.below f hf
    rw [u8_lt]
    by_cases e : f.1.toNat = b
    · have e2 : f.1 = r.flags[i] := u8_eq.2 (by omega)
      exact absurd (e2 ▸ h4 e) h2
    · omega
  refine ⟨?_, fun f hf => ?_, fun f hf => ?_⟩
  · rw [Sorted, List.pairwise_append]
    refine ⟨h.sorted, List.pairwise_singleton _ _, fun a ha c hc => ?_⟩
    rw [List.mem_singleton.1 hc]
    exact hlt a ha
  · rcases List.mem_append.1 hf with hf | hf
    · exact h.skip.below f hf
    · rw [List.mem_singleton.1 hf]
      have hm : r.flags[i] ∈ r.flags.take (i + 1) := by
        rw [List.take_succ_eq_append_getElem hi]
        exact List.mem_append_right _ (List.mem_singleton.2 rfl)
      exact ⟨Nat.le_of_eq hb, fun _ => hm⟩
  · rcases List.mem_append.1 hf with hf | hf
    · exact h.each f hf
    · rw [List.mem_singleton.1 hf]
      exact ⟨⟨_, h1, hs2⟩, hs⟩
theorem RawFl.byte {r : Row} {b i : Nat} {acc : List Fl} (h : RawFl r b i acc) : RawFl r (b + 1) 0 acc :=
  ⟨h.sorted, fun f hf => ⟨by have := (h.below f hf).1; omega, fun e => by have := (h.below f hf).1; omega⟩, h.each⟩
/-- .. at the end: a right command, whose arguments are as many as they may be -/
theorem RawFl.right {r : Row} {b i : Nat} {acc : List Fl} (h : RawFl r b i acc) {nm : Bytes} (hw : whole nm = some r) {args : List Bytes} {line : Int} (hn : r.few ≤ (args.length : Int) ∧ (0 ≤ r.most → (args.length : Int) ≤ r.most)) : Px.right ⟨nm, acc, args, line⟩ = true :=
  right_of (c := ⟨nm, acc, args, line⟩) hw h.sorted (fun f hf => (h.each f hf).1) hn
theorem few_most : ∀ r ∈ table, 0 ≤ r.few ∧ r.few ≤ 5 ∧ -1 ≤ r.most ∧ r.most ≤ 5 ∧ (0 ≤ r.most → r.few ≤ r.most) := by decide +kernel
end Px
end Go.Proofs.YtiopaenonjhlnaaGreatDoor
namespace Go.Proofs.YtiopaenonjhlnaaGreatDoor
namespace Px
open Lx (Bytes)

/-- the document's put, from a place on: is the flag in already? -/
def rput (f : Fl) : Bool → List Fl → List Fl
  | done, [] => if done then [] else [f]
  | done, x :: l => (if done = false ∧ f.1 ≤ x.1 then [f] else []) ++ (if x.1 = f.1 then [] else [x]) ++ rput f (done || decide (f.1 ≤ x.1)) l
theorem u8_le {a b : UInt8} : a ≤ b ↔ a.toNat ≤ b.toNat := Iff.rfl
theorem rput_done (f : Fl) : ∀ (l : List Fl), (∀ x ∈ l, f.1 < x.1) → rput f true l = l
  | [], _ => rfl
  | x :: l, h => by
    have hx := h x List.mem_cons_self
    have hne : ¬ x.1 = f.1 := fun e => by rw [e, u8_lt] at hx; omega
    simp only [rput, hne, Bool.true_or, if_false]
    rw [rput_done f l fun y hy => h y (List.mem_cons_of_mem _ hy)]
    simp
theorem rput_put (f : Fl) : ∀ (l : List Fl), Sorted l → rput f false l = putF f l
  | [], _ => rfl
  | x :: l, h => by
    rw [Sorted, List.pairwise_cons] at h
    simp only [rput, putF, Bool.false_or]
    by_cases h1 : f.1 < x.1
    · have hle : f.1 ≤ x.1 := by rw [u8_lt] at h1; rw [u8_le]; omega
      have hne : ¬ x.1 = f.1 := fun e => by rw [e, u8_lt] at h1; omega
      rw [if_pos h1, if_pos ⟨trivial, hle⟩, if_neg hne, decide_eq_true hle, rput_done f l fun y hy => by
        have := h.1 y hy
        rw [u8_lt] at *
        omega]
      rfl
    · rw [if_neg h1]
      by_cases h2 : f.1 = x.1
      · have hle : f.1 ≤ x.1 := by rw [u8_le, h2]; omega
        rw [if_pos h2, if_pos ⟨trivial, hle⟩, if_pos h2.symm, decide_eq_true hle, rput_done f l fun y hy => by rw [h2]; exact h.1 y hy]
        rfl
      · have hle : ¬ f.1 ≤ x.1 := by
          rw [u8_lt] at h1
          rw [u8_eq] at h2
          rw [u8_le]
          omega
        rw [if_neg h2, if_neg (fun e => hle e.2), if_neg (fun e => h2 e.symm), decide_eq_false hle, rput_put f l h.2]
        rfl
/-- the document's Print: a group's text so far, one more command -/
def rstep (s : Bytes) (c : Cmd) : Bytes := (if one c ≠ [] ∧ s ≠ [] then s ++ [32, 59, 32] else s) ++ one c
def rgroup (cs : List Cmd) : Bytes := cs.foldl rstep []
def rprint (G : List (List Cmd)) : Bytes := G.flatMap fun cs => if rgroup cs ≠ [] then rgroup cs ++ [10] else []
theorem joined_snoc : ∀ (l : List Bytes) (s : Bytes), l ≠ [] → joined (l ++ [s]) = joined l ++ 32 :: 59 :: 32 :: s
  | [], _, h => absurd rfl h
  | [a], s, _ => rfl
  | a :: b :: l, s, _ => by
    have ih := joined_snoc (b :: l) s (by simp)
    show a ++ 32 :: 59 :: 32 :: joined ((b :: l) ++ [s]) = (a ++ 32 :: 59 :: 32 :: joined (b :: l)) ++ 32 :: 59 :: 32 :: s
    rw [ih]
    simp
theorem joined_ne : ∀ (l : List Bytes), l ≠ [] → (∀ s ∈ l, s ≠ []) → joined l ≠ []
  | [], h, _ => absurd rfl h
  | [a], _, h => h a (by simp)
  | a :: b :: l, _, h => by
    intro e
    have e : a ++ 32 :: 59 :: 32 :: joined (b :: l) = [] := e
    exact h a (by simp) (List.append_eq_nil_iff.1 e).1
theorem rgroup_from : ∀ (cs : List Cmd) (l : List Bytes), (∀ s ∈ l, s ≠ []) → cs.foldl rstep (joined l) = joined (l ++ (cs.map one).filter (· ≠ []))
  | [], l, _ => by simp
  | c :: cs, l, h => by
    rw [List.foldl_cons, List.map_cons]
    by_cases h1 : one c = []
    · have e : rstep (joined l) c = joined l := by simp [rstep, h1]
      rw [e, rgroup_from cs l h]
      simp [h1]
    · have e : rstep (joined l) c = joined (l ++ [one c]) := by
        by_cases hl : l = []
        · subst hl
          simp [rstep, joined]
        · rw [joined_snoc l _ hl, rstep, if_pos ⟨h1, joined_ne l hl h⟩]
          simp
      rw [e, rgroup_from cs (l ++ [one c]) fun s hs => by
        rcases List.mem_append.1 hs with hs | hs
        · exact h s hs
        · rw [List.mem_singleton.1 hs]; exact h1]
      simp [h1]
theorem rgroup_is (cs : List Cmd) : rgroup cs = joined ((cs.map one).filter (· ≠ [])) := by
  have := rgroup_from cs [] fun s hs => (List.not_mem_nil hs).elim
  simpa [rgroup, joined] using this
theorem rprint_is (G : List (List Cmd)) : rprint G = print G := by
  unfold rprint print
  congr 1
  funext cs
  rw [rgroup_is, printG]
  by_cases h : (cs.map one).filter (· ≠ []) = []
  · rw [if_pos h, h, if_neg (by simp [joined])]
  · rw [if_neg h, if_pos (joined_ne _ h fun s hs => by simpa using (List.mem_filter.1 hs).2)]
end Px
end Go.Proofs.YtiopaenonjhlnaaGreatDoor
namespace Go.Proofs.YtiopaenonjhlnaaGreatDoor
namespace Px
open Lx (Bytes)

def costF (l : List Fl) : Nat := (l.map fun f => f.2.length + 3).sum
def costA (l : List Bytes) : Nat := (l.map fun s => s.length + 1).sum
def costC (c : Cmd) : Nat := c.name.length + costF c.flags + costA c.args + 5
def costG (cs : List Cmd) : Nat := (cs.map costC).sum + 1
def costZ (G : List (List Cmd)) : Nat := (G.map costG).sum
theorem sum_mem {α : Type} (g : α → Nat) : ∀ {l : List α} {x : α}, x ∈ l → g x ≤ (l.map g).sum
  | [], _, h => (List.not_mem_nil h).elim
  | y :: l, x, h => by
    rw [List.map_cons, List.sum_cons]
    rcases List.mem_cons.1 h with rfl | h
    · omega
    · have := sum_mem g h
      omega
theorem sum_len {α : Type} (g : α → Nat) (k : Nat) : ∀ (l : List α), (∀ x ∈ l, k ≤ g x) → l.length * k ≤ (l.map g).sum
  | [], _ => by simp
  | y :: l, h => by
    rw [List.map_cons, List.sum_cons, List.length_cons, Nat.succ_mul]
    have := h y (by simp)
    have := sum_len g k l fun x hx => h x (List.mem_cons_of_mem _ hx)
    omega
theorem flat_cost {α : Type} (f : α → Bytes) (g : α → Nat) (K : Nat) : ∀ (l : List α), (∀ x ∈ l, (f x).length ≤ K * g x) → (l.flatMap f).length ≤ K * (l.map g).sum
  | [], _ => by simp
  | y :: l, h => by
    rw [List.map_cons, List.sum_cons, List.flatMap_cons, List.length_append, Nat.mul_add]
    have := h y (by simp)
    have := flat_cost f g K l fun x hx => h x (List.mem_cons_of_mem _ hx)
    omega
theorem wquote_cost (s : Bytes) : (Lx.wquote s).length ≤ 2 * s.length + 2 := by
  unfold Lx.wquote
  have := Lx.wesc_length s
  split
  · omega
  · split
    · simp only [List.length_cons, List.length_append, List.length_nil]
      omega
    · simp only [List.length_cons, List.length_append, List.length_nil]
      omega
theorem oneF_cost (r : Row) (f : Fl) : (oneF r f).length ≤ 3 * (f.2.length + 3) := by
  have := wquote_cost f.2
  unfold oneF
  rw [List.length_append]
  split
  · simp only [List.length_cons, List.length_nil]; omega
  · simp only [List.length_cons, List.length_nil]; omega
theorem oneA_cost (a : Bytes) : (oneA a).length ≤ 3 * (a.length + 1) := by
  have := wquote_cost a
  simp only [oneA, List.length_cons]
  omega
theorem dashes_cost (l : List Bytes) : (dashes l).length ≤ 3 := by
  cases l with
  | nil => exact Nat.zero_le _
  | cons a l =>
    simp only [dashes]
    split <;> simp
theorem one_cost (c : Cmd) : (one c).length ≤ 3 * costC c := by
  unfold one
  split
  · have h1 := flat_cost (oneF ((whole c.name).getD ⟨[], [], [], 0, 0⟩)) (fun f : Fl => f.2.length + 3) 3 c.flags fun f _ => oneF_cost _ f
    have h2 := flat_cost oneA (fun a : Bytes => a.length + 1) 3 c.args fun a _ => oneA_cost a
    have h3 := dashes_cost c.args
    unfold costC costF costA
    rw [List.length_append, List.length_append, List.length_append]
    omega
  · exact Nat.zero_le _
theorem joined_cost : ∀ (cs : List Cmd), (joined ((cs.map one).filter (· ≠ []))).length ≤ 4 * (cs.map costC).sum
  | [] => Nat.zero_le _
  | c :: cs => by
    have ih := joined_cost cs
    have h1 := one_cost c
    have h2 : 5 ≤ costC c := by unfold costC; omega
    rw [List.map_cons, List.map_cons, List.sum_cons, List.filter_cons]
    split
    · generalize (cs.map one).filter (· ≠ []) = L at ih ⊢
      cases L with
      | nil =>
        show (one c).length ≤ _
        omega
      | cons a L =>
        show (one c ++ 32 :: 59 :: 32 :: joined (a :: L)).length ≤ _
        rw [List.length_append]
        simp only [List.length_cons]
        omega
    · omega
theorem printG_cost (cs : List Cmd) : (printG cs).length ≤ 5 * costG cs := by
  have := joined_cost cs
  unfold printG costG
  split
  · exact Nat.zero_le _
  · rw [List.length_append, List.length_singleton]
    omega
theorem print_cost (G : List (List Cmd)) : (print G).length ≤ 5 * costZ G := flat_cost printG costG 5 G fun cs _ => printG_cost cs
/-- of commands of small bulk nothing is too great -/
theorem costF_len (l : List Fl) : l.length * 3 ≤ costF l ∧ ∀ f ∈ l, f.2.length + 3 ≤ costF l :=
  ⟨sum_len _ 3 l fun f _ => by omega, fun _ hf => sum_mem (fun f : Fl => f.2.length + 3) hf⟩
theorem costA_len (l : List Bytes) : l.length ≤ costA l ∧ ∀ a ∈ l, a.length + 1 ≤ costA l :=
  ⟨by have := sum_len (fun s : Bytes => s.length + 1) 1 l fun f _ => by omega
      unfold costA
      omega, fun _ hf => sum_mem (fun s : Bytes => s.length + 1) hf⟩
theorem costZ_len (G : List (List Cmd)) : G.length ≤ costZ G ∧ ∀ cs ∈ G, cs.length * 5 + 1 ≤ costZ G ∧ ∀ c ∈ cs, costC c ≤ costZ G := by
  refine ⟨?_, fun cs hcs => ?_⟩
  · have := sum_len costG 1 G fun cs _ => by unfold costG; omega
    unfold costZ
    omega
  · have h1 : costG cs ≤ costZ G := sum_mem costG hcs
    have h2 := sum_len costC 5 cs fun c _ => by unfold costC; omega
    have e : costG cs = (cs.map costC).sum + 1 := rfl
    exact ⟨by omega, fun c hc => by have : costC c ≤ (cs.map costC).sum := sum_mem costC hc; omega⟩
end Px
end Go.Proofs.YtiopaenonjhlnaaGreatDoor
