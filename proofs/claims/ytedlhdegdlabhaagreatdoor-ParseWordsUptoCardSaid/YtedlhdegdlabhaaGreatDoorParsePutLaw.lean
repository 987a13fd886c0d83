/- The document's put is putF, on flags in order; the document's Print is Print. No program. How long the text of written commands can be, against the bulk of what they hold. No program. -/
import Derived.Test.YtedlhdegdlabhaaGreatDoorParseBackLaw
namespace Go.Proofs.YtedlhdegdlabhaaGreatDoor
namespace Px
open Lx (Bytes)

/-- the document's put, from a place on: is the flag in already? -/
def rput (f : Fl) : Bool → List Fl → List Fl
  | done, [] => if done then [] else [f]
  | done, x :: l => (if done = false ∧ f.1 ≤ x.1 then [f] else []) ++ (if x.1 = f.1 then [] else [x]) ++ rput f (done || decide (f.1 ≤ x.1)) l
theorem u8_le {a b : UInt8} : a ≤ b ↔ a.toNat ≤ b.toNat := Iff.rfl
theorem rput_done (f : Fl) : ∀ (l : List Fl), (∀ x ∈ l, f.1 < x.1) → rput f true l = l
  | [], _ => rfl
  | x :: l, h => by
    have hx := h x List.mem_cons_self
    have hne : ¬ x.1 = f.1 := fun e => by rw [e, u8_lt] at hx; omega
    simp only [rput, hne, Bool.true_or, if_false]
    rw [rput_done f l fun y hy => h y (List.mem_cons_of_mem _ hy)]
    simp
theorem rput_put (f : Fl) : ∀ (l : List Fl), Sorted l → rput f false l = putF f l
  | [], _ => rfl
  | x :: l, h => by
    rw [Sorted, List.pairwise_cons] at h
    simp only [rput, putF, Bool.false_or]
    by_cases h1 : f.1 < x.1
    · have hle : f.1 ≤ x.1 := by rw [u8_lt] at h1; rw [u8_le]; omega
      have hne : ¬ x.1 = f.1 := fun e => by rw [e, u8_lt] at h1; omega
      rw [if_pos h1, if_pos ⟨trivial, hle⟩, if_neg hne, decide_eq_true hle, rput_done f l fun y hy => by
        have := h.1 y hy
        rw [u8_lt] at *
        omega]
      rfl
    · rw [if_neg h1]
      by_cases h2 : f.1 = x.1
      · have hle : f.1 ≤ x.1 := by rw [u8_le, h2]; omega
        rw [if_pos h2, if_pos ⟨trivial, hle⟩, if_pos h2.symm, decide_eq_true hle, rput_done f l fun y hy => by rw [h2]; exact h.1 y hy]
        rfl
      · have hle : ¬ f.1 ≤ x.1 := by
          rw [u8_lt] at h1
          rw [u8_eq] at h2
          rw [u8_le]
          omega
        rw [if_neg h2, if_neg (fun e => hle e.2), if_neg (fun e => h2 e.symm), decide_eq_false hle, rput_put f l h.2]
        rfl
/-- the document's Print: a group's text so far, one more command -/
def rstep (s : Bytes) (c : Cmd) : Bytes := (if one c ≠ [] ∧ s ≠ [] then s ++ [32, 59, 32] else s) ++ one c
def rgroup (cs : List Cmd) : Bytes := cs.foldl rstep []
def rprint (G : List (List Cmd)) : Bytes := G.flatMap fun cs => if rgroup cs ≠ [] then rgroup cs ++ [10] else []
theorem joined_snoc : ∀ (l : List Bytes) (s : Bytes), l ≠ [] → joined (l ++ [s]) = joined l ++ 32 :: 59 :: 32 :: s
  | [], _, h => absurd rfl h
  | [a], s, _ => rfl
  | a :: b :: l, s, _ => by
    have ih := joined_snoc (b :: l) s (by simp)
    show a ++ 32 :: 59 :: 32 :: joined ((b :: l) ++ [s]) = (a ++ 32 :: 59 :: 32 :: joined (b :: l)) ++ 32 :: 59 :: 32 :: s
    rw [ih]
    simp
theorem joined_ne : ∀ (l : List Bytes), l ≠ [] → (∀ s ∈ l, s ≠ []) → joined l ≠ []
  | [], h, _ => absurd rfl h
  | [a], _, h => h a (by simp)
  | a :: b :: l, _, h => by
    intro e
    have e : a ++ 32 :: 59 :: 32 :: joined (b :: l) = [] := e
    exact h a (by simp) (List.append_eq_nil_iff.1 e).1
theorem rgroup_from : ∀ (cs : List Cmd) (l : List Bytes), (∀ s ∈ l, s ≠ []) → cs.foldl rstep (joined l) = joined (l ++ (cs.map one).filter (· ≠ []))
  | [], l, _ => by simp
  | c :: cs, l, h => by
    rw [List.foldl_cons, List.map_cons]
    by_cases h1 : one c = []
    · have e : rstep (joined l) c = joined l := by simp [rstep, h1]
      rw [e, rgroup_from cs l h]
      simp [h1]
    · have e : rstep (joined l) c = joined (l ++ [one c]) := by
        by_cases hl : l = []
        · subst hl
          simp [rstep, joined]
        · rw [joined_snoc l _ hl, rstep, if_pos ⟨h1, joined_ne l hl h⟩]
          simp
      rw [e, rgroup_from cs (l ++ [one c]) fun s hs => by
        rcases List.mem_append.1 hs with hs | hs
        · exact h s hs
        · rw [List.mem_singleton.1 hs]; exact h1]
      simp [h1]
theorem rgroup_is (cs : List Cmd) : rgroup cs = joined ((cs.map one).filter (· ≠ [])) := by
  have := rgroup_from cs [] fun s hs => (List.not_mem_nil hs).elim
  simpa [rgroup, joined] using this
theorem rprint_is (G : List (List Cmd)) : rprint G = print G := by
  unfold rprint print
  congr 1
  funext cs
  rw [rgroup_is, printG]
  by_cases h : (cs.map one).filter (· ≠ []) = []
  · rw [if_pos h, h, if_neg (by simp [joined])]
  · rw [if_neg h, if_pos (joined_ne _ h fun s hs => by simpa using (List.mem_filter.1 hs).2)]
end Px
end Go.Proofs.YtedlhdegdlabhaaGreatDoor
namespace Go.Proofs.YtedlhdegdlabhaaGreatDoor
namespace Px
open Lx (Bytes)

def costF (l : List Fl) : Nat := (l.map fun f => f.2.length + 3).sum
def costA (l : List Bytes) : Nat := (l.map fun s => s.length + 1).sum
def costC (c : Cmd) : Nat := c.name.length + costF c.flags + costA c.args + 5
def costG (cs : List Cmd) : Nat := (cs.map costC).sum + 1
def costZ (G : List (List Cmd)) : Nat := (G.map costG).sum
theorem sum_mem {α : Type} (g : α → Nat) : ∀ {l : List α} {x : α}, x ∈ l → g x ≤ (l.map g).sum
  | [], _, h => (List.not_mem_nil h).elim
  | y :: l, x, h => by
    rw [List.map_cons, List.sum_cons]
    rcases List.mem_cons.1 h with rfl | h
    · omega
    · have := sum_mem g h
      omega
theorem sum_len {α : Type} (g : α → Nat) (k : Nat) : ∀ (l : List α), (∀ x ∈ l, k ≤ g x) → l.length * k ≤ (l.map g).sum
  | [], _ => by simp
  | y :: l, h => by
    rw [List.map_cons, List.sum_cons, List.length_cons, Nat.succ_mul]
    have := h y (by simp)
    have := sum_len g k l fun x hx => h x (List.mem_cons_of_mem _ hx)
    omega
theorem flat_cost {α : Type} (f : α → Bytes) (g : α → Nat) (K : Nat) : ∀ (l : List α), (∀ x ∈ l, (f x).length ≤ K * g x) → (l.flatMap f).length ≤ K * (l.map g).sum
  | [], _ => by simp
  | y :: l, h => by
    rw [List.map_cons, List.sum_cons, List.flatMap_cons, List.length_append, Nat.mul_add]
    have := h y (by simp)
    have := flat_cost f g K l fun x hx => h x (List.mem_cons_of_mem _ hx)
    omega
theorem wquote_cost (s : Bytes) : (Lx.wquote s).length ≤ 2 * s.length + 2 := by
  unfold Lx.wquote
  have := Lx.wesc_length s
  split
  · omega
  · split
    · simp only [List.length_cons, List.length_append, List.length_nil]
      omega
    · simp only [List.length_cons, List.length_append, List.length_nil]
      omega
theorem oneF_cost (r : Row) (f : Fl) : (oneF r f).length ≤ 3 * (f.2.length + 3) := by
  have := wquote_cost f.2
  unfold oneF
  rw [List.length_append]
  split
  · simp only [List.length_cons, List.length_nil]; omega
  · simp only [List.length_cons, List.length_nil]; omega
theorem oneA_cost (a : Bytes) : (oneA a).length ≤ 3 * (a.length + 1) := by
  have := wquote_cost a
  simp only [oneA, List.length_cons]
  omega
theorem dashes_cost (l : List Bytes) : (dashes l).length ≤ 3 := by
  cases l with
  | nil => exact Nat.zero_le _
  | cons a l =>
    simp only [dashes]
    split <;> simp
theorem one_cost (c : Cmd) : (one c).length ≤ 3 * costC c := by
  unfold one
  split
  · have h1 := flat_cost (oneF ((whole c.name).getD ⟨[], [], [], 0, 0⟩)) (fun f : Fl => f.2.length + 3) 3 c.flags fun f _ => oneF_cost _ f
    have h2 := flat_cost oneA (fun a : Bytes => a.length + 1) 3 c.args fun a _ => oneA_cost a
    have h3 := dashes_cost c.args
    unfold costC costF costA
    rw [List.length_append, List.length_append, List.length_append]
    omega
  · exact Nat.zero_le _
theorem joined_cost : ∀ (cs : List Cmd), (joined ((cs.map one).filter (· ≠ []))).length ≤ 4 * (cs.map costC).sum
  | [] => Nat.zero_le _
  | c :: cs => by
    have ih := joined_cost cs
    have h1 := one_cost c
    have h2 : 5 ≤ costC c := by unfold costC; omega
    rw [List.map_cons, List.map_cons, List.sum_cons, List.filter_cons]
    split
    · generalize (cs.map one).filter (· ≠ []) = L at ih ⊢
      cases L with
      | nil =>
        show (one c).length ≤ _
        omega
      | cons a L =>
        show (one c ++ 32 :: 59 :: 32 :: joined (a :: L)).length ≤ _
        rw [List.length_append]
        simp only [List.length_cons]
        omega
    · omega
theorem printG_cost (cs : List Cmd) : (printG cs).length ≤ 5 * costG cs := by
  have := joined_cost cs
  unfold printG costG
  split
  · exact Nat.zero_le _
  · rw [List.length_append, List.length_singleton]
    omega
theorem print_cost (G : List (List Cmd)) : (print G).length ≤ 5 * costZ G := flat_cost printG costG 5 G fun cs _ => printG_cost cs
/-- of commands of small bulk nothing is too great -/
theorem costF_len (l : List Fl) : l.length * 3 ≤ costF l ∧ ∀ f ∈ l, f.2.length + 3 ≤ costF l :=
  ⟨sum_len _ 3 l fun f _ => by omega, fun _ hf => sum_mem (fun f : Fl => f.2.length + 3) hf⟩
theorem costA_len (l : List Bytes) : l.length ≤ costA l ∧ ∀ a ∈ l, a.length + 1 ≤ costA l :=
  ⟨by have := sum_len (fun s : Bytes => s.length + 1) 1 l fun f _ => by omega
      unfold costA
      omega, fun _ hf => sum_mem (fun s : Bytes => s.length + 1) hf⟩
theorem costZ_len (G : List (List Cmd)) : G.length ≤ costZ G ∧ ∀ cs ∈ G, cs.length * 5 + 1 ≤ costZ G ∧ ∀ c ∈ cs, costC c ≤ costZ G := by
  refine ⟨?_, fun cs hcs => ?_⟩
  · have := sum_len costG 1 G fun cs _ => by unfold costG; omega
    unfold costZ
    omega
  · have h1 : costG cs ≤ costZ G := sum_mem costG hcs
    have h2 := sum_len costC 5 cs fun c _ => by unfold costC; omega
    have e : costG cs = (cs.map costC).sum + 1 := rfl
    exact ⟨by omega, fun c hc => by have : costC c ≤ (cs.map costC).sum := sum_mem costC hc; omega⟩
end Px
end Go.Proofs.YtedlhdegdlabhaaGreatDoor
