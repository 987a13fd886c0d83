/- Package parse: texts without directives; when lines fit the walk. What package parse's right and One make of a command. Plain functions; no program. -/
import Derived.Test.YtiopaenonjhlnaaGreatDoorParseWalk
import Derived.Test.YtiopaenonjhlnaaGreatDoorParseLines
import Derived.Test.YtiopaenonjhlnaaGreatDoorLexQuote
namespace Go.Proofs.YtiopaenonjhlnaaGreatDoor
set_option maxRecDepth 8000
open Go.RowKit
open Lx (Bytes)

def nilX : Bytes → Bytes × Int := fun _ => ([], 0)
theorem isDir_nil : Px.isDir [] = false := rfl
/-- texts without directives -/
def NoDir (ls : List Px.PLn) (o : List Px.Cond) : Prop := o = [] ∧ ∀ l ∈ ls, Px.isDir l.1 = false
theorem nodir_inv (sv lv : Value) (X : Bytes → Bytes × Int) : DoInv sv lv X NoDir where
  few := fun ls o h => by rw [h.1]; exact Nat.zero_le _
  skip := fun l ls o h _ _ => ⟨h.1, fun x hx => h.2 x (List.mem_cons_of_mem _ hx)⟩
  spec := fun l ls o h hd => by rw [h.2 l List.mem_cons_self] at hd; cases hd
  step := fun l ls o o' h hd => by rw [h.2 l List.mem_cons_self] at hd; cases hd
theorem fit_of {L : List Lx.Ln} (h : (decide (L.length ≤ 1000) && L.all fun l => !l.1.isEmpty && decide (l.1.length ≤ 256) && l.1.all fun x => decide (x.text.length ≤ 1000)) = true) : Fit L := by
  rw [Bool.and_eq_true, decide_eq_true_eq, List.all_eq_true] at h
  refine ⟨h.1, fun l hl => ?_⟩
  have := h.2 l hl
  simp only [Bool.and_eq_true, Bool.not_eq_true', decide_eq_true_eq, List.all_eq_true] at this
  refine ⟨fun e => ?_, this.1.2, fun x hx => ?_⟩
  · rw [e] at this
    exact absurd this.1.1 (by decide)
  · have := this.2 x hx
    unfold maxLen
    omega
end Go.Proofs.YtiopaenonjhlnaaGreatDoor
namespace Go.Proofs.YtiopaenonjhlnaaGreatDoor
namespace Px
open Lx (Bytes)

/-- may a flag stand behind another letter? -/
def flagOk (r : Row) (p : Option UInt8) (f : Fl) : Bool := (takes r f.1).isSome && ((takes r f.1).getD false || f.2.isEmpty) && match p with
  | none => true
  | some q => decide (q < f.1)
def flagsOk (r : Row) : Option UInt8 → List Fl → Bool
  | _, [] => true
  | p, f :: l => flagOk r p f && flagsOk r (some f.1) l
def fits (r : Row) (n : Nat) : Bool := decide (r.few ≤ n) && (decide (r.most < 0) || decide ((n : Int) ≤ r.most))
/-- may a command be? -/
def right (c : Cmd) : Bool := match whole c.name with
  | none => false
  | some r => fits r c.args.length && flagsOk r none c.flags
/-- the letter ahead of the k-th flag -/
def prev (l : List Fl) (k : Nat) : Option UInt8 := if k = 0 then none else (l[k - 1]?).map (·.1)
theorem flagsOk_step (r : Row) (l : List Fl) (k : Nat) (h : k < l.length) : flagsOk r (prev l k) (l.drop k) = (flagOk r (prev l k) l[k] && flagsOk r (prev l (k + 1)) (l.drop (k + 1))) := by
  have e : prev l (k + 1) = some l[k].1 := by simp [prev, h]
  rw [e, List.drop_eq_getElem_cons h]
  rfl
theorem flagsOk_done (r : Row) (l : List Fl) (k : Nat) (h : l.length ≤ k) (p : Option UInt8) : flagsOk r p (l.drop k) = true := by
  rw [List.drop_eq_nil_of_le h]
  rfl
/-- a flag, written -/
def oneF (r : Row) (f : Fl) : Bytes := [32, 45, f.1] ++ if (takes r f.1).getD false then 32 :: Lx.wquote f.2 else []
def dashes : List Bytes → Bytes
  | [] => []
  | a :: _ => if 1 < a.length ∧ a.head? = some 45 then [32, 45, 45] else []
def oneA (a : Bytes) : Bytes := 32 :: Lx.wquote a
/-- a command, written -/
def one (c : Cmd) : Bytes := if right c then c.name ++ c.flags.flatMap (oneF ((whole c.name).getD ⟨[], [], [], 0, 0⟩)) ++ dashes c.args ++ c.args.flatMap oneA else []
/-! the letters of a right command's flags -/
theorem takesIn_mem {c : UInt8} : ∀ {l : Bytes}, (takesIn c l).isSome = true → c ∈ l
  | [], h => by simp [takesIn] at h
  | x :: l, h => by
    simp only [takesIn] at h
    by_cases e : x = c
    · exact e ▸ List.mem_cons_self
    · rw [if_neg e] at h
      exact List.mem_cons_of_mem _ (takesIn_mem h)
theorem takes_mem {r : Row} {c : UInt8} (h : (takes r c).isSome = true) : c ∈ r.flags := by
  unfold takes at h
  split at h
  · simp at h
  · exact takesIn_mem h
theorem wholeIn_mem {s : Bytes} {r : Row} : ∀ {l : List Row}, wholeIn s l = some r → r ∈ l ∧ r.name = s
  | [], h => by simp [wholeIn] at h
  | x :: l, h => by
    simp only [wholeIn] at h
    split at h
    · rename_i e
      injection h with h
      exact ⟨h ▸ List.mem_cons_self, h ▸ e⟩
    · have := wholeIn_mem h
      exact ⟨List.mem_cons_of_mem _ this.1, this.2⟩
theorem whole_mem {s : Bytes} {r : Row} (h : whole s = some r) : r ∈ table ∧ r.name = s := wholeIn_mem h
theorem table_flags : ∀ r ∈ table, r.flags.length ≤ 20 ∧ r.name.length ≤ 40 ∧ ∀ c ∈ r.flags, c < 128 := by decide +kernel
theorem table_nums : ∀ r ∈ table, 0 ≤ r.few ∧ r.few ≤ 10 ∧ -1 ≤ r.most ∧ r.most ≤ 10 := by decide +kernel
theorem flagsOk_mem {r : Row} : ∀ {l : List Fl} {p : Option UInt8}, flagsOk r p l = true → ∀ f ∈ l, (takes r f.1).isSome = true
  | [], _, _, f, hf => (List.not_mem_nil hf).elim
  | x :: l, p, h, f, hf => by
    simp only [flagsOk, Bool.and_eq_true] at h
    rcases List.mem_cons.1 hf with rfl | hf
    · have := h.1
      simp only [flagOk, Bool.and_eq_true] at this
      exact this.1.1
    · exact flagsOk_mem h.2 f hf
theorem right_row {c : Cmd} (h : right c = true) : ∃ r, whole c.name = some r ∧ r ∈ table ∧ r.name = c.name ∧ ∀ f ∈ c.flags, (takes r f.1).isSome = true ∧ f.1 < 128 := by
  unfold right at h
  split at h
  · cases h
  · rename_i r e
    have hm := whole_mem e
    refine ⟨r, e, hm.1, hm.2, fun f hf => ?_⟩
    rw [Bool.and_eq_true] at h
    have ht := flagsOk_mem h.2 f hf
    exact ⟨ht, (table_flags r hm.1).2.2 _ (takes_mem ht)⟩
end Px
end Go.Proofs.YtiopaenonjhlnaaGreatDoor
