/- What package parse computes, as plain functions on lists of bytes: the table of commands, which one a text means, what a flag takes. No program. What package parse makes of words: flags, in order, and the rest; a command. Plain functions; no program. What package parse makes of a text's commands: conditions, groups. Plain functions; no program. X: what format.Expand makes of a condition: its text and its error. Flags in a map and as a list in order: a map by letters that holds what the list holds; what a range over the map has collected. No program. Plain facts on the table of commands, for the document's answer: a row's other names are parted by blanks; the names are in order. No program. -/
import Derived.Test.YtiopaenonjhlnaaGreatDoorLexPure
import Derived.Lib.Fields
import Derived.Maps.Views
import Derived.Maps.Own
import Derived.Maps.StringElems
namespace Go.Proofs.YtiopaenonjhlnaaGreatDoor
namespace Px
open Lx (Bytes)

structure Row where
  name : Bytes
  others : Bytes
  flags : Bytes
  few : Int
  most : Int
  deriving DecidableEq
def table : List Row := [
  ⟨[97, 116, 116, 97, 99, 104, 45, 115, 101, 115, 115, 105, 111, 110], [97, 116, 116, 97, 99, 104], [100, 116, 58], 0, 0⟩,
  ⟨[98, 105, 110, 100, 45, 107, 101, 121], [98, 105, 110, 100], [110, 114, 78, 58, 84, 58], 1, -1⟩,
  ⟨[98, 114, 101, 97, 107, 45, 112, 97, 110, 101], [98, 114, 101, 97, 107, 112], [100, 110, 58, 115, 58, 116, 58], 0, 0⟩,
  ⟨[99, 97, 112, 116, 117, 114, 101, 45, 112, 97, 110, 101], [99, 97, 112, 116, 117, 114, 101, 112], [112, 98, 58, 83, 58, 69, 58, 116, 58], 0, 0⟩,
  ⟨[99, 108, 101, 97, 114, 45, 104, 105, 115, 116, 111, 114, 121], [99, 108, 101, 97, 114, 104, 105, 115, 116], [116, 58], 0, 0⟩,
  ⟨[99, 111, 112, 121, 45, 109, 111, 100, 101], [], [113, 116, 58], 0, 0⟩,
  ⟨[100, 101, 108, 101, 116, 101, 45, 98, 117, 102, 102, 101, 114], [100, 101, 108, 101, 116, 101, 98], [98, 58], 0, 0⟩,
  ⟨[100, 101, 116, 97, 99, 104, 45, 99, 108, 105, 101, 110, 116], [100, 101, 116, 97, 99, 104], [97, 115, 58, 116, 58], 0, 0⟩,
  ⟨[100, 105, 115, 112, 108, 97, 121, 45, 109, 101, 115, 115, 97, 103, 101], [100, 105, 115, 112, 108, 97, 121], [112, 116, 58], 0, 1⟩,
  ⟨[102, 105, 110, 100, 45, 119, 105, 110, 100, 111, 119], [102, 105, 110, 100, 119], [116, 58], 1, 1⟩,
  ⟨[104, 97, 115, 45, 115, 101, 115, 115, 105, 111, 110], [104, 97, 115], [116, 58], 0, 0⟩,
  ⟨[105, 102, 45, 115, 104, 101, 108, 108], [105, 102], [98, 70, 116, 58], 2, 3⟩,
  ⟨[106, 111, 105, 110, 45, 112, 97, 110, 101], [106, 111, 105, 110, 112, 32, 109, 111, 118, 101, 45, 112, 97, 110, 101], [98, 100, 104, 115, 58, 116, 58, 108, 58], 0, 0⟩,
  ⟨[107, 105, 108, 108, 45, 112, 97, 110, 101], [107, 105, 108, 108, 112], [97, 116, 58], 0, 0⟩,
  ⟨[107, 105, 108, 108, 45, 115, 101, 114, 118, 101, 114], [], [], 0, 0⟩,
  ⟨[107, 105, 108, 108, 45, 115, 101, 115, 115, 105, 111, 110], [], [97, 116, 58], 0, 0⟩,
  ⟨[107, 105, 108, 108, 45, 119, 105, 110, 100, 111, 119], [107, 105, 108, 108, 119], [97, 116, 58], 0, 0⟩,
  ⟨[108, 97, 115, 116, 45, 112, 97, 110, 101], [108, 97, 115, 116, 112], [116, 58], 0, 0⟩,
  ⟨[108, 97, 115, 116, 45, 119, 105, 110, 100, 111, 119], [108, 97, 115, 116], [116, 58], 0, 0⟩,
  ⟨[108, 105, 110, 107, 45, 119, 105, 110, 100, 111, 119], [108, 105, 110, 107, 119], [115, 58, 116, 58], 0, 0⟩,
  ⟨[108, 105, 115, 116, 45, 98, 117, 102, 102, 101, 114, 115], [108, 115, 98], [70, 58], 0, 0⟩,
  ⟨[108, 105, 115, 116, 45, 99, 108, 105, 101, 110, 116, 115], [108, 115, 99], [70, 58, 116, 58], 0, 0⟩,
  ⟨[108, 105, 115, 116, 45, 99, 111, 109, 109, 97, 110, 100, 115], [108, 115, 99, 109], [], 0, 1⟩,
  ⟨[108, 105, 115, 116, 45, 107, 101, 121, 115], [108, 115, 107], [84, 58], 0, 0⟩,
  ⟨[108, 105, 115, 116, 45, 112, 97, 110, 101, 115], [108, 115, 112], [97, 70, 58, 115, 116, 58], 0, 0⟩,
  ⟨[108, 105, 115, 116, 45, 115, 101, 115, 115, 105, 111, 110, 115], [108, 115], [70, 58], 0, 0⟩,
  ⟨[108, 105, 115, 116, 45, 119, 105, 110, 100, 111, 119, 115], [108, 115, 119], [97, 70, 58, 116, 58], 0, 0⟩,
  ⟨[108, 111, 97, 100, 45, 98, 117, 102, 102, 101, 114], [108, 111, 97, 100, 98], [98, 58], 1, 1⟩,
  ⟨[109, 111, 118, 101, 45, 119, 105, 110, 100, 111, 119], [109, 111, 118, 101, 119], [115, 58, 116, 58], 0, 0⟩,
  ⟨[110, 101, 119, 45, 115, 101, 115, 115, 105, 111, 110], [110, 101, 119], [65, 100, 110, 58, 115, 58, 120, 58, 121, 58], 0, 0⟩,
  ⟨[110, 101, 119, 45, 119, 105, 110, 100, 111, 119], [110, 101, 119, 119], [97, 100, 110, 58, 116, 58], 0, 1⟩,
  ⟨[110, 101, 120, 116, 45, 108, 97, 121, 111, 117, 116], [110, 101, 120, 116, 108], [116, 58], 0, 0⟩,
  ⟨[110, 101, 120, 116, 45, 119, 105, 110, 100, 111, 119], [110, 101, 120, 116], [97, 116, 58], 0, 0⟩,
  ⟨[112, 97, 115, 116, 101, 45, 98, 117, 102, 102, 101, 114], [112, 97, 115, 116, 101, 98], [100, 98, 58, 112, 116, 58], 0, 0⟩,
  ⟨[112, 114, 101, 118, 105, 111, 117, 115, 45, 119, 105, 110, 100, 111, 119], [112, 114, 101, 118], [97, 116, 58], 0, 0⟩,
  ⟨[114, 101, 102, 114, 101, 115, 104, 45, 99, 108, 105, 101, 110, 116], [114, 101, 102, 114, 101, 115, 104], [116, 58], 0, 0⟩,
  ⟨[114, 101, 110, 97, 109, 101, 45, 115, 101, 115, 115, 105, 111, 110], [114, 101, 110, 97, 109, 101], [116, 58], 1, 1⟩,
  ⟨[114, 101, 110, 97, 109, 101, 45, 119, 105, 110, 100, 111, 119], [114, 101, 110, 97, 109, 101, 119], [116, 58], 1, 1⟩,
  ⟨[114, 101, 115, 105, 122, 101, 45, 112, 97, 110, 101], [114, 101, 115, 105, 122, 101, 112], [68, 76, 82, 85, 90, 116, 58, 120, 58, 121, 58], 0, 1⟩,
  ⟨[114, 101, 115, 105, 122, 101, 45, 119, 105, 110, 100, 111, 119], [114, 101, 115, 105, 122, 101, 119], [116, 58, 120, 58, 121, 58], 0, 0⟩,
  ⟨[114, 111, 116, 97, 116, 101, 45, 119, 105, 110, 100, 111, 119], [114, 111, 116, 97, 116, 101, 119], [68, 85, 116, 58], 0, 0⟩,
  ⟨[114, 117, 110, 45, 115, 104, 101, 108, 108], [114, 117, 110], [98, 116, 58], 1, 1⟩,
  ⟨[115, 97, 118, 101, 45, 98, 117, 102, 102, 101, 114], [115, 97, 118, 101, 98], [98, 58], 1, 1⟩,
  ⟨[115, 101, 108, 101, 99, 116, 45, 108, 97, 121, 111, 117, 116], [115, 101, 108, 101, 99, 116, 108], [116, 58], 0, 1⟩,
  ⟨[115, 101, 108, 101, 99, 116, 45, 112, 97, 110, 101], [115, 101, 108, 101, 99, 116, 112], [68, 76, 82, 85, 108, 109, 77, 116, 58], 0, 0⟩,
  ⟨[115, 101, 108, 101, 99, 116, 45, 119, 105, 110, 100, 111, 119], [115, 101, 108, 101, 99, 116, 119], [108, 110, 112, 116, 58], 0, 0⟩,
  ⟨[115, 101, 110, 100, 45, 107, 101, 121, 115], [115, 101, 110, 100], [108, 88, 116, 58], 0, -1⟩,
  ⟨[115, 101, 110, 100, 45, 112, 114, 101, 102, 105, 120], [], [116, 58], 0, 0⟩,
  ⟨[115, 101, 116, 45, 98, 117, 102, 102, 101, 114], [115, 101, 116, 98], [98, 58], 1, 1⟩,
  ⟨[115, 101, 116, 45, 101, 110, 118, 105, 114, 111, 110, 109, 101, 110, 116], [115, 101, 116, 101, 110, 118], [117, 103, 116, 58], 1, 2⟩,
  ⟨[115, 101, 116, 45, 104, 111, 111, 107], [], [117], 1, 2⟩,
  ⟨[115, 101, 116, 45, 111, 112, 116, 105, 111, 110], [115, 101, 116], [97, 103, 112, 113, 115, 116, 58, 117, 119], 1, 2⟩,
  ⟨[115, 104, 111, 119, 45, 98, 117, 102, 102, 101, 114], [115, 104, 111, 119, 98], [98, 58], 0, 0⟩,
  ⟨[115, 104, 111, 119, 45, 101, 110, 118, 105, 114, 111, 110, 109, 101, 110, 116], [115, 104, 111, 119, 101, 110, 118], [103, 116, 58], 0, 1⟩,
  ⟨[115, 104, 111, 119, 45, 104, 111, 111, 107, 115], [], [], 0, 1⟩,
  ⟨[115, 104, 111, 119, 45, 111, 112, 116, 105, 111, 110, 115], [115, 104, 111, 119], [103, 112, 115, 116, 58, 118, 119], 0, 1⟩,
  ⟨[115, 111, 117, 114, 99, 101, 45, 102, 105, 108, 101], [115, 111, 117, 114, 99, 101], [113], 1, 1⟩,
  ⟨[115, 112, 108, 105, 116, 45, 119, 105, 110, 100, 111, 119], [115, 112, 108, 105, 116, 119], [98, 100, 104, 108, 58, 116, 58, 118], 0, 1⟩,
  ⟨[115, 116, 97, 114, 116, 45, 115, 101, 114, 118, 101, 114], [115, 116, 97, 114, 116], [], 0, 0⟩,
  ⟨[115, 119, 97, 112, 45, 112, 97, 110, 101], [115, 119, 97, 112, 112], [100, 115, 58, 116, 58, 85, 68], 0, 0⟩,
  ⟨[115, 119, 97, 112, 45, 119, 105, 110, 100, 111, 119], [115, 119, 97, 112, 119], [115, 58, 116, 58], 0, 0⟩,
  ⟨[115, 119, 105, 116, 99, 104, 45, 99, 108, 105, 101, 110, 116], [115, 119, 105, 116, 99, 104, 99], [99, 58, 108, 110, 112, 116, 58, 84, 58], 0, 0⟩,
  ⟨[117, 110, 98, 105, 110, 100, 45, 107, 101, 121], [117, 110, 98, 105, 110, 100], [97, 84, 58], 0, 1⟩,
  ⟨[117, 110, 108, 105, 110, 107, 45, 119, 105, 110, 100, 111, 119], [117, 110, 108, 105, 110, 107, 119], [107, 116, 58], 0, 0⟩,
  ⟨[119, 97, 105, 116, 45, 102, 111, 114], [119, 97, 105, 116], [76, 83, 85], 1, 1⟩]

def alts (r : Row) : List Bytes := Lib.fields r.others
/-- the row that a text means: l, those that it begins -/
def foundIn (s : Bytes) : List Row → List Row → Option Row
  | [], l => match l with
    | [r] => some r
    | _ => none
  | r :: rs, l => if r.name = s ∨ s ∈ alts r then some r else foundIn s rs (if s ≠ [] ∧ s.isPrefixOf r.name = true then l ++ [r] else l)
def found (s : Bytes) : Option Row := foundIn s table []
def wholeIn (s : Bytes) : List Row → Option Row
  | [] => none
  | r :: rs => if r.name = s then some r else wholeIn s rs
def whole (s : Bytes) : Option Row := wholeIn s table
/-- whether a command has a flag; whether something goes with it -/
def takesIn (c : UInt8) : Bytes → Option Bool
  | [] => none
  | x :: r => if x = c then some (r.head? = some 58) else takesIn c r
def takes (r : Row) (c : UInt8) : Option Bool := if c = 58 then none else takesIn c r.flags
end Px
end Go.Proofs.YtiopaenonjhlnaaGreatDoor
namespace Go.Proofs.YtiopaenonjhlnaaGreatDoor
namespace Px
open Lx (Bytes)

/-- a word: its text, its line, whether it is a block -/
structure PW where
  text : Bytes
  line : Int
  block : Bool
  deriving DecidableEq
def ofW (x : Lx.W) : PW := ⟨x.text, x.line, x.block⟩
abbrev Fl := UInt8 × Bytes
/-- a flag is put into its place; one that is there has the value then -/
def putF (f : Fl) : List Fl → List Fl
  | [] => [f]
  | g :: l => if f.1 < g.1 then f :: g :: l else if f.1 = g.1 then f :: l else g :: putF f l
/-- the letters of one word: the words behind, the flags -/
def letters (r : Row) : Bytes → List PW → List Fl → Option (List PW × List Fl)
  | [], l, m => some (l, m)
  | c :: t, l, m => match takes r c with
    | none => none
    | some false => letters r t l (putF (c, []) m)
    | some true => match t with
      | [] => match l with
        | [] => none
        | x :: l' => some (l', putF (c, x.text) m)
      | u :: t' => some (l, putF (c, u :: t') m)
/-- is a word one of flags? -/
def isFlag (x : PW) : Bool := !x.block && decide (1 < x.text.length) && x.text.head? == some 45
def flagsN (r : Row) : Nat → List PW → List Fl → Option (List PW × List Fl)
  | 0, l, m => some (l, m)
  | _, [], m => some ([], m)
  | n + 1, x :: l, m => if isFlag x then
      if x.text.tail = [45] then some (l, m)
      else match letters r x.text.tail l m with
        | none => none
        | some (l', m') => flagsN r n l' m'
    else some (x :: l, m)
def flags (r : Row) (l : List PW) : Option (List PW × List Fl) := flagsN r (l.length + 1) l []
structure Cmd where
  name : Bytes
  flags : List Fl
  args : List Bytes
  line : Int
  deriving DecidableEq
def words : List PW → Except Int Cmd
  | [] => .error 10
  | x :: l => if x.block then .error 10 else match found x.text with
    | none => .error 10
    | some r => match flags r l with
      | none => .error 9
      | some (rest, m) => if (rest.length : Int) < r.few ∨ (0 ≤ r.most ∧ r.most < rest.length) then .error 9
        else .ok ⟨r.name, m, rest.map (·.text), x.line⟩

/-! the flags are in order, none twice -/
abbrev Sorted (l : List Fl) : Prop := l.Pairwise fun a b => a.1 < b.1
def at_ (l : List Fl) (c : UInt8) : Option Bytes := (l.find? (fun f => f.1 == c)).map (·.2)
theorem u8_lt {a b : UInt8} : a < b ↔ a.toNat < b.toNat := Iff.rfl
theorem u8_eq {a b : UInt8} : a = b ↔ a.toNat = b.toNat := UInt8.toNat_inj.symm
theorem putF_mem {f g : Fl} : ∀ {l : List Fl}, g ∈ putF f l → g = f ∨ g ∈ l
  | [], h => .inl (by simpa [putF] using h)
  | x :: l, h => by
    simp only [putF] at h
    split at h
    · simpa using h
    · split at h
      · rcases List.mem_cons.1 h with h | h
        · exact .inl h
        · exact .inr (List.mem_cons_of_mem _ h)
      · rcases List.mem_cons.1 h with h | h
        · exact .inr (h ▸ List.mem_cons_self)
        · exact (putF_mem h).imp id (List.mem_cons_of_mem _)
theorem putF_sorted {f : Fl} : ∀ {l : List Fl}, Sorted l → Sorted (putF f l)
  | [], _ => List.pairwise_singleton _ _
  | x :: l, h => by
    rw [Sorted, List.pairwise_cons] at h
    simp only [putF]
    split
    · rename_i hlt
      refine List.pairwise_cons.2 ⟨fun b hb => ?_, List.pairwise_cons.2 h⟩
      rcases List.mem_cons.1 hb with rfl | hb
      · exact hlt
      · have := h.1 b hb
        rw [u8_lt] at *; omega
    · split
      · rename_i heq
        exact List.pairwise_cons.2 ⟨fun b hb => by rw [heq]; exact h.1 b hb, h.2⟩
      · rename_i h1 h2
        refine List.pairwise_cons.2 ⟨fun b hb => ?_, putF_sorted h.2⟩
        rcases putF_mem hb with rfl | hb
        · rw [u8_lt] at *; rw [u8_eq] at h2; omega
        · exact h.1 b hb
theorem at_putF (f : Fl) (c : UInt8) : ∀ {l : List Fl}, Sorted l → at_ (putF f l) c = if f.1 = c then some f.2 else at_ l c
  | [], _ => by
    simp only [putF, at_, List.find?_cons, List.find?_nil]
    by_cases e : f.1 = c
    · simp [e]
    · rw [beq_false_of_ne e]; simp [e]
  | x :: l, h => by
    rw [Sorted, List.pairwise_cons] at h
    have ih := at_putF f c h.2
    simp only [putF]
    split
    · simp only [at_, List.find?_cons]
      by_cases e : f.1 = c
      · simp [e]
      · rw [beq_false_of_ne e]; simp [e]
    · split
      · rename_i heq
        simp only [at_, List.find?_cons]
        by_cases e : f.1 = c
        · simp [e]
        · have : ¬ x.1 = c := by rw [← heq]; exact e
          rw [beq_false_of_ne e, beq_false_of_ne this]; simp [e]
      · rename_i h2
        simp only [at_, List.find?_cons] at ih ⊢
        by_cases e : x.1 = c
        · have : ¬ f.1 = c := by rw [← e]; exact h2
          simp [e, this]
        · have e2 : (x.1 == c) = false := by simp [e]
          rw [e2]
          exact ih
theorem at_mem {c : UInt8} {v : Bytes} : ∀ {l : List Fl}, Sorted l → (at_ l c = some v ↔ (c, v) ∈ l)
  | [], _ => by simp [at_]
  | x :: l, h => by
    rw [Sorted, List.pairwise_cons] at h
    have ih := at_mem (c := c) (v := v) h.2
    simp only [at_, List.find?_cons] at ih ⊢
    by_cases e : x.1 = c
    · simp only [e, beq_self_eq_true, Option.map_some, Option.some.injEq, List.mem_cons]
      constructor
      · rintro rfl; exact .inl (by rw [← e])
      · rintro (rfl | hm)
        · rfl
        · have hlt : x.1 < c := h.1 _ hm
          rw [e] at hlt
          exact absurd hlt (UInt8.lt_irrefl c)
    · have e2 : (x.1 == c) = false := by simp [e]
      rw [e2, ih, List.mem_cons]
      constructor
      · exact .inr
      · rintro (rfl | hm)
        · exact absurd rfl e
        · exact hm
theorem letters_sorted {r : Row} : ∀ {t : Bytes} {l : List PW} {m : List Fl} {l' : List PW} {m' : List Fl}, Sorted m → letters r t l m = some (l', m') → Sorted m'
  | [], l, m, l', m', hm, h => by simp [letters] at h; exact h.2 ▸ hm
  | c :: t, l, m, l', m', hm, h => by
    simp only [letters] at h
    split at h
    · cases h
    · exact letters_sorted (putF_sorted hm) h
    · split at h
      · split at h
        · cases h
        · simp at h; exact h.2 ▸ putF_sorted hm
      · simp at h; exact h.2 ▸ putF_sorted hm
theorem flagsN_sorted {r : Row} : ∀ {n : Nat} {l : List PW} {m : List Fl} {l' : List PW} {m' : List Fl}, Sorted m → flagsN r n l m = some (l', m') → Sorted m'
  | 0, l, m, l', m', hm, h => by simp [flagsN] at h; exact h.2 ▸ hm
  | n + 1, [], m, l', m', hm, h => by simp [flagsN] at h; exact h.2 ▸ hm
  | n + 1, x :: l, m, l', m', hm, h => by
    simp only [flagsN] at h
    split at h
    · split at h
      · simp at h; exact h.2 ▸ hm
      · split at h
        · cases h
        · rename_i e
          exact flagsN_sorted (letters_sorted hm e) h
    · simp at h; exact h.2 ▸ hm
theorem letters_len {r : Row} : ∀ {t : Bytes} {l : List PW} {m : List Fl} {l' : List PW} {m' : List Fl}, letters r t l m = some (l', m') → l'.length ≤ l.length
  | [], l, m, l', m', h => by simp [letters] at h; rw [h.1]; exact Nat.le_refl _
  | c :: t, l, m, l', m', h => by
    simp only [letters] at h
    split at h
    · cases h
    · exact letters_len h
    · split at h
      · split at h
        · cases h
        · simp at h; rw [← h.1]; simp
      · simp at h; rw [h.1]; exact Nat.le_refl _
theorem putF_len (f : Fl) : ∀ {l : List Fl}, Sorted l → (putF f l).length = if (at_ l f.1).isSome then l.length else l.length + 1
  | [], _ => rfl
  | x :: l, h => by
    have h0 := h
    rw [Sorted, List.pairwise_cons] at h
    have ih := putF_len f h.2
    simp only [putF]
    split
    · rename_i hlt
      have hn : at_ (x :: l) f.1 = none := by
        simp only [at_, Option.map_eq_none_iff, List.find?_eq_none]
        intro g hg
        rcases List.mem_cons.1 hg with rfl | hg
        · simp only [beq_iff_eq]; intro e; rw [e] at hlt; exact UInt8.lt_irrefl _ hlt
        · have := h.1 g hg
          simp only [beq_iff_eq]; intro e; rw [e] at this; rw [u8_lt] at *; omega
      rw [hn]
      simp
    · split
      · rename_i heq
        simp [at_, heq]
      · rename_i h2
        have e2 : (x.1 == f.1) = false := beq_false_of_ne fun e => h2 e.symm
        have : at_ (x :: l) f.1 = at_ l f.1 := by simp only [at_, List.find?_cons, e2]
        rw [this, List.length_cons, ih, List.length_cons]
        split <;> rfl
theorem sorted_from : ∀ {l : List Fl} (k : Nat), Sorted l → (∀ f ∈ l, k ≤ f.1.toNat) → k ≤ 256 → l.length + k ≤ 256
  | [], k, _, _, hk => by simpa using hk
  | x :: l, k, h, hf, _ => by
    rw [Sorted, List.pairwise_cons] at h
    have hx := hf x List.mem_cons_self
    have hb := x.1.toNat_lt
    have := sorted_from (x.1.toNat + 1) h.2 (fun f hm => by have := h.1 f hm; rw [u8_lt] at this; omega) (by omega)
    rw [List.length_cons]
    omega
theorem sorted_len {l : List Fl} (h : Sorted l) : l.length ≤ 256 := by
  have := sorted_from 0 h (fun _ _ => Nat.zero_le _) (by decide)
  omega
theorem flagsN_fuel {r : Row} : ∀ (n k : Nat) (l : List PW) (m : List Fl), l.length ≤ n → l.length ≤ k → flagsN r n l m = flagsN r k l m
  | 0, 0, l, m, _, _ => rfl
  | 0, k + 1, [], m, _, _ => rfl
  | n + 1, 0, [], m, _, _ => rfl
  | 0, k + 1, x :: l, m, h, _ => absurd h (by simp)
  | n + 1, 0, x :: l, m, _, h => absurd h (by simp)
  | n + 1, k + 1, [], m, _, _ => rfl
  | n + 1, k + 1, x :: l, m, hn, hk => by
    simp only [flagsN]
    split
    · split
      · rfl
      · cases he : letters r x.text.tail l m with
        | none => rfl
        | some y =>
          have hl := letters_len (l' := y.1) (m' := y.2) he
          simp only [List.length_cons] at hn hk
          exact flagsN_fuel n k y.1 y.2 (by omega) (by omega)
    · rfl
/-- two lists in order that hold the same are one -/
theorem sorted_ext {a b : List Fl} (ha : Sorted a) (hb : Sorted b) (h : ∀ x, x ∈ a ↔ x ∈ b) : a = b := by
  have nd : ∀ {l : List Fl}, Sorted l → l.Nodup := fun hl => hl.imp fun {x y} hlt e => by rw [e, u8_lt] at hlt; omega
  exact ((List.perm_ext_iff_of_nodup (nd ha) (nd hb)).2 h).eq_of_pairwise (fun x y _ _ h1 h2 => by rw [u8_lt] at h1 h2; omega) ha hb
end Px
end Go.Proofs.YtiopaenonjhlnaaGreatDoor
namespace Go.Proofs.YtiopaenonjhlnaaGreatDoor
namespace Px
open Lx (Bytes)

/-- a condition that is open -/
structure Cond where
  line : Int
  around : Bool
  now : Bool
  was : Bool
  last : Bool
  deriving DecidableEq
abbrev tIf : Bytes := [37, 105, 102]
abbrev tElif : Bytes := [37, 101, 108, 105, 102]
abbrev tElse : Bytes := [37, 101, 108, 115, 101]
abbrev tEndif : Bytes := [37, 101, 110, 100, 105, 102]
def isDir : List PW → Bool
  | [] => false
  | x :: _ => !x.block && (x.text == tIf || x.text == tElif || x.text == tElse || x.text == tEndif)
def taken (o : List Cond) : Bool := match o.getLast? with
  | none => true
  | some c => c.now
/-- does an expanded text count as so? -/
def isTrue (s : Bytes) : Bool := s != [] && s != [48]
/-- the innermost condition, behind %if, %elif, %else -/
def asked (X : Bytes → Bytes × Int) (word : Bytes) (arg : Bytes) (c : Cond) : Except Int Cond :=
  if c.last then .error 4 else
  let now := c.around && !c.was
  if now && (word == tIf || word == tElif) then
    if (X arg).2 ≠ 0 then .error (X arg).2
    else .ok ⟨c.line, c.around, isTrue (X arg).1, c.was || isTrue (X arg).1, word == tElse⟩
  else .ok ⟨c.line, c.around, now, c.was || now, word == tElse⟩
def setLast (o : List Cond) (c : Cond) : List Cond := o.dropLast ++ [c]
def dirOn (X : Bytes → Bytes × Int) (word : Bytes) (arg : Bytes) (o : List Cond) : Except Int (List Cond) := match o.getLast? with
  | none => .error 4
  | some c => if word = tEndif then .ok o.dropLast else match asked X word arg c with
    | .error e => .error e
    | .ok c' => .ok (setLast o c')
/-- a directive -/
def dir (X : Bytes → Bytes × Int) (l : List PW) (o : List Cond) : Except Int (List Cond) := match l with
  | [] => .error 4
  | x :: r =>
    if (x.text = tIf ∨ x.text = tElif) ∧ r.length = 1 ∨ ¬ (x.text = tIf ∨ x.text = tElif) ∧ r.length = 0 then
      if x.text = tIf then
        if o.length < 16 then dirOn X x.text ((r.map (·.text)).headD []) (o ++ [⟨x.line, taken o, false, false, false⟩]) else .error 13
      else dirOn X x.text ((r.map (·.text)).headD []) o
    else .error 4
abbrev PLn := List PW × Nat
def line0 (l : List PW) : Int := (l.head?.map (·.line)).getD 0
/-- a command is put into the last group, or a new one -/
def putG (out : List (List Cmd)) (c : Cmd) (new : Bool) : List (List Cmd) :=
  if new then out ++ [[c]] else out.dropLast ++ [out.getLast?.getD [] ++ [c]]
def parseL (X : Bytes → Bytes × Int) : List PLn → List Cond → Nat → List (List Cmd) → Except (Int × Int) (List (List Cmd))
  | [], o, _, out => match o.getLast? with
    | none => .ok out
    | some c => .error (4, c.line)
  | l :: ls, o, g, out => if isDir l.1 then match dir X l.1 o with
      | .error e => .error (e, line0 l.1)
      | .ok o' => parseL X ls o' g out
    else if taken o then match words l.1 with
      | .error e => .error (e, line0 l.1)
      | .ok c => if l.2 ≠ g ∨ out = [] then parseL X ls o l.2 (putG out c true) else parseL X ls o g (putG out c false)
    else parseL X ls o g out
def ofLn (l : Lx.Ln) : PLn := (l.1.map ofW, l.2)
def parse (X : Bytes → Bytes × Int) (env : Lx.Env) (s : Bytes) : Except (Int × Int) (List (List Cmd)) := match Lx.split env s with
  | .error x => .error (x.1, x.2)
  | .ok L => parseL X (L.map ofLn) [] 0 []
end Px
end Go.Proofs.YtiopaenonjhlnaaGreatDoor
namespace Go.Proofs.YtiopaenonjhlnaaGreatDoor
open Lx (Bytes)
open Go.Maps (has has_put_same has_put_other atKey_put_same atKey_put_other IsMap)
namespace Px
variable {H : Type}
/-- a letter, as a map's key reads -/
abbrev key (c : UInt8) : Lit := .int .u8 c.toNat
theorem key_inj {a b : UInt8} (h : key a = key b) : a = b := by
  have h2 : (a.toNat : Int) = b.toNat := by injection h
  exact u8_eq.2 (by omega)
theorem key_is (c : UInt8) : WideAt.IsKeyLit (key c) := trivial
/-- the map holds what the list holds -/
def Agree (D : DataW H) (m : List Fl) : Prop := ∀ c : UInt8, has D (key c) = (at_ m c).isSome ∧ ∀ v, at_ m c = some v → ∀ z, D.atKey (key c) z = .lit (.string v)
theorem Agree.start : Agree (.map [] : DataW H) [] := fun _ => ⟨rfl, fun v h => by simp [at_] at h⟩
theorem Agree.put {D : DataW H} {m : List Fl} (h : Agree D m) (hm : Sorted m) (hD : IsMap D) (c : UInt8) (v : Bytes) : Agree (D.put (key c) (.lit (.string v))) (putF (c, v) m) := by
  intro d
  rw [at_putF _ _ hm]
  by_cases e : c = d
  · subst e
    rw [if_pos rfl]
    refine ⟨has_put_same hD (key_is c) _, fun u hu z => ?_⟩
    rw [atKey_put_same hD (key_is c)]
    injection hu with hu
    dsimp only at hu
    rw [hu]
  · have hne : key d ≠ key c := fun q => e (key_inj q).symm
    rw [if_neg e, has_put_other hne]
    exact ⟨(h d).1, fun u hu z => by rw [atKey_put_other hne]; exact (h d).2 u hu z⟩
/-- what a range over the map has met so far: left: what is still to come -/
structure Coll (D : DataW H) (m : List Fl) (left : Lit → Bool) (acc : List Fl) : Prop where
  nodup : acc.Nodup
  mem : ∀ f : Fl, f ∈ acc ↔ f ∈ m ∧ left (key f.1) = false
  sub : ∀ z, left z = true → has D z = true
theorem Coll.start {D : DataW H} {m : List Fl} (h : Agree D m) (hm : Sorted m) : Coll D m (has D) [] :=
  ⟨List.nodup_nil, fun f => ⟨fun q => (List.not_mem_nil q).elim, fun ⟨q, hl⟩ => by
    have := (h f.1).1
    rw [(at_mem hm).2 q, hl] at this
    exact absurd this (by simp)⟩, fun z hz => hz⟩
theorem same_key (a b : UInt8) : (key a).sameKey (key b) = decide (a = b) := by
  by_cases e : a = b
  · subst e
    rw [decide_eq_true rfl]
    show decide _ = true
    simp
  · rw [decide_eq_false e]
    exact Maps.sameKey_ne fun q => e (key_inj q)
theorem Coll.step {D : DataW H} {m : List Fl} {left : Lit → Bool} {acc : List Fl} (hc : Coll D m left acc) (h : Agree D m) (hm : Sorted m) {c : UInt8} {v : Bytes} (hl : left (key c) = true) (hv : ∀ z, D.atKey (key c) z = .lit (.string v)) :
    Coll D m (fun z => left z && !z.sameKey (key c)) (acc ++ [(c, v)]) := by
  have hin : (c, v) ∈ m := by
    have h1 := (h c).1
    rw [hc.sub _ hl] at h1
    obtain ⟨u, hu⟩ := Option.isSome_iff_exists.1 h1.symm
    have h2 := (h c).2 u hu (.map [])
    rw [hv] at h2
    have : v = u := by injection h2 with h3; injection h3
    subst this
    exact (at_mem hm).1 hu
  refine ⟨?_, fun f => ?_, fun z hz => hc.sub z (by simp only [Bool.and_eq_true] at hz; exact hz.1)⟩
  · refine List.nodup_append.2 ⟨hc.nodup, by simp, fun a ha b hb e => ?_⟩
    simp only [List.mem_singleton] at hb
    subst hb e
    have := ((hc.mem _).1 ha).2
    rw [hl] at this; cases this
  · rw [List.mem_append, List.mem_singleton, hc.mem, same_key]
    by_cases e : f.1 = c
    · constructor
      · rintro (⟨_, q⟩ | q)
        · rw [e, hl] at q; cases q
        · subst q; exact ⟨hin, by simp⟩
      · rintro ⟨q, _⟩
        right
        have e1 := (at_mem hm (c := c) (v := f.2)).2 (by rw [← e]; exact q)
        have e2 := (at_mem hm).2 hin
        rw [e1] at e2
        injection e2 with e2
        exact Prod.ext e e2
    · have e2 : ¬ f = (c, v) := fun q => e (by rw [q])
      simp [e, e2]
theorem Coll.perm {D : DataW H} {m : List Fl} {left : Lit → Bool} {acc : List Fl} (hc : Coll D m left acc) (hm : Sorted m) (hl : ∀ z, left z = false) : acc.Perm m := by
  have nd : m.Nodup := hm.imp fun {x y} hlt e => by rw [e, u8_lt] at hlt; omega
  exact (List.perm_ext_iff_of_nodup hc.nodup nd).2 fun f => by rw [hc.mem]; simp [hl]
/-- a list that was sorted by its letters, none of which stands twice: the list in order -/
theorem sorted_of_perm {a m : List Fl} (hp : a.Perm m) (hm : Sorted m) (ha : a.Pairwise fun x y => ¬ y.1 < x.1) : a = m := by
  refine sorted_ext ?_ hm fun x => hp.mem_iff
  have h1 : m.Pairwise (fun x y => x.1 ≠ y.1) := hm.imp fun {x y} hlt e => by rw [e] at hlt; exact UInt8.lt_irrefl _ hlt
  have h2 : a.Pairwise (fun x y => x.1 ≠ y.1) := (hp.pairwise_iff (fun {x y} q => q.symm)).2 h1
  exact (ha.and h2).imp fun {x y} ⟨q1, q2⟩ => by rw [u8_lt] at *; rw [ne_eq, u8_eq] at q2; omega
/-- a map in memory that holds what the list holds -/
structure MapRel (P : Program) (k : TypeId) (R : Value → Option (DataW H × List MemPlace)) (w : World) (M : Nat) (m : List Fl) (D : DataW H) : Prop where
  own : w.ownsMap P k R M m.length D
  agree : Agree D m
  sorted : Sorted m
  size : Maps.size D = m.length
theorem tight {P : Program} {k : TypeId} {R : Value → Option (DataW H × List MemPlace)} {w : World} {M n : Nat} {D : DataW H} (h : w.ownsMap P k R M n D) : w.ownsMap P k R M (Maps.size D) D := by
  obtain ⟨es, clock, hb, F, hs, rfl⟩ := h
  refine ⟨es, clock, hb, F, ?_, rfl⟩
  rw [Maps.size_eq, Go.length_sorted]
  simp
theorem MapRel.put {P : Program} {k : TypeId} {R : Value → Option (DataW H × List MemPlace)} {w w' : World} {M : Nat} {m : List Fl} {D : DataW H} (h : MapRel P k R w M m D) (K : Maps.Keyed P k) {c : UInt8} {v : Bytes}
    (ho : w'.ownsMap P k R M (m.length + 1) (D.put (key c) (.lit (.string v)))) : MapRel P k R w' M (putF (c, v) m) (D.put (key c) (.lit (.string v))) := by
  have hT : Maps.Tidy D := h.own.tidy K
  have hz : Maps.size (D.put (key c) (.lit (.string v))) = (putF (c, v) m).length := by
    rw [Maps.size_put hT, putF_len _ h.sorted, (h.agree c).1, h.size]
  exact ⟨hz ▸ tight ho, h.agree.put h.sorted hT.isMap c v, putF_sorted h.sorted, hz⟩
theorem MapRel.start {P : Program} {k : TypeId} {R : Value → Option (DataW H × List MemPlace)} {w : World} {M : Nat} (h : w.ownsMap P k R M 0 (.map [])) : MapRel P k R w M [] (.map []) := ⟨h, Agree.start, List.Pairwise.nil, rfl⟩
theorem MapRel.few {P : Program} {k : TypeId} {R : Value → Option (DataW H × List MemPlace)} {w : World} {M : Nat} {m : List Fl} {D : DataW H} (h : MapRel P k R w M m D) : m.length ≤ 256 := sorted_len h.sorted
theorem MapRel.kept {P : Program} {k : TypeId} {R : Value → Option (DataW H × List MemPlace)} {w w' : World} {M : Nat} {m : List Fl} {D : DataW H} (h : MapRel P k R w M m D) (hb : w'.heap[M]? = w.heap[M]?) : MapRel P k R w' M m D := by
  obtain ⟨es, clock, h1, h2⟩ := h.own
  exact ⟨⟨es, clock, hb.trans h1, h2⟩, h.agree, h.sorted, h.size⟩
theorem MapRel.lt {P : Program} {k : TypeId} {R : Value → Option (DataW H × List MemPlace)} {w : World} {M : Nat} {m : List Fl} {D : DataW H} (h : MapRel P k R w M m D) : M < w.heap.size := by
  obtain ⟨es, clock, h1, -⟩ := h.own
  exact (Array.getElem?_eq_some_iff.1 h1).1
end Px
end Go.Proofs.YtiopaenonjhlnaaGreatDoor
namespace Go.Proofs.YtiopaenonjhlnaaGreatDoor
set_option maxRecDepth 8000
namespace Px
open Lx (Bytes)

/-- what stands between blanks -/
def blanksGo : Bytes → Bytes → List Bytes
  | cur, [] => if cur.isEmpty then [] else [cur]
  | cur, b :: l => if b = 32 then (if cur.isEmpty then blanksGo [] l else cur :: blanksGo [] l) else blanksGo (cur ++ [b]) l
def blanks (s : Bytes) : List Bytes := blanksGo [] s
theorem blanks_alts : table.all (fun r => blanks r.others == alts r) = true := by decide +kernel
theorem blanks_is {r : Row} (h : r ∈ table) : blanks r.others = alts r := eq_of_beq (List.all_eq_true.1 blanks_alts r h)
def names : List Bytes := table.map (·.name)
theorem names_len : names.length = 65 := rfl
theorem table_len : table.length = 65 := rfl
theorem names_sorted : names.Pairwise (fun a b => a < b) := by decide +kernel
theorem others_ascii : table.all (fun r => r.others.all (· < 128)) = true := by decide +kernel
theorem alts_few : table.all (fun r => decide ((alts r).length ≤ 2)) = true := by decide +kernel
theorem others_short : table.all (fun r => decide (r.others.length ≤ 20) && decide (r.name.length ≤ 20) && decide (r.flags.length ≤ 20)) = true := by decide +kernel
theorem most_small : table.all (fun r => decide (-1 ≤ r.most) && decide (r.most ≤ 5) && decide (0 ≤ r.few) && decide (r.few ≤ 5)) = true := by decide +kernel
end Px
end Go.Proofs.YtiopaenonjhlnaaGreatDoor
