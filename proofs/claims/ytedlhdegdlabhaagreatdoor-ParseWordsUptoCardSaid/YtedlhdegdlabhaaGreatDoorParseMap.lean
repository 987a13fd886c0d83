/- Flags in a map and as a list in order: a map by letters that holds what the list holds; what a range over the map has collected. No program. -/
import Derived.Test.YtedlhdegdlabhaaGreatDoorParseLines
import Derived.Maps.Views
import Derived.Maps.Own
import Derived.Maps.StringElems
namespace Go.Proofs.YtedlhdegdlabhaaGreatDoor
open Lx (Bytes)
open Go.Maps (has has_put_same has_put_other atKey_put_same atKey_put_other IsMap)
namespace Px
variable {H : Type}
/-- a letter, as a map's key reads -/
abbrev key (c : UInt8) : Lit := .int .u8 c.toNat
theorem key_inj {a b : UInt8} (h : key a = key b) : a = b := by
  have h2 : (a.toNat : Int) = b.toNat := by injection h
  exact u8_eq.2 (by omega)
theorem key_is (c : UInt8) : WideAt.IsKeyLit (key c) := trivial
/-- the map holds what the list holds -/
def Agree (D : DataW H) (m : List Fl) : Prop := ∀ c : UInt8, has D (key c) = (at_ m c).isSome ∧ ∀ v, at_ m c = some v → ∀ z, D.atKey (key c) z = .lit (.string v)
theorem Agree.start : Agree (.map [] : DataW H) [] := fun _ => ⟨rfl, fun v h => by simp [at_] at h⟩
theorem Agree.put {D : DataW H} {m : List Fl} (h : Agree D m) (hm : Sorted m) (hD : IsMap D) (c : UInt8) (v : Bytes) : Agree (D.put (key c) (.lit (.string v))) (putF (c, v) m) := by
  intro d
  rw [at_putF _ _ hm]
  by_cases e : c = d
  · subst e
    rw [if_pos rfl]
    refine ⟨has_put_same hD (key_is c) _, fun u hu z => ?_⟩
    rw [atKey_put_same hD (key_is c)]
    injection hu with hu
    dsimp only at hu
    rw [hu]
  · have hne : key d ≠ key c := fun q => e (key_inj q).symm
    rw [if_neg e, has_put_other hne]
    exact ⟨(h d).1, fun u hu z => by rw [atKey_put_other hne]; exact (h d).2 u hu z⟩
/-- what a range over the map has met so far: left: what is still to come -/
structure Coll (D : DataW H) (m : List Fl) (left : Lit → Bool) (acc : List Fl) : Prop where
  nodup : acc.Nodup
  mem : ∀ f : Fl, f ∈ acc ↔ f ∈ m ∧ left (key f.1) = false
  sub : ∀ z, left z = true → has D z = true
theorem Coll.start {D : DataW H} {m : List Fl} (h : Agree D m) (hm : Sorted m) : Coll D m (has D) [] :=
  ⟨List.nodup_nil, fun f => ⟨fun q => (List.not_mem_nil q).elim, fun ⟨q, hl⟩ => by
    have := (h f.1).1
    rw [(at_mem hm).2 q, hl] at this
    exact absurd this (by simp)⟩, fun z hz => hz⟩
theorem same_key (a b : UInt8) : (key a).sameKey (key b) = decide (a = b) := by
  by_cases e : a = b
  · subst e
    rw [decide_eq_true rfl]
    show decide _ = true
    simp
  · rw [decide_eq_false e]
    exact Maps.sameKey_ne fun q => e (key_inj q)
theorem Coll.step {D : DataW H} {m : List Fl} {left : Lit → Bool} {acc : List Fl} (hc : Coll D m left acc) (h : Agree D m) (hm : Sorted m) {c : UInt8} {v : Bytes} (hl : left (key c) = true) (hv : ∀ z, D.atKey (key c) z = .lit (.string v)) :
    Coll D m (fun z => left z && !z.sameKey (key c)) (acc ++ [(c, v)]) := by
  have hin : (c, v) ∈ m := by
    have h1 := (h c).1
    rw [hc.sub _ hl] at h1
    obtain ⟨u, hu⟩ := Option.isSome_iff_exists.1 h1.symm
    have h2 := (h c).2 u hu (.map [])
    rw [hv] at h2
    have : v = u := by injection h2 with h3; injection h3
    subst this
    exact (at_mem hm).1 hu
  refine ⟨?_, fun f => ?_, fun z hz => hc.sub z (by simp only [Bool.and_eq_true] at hz; exact hz.1)⟩
  · refine List.nodup_append.2 ⟨hc.nodup, by simp, fun a ha b hb e => ?_⟩
    simp only [List.mem_singleton] at hb
    subst hb e
    have := ((hc.mem _).1 ha).2
    rw [hl] at this; cases this
  · rw [List.mem_append, List.mem_singleton, hc.mem, same_key]
    by_cases e : f.1 = c
    · constructor
      · rintro (⟨_, q⟩ | q)
        · rw [e, hl] at q; cases q
        · subst q; exact ⟨hin, by simp⟩
      · rintro ⟨q, _⟩
        right
        have e1 := (at_mem hm (c := c) (v := f.2)).2 (by rw [← e]; exact q)
        have e2 := (at_mem hm).2 hin
        rw [e1] at e2
        injection e2 with e2
        exact Prod.ext e e2
    · have e2 : ¬ f = (c, v) := fun q => e (by rw [q])
      simp [e, e2]
theorem Coll.perm {D : DataW H} {m : List Fl} {left : Lit → Bool} {acc : List Fl} (hc : Coll D m left acc) (hm : Sorted m) (hl : ∀ z, left z = false) : acc.Perm m := by
  have nd : m.Nodup := hm.imp fun {x y} hlt e => by rw [e, u8_lt] at hlt; omega
  exact (List.perm_ext_iff_of_nodup hc.nodup nd).2 fun f => by rw [hc.mem]; simp [hl]
/-- a list that was sorted by its letters, none of which stands twice: the list in order -/
theorem sorted_of_perm {a m : List Fl} (hp : a.Perm m) (hm : Sorted m) (ha : a.Pairwise fun x y => ¬ y.1 < x.1) : a = m := by
  refine sorted_ext ?_ hm fun x => hp.mem_iff
  have h1 : m.Pairwise (fun x y => x.1 ≠ y.1) := hm.imp fun {x y} hlt e => by rw [e] at hlt; exact UInt8.lt_irrefl _ hlt
  have h2 : a.Pairwise (fun x y => x.1 ≠ y.1) := (hp.pairwise_iff (fun {x y} q => q.symm)).2 h1
  exact (ha.and h2).imp fun {x y} ⟨q1, q2⟩ => by rw [u8_lt] at *; rw [ne_eq, u8_eq] at q2; omega
/-- a map in memory that holds what the list holds -/
structure MapRel (P : Program) (k : TypeId) (R : Value → Option (DataW H × List MemPlace)) (w : World) (M : Nat) (m : List Fl) (D : DataW H) : Prop where
  own : w.ownsMap P k R M m.length D
  agree : Agree D m
  sorted : Sorted m
  size : Maps.size D = m.length
theorem tight {P : Program} {k : TypeId} {R : Value → Option (DataW H × List MemPlace)} {w : World} {M n : Nat} {D : DataW H} (h : w.ownsMap P k R M n D) : w.ownsMap P k R M (Maps.size D) D := by
  obtain ⟨es, clock, hb, F, hs, rfl⟩ := h
  refine ⟨es, clock, hb, F, ?_, rfl⟩
  rw [Maps.size_eq, Go.length_sorted]
  simp
theorem MapRel.put {P : Program} {k : TypeId} {R : Value → Option (DataW H × List MemPlace)} {w w' : World} {M : Nat} {m : List Fl} {D : DataW H} (h : MapRel P k R w M m D) (K : Maps.Keyed P k) {c : UInt8} {v : Bytes}
    (ho : w'.ownsMap P k R M (m.length + 1) (D.put (key c) (.lit (.string v)))) : MapRel P k R w' M (putF (c, v) m) (D.put (key c) (.lit (.string v))) := by
  have hT : Maps.Tidy D := h.own.tidy K
  have hz : Maps.size (D.put (key c) (.lit (.string v))) = (putF (c, v) m).length := by
    rw [Maps.size_put hT, putF_len _ h.sorted, (h.agree c).1, h.size]
  exact ⟨hz ▸ tight ho, h.agree.put h.sorted hT.isMap c v, putF_sorted h.sorted, hz⟩
theorem MapRel.start {P : Program} {k : TypeId} {R : Value → Option (DataW H × List MemPlace)} {w : World} {M : Nat} (h : w.ownsMap P k R M 0 (.map [])) : MapRel P k R w M [] (.map []) := ⟨h, Agree.start, List.Pairwise.nil, rfl⟩
theorem MapRel.few {P : Program} {k : TypeId} {R : Value → Option (DataW H × List MemPlace)} {w : World} {M : Nat} {m : List Fl} {D : DataW H} (h : MapRel P k R w M m D) : m.length ≤ 256 := sorted_len h.sorted
theorem MapRel.kept {P : Program} {k : TypeId} {R : Value → Option (DataW H × List MemPlace)} {w w' : World} {M : Nat} {m : List Fl} {D : DataW H} (h : MapRel P k R w M m D) (hb : w'.heap[M]? = w.heap[M]?) : MapRel P k R w' M m D := by
  obtain ⟨es, clock, h1, h2⟩ := h.own
  exact ⟨⟨es, clock, hb.trans h1, h2⟩, h.agree, h.sorted, h.size⟩
theorem MapRel.lt {P : Program} {k : TypeId} {R : Value → Option (DataW H × List MemPlace)} {w : World} {M : Nat} {m : List Fl} {D : DataW H} (h : MapRel P k R w M m D) : M < w.heap.size := by
  obtain ⟨es, clock, h1, -⟩ := h.own
  exact (Array.getElem?_eq_some_iff.1 h1).1
end Px
end Go.Proofs.YtedlhdegdlabhaaGreatDoor
