/- Package bind: bindings are sorted by their places: slices.SortFunc, with the closure of All. -/
import Derived.Test.YtiopaenonjhlnaaGreatDoorBindFind
import Derived.Test.YtiopaenonjhlnaaGreatDoorParseEntry
namespace Go.Proofs.YtiopaenonjhlnaaGreatDoor
set_option maxRecDepth 8000
open Go.RowKit Go.Lib Go.Sort
open Lx (Bytes)

/-- a binding and where its commands lie -/
abbrev BG := Bx.Bd × (Option Addr × Nat × Nat)
instance : Inhabited Bx.Bd := ⟨zeroBd⟩
def gvOf (x : BG) : Value := .slice x.2.1 x.2.2.1 x.2.2.2
def bdCell (x : BG) : List Value := [strV x.1.table, .int .i64 x.1.key.code, .int .i64 x.1.key.mods, .bool x.1.rep, strV x.1.note, gvOf x]
def bdRow (l : List BG) : List Value := l.flatMap bdCell
def byPlace (x y : BG) : Int := orL [cmpS x.1.table y.1.table, cmpI x.1.key.code y.1.key.code, cmpI x.1.key.mods y.1.key.mods]
theorem cmpS_neg (a b : Bytes) : cmpS a b < 0 ↔ Op.bytesLess a b = true := by
  unfold cmpS
  split
  · rename_i h; simp [h]
  · rename_i h
    split <;> simp [h]
theorem cmpS_zero (a b : Bytes) : cmpS a b = 0 ↔ a = b := by
  unfold cmpS
  by_cases e : a = b
  · subst e
    simp [bl_irrefl]
  · rcases bl_total e with h | h
    · simp [h, e]
    · by_cases h2 : Op.bytesLess a b = true
      · simp [h2, e]
      · simp [h2, h, e]
theorem cmpI_neg (a b : Int) : cmpI a b < 0 ↔ a < b := by unfold cmpI; split <;> (try split) <;> omega
theorem cmpI_zero (a b : Int) : cmpI a b = 0 ↔ a = b := by unfold cmpI; split <;> (try split) <;> omega
theorem orL_three (a b c : Int) : orL [a, b, c] = if a ≠ 0 then a else if b ≠ 0 then b else c := by
  unfold orL
  by_cases ha : a = 0
  · by_cases hb : b = 0
    · by_cases hc : c = 0
      · subst ha hb hc; rfl
      · subst ha hb
        simp [hc]
    · subst ha
      simp [hb]
  · simp [ha]
theorem byPlace_lt (x y : BG) : ltOf byPlace x y = Bx.ahead x.1 y.1 := by
  unfold ltOf byPlace
  rw [Bool.eq_iff_iff, decide_eq_true_eq, Bx.ahead_iff, orL_three]
  have a1 := cmpS_neg x.1.table y.1.table
  have a2 := cmpS_zero x.1.table y.1.table
  have b1 := cmpI_neg x.1.key.code y.1.key.code
  have b2 := cmpI_zero x.1.key.code y.1.key.code
  have c1 := cmpI_neg x.1.key.mods y.1.key.mods
  by_cases h1 : cmpS x.1.table y.1.table = 0
  · have e1 := a2.1 h1
    rw [if_neg (fun h => h h1)]
    by_cases h2 : cmpI x.1.key.code y.1.key.code = 0
    · have e2 := b2.1 h2
      rw [if_neg (fun h => h h2), c1, e1, e2, bl_irrefl]
      simp
    · rw [if_pos h2, b1, e1, bl_irrefl]
      have e2 : ¬ x.1.key.code = y.1.key.code := fun e => h2 (b2.2 e)
      simp [e2]
  · rw [if_pos h1, a1]
    have e1 : ¬ x.1.table = y.1.table := fun e => h1 (a2.2 e)
    simp [e1]
theorem byPlace_swo : SWO (ltOf byPlace) where
  irrefl x := by rw [byPlace_lt]; exact Bx.ahead_irrefl x.1
  trans x y z h1 h2 := by rw [byPlace_lt] at *; exact Bx.ahead_trans h1 h2
  ntrans x y z h1 h2 := by
    rw [byPlace_lt] at *
    cases h3 : Bx.ahead x.1 z.1 with
    | false => rfl
    | true =>
      exfalso
      by_cases e : Bx.place x.1 = Bx.place y.1
      · have : Bx.ahead y.1 z.1 = true := by
          have e1 : x.1.table = y.1.table := congrArg Prod.fst e
          have e2 : x.1.key = y.1.key := congrArg Prod.snd e
          rw [Bx.ahead_iff] at h3 ⊢
          rw [e1, e2] at h3
          exact h3
        rw [h2] at this
        cases this
      · rcases Bx.ahead_total e with h | h
        · rw [h1] at h; cases h
        · have := Bx.ahead_trans h h3
          rw [h2] at this
          cases this
theorem order2_in (x y : BG) (w : World) : Calls Tryz.prog 25 #[.agg (bdCell x).toArray, .agg (bdCell y).toArray] w fun e w' => e = .returned (.int .i64 (byPlace x y)) ∧ ∃ q os', w' = grow (w.drewN q) os' :=
  order_in ⟨x.1.table.toArray⟩ ⟨y.1.table.toArray⟩ ⟨x.1.note.toArray⟩ ⟨y.1.note.toArray⟩ x.1.key.code x.1.key.mods y.1.key.code y.1.key.mods x.1.rep y.1.rep x.2.1 y.2.1 x.2.2.1 y.2.2.1 x.2.2.2 y.2.2.2 w
theorem bdRow_len : ∀ l : List BG, (bdRow l).length = l.length * 6
  | [] => rfl
  | x :: l => by
    have e : bdRow (x :: l) = bdCell x ++ bdRow l := rfl
    rw [e, List.length_append, bdRow_len l, List.length_cons]
    show 6 + _ = _
    omega
theorem bdRow_at : ∀ (l : List BG) (i j : Nat) (h : i < l.length), j < 6 → (bdRow l)[i * 6 + j]? = (bdCell l[i])[j]?
  | x :: l, 0, j, _, hj => by
    have e : bdRow (x :: l) = bdCell x ++ bdRow l := rfl
    rw [e, Nat.zero_mul, Nat.zero_add, List.getElem?_append_left (by exact hj)]
    rfl
  | x :: l, i + 1, j, h, hj => by
    have := bdRow_at l i j (by simpa using h) hj
    have e : bdRow (x :: l) = bdCell x ++ bdRow l := rfl
    rw [e, List.getElem?_append_right (by show 6 ≤ _; omega), show (i + 1) * 6 + j - (bdCell x).length = i * 6 + j by show (i + 1) * 6 + j - 6 = _; omega]
    exact this
theorem flat_bd (l : List BG) : flatK bdCell 6 l.toArray = (bdRow l).toArray := by
  apply Array.ext
  · simp [bdRow_len]
  · intro t h1 h2
    have hs : t < l.length * 6 := by simpa using h1
    have hi : t / 6 < l.length := by omega
    have hg := get_flatK bdCell 6 l.toArray t (by simpa using hs)
    rw [getElem!_pos _ t h1] at hg
    rw [hg]
    have c := bdRow_at l (t / 6) (t % 6) hi (Nat.mod_lt _ (by decide))
    have hget : l.toArray[t / 6]! = l[t / 6] := by rw [getElem!_pos _ _ (by simpa using hi)]; simp
    rw [hget]
    apply Option.some.inj
    rw [← Array.getElem?_eq_getElem h2, List.getElem?_toArray]
    rw [show t / 6 * 6 + t % 6 = t by omega] at c
    rw [c]
    have h6 : t % 6 < (bdCell l[t / 6]).length := Nat.mod_lt _ (by decide)
    rw [List.getElem?_eq_getElem h6, List.getElem!_eq_getElem?_getD, List.getElem?_eq_getElem h6]
    rfl
theorem holds_bd {w : World} {g : Nat} {cur : Array Value} {e : TypeId} {l : List BG} (hb : w.heap[g]? = some (.cells cur e (0, 0))) (ht : cur.toList.take (l.length * 6) = bdRow l) : HoldsK bdCell 6 w g 0 l.toArray := by
  unfold HoldsK
  rw [flat_bd]
  intro j hj
  have hj' : j < l.length * 6 := by rw [← bdRow_len]; simpa using hj
  refine ⟨?_, by simp [World.frozen?, hb]⟩
  have h1 : (cur.toList.take (l.length * 6))[j]? = (bdRow l)[j]? := by rw [ht]
  rw [List.getElem?_take_of_lt hj'] at h1
  simp only [World.cell?, hb, Nat.zero_add]
  simp only [Option.isSome_none, Bool.false_eq_true, if_false]
  rw [← Array.getElem?_toList, h1]
  have hj2 : j < (bdRow l).length := by rw [bdRow_len]; exact hj'
  simp [hj2]
/-- a strictly ordered list is the one of its members -/
theorem ahead_ext : ∀ {a b : List Bx.Bd}, a.Perm b → Bx.Sorted a → Bx.Sorted b → a = b
  | [], b, hp, _, _ => (List.Perm.nil_eq hp)
  | x :: a, [], hp, _, _ => absurd hp.length_eq (by simp)
  | x :: a, y :: b, hp, ha, hb => by
    obtain ⟨h1, h2⟩ := List.pairwise_cons.1 ha
    obtain ⟨h3, h4⟩ := List.pairwise_cons.1 hb
    have e : x = y := by
      rcases List.mem_cons.1 (hp.mem_iff.1 List.mem_cons_self) with e | hx
      · exact e
      · rcases List.mem_cons.1 (hp.mem_iff.2 (List.mem_cons_self (a := y) (l := b))) with e | hy
        · exact e.symm
        · have q1 := h3 x hx
          have q2 := h1 y hy
          have := Bx.ahead_trans q1 q2
          rw [Bx.ahead_irrefl] at this
          cases this
    subst e
    rw [ahead_ext (List.Perm.cons_inv hp) h2 h4]
/-- the bindings are sorted -/
theorem sort_bds {w : World} {B cp : Nat} {A : Option Addr} {acc : List BG} {T : List Bx.Bd} (ho : w.ownsRow B 34 6 (.slice A acc.length cp) acc.length (bdRow acc)) (hp : (acc.map (·.1)).Perm T) (hT : Bx.Sorted T) (hl : acc.length < 4611686018427387904) :
    Calls Tryz.prog 24 #[.slice A acc.length cp, .func (.func 25) #[] #[]] w fun e w' => e = .returned (.tuple #[]) ∧ ∃ L : List BG, L.Perm acc ∧ L.map (·.1) = T ∧ w'.ownsRow B 34 6 (.slice A acc.length cp) L.length (bdRow L) ∧
      w.grownBy w' (Value.slice A acc.length cp).ownBlock := by
  rcases ho.2 with ⟨e, h0⟩ | ⟨g, cap, cur, e, hbase, hb, h1, h2, h3, h4⟩
  · injection e with e1 e2 e3
    subst e1 e3
    obtain rfl : acc = [] := List.length_eq_zero_iff.1 h0
    refine (show Calls Tryz.prog 24 _ _ _ from AnyF.slices_SortFunc_none Tryz.sortBd none 0 _ w).mono ?_
    rintro e w' ⟨rfl, rfl⟩
    exact ⟨rfl, [], .refl _, (List.Perm.nil_eq hp), ho, ⟨rfl, rfl, rfl, Nat.le_refl _, fun _ _ _ => rfl⟩⟩
  · injection e with e1 e2 e3
    subst e1 e3
    have eg : ∀ args w, (callFunc 25 args).run Tryz.prog w = .ok (.enter 25 args) w := enters_of Tryz.func25 (by kernel_rfl) rfl
    have hH := holds_bd hb h4
    have hcon := AnyQ.slices_SortFunc Tryz.sortBd 6 Tryz.isAgg34 Tryz.sizeOf34 bdCell (fun _ => rfl) (fun x v hv => by simp [bdCell, gvOf] at hv; rcases hv with rfl | rfl | rfl | rfl | rfl | rfl <;> rfl) byPlace byPlace_swo 25 #[] g 0 cp acc.toArray w eg
      (fun _ _ _ _ x y => order2_in x y _) hH (Array.getElem?_eq_some_iff.1 hb).1 (by simpa using hl)
    change Calls Tryz.prog 24 _ _ _ at hcon
    refine hcon.mono ?_
    rintro e w' ⟨rfl, d', n, os, hperm, hsort, rfl⟩
    have hsz : d'.size = acc.length := by simpa using hperm.1
    have hdp : d'.toList.Perm acc := by
      have hp2 := hperm.2.2
      simp only [Array.toList_extract, List.size_toArray] at hp2
      rw [List.extract_eq_take_drop, List.extract_eq_take_drop] at hp2
      simp only [List.drop_zero, Nat.sub_zero] at hp2
      rwa [List.take_of_length_le (by simp [hsz]), List.take_of_length_le (Nat.le_refl _)] at hp2
    have hpl : (d'.toList.map (·.1)).Perm T := (hdp.map _).trans hp
    have hd : d'.toList.map (·.1) = T := by
      refine ahead_ext hpl ?_ hT
      show List.Pairwise _ _
      have hne : (d'.toList.map (·.1)).Pairwise fun a b => Bx.place a ≠ Bx.place b := (hpl.pairwise_iff (fun {x y} q => q.symm)).2 (Bx.sorted_place hT)
      rw [List.pairwise_map] at hne ⊢
      rw [List.pairwise_iff_getElem] at hne ⊢
      intro i j hi hj hij
      have h5 := hsort i j (Nat.zero_le _) hij (by rw [List.size_toArray, ← hsz]; simpa using hj)
      rw [byPlace_lt] at h5
      simp at hi hj
      rw [getElem!_pos d' j hj, getElem!_pos d' i hi] at h5
      have h6 := hne i j (by simpa using hi) (by simpa using hj) hij
      rcases Bx.ahead_total h6 with h | h
      · exact h
      · have h7 : Bx.ahead d'[j].1 d'[i].1 = true := by simpa using h
        rw [h5] at h7
        cases h7
    obtain ⟨L, rfl⟩ : ∃ L : List BG, d' = L.toArray := ⟨d'.toList, by simp⟩
    simp only [List.size_toArray] at hsz
    refine ⟨rfl, L, by simpa using hdp, by simpa using hd, ?_, ?_⟩
    · unfold sortWorldK putRowK
      rw [flat_bd]
      refine ⟨by rw [bdRow_len], .inr ⟨g, cp, _, by rw [hsz], hbase, heap_sorted_id _ hb, by omega, h2, by simp [putCells, h3], ?_⟩⟩
      rw [← bdRow_len]
      exact take_putCells_id cur _ (by rw [bdRow_len, h3]; omega)
    · unfold sortWorldK putRowK
      exact grownBy_sorted_id _
end Go.Proofs.YtiopaenonjhlnaaGreatDoor
