/- The table of bindings in a map keyed by places: a map that holds what a list holds; what a range over it has collected. No program. Package bind: the order of bindings: the closure of All. The walk of slices.Clone at flags and at texts: a row of the call's own with the same cells. -/
import Derived.Test.YtiopaenonjhlnaaGreatDoorBindLaw
import Derived.Test.YtiopaenonjhlnaaGreatDoorParseMem
import Derived.Maps.Views
import Derived.Maps.Own
import Derived.Maps.OwnSet
import Derived.StillTailTactics
import Derived.Sort.Grow
namespace Go.Proofs.YtiopaenonjhlnaaGreatDoor
open Lx (Bytes)
open Go.Maps (has has_put_same has_put_other atKey_put_same atKey_put_other IsMap)
namespace Bx
abbrev Pl := Bytes × Ky
def placeV (p : Pl) : Value := .agg #[strV p.1, .int .i64 p.2.code, .int .i64 p.2.mods]
/-- a binding, and the value that the map holds for it -/
abbrev BV := Bd × Value
abbrev bvP (x : BV) : Pl := place x.1
def getV (m : List BV) (p : Pl) : Option BV := m.find? fun x => decide (bvP x = p)
/-- no place twice -/
abbrev Apart (m : List BV) : Prop := m.Pairwise fun x y => bvP x ≠ bvP y
theorem getV_mem {m : List BV} (hm : Apart m) {p : Pl} {x : BV} : getV m p = some x ↔ x ∈ m ∧ bvP x = p := by
  induction m with
  | nil => simp [getV]
  | cons y m ih =>
    obtain ⟨h1, h2⟩ := List.pairwise_cons.1 hm
    by_cases e : bvP y = p
    · have : getV (y :: m) p = some y := by simp [getV, e]
      rw [this]
      constructor
      · intro h
        injection h with h
        subst h
        exact ⟨by simp, e⟩
      · rintro ⟨h, h3⟩
        rcases List.mem_cons.1 h with rfl | h
        · rfl
        · exact absurd (e.trans h3.symm) (h1 x h)
    · have : getV (y :: m) p = getV m p := by simp [getV, e]
      rw [this, ih h2]
      constructor
      · rintro ⟨h, h3⟩
        exact ⟨List.mem_cons_of_mem _ h, h3⟩
      · rintro ⟨h, h3⟩
        rcases List.mem_cons.1 h with rfl | h
        · exact absurd h3 e
        · exact ⟨h, h3⟩
theorem getV_none {m : List BV} {p : Pl} : getV m p = none ↔ ∀ x ∈ m, bvP x ≠ p := by
  simp [getV, List.find?_eq_none]
/-- how places read as keys -/
structure KeyFn (ok : Pl → Prop) (key : Pl → Lit) : Prop where
  inj : ∀ {p q : Pl}, ok p → ok q → key p = key q → p = q
  lit : ∀ {p : Pl}, ok p → WideAt.IsKeyLit (key p)
section
variable {ok : Pl → Prop} {key : Pl → Lit}
/-- the map holds what the list holds -/
def Agree (ok : Pl → Prop) (key : Pl → Lit) (D : DataW Value) (m : List BV) : Prop := ∀ p, ok p → has D (key p) = (getV m p).isSome ∧ ∀ x, getV m p = some x → ∀ z, D.atKey (key p) z = .held x.2
theorem Agree.start : Agree ok key (.map []) [] := fun _ _ => ⟨rfl, fun x h => by simp [getV] at h⟩
theorem Agree.put (F : KeyFn ok key) {D : DataW Value} {m m' : List BV} (h : Agree ok key D m) (hD : IsMap D) {x : BV} (hx : ok (bvP x)) (hm : ∀ p, getV m' p = if p = bvP x then some x else getV m p) : Agree ok key (D.put (key (bvP x)) (.held x.2)) m' := by
  intro p hp
  rw [hm]
  by_cases e : p = bvP x
  · subst e
    rw [if_pos rfl]
    refine ⟨has_put_same hD (F.lit hx) _, fun u hu z => ?_⟩
    rw [atKey_put_same hD (F.lit hx)]
    injection hu with hu
    rw [hu]
  · have hne : key p ≠ key (bvP x) := fun q => e (F.inj hp hx q)
    rw [if_neg e, has_put_other hne]
    exact ⟨(h p hp).1, fun u hu z => by rw [atKey_put_other hne]; exact (h p hp).2 u hu z⟩
/-- what a range over the map has met so far: left: what is still to come -/
structure Coll (ok : Pl → Prop) (key : Pl → Lit) (D : DataW Value) (m : List BV) (left : Lit → Bool) (acc : List BV) : Prop where
  nodup : acc.Pairwise fun x y => bvP x ≠ bvP y
  mem : ∀ x : BV, x ∈ acc ↔ x ∈ m ∧ left (key (bvP x)) = false
  sub : ∀ z, left z = true → has D z = true
theorem Coll.start {D : DataW Value} {m : List BV} (h : Agree ok key D m) (hm : Apart m) (ho : ∀ x ∈ m, ok (bvP x)) : Coll ok key D m (has D) [] :=
  ⟨.nil, fun x => ⟨fun q => (List.not_mem_nil q).elim, fun ⟨q, hl⟩ => by
    have := (h _ (ho x q)).1
    rw [(getV_mem hm).2 ⟨q, rfl⟩, hl] at this
    exact absurd this (by simp)⟩, fun z hz => hz⟩
theorem same_key (F : KeyFn ok key) {p q : Pl} (hp : ok p) (hq : ok q) : (key p).sameKey (key q) = decide (p = q) := by
  by_cases e : p = q
  · subst e
    rw [decide_eq_true rfl]
    exact WideAt.sameKey_self (F.lit hp)
  · rw [decide_eq_false e]
    exact Maps.sameKey_ne fun r => e (F.inj hp hq r)
theorem Coll.step (F : KeyFn ok key) {D : DataW Value} {m : List BV} {left : Lit → Bool} {acc : List BV} (hc : Coll ok key D m left acc) (h : Agree ok key D m) (hm : Apart m) (ho : ∀ x ∈ m, ok (bvP x)) {p : Pl} (hp : ok p) {v : Value} (hl : left (key p) = true) (hv : ∀ z, D.atKey (key p) z = .held v) :
    ∃ x, x ∈ m ∧ bvP x = p ∧ x.2 = v ∧ Coll ok key D m (fun z => left z && !z.sameKey (key p)) (acc ++ [x]) := by
  have h1 := (h p hp).1
  rw [hc.sub _ hl] at h1
  obtain ⟨x, hx⟩ := Option.isSome_iff_exists.1 h1.symm
  have h2 := (h p hp).2 x hx (.map [])
  rw [hv] at h2
  have hxv : v = x.2 := by injection h2
  obtain ⟨hin, hpl⟩ := (getV_mem hm).1 hx
  refine ⟨x, hin, hpl, hxv.symm, ?_, fun y => ?_, fun z hz => hc.sub z (by simp only [Bool.and_eq_true] at hz; exact hz.1)⟩
  · refine List.pairwise_append.2 ⟨hc.nodup, List.pairwise_singleton _ _, fun a ha b hb e => ?_⟩
    rw [List.mem_singleton.1 hb, hpl] at e
    have := ((hc.mem _).1 ha).2
    rw [e, hl] at this
    cases this
  · rw [List.mem_append, List.mem_singleton, hc.mem]
    by_cases hy : y ∈ m
    · rw [same_key F (ho y hy) hp]
      by_cases e : bvP y = p
      · have : y = x := by
          have h3 := (getV_mem hm).2 ⟨hy, e⟩
          rw [hx] at h3
          injection h3 with h3
          exact h3.symm
        subst this
        simp [hin, e]
      · have e2 : ¬ y = x := fun q => e (by rw [q]; exact hpl)
        simp [e, e2]
    · have e2 : ¬ y = x := fun q => hy (by rw [q]; exact hin)
      simp [hy, e2]
theorem Coll.perm {D : DataW Value} {m : List BV} {left : Lit → Bool} {acc : List BV} (hc : Coll ok key D m left acc) (hm : Apart m) (hl : ∀ z, left z = false) : acc.Perm m := by
  have n1 : acc.Nodup := hc.nodup.imp fun {x y} h e => h (by rw [e])
  have n2 : m.Nodup := hm.imp fun {x y} h e => h (by rw [e])
  exact (List.perm_ext_iff_of_nodup n1 n2).2 fun x => by rw [hc.mem]; simp [hl]
end
end Bx
end Go.Proofs.YtiopaenonjhlnaaGreatDoor
namespace Go.Proofs.YtiopaenonjhlnaaGreatDoor
set_option maxRecDepth 8000
open Go.RowKit
open Lx (Bytes)

/-- a binding's cells -/
def bdCells (t : Value) (c m : Int) (r : Bool) (n gv : Value) : Array Value := #[t, .int .i64 c, .int .i64 m, .bool r, n, gv]
def ordB (t1 t2 : ByteArray) (c1 c2 m1 m2 : Int) : Int := orL [cmpS (sl t1) (sl t2), cmpI c1 c2, cmpI m1 m2]
theorem cmpI_in (a b : Int) (w : World) : Calls Tryz.prog 28 #[.int .i64 a, .int .i64 b] w fun e w' => e = .returned (.int .i64 (cmpI a b)) ∧ w' = w := (compare_int a b w).mono fun _ _ ⟨h1, h2⟩ => ⟨h1, h2.symm⟩
theorem cmpS_in (a b : ByteArray) (w : World) : Calls Tryz.prog 27 #[.string a, .string b] w fun e w' => e = .returned (.int .i64 (cmpS (sl a) (sl b))) ∧ w' = w := (compare_str a b w).mono fun _ _ ⟨h1, h2⟩ => ⟨h1, h2.symm⟩
set_option maxHeartbeats 1000000 in
theorem order_in (t1 t2 n1 n2 : ByteArray) (c1 m1 c2 m2 : Int) (r1 r2 : Bool) (A1 A2 : Option Addr) (k1 k2 p1 p2 : Nat) (w : World) :
    Calls Tryz.prog 25 #[.agg #[.string t1, .int .i64 c1, .int .i64 m1, .bool r1, .string n1, .slice A1 k1 p1], .agg #[.string t2, .int .i64 c2, .int .i64 m2, .bool r2, .string n2, .slice A2 k2 p2]] w fun e w' =>
      e = .returned (.int .i64 (ordB t1 t2 c1 c2 m1 m2)) ∧ ∃ q os', w' = Sort.grow (w.drewN q) os' := by
  unfold ordB
  have HS := Lib.hid (cmpS_in t1 t2)
  have HC := Lib.hid (cmpI_in c1 c2)
  have HM := Lib.hid (cmpI_in m1 m2)
  generalize cmpS (sl t1) (sl t2) = a at HS ⊢
  generalize cmpI c1 c2 = b at HC ⊢
  generalize cmpI m1 m2 = c at HM ⊢
  have e0 : w.drewN 0 = w := rfl
  have B1 := (Blk.new w 34 #[.string t1, .int .i64 c1, .int .i64 m1, .bool r1, .string n1, .slice A1 k1 p1]).alloc (.cells #[.string t2, .int .i64 c2, .int .i64 m2, .bool r2, .string n2, .slice A2 k2 p2] 34)
  have B2 := Blk.new (w.alloc (.cells #[.string t1, .int .i64 c1, .int .i64 m1, .bool r1, .string n1, .slice A1 k1 p1] 34)) 34 #[.string t2, .int .i64 c2, .int .i64 m2, .bool r2, .string n2, .slice A2 k2 p2]
  rw [show (w.alloc (.cells #[.string t1, .int .i64 c1, .int .i64 m1, .bool r1, .string n1, .slice A1 k1 p1] 34)).heap.size = w.heap.size + 1 by simp [go_sem]] at B2
  have x0 := B1.cell 0
  have x1 := B1.cell 1
  have x2 := B1.cell 2
  have y0 := B2.cell 0
  have y1 := B2.cell 1
  have y2 := B2.cell 2
  have z1 := B1.lt
  have z2 := B2.lt
  simp only [List.getElem?_toArray, List.getElem?_cons_zero, List.getElem?_cons_succ] at x0 x1 x2 y0 y1 y2
  clear B1 B2
  have HG := Lib.hid (show ∃ os', (w.alloc (.cells #[.string t1, .int .i64 c1, .int .i64 m1, .bool r1, .string n1, .slice A1 k1 p1] 34)).alloc (.cells #[.string t2, .int .i64 c2, .int .i64 m2, .bool r2, .string n2, .slice A2 k2 p2] 34) = Sort.grow (w.drewN 0) os' from ⟨_, by rw [Sort.alloc_eq_grow, Sort.alloc_eq_grow, Sort.grow_grow]; rfl⟩)
  go_enter Tryz.func25, Tryz.ntmps25
  go_wp2_with fail
  generalize (w.alloc (.cells #[.string t1, .int .i64 c1, .int .i64 m1, .bool r1, .string n1, .slice A1 k1 p1] 34)).alloc (.cells #[.string t2, .int .i64 c2, .int .i64 m2, .bool r2, .string n2, .slice A2 k2 p2] 34) = w2 at *
  refine wp_region_still_tail 19 (by kernel_rfl) (by kernel_rfl) ?_
  simp only [List.take_succ_cons, List.take_zero, List.drop_succ_cons, List.drop_zero]
  repeat still_step
  still_call (HS.out _)
  repeat still_step
  still_call (HC.out _)
  repeat still_step
  still_call (HM.out _)
  refine wpStill_nil ?_
  change wpList _ _ _ _ _ w2.drew
  have HG3 := Lib.hid (show ∃ os', w2.drew = Sort.grow (w.drewN 1) os' from by
    obtain ⟨os', h⟩ := HG.out
    exact ⟨os', by rw [h]; rfl⟩)
  clear HG x0 x1 x2 y0 y1 y2 z1 z2 e0 HS HC HM
  generalize w2.drew = w3 at *
  have HO := Lib.hid (or_in (c := 3) [a, b, c] (Blk.new w3 3 (intCells [a, b, c]).toArray) (by simp))
  go_wp2_with fail
  refine HO.out.mono ?_
  rintro e w4 ⟨rfl, rfl⟩
  go_wp2_with fail
  go_ret
  obtain ⟨os', h⟩ := HG3.out
  exact ⟨rfl, 1, _, by rw [h, Sort.alloc_eq_grow, Sort.grow_grow]⟩
end Go.Proofs.YtiopaenonjhlnaaGreatDoor
namespace Go.Proofs.YtiopaenonjhlnaaGreatDoor
set_option maxRecDepth 8000
open Go.RowKit
open Lx (Bytes)

/-- a slice that reads as cells -/
structure RowIs (w : World) (size : Nat) (v : Value) (n : Nat) (xs : List Value) : Prop where
  len : xs.length = n * size
  at_ : ∃ A c, v = .slice A n c ∧ (0 < n → ∃ b off, A = some ⟨b, off, none⟩ ∧ b < w.heap.size ∧ ∀ j u, xs[j]? = some u → w.cell? ⟨b, off + j, none⟩ = some u)
theorem RowIs.src {w : World} {size : Nat} {A : Option Addr} {n c : Nat} {xs : List Value} (h : RowIs w size (.slice A n c) n xs) (h1 : ∀ u ∈ xs, u.oneCell' = true) {tx e' : TypeId} (hk : Tryz.prog.underlying tx = some (.slice e')) {w' : World} (hw : ∀ p : Addr, p.block < w.heap.size → w'.cell? p = w.cell? p) : Src Tryz.prog size tx (.slice A n c) n xs w' := by
  obtain ⟨A', c', e, hat⟩ := h.at_
  injection e with e1 e2 e3
  subst e1 e3
  rcases Nat.eq_zero_or_pos n with h0 | h0
  · subst h0
    have hx : xs = [] := List.eq_nil_of_length_eq_zero (by rw [h.len, Nat.zero_mul])
    subst hx
    cases A with
    | none => exact Src.ofNil w' hk c
    | some a => exact Src.ofSlice w' hk a 0 c [] (by simp) (fun j u hu => by simp at hu) h1
  · obtain ⟨b, off, rfl, hb, hc⟩ := hat h0
    refine Src.ofSlice w' hk ⟨b, off, none⟩ n c xs h.len (fun j u hj => ?_) h1
    have ha : (⟨b, off, none⟩ : Addr).add j = ⟨b, off + j, none⟩ := by unfold Addr.add; split <;> simp_all
    rw [ha, hw ⟨b, off + j, none⟩ hb]
    exact hc j u hj
theorem own_empty (w : World) (e : TypeId) (size : Nat) : (w.alloc (.cells #[] e)).ownsRow w.heap.size e size (.slice (some ⟨w.heap.size, 0, none⟩) 0 0) 0 [] :=
  ⟨by simp, .inr ⟨w.heap.size, 0, #[], rfl, Nat.le_refl _, Blk.new w e #[], Nat.le_refl _, Nat.zero_le _, by simp, by simp⟩⟩
theorem A.info_clone_flags : (Tryz.prog.info? 121).map (fun i => (i.zero, i.size, i.bytes)) = some (some (.agg #[.int .u8 0, .string ⟨#[]⟩]), 2, 24) := by kernel_rfl
set_option maxHeartbeats 1000000 in
theorem clone_flags_in {w : World} {v : Value} {n : Nat} {xs : List Value} (h : RowIs w 2 v n xs) (h1 : ∀ u ∈ xs, u.oneCell' = true) (hn : n ≤ 2000000) :
    Calls Tryz.prog 46 #[v] w fun e w' => ∃ v', e = .returned v' ∧ w'.ownsRow w.heap.size 121 2 v' n xs ∧ Turns Nothing w w' := by
  obtain ⟨A, c, rfl, hat⟩ := h.at_
  cases A with
  | none =>
    obtain rfl : n = 0 := by
      rcases Nat.eq_zero_or_pos n with h0 | h0
      · exact h0
      · obtain ⟨b, off, e, -⟩ := hat h0
        cases e
    have hx : xs = [] := List.eq_nil_of_length_eq_zero (by rw [h.len, Nat.zero_mul])
    subst hx
    clear h hat
    have he := fun W => Lib.run_eql_slice_nil (P := Tryz.prog) W 54 121 none 0 c 0 0 Tryz.underlying54
    go_enter Tryz.func46, Tryz.ntmps46
    go_wp2_with fail
    go_ret
    exact ⟨_, rfl, World.ownsRow_nil _ _ _ _, Turns.refl _ _⟩
  | some a =>
    have he := fun W => Lib.run_eql_slice_nil (P := Tryz.prog) W 54 121 (some a) n c 0 0 Tryz.underlying54
    have HS := Lib.hid (h.src h1 Tryz.underlying54 (w' := w.alloc (.cells #[] 121)) (fun p hp => World.cell?_alloc_lt w _ p hp))
    have HO := Lib.hid (own_empty w 121 2)
    have HL := Lib.hid (And.intro (show 0 + n ≤ maxLen by simp only [maxLen]; omega) (And.intro (show ((0 + n) + (0 + n + 768) / 4 + 512) * 24 ≤ 281474976710656 by omega) (show w.heap.size ≤ (w.alloc (.cells #[] 121)).heap.size by simp [go_sem])))
    obtain ⟨i0, hi0, hz0, hz1, hz2⟩ := info_parts A.info_clone_flags
    clear h h1 hat
    go_enter Tryz.func46, Tryz.ntmps46
    go_wp2_with (first
      | (at_builtin
         refine wpList_append_src _ rfl (.tmp 5) (.tmp 6) _ _ rfl w.heap.size 121 i0 _ 2 24 Tryz.underlying54 hi0 hz0 hz1 hz2 rfl (.slice (some ⟨w.heap.size, 0, none⟩) 0 0) 0 [] rfl HO.out _ n xs rfl HS.out HL.out.1 HL.out.2.1 HL.out.2.2 ?_
         intro A1 cp1 w4 ho hg hat
         have HN := Lib.hid (And.intro ho hg)
         clear ho hg hat))
    go_ret
    obtain ⟨ho, hg⟩ := HN.out
    rw [Nat.zero_add, List.nil_append] at ho
    refine ⟨_, rfl, ho, ((Turns.refl Nothing w).alloc _).trans ((Turns.refl (fun b => b = w.heap.size) _).grown hg fun b hb e => ?_) fun b hb e => ?_⟩
    · simp only [Value.ownBlock, Option.some.injEq] at e
      exact e.symm
    · have e : b = w.heap.size := e
      omega
theorem A.info_clone_texts : (Tryz.prog.info? 9).map (fun i => (i.zero, i.size, i.bytes)) = some (some (.string ⟨#[]⟩), 1, 16) := by kernel_rfl
set_option maxHeartbeats 1000000 in
theorem clone_texts_in {w : World} {v : Value} {n : Nat} {xs : List Value} (h : RowIs w 1 v n xs) (h1 : ∀ u ∈ xs, u.oneCell' = true) (hn : n ≤ 2000000) :
    Calls Tryz.prog 47 #[v] w fun e w' => ∃ v', e = .returned v' ∧ w'.ownsRow w.heap.size 9 1 v' n xs ∧ Turns Nothing w w' := by
  obtain ⟨A, c, rfl, hat⟩ := h.at_
  cases A with
  | none =>
    obtain rfl : n = 0 := by
      rcases Nat.eq_zero_or_pos n with h0 | h0
      · exact h0
      · obtain ⟨b, off, e, -⟩ := hat h0
        cases e
    have hx : xs = [] := List.eq_nil_of_length_eq_zero (by rw [h.len, Nat.zero_mul])
    subst hx
    clear h hat
    have he := fun W => Lib.run_eql_slice_nil (P := Tryz.prog) W 55 9 none 0 c 0 0 Tryz.underlying55
    go_enter Tryz.func47, Tryz.ntmps47
    go_wp2_with fail
    go_ret
    exact ⟨_, rfl, World.ownsRow_nil _ _ _ _, Turns.refl _ _⟩
  | some a =>
    have he := fun W => Lib.run_eql_slice_nil (P := Tryz.prog) W 55 9 (some a) n c 0 0 Tryz.underlying55
    have HS := Lib.hid (h.src h1 Tryz.underlying55 (w' := w.alloc (.cells #[] 9)) (fun p hp => World.cell?_alloc_lt w _ p hp))
    have HO := Lib.hid (own_empty w 9 1)
    have HL := Lib.hid (And.intro (show 0 + n ≤ maxLen by simp only [maxLen]; omega) (And.intro (show ((0 + n) + (0 + n + 768) / 4 + 512) * 16 ≤ 281474976710656 by omega) (show w.heap.size ≤ (w.alloc (.cells #[] 9)).heap.size by simp [go_sem])))
    obtain ⟨i0, hi0, hz0, hz1, hz2⟩ := info_parts A.info_clone_texts
    clear h h1 hat
    go_enter Tryz.func47, Tryz.ntmps47
    go_wp2_with (first
      | (at_builtin
         refine wpList_append_src _ rfl (.tmp 5) (.tmp 6) _ _ rfl w.heap.size 9 i0 _ 1 16 Tryz.underlying55 hi0 hz0 hz1 hz2 rfl (.slice (some ⟨w.heap.size, 0, none⟩) 0 0) 0 [] rfl HO.out _ n xs rfl HS.out HL.out.1 HL.out.2.1 HL.out.2.2 ?_
         intro A1 cp1 w4 ho hg hat
         have HN := Lib.hid (And.intro ho hg)
         clear ho hg hat))
    go_ret
    obtain ⟨ho, hg⟩ := HN.out
    rw [Nat.zero_add, List.nil_append] at ho
    refine ⟨_, rfl, ho, ((Turns.refl Nothing w).alloc _).trans ((Turns.refl (fun b => b = w.heap.size) _).grown hg fun b hb e => ?_) fun b hb e => ?_⟩
    · simp only [Value.ownBlock, Option.some.injEq] at e
      exact e.symm
    · have e : b = w.heap.size := e
      omega
end Go.Proofs.YtiopaenonjhlnaaGreatDoor
