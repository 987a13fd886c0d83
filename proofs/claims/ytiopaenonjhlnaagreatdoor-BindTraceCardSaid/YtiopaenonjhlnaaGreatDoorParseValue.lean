/- The walks of package parse: Value, Has. -/
import Derived.Test.YtiopaenonjhlnaaGreatDoorParseEntry
import Derived.Test.YtiopaenonjhlnaaGreatDoorParseMem
import Derived.Shelf.SlicesQ.IndexFunc
namespace Go.Proofs.YtiopaenonjhlnaaGreatDoor
set_option maxRecDepth 8000
open Go.RowKit Go.Lib
open Lx (Bytes)

/-- flags in memory, to be read -/
structure FlagsAt (w : World) (v : Value) (l : List Px.Fl) : Prop where
  at_ : ∃ A c, v = .slice A l.length c ∧ (0 < l.length → ∃ b off, A = some ⟨b, off, none⟩ ∧ b < w.heap.size ∧ ∀ i, (h : i < l.length) → w.cell? ⟨b, off + i * 2, none⟩ = some (.int .u8 l[i].1.toNat) ∧ w.cell? ⟨b, off + i * 2 + 1, none⟩ = some (strV l[i].2))
  few : l.length ≤ 9223372036854775807
theorem FlagsAt.still {w w' : World} {v : Value} {l : List Px.Fl} (h : FlagsAt w v l) (ht : Turns Nothing w w') : FlagsAt w' v l := by
  obtain ⟨⟨A, c, rfl, h1⟩, h2⟩ := h
  refine ⟨⟨A, c, rfl, fun h0 => ?_⟩, h2⟩
  obtain ⟨b, off, hA, hb, hc⟩ := h1 h0
  exact ⟨b, off, hA, Nat.lt_of_lt_of_le hb ht.size, fun i hi => ⟨(ht.cell (p := ⟨b, _, none⟩) hb id).trans (hc i hi).1, (ht.cell (p := ⟨b, _, none⟩) hb id).trans (hc i hi).2⟩⟩
theorem own_flags {w : World} {B : Nat} {v : Value} {l : List Px.Fl} (h : w.ownsRow B 121 2 v l.length (flagCells l)) : FlagsAt w v l := by
  rcases h.2 with ⟨rfl, h0⟩ | ⟨g, cap, cur, rfl, hb, hg, h1, h2, _⟩
  · exact ⟨⟨none, 0, by rw [h0], fun hp => by omega⟩, by omega⟩
  · refine ⟨⟨_, cap, rfl, fun _ => ⟨g, 0, rfl, (Array.getElem?_eq_some_iff.1 hg).1, fun i hi => ?_⟩⟩, by unfold maxLen at h2; omega⟩
    have c := flagCells_at l i hi
    rw [Nat.zero_add, h.cellAt _ (by omega), h.cellAt _ (by omega)]
    exact c
set_option maxHeartbeats 1000000 in
theorem value_closure {w : World} {g : Nat} (c : UInt8) (x : Px.Fl) (h : w.cell? ⟨g, 0, none⟩ = some (.int .u8 c.toNat)) (hg : g < w.heap.size) : Calls Tryz.prog 61 #[.agg #[.int .u8 x.1.toNat, strV x.2], .pointer (some ⟨g, 0, none⟩)] w fun e w' =>
    e = .returned (.bool (x.1 == c)) ∧ Turns Nothing w w' := by
  have he : (x.1 == c) = ((x.1.toNat : Int) == (c.toNat : Int)) := by
    rw [Bool.eq_iff_iff, beq_iff_eq, beq_iff_eq, Px.u8_eq]
    omega
  rw [he]
  clear he
  simp only [strV]
  generalize (x.1.toNat : Int) = a
  go_enter Tryz.func61, Tryz.ntmps61
  go_wp2_with fail
  go_ret
  exact ⟨rfl, (Turns.refl _ _).alloc _⟩
set_option maxHeartbeats 1000000 in
theorem index_nil (w : World) (A : Option Addr) (cp : Nat) (fv : Value) : Calls Tryz.prog 60 #[.slice A 0 cp, fv] w fun e w' => e = .returned (.int .i64 (-1)) ∧ w = w' := by
  go_enter Tryz.func60, Tryz.ntmps60
  go_wp2_with fail
  refine wp_loop_rounds 1 ?_
  rw [rounds_succ]
  go_wp2_with fail
  go_ret
  exact ⟨rfl, rfl⟩
/-- where a letter is among flags -/
theorem idx_at (c : UInt8) : ∀ (l : List Px.Fl) (i : Nat), (Lib.idxByFrom (fun _ (y : Px.Fl) => y.1 == c) default l i = -1 ∧ Px.at_ l c = none) ∨ ∃ k, ∃ hk : k < l.length, Lib.idxByFrom (fun _ (y : Px.Fl) => y.1 == c) default l i = ((i + k : Nat) : Int) ∧ Px.at_ l c = some l[k].2
  | [], i => .inl ⟨rfl, rfl⟩
  | x :: l, i => by
    simp only [Lib.idxByFrom]
    by_cases e : x.1 = c
    · right
      exact ⟨0, by simp, by simp [e], by simp [Px.at_, e]⟩
    · have e2 : (x.1 == c) = false := beq_false_of_ne e
      have hat : Px.at_ (x :: l) c = Px.at_ l c := by simp only [Px.at_, List.find?_cons, e2]
      simp only [e2, hat, Bool.false_eq_true, if_false]
      rcases idx_at c l (i + 1) with h | ⟨k, hk, h1, h2⟩
      · exact .inl h
      · exact .inr ⟨k + 1, by simpa using hk, by rw [show i + (k + 1) = i + 1 + k by omega]; exact h1, by simpa using h2⟩
/-- slices.IndexFunc with the closure of Value -/
theorem index_in {w : World} {g : Nat} {c : UInt8} {v : Value} {l : List Px.Fl} (hl : FlagsAt w v l) (h : w.cell? ⟨g, 0, none⟩ = some (.int .u8 c.toNat)) (hg : g < w.heap.size) :
    Calls Tryz.prog 60 #[v, .func (.func 61) #[] #[.pointer (some ⟨g, 0, none⟩)]] w fun e w' => e = .returned (.int .i64 (Lib.idxBy (fun _ (y : Px.Fl) => y.1 == c) l default)) ∧ Turns Nothing w w' := by
  obtain ⟨⟨A, cp, rfl, hc⟩, hf⟩ := hl
  cases l with
  | nil =>
    refine (index_nil w A cp _).mono ?_
    rintro e w' ⟨rfl, rfl⟩
    exact ⟨rfl, Turns.refl _ _⟩
  | cons x l =>
    obtain ⟨b, off, rfl, hb, hcs⟩ := hc (by simp)
    have eg : ∀ args w, (callFunc 61 args).run Tryz.prog w = .ok (.enter 61 args) w := enters_of Tryz.func61 (by kernel_rfl) rfl
    have hp : PredBelow Tryz.prog 61 #[.pointer (some ⟨g, 0, none⟩)] (fun y : Px.Fl => .agg (flagCell y).toArray) (fun y => y.1 == c) w := fun W y hW => (value_closure (w := W) (g := g) c y (by rw [hW.cell (p := ⟨g, 0, none⟩) hg]; exact h) (Nat.lt_of_lt_of_le hg hW.size)).mono fun e w' ⟨he, ht⟩ =>
      ⟨he, hW.trans (ht.below hW.size fun _ _ e => e)⟩
    have hcon := AnyQ.slices_IndexFunc Tryz.indexFl 2 Tryz.isAgg121 Tryz.sizeOf121 flagCell (fun _ => rfl) (fun y : Px.Fl => y.1 == c) 61 #[.pointer (some ⟨g, 0, none⟩)] eg b off (x :: l).length cp (x :: l) w hp (Nat.le_refl _) hf hb (fun j hj i v hv => by
      have hcj := hcs j hj
      rw [getElem!_pos (x :: l) j hj] at hv
      have hi : i = 0 ∨ i = 1 := by
        have := (List.getElem?_eq_some_iff.1 hv).1
        simp [flagCell] at this
        omega
      rcases hi with rfl | rfl
      · simp [flagCell] at hv
        rw [← hv]
        exact hcj.1
      · simp [flagCell] at hv
        rw [← hv]
        exact hcj.2)
    change Calls Tryz.prog 60 _ _ _ at hcon
    rw [List.take_length] at hcon
    refine hcon.mono ?_
    rintro e w' ⟨rfl, hw⟩
    exact ⟨rfl, Turns.of_below hw fun b h1 h2 => absurd h2 (by omega)⟩
set_option maxHeartbeats 1000000 in
theorem value_of {w : World} {nm : ByteArray} {fv av : Value} {line : Int} {fl : List Px.Fl} (c : UInt8) (hf : FlagsAt w fv fl) (hav : ∃ A n cp, av = .slice A n cp) :
    Calls Tryz.prog 37 #[.agg #[.string nm, fv, av, .int .i64 line], .int .u8 c.toNat] w fun e w' => e = .returned (.tuple #[strV ((Px.at_ fl c).getD []), .bool (Px.at_ fl c).isSome]) ∧ Turns Nothing w w' := by
  have hmf : ∀ (fn : Fn) (first cap : Array Value) (w : World), (Instr.makeFunc fn first cap).run Tryz.prog w = .ok (.func fn first cap) w := fun _ _ _ _ => rfl
  obtain ⟨A2, n2, c2, rfl⟩ := hav
  have hix := idx_at c fl 0
  obtain ⟨A, cp, e, hc⟩ := hf.at_
  subst e
  have hff := hf.few
  have HF := Lib.hid hf
  have HC := Lib.hid hc
  clear hf hc
  have T := (((Turns.refl Nothing w).alloc (.cells #[.string nm, .slice A fl.length cp, .slice A2 n2 c2, .int .i64 line] 57)).alloc (.cells #[.int .u8 c.toNat] 5))
  have hb := Blk.new (w.alloc (.cells #[.string nm, .slice A fl.length cp, .slice A2 n2 c2, .int .i64 line] 57)) 5 #[.int .u8 c.toNat]
  rw [show (w.alloc (.cells #[.string nm, .slice A fl.length cp, .slice A2 n2 c2, .int .i64 line] 57)).heap.size = w.heap.size + 1 by simp [go_sem]] at hb
  have HI := Lib.hid (index_in (HF.out.still T) (hb.cell 0) hb.lt)
  have HB := Lib.hid (And.intro ((Blk.new w 57 #[.string nm, .slice A fl.length cp, .slice A2 n2 c2, .int .i64 line]).alloc (.cells #[.int .u8 c.toNat] 5)) T)
  clear T hb
  rcases hix with ⟨h1, h2⟩ | ⟨k, hk, h1, h2⟩
  · rw [h2]
    have H1 := Lib.hid (show Lib.idxBy (fun _ (y : Px.Fl) => y.1 == c) fl default = -1 from h1)
    clear h1 h2
    go_enter Tryz.func37, Tryz.ntmps37
    go_wp2_with fail
    refine HI.out.mono ?_
    rintro e w1 ⟨rfl, ht⟩
    have hk1 : w1.cell? ⟨w.heap.size, 1, none⟩ = some (.slice A fl.length cp) := (ht.blk HB.out.1 id).cell 1
    have HT := Lib.hid (HB.out.2.same ht)
    clear ht
    rw [H1.out]
    go_wp2_with fail
    refine bodyPost_ret (results_tmp2 rfl _ _ _) rfl ?_
    exact ⟨rfl, HT.out⟩
  · rw [h2]
    rw [Nat.zero_add] at h1
    have H1 := Lib.hid (show Lib.idxBy (fun _ (y : Px.Fl) => y.1 == c) fl default = (k : Int) from h1)
    clear h1 h2
    obtain ⟨b, off, rfl, hb, hcs⟩ := HC.out (by omega)
    have hy := (hcs k hk).2
    simp only [Option.getD, Option.isSome, strV] at hy ⊢
    generalize (⟨fl[k].2.toArray⟩ : ByteArray) = tx at hy ⊢
    clear hcs
    go_enter Tryz.func37, Tryz.ntmps37
    go_wp2_with fail
    refine HI.out.mono ?_
    rintro e w1 ⟨rfl, ht⟩
    have hk1 : w1.cell? ⟨w.heap.size, 1, none⟩ = some (.slice (some ⟨b, off, none⟩) fl.length cp) := (ht.blk HB.out.1 id).cell 1
    have HT := Lib.hid (HB.out.2.same ht)
    have y1 := (HT.out.cell (p := ⟨b, off + k * 2 + 1, none⟩) hb id).trans hy
    clear ht
    rw [H1.out]
    go_wp2_with fail
    refine bodyPost_ret (results_tmp2 rfl _ _ _) rfl ?_
    exact ⟨rfl, HT.out⟩
set_option maxHeartbeats 1000000 in
theorem has_of {w : World} {nm : ByteArray} {fv av : Value} {line : Int} {fl : List Px.Fl} (c : UInt8) (hf : FlagsAt w fv fl) (hav : ∃ A n cp, av = .slice A n cp) :
    Calls Tryz.prog 36 #[.agg #[.string nm, fv, av, .int .i64 line], .int .u8 c.toNat] w fun e w' => e = .returned (.bool (Px.at_ fl c).isSome) ∧ Turns Nothing w w' := by
  obtain ⟨A2, n2, c2, rfl⟩ := hav
  obtain ⟨A, cp, e, hc⟩ := hf.at_
  subst e
  have T := ((Turns.refl Nothing w).alloc (.cells #[.string nm, .slice A fl.length cp, .slice A2 n2 c2, .int .i64 line] 57))
  have HV := Lib.hid (And.intro (value_of (nm := nm) (line := line) c (hf.still T) ⟨A2, n2, c2, rfl⟩) T)
  clear hf hc T
  generalize Px.at_ fl c = o at HV ⊢
  go_enter Tryz.func36, Tryz.ntmps36
  go_wp2_with fail
  refine HV.out.1.mono ?_
  rintro e w1 ⟨rfl, ht⟩
  have HT := Lib.hid (HV.out.2.same ht)
  clear ht
  go_wp2_with fail
  go_ret
  exact ⟨rfl, HT.out⟩
end Go.Proofs.YtiopaenonjhlnaaGreatDoor
