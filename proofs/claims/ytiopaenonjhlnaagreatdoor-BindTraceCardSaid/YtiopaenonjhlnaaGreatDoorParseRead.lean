/- The walk of package parse: read: the flags of words. -/
import Derived.Test.YtiopaenonjhlnaaGreatDoorParseTakes
import Derived.Test.YtiopaenonjhlnaaGreatDoorParseEntry
import Derived.Maps.OwnSet
import Derived.Maps.StringElems
import Derived.Deep.CutBlock
import Derived.Deep.LoopGhost
import Derived.Deep.DeepCutAuto
import Derived.BigRegion
namespace Go.Proofs.YtiopaenonjhlnaaGreatDoor
set_option maxRecDepth 8000
open Go.RowKit Go.Maps
open Lx (Bytes)

theorem A.law : Keyed Tryz.prog 5 := int_keyed Tryz.underlying5
theorem A.key_of (c : UInt8) : keyOf Tryz.prog 5 (.int .u8 c.toNat) = some (Px.key c) := keyOf_int_mk Tryz.underlying5 (by
  have := c.toNat_lt
  exact WalkArith.wf_u8 (by omega))
abbrev FMap (w : World) (M : Nat) (m : List Px.Fl) (D : DataW Unit) : Prop := Px.MapRel Tryz.prog 5 (plainElem (H := Unit) Tryz.prog 9) w M m D
abbrev rowCs (r : Px.Row) : Array Value := #[strV r.name, strV r.others, strV r.flags, .int .i64 r.few, .int .i64 r.most]
theorem FMap.still {w w' : World} {M : Nat} {m : List Px.Fl} {D : DataW Unit} (h : FMap w M m D) (ht : Turns Nothing w w') : FMap w' M m D := Px.MapRel.kept h (ht.block M h.lt id)

/-- the words and the flags, before a word -/
structure ReadRel (w wr : World) (r : Px.Row) (R : Option (List Px.PW × List Px.Fl)) (v : Value) (l : List Px.PW) (m : List Px.Fl) (D : DataW Unit) : Prop where
  words : PWordsAt w v l
  spec : Px.flagsN r l.length l m = R
  map : FMap wr (w.heap.size + 1) m D
  row : Blk wr w.heap.size 139 (rowCs r)
  turns : Turns Nothing w wr
/-- .. within a word: t: its letters that are to come -/
structure InRel (w wr : World) (r : Px.Row) (R : Option (List Px.PW × List Px.Fl)) (N : Nat) (t : Bytes) (v : Value) (l : List Px.PW) (m : List Px.Fl) (D : DataW Unit) : Prop where
  words : PWordsAt w v l
  spec : (match Px.letters r t l m with
    | none => none
    | some x => Px.flagsN r x.1.length x.1 x.2) = R
  map : FMap wr (w.heap.size + 1) m D
  row : Blk wr w.heap.size 139 (rowCs r)
  turns : Turns Nothing w wr
  le : l.length ≤ N
  small : t.length ≤ maxLen
theorem InRel.still {w wr w1 : World} {r : Px.Row} {R : Option (List Px.PW × List Px.Fl)} {N : Nat} {t : Bytes} {v : Value} {l : List Px.PW} {m : List Px.Fl} {D : DataW Unit} (h : InRel w wr r R N t v l m D) (ht : Turns Nothing wr w1) : InRel w w1 r R N t v l m D :=
  ⟨h.words, h.spec, h.map.still ht, ht.blk h.row id, h.turns.same ht, h.le, h.small⟩
theorem ReadRel.flag {w wr : World} {r : Px.Row} {R : Option (List Px.PW × List Px.Fl)} {v v' : Value} {x : Px.PW} {l : List Px.PW} {m : List Px.Fl} {D : DataW Unit} (h : ReadRel w wr r R v (x :: l) m D) (hf : Px.isFlag x = true) (hd : ¬ x.text.tail = [45]) (hw : PWordsAt w v' l) :
    InRel w wr r R l.length x.text.tail v' l m D := by
  refine ⟨hw, ?_, h.map, h.row, h.turns, Nat.le_refl _, ?_⟩
  · have hs := h.spec
    simp only [List.length_cons, Px.flagsN, hf, if_true, hd, if_false] at hs
    rw [← hs]
    cases he : Px.letters r x.text.tail l m with
    | none => rfl
    | some y =>
      have hl := Px.letters_len (l' := y.1) (m' := y.2) he
      exact Px.flagsN_fuel _ _ _ _ (Nat.le_refl _) hl
  · have := h.words.small x List.mem_cons_self
    rw [List.length_tail]
    omega
theorem ReadRel.dash {w wr : World} {r : Px.Row} {R : Option (List Px.PW × List Px.Fl)} {v : Value} {x : Px.PW} {l : List Px.PW} {m : List Px.Fl} {D : DataW Unit} (h : ReadRel w wr r R v (x :: l) m D) (hf : Px.isFlag x = true) (hd : x.text.tail = [45]) : some (l, m) = R := by
  have hs := h.spec
  simp only [List.length_cons, Px.flagsN, hf, if_true, hd] at hs
  exact hs
theorem InRel.done {w wr : World} {r : Px.Row} {R : Option (List Px.PW × List Px.Fl)} {N : Nat} {t : Bytes} {v : Value} {l : List Px.PW} {m : List Px.Fl} {D : DataW Unit} (h : InRel w wr r R N t v l m D) (ht : t = []) : ReadRel w wr r R v l m D := by
  subst ht
  exact ⟨h.words, h.spec, h.map, h.row, h.turns⟩
/-- a letter that the command has not -/
theorem InRel.none_ {w wr : World} {r : Px.Row} {R : Option (List Px.PW × List Px.Fl)} {N : Nat} {c : UInt8} {t : Bytes} {v : Value} {l : List Px.PW} {m : List Px.Fl} {D : DataW Unit} (h : InRel w wr r R N (c :: t) v l m D) (hk : Px.takes r c = none) : R = none := by
  have hs := h.spec
  simp only [Px.letters, hk] at hs
  exact hs.symm
theorem InRel.lacks {w wr : World} {r : Px.Row} {R : Option (List Px.PW × List Px.Fl)} {N : Nat} {c : UInt8} {v : Value} {m : List Px.Fl} {D : DataW Unit} (h : InRel w wr r R N [c] v [] m D) (hk : Px.takes r c = some true) : R = none := by
  have hs := h.spec
  simp only [Px.letters, hk] at hs
  exact hs.symm
/-- a letter with nothing -/
theorem InRel.bare {w wr w1 : World} {r : Px.Row} {R : Option (List Px.PW × List Px.Fl)} {N : Nat} {c : UInt8} {t : Bytes} {v : Value} {l : List Px.PW} {m : List Px.Fl} {D : DataW Unit} (h : InRel w wr r R N (c :: t) v l m D) (hk : Px.takes r c = some false)
    (ho : w1.ownsMap Tryz.prog 5 (plainElem (H := Unit) Tryz.prog 9) (w.heap.size + 1) (m.length + 1) (D.put (Px.key c) (.lit (.string [])))) (hg : wr.grownBy w1 (some (w.heap.size + 1))) :
    InRel w w1 r R N t v l (Px.putF (c, []) m) (D.put (Px.key c) (.lit (.string []))) := by
  have hs := h.spec
  simp only [Px.letters, hk] at hs
  exact ⟨h.words, hs, Px.MapRel.put h.map A.law ho, h.row.grown hg (by simp), h.turns.grown hg fun b hb e => by injection e with e; omega, h.le, by have := h.small; rw [List.length_cons] at this; omega⟩
/-- a letter with the word's rest -/
theorem InRel.full {w wr w1 : World} {r : Px.Row} {R : Option (List Px.PW × List Px.Fl)} {N : Nat} {c : UInt8} {u : Bytes} {v : Value} {l : List Px.PW} {m : List Px.Fl} {D : DataW Unit} (h : InRel w wr r R N (c :: u) v l m D) (hk : Px.takes r c = some true) (hu : u ≠ [])
    (ho : w1.ownsMap Tryz.prog 5 (plainElem (H := Unit) Tryz.prog 9) (w.heap.size + 1) (m.length + 1) (D.put (Px.key c) (.lit (.string u)))) (hg : wr.grownBy w1 (some (w.heap.size + 1))) :
    InRel w w1 r R N [] v l (Px.putF (c, u) m) (D.put (Px.key c) (.lit (.string u))) := by
  have hs := h.spec
  cases u with
  | nil => exact absurd rfl hu
  | cons a u =>
    simp only [Px.letters, hk] at hs
    exact ⟨h.words, hs, Px.MapRel.put h.map A.law ho, h.row.grown hg (by simp), h.turns.grown hg fun b hb e => by injection e with e; omega, h.le, Nat.zero_le _⟩
/-- a letter with the next word -/
theorem InRel.next {w wr w1 : World} {r : Px.Row} {R : Option (List Px.PW × List Px.Fl)} {N : Nat} {c : UInt8} {v v' : Value} {y : Px.PW} {l : List Px.PW} {m : List Px.Fl} {D : DataW Unit} (h : InRel w wr r R N [c] v (y :: l) m D) (hk : Px.takes r c = some true)
    (ho : w1.ownsMap Tryz.prog 5 (plainElem (H := Unit) Tryz.prog 9) (w.heap.size + 1) (m.length + 1) (D.put (Px.key c) (.lit (.string y.text)))) (hg : wr.grownBy w1 (some (w.heap.size + 1))) (hw : PWordsAt w v' l) :
    InRel w w1 r R N [] v' l (Px.putF (c, y.text) m) (D.put (Px.key c) (.lit (.string y.text))) := by
  have hs := h.spec
  simp only [Px.letters, hk] at hs
  exact ⟨hw, hs, Px.MapRel.put h.map A.law ho, h.row.grown hg (by simp), h.turns.grown hg fun b hb e => by injection e with e; omega, by have := h.le; rw [List.length_cons] at this; omega, Nat.zero_le _⟩
theorem ReadRel.plain {w wr : World} {r : Px.Row} {R : Option (List Px.PW × List Px.Fl)} {v : Value} {x : Px.PW} {l : List Px.PW} {m : List Px.Fl} {D : DataW Unit} (h : ReadRel w wr r R v (x :: l) m D) (hf : Px.isFlag x = false) : some (x :: l, m) = R := by
  have hs := h.spec
  simp only [List.length_cons, Px.flagsN, hf] at hs
  exact hs
theorem A.zero_str (w : World) : (zeroValue 9).run Tryz.prog w = .ok (.string ⟨#[]⟩) w := by kernel_rfl
def lenV : Value → Nat
  | .slice _ n _ => n
  | _ => 0
theorem sl_head {T : ByteArray} (h : 0 < T.size) : sl T = T[0] :: sl (T.extract 1 T.size) := by
  have hl : 0 < (sl T).length := by rw [sl_size]; exact h
  have e : sl (T.extract 1 T.size) = (sl T).drop 1 := by
    simp [sl]
    exact List.take_of_length_le (by rw [List.length_tail]; simp)
  rw [e]
  have := List.drop_eq_getElem_cons hl
  rw [List.drop_zero] at this
  rw [this]
  rfl
theorem sl_nil {T : ByteArray} (h : T.size = 0) : sl T = [] := List.length_eq_zero_iff.1 (by rw [← h]; exact sl_size T)
theorem A.info_flag : (Tryz.prog.info? 121).map (fun i => (i.zero, i.size, i.bytes)) = some (some (.agg #[.int .u8 0, .string ⟨#[]⟩]), 2, 24) := by kernel_rfl
/-- the flags that a range over the map has met -/
structure SRel (w wr : World) (it : Nat) (m : List Px.Fl) (D : DataW Unit) (left : Lit → Bool) (cnt : Nat) (acc : List Px.Fl) (v : Value) : Prop where
  iter : wr.ranges Tryz.prog 5 (plainElem (H := Unit) Tryz.prog 9) (w.heap.size + 1) it m.length D left cnt
  coll : Px.Coll D m left acc
  own : wr.ownsRow (it + 1) 121 2 v acc.length (flagCells acc)
  few : acc.length + cnt ≤ 256
  turns : Turns Nothing w wr
  low : w.heap.size + 1 < it
  size : it + 1 ≤ wr.heap.size
  agree : Px.Agree D m
  sorted : Px.Sorted m
/-- .. in the middle of a round -/
structure SStep (w wr : World) (it : Nat) (m : List Px.Fl) (D : DataW Unit) (left : Lit → Bool) (cnt : Nat) (acc acc' : List Px.Fl) (v : Value) : Prop where
  iter : wr.ranges Tryz.prog 5 (plainElem (H := Unit) Tryz.prog 9) (w.heap.size + 1) it m.length D left cnt
  coll : Px.Coll D m left acc'
  own : wr.ownsRow (it + 1) 121 2 v acc.length (flagCells acc)
  few : acc.length + 1 + cnt ≤ 256
  turns : Turns Nothing w wr
  low : w.heap.size + 1 < it
  size : it + 1 ≤ wr.heap.size
  agree : Px.Agree D m
  sorted : Px.Sorted m
theorem SRel.start {w wc w0 : World} {m : List Px.Fl} {D : DataW Unit} (hm : FMap wc (w.heap.size + 1) m D) (ht : Turns Nothing w wc)
    (hrg : w0.ranges Tryz.prog 5 (plainElem (H := Unit) Tryz.prog 9) (w.heap.size + 1) wc.heap.size m.length D (Maps.has D) (Maps.size D)) (hg : wc.grownBy w0 none) (hs : w0.heap.size = wc.heap.size + 1) :
    SRel w w0 wc.heap.size m D (Maps.has D) (Maps.size D) [] (.slice none 0 0) := by
  refine ⟨hrg, Px.Coll.start hm.agree hm.sorted, World.ownsRow_nil _ _ _ _, ?_, ht.grown hg (fun b _ e => by cases e), hm.lt, by omega, hm.agree, hm.sorted⟩
  have := hm.few
  rw [hm.size]
  simpa using this
def PReadPost (w : World) (R : Option (List Px.PW × List Px.Fl)) (e : Ending) (w' : World) : Prop := Turns Nothing w w' ∧ match R with
  | none => e = .returned (.tuple #[.slice none 0 0, .slice none 0 0, .bool false])
  | some (rest, m) => ∃ fv rv, e = .returned (.tuple #[fv, rv, .bool true]) ∧ w'.ownsRow w.heap.size 121 2 fv m.length (flagCells m) ∧ PWordsAt w' rv rest
theorem u8_range {x : Int} (h : (Lit.int .u8 x).wf = true) : 0 ≤ x ∧ x ≤ 255 := by
  unfold Lit.wf at h
  rw [Bool.and_eq_true, decide_eq_true_eq, decide_eq_true_eq] at h
  exact ⟨h.1, h.2⟩
theorem own_weak {w : World} {B B' : Nat} {e : TypeId} {size n : Nat} {v : Value} {xs : List Value} (h : w.ownsRow B e size v n xs) (hB : B' ≤ B) : w.ownsRow B' e size v n xs := by
  refine ⟨h.1, h.2.imp id ?_⟩
  rintro ⟨g, cap, cur, e1, hb, rest⟩
  exact ⟨g, cap, cur, e1, Nat.le_trans hB hb, rest⟩
theorem SRel.post {w wr w' : World} {it cp : Nat} {A : Option Addr} {m : List Px.Fl} {D : DataW Unit} {left : Lit → Bool} {cnt : Nat} {acc : List Px.Fl} {rest : List Px.PW} {s1 : Value} (h : SRel w wr it m D left cnt acc (.slice A acc.length cp)) (hp : acc.Perm m)
    (ho : w'.ownsRow (it + 1) 121 2 (.slice A m.length cp) m.length (flagCells m)) (hg : wr.grownBy w' (Value.slice A acc.length cp).ownBlock) (hw : PWordsAt w s1 rest) :
    PReadPost w (some (rest, m)) (.returned (.tuple #[.slice A acc.length cp, s1, .bool true])) w' := by
  have ht : Turns Nothing w w' := h.turns.grown hg fun b hb e => by
    have := (h.own.lt b e).1
    have := h.low
    omega
  refine ⟨ht, _, _, rfl, ?_, hw.still ht⟩
  rw [hp.length_eq]
  exact own_weak ho (by have := h.low; omega)
theorem SRel.step {w wr w1 : World} {it : Nat} {m : List Px.Fl} {D : DataW Unit} {left : Lit → Bool} {cnt cnt1 : Nat} {acc : List Px.Fl} {v : Value} {cb : UInt8} {c : ByteArray} (h : SRel w wr it m D left cnt acc v) (hl : left (.int .u8 cb.toNat) = true)
    (hv : ∀ z, D.atKey (.int .u8 cb.toNat) z = .lit (.string c.data.toList)) (hrg : w1.ranges Tryz.prog 5 (plainElem (H := Unit) Tryz.prog 9) (w.heap.size + 1) it m.length D (fun z => left z && !z.sameKey (.int .u8 cb.toNat)) cnt1) (hlt : cnt1 < cnt)
    (hg : wr.grownBy w1 (some it)) : SStep w w1 it m D (fun z => left z && !z.sameKey (.int .u8 cb.toNat)) cnt1 acc (acc ++ [(cb, sl c)]) v := by
  refine ⟨hrg, h.coll.step h.agree h.sorted hl hv, ?_, ?_, h.turns.grown hg fun b hb e => ?_, h.low, ?_, h.agree, h.sorted⟩
  · exact ((Turns.refl (fun b => b = it) wr).grown hg fun b hb e => by injection e with e; exact e.symm).own h.own fun g hg2 e => by have := (h.own.lt g hg2).1; omega
  · have := h.few; omega
  · injection e with e; have := h.low; omega
  · have := h.size; have := hg.size; omega
theorem SStep.push {w w1 w3 : World} {it : Nat} {m : List Px.Fl} {D : DataW Unit} {left : Lit → Bool} {cnt : Nat} {acc : List Px.Fl} {v v' : Value} {cb : UInt8} {c : ByteArray} {o : Obj} (h : SStep w w1 it m D left cnt acc (acc ++ [(cb, sl c)]) v)
    (hg : (w1.alloc o).grownBy w3 v.ownBlock) (ho : w3.ownsRow (it + 1) 121 2 v' (acc.length + 1) (flagCells acc ++ [.int .u8 cb.toNat, .string c])) :
    SRel w w3 it m D left cnt (acc ++ [(cb, sl c)]) v' := by
  have hne : ∀ b, b ≤ it → some b ≠ v.ownBlock := fun b hb e => by have := (h.own.lt b e.symm).1; omega
  refine ⟨(h.iter.alloc o).kept hg (hne _ (by have := h.low; omega)) (hne _ (Nat.le_refl _)), h.coll, ?_, ?_, (h.turns.alloc o).grown hg fun b hb e => ?_, h.low, ?_, h.agree, h.sorted⟩
  · have e : flagCells (acc ++ [(cb, sl c)]) = flagCells acc ++ [.int .u8 cb.toNat, .string c] := by
      simp [flagCells, flagCell, sl]
    rw [List.length_append, e]
    exact ho
  · have := h.few; rw [List.length_append, List.length_singleton]; omega
  · have := (h.own.lt b e).1; have := h.low; omega
  · have h1 := h.size; have h2 := hg.size; simp [go_sem] at h2; omega
theorem flags_fuel (r : Px.Row) (l0 : List Px.PW) : Px.flagsN r l0.length l0 [] = Px.flags r l0 := Px.flagsN_fuel _ _ _ _ (Nat.le_refl _) (Nat.le_succ _)

set_option maxHeartbeats 2000000 in
theorem pread_in {w : World} (r : Px.Row) (hfl : r.flags.length ≤ 1000) (v : Value) (l0 : List Px.PW) (hl : PWordsAt w v l0) :
    Calls Tryz.prog 58 #[rowV r, v] w (PReadPost w (Px.flags r l0)) := by
  have HL := Lib.hid hl
  have HTK := Lib.hid (fun (w : World) (c : UInt8) => takes_in w r c hfl)
  clear hl hfl
  have HS := Lib.hid (flags_fuel r l0)
  generalize Px.flags r l0 = R at HS ⊢
  have hmm := @run_makeMap Tryz.prog
  simp only [rowV]
  go_enter Tryz.func58, Tryz.ntmps58
  go_upto_block 0 with fail
  clear hmm
  go_cut [1] (fun s1 wx => ∃ rest m D, R = some (rest, m) ∧ PWordsAt w s1 rest ∧ FMap wx (w.heap.size + 1) m D ∧ Turns Nothing w wx)
  case first =>
    go_wp2_with fail
    go_loopg [1] l0.length (fun g v wr => ∃ l m D, g = l.length ∧ ReadRel w wr r R v l m D)
    case atStart => exact ⟨l0, [], _, rfl, HL.out, HS.out, Px.MapRel.start (by
      have := World.ownsMap_made (H := Unit) (w.alloc (.cells (rowCs r) 139)) Tryz.prog 5 (plainElem Tryz.prog 9)
      rwa [show (w.alloc (.cells (rowCs r) 139)).heap.size = w.heap.size + 1 by simp [go_sem]] at this), (Blk.new w _ _).alloc _, ((Turns.refl _ w).alloc _).alloc _⟩
    case round =>
      obtain ⟨l, m, D, rfl, hR⟩ := hrel
      cases l with
      | nil =>
        obtain ⟨A, c, rfl⟩ := hR.words.nil
        have HR := Lib.hid hR
        clear hR
        go_wp2_with fail
        go_meet
        exact ⟨[], m, D, HR.out.spec.symm, HR.out.words, HR.out.map, HR.out.turns⟩
      | cons x l =>
        obtain ⟨b, off, c, rfl, hc1, hc2, hb, x0, x1, x2, htl⟩ := hR.words.cons2 hR.turns
        simp only [strV] at x0
        have HR := Lib.hid (And.intro hR htl)
        clear hR htl
        obtain ⟨X, hX⟩ : ∃ X : ByteArray, X = ⟨x.text.toArray⟩ := ⟨_, rfl⟩
        have HX := Lib.hid (show sl X = x.text by rw [hX]; rfl)
        rw [← hX] at x0
        clear hX
        cases hbl : x.block with
        | true =>
          rw [hbl] at x2
          go_wp2_with fail
          go_meet
          have hf : Px.isFlag x = false := by simp [Px.isFlag, hbl]
          exact ⟨x :: l, m, D, (HR.out.1.plain hf).symm, HR.out.1.words, HR.out.1.map, HR.out.1.turns⟩
        | false =>
          rw [hbl] at x2
          have HB := Lib.hid hbl
          clear hbl
          by_cases h1 : 1 < X.size
          · have h1' : (1 : Int) < (X.size : Int) := by omega
            have h0 : 0 < X.size := by omega
            have HH := Lib.hid (sl_head h0)
            by_cases h2 : (X[0].toNat : Int) = 45
            · have hf : Px.isFlag x = true := by
                rw [Px.isFlag, HB.out, ← HX.out, HH.out]
                have e : X[0] = 45 := UInt8.toNat_inj.1 (by show X[0].toNat = 45; omega)
                rw [e]
                have : 1 < (sl X).length := by rw [sl_size]; exact h1
                rw [HH.out, List.length_cons] at this
                simpa using this
              have HF := Lib.hid hf
              clear hf
              by_cases h3 : sl (X.extract 1 X.size) = [45]
              · have h3' : ((X.extract 1 X.size).toList == [45]) = true := by rw [beq_iff_eq, txt_list]; exact h3
                have hd := HR.out.1.dash HF.out (by rw [← HX.out, HH.out]; exact h3)
                have HD := Lib.hid hd
                clear h3 hd
                by_cases hc0 : c = 0
                · subst hc0
                  obtain rfl : l = [] := List.length_eq_zero_iff.1 (by omega)
                  have hw := HR.out.2
                  rw [if_pos rfl] at hw
                  have HW := Lib.hid hw
                  clear hw
                  go_wp2_with fail
                  go_meet
                  exact ⟨[], m, D, HD.out.symm, HW.out, HR.out.1.map, HR.out.1.turns⟩
                · have hw := HR.out.2
                  rw [if_neg hc0] at hw
                  have HW := Lib.hid hw
                  clear hw
                  go_wp2_with fail
                  go_meet
                  exact ⟨l, m, D, HD.out.symm, HW.out, HR.out.1.map, HR.out.1.turns⟩
              · have h3' : ((X.extract 1 X.size).toList == [45]) = false := by rw [beq_eq_false_iff_ne, txt_list]; exact h3
                have hI := HR.out.1.flag HF.out (by rw [← HX.out, HH.out]; exact h3) HR.out.2
                rw [show x.text.tail = sl (X.extract 1 X.size) by rw [← HX.out, HH.out]; rfl] at hI
                have HI := Lib.hid hI
                clear h3 hI
                go_upto_block 2 with fail
                clear x0 x1 x2 h3'
                generalize (if c = 0 then some (⟨b, off, none⟩ : Addr) else some ⟨b, off + 3, none⟩) = A1 at HI ⊢
                go_wp2_with fail
                go_loopg [1, 8] (X.extract 1 X.size).size (fun g v t wr => ∃ T l1 m1 D1, t = .string T ∧ g = T.size ∧ InRel w wr r R l.length (sl T) v l1 m1 D1)
                case atStart => exact ⟨_, l, m, D, rfl, rfl, HI.out⟩
                case round =>
                  obtain ⟨T, l1, m1, D1, rfl, rfl, hI⟩ := hrel
                  have HI2 := Lib.hid hI
                  by_cases hT : 0 < T.size
                  · have hemp : T.toList.isEmpty = false := by
                      have := sl_size T
                      rw [txt_list, List.isEmpty_eq_false_iff]
                      intro e
                      rw [e] at this
                      simp at this
                      omega
                    obtain ⟨p0, p1, p2, p3, p4⟩ := five_cells hI.row
                    simp only [strV] at p0 p1 p2
                    have hz := hI.row.lt
                    have hz2 := hI.map.lt
                    have HH2 := Lib.hid (sl_head hT)
                    obtain ⟨cb, hcb⟩ : ∃ cb, T[0] = cb := ⟨_, rfl⟩
                    obtain ⟨T1, hT1⟩ : ∃ T1, T.extract 1 T.size = T1 := ⟨_, rfl⟩
                    have hTs : 0 < (T.size : Int) := by omega
                    rw [hcb, hT1] at HH2
                    clear hI
                    go_wp2_with fail
                    refine (HTK.out _ cb).mono ?_
                    rintro e w1 ⟨rfl, ht⟩
                    have hI3 := HI2.out.still ht
                    rw [HH2.out] at hI3
                    have HI3 := Lib.hid hI3
                    have hTz : T.size = T1.size + 1 := by
                      have := congrArg List.length HH2.out
                      rwa [List.length_cons, sl_size, sl_size] at this
                    clear p0 p1 p2 p3 p4 hz hz2 ht hI3 HH2
                    cases hk : Px.takes r cb with
                    | none =>
                      have HK := Lib.hid hk
                      clear hk
                      simp only [Option.isSome, Option.getD]
                      go_wp2_with fail
                      refine bodyPost_ret (results_tmp3 rfl _ _ _) rfl ?_
                      rw [HI3.out.none_ HK.out]
                      exact ⟨HI3.out.turns, rfl⟩
                    | some vb =>
                      cases vb with
                      | false =>
                        have HK := Lib.hid hk
                        clear hk
                        simp only [Option.isSome, Option.getD]
                        have hfew := HI3.out.map.few
                        have hmx : m1.length < maxLen := by simp only [maxLen]; omega
                        have HO := Lib.hid (And.intro HI3.out.map.own (And.intro hmx (And.intro (A.key_of cb) (plainElem_string (H := Unit) Tryz.underlying9 (s := ⟨#[]⟩) (Nat.zero_le _)))))
                        clear hfew hmx
                        go_wp2_with (first
                          | (at_mapUpdate
                             refine wpList_mapUpdate_own _ rfl _ _ _ 182 rfl 5 9 A.law Tryz.underlying182 _ (w.heap.size + 1) m1.length D1 rfl HO.out.1 HO.out.2.1 _ _ (Px.key cb) rfl rfl HO.out.2.2.1 _ [] HO.out.2.2.2 ?_
                             intro w2 hown2 hgrow2
                             have HM := Lib.hid (And.intro hown2 hgrow2)
                             clear hown2 hgrow2))
                        go_roundg T1.size
                        case measure => omega
                        case rel => exact ⟨T1, l1, _, _, rfl, rfl, HI3.out.bare HK.out HM.out.1 HM.out.2⟩
                      | true =>
                        have HK := Lib.hid hk
                        clear hk
                        simp only [Option.isSome, Option.getD]
                        by_cases hT1z : 0 < T1.size
                        · have hemp1 : T1.toList.isEmpty = false := by
                            have := sl_size T1
                            rw [txt_list, List.isEmpty_eq_false_iff]
                            intro e
                            rw [e] at this
                            simp at this
                            omega
                          have hfew := HI3.out.map.few
                          have hsm := HI3.out.small
                          rw [List.length_cons, sl_size] at hsm
                          have hmx : m1.length < maxLen := by simp only [maxLen]; omega
                          have HO := Lib.hid (And.intro HI3.out.map.own (And.intro hmx (And.intro (A.key_of cb) (plainElem_string (H := Unit) Tryz.underlying9 (s := T1) (by omega)))))
                          clear hfew hmx hsm
                          go_wp2_with (first
                            | (at_mapUpdate
                               refine wpList_mapUpdate_own _ rfl _ _ _ 182 rfl 5 9 A.law Tryz.underlying182 _ (w.heap.size + 1) m1.length D1 rfl HO.out.1 HO.out.2.1 _ _ (Px.key cb) rfl rfl HO.out.2.2.1 _ [] HO.out.2.2.2 ?_
                               intro w2 hown2 hgrow2
                               have HM := Lib.hid (And.intro hown2 hgrow2)
                               clear hown2 hgrow2))
                          go_roundg 0
                          case measure => omega
                          case rel =>
                            refine ⟨⟨#[]⟩, l1, _, _, rfl, rfl, HI3.out.full HK.out ?_ HM.out.1 HM.out.2⟩
                            intro e
                            have := sl_size T1
                            rw [e] at this
                            simp at this
                            omega
                        · have hemp1 : T1.toList.isEmpty = true := by rw [txt_list, sl_nil (by omega)]; rfl
                          have hI4 := HI3.out
                          rw [sl_nil (by omega : T1.size = 0)] at hI4
                          cases l1 with
                          | nil =>
                            obtain ⟨A4, c4, rfl⟩ := hI4.words.nil
                            have HI4 := Lib.hid hI4
                            clear hI4
                            go_wp2_with fail
                            refine bodyPost_ret (results_tmp3 rfl _ _ _) rfl ?_
                            rw [HI4.out.lacks HK.out]
                            exact ⟨HI4.out.turns, rfl⟩
                          | cons y l2 =>
                            obtain ⟨b4, off4, c4, rfl, hc41, hc42, hb4, y0, y1, y2, htl4⟩ := hI4.words.cons2 hI4.turns
                            obtain ⟨A5, hA5⟩ : ∃ A5, (if c4 = 0 then some (⟨b4, off4, none⟩ : Addr) else some ⟨b4, off4 + 3, none⟩) = A5 := ⟨_, rfl⟩
                            rw [hA5] at htl4
                            have hfew := hI4.map.few
                            have hmx : m1.length < maxLen := by simp only [maxLen]; omega
                            obtain ⟨v0, st, wA, wB, hE, hS, hgA, hsA, hoB, hgB⟩ := entry_store (w := w1.drew) A.law Tryz.underlying182 (Px.MapRel.kept hI4.map rfl).own hmx (A.key_of cb) (plainElem_string (H := Unit) Tryz.underlying9 (s := ⟨y.text.toArray⟩) (by have := hI4.words.small y List.mem_cons_self; show y.text.toArray.size ≤ _; simpa using this)) A.zero_str
                            have hb5 : b4 ≠ w.heap.size + 1 := by omega
                            have yA : wA.cell? ⟨b4, off4, none⟩ = some (strV y.text) := (hgA.cell y0 (by simpa using hb5))
                            simp only [strV] at y0 yA
                            simp only [goInt] at hE hS
                            have HI4 := Lib.hid (And.intro hI4 htl4)
                            have HG := Lib.hid (And.intro hoB hgB)
                            clear hI4 htl4 y1 y2 hoB hgB hgA hsA hfew hmx
                            go_wp2_with fail
                            go_region
                            go_wp2_with fail
                            go_roundg T1.size
                            case measure => omega
                            case rel =>
                              have g := HG.out.2
                              have hN := HI4.out.1.next HK.out HG.out.1 ⟨g.os, g.tape, g.output, g.size, g.block⟩ HI4.out.2
                              have hN2 : InRel w wB r R l.length (sl T1) (.slice A5 l2.length c4) l2 (Px.putF (cb, y.text) m1) (D1.put (Px.key cb) (.lit (.string y.text))) := by
                                rw [sl_nil (by omega : T1.size = 0)]
                                exact hN
                              exact ⟨T1, l2, _, _, rfl, rfl, hN2⟩
                  · have hemp : T.toList.isEmpty = true := by rw [txt_list, sl_nil (by omega)]; rfl
                    clear hI
                    go_wp2_with fail
                    go_roundg l1.length
                    case measure => have := HI2.out.le; rw [List.length_cons]; omega
                    case rel => exact ⟨l1, m1, D1, rfl, HI2.out.done (sl_nil (by omega))⟩
            · have h2' : ((X[0].toNat : Int) == 45) = false := by simpa using h2
              have hf : Px.isFlag x = false := by
                rw [Px.isFlag, ← HX.out, HH.out]
                have e : X[0] ≠ 45 := fun e => h2 (by rw [e]; rfl)
                simp [e]
              have HF := Lib.hid hf
              clear hf
              go_wp2_with fail
              go_meet
              exact ⟨x :: l, m, D, (HR.out.1.plain HF.out).symm, HR.out.1.words, HR.out.1.map, HR.out.1.turns⟩
          · have h1' : ¬ (1 : Int) < (X.size : Int) := by omega
            have hf : Px.isFlag x = false := by
              have : ¬ 1 < (sl X).length := by rw [sl_size]; exact h1
              rw [Px.isFlag, ← HX.out]
              simp [this]
            have HF := Lib.hid hf
            clear hf
            go_wp2_with fail
            go_meet
            exact ⟨x :: l, m, D, (HR.out.1.plain HF.out).symm, HR.out.1.words, HR.out.1.map, HR.out.1.turns⟩
  case rest =>
    obtain ⟨rest, m, D, rfl, hw, hm, ht⟩ := hcut
    have HW := Lib.hid hw
    have HM := Lib.hid hm
    have HT := Lib.hid ht
    have hown := hm.own
    have hM := hm.lt
    obtain ⟨i0, hi0, hz0, hz1, hz2⟩ := info_parts A.info_flag
    clear hw hm ht
    go_wp2_with (first
      | (at_range
         refine wpList_range_own _ rfl _ 182 rfl 5 9 A.law Tryz.underlying182 _ (w.heap.size + 1) m.length D rfl hown ?_
         intro w0 hrg0 hg0 hs0
         clear hown))
    go_frame
    have hS := SRel.start HM.out HT.out hrg0 hg0 hs0
    generalize wc.heap.size = it at hS hs0 ⊢
    clear hrg0 hg0
    have HS0 := Lib.hid hS
    clear hS hs0 hM
    go_loopw [12] (fun v wr => ∃ left cnt acc, SRel w wr it m D left cnt acc v) (fun _ wr => wr.rangeLeft (w.heap.size + 1) it)
    case atStart => exact ⟨_, _, _, HS0.out⟩
    case round =>
      obtain ⟨left, cnt, acc, hR⟩ := hrel
      obtain ⟨A0, cp0, rfl⟩ := own_slice hR.own
      have HR := Lib.hid hR
      have hrg := hR.iter
      clear hR
      go_wp2_with (first
        | (at_next
           refine wpList_next_ranges_is _ rfl _ rfl 5 9 .u8 A.law Tryz.underlying5 Tryz.underlying9 (w.heap.size + 1) it m.length _ _ _ rfl hrg ?_ ?_))
      · intro hc0 hl0
        have hp := HR.out.coll.perm HR.out.sorted hl0
        have hfew := HR.out.few
        have HP := Lib.hid hp
        have hso := sort_flags HR.out.own hp HR.out.sorted (by omega)
        have HSO := Lib.hid hso
        clear hp hso hl0 hrg hc0 hfew
        go_wp2_with fail
        refine HSO.out.mono ?_
        rintro e w' ⟨rfl, ho, hg⟩
        have HO := Lib.hid (And.intro ho hg)
        clear ho hg
        go_wp2_with fail
        refine bodyPost_ret (results_tmp3 rfl _ _ _) rfl ?_
        exact SRel.post HR.out HP.out HO.out.1 HO.out.2 HW.out
      · intro x c w1 cnt1 hwx hwc hlx hat hrg1 hlt hg1 hs1 hen
        have hxr := u8_range hwx
        obtain ⟨cb, rfl⟩ : ∃ cb : UInt8, x = (cb.toNat : Int) := ⟨UInt8.ofNat x.toNat, by rw [UInt8.toNat_ofNat']; omega⟩
        have hst := HR.out.step hlx hat hrg1 hlt hg1
        have HST := Lib.hid hst
        have HLT := Lib.hid (And.intro hlt (And.intro hrg hrg1))
        clear hrg hst hwx hwc hlx hat hrg1 hlt hg1 hs1
        have hO := ((Turns.refl Nothing w1).alloc (.cells #[.int .u8 cb.toNat, .string c] 121)).own HST.out.own fun _ _ => id
        have hSc := psrc_block (size := 2) Tryz.underlying54 (Blk.new w1 121 #[.int .u8 cb.toNat, .string c]) 1 1 rfl (by simp [Value.oneCell'])
        have hn := HST.out.few
        have hm : acc.length + 1 ≤ maxLen := by simp only [maxLen]; omega
        have hy : ((acc.length + 1) + (acc.length + 1 + 768) / 4 + 512) * 24 ≤ 281474976710656 := by omega
        have hb2 : it + 1 ≤ (w1.alloc (.cells #[.int .u8 cb.toNat, .string c] 121)).heap.size := by have := HST.out.size; simp [go_sem]; omega
        have HO := Lib.hid (And.intro hO (And.intro hSc (And.intro hb2 (And.intro hm hy))))
        clear hO hSc hb2 hm hy hn
        go_wp2_with (first
          | (at_builtin
             refine wpList_append_src _ rfl (.tmp 105) (.tmp 109) _ _ rfl (it + 1) 121 i0 _ 2 24 Tryz.underlying54 hi0 hz0 hz1 hz2 rfl (.slice A0 acc.length cp0) acc.length (flagCells acc) rfl HO.out.1 _ 1 _ rfl HO.out.2.1 HO.out.2.2.2.1 HO.out.2.2.2.2 HO.out.2.2.1 ?_
             intro A1 cp1 w3 ho hg hat
             have HN := Lib.hid (And.intro hg ho)
             clear ho hg hat))
        go_roundw
        case rel => exact ⟨_, cnt1, acc ++ [(cb, sl c)], HST.out.push HN.out.1 HN.out.2⟩
        case measure =>
          have r3 := (HST.out.push HN.out.1 HN.out.2).iter
          rw [r3.left_eq, HLT.out.2.1.left_eq]
          exact HLT.out.1
end Go.Proofs.YtiopaenonjhlnaaGreatDoor
