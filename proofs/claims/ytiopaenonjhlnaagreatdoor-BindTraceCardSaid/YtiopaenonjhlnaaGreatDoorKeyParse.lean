/- The walk of package key: code. The walk of package key: Parse. Package mullionlaw15: pick and ctrlB, walked. -/
import Derived.Test.YtiopaenonjhlnaaGreatDoorKeyName
import Derived.Test.YtiopaenonjhlnaaGreatDoorBindLaw
import Derived.Lib.TrimU
import Derived.Test.YtiopaenonjhlnaaGreatDoorParseRead
namespace Go.Proofs.YtiopaenonjhlnaaGreatDoor
set_option maxRecDepth 8000
open Go.RowKit
open Lx (Bytes)

/-- the rune at a text's head can be read -/
def Dec (w : World) (s : ByteArray) : Prop := ∀ W, Turns Nothing w W → Calls Tryz.prog 106 #[.string s] W fun e W' => e = .returned (.tuple #[.int .i32 (Bx.decG s).1, .int .i64 (Bx.decG s).2]) ∧ Turns Nothing W W'
theorem Dec.still {w w' : World} {s : ByteArray} (h : Dec w s) (ht : Turns Nothing w w') : Dec w' s := fun W hW => h W (ht.same hW)
theorem dec_ascii {s : ByteArray} (h0 : 0 < s.size) (h1 : s[0].toNat < 128) : Bx.decG s = (s[0].toNat, 1) := by
  have hg : s.get! 0 = s[0] := Utf8W.get!_of_lt s 0 h0
  rw [Bx.decG, if_neg (by omega), Lib.decode_at, hg]
  simp [Lib.decodeN, h1]
theorem dec_le (s : ByteArray) : (Bx.decG s).1 ≤ 1114111 := by
  unfold Bx.decG
  split
  · decide
  · rw [Lib.decode_at]
    exact Lib.decodeN_rune_le _ _ _ _ _ (UInt8.toNat_lt _)
theorem Dec.ascii {w : World} {s : ByteArray} (h0 : 0 < s.size) (h1 : s[0].toNat < 128) : Dec w s := by
  intro W _
  rw [dec_ascii h0 h1]
  have hz : (0 : Int) < s.size := by omega
  have hne : s.toList.isEmpty = false := by
    rw [txt_list]
    cases e : sl s with
    | nil =>
      have h2 : s.size = 0 := by rw [← sl_size, e]; rfl
      omega
    | cons a b => rfl
  have h3 : (s[0].toNat : Int) < 128 := by omega
  have hd : decide ((s[0].toNat : Int) < 128) = true := decide_eq_true h3
  clear h1
  go_enter Tryz.func106, Tryz.ntmps106
  go_wp2_with fail
  go_ret2
  exact ⟨rfl, Turns.refl _ _⟩
theorem index_from (s : ByteArray) : ∀ (l : List Bytes) (i : Nat), Lib.idxFromS (l.map fun x => ⟨x.toArray⟩) s i = match l.idxOf? (sl s) with
    | some j => ((i + j : Nat) : Int)
    | none => -1
  | [], i => rfl
  | x :: l, i => by
    have ih := index_from s l (i + 1)
    simp only [List.map_cons, Lib.idxFromS, List.idxOf?_cons]
    by_cases e : x = sl s
    · have e2 : (⟨x.toArray⟩ : ByteArray) = s := by rw [e]; rfl
      rw [if_pos e2]
      simp [e]
    · have e2 : ¬ (⟨x.toArray⟩ : ByteArray) = s := fun h => e (by rw [← h]; rfl)
      rw [if_neg e2, ih]
      simp only [show (x == sl s) = false by simpa using e]
      cases l.idxOf? (sl s) with
      | none => rfl
      | some j =>
        show ((i + 1 + j : Nat) : Int) = ((i + (j + 1) : Nat) : Int)
        rw [Nat.add_assoc, Nat.add_comm 1 j]
def specI (s : Bytes) : Int := match Bx.specials.idxOf? s with
  | some j => j
  | none => -1
theorem specI_lt (s : Bytes) : specI s = -1 ∨ ∃ j : Nat, specI s = j ∧ j < 31 := by
  unfold specI
  cases h : Bx.specials.idxOf? s with
  | none => exact .inl rfl
  | some j =>
    right
    refine ⟨j, rfl, ?_⟩
    have := (List.idxOf?_eq_some_iff.1 h).1
    rwa [show Bx.specials.length = 31 by decide +kernel] at this
theorem sindex_in (s : ByteArray) (w : World) (g : Nat) (hb : Blk w g 9 (Bx.specials.map strV).toArray) : Calls Tryz.prog 105 #[.slice (some ⟨g, 0, none⟩) 31 31, .string s] w fun e w' => e = .returned (.int .i64 (specI (sl s))) ∧ w = w' := by
  have h31 : Bx.specials.length = 31 := by decide +kernel
  refine (Tryz.slices_Index_string g 0 31 31 (Bx.specials.map fun l => ⟨l.toArray⟩) s _ (by simp [h31]) (by decide) (fun j hj => ?_)).mono ?_
  · rw [Nat.zero_add, hb.cell]
    have hj' : j < Bx.specials.length := by simpa using hj
    simp [List.getD_eq_getElem?_getD, hj']
  · rintro e w' ⟨rfl, rfl⟩
    refine ⟨?_, rfl⟩
    rw [List.take_of_length_le (by simp [h31]), Lib.idxOfS, index_from, specI]
    cases Bx.specials.idxOf? (sl s) with
    | none => rfl
    | some j => simp
/-- code, behind the four names -/
def codeTail (s : ByteArray) : Int := if specI (sl s) ≠ -1 then 1114112 + specI (sl s) else if (Bx.decG s).2 = 0 ∨ (Bx.decG s).2 ≠ s.size ∨ ((Bx.decG s).1 = 65533 ∧ (Bx.decG s).2 = 1) ∨ Bx.named (Bx.decG s).1 ≠ sl s then -1 else (Bx.decG s).1
def codeFrom (s : ByteArray) : List Int → Int
  | [] => codeTail s
  | c :: l => if sl s = Bx.named c then c else codeFrom s l
theorem code_is (s : ByteArray) : Bx.codeOf (sl s) = codeFrom s [9, 13, 32, 127] := by
  have e : codeTail s = match Bx.specials.idxOf? (sl s) with
    | some i => 1114112 + (i : Int)
    | none => if (Bx.decG ⟨(sl s).toArray⟩).2 = 0 ∨ (Bx.decG ⟨(sl s).toArray⟩).2 ≠ (sl s).length ∨ ((Bx.decG ⟨(sl s).toArray⟩).1 = 65533 ∧ (Bx.decG ⟨(sl s).toArray⟩).2 = 1) ∨ Bx.named (Bx.decG ⟨(sl s).toArray⟩).1 ≠ sl s then -1 else (Bx.decG ⟨(sl s).toArray⟩).1 := by
    unfold codeTail specI
    rw [sl_size]
    cases Bx.specials.idxOf? (sl s) with
    | none => rfl
    | some j =>
      dsimp only
      rw [if_pos (by omega)]
  unfold Bx.codeOf codeFrom codeFrom codeFrom codeFrom codeFrom
  rw [e]
  rfl
theorem codeFrom_drop (s : ByteArray) {l : List Int} {k : Nat} (h : k < l.length) : codeFrom s (l.drop k) = if sl s = Bx.named l[k] then l[k] else codeFrom s (l.drop (k + 1)) := by
  rw [List.drop_eq_getElem_cons h]
  rfl
def four : List Int := [9, 13, 32, 127]
set_option maxHeartbeats 2000000 in
theorem code_in {w : World} (hsp : Space w) (s : ByteArray) (hd : Dec w s) (_hs : s.size ≤ 1000000) : Calls Tryz.prog 62 #[.string s] w fun e w' => e = .returned (.int .i64 (Bx.codeOf (sl s))) ∧ Turns Nothing w w' := by
  rw [code_is]
  have HSP := Lib.hid (fun W (ht : Turns Nothing w W) => hsp.still ht)
  have HD := Lib.hid hd
  clear hsp hd
  have h4 : four.length = 4 := rfl
  have HB := Lib.hid (Blk.new w 3 (intCells four).toArray)
  have H0 := Lib.hid (show codeFrom s (four.drop 0) = codeFrom s [9, 13, 32, 127] from rfl)
  generalize codeFrom s [9, 13, 32, 127] = R at H0 ⊢
  go_enter Tryz.func62, Tryz.ntmps62
  go_wp2_with fail
  go_loopw [10] (fun i wr => ∃ k : Nat, i = .int .i64 k ∧ k ≤ 4 ∧ codeFrom s (four.drop k) = R ∧ Blk wr w.heap.size 3 (intCells four).toArray ∧ Turns Nothing w wr) (fun i _ => 4 - (intOf i).toNat)
  case atStart => exact ⟨0, rfl, Nat.zero_le _, H0.out, HB.out, (Turns.refl _ w).alloc _⟩
  case round =>
    obtain ⟨k, rfl, hk, hR, hB, ht⟩ := hrel
    have HT := Lib.hid ht
    by_cases hlt : k < 4
    · have c0 := (hB.cell k).trans (show (intCells four).toArray[k]? = some (.int .i64 (four[k]'(by rw [h4]; exact hlt))) by simp [intCells, h4, hlt])
      have hz := hB.lt
      have hst := codeFrom_drop s (l := four) (k := k) (by rw [h4]; exact hlt)
      rw [hR] at hst
      have HST := Lib.hid hst
      have HB2 := Lib.hid hB
      clear hR hB ht hst H0 HB
      generalize four[k]'(by rw [h4]; exact hlt) = x at c0 HST
      have HN := Lib.hid (named_in (HSP.out _ HT.out) x)
      generalize Bx.named x = n at HN HST
      have HU := Lib.hid (show sl ⟨n.toArray⟩ = n from rfl)
      simp only [strV] at HN
      generalize (⟨n.toArray⟩ : ByteArray) = u at HN HU
      by_cases he : sl s = n
      · have d0 : (u.toList == s.toList) = true := by rw [beq_iff_eq, txt_list, txt_list, HU.out, he]
        have hE : R = x := by rw [HST.out, if_pos he]
        subst hE
        clear he
        go_wp2_with fail
        refine HN.out.mono ?_
        rintro e w1 ⟨rfl, ht⟩
        have HT2 := Lib.hid (HT.out.same ht)
        clear ht
        go_wp2_with fail
        go_ret
        exact ⟨rfl, HT2.out⟩
      · have d0 : (u.toList == s.toList) = false := txt_ne (by rw [HU.out]; exact fun e => he e.symm)
        have HE := Lib.hid (show codeFrom s (four.drop (k + 1)) = R by rw [HST.out, if_neg he])
        clear he
        go_wp2_with fail
        refine HN.out.mono ?_
        rintro e w1 ⟨rfl, ht⟩
        have HT2 := Lib.hid (And.intro (HT.out.same ht) (ht.blk HB2.out id))
        clear ht
        go_wp2_with fail
        go_roundw
        case rel => exact ⟨k + 1, by go_num, hlt, HE.out, HT2.out.2, HT2.out.1⟩
        case measure => simp [intOf]; omega
    · have hE : codeTail s = R := by rw [← hR, List.drop_eq_nil_of_le (by rw [h4]; omega)]; rfl
      have HE := Lib.hid hE
      have HT2 := Lib.hid ht
      clear hE hR hB ht H0 HB h4
      go_wp2_with fail
      refine (spec_any (by decide +kernel) (HSP.out _ HT2.out)).mono ?_
      rintro e w1 ⟨g, rfl, hB, ht⟩
      have HB := Lib.hid hB
      have HT3 := Lib.hid (HT2.out.same ht)
      clear hB ht HT2 HT
      go_wp2_with fail
      refine (sindex_in s w1 g HB.out).mono ?_
      rintro e w2 ⟨rfl, rfl⟩
      have hsp := specI_lt (sl s)
      have HC := Lib.hid (show codeTail s = if specI (sl s) ≠ -1 then 1114112 + specI (sl s) else if (Bx.decG s).2 = 0 ∨ (Bx.decG s).2 ≠ s.size ∨ ((Bx.decG s).1 = 65533 ∧ (Bx.decG s).2 = 1) ∨ Bx.named (Bx.decG s).1 ≠ sl s then (-1 : Int) else ((Bx.decG s).1 : Int) from rfl)
      generalize specI (sl s) = si at hsp HC ⊢
      rcases hsp with rfl | ⟨j, rfl, hj⟩
      · have hC : R = if (Bx.decG s).2 = 0 ∨ (Bx.decG s).2 ≠ s.size ∨ ((Bx.decG s).1 = 65533 ∧ (Bx.decG s).2 = 1) ∨ Bx.named (Bx.decG s).1 ≠ sl s then (-1 : Int) else ((Bx.decG s).1 : Int) := by rw [← HE.out, HC.out, if_neg (by decide)]
        have HDD := Lib.hid (HD.out w1 HT3.out)
        clear HC HE
        have hdl := dec_le s
        generalize Bx.decG s = d at hC HDD hdl
        obtain ⟨d1, d2⟩ := d
        dsimp only at hC HDD hdl
        have HN := Lib.hid (fun W (ht : Turns Nothing w W) => named_in (HSP.out W ht) d1)
        generalize Bx.named d1 = n at HN hC
        have HU := Lib.hid (show sl ⟨n.toArray⟩ = n from rfl)
        simp only [strV] at HN
        generalize (⟨n.toArray⟩ : ByteArray) = u at HN HU
        by_cases k1 : d2 = 0
        · subst k1
          rw [if_pos (.inl rfl)] at hC
          subst hC
          go_wp2_with fail
          refine HDD.out.mono ?_
          rintro e w3 ⟨rfl, ht⟩
          have HT4 := Lib.hid (HT3.out.same ht)
          clear ht
          go_wp2_with fail
          go_ret
          exact ⟨rfl, HT4.out⟩
        have g1 : ((d2 : Int) == 0) = false := by rw [beq_eq_false_iff_ne]; omega
        by_cases k2 : (d2 : Int) = s.size
        · have g2 : ((d2 : Int) != s.size) = false := by rw [bne_eq_false_iff_eq]; exact k2
          by_cases k3 : (d1 : Int) = 65533 ∧ (d2 : Int) = 1
          · have g3 : ((d1 : Int) == 65533) = true := by rw [beq_iff_eq]; exact k3.1
            have g4 : ((d2 : Int) == 1) = true := by rw [beq_iff_eq]; exact k3.2
            rw [if_pos (.inr (.inr (.inl ⟨by omega, by omega⟩)))] at hC
            subst hC
            clear k1 k2 k3
            go_wp2_with fail
            refine HDD.out.mono ?_
            rintro e w3 ⟨rfl, ht⟩
            have HT4 := Lib.hid (HT3.out.same ht)
            clear ht
            go_wp2_with fail
            go_ret
            exact ⟨rfl, HT4.out⟩
          have g3 : (((d1 : Int) == 65533) = false) ∨ (((d1 : Int) == 65533) = true ∧ ((d2 : Int) == 1) = false) := by
            by_cases h : (d1 : Int) = 65533
            · exact .inr ⟨by rw [beq_iff_eq]; exact h, by rw [beq_eq_false_iff_ne]; exact fun h2 => k3 ⟨h, h2⟩⟩
            · exact .inl (by rw [beq_eq_false_iff_ne]; exact h)
          by_cases hn : n = sl s
          · have d0 : (u.toList == s.toList) = true := by rw [beq_iff_eq, txt_list, txt_list, HU.out, hn]
            have d5 : (u.toList != s.toList) = false := by rw [bne, d0]; rfl
            rw [if_neg (by
              rintro (h | h | h | h)
              · exact k1 h
              · exact h (by omega)
              · exact k3 ⟨by omega, by omega⟩
              · exact h hn)] at hC
            subst hC
            clear hn k1 k2 k3
            rcases g3 with g3 | ⟨g3, g4⟩
            all_goals
              go_wp2_with fail
              refine HDD.out.mono ?_
              rintro e w3 ⟨rfl, ht⟩
              have HT4 := Lib.hid (HT3.out.same ht)
              clear ht
              go_wp2_with fail
              refine (HN.out _ HT4.out).mono ?_
              rintro e w4 ⟨rfl, ht⟩
              have HT5 := Lib.hid (HT4.out.same ht)
              clear ht
              go_wp2_with fail
              go_ret
              exact ⟨rfl, HT5.out⟩
          · have d0 : (u.toList == s.toList) = false := txt_ne (by rw [HU.out]; exact hn)
            have d5 : (u.toList != s.toList) = true := by rw [bne, d0]; rfl
            rw [if_pos (.inr (.inr (.inr hn)))] at hC
            subst hC
            clear hn k1 k2 k3
            rcases g3 with g3 | ⟨g3, g4⟩
            all_goals
              go_wp2_with fail
              refine HDD.out.mono ?_
              rintro e w3 ⟨rfl, ht⟩
              have HT4 := Lib.hid (HT3.out.same ht)
              clear ht
              go_wp2_with fail
              refine (HN.out _ HT4.out).mono ?_
              rintro e w4 ⟨rfl, ht⟩
              have HT5 := Lib.hid (HT4.out.same ht)
              clear ht
              go_wp2_with fail
              go_ret
              exact ⟨rfl, HT5.out⟩
        · have g2 : ((d2 : Int) != s.size) = true := by rw [bne_iff_ne]; exact k2
          rw [if_pos (.inr (.inl (fun e => k2 (by rw [e]))))] at hC
          subst hC
          clear k1 k2
          go_wp2_with fail
          refine HDD.out.mono ?_
          rintro e w3 ⟨rfl, ht⟩
          have HT4 := Lib.hid (HT3.out.same ht)
          clear ht
          go_wp2_with fail
          go_ret
          exact ⟨rfl, HT4.out⟩
      · have hC : R = 1114112 + j := by rw [← HE.out, HC.out, if_pos (by omega)]
        subst hC
        have hj2 : (j : Int) < 31 := by omega
        go_wp2_with fail
        go_ret
        exact ⟨rfl, HT3.out⟩
end Go.Proofs.YtiopaenonjhlnaaGreatDoor
namespace Go.Proofs.YtiopaenonjhlnaaGreatDoor
set_option maxRecDepth 8000
open Go.RowKit
open Lx (Bytes)

namespace Bx
theorem modsN_fuel : ∀ (n : Nat) (s : Bytes) (m : Int), s.length ≤ n → modsN n s m = modsN s.length s m
  | 0, s, m, h => by rw [List.eq_nil_of_length_eq_zero (Nat.le_zero.1 h)]; rfl
  | n + 1, [], m, _ => rfl
  | n + 1, [_], m, _ => rfl
  | n + 1, a :: d :: r, m, h => by
    have hr : r.length ≤ n := by simp only [List.length_cons] at h; omega
    show (if d = 45 ∧ r ≠ [] ∧ modOf a ≠ 0 then (if m / modOf a % 2 = 1 then none else modsN n r (m + modOf a)) else some (a :: d :: r, m)) = (if d = 45 ∧ r ≠ [] ∧ modOf a ≠ 0 then (if m / modOf a % 2 = 1 then none else modsN (r.length + 1) r (m + modOf a)) else some (a :: d :: r, m))
    rw [modsN_fuel n r _ hr, modsN_fuel (r.length + 1) r _ (Nat.le_succ _)]
def modsF (s : Bytes) (m : Int) : Option (Bytes × Int) := modsN s.length s m
theorem modsF_cons (a d : UInt8) (r : Bytes) (m : Int) : modsF (a :: d :: r) m = if d = 45 ∧ r ≠ [] ∧ modOf a ≠ 0 then (if m / modOf a % 2 = 1 then none else modsF r (m + modOf a)) else some (a :: d :: r, m) := by
  show (if d = 45 ∧ r ≠ [] ∧ modOf a ≠ 0 then (if m / modOf a % 2 = 1 then none else modsN (r.length + 1) r (m + modOf a)) else some (a :: d :: r, m)) = _
  rw [modsN_fuel (r.length + 1) r _ (Nat.le_succ _)]
  rfl
theorem modsF_short {s : Bytes} (m : Int) (h : s.length ≤ 2) : modsF s m = some (s, m) := by
  match s, h with
  | [], _ => rfl
  | [_], _ => rfl
  | [a, d], _ => rw [modsF_cons, if_neg (fun h => h.2.1 rfl)]
theorem modsF_other {a d : UInt8} {r : Bytes} (m : Int) (h : ¬ d = 45 ∨ modOf a = 0) : modsF (a :: d :: r) m = some (a :: d :: r, m) := by
  rw [modsF_cons, if_neg (fun q => h.elim (fun h => h q.1) fun h => q.2.2 h)]
theorem modsF_dup {a : UInt8} {r : Bytes} {m : Int} (hr : r ≠ []) (h1 : modOf a ≠ 0) (h2 : m / modOf a % 2 = 1) : modsF (a :: 45 :: r) m = none := by
  rw [modsF_cons, if_pos ⟨rfl, hr, h1⟩, if_pos h2]
theorem modsF_next {a : UInt8} {r : Bytes} {m : Int} (hr : r ≠ []) (h1 : modOf a ≠ 0) (h2 : ¬ m / modOf a % 2 = 1) : modsF (a :: 45 :: r) m = modsF r (m + modOf a) := by
  rw [modsF_cons, if_pos ⟨rfl, hr, h1⟩, if_neg h2]
/-- behind the modifiers -/
def parseT (r : Bytes) (m : Int) : Option Ky :=
  let k : Ky := ⟨codeOf r, m⟩
  let k := if m / 4 % 2 = 1 then plainK k else k
  if right k then some k else none
def afterM (R : Option (Bytes × Int)) : Option Ky := match R with
  | none => none
  | some (r, m) => parseT r m
theorem parse_is (s : Bytes) : parseKey s = afterM (modsF s 0) := rfl
end Bx
/-- what Parse gives back -/
def kv (o : Option Bx.Ky) : Value := match o with
  | some k => .tuple #[.agg #[.int .i64 k.code, .int .i64 k.mods], .int .i64 0]
  | none => .tuple #[.agg #[.int .i64 0, .int .i64 0], .int .i64 6]
theorem load_key (w : World) (g : Nat) (v0 v1 : Value) (h : Blk w g 23 #[v0, v1]) : (loadVar 23 ⟨g, 0, none⟩).run Tryz.prog w = .ok (.agg #[v0, v1]) w := by
  have d0 := h.cell 0
  have d1 := h.cell 1
  clear h
  simp at d0 d1
  simp [go_sem, d0, d1]
theorem set_two {wr : World} {b : Nat} {a0 a1 : Value} {t : TypeId} (h : Blk wr b t #[a0, a1]) (v0 v1 : Value) : Blk ((wr.setCell ⟨b, 0, none⟩ v0).setCell ⟨b, 1, none⟩ v1) b t #[v0, v1] := (h.set_ 0 v0).set_ 1 v1
theorem key_cells {w : World} {b : Nat} {u v : Value} (h : Blk w b 23 #[u, v]) : w.cell? ⟨b, 0, none⟩ = some u ∧ w.cell? ⟨b, 1, none⟩ = some v ∧ w.frozen? ⟨b, 0, none⟩ = false ∧ w.frozen? ⟨b, 1, none⟩ = false ∧ b < w.heap.size := ⟨h.cell 0, h.cell 1, h.frozen 0, h.frozen 1, h.lt⟩
theorem sl_two {T : ByteArray} (h : 2 < T.size) : sl T = T[0] :: T[1] :: sl (T.extract 2 T.size) := by
  have hl : 0 < (sl T).length := by rw [sl_size]; omega
  have hl1 : 1 < (sl T).length := by rw [sl_size]; omega
  have e : sl (T.extract 2 T.size) = (sl T).drop 2 := by
    simp [sl]
    exact List.take_of_length_le (by simp)
  rw [e]
  have h0 := List.drop_eq_getElem_cons hl
  have h1 := List.drop_eq_getElem_cons hl1
  rw [List.drop_zero] at h0
  rw [h0, h1]
  rfl
/-- the loop over the modifiers -/
structure ModRel (w wr : World) (R : Option (Bytes × Int)) (s : Bytes) (T : ByteArray) (m : Int) : Prop where
  spec : Bx.modsF (sl T) m = R
  suf : sl T <:+ s
  ne : sl T = [] → s = []
  rng : 0 ≤ m ∧ m ≤ 7
  key : Blk wr (w.heap.size + 1) 23 #[.int .i64 0, .int .i64 m]
  res : Blk wr w.heap.size 23 #[.int .i64 0, .int .i64 0]
  turns : Turns Nothing w wr
set_option maxHeartbeats 4000000 in
theorem kparse_in {w : World} (hsp : Space w) (s : ByteArray) (hs : s.size ≤ 1000000) (hD : ∀ t : ByteArray, (sl t = [] → sl s = []) → sl t <:+ sl s → Dec w t) :
    Calls Tryz.prog 38 #[.string s] w fun e w' => e = .returned (kv (Bx.parseKey (sl s))) ∧ Turns Nothing w w' := by
  rw [Bx.parse_is]
  have HSP := Lib.hid (fun W (ht : Turns Nothing w W) => hsp.still ht)
  have HD := Lib.hid hD
  have HB1 := Lib.hid ((Blk.new w 23 #[.int .i64 0, .int .i64 0]).alloc (.cells #[.int .i64 0, .int .i64 0] 23))
  have HB2 := Lib.hid (Blk.new (w.alloc (.cells #[.int .i64 0, .int .i64 0] 23)) 23 #[.int .i64 0, .int .i64 0])
  rw [show (w.alloc (.cells #[.int .i64 0, .int .i64 0] 23)).heap.size = w.heap.size + 1 by simp [go_sem]] at HB2
  generalize hR0 : Bx.modsF (sl s) 0 = R
  have H0 := Lib.hid hR0
  clear hR0
  clear hsp hD
  go_enter Tryz.func38, Tryz.ntmps38
  go_upto_block 0 with fail
  go_cut [0] (fun s1 wx => ∃ T m, s1 = .string T ∧ R = some (sl T, m) ∧ T.size ≤ 1000000 ∧ ModRel w wx R (sl s) T m)
  case first =>
    go_wp2_with fail
    go_loopg [0] s.size (fun g s1 wr => ∃ T m, s1 = .string T ∧ g = T.size ∧ T.size ≤ 1000000 ∧ ModRel w wr R (sl s) T m)
    case atStart => exact ⟨s, 0, rfl, rfl, hs, ⟨H0.out, List.suffix_refl _, id, by decide, HB2.out, HB1.out, ((Turns.refl _ w).alloc _).alloc _⟩⟩
    case round =>
      obtain ⟨T, m, rfl, rfl, hTs, hM⟩ := hrel
      have HM := Lib.hid hM
      by_cases h2 : 2 < T.size
      · have h2' : (2 : Int) < T.size := by omega
        have hTT := sl_two h2
        have hne : sl (T.extract 2 T.size) ≠ [] := by
          intro e
          have := congrArg List.length hTT
          rw [e, sl_size] at this
          simp at this
          omega
        have hsf : sl (T.extract 2 T.size) <:+ sl s := ((List.suffix_cons _ _).trans (List.suffix_cons _ _)).trans (hTT ▸ hM.suf)
        have hsz : (T.extract 2 T.size).size = T.size - 2 := by simp
        by_cases h45 : (T[1].toNat : Int) = 45
        · have e45 : T[1] = 45 := UInt8.toNat_inj.1 (by show T[1].toNat = 45; omega)
          have hspec := hM.spec
          rw [hTT, e45] at hspec
          have x1 : wr.cell? ⟨w.heap.size + 1, 1, none⟩ = some (.int .i64 m) := hM.key.cell 1
          have x0 : wr.cell? ⟨w.heap.size + 1, 0, none⟩ = some (.int .i64 0) := hM.key.cell 0
          have xf := hM.key.frozen 1
          have xz := hM.key.lt
          have hrng := hM.rng
          have hm8 : m = 0 ∨ m = 1 ∨ m = 2 ∨ m = 3 ∨ m = 4 ∨ m = 5 ∨ m = 6 ∨ m = 7 := by omega
          have HN := Lib.hid (And.intro hne (And.intro hsf hsz))
          have HTT := Lib.hid hTT
          clear hne hsf hsz hTT hM hrng
          have hcs : T[0] = 67 ∨ T[0] = 77 ∨ T[0] = 83 ∨ (¬ T[0] = 67 ∧ ¬ T[0] = 77 ∧ ¬ T[0] = 83) := by
            by_cases a1 : T[0] = 67
            · exact .inl a1
            by_cases a2 : T[0] = 77
            · exact .inr (.inl a2)
            by_cases a3 : T[0] = 83
            · exact .inr (.inr (.inl a3))
            · exact .inr (.inr (.inr ⟨a1, a2, a3⟩))
          rcases hcs with e0 | e0 | e0 | ⟨n1, n2, n3⟩
          · have z : Bx.modOf T[0] = 4 := by rw [e0]; rfl
            have k1 : ((T[0].toNat : Int) == 67) = true := by rw [e0]; rfl
            have qa : (bits BinOp.and IntKind.i64 m 4 != 0) = (m / 4 % 2 != 0) := by rcases hm8 with rfl | rfl | rfl | rfl | rfl | rfl | rfl | rfl <;> rfl
            by_cases hd : m / 4 % 2 = 1
            · have hE := Bx.modsF_dup (a := T[0]) (m := m) HN.out.1 (by rw [z]; decide) (by rw [z]; exact hd)
              rw [hE] at hspec
              have qb : (bits BinOp.and IntKind.i64 m 4 != 0) = true := by rw [qa, hd]; rfl
              clear hd hE z e0 e45 qa hm8
              subst hspec
              obtain ⟨y0, y1, yf0, yf1, yz⟩ := key_cells HM.out.res
              go_wp2_with fail
              have HR := Lib.hid (set_two HM.out.res (.int .i64 0) (.int .i64 0))
              refine bodyPost_ret (results_cell_tmp Tryz.results38 _ _ _ ⟨w.heap.size, 0, none⟩ _ rfl (load_key _ _ _ _ HR.out)) rfl ?_
              exact ⟨rfl, (HM.out.turns.setCell (.inr (Nat.le_refl _)) _).setCell (.inr (Nat.le_refl _)) _⟩
            · have hd0 : m / 4 % 2 = 0 := by omega
              have hE := Bx.modsF_next (a := T[0]) (m := m) HN.out.1 (by rw [z]; decide) (by rw [z]; exact hd)
              rw [z] at hE
              have HE := Lib.hid (hE.symm.trans hspec)
              have qb : (bits BinOp.and IntKind.i64 m 4 != 0) = false := by rw [qa, hd0]; rfl
              have qc : bits BinOp.or IntKind.i64 m 4 = m + 4 := by
                rcases hm8 with rfl | rfl | rfl | rfl | rfl | rfl | rfl | rfl <;> first | rfl | (exfalso; revert hd0; decide)
              have hr : 0 ≤ m + 4 ∧ m + 4 ≤ 7 := by
                rcases hm8 with rfl | rfl | rfl | rfl | rfl | rfl | rfl | rfl <;> first | decide | (exfalso; revert hd0; decide)
              have HQ := Lib.hid hr
              clear hd hd0 hE z e0 e45 qa hm8 hspec hr
              go_wp2_with fail
              go_roundg (T.extract 2 T.size).size
              case rel => exact ⟨T.extract 2 T.size, _, rfl, rfl, by have := HN.out.2.2; omega, ⟨HE.out, HN.out.2.1, fun e => absurd e HN.out.1, HQ.out, HM.out.key.set_ 1 _, HM.out.res.far (by simp) _, HM.out.turns.setCell (.inr (Nat.le_succ _)) _⟩⟩
              case measure => have := HN.out.2.2; omega
          · have z : Bx.modOf T[0] = 2 := by rw [e0]; rfl
            have k1 : ((T[0].toNat : Int) == 67) = false := by rw [e0]; rfl
            have k2 : ((T[0].toNat : Int) == 77) = true := by rw [e0]; rfl
            have qa : (bits BinOp.and IntKind.i64 m 2 != 0) = (m / 2 % 2 != 0) := by rcases hm8 with rfl | rfl | rfl | rfl | rfl | rfl | rfl | rfl <;> rfl
            by_cases hd : m / 2 % 2 = 1
            · have hE := Bx.modsF_dup (a := T[0]) (m := m) HN.out.1 (by rw [z]; decide) (by rw [z]; exact hd)
              rw [hE] at hspec
              have qb : (bits BinOp.and IntKind.i64 m 2 != 0) = true := by rw [qa, hd]; rfl
              clear hd hE z e0 e45 qa hm8
              subst hspec
              obtain ⟨y0, y1, yf0, yf1, yz⟩ := key_cells HM.out.res
              go_wp2_with fail
              have HR := Lib.hid (set_two HM.out.res (.int .i64 0) (.int .i64 0))
              refine bodyPost_ret (results_cell_tmp Tryz.results38 _ _ _ ⟨w.heap.size, 0, none⟩ _ rfl (load_key _ _ _ _ HR.out)) rfl ?_
              exact ⟨rfl, (HM.out.turns.setCell (.inr (Nat.le_refl _)) _).setCell (.inr (Nat.le_refl _)) _⟩
            · have hd0 : m / 2 % 2 = 0 := by omega
              have hE := Bx.modsF_next (a := T[0]) (m := m) HN.out.1 (by rw [z]; decide) (by rw [z]; exact hd)
              rw [z] at hE
              have HE := Lib.hid (hE.symm.trans hspec)
              have qb : (bits BinOp.and IntKind.i64 m 2 != 0) = false := by rw [qa, hd0]; rfl
              have qc : bits BinOp.or IntKind.i64 m 2 = m + 2 := by
                rcases hm8 with rfl | rfl | rfl | rfl | rfl | rfl | rfl | rfl <;> first | rfl | (exfalso; revert hd0; decide)
              have hr : 0 ≤ m + 2 ∧ m + 2 ≤ 7 := by
                rcases hm8 with rfl | rfl | rfl | rfl | rfl | rfl | rfl | rfl <;> first | decide | (exfalso; revert hd0; decide)
              have HQ := Lib.hid hr
              clear hd hd0 hE z e0 e45 qa hm8 hspec hr
              go_wp2_with fail
              go_roundg (T.extract 2 T.size).size
              case rel => exact ⟨T.extract 2 T.size, _, rfl, rfl, by have := HN.out.2.2; omega, ⟨HE.out, HN.out.2.1, fun e => absurd e HN.out.1, HQ.out, HM.out.key.set_ 1 _, HM.out.res.far (by simp) _, HM.out.turns.setCell (.inr (Nat.le_succ _)) _⟩⟩
              case measure => have := HN.out.2.2; omega
          · have z : Bx.modOf T[0] = 1 := by rw [e0]; rfl
            have k1 : ((T[0].toNat : Int) == 67) = false := by rw [e0]; rfl
            have k2 : ((T[0].toNat : Int) == 77) = false := by rw [e0]; rfl
            have k3 : ((T[0].toNat : Int) == 83) = true := by rw [e0]; rfl
            have qa : (bits BinOp.and IntKind.i64 m 1 != 0) = (m / 1 % 2 != 0) := by rcases hm8 with rfl | rfl | rfl | rfl | rfl | rfl | rfl | rfl <;> rfl
            by_cases hd : m / 1 % 2 = 1
            · have hE := Bx.modsF_dup (a := T[0]) (m := m) HN.out.1 (by rw [z]; decide) (by rw [z]; exact hd)
              rw [hE] at hspec
              have qb : (bits BinOp.and IntKind.i64 m 1 != 0) = true := by rw [qa, hd]; rfl
              clear hd hE z e0 e45 qa hm8
              subst hspec
              obtain ⟨y0, y1, yf0, yf1, yz⟩ := key_cells HM.out.res
              go_wp2_with fail
              have HR := Lib.hid (set_two HM.out.res (.int .i64 0) (.int .i64 0))
              refine bodyPost_ret (results_cell_tmp Tryz.results38 _ _ _ ⟨w.heap.size, 0, none⟩ _ rfl (load_key _ _ _ _ HR.out)) rfl ?_
              exact ⟨rfl, (HM.out.turns.setCell (.inr (Nat.le_refl _)) _).setCell (.inr (Nat.le_refl _)) _⟩
            · have hd0 : m / 1 % 2 = 0 := by omega
              have hE := Bx.modsF_next (a := T[0]) (m := m) HN.out.1 (by rw [z]; decide) (by rw [z]; exact hd)
              rw [z] at hE
              have HE := Lib.hid (hE.symm.trans hspec)
              have qb : (bits BinOp.and IntKind.i64 m 1 != 0) = false := by rw [qa, hd0]; rfl
              have qc : bits BinOp.or IntKind.i64 m 1 = m + 1 := by
                rcases hm8 with rfl | rfl | rfl | rfl | rfl | rfl | rfl | rfl <;> first | rfl | (exfalso; revert hd0; decide)
              have hr : 0 ≤ m + 1 ∧ m + 1 ≤ 7 := by
                rcases hm8 with rfl | rfl | rfl | rfl | rfl | rfl | rfl | rfl <;> first | decide | (exfalso; revert hd0; decide)
              have HQ := Lib.hid hr
              clear hd hd0 hE z e0 e45 qa hm8 hspec hr
              go_wp2_with fail
              go_roundg (T.extract 2 T.size).size
              case rel => exact ⟨T.extract 2 T.size, _, rfl, rfl, by have := HN.out.2.2; omega, ⟨HE.out, HN.out.2.1, fun e => absurd e HN.out.1, HQ.out, HM.out.key.set_ 1 _, HM.out.res.far (by simp) _, HM.out.turns.setCell (.inr (Nat.le_succ _)) _⟩⟩
              case measure => have := HN.out.2.2; omega
          · have z : Bx.modOf T[0] = 0 := by rw [Bx.modOf, if_neg n1, if_neg n2, if_neg n3]
            have k1 : ((T[0].toNat : Int) == 67) = false := u8_ne (m := 67) n1
            have k2 : ((T[0].toNat : Int) == 77) = false := u8_ne (m := 77) n2
            have k3 : ((T[0].toNat : Int) == 83) = false := u8_ne (m := 83) n3
            rw [Bx.modsF_other m (.inr z)] at hspec
            rw [← e45, ← HTT.out] at hspec
            have HE := Lib.hid hspec.symm
            clear hspec n1 n2 n3 e45 hm8 z
            go_wp2_with fail
            go_meet
            exact ⟨T, m, rfl, HE.out, hTs, HM.out⟩
        · have g45 : ((T[1].toNat : Int) == 45) = false := beq_eq_false_iff_ne.2 h45
          have hE := Bx.modsF_other (a := T[0]) (r := sl (T.extract 2 T.size)) m (.inl (show ¬ T[1] = 45 from fun e => h45 (by rw [e]; rfl)))
          rw [← hTT] at hE
          have HE := Lib.hid (hM.spec.symm.trans hE)
          clear hE hne hsf hsz hTT hM h45
          go_wp2_with fail
          go_meet
          exact ⟨T, m, rfl, HE.out, hTs, HM.out⟩
      · have HE := Lib.hid (hM.spec.symm.trans (Bx.modsF_short m (by rw [sl_size]; omega)))
        clear hM
        go_wp2_with fail
        go_meet
        exact ⟨T, m, rfl, HE.out, hTs, HM.out⟩
  case rest =>
    obtain ⟨T, m, rfl, hR, hTs, hM⟩ := hcut
    subst hR
    have HM := Lib.hid hM
    have HC := Lib.hid (fun W (ht : Turns Nothing w W) => code_in (HSP.out W ht) T ((HD.out T hM.ne hM.suf).still ht) hTs)
    have HRT := Lib.hid (fun W c m (ht : Turns Nothing w W) => kright_in (HSP.out W ht) c m)
    have HA := Lib.hid (show Bx.afterM (some (sl T, m)) = Bx.parseT (sl T) m from rfl)
    have hrng := hM.rng
    have hm8 : m = 0 ∨ m = 1 ∨ m = 2 ∨ m = 3 ∨ m = 4 ∨ m = 5 ∨ m = 6 ∨ m = 7 := by omega
    have qa : (bits BinOp.and IntKind.i64 m 4 != 0) = decide (m / 4 % 2 = 1) := by rcases hm8 with rfl | rfl | rfl | rfl | rfl | rfl | rfl | rfl <;> rfl
    clear H0 HB1 HB2 hM HD
    go_wp2_with fail
    refine (HC.out _ HM.out.turns).mono ?_
    rintro e w1 ⟨rfl, ht⟩
    have K1 := Lib.hid (ht.blk HM.out.key id)
    have R1 := Lib.hid (ht.blk HM.out.res id)
    have T1 := Lib.hid (HM.out.turns.same ht)
    obtain ⟨x0, x1, xf0, xf1, xz⟩ := key_cells K1.out
    have HP0 := Lib.hid (show Bx.parseT (sl T) m = if Bx.right (if m / 4 % 2 = 1 then Bx.plainK ⟨Bx.codeOf (sl T), m⟩ else ⟨Bx.codeOf (sl T), m⟩) then some (if m / 4 % 2 = 1 then Bx.plainK ⟨Bx.codeOf (sl T), m⟩ else ⟨Bx.codeOf (sl T), m⟩) else none from rfl)
    generalize Bx.codeOf (sl T) = c at HP0 ⊢
    have K2 := Lib.hid (K1.out.set_ 0 (.int .i64 c))
    have R2 := Lib.hid (R1.out.far (p := ⟨w.heap.size + 1, 0, none⟩) (by simp) (.int .i64 c))
    have T2 := Lib.hid (T1.out.setCell (p := ⟨w.heap.size + 1, 0, none⟩) (.inr (Nat.le_succ _)) (.int .i64 c))
    by_cases h4 : m / 4 % 2 = 1
    · have q4 : (bits BinOp.and IntKind.i64 m 4 != 0) = true := by rw [qa]; exact decide_eq_true h4
      have HP1 := HP0.out
      rw [if_pos h4] at HP1
      have HPL := Lib.hid (fun W => plain_in (w := W) c m (by omega))
      generalize Bx.plainK ⟨c, m⟩ = kk at HP1 HPL
      obtain ⟨c', m'⟩ := kk
      have HP := Lib.hid HP1
      clear HP1 HP0 qa hm8 hrng h4 ht HM HC
      go_wp2_with fail
      refine (HPL.out _).mono ?_
      rintro e w3 ⟨rfl, ht⟩
      have K3 := Lib.hid (ht.blk K2.out id)
      have R3 := Lib.hid (ht.blk R2.out id)
      have T3 := Lib.hid (T2.out.same ht)
      clear ht x0 x1 xf0 xf1 xz
      obtain ⟨x0, x1, xf0, xf1, xz⟩ := key_cells K3.out
      obtain ⟨y0, y1, yf0, yf1, yz⟩ := key_cells R3.out
      have K4 := Lib.hid (set_two K3.out (.int .i64 c') (.int .i64 m'))
      have R4 := Lib.hid ((R3.out.far (p := ⟨w.heap.size + 1, 0, none⟩) (by simp) (.int .i64 c')).far (p := ⟨w.heap.size + 1, 1, none⟩) (by simp) (.int .i64 m'))
      have T4 := Lib.hid ((T3.out.setCell (p := ⟨w.heap.size + 1, 0, none⟩) (.inr (Nat.le_succ _)) (.int .i64 c')).setCell (p := ⟨w.heap.size + 1, 1, none⟩) (.inr (Nat.le_succ _)) (.int .i64 m'))
      go_wp2_with fail
      refine (HRT.out _ _ _ T4.out).mono ?_
      rintro e w5 ⟨rfl, ht⟩
      have K5 := Lib.hid (ht.blk K4.out id)
      have R5 := Lib.hid (ht.blk R4.out id)
      have T5 := Lib.hid (T4.out.same ht)
      clear ht x0 x1 xf0 xf1 xz y0 y1 yf0 yf1 yz
      obtain ⟨x0, x1, xf0, xf1, xz⟩ := key_cells K5.out
      obtain ⟨y0, y1, yf0, yf1, yz⟩ := key_cells R5.out
      generalize hr : Bx.right ⟨c', m'⟩ = r
      have HR := Lib.hid hr
      clear hr
      cases r with
      | true =>
        go_wp2_with fail
        have HS := Lib.hid (set_two R5.out (.int .i64 c') (.int .i64 m'))
        refine bodyPost_ret (results_cell_tmp Tryz.results38 _ _ _ ⟨w.heap.size, 0, none⟩ _ rfl (load_key _ _ _ _ HS.out)) rfl ?_
        rw [HA.out, HP.out, if_pos HR.out]
        exact ⟨rfl, (T5.out.setCell (.inr (Nat.le_refl _)) _).setCell (.inr (Nat.le_refl _)) _⟩
      | false =>
        go_wp2_with fail
        have HS := Lib.hid (set_two R5.out (.int .i64 0) (.int .i64 0))
        refine bodyPost_ret (results_cell_tmp Tryz.results38 _ _ _ ⟨w.heap.size, 0, none⟩ _ rfl (load_key _ _ _ _ HS.out)) rfl ?_
        rw [HA.out, HP.out, if_neg (by rw [HR.out]; decide)]
        exact ⟨rfl, (T5.out.setCell (.inr (Nat.le_refl _)) _).setCell (.inr (Nat.le_refl _)) _⟩
    · have q4 : (bits BinOp.and IntKind.i64 m 4 != 0) = false := by rw [qa]; exact decide_eq_false h4
      have HP1 := HP0.out
      rw [if_neg h4] at HP1
      obtain ⟨c', hc'⟩ : ∃ c', c' = c := ⟨_, rfl⟩
      obtain ⟨m', hm'⟩ : ∃ m', m' = m := ⟨_, rfl⟩
      subst hc' hm'
      have HP := Lib.hid HP1
      have K4 := K2
      have R4 := R2
      have T4 := T2
      obtain ⟨y0, y1, yf0, yf1, yz⟩ := key_cells R1.out
      clear HP1 HP0 qa hm8 hrng h4 ht HM HC K2 R2 T2
      go_wp2_with fail
      refine (HRT.out _ _ _ T4.out).mono ?_
      rintro e w5 ⟨rfl, ht⟩
      have K5 := Lib.hid (ht.blk K4.out id)
      have R5 := Lib.hid (ht.blk R4.out id)
      have T5 := Lib.hid (T4.out.same ht)
      clear ht x0 x1 xf0 xf1 xz y0 y1 yf0 yf1 yz
      obtain ⟨x0, x1, xf0, xf1, xz⟩ := key_cells K5.out
      obtain ⟨y0, y1, yf0, yf1, yz⟩ := key_cells R5.out
      generalize hr : Bx.right ⟨c', m'⟩ = r
      have HR := Lib.hid hr
      clear hr
      cases r with
      | true =>
        go_wp2_with fail
        have HS := Lib.hid (set_two R5.out (.int .i64 c') (.int .i64 m'))
        refine bodyPost_ret (results_cell_tmp Tryz.results38 _ _ _ ⟨w.heap.size, 0, none⟩ _ rfl (load_key _ _ _ _ HS.out)) rfl ?_
        rw [HA.out, HP.out, if_pos HR.out]
        exact ⟨rfl, (T5.out.setCell (.inr (Nat.le_refl _)) _).setCell (.inr (Nat.le_refl _)) _⟩
      | false =>
        go_wp2_with fail
        have HS := Lib.hid (set_two R5.out (.int .i64 0) (.int .i64 0))
        refine bodyPost_ret (results_cell_tmp Tryz.results38 _ _ _ ⟨w.heap.size, 0, none⟩ _ rfl (load_key _ _ _ _ HS.out)) rfl ?_
        rw [HA.out, HP.out, if_neg (by rw [HR.out]; decide)]
        exact ⟨rfl, (T5.out.setCell (.inr (Nat.le_refl _)) _).setCell (.inr (Nat.le_refl _)) _⟩
end Go.Proofs.YtiopaenonjhlnaaGreatDoor
namespace Go.Proofs.YtiopaenonjhlnaaGreatDoor
set_option maxRecDepth 8000
open Go.RowKit

theorem ctrlB_in (w : World) : Calls Tryz.prog 13 #[] w fun e w' => e = .returned (.agg #[.int .i64 98, .int .i64 4]) ∧ Turns Nothing w w' := by
  have T1 := Lib.hid ((Turns.refl Nothing w).alloc (.cells #[.int .i64 98, .int .i64 4] 23))
  have K1 := Lib.hid (Blk.new w 23 #[.int .i64 98, .int .i64 4])
  go_enter Tryz.func13, Tryz.ntmps13
  go_wp2_with fail
  refine bodyPost_ret ((results_cell Tryz.results13 _ _ _ ⟨w.heap.size, 0, none⟩ rfl).trans (load_key _ _ _ _ K1.out)) rfl ?_
  exact ⟨rfl, T1.out⟩
/-- what pick answers -/
def PickOut (w : World) (n : Int) (e : Ending) (w' : World) : Prop := ∃ r : Int, e = .returned (.int .i64 r) ∧ 0 ≤ r ∧ r < n ∧ w' = w
theorem pick_in (w : World) (x n : Int) (hx : -9223372036854775808 ≤ x ∧ x ≤ 9223372036854775807) (hn : 0 < n ∧ n ≤ 1000000) : Calls Tryz.prog 11 #[.int .i64 x, .int .i64 n] w (PickOut w n) := by
  have HN := Lib.hid hn
  have HX := Lib.hid hx
  have hn0 : n ≠ 0 := by omega
  have key : ∀ y : Int, 0 ≤ y → y ≤ 9223372036854775807 → 0 ≤ y.tmod n ∧ y.tmod n < n := fun y h1 h2 => ⟨Int.tmod_nonneg _ h1, Int.tmod_lt_of_pos _ (by omega)⟩
  have HK := Lib.hid key
  clear key hn
  by_cases h0 : x < 0
  · have hd : decide (x < 0) = true := decide_eq_true h0
    go_enter Tryz.func11, Tryz.ntmps11
    go_wp2_with fail
    go_ret
    refine ⟨_, rfl, ?_, ?_, rfl⟩
    · have := (HK.out (-(x + 1)) (by omega) (by have := HX.out; omega)).1
      rw [Int.neg_tmod] at this
      exact this
    · have := (HK.out (-(x + 1)) (by omega) (by have := HX.out; omega)).2
      rw [Int.neg_tmod] at this
      exact this
  · have hd : decide (x < 0) = false := decide_eq_false h0
    go_enter Tryz.func11, Tryz.ntmps11
    go_wp2_with fail
    go_ret
    have := HN.out
    exact ⟨_, rfl, Int.emod_nonneg _ (by omega), Int.emod_lt_of_pos _ (by omega), rfl⟩
end Go.Proofs.YtiopaenonjhlnaaGreatDoor
