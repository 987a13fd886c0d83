/- The walk of package key: mouse, Right, Name, plain. The walk of package key: Name, plain. -/
import Derived.Test.YtiopaenonjhlnaaGreatDoorKeyNamed
namespace Go.Proofs.YtiopaenonjhlnaaGreatDoor
set_option maxRecDepth 8000
open Go.RowKit
open Lx (Bytes)

def mouseB (c : Int) : Bool := decide (1114136 ≤ c) && decide (c ≤ 1114140)
theorem mouse_in (c : Int) (w : World) : Calls Tryz.prog 40 #[.int .i64 c] w fun e w' => e = .returned (.bool (mouseB c)) ∧ w = w' := by
  by_cases h1 : 1114136 ≤ c
  · have d1 : decide (1114136 ≤ c) = true := decide_eq_true h1
    have hE : mouseB c = decide (c ≤ 1114140) := by rw [mouseB, d1]; rfl
    rw [hE]
    go_enter Tryz.func40, Tryz.ntmps40
    go_wp2_with fail
    go_ret
    exact ⟨rfl, rfl⟩
  · have d1 : decide (1114136 ≤ c) = false := decide_eq_false h1
    have hE : mouseB c = false := by rw [mouseB, d1]; rfl
    rw [hE]
    go_enter Tryz.func40, Tryz.ntmps40
    go_wp2_with fail
    go_ret
    exact ⟨rfl, rfl⟩
/-- what Right tells behind the name's test -/
def rightT (c m : Int) : Bool :=
  if (1114112 ≤ c ∧ c ≤ 1114133) ∨ (1114136 ≤ c ∧ c ≤ 1114140) then true
  else if c = 1114141 ∨ c = 1114142 then decide (m = 0)
  else if m % 2 ≠ 0 then false
  else if m / 4 = 0 then true
  else decide ((97 ≤ c ∧ c ≤ 122 ∧ c ≠ 105 ∧ c ≠ 109) ∨ (92 ≤ c ∧ c ≤ 95) ∨ c = 32)
theorem right_is (c m : Int) : Bx.right ⟨c, m⟩ = if Bx.named c = [] ∨ m < 0 ∨ 7 < m then false else rightT c m := rfl
theorem key_two {w : World} {b : Nat} {c m : Int} (h : Blk w b 23 #[.int .i64 c, .int .i64 m]) : w.cell? ⟨b, 0, none⟩ = some (.int .i64 c) ∧ w.cell? ⟨b, 1, none⟩ = some (.int .i64 m) ∧ b < w.heap.size := ⟨h.cell 0, h.cell 1, h.lt⟩
def rightD (c : Int) : Bool := decide ((97 ≤ c ∧ c ≤ 122 ∧ c ≠ 105 ∧ c ≠ 109) ∨ (92 ≤ c ∧ c ≤ 95) ∨ c = 32)
set_option maxHeartbeats 4000000 in
theorem kright_in {w : World} (hsp : Space w) (c m : Int) : Calls Tryz.prog 16 #[.agg #[.int .i64 c, .int .i64 m]] w fun e w' => e = .returned (.bool (Bx.right ⟨c, m⟩)) ∧ Turns Nothing w w' := by
  have HN := Lib.hid (named_in (w := w.alloc (.cells #[.int .i64 c, .int .i64 m] 23)) (hsp.still ((Turns.refl _ w).alloc _)) c)
  have HB := Lib.hid (Blk.new w 23 #[.int .i64 c, .int .i64 m])
  clear hsp
  rw [right_is]
  generalize Bx.named c = n at HN ⊢
  have HU := Lib.hid (show sl ⟨n.toArray⟩ = n from rfl)
  simp only [strV] at HN
  generalize (⟨n.toArray⟩ : ByteArray) = u at HN HU
  by_cases hn : n = []
  · have d0 : (u.toList == ([] : List UInt8)) = true := by rw [beq_iff_eq, txt_list, HU.out]; exact hn
    rw [show (if n = [] ∨ m < 0 ∨ 7 < m then false else rightT c m) = false from if_pos (.inl hn)]
    clear hn
    go_enter Tryz.func16, Tryz.ntmps16
    go_wp2_with fail
    refine HN.out.mono ?_
    rintro e w1 ⟨rfl, ht⟩
    have HT := Lib.hid (((Turns.refl Nothing w).alloc _).same ht)
    clear ht
    go_wp2_with fail
    go_ret
    exact ⟨rfl, HT.out⟩
  have d0 : (u.toList == ([] : List UInt8)) = false := by rw [beq_eq_false_iff_ne, txt_list, HU.out]; exact hn
  by_cases hm : m < 0 ∨ 7 < m
  · rw [show (if n = [] ∨ m < 0 ∨ 7 < m then false else rightT c m) = false from if_pos (.inr hm)]
    have d1 : (decide (m < 0) = true) ∨ (decide (m < 0) = false ∧ decide (7 < m) = true) := by
      by_cases h : m < 0
      · exact .inl (decide_eq_true h)
      · exact .inr ⟨decide_eq_false h, decide_eq_true (hm.resolve_left h)⟩
    clear hm hn
    rcases d1 with d1 | ⟨d1, d2⟩
    all_goals
      go_enter Tryz.func16, Tryz.ntmps16
      go_wp2_with fail
      refine HN.out.mono ?_
      rintro e w1 ⟨rfl, ht⟩
      obtain ⟨c0, c1, cz⟩ := key_two (ht.blk HB.out id)
      have HT := Lib.hid (((Turns.refl Nothing w).alloc _).same ht)
      clear ht
      go_wp2_with fail
      go_ret
      exact ⟨rfl, HT.out⟩
  have d1 : decide (m < 0) = false := decide_eq_false (by omega)
  have d2 : decide (7 < m) = false := decide_eq_false (by omega)
  rw [show (if n = [] ∨ m < 0 ∨ 7 < m then false else rightT c m) = rightT c m from if_neg (fun h => h.elim hn hm)]
  clear hn
  by_cases h1 : 1114112 ≤ c ∧ c ≤ 1114133
  · have g1 : decide (1114112 ≤ c) = true := decide_eq_true h1.1
    have g2 : decide (c ≤ 1114133) = true := decide_eq_true h1.2
    rw [show rightT c m = true from if_pos (.inl h1)]
    clear h1 hm
    go_enter Tryz.func16, Tryz.ntmps16
    go_wp2_with fail
    refine HN.out.mono ?_
    rintro e w1 ⟨rfl, ht⟩
    obtain ⟨c0, c1, cz⟩ := key_two (ht.blk HB.out id)
    have HT := Lib.hid (((Turns.refl Nothing w).alloc _).same ht)
    clear ht
    go_wp2_with fail
    go_ret
    exact ⟨rfl, HT.out⟩
  have g1 : (decide (1114112 ≤ c) = false) ∨ (decide (1114112 ≤ c) = true ∧ decide (c ≤ 1114133) = false) := by
    by_cases h : 1114112 ≤ c
    · exact .inr ⟨decide_eq_true h, decide_eq_false (fun h2 => h1 ⟨h, h2⟩)⟩
    · exact .inl (decide_eq_false h)
  have HM := Lib.hid (mouse_in c)
  generalize hmb : mouseB c = mb at HM
  cases mb with
  | true =>
    rw [show rightT c m = true from if_pos (.inr (by simpa [mouseB] using hmb))]
    clear h1 hm hmb
    rcases g1 with g1 | ⟨g1, g2⟩
    all_goals
      go_enter Tryz.func16, Tryz.ntmps16
      go_wp2_with fail
      refine HN.out.mono ?_
      rintro e w1 ⟨rfl, ht⟩
      obtain ⟨c0, c1, cz⟩ := key_two (ht.blk HB.out id)
      have HT := Lib.hid (((Turns.refl Nothing w).alloc _).same ht)
      clear ht
      go_wp2_with fail
      refine (HM.out _).mono ?_
      rintro e w2 ⟨rfl, rfl⟩
      go_wp2_with fail
      go_ret
      exact ⟨rfl, HT.out⟩
  | false =>
    have hE0 : rightT c m = if c = 1114141 ∨ c = 1114142 then decide (m = 0) else if m % 2 ≠ 0 then false else if m / 4 = 0 then true else rightD c :=
      if_neg (fun h => h.elim h1 fun h => by
        have : mouseB c = true := by simp [mouseB, h.1, h.2]
        rw [hmb] at this
        cases this)
    rw [hE0]
    by_cases h2 : c = 1114141 ∨ c = 1114142
    · rw [if_pos h2, show decide (m = 0) = (m == 0) by rw [Bool.eq_iff_iff]; simp]
      clear hE0 hmb hm h1 g1
      rcases h2 with rfl | rfl
      all_goals
        go_enter Tryz.func16, Tryz.ntmps16
        go_wp2_with fail
        refine HN.out.mono ?_
        rintro e w1 ⟨rfl, ht⟩
        obtain ⟨c0, c1, cz⟩ := key_two (ht.blk HB.out id)
        have HT := Lib.hid (((Turns.refl Nothing w).alloc _).same ht)
        clear ht
        go_wp2_with fail
        refine (HM.out _).mono ?_
        rintro e w2 ⟨rfl, rfl⟩
        go_wp2_with fail
        go_ret
        exact ⟨rfl, HT.out⟩
    have k1 : (c == 1114141) = false := beq_eq_false_iff_ne.2 fun e => h2 (.inl e)
    have k2 : (c == 1114142) = false := beq_eq_false_iff_ne.2 fun e => h2 (.inr e)
    rw [if_neg h2]
    have hm8 : m = 0 ∨ m = 1 ∨ m = 2 ∨ m = 3 ∨ m = 4 ∨ m = 5 ∨ m = 6 ∨ m = 7 := by omega
    have HRD := Lib.hid (show rightD c = decide ((97 ≤ c ∧ c ≤ 122 ∧ c ≠ 105 ∧ c ≠ 109) ∨ (92 ≤ c ∧ c ≤ 95) ∨ c = 32) from rfl)
    generalize rightD c = rd at HRD ⊢
    have q1 : (bits BinOp.and IntKind.i64 m 1 != 0) = (m % 2 != 0) := by rcases hm8 with rfl | rfl | rfl | rfl | rfl | rfl | rfl | rfl <;> rfl
    have q4 : (bits BinOp.and IntKind.i64 m 4 == 0) = (m / 4 == 0) := by rcases hm8 with rfl | rfl | rfl | rfl | rfl | rfl | rfl | rfl <;> rfl
    clear hE0 h2 hmb h1 hm
    rcases g1 with g1 | ⟨g1, g2⟩
    all_goals
      rcases hm8 with rfl | rfl | rfl | rfl | rfl | rfl | rfl | rfl
      all_goals
        simp only [Int.reduceMod, Int.reduceDiv, Int.reduceBNe, Int.reduceBEq] at q1 q4
        simp only [Int.reduceMod, Int.reduceDiv, ne_eq, not_true_eq_false, if_true, if_false, not_false_eq_true, Int.reduceEq]
        go_enter Tryz.func16, Tryz.ntmps16
        go_wp2_with fail
        refine HN.out.mono ?_
        rintro e w1 ⟨rfl, ht⟩
        obtain ⟨c0, c1, cz⟩ := key_two (ht.blk HB.out id)
        have HT := Lib.hid (((Turns.refl Nothing w).alloc _).same ht)
        clear ht
        go_wp2_with fail
        refine (HM.out _).mono ?_
        rintro e w2 ⟨rfl, rfl⟩
        go_wp2_with fail
        all_goals
          go_ret
          refine ⟨?_, HT.out⟩
          first
          | rfl
          | (show Ending.returned (Value.bool true) = _
             rw [HRD.out, decide_eq_true (by omega)])
          | (show Ending.returned (Value.bool false) = _
             rw [HRD.out, decide_eq_false (by omega)])
          | (show Ending.returned (Value.bool (decide (c ≤ 95) || c == 32)) = _
             refine congrArg (fun b => Ending.returned (Value.bool b)) ?_
             rw [HRD.out, Bool.eq_iff_iff]
             simp only [Bool.or_eq_true, decide_eq_true_eq, beq_iff_eq]
             omega)
          | (show Ending.returned (Value.bool (c == 32)) = _
             refine congrArg (fun b => Ending.returned (Value.bool b)) ?_
             rw [HRD.out, Bool.eq_iff_iff]
             simp only [decide_eq_true_eq, beq_iff_eq]
             omega)
end Go.Proofs.YtiopaenonjhlnaaGreatDoor
namespace Go.Proofs.YtiopaenonjhlnaaGreatDoor
set_option maxRecDepth 8000
open Go.RowKit
open Lx (Bytes)

theorem right_mods {c m : Int} (h : Bx.right ⟨c, m⟩ = true) : m = 0 ∨ m = 1 ∨ m = 2 ∨ m = 3 ∨ m = 4 ∨ m = 5 ∨ m = 6 ∨ m = 7 := by
  rw [right_is] at h
  by_cases hb : Bx.named c = [] ∨ m < 0 ∨ 7 < m
  · rw [if_pos hb] at h; cases h
  · omega
theorem keyName_is {c m : Int} (h : Bx.right ⟨c, m⟩ = true) : Bx.keyName ⟨c, m⟩ = (if m / 4 % 2 = 1 then [67, 45] else []) ++ (if m / 2 % 2 = 1 then [77, 45] else []) ++ (if m % 2 = 1 then [83, 45] else []) ++ Bx.named c := by
  rw [Bx.keyName, if_pos h]
theorem sl_app (a b : ByteArray) : sl (a ++ b) = sl a ++ sl b := by simp [sl]
theorem encode_len (c : Int) : (Utf8.encode c).data.toList.length ≤ 4 := by
  unfold Utf8.encode
  generalize (if Utf8.valid c = true then c.toNat else Utf8.runeError) = k
  dsimp only
  by_cases h1 : k < 128
  · rw [if_pos h1]; simp
  · rw [if_neg h1]
    by_cases h2 : k < 2048
    · rw [if_pos h2]; simp
    · rw [if_neg h2]
      by_cases h3 : k < 65536
      · rw [if_pos h3]; simp
      · rw [if_neg h3]; simp
theorem named_len (c : Int) : (Bx.named c).length ≤ 20 := by
  unfold Bx.named
  split
  · decide
  split
  · decide
  split
  · decide
  split
  · decide
  split
  · rename_i h
    cases hs : Bx.specials[(c - 1114112).toNat]? with
    | none => simp
    | some l =>
      have := List.all_eq_true.1 (show (Bx.specials.all fun l => decide (l.length ≤ 20)) = true by decide +kernel) l (List.mem_of_getElem? hs)
      simpa using this
  split
  · have := encode_len c
    omega
  · simp
set_option maxHeartbeats 2000000 in
theorem kname_in {w : World} (hsp : Space w) (c m : Int) : Calls Tryz.prog 17 #[.agg #[.int .i64 c, .int .i64 m]] w fun e w' => ∃ u : ByteArray, e = .returned (.string u) ∧ sl u = Bx.keyName ⟨c, m⟩ ∧ Turns Nothing w w' := by
  have HSP := Lib.hid (fun W (ht : Turns Nothing w W) => hsp.still ht)
  have HB := Lib.hid (Blk.new w 23 #[.int .i64 c, .int .i64 m])
  have HR := Lib.hid (kright_in (w := w.alloc (.cells #[.int .i64 c, .int .i64 m] 23)) (hsp.still ((Turns.refl _ w).alloc _)) c m)
  clear hsp
  generalize hr : Bx.right ⟨c, m⟩ = r at HR
  cases r with
  | false =>
    have HE := Lib.hid (show Bx.keyName ⟨c, m⟩ = [] by rw [Bx.keyName, if_neg (by rw [hr]; decide)])
    clear hr
    go_enter Tryz.func17, Tryz.ntmps17
    go_wp2_with fail
    refine HR.out.mono ?_
    rintro e w1 ⟨rfl, ht⟩
    have HT := Lib.hid (((Turns.refl Nothing w).alloc _).same ht)
    clear ht
    go_wp2_with fail
    go_ret
    exact ⟨_, rfl, by rw [HE.out]; rfl, HT.out⟩
  | true =>
    have HE := Lib.hid (keyName_is hr)
    have hm8 := right_mods hr
    have q1 : (bits BinOp.and IntKind.i64 m 1 != 0) = (m % 2 != 0) := by rcases hm8 with rfl | rfl | rfl | rfl | rfl | rfl | rfl | rfl <;> rfl
    have q2 : (bits BinOp.and IntKind.i64 m 2 != 0) = (m / 2 % 2 != 0) := by rcases hm8 with rfl | rfl | rfl | rfl | rfl | rfl | rfl | rfl <;> rfl
    have q4 : (bits BinOp.and IntKind.i64 m 4 != 0) = (m / 4 != 0) := by rcases hm8 with rfl | rfl | rfl | rfl | rfl | rfl | rfl | rfl <;> rfl
    have HN := Lib.hid (fun W (ht : Turns Nothing w W) => named_in (w := W) (HSP.out W ht) c)
    have hln := named_len c
    generalize Bx.named c = n at HN HE hln
    have HU := Lib.hid (show sl ⟨n.toArray⟩ = n from rfl)
    simp only [strV] at HN
    generalize (⟨n.toArray⟩ : ByteArray) = u at HN HU
    have hus : u.size ≤ 20 := by rw [← sl_size, HU.out]; exact hln
    clear hr hln
    rcases hm8 with rfl | rfl | rfl | rfl | rfl | rfl | rfl | rfl
    all_goals
      simp only [Int.reduceMod, Int.reduceDiv, Int.reduceBNe] at q1 q2 q4
      go_enter Tryz.func17, Tryz.ntmps17
      go_wp2_with fail
      refine HR.out.mono ?_
      rintro e w1 ⟨rfl, ht⟩
      obtain ⟨c0, c1, cz⟩ := key_two (ht.blk HB.out id)
      have HT := Lib.hid (((Turns.refl Nothing w).alloc _).same ht)
      clear ht
      go_wp2_with fail
      refine (HN.out _ HT.out).mono ?_
      rintro e w2 ⟨rfl, ht⟩
      have HT2 := Lib.hid (HT.out.same ht)
      clear ht
      go_wp2_with fail
      go_ret
      exact ⟨_, rfl, by rw [HE.out, ← HU.out]; simp [sl], HT2.out⟩
/-- plain, of a key with Ctrl -/
def plainC (c : Int) : Int := if 65 ≤ c ∧ c ≤ 90 then c + 32 else c
def plainT (c m : Int) : Int × Int := if plainC c = 105 then (9, m % 4) else if plainC c = 109 then (13, m % 4) else if plainC c = 91 then (1114135, m % 4) else if plainC c = 64 then (32, m) else (plainC c, m)
theorem plain_is (c m : Int) : Bx.plainK ⟨c, m⟩ = ⟨(plainT c m).1, (plainT c m).2⟩ := by
  unfold Bx.plainK plainT
  show (if plainC c = 105 then (⟨9, m % 4⟩ : Bx.Ky) else if plainC c = 109 then ⟨13, m % 4⟩ else if plainC c = 91 then ⟨1114135, m % 4⟩ else if plainC c = 64 then ⟨32, m⟩ else ⟨plainC c, m⟩) = _
  split
  · rfl
  split
  · rfl
  split
  · rfl
  split
  · rfl
  · rfl
set_option maxHeartbeats 2000000 in
theorem plain_in {w : World} (c m : Int) (hm : 4 ≤ m ∧ m ≤ 7) : Calls Tryz.prog 63 #[.agg #[.int .i64 c, .int .i64 m]] w fun e w' => e = .returned (.agg #[.int .i64 (Bx.plainK ⟨c, m⟩).code, .int .i64 (Bx.plainK ⟨c, m⟩).mods]) ∧ Turns Nothing w w' := by
  rw [plain_is]
  have hm4 : m = 4 ∨ m = 5 ∨ m = 6 ∨ m = 7 := by omega
  have q4 : bits BinOp.andNot IntKind.i64 m 4 = m % 4 := by rcases hm4 with rfl | rfl | rfl | rfl <;> rfl
  have HQ := Lib.hid hm4
  clear hm hm4
  by_cases hu : 65 ≤ c ∧ c ≤ 90
  · have g1 : decide (65 ≤ c) = true := decide_eq_true hu.1
    have g2 : decide (c ≤ 90) = true := decide_eq_true hu.2
    have hC : plainC c = c + 32 := if_pos hu
    have HE := Lib.hid (show plainT c m = if c + 32 = 105 then (9, m % 4) else if c + 32 = 109 then (13, m % 4) else if c + 32 = 91 then (1114135, m % 4) else if c + 32 = 64 then (32, m) else (c + 32, m) by rw [plainT, hC])
    generalize plainT c m = P at HE ⊢
    obtain ⟨h1, h2⟩ := hu
    clear hC
    go_enter Tryz.func63, Tryz.ntmps63
    go_wp2_with fail
    all_goals
      have hP := HE.out
      simp only [beq_iff_eq, beq_eq_false_iff_ne, ne_eq] at *
      first
      | (rw [if_pos (by omega)] at hP)
      | (rw [if_neg (by omega), if_pos (by omega)] at hP)
      | (rw [if_neg (by omega), if_neg (by omega), if_pos (by omega)] at hP)
      | (rw [if_neg (by omega), if_neg (by omega), if_neg (by omega), if_pos (by omega)] at hP)
      | (rw [if_neg (by omega), if_neg (by omega), if_neg (by omega), if_neg (by omega)] at hP)
      subst hP
      first
      | exact bodyPost_ret (v := .agg #[_, _]) (by simp [results, Tryz.results63, go_sem]; rfl) rfl ⟨rfl, ((Turns.refl _ w).alloc _).alloc _⟩
      | exact bodyPost_ret (v := .agg #[_, _]) (by simp [results, Tryz.results63, go_sem]) rfl ⟨rfl, ((Turns.refl _ w).alloc _).alloc _⟩
  · have hg : decide (65 ≤ c) = false ∨ (decide (65 ≤ c) = true ∧ decide (c ≤ 90) = false) := by
      by_cases h : 65 ≤ c
      · exact .inr ⟨decide_eq_true h, decide_eq_false fun h2 => hu ⟨h, h2⟩⟩
      · exact .inl (decide_eq_false h)
    have hC : plainC c = c := if_neg hu
    have HE := Lib.hid (show plainT c m = if c = 105 then (9, m % 4) else if c = 109 then (13, m % 4) else if c = 91 then (1114135, m % 4) else if c = 64 then (32, m) else (c, m) by rw [plainT, hC])
    generalize plainT c m = P at HE ⊢
    clear hC hu
    rcases hg with g1 | ⟨g1, g2⟩
    all_goals
      go_enter Tryz.func63, Tryz.ntmps63
      go_wp2_with fail
      all_goals
        have hP := HE.out
        simp only [beq_iff_eq, beq_eq_false_iff_ne, ne_eq] at *
        first
        | (rw [if_pos (by omega)] at hP)
        | (rw [if_neg (by omega), if_pos (by omega)] at hP)
        | (rw [if_neg (by omega), if_neg (by omega), if_pos (by omega)] at hP)
        | (rw [if_neg (by omega), if_neg (by omega), if_neg (by omega), if_pos (by omega)] at hP)
        | (rw [if_neg (by omega), if_neg (by omega), if_neg (by omega), if_neg (by omega)] at hP)
        subst hP
        first
        | exact bodyPost_ret (v := .agg #[_, _]) (by simp [results, Tryz.results63, go_sem]; rfl) rfl ⟨rfl, ((Turns.refl _ w).alloc _).alloc _⟩
        | exact bodyPost_ret (v := .agg #[_, _]) (by simp [results, Tryz.results63, go_sem]) rfl ⟨rfl, ((Turns.refl _ w).alloc _).alloc _⟩
end Go.Proofs.YtiopaenonjhlnaaGreatDoor
