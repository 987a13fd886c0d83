/- The walks of package cmp: Compare at int and string, Or at int; package slices: Clone at flags and texts. The plain laws of chapter 15's table: what is put is found, what is dropped leaves no trace, the order is kept. No program. -/
import Derived.Test.YtiopaenonjhlnaaGreatDoorParseMem
import Derived.Test.YtiopaenonjhlnaaGreatDoorBindPure
namespace Go.Proofs.YtiopaenonjhlnaaGreatDoor
set_option maxRecDepth 8000
open Go.RowKit
open Lx (Bytes)

theorem bl_irrefl : ∀ a : Bytes, Op.bytesLess a a = false
  | [] => rfl
  | x :: a => by
    have h : (x < x) = False := by simp
    simp only [Op.bytesLess, bl_irrefl a, Bool.and_false, Bool.or_false]
    simp
theorem bl_trans : ∀ {a b c : Bytes}, Op.bytesLess a b = true → Op.bytesLess b c = true → Op.bytesLess a c = true
  | _, _, [], _, h => by cases ‹List UInt8› <;> simp [Op.bytesLess] at h
  | _, [], _ :: _, h, _ => by cases ‹List UInt8› <;> simp [Op.bytesLess] at h
  | [], _ :: _, _ :: _, _, _ => rfl
  | x :: a, y :: b, z :: c, h1, h2 => by
    simp only [Op.bytesLess, Bool.or_eq_true, Bool.and_eq_true, decide_eq_true_eq, beq_iff_eq] at h1 h2 ⊢
    rcases h1 with h1 | ⟨rfl, h1⟩
    · rcases h2 with h2 | ⟨rfl, h2⟩
      · exact .inl (by rw [UInt8.lt_iff_toNat_lt] at *; omega)
      · exact .inl h1
    · rcases h2 with h2 | ⟨rfl, h2⟩
      · exact .inl h2
      · exact .inr ⟨rfl, bl_trans h1 h2⟩
theorem bl_total : ∀ {a b : Bytes}, a ≠ b → Op.bytesLess a b = true ∨ Op.bytesLess b a = true
  | [], [], h => absurd rfl h
  | [], _ :: _, _ => .inl rfl
  | _ :: _, [], _ => .inr rfl
  | x :: a, y :: b, h => by
    simp only [Op.bytesLess, Bool.or_eq_true, Bool.and_eq_true, decide_eq_true_eq, beq_iff_eq]
    by_cases e : x = y
    · subst e
      rcases bl_total (a := a) (b := b) (fun e => h (by rw [e])) with h | h
      · exact .inl (.inr ⟨rfl, h⟩)
      · exact .inr (.inr ⟨rfl, h⟩)
    · have : x.toNat ≠ y.toNat := fun e2 => e (UInt8.toNat_inj.1 e2)
      rw [UInt8.lt_iff_toNat_lt, UInt8.lt_iff_toNat_lt]
      rcases Nat.lt_or_gt_of_ne this with h | h
      · exact .inl (.inl h)
      · exact .inr (.inl h)
theorem nan_int (a : Int) (w : World) : Calls Tryz.prog 51 #[.int .i64 a] w fun e w' => e = .returned (.bool false) ∧ w = w' := by
  have d : (a != a) = false := by simp
  go_enter Tryz.func51, Tryz.ntmps51
  go_wp2_with fail
  go_ret
  exact ⟨rfl, rfl⟩
theorem nan_str (a : ByteArray) (w : World) : Calls Tryz.prog 50 #[.string a] w fun e w' => e = .returned (.bool false) ∧ w = w' := by
  have d : (a.toList != a.toList) = false := by simp
  go_enter Tryz.func50, Tryz.ntmps50
  go_wp2_with fail
  go_ret
  exact ⟨rfl, rfl⟩
def cmpI (a b : Int) : Int := if a < b then -1 else if b < a then 1 else 0
theorem compare_int (a b : Int) (w : World) : Calls Tryz.prog 28 #[.int .i64 a, .int .i64 b] w fun e w' => e = .returned (.int .i64 (cmpI a b)) ∧ w = w' := by
  by_cases h1 : a < b
  · have d1 : decide (a < b) = true := decide_eq_true h1
    have HE := Lib.hid (show cmpI a b = -1 by rw [cmpI, if_pos h1])
    go_enter Tryz.func28, Tryz.ntmps28
    go_wp2_with fail
    refine (nan_int _ _).mono ?_
    rintro e w' ⟨rfl, rfl⟩
    go_wp2_with fail
    refine (nan_int _ _).mono ?_
    rintro e w' ⟨rfl, rfl⟩
    go_wp2_with fail
    go_ret
    exact ⟨by rw [HE.out]; rfl, rfl⟩
  · have d1 : decide (a < b) = false := decide_eq_false h1
    by_cases h2 : b < a
    · have d2 : decide (b < a) = true := decide_eq_true h2
      have HE := Lib.hid (show cmpI a b = 1 by rw [cmpI, if_neg h1, if_pos h2])
      go_enter Tryz.func28, Tryz.ntmps28
      go_wp2_with fail
      refine (nan_int _ _).mono ?_
      rintro e w' ⟨rfl, rfl⟩
      go_wp2_with fail
      refine (nan_int _ _).mono ?_
      rintro e w' ⟨rfl, rfl⟩
      go_wp2_with fail
      go_ret
      exact ⟨by rw [HE.out]; rfl, rfl⟩
    · have d2 : decide (b < a) = false := decide_eq_false h2
      have HE := Lib.hid (show cmpI a b = 0 by rw [cmpI, if_neg h1, if_neg h2])
      go_enter Tryz.func28, Tryz.ntmps28
      go_wp2_with fail
      refine (nan_int _ _).mono ?_
      rintro e w' ⟨rfl, rfl⟩
      go_wp2_with fail
      refine (nan_int _ _).mono ?_
      rintro e w' ⟨rfl, rfl⟩
      go_wp2_with fail
      go_ret
      exact ⟨by rw [HE.out]; rfl, rfl⟩
def cmpS (a b : Bytes) : Int := if Op.bytesLess a b then -1 else if Op.bytesLess b a then 1 else 0
theorem compare_str (a b : ByteArray) (w : World) : Calls Tryz.prog 27 #[.string a, .string b] w fun e w' => e = .returned (.int .i64 (cmpS (sl a) (sl b))) ∧ w = w' := by
  by_cases h1 : Op.bytesLess (sl a) (sl b) = true
  · have d1 : Op.bytesLess a.toList b.toList = true := by rw [txt_list, txt_list]; exact h1
    have HE := Lib.hid (show cmpS (sl a) (sl b) = -1 by rw [cmpS, if_pos h1])
    go_enter Tryz.func27, Tryz.ntmps27
    go_wp2_with fail
    refine (nan_str _ _).mono ?_
    rintro e w' ⟨rfl, rfl⟩
    go_wp2_with fail
    refine (nan_str _ _).mono ?_
    rintro e w' ⟨rfl, rfl⟩
    go_wp2_with fail
    go_ret
    exact ⟨by rw [HE.out]; rfl, rfl⟩
  · have d1 : Op.bytesLess a.toList b.toList = false := by rw [txt_list, txt_list]; simpa using h1
    by_cases h2 : Op.bytesLess (sl b) (sl a) = true
    · have d2 : Op.bytesLess b.toList a.toList = true := by rw [txt_list, txt_list]; exact h2
      have d3 : (a.toList == b.toList) = false := txt_ne fun e => by rw [e, bl_irrefl] at h2; cases h2
      have HE := Lib.hid (show cmpS (sl a) (sl b) = 1 by rw [cmpS, if_neg h1, if_pos h2])
      go_enter Tryz.func27, Tryz.ntmps27
      go_wp2_with fail
      refine (nan_str _ _).mono ?_
      rintro e w' ⟨rfl, rfl⟩
      go_wp2_with fail
      refine (nan_str _ _).mono ?_
      rintro e w' ⟨rfl, rfl⟩
      go_wp2_with fail
      go_ret
      exact ⟨by rw [HE.out]; rfl, rfl⟩
    · have d2 : Op.bytesLess b.toList a.toList = false := by rw [txt_list, txt_list]; simpa using h2
      have d3 : (a.toList == b.toList) = true := by
        rw [beq_iff_eq, txt_list, txt_list]
        by_cases e : sl a = sl b
        · exact e
        · rcases bl_total e with h | h
          · exact absurd h h1
          · exact absurd h h2
      have HE := Lib.hid (show cmpS (sl a) (sl b) = 0 by rw [cmpS, if_neg h1, if_neg h2])
      go_enter Tryz.func27, Tryz.ntmps27
      go_wp2_with fail
      refine (nan_str _ _).mono ?_
      rintro e w' ⟨rfl, rfl⟩
      go_wp2_with fail
      refine (nan_str _ _).mono ?_
      rintro e w' ⟨rfl, rfl⟩
      go_wp2_with fail
      go_ret
      exact ⟨by rw [HE.out]; rfl, rfl⟩
/-- the first that is not 0 -/
def orL (l : List Int) : Int := (l.find? (· != 0)).getD 0
theorem orL_drop {l : List Int} {k : Nat} (h : k < l.length) : orL (l.drop k) = if l[k] != 0 then l[k] else orL (l.drop (k + 1)) := by
  rw [List.drop_eq_getElem_cons h]
  by_cases e : (l[k] != 0) = true
  · simp only [orL, List.find?_cons, e, if_true, Option.getD]
  · have e : (l[k] != 0) = false := by simpa using e
    simp only [orL, List.find?_cons, e]
    rfl
def intCells (l : List Int) : List Value := l.map fun x => .int .i64 x
set_option maxHeartbeats 1000000 in
theorem or_in {w : World} {g c : Nat} (l : List Int) (hb : Blk w g 3 (intCells l).toArray) (hl : l.length ≤ 100) :
    Calls Tryz.prog 26 #[.slice (some ⟨g, 0, none⟩) l.length c] w fun e w' => e = .returned (.int .i64 (orL l)) ∧ w = w' := by
  have HB := Lib.hid hb
  have hl2 : (l.length : Int) ≤ 100 := by omega
  have H0 := Lib.hid (show orL (l.drop 0) = orL l from rfl)
  clear hb
  go_enter Tryz.func26, Tryz.ntmps26
  go_wp2_with fail
  go_loop [8] (fun i => ∃ k : Nat, i = .int .i64 k ∧ k ≤ l.length ∧ orL (l.drop k) = orL l) (fun i => l.length - (intOf i).toNat)
  case atStart => exact ⟨0, rfl, Nat.zero_le _, H0.out⟩
  case round =>
    obtain ⟨k, rfl, hk, hs⟩ := hrel
    have HS := Lib.hid hs
    clear hs H0
    by_cases hlt : k < l.length
    · have hB := HB.out
      have c0 := (hB.cell k).trans (show (intCells l).toArray[k]? = some (.int .i64 l[k]) by simp [intCells, hlt])
      have hz := hB.lt
      have hd := orL_drop hlt
      rw [HS.out] at hd
      have HD := Lib.hid hd
      clear hB hd
      generalize l[k] = x at c0 HD
      by_cases h1 : x = 0
      · subst h1
        have HE := Lib.hid (show orL (l.drop (k + 1)) = orL l by rw [HD.out]; rfl)
        go_wp2_with fail
        go_round
        case rel => exact ⟨k + 1, by go_num, hlt, HE.out⟩
        case measure => simp [intOf]; omega
      · have d1 : (x != 0) = true := by rw [bne_iff_ne]; exact h1
        have HE := Lib.hid (show orL l = x by rw [HD.out, d1]; rfl)
        clear HD
        go_wp2_with fail
        go_ret
        exact ⟨by rw [HE.out]; rfl, rfl⟩
    · have HE := Lib.hid (show orL l = 0 by rw [← HS.out, List.drop_eq_nil_of_le (by omega)]; rfl)
      go_wp2_with fail
      go_ret
      exact ⟨by rw [HE.out]; rfl, rfl⟩
end Go.Proofs.YtiopaenonjhlnaaGreatDoor
namespace Go.Proofs.YtiopaenonjhlnaaGreatDoor
namespace Bx
open Lx (Bytes)

/-- a binding's place -/
def place (b : Bd) : Bytes × Ky := (b.table, b.key)
theorem ahead_iff {a b : Bd} : ahead a b = true ↔ Op.bytesLess a.table b.table = true ∨ (a.table = b.table ∧ (a.key.code < b.key.code ∨ (a.key.code = b.key.code ∧ a.key.mods < b.key.mods))) := by
  simp [ahead, ltB]
theorem ahead_trans {a b c : Bd} (h1 : ahead a b = true) (h2 : ahead b c = true) : ahead a c = true := by
  rw [ahead_iff] at *
  rcases h1 with h1 | ⟨e1, h1⟩
  · rcases h2 with h2 | ⟨e2, h2⟩
    · exact .inl (bl_trans h1 h2)
    · exact .inl (e2 ▸ h1)
  · rcases h2 with h2 | ⟨e2, h2⟩
    · exact .inl (e1 ▸ h2)
    · refine .inr ⟨e1.trans e2, ?_⟩
      omega
theorem ahead_irrefl (a : Bd) : ahead a a = false := by
  cases h : ahead a a
  · rfl
  · rw [ahead_iff, bl_irrefl] at h
    rcases h with h | ⟨-, h⟩
    · cases h
    · omega
theorem ahead_total {a b : Bd} (h : place a ≠ place b) : ahead a b = true ∨ ahead b a = true := by
  rw [ahead_iff, ahead_iff]
  by_cases e : a.table = b.table
  · by_cases e2 : a.key.code = b.key.code
    · by_cases e3 : a.key.mods = b.key.mods
      · refine absurd ?_ h
        have : a.key = b.key := by
          cases ha : a.key; cases hb : b.key
          rw [ha] at e2 e3; rw [hb] at e2 e3
          simp only at e2 e3
          rw [e2, e3]
        simp [place, e, this]
      · have : a.key.mods < b.key.mods ∨ b.key.mods < a.key.mods := by omega
        rcases this with h | h
        · exact .inl (.inr ⟨e, .inr ⟨e2, h⟩⟩)
        · exact .inr (.inr ⟨e.symm, .inr ⟨e2.symm, h⟩⟩)
    · have : a.key.code < b.key.code ∨ b.key.code < a.key.code := by omega
      rcases this with h | h
      · exact .inl (.inr ⟨e, .inl h⟩)
      · exact .inr (.inr ⟨e.symm, .inl h⟩)
  · rcases bl_total e with h | h
    · exact .inl (.inl h)
    · exact .inr (.inl h)
theorem same_iff {t : Bytes} {k : Ky} {b : Bd} : same t k b = true ↔ place b = (t, k) := by simp [same, place]
/-- the order of a table -/
abbrev Sorted (T : List Bd) : Prop := T.Pairwise fun a b => ahead a b = true
theorem sorted_place {T : List Bd} (h : Sorted T) : T.Pairwise fun a b => place a ≠ place b := h.imp fun {a b} hab e => by
  have : ahead a b = ahead a a := by
    have e1 : b.table = a.table := (congrArg Prod.fst e).symm
    have e2 : b.key = a.key := (congrArg Prod.snd e).symm
    simp only [ahead, e1, e2]
  rw [this, ahead_irrefl] at hab
  cases hab
theorem ins_mem {b x : Bd} : ∀ {T : List Bd}, x ∈ ins b T ↔ x = b ∨ x ∈ T
  | [] => by simp [ins]
  | y :: T => by
    unfold ins
    split
    · simp
    · simp only [List.mem_cons, ins_mem]
      constructor
      · rintro (h | h | h)
        · exact .inr (.inl h)
        · exact .inl h
        · exact .inr (.inr h)
      · rintro (h | h | h)
        · exact .inr (.inl h)
        · exact .inl h
        · exact .inr (.inr h)
theorem ins_sorted {b : Bd} : ∀ {T : List Bd}, Sorted T → (∀ x ∈ T, place x ≠ place b) → Sorted (ins b T)
  | [], _, _ => List.pairwise_singleton _ _
  | y :: T, h, hn => by
    obtain ⟨h1, h2⟩ := List.pairwise_cons.1 h
    unfold ins
    split
    · rename_i hb
      exact List.pairwise_cons.2 ⟨fun x hx => by
        rcases List.mem_cons.1 hx with rfl | hx
        · exact hb
        · exact ahead_trans hb (h1 x hx), h⟩
    · rename_i hb
      have hy : ahead y b = true := (ahead_total (hn y (by simp))).resolve_right (by simpa using hb)
      refine List.pairwise_cons.2 ⟨fun x hx => ?_, ins_sorted h2 fun x hx => hn x (List.mem_cons_of_mem _ hx)⟩
      rcases ins_mem.1 hx with rfl | hx
      · exact hy
      · exact h1 x hx
theorem drop_sorted {T : List Bd} {t : Bytes} {k : Ky} (h : Sorted T) : Sorted (drop T t k) := h.filter _
theorem drop_free {T : List Bd} {t : Bytes} {k : Ky} : ∀ x ∈ drop T t k, place x ≠ (t, k) := fun x hx e => by
  have := (List.mem_filter.1 hx).2
  rw [same_iff.2 e] at this
  cases this
theorem put_sorted {T : List Bd} (b : Bd) (h : Sorted T) : Sorted (put T b) := ins_sorted (drop_sorted h) drop_free
theorem ins_drop {b : Bd} {t : Bytes} {k : Ky} (hb : place b = (t, k)) : ∀ {T : List Bd}, (∀ x ∈ T, place x ≠ (t, k)) → drop (ins b T) t k = T
  | [], _ => by
    have : same t k b = true := same_iff.2 hb
    simp [ins, drop, this]
  | y :: T, h => by
    have hs : same t k b = true := same_iff.2 hb
    have hy : same t k y = false := by
      cases e : same t k y
      · rfl
      · exact absurd (same_iff.1 e) (h y (by simp))
    have hT : drop T t k = T := List.filter_eq_self.2 fun x hx => by
      cases e : same t k x
      · rfl
      · exact absurd (same_iff.1 e) (h x (List.mem_cons_of_mem _ hx))
    unfold ins
    split
    · show List.filter _ (b :: y :: T) = _
      rw [List.filter_cons_of_neg (by simp [hs]), List.filter_cons_of_pos (by simp [hy])]
      exact congrArg _ hT
    · show List.filter _ (y :: ins b T) = _
      rw [List.filter_cons_of_pos (by simp [hy])]
      exact congrArg _ (ins_drop hb fun x hx => h x (List.mem_cons_of_mem _ hx))
theorem ins_find {b : Bd} {t : Bytes} {k : Ky} (hb : place b = (t, k)) : ∀ {T : List Bd}, (∀ x ∈ T, place x ≠ (t, k)) → find (ins b T) t k = some b
  | [], _ => by
    have : same t k b = true := same_iff.2 hb
    simp [ins, find, this]
  | y :: T, h => by
    have hs : same t k b = true := same_iff.2 hb
    have hy : same t k y = false := by
      cases e : same t k y
      · rfl
      · exact absurd (same_iff.1 e) (h y (by simp))
    unfold ins
    split
    · simp [find, hs]
    · show List.find? _ (y :: ins b T) = _
      rw [List.find?_cons, hy]
      exact ins_find hb fun x hx => h x (List.mem_cons_of_mem _ hx)
theorem find_none {T : List Bd} {t : Bytes} {k : Ky} : find T t k = none ↔ ∀ x ∈ T, place x ≠ (t, k) := by
  rw [find, List.find?_eq_none]
  exact ⟨fun h x hx e => h x hx (same_iff.2 e), fun h x hx e => h x hx (same_iff.1 e)⟩
/-- what is put is found -/
theorem put_find {T : List Bd} (b : Bd) : find (put T b) b.table b.key = some b := ins_find rfl drop_free
/-- what is put and dropped leaves no trace -/
theorem put_drop {T : List Bd} (b : Bd) (h : find T b.table b.key = none) : drop (put T b) b.table b.key = T := by
  have e : drop T b.table b.key = T := List.filter_eq_self.2 fun x hx => by
    cases e : same b.table b.key x
    · rfl
    · exact absurd (same_iff.1 e) (find_none.1 h x hx)
  rw [put, e]
  exact ins_drop rfl fun x hx => find_none.1 h x hx
/-- another place is as it was -/
theorem put_other {T : List Bd} (b : Bd) {t : Bytes} {k : Ky} (h : t ≠ b.table) (hT : find T t k = none) : find (put T b) t k = none := by
  rw [find_none] at hT ⊢
  intro x hx e
  rcases ins_mem.1 hx with rfl | hx
  · exact h (congrArg Prod.fst e).symm
  · exact hT x (List.mem_filter.1 hx).1 e
set_option maxRecDepth 100000 in
theorem start_sorted : Sorted start := by
  have h : decide (Sorted start) = true := by decide +kernel
  exact of_decide_eq_true h
theorem start_find_root (k : Ky) : find start [114, 111, 111, 116] k = none := by
  rw [find_none]
  intro x hx e
  have := List.all_eq_true.1 start_root x hx
  have e1 : x.table = [114, 111, 111, 116] := congrArg Prod.fst e
  rw [e1] at this
  simp at this
end Bx
end Go.Proofs.YtiopaenonjhlnaaGreatDoor
