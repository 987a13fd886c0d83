/- The walk of lex.Quote. -/
import Derived.Test.YtedlhdegdlabhaaGreatDoorLexWords
import Derived.Test.YtedlhdegdlabhaaGreatDoorBuilderLay
import Derived.Shelf.Strings.SlTrimAscii
namespace Go.Proofs.YtedlhdegdlabhaaGreatDoor
set_option maxRecDepth 8000
open Go.RowKit
open Lx (Bytes)

namespace Lx
def wset : Bytes := [97, 98, 99, 100, 101, 102, 103, 104, 105, 106, 107, 108, 109, 110, 111, 112, 113, 114, 115, 116, 117, 118, 119, 120, 121, 122, 65, 66, 67, 68, 69, 70, 71, 72, 73, 74, 75, 76, 77, 78, 79, 80, 81, 82, 83, 84, 85, 86, 87, 88, 89, 90, 95, 48, 49, 50, 51, 52, 53, 54, 55, 56, 57, 46, 47, 58, 61, 64, 37, 43, 44, 45]
def wesc (l : Bytes) : Bytes := l.flatMap fun b => if b = 34 ∨ b = 92 ∨ b = 36 then [92, b] else [b]
def wquote (s : Bytes) : Bytes := if s ≠ [] ∧ s.all (wset.contains ·) then s else if (39 : UInt8) ∈ s then 34 :: wesc s ++ [34] else 39 :: s ++ [39]
theorem wesc_length (l : Bytes) : (wesc l).length ≤ 2 * l.length := by
  induction l with
  | nil => simp [wesc]
  | cons b l ih =>
    rw [wesc, List.flatMap_cons, List.length_append, List.length_cons]
    have : (List.flatMap (fun b => if b = 34 ∨ b = 92 ∨ b = 36 then [92, b] else [b]) l).length ≤ 2 * l.length := ih
    split <;> simp only [List.length_cons, List.length_nil] <;> omega
end Lx
theorem dropWhile_nil {α : Type} (p : α → Bool) : ∀ l : List α, l.dropWhile p = [] ↔ l.all p = true
  | [] => by simp
  | a :: l => by
    rw [List.dropWhile_cons]
    by_cases h : p a = true
    · rw [if_pos h, dropWhile_nil p l]; simp [h]
    · rw [if_neg h]; simp [h]
theorem trimS_nil (l cs : List UInt8) : Lib.trimS l cs = [] ↔ l.all (cs.contains ·) = true := by
  unfold Lib.trimS Lib.trimLeftS Lib.trimRightS
  rw [dropWhile_nil]
  constructor
  · intro h
    by_cases h0 : l.reverse.dropWhile (cs.contains ·) = []
    · rw [dropWhile_nil] at h0; rw [← List.all_reverse]; exact h0
    · exfalso
      have h1 := List.head_dropWhile_not (cs.contains ·) h0
      rw [List.all_reverse] at h
      have h2 := List.all_eq_true.1 h _ (List.head_mem h0)
      rw [h2] at h1
      exact absurd h1 (by decide)
  · intro h
    have : l.reverse.dropWhile (cs.contains ·) = [] := by rw [dropWhile_nil, List.all_reverse]; exact h
    rw [this]; rfl
theorem A.zero69 : ∀ w, (zeroValue 140).run Tryz.prog w = .ok (.agg (Array.replicate 256 (.bool false))) w := fun w => by kernel_rfl

theorem trim_in (s : ByteArray) (w : World) (hs : s.size ≤ 9223372036854775807) :
    Calls Tryz.prog 50 #[.string s, .string ⟨Lx.wset.toArray⟩] w fun e w' => e = .returned (.string ⟨(Lib.trimS (sl s) Lx.wset).toArray⟩) ∧ Below w.heap.size w w' := by
  have := Any.strings_Trim_ascii Tryz.lays160 A.zero69 (by kernel_rfl) s ⟨Lx.wset.toArray⟩ w hs (by simp [ByteArray.size, Lx.wset]) (by
    intro j b hb
    have : b ∈ Lx.wset := List.mem_of_getElem? hb
    have h : ∀ b ∈ Lx.wset, b.toNat < 128 := by decide
    exact h b this)
  exact this

theorem ib_mem (c : UInt8) : ∀ l : Bytes, decide (0 ≤ Lib.indexByte l c) = decide (c ∈ l)
  | [] => by rw [ib_none]; simp
  | x :: l => by
    rw [ib_one, ib_mem c l]
    by_cases h : x = c
    · subst h; simp
    · have : ¬ c = x := fun e => h e.symm
      simp [h, this]
theorem contains_in (s : ByteArray) (w : World) : Calls Tryz.prog 51 #[.string s, .string ⟨#[39]⟩] w fun e w' => e = .returned (.bool (decide ((39 : UInt8) ∈ sl s))) ∧ w = w' :=
  (Tryz.strings_Contains_one s 39 w).mono fun e w' ⟨he, hw⟩ => ⟨by rw [he, ib_mem]; rfl, hw.symm⟩
theorem wb_in {w : World} {B b : Nat} {l : Bytes} (h : Lib.IsBuilder 75 5 B b (u8s l) w) (hB : B ≤ w.heap.size) (hl : l.length + 1 ≤ 10000000) (c : UInt8) (n : Int) (hn : n = c.toNat) :
    Calls Tryz.prog 52 #[.pointer (some ⟨b, 0, none⟩), .int .u8 n] w fun e w' => e = .returned .nilIface ∧ Lib.IsBuilder 75 5 B b (u8s (l ++ [c])) w' ∧ Below B w w' := by
  subst hn
  refine (Tryz.Builder_WriteByte B b (u8s l) c.toNat w h (by rw [u8s_len]; omega) hB).mono fun e w' ⟨he, hw, hb⟩ => ⟨he, .inr ?_, hb⟩
  rw [u8s_append]; exact hw
theorem bstr_in {w : World} {B b : Nat} {l : Bytes} (h : Lib.IsBuilder 75 5 B b (u8s l) w) (hB : B ≤ w.heap.size) :
    Calls Tryz.prog 30 #[.pointer (some ⟨b, 0, none⟩)] w fun e w' => e = .returned (.string ⟨l.toArray⟩) ∧ Below B w w' :=
  Tryz.Builder_String_any B b l w h hB
theorem u8s_take (s : ByteArray) {n : Nat} (h : n < s.size) : (sl s).take (n + 1) = (sl s).take n ++ [s[n]] := by
  rw [List.take_succ_eq_append_getElem (by rw [sl_size]; exact h)]
  rfl
structure QRel (w : World) (s : ByteArray) (n : Nat) (wr : World) : Prop where
  le : n ≤ s.size
  isB : Lib.IsBuilder 75 5 w.heap.size w.heap.size (u8s (34 :: Lx.wesc ((sl s).take n))) wr
  below : Below w.heap.size w wr
theorem QRel.len {w wr : World} {s : ByteArray} {n : Nat} (_h : QRel w s n wr) (hs : s.size ≤ 1600000) : (34 :: Lx.wesc ((sl s).take n)).length + 1 ≤ 9000000 := by
  have h1 := Lx.wesc_length ((sl s).take n)
  have h2 : ((sl s).take n).length ≤ s.size := by rw [List.length_take, sl_size]; omega
  rw [List.length_cons]
  omega
theorem Q_case (c : UInt8) : 0 ≤ Lib.indexByte [34, 92, 36] c ↔ (c = 34 ∨ c = 92 ∨ c = 36) := by
  have h := ib_mem c [34, 92, 36]
  rw [decide_eq_decide] at h
  rw [h]; simp
theorem wesc_snoc (l : Bytes) (c : UInt8) : Lx.wesc (l ++ [c]) = Lx.wesc l ++ (if c = 34 ∨ c = 92 ∨ c = 36 then [92, c] else [c]) := by
  simp [Lx.wesc]

set_option maxHeartbeats 1000000 in
theorem quote_any {w : World} (s : ByteArray) (hs : s.size ≤ 1600000) :
    Calls Tryz.prog 29 #[.string s] w fun e w' => ∃ u : ByteArray, e = .returned (.string u) ∧ sl u = Lx.wquote (sl s) ∧ Below w.heap.size w w' := by
  have htr := Lib.hid fun w => trim_in s w (by omega)
  have hs2 : (s.size : Int) ≤ 1600000 := by omega
  go_enter Tryz.func29, Tryz.ntmps29
  by_cases h0 : s = ⟨#[]⟩
  · subst h0
    go_wp2_with fail
    refine (contains_in _ _).mono ?_
    rintro e w1 ⟨rfl, rfl⟩
    rw [show decide ((39 : UInt8) ∈ sl ⟨#[]⟩) = false from rfl]
    go_wp2_with fail
    go_ret
    exact ⟨_, rfl, rfl, Below.refl _ _⟩
  · have hne : (s.toList == ([] : List UInt8)) = false := by
      rw [beq_eq_false_iff_ne, str_list]; exact fun e => h0 (sl_inj e)
    have hn0 : sl s ≠ [] := fun e => h0 (sl_inj e)
    have H0 := Lib.hid hn0
    clear hn0
    go_wp2_with fail
    refine (htr.out _).mono ?_
    rintro e w1 ⟨rfl, hb⟩
    have HB := Lib.hid hb
    clear hb
    by_cases hall : (sl s).all (Lx.wset.contains ·) = true
    · have ht := (trimS_nil _ _).2 hall
      rw [ht]
      go_wp2_with fail
      go_ret
      exact ⟨_, rfl, by rw [Lx.wquote, if_pos ⟨H0.out, hall⟩], HB.out⟩
    · have ht : ((⟨(Lib.trimS (sl s) Lx.wset).toArray⟩ : ByteArray).toList == ([] : List UInt8)) = false := by
        rw [beq_eq_false_iff_ne, str_list]; exact fun e => hall ((trimS_nil _ _).1 e)
      generalize (⟨(Lib.trimS (sl s) Lx.wset).toArray⟩ : ByteArray) = tr at ht
      have HA := Lib.hid hall
      clear hall
      go_wp2_with fail
      refine (contains_in _ _).mono ?_
      rintro e w2 ⟨rfl, rfl⟩
      by_cases hq : (39 : UInt8) ∈ sl s
      · have hQ := Lib.hid hq
        rw [decide_eq_true hq]
        clear hq
        go_wp2_with fail
        refine (wb_in (l := []) (Lib.fresh_isBuilder 75 5 w1) (by simp [go_sem]) (by decide) 34 34 rfl).mono ?_
        rintro e w2 ⟨rfl, hI, hB⟩
        have R0 : QRel w1 s 0 w2 := ⟨Nat.zero_le _, by rw [List.take_zero]; exact hI, ((Below.refl _ w1).alloc (Nat.le_refl _) _).trans hB⟩
        have HR := Lib.hid R0
        clear R0 hI hB
        go_wp2_with fail
        go_loopw [24] (fun i wr => ∃ n : Nat, i = .int .i64 n ∧ QRel w1 s n wr) (fun i _ => s.size - (intOf i).toNat)
        case atStart => exact ⟨0, rfl, HR.out⟩
        case round =>
          obtain ⟨n, rfl, hrel⟩ := hrel
          by_cases hlt : n < s.size
          · have HR1 := Lib.hid hrel
            clear hrel
            go_wp2_with fail
            refine (ibc ⟨#[34, 92, 36]⟩ [34, 92, 36] rfl s[n] wr).mono ?_
            rintro e w3 ⟨rfl, rfl⟩
            have htk := Lib.hid (u8s_take s hlt)
            have hcase := Lib.hid (Q_case s[n])
            by_cases hsp : 0 ≤ Lib.indexByte [34, 92, 36] s[n]
            · go_wp2_with fail
              refine (wb_in HR1.out.isB HR1.out.below.size (by have := HR1.out.len hs; omega) 92 92 rfl).mono ?_
              rintro e w3 ⟨rfl, hI, hB⟩
              have HI := Lib.hid (And.intro hI hB)
              clear hI hB
              go_wp2_with fail
              refine (wb_in HI.out.1 (HR1.out.below.trans HI.out.2).size (by have := HR1.out.len hs; rw [List.length_append, List.length_singleton]; omega) s[n] _ rfl).mono ?_
              rintro e w4 ⟨rfl, hI, hB⟩
              have HJ := Lib.hid (And.intro hI hB)
              clear hI hB
              go_wp2_with fail
              go_roundw
              case rel =>
                refine ⟨n + 1, by go_num, hlt, ?_, (HR1.out.below.trans HI.out.2).trans HJ.out.2⟩
                have h1 := HJ.out.1
                rw [htk.out, wesc_snoc, if_pos (hcase.out.1 hsp)]
                rw [List.append_assoc] at h1
                exact h1
              case measure => simp [intOf]; omega
            · have hno := Lib.hid (fun h => hsp (hcase.out.2 h))
              go_wp2_with fail
              refine (wb_in HR1.out.isB HR1.out.below.size (by have := HR1.out.len hs; omega) s[n] _ rfl).mono ?_
              rintro e w3 ⟨rfl, hI, hB⟩
              have HI := Lib.hid (And.intro hI hB)
              clear hI hB
              go_wp2_with fail
              go_roundw
              case rel =>
                refine ⟨n + 1, by go_num, hlt, ?_, HR1.out.below.trans HI.out.2⟩
                rw [htk.out, wesc_snoc, if_neg hno.out]
                exact HI.out.1
              case measure => simp [intOf]; omega
          · obtain rfl : n = s.size := by have := hrel.le; omega
            have HR1 := Lib.hid hrel
            clear hrel
            go_wp2_with fail
            refine (bstr_in HR1.out.isB HR1.out.below.size).mono ?_
            rintro e w3 ⟨rfl, hB⟩
            have hq2 := HR1.out.len hs
            have HB2 := Lib.hid hB
            clear hB
            generalize hu : (⟨(34 :: Lx.wesc ((sl s).take s.size)).toArray⟩ : ByteArray) = u at *
            have hu2 : (u.size : Int) ≤ 9000000 := by rw [← hu]; show ((Array.size (List.toArray _) : Nat) : Int) ≤ _; rw [List.size_toArray]; omega
            have HU := Lib.hid hu
            clear hu hq2
            go_wp2_with fail
            go_ret
            refine ⟨_, rfl, ?_, HB.out.trans ((HR1.out.below.trans HB2.out).mono HB.out.size)⟩
            have hall : (sl s).take s.size = sl s := by rw [← sl_size, List.take_length]
            rw [Lx.wquote, if_neg (fun h => HA.out h.2), if_pos hQ.out, ← HU.out, hall]
            simp [sl]
      · have hQ := Lib.hid hq
        rw [decide_eq_false hq]
        clear hq
        go_wp2_with fail
        go_ret
        exact ⟨_, rfl, by rw [Lx.wquote, if_neg (fun h => HA.out h.2), if_neg hQ.out]; simp [sl], HB.out⟩
end Go.Proofs.YtedlhdegdlabhaaGreatDoor
