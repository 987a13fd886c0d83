/- strings.Builder's WriteString and WriteByte: the shelf's contracts, laid at this program. The walk of lex.Quote. A quoted word is read as it is: the pieces that laws on writing and reading again use. No program. -/
import Derived.Test.YtiopaenonjhlnaaGreatDoorShelf
import Derived.Test.YtiopaenonjhlnaaGreatDoorLexWords
import Derived.Shelf.Strings.SlTrimAscii
namespace Go.Proofs
open Go.Shelf
def Tryz.bw_ren : Go.Shelf.Ren := ⟨fun | 166 => 20 | 167 => 74 | 240 => 44 | 276 => 72 | n => n, fun | 0 => 0 | 3 => 3 | 4 => 4 | 9 => 9 | 20 => 20 | 37 => 64 | 70 => 63 | 72 => 66 | 75 => 72 | 164 => 156 | 5 => 5 | 80 => 76 | 12 => 12 | n => n, fun | n => n⟩
theorem Tryz.bw166 : Go.Proofs.Lays.n166 Tryz.prog Tryz.bw_ren := {
  mixed := by kernel_rfl
  f166 := Tryz.func20.trans (congrArg some (by kernel_rfl))
  f240 := Tryz.func44.trans (congrArg some (by kernel_rfl))
  f276 := Tryz.func72.trans (congrArg some (by kernel_rfl))
  t0 := Tryz.underlying0
  a0 := Tryz.isAgg0
  z0 := Tryz.sizeOf0
  v0 := Tryz.zeroValue0
  t3 := Tryz.underlying3
  a3 := Tryz.isAgg3
  z3 := Tryz.sizeOf3
  v3 := Tryz.zeroValue3
  t4 := Tryz.underlying4
  a4 := Tryz.isAgg4
  z4 := Tryz.sizeOf4
  v4 := Tryz.zeroValue4
  t9 := Tryz.underlying9
  a9 := Tryz.isAgg9
  z9 := Tryz.sizeOf9
  v9 := Tryz.zeroValue9
  t20 := Tryz.underlying20
  a20 := Tryz.isAgg20
  z20 := Tryz.sizeOf20
  v20 := Tryz.zeroValue20
  t37 := Tryz.underlying64
  a37 := Tryz.isAgg64
  z37 := Tryz.sizeOf64
  v37 := Tryz.zeroValue64
  t70 := Tryz.underlying63
  a70 := Tryz.isAgg63
  z70 := Tryz.sizeOf63
  v70 := Tryz.zeroValue63
  t72 := Tryz.underlying66
  a72 := Tryz.isAgg66
  z72 := Tryz.sizeOf66
  v72 := Tryz.zeroValue66
  t75 := Tryz.underlying72
  a75 := Tryz.isAgg72
  z75 := Tryz.sizeOf72
  v75 := Tryz.zeroValue72
  t164 := Tryz.underlying156
  a164 := Tryz.isAgg156
  z164 := Tryz.sizeOf156
  v164 := Tryz.zeroValue156 }
theorem Tryz.bw_extra : Builder.Extra Tryz.prog Tryz.bw_ren := {
  sizeBuilder := by kernel_rfl
  liesBuilder := by kernel_rfl
  t5 := Tryz.underlying5
  a5 := Tryz.isAgg5
  z5 := Tryz.sizeOf5
  v5 := Tryz.zeroValue5
  infoByte := by kernel_rfl
  cellsByte := by kernel_rfl
  sizeByte := by kernel_rfl
  neB5 := by decide }
open Go.RowKit in
theorem Tryz.Builder_WriteString (B b : Nat) (bs : List Value) (s : ByteArray) (w : World) (h : Lib.IsBuilder 66 5 B b bs w) (hlen : bs.length + s.size ≤ 140737488355328) (hBw : B ≤ w.heap.size) :
    Calls Tryz.prog 20 #[.pointer (some ⟨b, 0, none⟩), .string s] w fun e w' => e = .returned (.tuple #[.int .i64 s.size, .nilIface]) ∧ (Lib.BuilderAt 66 5 B b (.pointer (some ⟨b, 0, none⟩)) (bs ++ Lib.strCells s) w' ∧ Below B w w') :=
  Any.Builder_WriteString Tryz.bw166 Tryz.bw_extra B b bs s w h hlen hBw
theorem Tryz.bw167 : Go.Proofs.Lays.n167 Tryz.prog Tryz.bw_ren := {
  mixed := by kernel_rfl
  f167 := Tryz.func74.trans (congrArg some (by kernel_rfl))
  f240 := Tryz.func44.trans (congrArg some (by kernel_rfl))
  f276 := Tryz.func72.trans (congrArg some (by kernel_rfl))
  t0 := Tryz.underlying0
  a0 := Tryz.isAgg0
  z0 := Tryz.sizeOf0
  v0 := Tryz.zeroValue0
  t4 := Tryz.underlying4
  a4 := Tryz.isAgg4
  z4 := Tryz.sizeOf4
  v4 := Tryz.zeroValue4
  t5 := Tryz.underlying5
  a5 := Tryz.isAgg5
  z5 := Tryz.sizeOf5
  v5 := Tryz.zeroValue5
  t9 := Tryz.underlying9
  a9 := Tryz.isAgg9
  z9 := Tryz.sizeOf9
  v9 := Tryz.zeroValue9
  t20 := Tryz.underlying20
  a20 := Tryz.isAgg20
  z20 := Tryz.sizeOf20
  v20 := Tryz.zeroValue20
  t37 := Tryz.underlying64
  a37 := Tryz.isAgg64
  z37 := Tryz.sizeOf64
  v37 := Tryz.zeroValue64
  t70 := Tryz.underlying63
  a70 := Tryz.isAgg63
  z70 := Tryz.sizeOf63
  v70 := Tryz.zeroValue63
  t72 := Tryz.underlying66
  a72 := Tryz.isAgg66
  z72 := Tryz.sizeOf66
  v72 := Tryz.zeroValue66
  t75 := Tryz.underlying72
  a75 := Tryz.isAgg72
  z75 := Tryz.sizeOf72
  v75 := Tryz.zeroValue72
  t164 := Tryz.underlying156
  a164 := Tryz.isAgg156
  z164 := Tryz.sizeOf156
  v164 := Tryz.zeroValue156 }
open Go.RowKit in
theorem Tryz.Builder_WriteByte (B b : Nat) (bs : List Value) (c : Int) (w : World) (h : Lib.IsBuilder 66 5 B b bs w) (hlen : bs.length + 1 ≤ 140737488355328) (hBw : B ≤ w.heap.size) :
    Calls Tryz.prog 74 #[.pointer (some ⟨b, 0, none⟩), .int .u8 c] w fun e w' => e = .returned .nilIface ∧ (Lib.BuilderAt 66 5 B b (.pointer (some ⟨b, 0, none⟩)) (bs ++ [.int .u8 c]) w' ∧ Below B w w') :=
  Any.Builder_WriteByte Tryz.bw167 Tryz.bw_extra B b bs c w h hlen hBw
end Go.Proofs
namespace Go.Proofs.YtiopaenonjhlnaaGreatDoor
set_option maxRecDepth 8000
open Go.RowKit
open Lx (Bytes)

namespace Lx
def wset : Bytes := [97, 98, 99, 100, 101, 102, 103, 104, 105, 106, 107, 108, 109, 110, 111, 112, 113, 114, 115, 116, 117, 118, 119, 120, 121, 122, 65, 66, 67, 68, 69, 70, 71, 72, 73, 74, 75, 76, 77, 78, 79, 80, 81, 82, 83, 84, 85, 86, 87, 88, 89, 90, 95, 48, 49, 50, 51, 52, 53, 54, 55, 56, 57, 46, 47, 58, 61, 64, 37, 43, 44, 45]
def wesc (l : Bytes) : Bytes := l.flatMap fun b => if b = 34 ∨ b = 92 ∨ b = 36 then [92, b] else [b]
def wquote (s : Bytes) : Bytes := if s ≠ [] ∧ s.all (wset.contains ·) then s else if (39 : UInt8) ∈ s then 34 :: wesc s ++ [34] else 39 :: s ++ [39]
theorem wesc_length (l : Bytes) : (wesc l).length ≤ 2 * l.length := by
  induction l with
  | nil => simp [wesc]
  | cons b l ih =>
    rw [wesc, List.flatMap_cons, List.length_append, List.length_cons]
    have : (List.flatMap (fun b => if b = 34 ∨ b = 92 ∨ b = 36 then [92, b] else [b]) l).length ≤ 2 * l.length := ih
    split <;> simp only [List.length_cons, List.length_nil] <;> omega
end Lx
theorem dropWhile_nil {α : Type} (p : α → Bool) : ∀ l : List α, l.dropWhile p = [] ↔ l.all p = true
  | [] => by simp
  | a :: l => by
    rw [List.dropWhile_cons]
    by_cases h : p a = true
    · rw [if_pos h, dropWhile_nil p l]; simp [h]
    · rw [if_neg h]; simp [h]
theorem trimS_nil (l cs : List UInt8) : Lib.trimS l cs = [] ↔ l.all (cs.contains ·) = true := by
  unfold Lib.trimS Lib.trimLeftS Lib.trimRightS
  rw [dropWhile_nil]
  constructor
  · intro h
    by_cases h0 : l.reverse.dropWhile (cs.contains ·) = []
    · rw [dropWhile_nil] at h0; rw [← List.all_reverse]; exact h0
    · exfalso
      have h1 := List.head_dropWhile_not (cs.contains ·) h0
      rw [List.all_reverse] at h
      have h2 := List.all_eq_true.1 h _ (List.head_mem h0)
      rw [h2] at h1
      exact absurd h1 (by decide)
  · intro h
    have : l.reverse.dropWhile (cs.contains ·) = [] := by rw [dropWhile_nil, List.all_reverse]; exact h
    rw [this]; rfl
theorem A.zero69 : ∀ w, (zeroValue 187).run Tryz.prog w = .ok (.agg (Array.replicate 256 (.bool false))) w := fun w => by kernel_rfl

theorem trim_in (s : ByteArray) (w : World) (hs : s.size ≤ 9223372036854775807) :
    Calls Tryz.prog 59 #[.string s, .string ⟨Lx.wset.toArray⟩] w fun e w' => e = .returned (.string ⟨(Lib.trimS (sl s) Lx.wset).toArray⟩) ∧ Below w.heap.size w w' := by
  have := Any.strings_Trim_ascii Tryz.lays160 A.zero69 (by kernel_rfl) s ⟨Lx.wset.toArray⟩ w hs (by simp [ByteArray.size, Lx.wset]) (by
    intro j b hb
    have : b ∈ Lx.wset := List.mem_of_getElem? hb
    have h : ∀ b ∈ Lx.wset, b.toNat < 128 := by decide
    exact h b this)
  exact this

theorem ib_mem (c : UInt8) : ∀ l : Bytes, decide (0 ≤ Lib.indexByte l c) = decide (c ∈ l)
  | [] => by rw [ib_none]; simp
  | x :: l => by
    rw [ib_one, ib_mem c l]
    by_cases h : x = c
    · subst h; simp
    · have : ¬ c = x := fun e => h e.symm
      simp [h, this]
theorem contains_in (s : ByteArray) (w : World) : Calls Tryz.prog 73 #[.string s, .string ⟨#[39]⟩] w fun e w' => e = .returned (.bool (decide ((39 : UInt8) ∈ sl s))) ∧ w = w' :=
  (Tryz.strings_Contains_one s 39 w).mono fun e w' ⟨he, hw⟩ => ⟨by rw [he, ib_mem]; rfl, hw.symm⟩
theorem wb_in {w : World} {B b : Nat} {l : Bytes} (h : Lib.IsBuilder 66 5 B b (u8s l) w) (hB : B ≤ w.heap.size) (hl : l.length + 1 ≤ 10000000) (c : UInt8) (n : Int) (hn : n = c.toNat) :
    Calls Tryz.prog 74 #[.pointer (some ⟨b, 0, none⟩), .int .u8 n] w fun e w' => e = .returned .nilIface ∧ Lib.IsBuilder 66 5 B b (u8s (l ++ [c])) w' ∧ Below B w w' := by
  subst hn
  refine (Tryz.Builder_WriteByte B b (u8s l) c.toNat w h (by rw [u8s_len]; omega) hB).mono fun e w' ⟨he, hw, hb⟩ => ⟨he, .inr ?_, hb⟩
  rw [u8s_append]; exact hw
theorem bstr_in {w : World} {B b : Nat} {l : Bytes} (h : Lib.IsBuilder 66 5 B b (u8s l) w) (hB : B ≤ w.heap.size) :
    Calls Tryz.prog 22 #[.pointer (some ⟨b, 0, none⟩)] w fun e w' => e = .returned (.string ⟨l.toArray⟩) ∧ Below B w w' :=
  Tryz.Builder_String_any B b l w h hB
theorem u8s_take (s : ByteArray) {n : Nat} (h : n < s.size) : (sl s).take (n + 1) = (sl s).take n ++ [s[n]] := by
  rw [List.take_succ_eq_append_getElem (by rw [sl_size]; exact h)]
  rfl
structure QRel (w : World) (s : ByteArray) (n : Nat) (wr : World) : Prop where
  le : n ≤ s.size
  isB : Lib.IsBuilder 66 5 w.heap.size w.heap.size (u8s (34 :: Lx.wesc ((sl s).take n))) wr
  below : Below w.heap.size w wr
theorem QRel.len {w wr : World} {s : ByteArray} {n : Nat} (_h : QRel w s n wr) (hs : s.size ≤ 1600000) : (34 :: Lx.wesc ((sl s).take n)).length + 1 ≤ 9000000 := by
  have h1 := Lx.wesc_length ((sl s).take n)
  have h2 : ((sl s).take n).length ≤ s.size := by rw [List.length_take, sl_size]; omega
  rw [List.length_cons]
  omega
theorem Q_case (c : UInt8) : 0 ≤ Lib.indexByte [34, 92, 36] c ↔ (c = 34 ∨ c = 92 ∨ c = 36) := by
  have h := ib_mem c [34, 92, 36]
  rw [decide_eq_decide] at h
  rw [h]; simp
theorem wesc_snoc (l : Bytes) (c : UInt8) : Lx.wesc (l ++ [c]) = Lx.wesc l ++ (if c = 34 ∨ c = 92 ∨ c = 36 then [92, c] else [c]) := by
  simp [Lx.wesc]

set_option maxHeartbeats 1000000 in
theorem quote_any {w : World} (s : ByteArray) (hs : s.size ≤ 1600000) :
    Calls Tryz.prog 45 #[.string s] w fun e w' => ∃ u : ByteArray, e = .returned (.string u) ∧ sl u = Lx.wquote (sl s) ∧ Below w.heap.size w w' := by
  have htr := Lib.hid fun w => trim_in s w (by omega)
  have hs2 : (s.size : Int) ≤ 1600000 := by omega
  go_enter Tryz.func45, Tryz.ntmps45
  by_cases h0 : s = ⟨#[]⟩
  · subst h0
    go_wp2_with fail
    refine (contains_in _ _).mono ?_
    rintro e w1 ⟨rfl, rfl⟩
    rw [show decide ((39 : UInt8) ∈ sl ⟨#[]⟩) = false from rfl]
    go_wp2_with fail
    go_ret
    exact ⟨_, rfl, rfl, Below.refl _ _⟩
  · have hne : (s.toList == ([] : List UInt8)) = false := by
      rw [beq_eq_false_iff_ne, str_list]; exact fun e => h0 (sl_inj e)
    have hn0 : sl s ≠ [] := fun e => h0 (sl_inj e)
    have H0 := Lib.hid hn0
    clear hn0
    go_wp2_with fail
    refine (htr.out _).mono ?_
    rintro e w1 ⟨rfl, hb⟩
    have HB := Lib.hid hb
    clear hb
    by_cases hall : (sl s).all (Lx.wset.contains ·) = true
    · have ht := (trimS_nil _ _).2 hall
      rw [ht]
      go_wp2_with fail
      go_ret
      exact ⟨_, rfl, by rw [Lx.wquote, if_pos ⟨H0.out, hall⟩], HB.out⟩
    · have ht : ((⟨(Lib.trimS (sl s) Lx.wset).toArray⟩ : ByteArray).toList == ([] : List UInt8)) = false := by
        rw [beq_eq_false_iff_ne, str_list]; exact fun e => hall ((trimS_nil _ _).1 e)
      generalize (⟨(Lib.trimS (sl s) Lx.wset).toArray⟩ : ByteArray) = tr at ht
      have HA := Lib.hid hall
      clear hall
      go_wp2_with fail
      refine (contains_in _ _).mono ?_
      rintro e w2 ⟨rfl, rfl⟩
      by_cases hq : (39 : UInt8) ∈ sl s
      · have hQ := Lib.hid hq
        rw [decide_eq_true hq]
        clear hq
        go_wp2_with fail
        refine (wb_in (l := []) (Lib.fresh_isBuilder 66 5 w1) (by simp [go_sem]) (by decide) 34 34 rfl).mono ?_
        rintro e w2 ⟨rfl, hI, hB⟩
        have R0 : QRel w1 s 0 w2 := ⟨Nat.zero_le _, by rw [List.take_zero]; exact hI, ((Below.refl _ w1).alloc (Nat.le_refl _) _).trans hB⟩
        have HR := Lib.hid R0
        clear R0 hI hB
        go_wp2_with fail
        go_loopw [24] (fun i wr => ∃ n : Nat, i = .int .i64 n ∧ QRel w1 s n wr) (fun i _ => s.size - (intOf i).toNat)
        case atStart => exact ⟨0, rfl, HR.out⟩
        case round =>
          obtain ⟨n, rfl, hrel⟩ := hrel
          by_cases hlt : n < s.size
          · have HR1 := Lib.hid hrel
            clear hrel
            go_wp2_with fail
            refine (ibc ⟨#[34, 92, 36]⟩ [34, 92, 36] rfl s[n] wr).mono ?_
            rintro e w3 ⟨rfl, rfl⟩
            have htk := Lib.hid (u8s_take s hlt)
            have hcase := Lib.hid (Q_case s[n])
            by_cases hsp : 0 ≤ Lib.indexByte [34, 92, 36] s[n]
            · go_wp2_with fail
              refine (wb_in HR1.out.isB HR1.out.below.size (by have := HR1.out.len hs; omega) 92 92 rfl).mono ?_
              rintro e w3 ⟨rfl, hI, hB⟩
              have HI := Lib.hid (And.intro hI hB)
              clear hI hB
              go_wp2_with fail
              refine (wb_in HI.out.1 (HR1.out.below.trans HI.out.2).size (by have := HR1.out.len hs; rw [List.length_append, List.length_singleton]; omega) s[n] _ rfl).mono ?_
              rintro e w4 ⟨rfl, hI, hB⟩
              have HJ := Lib.hid (And.intro hI hB)
              clear hI hB
              go_wp2_with fail
              go_roundw
              case rel =>
                refine ⟨n + 1, by go_num, hlt, ?_, (HR1.out.below.trans HI.out.2).trans HJ.out.2⟩
                have h1 := HJ.out.1
                rw [htk.out, wesc_snoc, if_pos (hcase.out.1 hsp)]
                rw [List.append_assoc] at h1
                exact h1
              case measure => simp [intOf]; omega
            · have hno := Lib.hid (fun h => hsp (hcase.out.2 h))
              go_wp2_with fail
              refine (wb_in HR1.out.isB HR1.out.below.size (by have := HR1.out.len hs; omega) s[n] _ rfl).mono ?_
              rintro e w3 ⟨rfl, hI, hB⟩
              have HI := Lib.hid (And.intro hI hB)
              clear hI hB
              go_wp2_with fail
              go_roundw
              case rel =>
                refine ⟨n + 1, by go_num, hlt, ?_, HR1.out.below.trans HI.out.2⟩
                rw [htk.out, wesc_snoc, if_neg hno.out]
                exact HI.out.1
              case measure => simp [intOf]; omega
          · obtain rfl : n = s.size := by have := hrel.le; omega
            have HR1 := Lib.hid hrel
            clear hrel
            go_wp2_with fail
            refine (bstr_in HR1.out.isB HR1.out.below.size).mono ?_
            rintro e w3 ⟨rfl, hB⟩
            have hq2 := HR1.out.len hs
            have HB2 := Lib.hid hB
            clear hB
            generalize hu : (⟨(34 :: Lx.wesc ((sl s).take s.size)).toArray⟩ : ByteArray) = u at *
            have hu2 : (u.size : Int) ≤ 9000000 := by rw [← hu]; show ((Array.size (List.toArray _) : Nat) : Int) ≤ _; rw [List.size_toArray]; omega
            have HU := Lib.hid hu
            clear hu hq2
            go_wp2_with fail
            go_ret
            refine ⟨_, rfl, ?_, HB.out.trans ((HR1.out.below.trans HB2.out).mono HB.out.size)⟩
            have hall : (sl s).take s.size = sl s := by rw [← sl_size, List.take_length]
            rw [Lx.wquote, if_neg (fun h => HA.out h.2), if_pos hQ.out, ← HU.out, hall]
            simp [sl]
      · have hQ := Lib.hid hq
        rw [decide_eq_false hq]
        clear hq
        go_wp2_with fail
        go_ret
        exact ⟨_, rfl, by rw [Lx.wquote, if_neg (fun h => HA.out h.2), if_neg hQ.out]; simp [sl], HB.out⟩
end Go.Proofs.YtiopaenonjhlnaaGreatDoor
namespace Go.Proofs.YtiopaenonjhlnaaGreatDoor
namespace Lx
variable {env : Env}

theorem put_okay {t u : Bytes} (h : (t ++ u).length ≤ 8192) : put t u = .ok (t ++ u) := by rw [put, if_neg (by omega)]
theorem wset_plain : ∀ c ∈ wset, (c ≠ 32 ∧ c ≠ 9 ∧ c ≠ 10 ∧ c ≠ 59) ∧ c ≠ 39 ∧ c ≠ 34 ∧ c ≠ 92 ∧ c ≠ 36 ∧ c ≠ 126 ∧ c ≠ 35 ∧ c ≠ 125 ∧ c ≠ 123 := by decide
theorem over_not {c : UInt8} {r : Bytes} (h : c ≠ 32 ∧ c ≠ 9 ∧ c ≠ 10 ∧ c ≠ 59) : over (c :: r) = false := by simp [over, h]

theorem word_bare {rest : Bytes} (hr : over rest = true) : ∀ (x : Bytes) (f : Bool) (t : Bytes), (∀ c ∈ x, c ∈ wset) → (t ++ x).length ≤ 8192 → word env f t (x ++ rest) = .ok (t ++ x, rest)
  | [], f, t, _, _ => by rw [List.nil_append, List.append_nil, word_over _ _ _ _ hr]
  | c :: x, f, t, hx, hl => by
    obtain ⟨ho, h1, h2, h3, h4, h5, -⟩ := wset_plain c (hx c (by simp))
    rw [List.cons_append, word_cons _ _ _ _ _ (over_not ho), if_neg h1, if_neg h2, if_neg h3, if_neg h4, if_neg (fun h => h5 h.1)]
    rw [put_okay (by simp only [List.length_append, List.length_cons] at hl ⊢; simp; omega)]
    dsimp only
    rw [word_bare hr x false (t ++ [c]) (fun d hd => hx d (by simp [hd])) (by simpa using hl)]
    simp

theorem single_all (rest : Bytes) : ∀ (x t : Bytes), (39 : UInt8) ∉ x → (t ++ x).length ≤ 8192 → single t (x ++ 39 :: rest) = .ok (t ++ x, rest)
  | [], t, _, _ => by rw [List.nil_append, single, if_pos rfl, List.append_nil]
  | c :: x, t, hx, hl => by
    have hc : c ≠ 39 := fun e => hx (by simp [e])
    rw [List.cons_append, single, if_neg hc, put_okay (by simp only [List.length_append, List.length_cons] at hl ⊢; simp; omega)]
    dsimp only
    rw [single_all rest x (t ++ [c]) (fun h => hx (by simp [h])) (by simpa using hl)]
    simp

theorem quoted_all (rest : Bytes) : ∀ (x t : Bytes), (t ++ x).length ≤ 8192 → quoted env t (wesc x ++ 34 :: rest) = .ok (t ++ x, rest)
  | [], t, _ => by
    have e : wesc [] = [] := rfl
    rw [e, List.nil_append, quoted_cons, if_pos rfl, List.append_nil]
  | c :: x, t, hl => by
    have hp : (t ++ [c]).length ≤ 8192 := by simp only [List.length_append, List.length_cons] at hl ⊢; simp; omega
    have ih := quoted_all rest x (t ++ [c]) (by simpa using hl)
    have hx : t ++ [c] ++ x = t ++ c :: x := by simp
    rw [hx] at ih
    by_cases hc : c = 34 ∨ c = 92 ∨ c = 36
    · have e : wesc (c :: x) = 92 :: c :: wesc x := by
        rw [wesc, List.flatMap_cons, if_pos hc]; rfl
      have h10 : c ≠ 10 := by rcases hc with h | h | h <;> rw [h] <;> decide
      have hes : esc c = [c] := by rcases hc with h | h | h <;> rw [h] <;> rfl
      rw [e, List.cons_append, List.cons_append, quoted_cons, if_neg (by decide), if_neg (by decide), if_pos rfl]
      dsimp only
      rw [if_neg h10, hes, put_okay hp]
      exact ih
    · have e : wesc (c :: x) = c :: wesc x := by
        rw [wesc, List.flatMap_cons, if_neg hc]; rfl
      simp only [not_or] at hc
      rw [e, List.cons_append, quoted_cons, if_neg hc.1, if_neg hc.2.2, if_neg hc.2.1, put_okay hp]
      exact ih

theorem word_quote {rest x : Bytes} (hr : over rest = true) (hl : x.length ≤ 8192) : word env true [] (wquote x ++ rest) = .ok (x, rest) := by
  unfold wquote
  by_cases h1 : x ≠ [] ∧ x.all (wset.contains ·) = true
  · rw [if_pos h1]
    exact word_bare hr x true [] (fun c hc => by simpa using List.all_eq_true.1 h1.2 c hc) (by simpa using hl)
  · rw [if_neg h1]
    by_cases h2 : (39 : UInt8) ∈ x
    · rw [if_pos h2, show 34 :: wesc x ++ [34] ++ rest = 34 :: (wesc x ++ 34 :: rest) by simp, word_cons _ _ _ _ _ (over_not (by decide)), if_neg (by decide), if_pos rfl, quoted_all rest x [] (by simpa using hl)]
      dsimp only
      rw [word_over _ _ _ _ hr]; rfl
    · rw [if_neg h2, show 39 :: x ++ [39] ++ rest = 39 :: (x ++ 39 :: rest) by simp, word_cons _ _ _ _ _ (over_not (by decide)), if_pos rfl, single_all rest x [] h2 (by simpa using hl)]
      dsimp only
      rw [word_over _ _ _ _ hr]; rfl

theorem quote_head (x : Bytes) : ∃ c r, wquote x = c :: r ∧ (c ≠ 32 ∧ c ≠ 9 ∧ c ≠ 10 ∧ c ≠ 59) ∧ c ≠ 92 ∧ c ≠ 35 ∧ c ≠ 125 ∧ c ≠ 123 := by
  unfold wquote
  by_cases h1 : x ≠ [] ∧ x.all (wset.contains ·) = true
  · rw [if_pos h1]
    cases x with
    | nil => exact absurd rfl h1.1
    | cons c r =>
      obtain ⟨ho, -, -, h3, -, -, h6, h7, h8⟩ := wset_plain c (by simpa using List.all_eq_true.1 h1.2 c (by simp))
      exact ⟨c, r, rfl, ho, h3, h6, h7, h8⟩
  · rw [if_neg h1]
    by_cases h2 : (39 : UInt8) ∈ x
    · rw [if_pos h2]; exact ⟨34, _, rfl, by decide, by decide, by decide, by decide, by decide⟩
    · rw [if_neg h2]; exact ⟨39, _, rfl, by decide, by decide, by decide, by decide, by decide⟩

/-- a quoted word is read -/
theorem read_word {rest x : Bytes} {line g : Nat} {now : List W} {out : List Ln} (hr : over rest = true) (hl : x.length ≤ 8192) (hn : now.length < 256) (ho : now ≠ [] ∨ out.length < 1000) :
    ∃ line', read env line now out g (wquote x ++ rest) = read env line' (now ++ [⟨x, line, false⟩]) out g rest := by
  obtain ⟨c, r, e, ho', h1, h2, h3, h4⟩ := quote_head x
  have hw := word_quote (env := env) hr hl
  rw [e] at hw
  rw [List.cons_append] at hw
  have hno : ¬ (now.length = 256 ∨ now = [] ∧ out.length = 1000) := by
    rintro (h | ⟨h, h'⟩)
    · omega
    · rcases ho with ho | ho
      · exact ho h
      · omega
  refine ⟨line + (feeds (c :: (r ++ rest)) - feeds rest), ?_⟩
  rw [e, List.cons_append, read_cons, if_neg (by simp [ho'.1, ho'.2.1]), if_neg (fun h => h1 h.1), if_neg h2, if_neg ho'.2.2.2, if_neg ho'.2.2.1, if_neg h3, if_neg hno, if_neg h4, hw]
/-- words, each behind a blank -/
def tails (r : List Bytes) : Bytes := r.flatMap fun y => 32 :: wquote y
theorem over_tails' (r : List Bytes) {rest : Bytes} (hr : over rest = true) : over (tails r ++ rest) = true := by
  cases r with
  | nil => exact hr
  | cons x r => rfl
theorem read_tail {rest : Bytes} (hr : over rest = true) {out : List Ln} {g : Nat} : ∀ (r : List Bytes) (line : Nat) (now : List W), now ≠ [] → (∀ x ∈ r, x.length ≤ 8192) → now.length + r.length ≤ 256 →
    ∃ (line' : Nat) (ws : List W), ws.map (·.text) = r ∧ (∀ x ∈ ws, x.block = false) ∧ read env line now out g (tails r ++ rest) = read env line' (now ++ ws) out g rest
  | [], line, now, hn, _, _ => ⟨line, [], rfl, by simp, by rw [List.append_nil]; rfl⟩
  | y :: r, line, now, hn, hl, hc => by
    simp only [List.length_cons] at hc
    obtain ⟨line', hq⟩ := read_word (env := env) (line := line) (now := now) (out := out) (g := g) (over_tails' r hr) (hl y (by simp)) (by omega) (.inl hn)
    obtain ⟨line2, ws, h1, h2, h3⟩ := read_tail hr r line' (now ++ [⟨y, line, false⟩]) (by simp) (fun x hx => hl x (by simp [hx])) (by simp; omega)
    refine ⟨line2, ⟨y, line, false⟩ :: ws, by simp [h1], ?_, ?_⟩
    · intro x hx
      rcases List.mem_cons.1 hx with rfl | hx
      · rfl
      · exact h2 x hx
    · have e : tails (y :: r) ++ rest = 32 :: (wquote y ++ (tails r ++ rest)) := by simp [tails]
      rw [e, read_cons, if_pos (.inl rfl), hq, h3]
      simp
/-- a command's words, written -/
def cat : List Bytes → Bytes
  | [] => []
  | x :: r => wquote x ++ tails r
theorem read_cmd {rest : Bytes} (hr : over rest = true) {out : List Ln} {g line : Nat} {ws : List Bytes} (hne : ws ≠ []) (hl : ∀ x ∈ ws, x.length ≤ 8192) (hc : ws.length ≤ 256) (ho : out.length < 1000) :
    ∃ (line' : Nat) (l : List W), l.map (·.text) = ws ∧ (∀ x ∈ l, x.block = false) ∧ read env line [] out g (cat ws ++ rest) = read env line' l out g rest := by
  cases ws with
  | nil => exact absurd rfl hne
  | cons x r =>
    simp only [List.length_cons] at hc
    obtain ⟨line', hq⟩ := read_word (env := env) (line := line) (now := []) (out := out) (g := g) (over_tails' r hr) (hl x (by simp)) (by decide) (.inr ho)
    obtain ⟨line2, ws, h1, h2, h3⟩ := read_tail (env := env) hr (out := out) (g := g) r line' [⟨x, line, false⟩] (by simp) (fun y hy => hl y (by simp [hy])) (by simp; omega)
    refine ⟨line2, ⟨x, line, false⟩ :: ws, by simp [h1], ?_, ?_⟩
    · intro y hy
      rcases List.mem_cons.1 hy with rfl | hy
      · rfl
      · exact h2 y hy
    · rw [cat, List.append_assoc, hq, List.nil_append, h3]
      rfl
/-- commands in one group -/
def gcat : List (List Bytes) → Bytes
  | [] => []
  | [c] => cat c
  | c :: r => cat c ++ 32 :: 59 :: 32 :: gcat r
/-- groups, each on a line -/
def gtext (gs : List (List (List Bytes))) : Bytes := gs.flatMap fun c => gcat c ++ [10]
def Small (c : List Bytes) : Prop := c ≠ [] ∧ (∀ x ∈ c, x.length ≤ 8192) ∧ c.length ≤ 256
/-- the lines of one group -/
structure GLine (g : Nat) (L : List Ln) (c : List (List Bytes)) : Prop where
  texts : L.map (fun l => l.1.map (·.text)) = c
  each : ∀ l ∈ L, l.2 = g ∧ ∀ x ∈ l.1, x.block = false
theorem bump_last (out : List Ln) (l : List W) (g : Nat) : bump (out ++ [(l, g)]) g = g + 1 := by simp [bump]
theorem read_group {rest : Bytes} {g : Nat} : ∀ (cs : List (List Bytes)) (line : Nat) (out : List Ln), cs ≠ [] → (∀ c ∈ cs, Small c) → out.length + cs.length ≤ 1000 →
    ∃ (line' : Nat) (L : List Ln), GLine g L cs ∧ read env line [] out g (gcat cs ++ 10 :: rest) = read env line' [] (out ++ L) (g + 1) rest
  | [], _, _, h, _, _ => absurd rfl h
  | [c], line, out, _, hs, hn => by
    obtain ⟨h1, h2, h3⟩ := hs c (by simp)
    obtain ⟨line', l, k1, k2, k3⟩ := read_cmd (env := env) (rest := 10 :: rest) rfl (out := out) (g := g) (line := line) h1 h2 h3 (by simp at hn; omega)
    have hl : l ≠ [] := fun e => h1 (by rw [← k1, e]; rfl)
    refine ⟨line' + 1, [(l, g)], ⟨by simp [k1], fun x hx => ?_⟩, ?_⟩
    · rw [List.mem_singleton.1 hx]
      exact ⟨rfl, k2⟩
    · rw [gcat, k3, read_cons, if_neg (by decide), if_neg (fun h => absurd h.1 (by decide)), if_neg (by decide), if_neg (by decide), if_pos rfl, fin, if_neg hl, bump_last]
  | c :: d :: r, line, out, _, hs, hn => by
    obtain ⟨h1, h2, h3⟩ := hs c (by simp)
    simp only [List.length_cons] at hn
    obtain ⟨line', l, k1, k2, k3⟩ := read_cmd (env := env) (rest := 32 :: 59 :: 32 :: (gcat (d :: r) ++ 10 :: rest)) rfl (out := out) (g := g) (line := line) h1 h2 h3 (by omega)
    have hl : l ≠ [] := fun e => h1 (by rw [← k1, e]; rfl)
    obtain ⟨line2, L, m1, m2⟩ := read_group (rest := rest) (g := g) (d :: r) line' (out ++ [(l, g)]) (by simp) (fun x hx => hs x (List.mem_cons_of_mem _ hx)) (by simp; omega)
    refine ⟨line2, (l, g) :: L, ⟨by simp [k1, m1.texts], fun x hx => ?_⟩, ?_⟩
    · rcases List.mem_cons.1 hx with rfl | hx
      · exact ⟨rfl, k2⟩
      · exact m1.each x hx
    · have e : gcat (c :: d :: r) ++ 10 :: rest = cat c ++ 32 :: 59 :: 32 :: (gcat (d :: r) ++ 10 :: rest) := by simp [gcat]
      rw [e, k3, read_cons, if_pos (.inl rfl), read_cons, if_neg (by decide), if_neg (fun h => absurd h.1 (by decide)), if_neg (by decide), if_pos rfl, fin, if_neg hl, read_cons, if_pos (.inl rfl), m2]
      simp
/-- the lines of groups, numbered from g on -/
inductive GLines : Nat → List Ln → List (List (List Bytes)) → Prop
  | nil (g : Nat) : GLines g [] []
  | cons {g : Nat} {L M : List Ln} {c : List (List Bytes)} {gs : List (List (List Bytes))} (h : GLine g L c) (hne : c ≠ []) (t : GLines (g + 1) M gs) : GLines g (L ++ M) (c :: gs)
theorem read_groups : ∀ (gs : List (List (List Bytes))) (line g : Nat) (out : List Ln), (∀ c ∈ gs, c ≠ [] ∧ ∀ x ∈ c, Small x) → out.length + (gs.map (·.length)).sum ≤ 1000 →
    ∃ L, GLines g L gs ∧ read env line [] out g (gtext gs) = .ok (out ++ L)
  | [], line, g, out, _, _ => ⟨[], .nil g, by rw [gtext, List.flatMap_nil, read_nil, fin, if_pos rfl, List.append_nil]⟩
  | c :: gs, line, g, out, hs, hn => by
    simp only [List.map_cons, List.sum_cons] at hn
    obtain ⟨line', L, h1, h2⟩ := read_group (env := env) (rest := gtext gs) (g := g) c line out (hs c (by simp)).1 (hs c (by simp)).2 (by omega)
    have hL : L.length = c.length := by rw [← h1.texts, List.length_map]
    obtain ⟨M, h3, h4⟩ := read_groups gs line' (g + 1) (out ++ L) (fun x hx => hs x (List.mem_cons_of_mem _ hx)) (by rw [List.length_append]; omega)
    refine ⟨L ++ M, .cons h1 (hs c (by simp)).1 h3, ?_⟩
    have e : gtext (c :: gs) = gcat c ++ 10 :: gtext gs := by simp [gtext]
    rw [e, h2, h4, List.append_assoc]
theorem split_groups {gs : List (List (List Bytes))} (hs : ∀ c ∈ gs, c ≠ [] ∧ ∀ x ∈ c, Small x) (hn : (gs.map (·.length)).sum ≤ 1000) (hl : (gtext gs).length ≤ 65536) : ∃ L, GLines 1 L gs ∧ split env (gtext gs) = .ok L := by
  obtain ⟨L, h1, h2⟩ := read_groups (env := env) gs 1 1 [] hs (by simpa using hn)
  exact ⟨L, h1, by rw [split, if_neg (by omega), h2, List.nil_append]⟩
end Lx
end Go.Proofs.YtiopaenonjhlnaaGreatDoor
