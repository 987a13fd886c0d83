/- The walks of the document's answer for Quote. -/
import Derived.Test.YtdcknacjeilifaaDoorLexQuote
namespace Go.Proofs.YtdcknacjeilifaaDoor
open Go.RowKit
open Lx (Bytes)

def isL (n : Int) : Bool := decide ((97 ≤ n ∧ n ≤ 122) ∨ (65 ≤ n ∧ n ≤ 90) ∨ n = 95 ∨ (48 ≤ n ∧ n ≤ 57))
set_option maxHeartbeats 1000000 in
theorem refLetter_in (w : World) (n : Int) (h0 : 0 ≤ n) (h1 : n ≤ 255) : Calls Tryd.prog 21 #[.int .u8 n, .bool false] w fun e w' => e = .returned (.bool (isL n)) ∧ w' = w := by
  go_enter Tryd.func21, Tryd.ntmps21
  go_wp2_with fail
  all_goals go_ret
  all_goals refine ⟨?_, rfl⟩
  all_goals refine congrArg (fun b => Ending.returned (Value.bool b)) (a₁ := ?_) (a₂ := isL _) ?_
  all_goals rw [Bool.eq_iff_iff]
  all_goals simp [isL]
  all_goals omega

def punctB (n : Int) : Bool := decide (n = 46 ∨ n = 47 ∨ n = 58 ∨ n = 61 ∨ n = 64 ∨ n = 37 ∨ n = 43 ∨ n = 44 ∨ n = 45)
theorem bare_all : ∀ n : Fin 256, Lx.wset.contains (UInt8.ofNat n) = (isL ((UInt8.ofNat n).toNat : Int) || punctB ((UInt8.ofNat n).toNat : Int)) := by decide +kernel
theorem bare_is (b : UInt8) : Lx.wset.contains b = (isL (b.toNat : Int) || punctB (b.toNat : Int)) := by
  have := bare_all ⟨b.toNat, b.toNat_lt⟩
  simpa using this
def fB (s : ByteArray) (n : Nat) : Bool := decide (sl s ≠ []) && ((sl s).take n).all (Lx.wset.contains ·)
def fS (s : ByteArray) (n : Nat) : Bool := decide ((39 : UInt8) ∈ (sl s).take n)
theorem fB_succ (s : ByteArray) {n : Nat} (h : n < s.size) : fB s (n + 1) = (fB s n && (isL (s[n].toNat : Int) || punctB (s[n].toNat : Int))) := by
  rw [fB, u8s_take s h, List.all_append, fB, ← bare_is, ← Bool.and_assoc]
  simp
theorem fS_succ (s : ByteArray) {n : Nat} (h : n < s.size) : fS s (n + 1) = (fS s n || decide ((s[n].toNat : Int) = 39)) := by
  rw [fS, u8s_take s h, fS, Bool.eq_iff_iff]
  simp only [List.mem_append, List.mem_singleton, Bool.or_eq_true, decide_eq_true_eq]
  have : (39 : UInt8) = s[n] ↔ (s[n].toNat : Int) = 39 := by
    constructor
    · intro e; rw [← e]; rfl
    · intro e; exact UInt8.toNat_inj.1 (by rw [show (39 : UInt8).toNat = 39 from rfl]; omega)
  rw [this]

structure BRel (w : World) (L : Bytes) (v : Value) (wr : World) : Prop where
  own : wr.ownsRow w.heap.size 5 1 v L.length (u8s L)
  turns : Turns Nothing w wr
theorem BRel.slice {w wr : World} {L : Bytes} {v : Value} (h : BRel w L v wr) : ∃ A c, v = .slice A L.length c := own_slice h.own
theorem BRel.next {w wr w1 : World} {L : Bytes} {v v' : Value} {n : Nat} {xs : List Value} (o : Obj) (h : BRel w L v wr) (u : Bytes) (hg : (wr.alloc o).grownBy w1 v.ownBlock) (hn : n = L.length + u.length) (hx : xs = u8s L ++ u8s u) (ho : w1.ownsRow w.heap.size 5 1 v' n xs) : BRel w (L ++ u) v' w1 := by
  subst hn hx
  refine ⟨by rw [List.length_append, u8s_append]; exact ho, (h.turns.alloc o).grown hg fun b hb e => ?_⟩
  have := h.own.lt b e
  omega
theorem BRel.start {w : World} (c : UInt8) : BRel w [c] (.slice (some ⟨w.heap.size, 0, none⟩) 1 1) (w.alloc (.cells #[.int .u8 c.toNat] 5)) :=
  ⟨World.ownsRow_lit w #[.int .u8 c.toNat] 1 (Nat.le_refl _) (by simp [maxLen]) rfl, (Turns.refl _ w).alloc _⟩

theorem src_byte (w : World) (k : Int) : Src Tryd.prog 1 46 (.slice (some ⟨w.heap.size, 0, none⟩) 1 1) 1 [.int .u8 k] (w.alloc (.cells #[.int .u8 k] 5)) := by
  refine Src.ofSlice _ Tryd.underlying46 ⟨_, 0, none⟩ 1 1 _ rfl (fun j u hj => ?_) (by simp [Value.oneCell'])
  have ha : (⟨w.heap.size, 0, none⟩ : Addr).add j = ⟨w.heap.size, j, none⟩ := by unfold Addr.add; split <;> simp_all
  rw [ha, cell_of_row _ w.heap.size _ _ _ (0, 0) (heap_alloc_new w _), ← hj]
  simp

set_option maxHeartbeats 4000000 in
set_option maxRecDepth 4000 in
theorem refQuote_any {w : World} (s : ByteArray) (hs : s.size ≤ 1600000) :
    Calls Tryd.prog 11 #[.string s] w fun e w' => ∃ u : ByteArray, e = .returned (.string u) ∧ sl u = Lx.wquote (sl s) ∧ Turns Nothing w w' := by
  have hs2 : (s.size : Int) ≤ 1600000 := by omega
  have hne0 : ((s.toList == ([] : List UInt8)) = !decide (sl s ≠ [])) := by
    rw [str_list, Bool.eq_iff_iff]; simp
  go_enter Tryd.func11, Tryd.ntmps11
  go_wp2_with fail
  go_loopw [5, 3, 4] (fun i q r wr => ∃ (n : Nat) (B S : Bool), i = .int .i64 n ∧ q = .bool B ∧ r = .bool S ∧ n ≤ s.size ∧ B = fB s n ∧ S = fS s n ∧ Turns Nothing w wr) (fun i _ _ _ => s.size - (intOf i).toNat)
  case atStart =>
    refine ⟨0, _, _, rfl, rfl, rfl, Nat.zero_le _, ?_, rfl, Turns.refl _ _⟩
    simp [fB]
  case round =>
    obtain ⟨n, B, S, rfl, rfl, rfl, hn, hB, hS, ht⟩ := hrel
    have HT := Lib.hid ht
    clear ht
    by_cases hlt : n < s.size
    · have h1 := fB_succ s hlt
      have h2 := fS_succ s hlt
      rw [← hB] at h1
      rw [← hS] at h2
      have hv0 : 0 ≤ (s[n].toNat : Int) := by omega
      have hv1 : (s[n].toNat : Int) ≤ 255 := by have := s[n].toNat_lt; omega
      have HX := Lib.hid (And.intro h1 h2)
      clear h1 h2 hB hS hne0
      go_wp2_with fail
      refine (refLetter_in _ _ hv0 hv1).mono ?_
      rintro e w2 ⟨rfl, rfl⟩
      have HC := Lib.hid (fun (B' : Bool) (e : B' = (B && (isL (s[n].toNat : Int) || punctB (s[n].toNat : Int)))) => e.trans HX.out.1.symm)
      have HD := Lib.hid (fun (S' : Bool) (e : S' = (S || decide ((s[n].toNat : Int) = 39))) => e.trans HX.out.2.symm)
      clear HX
      generalize (s[n].toNat : Int) = v at *
      cases hL : isL v with
      | true =>
        have hv : v ≠ 39 := by rintro rfl; exact absurd hL (by decide)
        cases S
        · go_wp2_with fail
          go_roundw
          case rel =>
            refine ⟨n + 1, _, _, by go_num, rfl, rfl, hlt, HC.out _ ?_, HD.out _ ?_, HT.out⟩
            · simp [hL]
            · simp [hv]
          case measure => simp [intOf]; omega
        · go_wp2_with fail
          go_roundw
          case rel =>
            refine ⟨n + 1, _, _, by go_num, rfl, rfl, hlt, HC.out _ ?_, HD.out _ ?_, HT.out⟩
            · simp [hL]
            · simp [hv]
          case measure => simp [intOf]; omega
      | false =>
        by_cases hp : v = 46 ∨ v = 47 ∨ v = 58 ∨ v = 61 ∨ v = 64 ∨ v = 37 ∨ v = 43 ∨ v = 44 ∨ v = 45
        · have HP := Lib.hid (show punctB v = true from decide_eq_true hp)
          cases S
          all_goals rcases hp with rfl | rfl | rfl | rfl | rfl | rfl | rfl | rfl | rfl
          all_goals
            (go_wp2_with fail
             go_roundw
             case rel =>
               refine ⟨n + 1, _, _, by go_num, rfl, rfl, hlt, HC.out _ ?_, HD.out _ ?_, HT.out⟩
               · simp [HP.out]
               · simp
             case measure => simp [intOf]; omega)
        · have HP := Lib.hid (show punctB v = false from decide_eq_false hp)
          have k1 : (v == 46) = false := beq_eq_false_iff_ne.2 (by omega)
          have l1 : ¬ v = 46 := by omega
          have m1 : (v != 46) = true := by rw [bne, k1]; rfl
          have k2 : (v == 47) = false := beq_eq_false_iff_ne.2 (by omega)
          have l2 : ¬ v = 47 := by omega
          have m2 : (v != 47) = true := by rw [bne, k2]; rfl
          have k3 : (v == 58) = false := beq_eq_false_iff_ne.2 (by omega)
          have l3 : ¬ v = 58 := by omega
          have m3 : (v != 58) = true := by rw [bne, k3]; rfl
          have k4 : (v == 61) = false := beq_eq_false_iff_ne.2 (by omega)
          have l4 : ¬ v = 61 := by omega
          have m4 : (v != 61) = true := by rw [bne, k4]; rfl
          have k5 : (v == 64) = false := beq_eq_false_iff_ne.2 (by omega)
          have l5 : ¬ v = 64 := by omega
          have m5 : (v != 64) = true := by rw [bne, k5]; rfl
          have k6 : (v == 37) = false := beq_eq_false_iff_ne.2 (by omega)
          have l6 : ¬ v = 37 := by omega
          have m6 : (v != 37) = true := by rw [bne, k6]; rfl
          have k7 : (v == 43) = false := beq_eq_false_iff_ne.2 (by omega)
          have l7 : ¬ v = 43 := by omega
          have m7 : (v != 43) = true := by rw [bne, k7]; rfl
          have k8 : (v == 44) = false := beq_eq_false_iff_ne.2 (by omega)
          have l8 : ¬ v = 44 := by omega
          have m8 : (v != 44) = true := by rw [bne, k8]; rfl
          have k9 : (v == 45) = false := beq_eq_false_iff_ne.2 (by omega)
          have l9 : ¬ v = 45 := by omega
          have m9 : (v != 45) = true := by rw [bne, k9]; rfl
          clear hp
          by_cases hv : v = 39
          · subst hv
            clear k1 k2 k3 k4 k5 k6 k7 k8 k9 l1 l2 l3 l4 l5 l6 l7 l8 l9 m1 m2 m3 m4 m5 m6 m7 m8 m9
            cases S
            all_goals
              (go_wp2_with fail
               go_roundw
               case rel =>
                 refine ⟨n + 1, _, _, by go_num, rfl, rfl, hlt, HC.out _ ?_, HD.out _ ?_, HT.out⟩
                 · simp [HP.out, hL]
                 · simp
               case measure => simp [intOf]; omega)
          · cases S
            all_goals
              (go_wp2_with fail
               go_roundw
               case rel =>
                 refine ⟨n + 1, _, _, by go_num, rfl, rfl, hlt, HC.out _ ?_, HD.out _ ?_, HT.out⟩
                 · simp [HP.out, hL]
                 · simp [hv]
               case measure => simp [intOf]; omega)
    · obtain rfl : n = s.size := by omega
      have hBs : B = (decide (sl s ≠ []) && (sl s).all (Lx.wset.contains ·)) := by rw [hB, fB, ← sl_size, List.take_length]
      have hSs : S = decide ((39 : UInt8) ∈ sl s) := by rw [hS, fS, ← sl_size, List.take_length]
      clear hB hS hne0
      have HBs := Lib.hid hBs
      have HSs := Lib.hid hSs
      clear hBs hSs
      cases B with
      | true =>
        go_wp2_with fail
        go_ret
        refine ⟨_, rfl, ?_, HT.out⟩
        have h := HBs.out
        rw [Lx.wquote, if_pos (by simpa using h.symm)]
      | false =>
        have hnb : ¬ (sl s ≠ [] ∧ (sl s).all (Lx.wset.contains ·) = true) := by
          intro ⟨e1, e2⟩
          have h := HBs.out
          rw [e2, decide_eq_true e1] at h
          cases h
        have HNB := Lib.hid hnb
        clear hnb
        cases S with
        | false =>
          have hno : ¬ (39 : UInt8) ∈ sl s := of_decide_eq_false HSs.out.symm
          have HNO := Lib.hid hno
          clear hno
          go_wp2_with fail
          go_ret
          exact ⟨_, rfl, by rw [Lx.wquote, if_neg HNB.out, if_neg HNO.out]; simp [sl], HT.out⟩
        | true =>
          have hyes : (39 : UInt8) ∈ sl s := of_decide_eq_true HSs.out.symm
          have HY := Lib.hid hyes
          clear hyes
          go_wp2_with fail
          have R0 : BRel wr (34 :: Lx.wesc ((sl s).take 0)) (.slice (some ⟨wr.heap.size, 0, none⟩) 1 1) (wr.alloc (.cells #[.int .u8 34] 5)) := BRel.start 34
          have HR := Lib.hid R0
          clear R0
          go_loopw [9, 8] (fun i v wr2 => ∃ n : Nat, i = .int .i64 n ∧ n ≤ s.size ∧ BRel wr (34 :: Lx.wesc ((sl s).take n)) v wr2) (fun i _ _ => s.size - (intOf i).toNat)
          case atStart => exact ⟨0, rfl, Nat.zero_le _, HR.out⟩
          case round =>
            obtain ⟨n, rfl, hn, hrel⟩ := hrel
            obtain ⟨A0, c0, rfl⟩ := hrel.slice
            have HR2 := Lib.hid hrel
            clear hrel HR
            obtain ⟨i0, hi0, hz0, hz1, hz2⟩ := info_parts A.info_u8
            have hlen := Lx.wesc_length ((sl s).take n)
            have hlen2 : ((sl s).take n).length ≤ s.size := by rw [List.length_take, sl_size]; omega
            have hlen3 : (34 :: Lx.wesc ((sl s).take n)).length ≤ 4000000 := by rw [List.length_cons]; omega
            clear hlen hlen2
            by_cases hlt2 : n < s.size
            · have HTK := Lib.hid (u8s_take s hlt2)
              by_cases hc : (s[n].toNat : Int) = 34 ∨ (s[n].toNat : Int) = 92 ∨ (s[n].toNat : Int) = 36
              · have hcase : s[n] = 34 ∨ s[n] = 92 ∨ s[n] = 36 := by
                  rcases hc with h | h | h
                  · exact .inl (UInt8.toNat_inj.1 (by rw [show (34 : UInt8).toNat = 34 from rfl]; omega))
                  · exact .inr (.inl (UInt8.toNat_inj.1 (by rw [show (92 : UInt8).toNat = 92 from rfl]; omega)))
                  · exact .inr (.inr (UInt8.toNat_inj.1 (by rw [show (36 : UInt8).toNat = 36 from rfl]; omega)))
                have HCA := Lib.hid hcase
                clear hcase
                have hlen4 : (34 :: Lx.wesc ((sl s).take n) ++ [92]).length ≤ 4000001 := by rw [List.length_append, List.length_singleton]; omega
                have hk : (((s[n].toNat : Int) == 34) = true) ∨ (((s[n].toNat : Int) == 34) = false ∧ ((s[n].toNat : Int) == 92) = true) ∨ (((s[n].toNat : Int) == 34) = false ∧ ((s[n].toNat : Int) == 92) = false ∧ ((s[n].toNat : Int) == 36) = true) := by
                  rcases hc with hv | hv | hv
                  · exact .inl (beq_iff_eq.2 hv)
                  · exact .inr (.inl ⟨beq_eq_false_iff_ne.2 (by omega), beq_iff_eq.2 hv⟩)
                  · exact .inr (.inr ⟨beq_eq_false_iff_ne.2 (by omega), beq_eq_false_iff_ne.2 (by omega), beq_iff_eq.2 hv⟩)
                clear hc
                rcases hk with k1 | ⟨k1, k2⟩ | ⟨k1, k2, k3⟩
                all_goals
                  (go_wp2_with (first
                    | (at_builtin
                       refine wpList_append_src _ rfl (.tmp 96) (.tmp 97) _ _ rfl _ 5 i0 _ 1 1 Tryd.underlying46 hi0 hz0 hz1 hz2 rfl _ _ _ rfl (HR2.out.own.alloc _) _ 1 [.int .u8 92] rfl (src_byte _ _) (by simp only [maxLen]; omega) (by omega) (Nat.le_trans HR2.out.turns.size (by simp)) ?_
                       intro AHN1 cpHN1 wHN1 ho hg hat
                       have HN1 := Lib.hid (BRel.next _ HR2.out [92] hg rfl rfl ho)
                       clear ho hg hat)
                    | (at_builtin
                       refine wpList_append_src _ rfl (.tmp 99) (.tmp 103) _ _ rfl _ 5 i0 _ 1 1 Tryd.underlying46 hi0 hz0 hz1 hz2 rfl _ _ _ rfl (HN1.out.own.alloc _) _ 1 [.int .u8 s[n].toNat] rfl (src_byte _ _) (by simp only [maxLen]; omega) (by omega) (Nat.le_trans HN1.out.turns.size (by simp)) ?_
                       intro AHN2 cpHN2 wHN2 ho hg hat
                       have HN2 := Lib.hid (BRel.next _ HN1.out [s[n]] hg rfl rfl ho)
                       clear ho hg hat))
                   go_roundw
                   case rel =>
                     refine ⟨n + 1, by go_num, hlt2, ?_⟩
                     have h := HN2.out
                     rw [HTK.out, wesc_snoc, if_pos HCA.out]
                     simpa using h
                   case measure => simp [intOf]; omega)
              · have hcase : ¬ (s[n] = 34 ∨ s[n] = 92 ∨ s[n] = 36) := by
                  intro h
                  refine hc ?_
                  rcases h with h | h | h
                  · rw [h]; exact .inl rfl
                  · rw [h]; exact .inr (.inl rfl)
                  · rw [h]; exact .inr (.inr rfl)
                have HCA := Lib.hid hcase
                clear hcase
                have k1 : ((s[n].toNat : Int) == 34) = false := beq_eq_false_iff_ne.2 (by omega)
                have k2 : ((s[n].toNat : Int) == 92) = false := beq_eq_false_iff_ne.2 (by omega)
                have k3 : ((s[n].toNat : Int) == 36) = false := beq_eq_false_iff_ne.2 (by omega)
                go_wp2_with (first
                  | (at_builtin
                     refine wpList_append_src _ rfl (.tmp 99) (.tmp 103) _ _ rfl _ 5 i0 _ 1 1 Tryd.underlying46 hi0 hz0 hz1 hz2 rfl _ _ _ rfl (HR2.out.own.alloc _) _ 1 [.int .u8 s[n].toNat] rfl (src_byte _ _) (by simp only [maxLen]; omega) (by omega) (Nat.le_trans HR2.out.turns.size (by simp)) ?_
                     intro AHN2 cpHN2 wHN2 ho hg hat
                     have HN2 := Lib.hid (BRel.next _ HR2.out [s[n]] hg rfl rfl ho)
                     clear ho hg hat))
                go_roundw
                case rel =>
                  refine ⟨n + 1, by go_num, hlt2, ?_⟩
                  have h := HN2.out
                  rw [HTK.out, wesc_snoc, if_neg HCA.out]
                  simpa using h
                case measure => simp [intOf]; omega
            · obtain rfl : n = s.size := by omega
              generalize hL : (34 :: Lx.wesc ((sl s).take s.size)) = L at *
              have HL := Lib.hid hL
              clear hL
              go_wp2_with (first
                | (at_builtin
                   refine wpList_append_src _ rfl (.tmp 105) (.tmp 106) _ _ rfl _ 5 i0 _ 1 1 Tryd.underlying46 hi0 hz0 hz1 hz2 rfl _ _ _ rfl (HR2.out.own.alloc _) _ 1 [.int .u8 34] rfl (src_byte _ _) (by simp only [maxLen]; omega) (by omega) (Nat.le_trans HR2.out.turns.size (by simp)) ?_
                   intro AHN2 cpHN2 wHN2 ho hg hat
                   have HN2 := Lib.hid (BRel.next _ HR2.out [34] hg rfl rfl ho)
                   clear ho hg hat
                   have hcv := conv_own HN2.out.own))
              go_ret
              refine ⟨_, rfl, ?_, HT.out.same HN2.out.turns⟩
              rw [Lx.wquote, if_neg HNB.out, if_pos HY.out]
              show L ++ [34] = _
              rw [← HL.out, ← sl_size, List.take_length]
end Go.Proofs.YtdcknacjeilifaaDoor
