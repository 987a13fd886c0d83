/- The walks of the document's answer for Quote. The walks of the document's One and Print (package mullionref12). The walk of the document's Print (package mullionref12). -/
import Derived.Test.YtedlhdegdlabhaaGreatDoorLexQuote
import Derived.Test.YtedlhdegdlabhaaGreatDoorRefOne
import Derived.Test.YtedlhdegdlabhaaGreatDoorParsePrint
import Derived.Test.YtedlhdegdlabhaaGreatDoorParsePutLaw
namespace Go.Proofs.YtedlhdegdlabhaaGreatDoor
open Go.RowKit
open Lx (Bytes)

def isL (n : Int) : Bool := decide ((97 ≤ n ∧ n ≤ 122) ∨ (65 ≤ n ∧ n ≤ 90) ∨ n = 95 ∨ (48 ≤ n ∧ n ≤ 57))
set_option maxHeartbeats 1000000 in
theorem refLetter_in (w : World) (n : Int) (h0 : 0 ≤ n) (h1 : n ≤ 255) : Calls Tryz.prog 53 #[.int .u8 n, .bool false] w fun e w' => e = .returned (.bool (isL n)) ∧ w' = w := by
  go_enter Tryz.func53, Tryz.ntmps53
  go_wp2_with fail
  all_goals go_ret
  all_goals refine ⟨?_, rfl⟩
  all_goals refine congrArg (fun b => Ending.returned (Value.bool b)) (a₁ := ?_) (a₂ := isL _) ?_
  all_goals rw [Bool.eq_iff_iff]
  all_goals simp [isL]
  all_goals omega

def punctB (n : Int) : Bool := decide (n = 46 ∨ n = 47 ∨ n = 58 ∨ n = 61 ∨ n = 64 ∨ n = 37 ∨ n = 43 ∨ n = 44 ∨ n = 45)
theorem bare_all : ∀ n : Fin 256, Lx.wset.contains (UInt8.ofNat n) = (isL ((UInt8.ofNat n).toNat : Int) || punctB ((UInt8.ofNat n).toNat : Int)) := by decide +kernel
theorem bare_is (b : UInt8) : Lx.wset.contains b = (isL (b.toNat : Int) || punctB (b.toNat : Int)) := by
  have := bare_all ⟨b.toNat, b.toNat_lt⟩
  simpa using this
def fB (s : ByteArray) (n : Nat) : Bool := decide (sl s ≠ []) && ((sl s).take n).all (Lx.wset.contains ·)
def fS (s : ByteArray) (n : Nat) : Bool := decide ((39 : UInt8) ∈ (sl s).take n)
theorem fB_succ (s : ByteArray) {n : Nat} (h : n < s.size) : fB s (n + 1) = (fB s n && (isL (s[n].toNat : Int) || punctB (s[n].toNat : Int))) := by
  rw [fB, u8s_take s h, List.all_append, fB, ← bare_is, ← Bool.and_assoc]
  simp
theorem fS_succ (s : ByteArray) {n : Nat} (h : n < s.size) : fS s (n + 1) = (fS s n || decide ((s[n].toNat : Int) = 39)) := by
  rw [fS, u8s_take s h, fS, Bool.eq_iff_iff]
  simp only [List.mem_append, List.mem_singleton, Bool.or_eq_true, decide_eq_true_eq]
  have : (39 : UInt8) = s[n] ↔ (s[n].toNat : Int) = 39 := by
    constructor
    · intro e; rw [← e]; rfl
    · intro e; exact UInt8.toNat_inj.1 (by rw [show (39 : UInt8).toNat = 39 from rfl]; omega)
  rw [this]

structure BRel (w : World) (L : Bytes) (v : Value) (wr : World) : Prop where
  own : wr.ownsRow w.heap.size 5 1 v L.length (u8s L)
  turns : Turns Nothing w wr
theorem BRel.slice {w wr : World} {L : Bytes} {v : Value} (h : BRel w L v wr) : ∃ A c, v = .slice A L.length c := own_slice h.own
theorem BRel.next {w wr w1 : World} {L : Bytes} {v v' : Value} {n : Nat} {xs : List Value} (o : Obj) (h : BRel w L v wr) (u : Bytes) (hg : (wr.alloc o).grownBy w1 v.ownBlock) (hn : n = L.length + u.length) (hx : xs = u8s L ++ u8s u) (ho : w1.ownsRow w.heap.size 5 1 v' n xs) : BRel w (L ++ u) v' w1 := by
  subst hn hx
  refine ⟨by rw [List.length_append, u8s_append]; exact ho, (h.turns.alloc o).grown hg fun b hb e => ?_⟩
  have := h.own.lt b e
  omega
theorem BRel.start {w : World} (c : UInt8) : BRel w [c] (.slice (some ⟨w.heap.size, 0, none⟩) 1 1) (w.alloc (.cells #[.int .u8 c.toNat] 5)) :=
  ⟨World.ownsRow_lit w #[.int .u8 c.toNat] 1 (Nat.le_refl _) (by simp [maxLen]) rfl, (Turns.refl _ w).alloc _⟩

theorem src_byte (w : World) (k : Int) : Src Tryz.prog 1 73 (.slice (some ⟨w.heap.size, 0, none⟩) 1 1) 1 [.int .u8 k] (w.alloc (.cells #[.int .u8 k] 5)) := by
  refine Src.ofSlice _ Tryz.underlying73 ⟨_, 0, none⟩ 1 1 _ rfl (fun j u hj => ?_) (by simp [Value.oneCell'])
  have ha : (⟨w.heap.size, 0, none⟩ : Addr).add j = ⟨w.heap.size, j, none⟩ := by unfold Addr.add; split <;> simp_all
  rw [ha, cell_of_row _ w.heap.size _ _ _ (0, 0) (heap_alloc_new w _), ← hj]
  simp

set_option maxHeartbeats 4000000 in
set_option maxRecDepth 4000 in
theorem refQuote_any {w : World} (s : ByteArray) (hs : s.size ≤ 1600000) :
    Calls Tryz.prog 33 #[.string s] w fun e w' => ∃ u : ByteArray, e = .returned (.string u) ∧ sl u = Lx.wquote (sl s) ∧ Turns Nothing w w' := by
  have hs2 : (s.size : Int) ≤ 1600000 := by omega
  have hne0 : ((s.toList == ([] : List UInt8)) = !decide (sl s ≠ [])) := by
    rw [str_list, Bool.eq_iff_iff]; simp
  go_enter Tryz.func33, Tryz.ntmps33
  go_wp2_with fail
  go_loopw [5, 3, 4] (fun i q r wr => ∃ (n : Nat) (B S : Bool), i = .int .i64 n ∧ q = .bool B ∧ r = .bool S ∧ n ≤ s.size ∧ B = fB s n ∧ S = fS s n ∧ Turns Nothing w wr) (fun i _ _ _ => s.size - (intOf i).toNat)
  case atStart =>
    refine ⟨0, _, _, rfl, rfl, rfl, Nat.zero_le _, ?_, rfl, Turns.refl _ _⟩
    simp [fB]
  case round =>
    obtain ⟨n, B, S, rfl, rfl, rfl, hn, hB, hS, ht⟩ := hrel
    have HT := Lib.hid ht
    clear ht
    by_cases hlt : n < s.size
    · have h1 := fB_succ s hlt
      have h2 := fS_succ s hlt
      rw [← hB] at h1
      rw [← hS] at h2
      have hv0 : 0 ≤ (s[n].toNat : Int) := by omega
      have hv1 : (s[n].toNat : Int) ≤ 255 := by have := s[n].toNat_lt; omega
      have HX := Lib.hid (And.intro h1 h2)
      clear h1 h2 hB hS hne0
      go_wp2_with fail
      refine (refLetter_in _ _ hv0 hv1).mono ?_
      rintro e w2 ⟨rfl, rfl⟩
      have HC := Lib.hid (fun (B' : Bool) (e : B' = (B && (isL (s[n].toNat : Int) || punctB (s[n].toNat : Int)))) => e.trans HX.out.1.symm)
      have HD := Lib.hid (fun (S' : Bool) (e : S' = (S || decide ((s[n].toNat : Int) = 39))) => e.trans HX.out.2.symm)
      clear HX
      generalize (s[n].toNat : Int) = v at *
      cases hL : isL v with
      | true =>
        have hv : v ≠ 39 := by rintro rfl; exact absurd hL (by decide)
        cases S
        · go_wp2_with fail
          go_roundw
          case rel =>
            refine ⟨n + 1, _, _, by go_num, rfl, rfl, hlt, HC.out _ ?_, HD.out _ ?_, HT.out⟩
            · simp [hL]
            · simp [hv]
          case measure => simp [intOf]; omega
        · go_wp2_with fail
          go_roundw
          case rel =>
            refine ⟨n + 1, _, _, by go_num, rfl, rfl, hlt, HC.out _ ?_, HD.out _ ?_, HT.out⟩
            · simp [hL]
            · simp [hv]
          case measure => simp [intOf]; omega
      | false =>
        by_cases hp : v = 46 ∨ v = 47 ∨ v = 58 ∨ v = 61 ∨ v = 64 ∨ v = 37 ∨ v = 43 ∨ v = 44 ∨ v = 45
        · have HP := Lib.hid (show punctB v = true from decide_eq_true hp)
          cases S
          all_goals rcases hp with rfl | rfl | rfl | rfl | rfl | rfl | rfl | rfl | rfl
          all_goals
            (go_wp2_with fail
             go_roundw
             case rel =>
               refine ⟨n + 1, _, _, by go_num, rfl, rfl, hlt, HC.out _ ?_, HD.out _ ?_, HT.out⟩
               · simp [HP.out]
               · simp
             case measure => simp [intOf]; omega)
        · have HP := Lib.hid (show punctB v = false from decide_eq_false hp)
          have k1 : (v == 46) = false := beq_eq_false_iff_ne.2 (by omega)
          have l1 : ¬ v = 46 := by omega
          have m1 : (v != 46) = true := by rw [bne, k1]; rfl
          have k2 : (v == 47) = false := beq_eq_false_iff_ne.2 (by omega)
          have l2 : ¬ v = 47 := by omega
          have m2 : (v != 47) = true := by rw [bne, k2]; rfl
          have k3 : (v == 58) = false := beq_eq_false_iff_ne.2 (by omega)
          have l3 : ¬ v = 58 := by omega
          have m3 : (v != 58) = true := by rw [bne, k3]; rfl
          have k4 : (v == 61) = false := beq_eq_false_iff_ne.2 (by omega)
          have l4 : ¬ v = 61 := by omega
          have m4 : (v != 61) = true := by rw [bne, k4]; rfl
          have k5 : (v == 64) = false := beq_eq_false_iff_ne.2 (by omega)
          have l5 : ¬ v = 64 := by omega
          have m5 : (v != 64) = true := by rw [bne, k5]; rfl
          have k6 : (v == 37) = false := beq_eq_false_iff_ne.2 (by omega)
          have l6 : ¬ v = 37 := by omega
          have m6 : (v != 37) = true := by rw [bne, k6]; rfl
          have k7 : (v == 43) = false := beq_eq_false_iff_ne.2 (by omega)
          have l7 : ¬ v = 43 := by omega
          have m7 : (v != 43) = true := by rw [bne, k7]; rfl
          have k8 : (v == 44) = false := beq_eq_false_iff_ne.2 (by omega)
          have l8 : ¬ v = 44 := by omega
          have m8 : (v != 44) = true := by rw [bne, k8]; rfl
          have k9 : (v == 45) = false := beq_eq_false_iff_ne.2 (by omega)
          have l9 : ¬ v = 45 := by omega
          have m9 : (v != 45) = true := by rw [bne, k9]; rfl
          clear hp
          by_cases hv : v = 39
          · subst hv
            clear k1 k2 k3 k4 k5 k6 k7 k8 k9 l1 l2 l3 l4 l5 l6 l7 l8 l9 m1 m2 m3 m4 m5 m6 m7 m8 m9
            cases S
            all_goals
              (go_wp2_with fail
               go_roundw
               case rel =>
                 refine ⟨n + 1, _, _, by go_num, rfl, rfl, hlt, HC.out _ ?_, HD.out _ ?_, HT.out⟩
                 · simp [HP.out, hL]
                 · simp
               case measure => simp [intOf]; omega)
          · cases S
            all_goals
              (go_wp2_with fail
               go_roundw
               case rel =>
                 refine ⟨n + 1, _, _, by go_num, rfl, rfl, hlt, HC.out _ ?_, HD.out _ ?_, HT.out⟩
                 · simp [HP.out, hL]
                 · simp [hv]
               case measure => simp [intOf]; omega)
    · obtain rfl : n = s.size := by omega
      have hBs : B = (decide (sl s ≠ []) && (sl s).all (Lx.wset.contains ·)) := by rw [hB, fB, ← sl_size, List.take_length]
      have hSs : S = decide ((39 : UInt8) ∈ sl s) := by rw [hS, fS, ← sl_size, List.take_length]
      clear hB hS hne0
      have HBs := Lib.hid hBs
      have HSs := Lib.hid hSs
      clear hBs hSs
      cases B with
      | true =>
        go_wp2_with fail
        go_ret
        refine ⟨_, rfl, ?_, HT.out⟩
        have h := HBs.out
        rw [Lx.wquote, if_pos (by simpa using h.symm)]
      | false =>
        have hnb : ¬ (sl s ≠ [] ∧ (sl s).all (Lx.wset.contains ·) = true) := by
          intro ⟨e1, e2⟩
          have h := HBs.out
          rw [e2, decide_eq_true e1] at h
          cases h
        have HNB := Lib.hid hnb
        clear hnb
        cases S with
        | false =>
          have hno : ¬ (39 : UInt8) ∈ sl s := of_decide_eq_false HSs.out.symm
          have HNO := Lib.hid hno
          clear hno
          go_wp2_with fail
          go_ret
          exact ⟨_, rfl, by rw [Lx.wquote, if_neg HNB.out, if_neg HNO.out]; simp [sl], HT.out⟩
        | true =>
          have hyes : (39 : UInt8) ∈ sl s := of_decide_eq_true HSs.out.symm
          have HY := Lib.hid hyes
          clear hyes
          go_wp2_with fail
          have R0 : BRel wr (34 :: Lx.wesc ((sl s).take 0)) (.slice (some ⟨wr.heap.size, 0, none⟩) 1 1) (wr.alloc (.cells #[.int .u8 34] 5)) := BRel.start 34
          have HR := Lib.hid R0
          clear R0
          go_loopw [9, 8] (fun i v wr2 => ∃ n : Nat, i = .int .i64 n ∧ n ≤ s.size ∧ BRel wr (34 :: Lx.wesc ((sl s).take n)) v wr2) (fun i _ _ => s.size - (intOf i).toNat)
          case atStart => exact ⟨0, rfl, Nat.zero_le _, HR.out⟩
          case round =>
            obtain ⟨n, rfl, hn, hrel⟩ := hrel
            obtain ⟨A0, c0, rfl⟩ := hrel.slice
            have HR2 := Lib.hid hrel
            clear hrel HR
            obtain ⟨i0, hi0, hz0, hz1, hz2⟩ := info_parts A.info_u8
            have hlen := Lx.wesc_length ((sl s).take n)
            have hlen2 : ((sl s).take n).length ≤ s.size := by rw [List.length_take, sl_size]; omega
            have hlen3 : (34 :: Lx.wesc ((sl s).take n)).length ≤ 4000000 := by rw [List.length_cons]; omega
            clear hlen hlen2
            by_cases hlt2 : n < s.size
            · have HTK := Lib.hid (u8s_take s hlt2)
              by_cases hc : (s[n].toNat : Int) = 34 ∨ (s[n].toNat : Int) = 92 ∨ (s[n].toNat : Int) = 36
              · have hcase : s[n] = 34 ∨ s[n] = 92 ∨ s[n] = 36 := by
                  rcases hc with h | h | h
                  · exact .inl (UInt8.toNat_inj.1 (by rw [show (34 : UInt8).toNat = 34 from rfl]; omega))
                  · exact .inr (.inl (UInt8.toNat_inj.1 (by rw [show (92 : UInt8).toNat = 92 from rfl]; omega)))
                  · exact .inr (.inr (UInt8.toNat_inj.1 (by rw [show (36 : UInt8).toNat = 36 from rfl]; omega)))
                have HCA := Lib.hid hcase
                clear hcase
                have hlen4 : (34 :: Lx.wesc ((sl s).take n) ++ [92]).length ≤ 4000001 := by rw [List.length_append, List.length_singleton]; omega
                have hk : (((s[n].toNat : Int) == 34) = true) ∨ (((s[n].toNat : Int) == 34) = false ∧ ((s[n].toNat : Int) == 92) = true) ∨ (((s[n].toNat : Int) == 34) = false ∧ ((s[n].toNat : Int) == 92) = false ∧ ((s[n].toNat : Int) == 36) = true) := by
                  rcases hc with hv | hv | hv
                  · exact .inl (beq_iff_eq.2 hv)
                  · exact .inr (.inl ⟨beq_eq_false_iff_ne.2 (by omega), beq_iff_eq.2 hv⟩)
                  · exact .inr (.inr ⟨beq_eq_false_iff_ne.2 (by omega), beq_eq_false_iff_ne.2 (by omega), beq_iff_eq.2 hv⟩)
                clear hc
                rcases hk with k1 | ⟨k1, k2⟩ | ⟨k1, k2, k3⟩
                all_goals
                  (go_wp2_with (first
                    | (at_builtin
                       refine wpList_append_src _ rfl (.tmp 96) (.tmp 97) _ _ rfl _ 5 i0 _ 1 1 Tryz.underlying73 hi0 hz0 hz1 hz2 rfl _ _ _ rfl (HR2.out.own.alloc _) _ 1 [.int .u8 92] rfl (src_byte _ _) (by simp only [maxLen]; omega) (by omega) (Nat.le_trans HR2.out.turns.size (by simp)) ?_
                       intro AHN1 cpHN1 wHN1 ho hg hat
                       have HN1 := Lib.hid (BRel.next _ HR2.out [92] hg rfl rfl ho)
                       clear ho hg hat)
                    | (at_builtin
                       refine wpList_append_src _ rfl (.tmp 99) (.tmp 103) _ _ rfl _ 5 i0 _ 1 1 Tryz.underlying73 hi0 hz0 hz1 hz2 rfl _ _ _ rfl (HN1.out.own.alloc _) _ 1 [.int .u8 s[n].toNat] rfl (src_byte _ _) (by simp only [maxLen]; omega) (by omega) (Nat.le_trans HN1.out.turns.size (by simp)) ?_
                       intro AHN2 cpHN2 wHN2 ho hg hat
                       have HN2 := Lib.hid (BRel.next _ HN1.out [s[n]] hg rfl rfl ho)
                       clear ho hg hat))
                   go_roundw
                   case rel =>
                     refine ⟨n + 1, by go_num, hlt2, ?_⟩
                     have h := HN2.out
                     rw [HTK.out, wesc_snoc, if_pos HCA.out]
                     simpa using h
                   case measure => simp [intOf]; omega)
              · have hcase : ¬ (s[n] = 34 ∨ s[n] = 92 ∨ s[n] = 36) := by
                  intro h
                  refine hc ?_
                  rcases h with h | h | h
                  · rw [h]; exact .inl rfl
                  · rw [h]; exact .inr (.inl rfl)
                  · rw [h]; exact .inr (.inr rfl)
                have HCA := Lib.hid hcase
                clear hcase
                have k1 : ((s[n].toNat : Int) == 34) = false := beq_eq_false_iff_ne.2 (by omega)
                have k2 : ((s[n].toNat : Int) == 92) = false := beq_eq_false_iff_ne.2 (by omega)
                have k3 : ((s[n].toNat : Int) == 36) = false := beq_eq_false_iff_ne.2 (by omega)
                go_wp2_with (first
                  | (at_builtin
                     refine wpList_append_src _ rfl (.tmp 99) (.tmp 103) _ _ rfl _ 5 i0 _ 1 1 Tryz.underlying73 hi0 hz0 hz1 hz2 rfl _ _ _ rfl (HR2.out.own.alloc _) _ 1 [.int .u8 s[n].toNat] rfl (src_byte _ _) (by simp only [maxLen]; omega) (by omega) (Nat.le_trans HR2.out.turns.size (by simp)) ?_
                     intro AHN2 cpHN2 wHN2 ho hg hat
                     have HN2 := Lib.hid (BRel.next _ HR2.out [s[n]] hg rfl rfl ho)
                     clear ho hg hat))
                go_roundw
                case rel =>
                  refine ⟨n + 1, by go_num, hlt2, ?_⟩
                  have h := HN2.out
                  rw [HTK.out, wesc_snoc, if_neg HCA.out]
                  simpa using h
                case measure => simp [intOf]; omega
            · obtain rfl : n = s.size := by omega
              generalize hL : (34 :: Lx.wesc ((sl s).take s.size)) = L at *
              have HL := Lib.hid hL
              clear hL
              go_wp2_with (first
                | (at_builtin
                   refine wpList_append_src _ rfl (.tmp 105) (.tmp 106) _ _ rfl _ 5 i0 _ 1 1 Tryz.underlying73 hi0 hz0 hz1 hz2 rfl _ _ _ rfl (HR2.out.own.alloc _) _ 1 [.int .u8 34] rfl (src_byte _ _) (by simp only [maxLen]; omega) (by omega) (Nat.le_trans HR2.out.turns.size (by simp)) ?_
                   intro AHN2 cpHN2 wHN2 ho hg hat
                   have HN2 := Lib.hid (BRel.next _ HR2.out [34] hg rfl rfl ho)
                   clear ho hg hat
                   have hcv := conv_own HN2.out.own))
              go_ret
              refine ⟨_, rfl, ?_, HT.out.same HN2.out.turns⟩
              rw [Lx.wquote, if_neg HNB.out, if_pos HY.out]
              show L ++ [34] = _
              rw [← HL.out, ← sl_size, List.take_length]
end Go.Proofs.YtedlhdegdlabhaaGreatDoor
namespace Go.Proofs.YtedlhdegdlabhaaGreatDoor
set_option maxRecDepth 8000
open Go.RowKit
open Lx (Bytes)

structure ROneRel (w : World) (K : Nat) (bx : Array Value) (r : Px.Row) (wr : World) : Prop where
  box : Blk wr w.heap.size 27 bx
  row : Blk wr K 61 (rowCs r)
  turns : Turns Nothing w wr
theorem ROneRel.still {w wr w' : World} {K : Nat} {bx : Array Value} {r : Px.Row} (h : ROneRel w K bx r wr) (ht : Turns Nothing wr w') : ROneRel w K bx r w' :=
  ⟨ht.blk h.box id, ht.blk h.row id, h.turns.same ht⟩
theorem one_byte (w : World) (c : UInt8) : (convert 73 9 (.slice (some ⟨w.heap.size, 0, none⟩) 1 1)).run Tryz.prog (w.alloc (.cells #[.int .u8 c.toNat] 5)) = .ok (.string ⟨#[c]⟩) (w.alloc (.cells #[.int .u8 c.toNat] 5)) :=
  conv_own (BRel.start (w := w) c).own
set_option maxHeartbeats 4000000 in
theorem rone_in {w : World} {nm : ByteArray} {fv av : Value} {line : Int} {fl : List Px.Fl} {args : List Bytes} (hf : FlagsAt w fv fl) (hav : TextsAt w av args) (hfl : fl.length ≤ 1050000 ∧ ∀ f ∈ fl, f.2.length ≤ 1600000) (hal : args.length ≤ 1050000 ∧ ∀ a ∈ args, a.length ≤ 1600000) :
    Calls Tryz.prog 13 #[.agg #[.string nm, fv, av, .int .i64 line]] w fun e w' => ∃ u : ByteArray, e = .returned (.string u) ∧ sl u = Px.one ⟨sl nm, fl, args, line⟩ ∧ Turns Nothing w w' := by
  obtain ⟨A2, c2, rfl, hc2⟩ := hav.at_
  obtain ⟨A, cp, rfl, hc⟩ := hf.at_
  have HR := Lib.hid (rright_in (nm := nm) (line := line) (hf.still ((Turns.refl Nothing w).alloc (.cells #[.string nm, .slice A fl.length cp, .slice A2 args.length c2, .int .i64 line] 27))) ⟨A2, c2, rfl⟩ hal.1)
  have HC := Lib.hid hc
  have HC2 := Lib.hid hc2
  have HA := Lib.hid (And.intro hfl hal)
  have ha : (args.length : Int) ≤ 1050000 := by have := hal.1; omega
  have hff : (fl.length : Int) ≤ 1050000 := by have := hfl.1; omega
  have HB := Lib.hid (Blk.new w 27 #[.string nm, .slice A fl.length cp, .slice A2 args.length c2, .int .i64 line])
  clear hf hav hc hc2 hfl hal
  have H1 := Lib.hid (fun (h : Px.right ⟨sl nm, fl, args, line⟩ = true) => Px.right_row h)
  have H2 := Lib.hid (show Px.one ⟨sl nm, fl, args, line⟩ = if Px.right ⟨sl nm, fl, args, line⟩ then sl nm ++ fl.flatMap (Px.oneF ((Px.whole (sl nm)).getD ⟨[], [], [], 0, 0⟩)) ++ Px.dashes args ++ args.flatMap Px.oneA else [] from rfl)
  rw [H2.out]
  clear H2
  have HW := Lib.hid (fun W => rwhole_in W nm)
  have H1 := Lib.hid (show Px.right ⟨sl nm, fl, args, line⟩ = true → ∃ r, Px.whole (sl nm) = some r ∧ r ∈ Px.table ∧ r.name = sl nm ∧ ∀ f ∈ fl, (Px.takes r f.1).isSome = true ∧ f.1 < 128 from H1.out)
  generalize Px.right ⟨sl nm, fl, args, line⟩ = rt at HR H1 ⊢
  generalize Px.whole (sl nm) = q at HW H1 ⊢
  go_enter Tryz.func13, Tryz.ntmps13
  go_wp2_with fail
  refine HR.out.mono ?_
  rintro e w1 ⟨rfl, ht1⟩
  have T1 := Lib.hid (And.intro (((Turns.refl Nothing w).alloc (.cells #[.string nm, .slice A fl.length cp, .slice A2 args.length c2, .int .i64 line] 27)).same ht1) (ht1.blk HB.out id))
  obtain ⟨x0, x1, x2, x3, x4⟩ := box_cells T1.out.2
  clear ht1 HR HB
  cases rt with
  | false =>
    go_wp2_with fail
    go_ret
    exact ⟨_, rfl, rfl, T1.out.1⟩
  | true =>
    obtain ⟨r, hw, hmem, hname, hlet⟩ := H1.out rfl
    have hn40 := (Px.table_flags r hmem).2.1
    have hfl20 := (Px.table_flags r hmem).1
    subst hw
    have HL := Lib.hid (And.intro hlet (And.intro hn40 (And.intro hfl20 hname)))
    clear hmem hname hlet hn40 hfl20 H1
    go_wp2_with fail
    refine (HW.out _).mono ?_
    rintro e w2 ⟨rfl, ht2⟩
    have T2 := Lib.hid (And.intro (T1.out.1.same ht2) (ht2.blk T1.out.2 id))
    obtain ⟨x0, x1, x2, x3, x4⟩ := box_cells T2.out.2
    clear ht2 HW
    simp only [rowOr, Option.getD, Option.isSome, rowV, strV]
    have hnl : (sl nm).length ≤ 40 := by have := HL.out.2.1; rw [HL.out.2.2.2] at this; exact this
    have R0 : ROneRel w w2.heap.size #[.string nm, .slice A fl.length cp, .slice A2 args.length c2, .int .i64 line] r (w2.alloc (.cells (rowCs r) 61)) :=
      ⟨T2.out.2.alloc _, Blk.new w2 _ _, T2.out.1.alloc _⟩
    have HR0 := Lib.hid R0
    have HNL := Lib.hid hnl
    clear R0 hnl T1 T2
    simp only [rowCs, strV] at HR0
    have HTF := Lib.hid (fun W c => rtakes_in W r c (by have := HL.out.2.2.1; omega))
    simp only [rowV, strV] at HTF
    have hcalls : ∀ (ci : Int) (c : UInt8), (c.toNat : Int) = ci → ∀ W : World, Calls Tryz.prog 21 #[.agg #[.string ⟨r.name.toArray⟩, .string ⟨r.others.toArray⟩, .string ⟨r.flags.toArray⟩, .int .i64 r.few, .int .i64 r.most], .int .u8 ci] W fun e w' => e = .returned (.tuple #[.bool (Px.takes r c).isSome, .bool ((Px.takes r c).getD false)]) ∧ Turns Nothing W w' :=
      fun ci c h W => h ▸ HTF.out W c
    go_wp2_with fail
    go_loopw [7, 6] (fun i s wr => ∃ (k : Nat) (T : ByteArray), i = .int .i64 k ∧ s = .string T ∧ k ≤ fl.length ∧ sl T = sl nm ++ (fl.take k).flatMap (Px.oneF r) ∧ ROneRel w w2.heap.size #[.string nm, .slice A fl.length cp, .slice A2 args.length c2, .int .i64 line] r wr) (fun i _ _ => fl.length - (intOf i).toNat)
    case atStart => exact ⟨0, nm, rfl, rfl, Nat.zero_le _, by simp, HR0.out⟩
    case round =>
      obtain ⟨k, T, rfl, rfl, hk, hT, hR⟩ := hrel
      have hTl : (sl nm ++ (fl.take k).flatMap (Px.oneF r)).length ≤ 40 + k * 4000000 := by
        rw [List.length_append]
        have := flat_take (Px.oneF r) 4000000 fl (fun f hf => oneF_len r f (HA.out.1.2 f hf)) k hk
        have := HNL.out
        omega
      have hkk : k ≤ 1050000 := by have := HA.out.1.1; omega
      rw [← hT, sl_size] at hTl
      have htz : (T.size : Int) ≤ 4200000000040 := by omega
      have HT := Lib.hid hT
      clear hTl hkk hT
      by_cases hlt : k < fl.length
      · obtain ⟨b, off, rfl, hb, hcs⟩ := HC.out (by omega)
        obtain ⟨f0, f1⟩ := hcs k hlt
        have f0 := (hR.turns.cell (p := ⟨b, _, none⟩) hb id).trans f0
        have f1 := (hR.turns.cell (p := ⟨b, _, none⟩) hb id).trans f1
        have hbr : b < wr.heap.size := Nat.lt_of_lt_of_le hb hR.turns.size
        obtain ⟨x0, x1, x2, x3, x4⟩ := box_cells hR.box
        have HS := Lib.hid (flat_succ (Px.oneF r) fl k hlt)
        have hval := HA.out.1.2 _ (List.getElem_mem hlt)
        have hsome := (HL.out.1 _ (List.getElem_mem hlt)).1
        have HR2 := Lib.hid hR
        have HQ := Lib.hid (And.intro hval hsome)
        have hcv := one_byte wr fl[k].1
        generalize hfk : fl[k] = fk at f0 f1 HS HQ hcv
        obtain ⟨c, val⟩ := fk
        dsimp only at f0 f1 HS HQ hcv
        clear hR hcs hfk hval hsome
        simp only [strV] at f1
        generalize hci : (c.toNat : Int) = ci at f0 hcv
        have HCI := Lib.hid hci
        clear hci
        have R3 := Lib.hid (HR2.out.still ((Turns.refl Nothing wr).alloc (.cells #[.int .u8 ci] 5)))
        go_upto_region 10 with fail
        generalize hw3 : wr.alloc (.cells #[.int .u8 ci] 5) = w3 at R3 hcv ⊢
        have hb3 : b < w3.heap.size := by rw [← hw3]; simp [go_sem]; omega
        have f0 : w3.cell? ⟨b, off + k * 2, none⟩ = some (.int .u8 ci) := by rw [← hw3, World.cell?_alloc_lt _ _ _ hbr]; exact f0
        have f1 : w3.cell? ⟨b, off + k * 2 + 1, none⟩ = some (.string ⟨val.toArray⟩) := by rw [← hw3, World.cell?_alloc_lt _ _ _ hbr]; exact f1
        obtain ⟨x0, x1, x2, x3, x4⟩ := box_cells R3.out.box
        obtain ⟨y0, y1, y2, y3, y4, y5⟩ := rrow_cells R3.out.row
        simp only [strV] at y0 y1 y2
        obtain ⟨T2, hT2⟩ : ∃ T2 : ByteArray, T2 = T ++ ⟨#[32, 45]⟩ ++ ⟨#[c]⟩ := ⟨_, rfl⟩
        rw [← hT2]
        have htz2 : (T2.size : Int) ≤ 4200000000043 := by
          rw [hT2, ByteArray.size_append, ByteArray.size_append]
          show ((T.size + 2 + 1 : Nat) : Int) ≤ _
          omega
        have HT2 := Lib.hid (show sl T2 = sl T ++ [32, 45, c] by rw [hT2, sl_append, sl_append]; simp [sl])
        have HCX := Lib.hid (hcalls ci c HCI.out)
        clear hT2 hw3 hcv hbr HR2
        go_cut [8, 9] (fun s8 s9 wx => s8 = .bool (Px.takes r c).isSome ∧ s9 = .bool ((Px.takes r c).getD false) ∧ Turns Nothing w3 wx)
        case first =>
          go_region_with (go_at_call 21; refine (HCX.out _).mono ?_; rintro e w5 ⟨rfl, ht5⟩; have H5 := Lib.hid ht5; clear ht5)
          all_goals
            go_wp2_with fail
            go_meet
            exact ⟨rfl, rfl, by first | exact ((Turns.refl Nothing w3).drewN 1).same H5.out | exact H5.out⟩
        case rest =>
          obtain ⟨rfl, rfl, ht5⟩ := hcut
          have HT5 := Lib.hid ht5
          have R5 := Lib.hid (R3.out.still HT5.out)
          have f1 := (HT5.out.cell (p := ⟨b, _, none⟩) hb3 id).trans f1
          have hb5 : b < wc.heap.size := Nat.lt_of_lt_of_le hb3 HT5.out.size
          obtain ⟨x0, x1, x2, x3, x4⟩ := box_cells R5.out.box
          clear ht5 HT5 R3 HCX f0 hb3 y0 y1 y2 y3 y4 y5
          have HTK := Lib.hid HQ.out.2
          generalize htk : Px.takes r c = tk at HTK
          have HK := Lib.hid htk
          clear htk
          obtain ⟨v, rfl⟩ : ∃ v, tk = some v := by
            cases tk with
            | none => exact absurd HTK.out (by simp)
            | some v => exact ⟨v, rfl⟩
          simp only [Option.isSome, Option.getD]
          cases v with
          | false =>
            have HE := Lib.hid (show Px.oneF r (c, val) = [32, 45, c] by simp [Px.oneF, HK.out])
            go_wp2_with fail
            go_roundw
            case rel => exact ⟨k + 1, T2, by go_num, rfl, hlt, by rw [HS.out, HE.out, HT2.out, HT.out, List.append_assoc], R5.out⟩
            case measure => simp [intOf]; omega
          | true =>
            have HE := Lib.hid (show Px.oneF r (c, val) = [32, 45, c] ++ 32 :: Lx.wquote val by simp [Px.oneF, HK.out])
            go_wp2_with fail
            refine (refQuote_any ⟨val.toArray⟩ (by have := HQ.out.1; exact this)).mono ?_
            rintro e w6 ⟨u, rfl, hu, ht6⟩
            have R6 := Lib.hid (R5.out.still ht6)
            have hus : u.size ≤ 3200002 := by
              have h1 := wquote_len val
              have h2 := HQ.out.1
              rw [← sl_size, hu]
              exact Nat.le_trans h1 (by omega)
            have hus2 : (u.size : Int) ≤ 3200002 := by omega
            have HU := Lib.hid (show sl u = Lx.wquote val from hu)
            clear hu ht6 R5 hus
            go_wp2_with fail
            go_roundw
            case rel => exact ⟨k + 1, _, by go_num, rfl, hlt, by rw [HS.out, HE.out, sl_append, sl_append, HU.out, HT2.out, HT.out]; simp [sl], R6.out⟩
            case measure => simp [intOf]; omega
      · obtain rfl : k = fl.length := by omega
        have hT := HT.out
        rw [List.take_length] at hT
        have HT := Lib.hid hT
        obtain ⟨x0, x1, x2, x3, x4⟩ := box_cells hR.box
        have HR2 := Lib.hid hR
        clear hR hT hcalls
        go_upto_region 13 with fail
        go_cut [82] (fun s82 wx => s82 = .bool (hasDash args) ∧ wx = wr)
        case first =>
          rcases args with _ | ⟨a, l⟩
          · go_wp2_with fail
            go_meet
            exact ⟨rfl, rfl⟩
          · obtain ⟨b, off, rfl, hb, hcs⟩ := HC2.out (by simp)
            have p0 := hcs 0 (by simp)
            have p0 := (HR2.out.turns.cell (p := ⟨b, _, none⟩) hb id).trans p0
            rw [Nat.add_zero] at p0
            simp only [List.getElem_cons_zero, strV] at p0
            have hbr : b < wr.heap.size := Nat.lt_of_lt_of_le hb HR2.out.turns.size
            have hl1 : (0 : Int) < ((a :: l).length : Int) := by simp
            have hl2 : ((a :: l).length : Int) ≤ 1050000 := ha
            clear hcs hb HC HC2
            rcases a with _ | ⟨c, _ | ⟨d, a⟩⟩
            · go_wp2_with fail
              go_meet
              exact ⟨rfl, rfl⟩
            · go_wp2_with fail
              go_meet
              exact ⟨rfl, rfl⟩
            · obtain ⟨tx, htx⟩ : ∃ tx : ByteArray, tx = ⟨(c :: d :: a).toArray⟩ := ⟨_, rfl⟩
              rw [← htx] at p0
              have hs : 1 < tx.size := by rw [htx]; show 1 < (List.toArray _).size; simp
              have hs2 : (1 : Int) < tx.size := by omega
              have hs0 : 0 < tx.size := by omega
              have h0 : tx[0] = c := by subst htx; rfl
              clear htx
              by_cases h45 : c = 45
              · have HE := Lib.hid (show hasDash ((c :: d :: a) :: l) = true by simp [hasDash, h45])
                have h1 : (tx[0].toNat : Int) = 45 := by rw [h0, h45]; rfl
                have h2 : ((tx[0].toNat : Int) == 45) = true := by simpa using h1
                clear h45 h0 h1
                go_wp2_with fail
                go_meet
                exact ⟨show Value.bool true = _ by rw [HE.out], rfl⟩
              · have HE := Lib.hid (show hasDash ((c :: d :: a) :: l) = false by simp [hasDash, h45])
                have h1 : ¬ (tx[0].toNat : Int) = 45 := fun e => h45 (by rw [h0] at e; exact UInt8.toNat_inj.1 (by show c.toNat = 45; omega))
                have h2 : ((tx[0].toNat : Int) == 45) = false := by simpa using h1
                clear h45 h0 h1
                go_wp2_with fail
                go_meet
                exact ⟨show Value.bool false = _ by rw [HE.out], rfl⟩
        case rest =>
          obtain ⟨rfl, rfl⟩ := hcut
          have HD := Lib.hid (dashes_is args)
          have HSA := Lib.hid (flat_succ Px.oneA args)
          have hdd : ∃ D : ByteArray, sl D = sl nm ++ fl.flatMap (Px.oneF r) ++ Px.dashes args ∧ (D.size : Int) ≤ 4200000000043 ∧ D = if hasDash args then T ++ ⟨#[32, 45, 45]⟩ else T := by
            refine ⟨_, ?_, ?_, rfl⟩
            · rw [HD.out]
              split
              · rw [sl_append, HT.out]; rfl
              · rw [HT.out, List.append_nil]
            · split
              · rw [ByteArray.size_append]
                show ((T.size + 3 : Nat) : Int) ≤ _
                omega
              · omega
          obtain ⟨D, hD, hDz, hDD⟩ := hdd
          have HDv := Lib.hid hD
          clear hD HD
          generalize hasDash args = dd at hDD
          cases dd
          all_goals
            simp only [if_true, if_false, Bool.false_eq_true] at hDD
            go_wp2_with fail
            rw [← hDD]
            clear hDD
            go_loopw [10, 6] (fun i s wr => ∃ (k : Nat) (T : ByteArray), i = .int .i64 k ∧ s = .string T ∧ k ≤ args.length ∧ sl T = sl nm ++ fl.flatMap (Px.oneF r) ++ Px.dashes args ++ (args.take k).flatMap Px.oneA ∧ ROneRel w w2.heap.size #[.string nm, .slice A fl.length cp, .slice A2 args.length c2, .int .i64 line] r wr) (fun i _ _ => args.length - (intOf i).toNat)
            case atStart => exact ⟨0, D, rfl, rfl, Nat.zero_le _, by rw [HDv.out]; simp, HR2.out⟩
            case round =>
              obtain ⟨k, T, rfl, rfl, hk, hT, hR⟩ := hrel
              have hTl : (sl T).length ≤ 4200000000043 + k * 4000000 := by
                rw [hT, List.length_append, ← HDv.out, sl_size]
                have h1 := flat_take Px.oneA 4000000 args (fun a ha => oneA_len a (HA.out.2.2 a ha)) k hk
                omega
              have hkk : k ≤ 1050000 := by have := HA.out.2.1; omega
              rw [sl_size] at hTl
              have htz : (T.size : Int) ≤ 8400000000043 := by omega
              have HT := Lib.hid hT
              clear hTl hkk hT
              by_cases hlt : k < args.length
              · obtain ⟨b, off, rfl, hb, hcs⟩ := HC2.out (by omega)
                have p0 := (hR.turns.cell (p := ⟨b, _, none⟩) hb id).trans (hcs k hlt)
                have hbr : b < wr.heap.size := Nat.lt_of_lt_of_le hb hR.turns.size
                obtain ⟨x0, x1, x2, x3, x4⟩ := box_cells hR.box
                have HS := Lib.hid (HSA.out k hlt)
                have hval := Lib.hid (HA.out.2.2 _ (List.getElem_mem hlt))
                have HR3 := Lib.hid hR
                clear hR hcs
                generalize args[k] = a at p0 HS hval
                simp only [strV] at p0
                go_wp2_with fail
                refine (refQuote_any ⟨a.toArray⟩ (by have := hval.out; exact this)).mono ?_
                rintro e w6 ⟨u, rfl, hu, ht6⟩
                have R6 := Lib.hid (HR3.out.still ht6)
                have hus : u.size ≤ 3200002 := by
                  have h1 := wquote_len a
                  have h2 := hval.out
                  rw [← sl_size, show sl u = Lx.wquote a from hu]
                  exact Nat.le_trans h1 (by omega)
                have hus2 : (u.size : Int) ≤ 3200002 := by omega
                have HU := Lib.hid (show sl u = Lx.wquote a from hu)
                clear hu ht6 hus
                go_wp2_with fail
                go_roundw
                case rel => exact ⟨k + 1, _, by go_num, rfl, hlt, by rw [HS.out, sl_append, sl_append, HU.out, HT.out]; simp [sl, Px.oneA], R6.out⟩
                case measure => simp [intOf]; omega
              · obtain rfl : k = args.length := by omega
                have hT := HT.out
                rw [List.take_length] at hT
                have HT := Lib.hid hT
                obtain ⟨x0, x1, x2, x3, x4⟩ := box_cells hR.box
                have HR3 := Lib.hid hR
                clear hR hT
                go_wp2_with fail
                go_ret
                exact ⟨_, rfl, by rw [HT.out]; simp, HR3.out.turns⟩
end Go.Proofs.YtedlhdegdlabhaaGreatDoor
namespace Go.Proofs.YtedlhdegdlabhaaGreatDoor
set_option maxRecDepth 8000
open Go.RowKit
open Lx (Bytes)

namespace Px
def rgp (cs : List Cmd) : Bytes := if rgroup cs ≠ [] then rgroup cs ++ [10] else []
theorem rstep_len (s : Bytes) (c : Cmd) : s.length + (one c).length ≤ (rstep s c).length := by
  unfold rstep
  rw [List.length_append]
  split
  · rw [List.length_append]; omega
  · omega
theorem rfold_len : ∀ (cs : List Cmd) (s : Bytes), s.length ≤ (cs.foldl rstep s).length
  | [], s => Nat.le_refl _
  | c :: cs, s => by
    rw [List.foldl_cons]
    have := rfold_len cs (rstep s c)
    have := rstep_len s c
    omega
theorem rgroup_take (cs : List Cmd) (k : Nat) : (rgroup (cs.take k)).length ≤ (rgroup cs).length := by
  have h := congrArg (fun l => List.foldl rstep [] l) (List.take_append_drop k cs)
  rw [List.foldl_append] at h
  unfold rgroup
  rw [← h]
  exact rfold_len _ _
theorem rgroup_succ (cs : List Cmd) (k : Nat) (h : k < cs.length) : rgroup (cs.take (k + 1)) = rstep (rgroup (cs.take k)) cs[k] := by
  unfold rgroup
  rw [List.take_succ_eq_append_getElem h, List.foldl_append]
  rfl
theorem rgp_len (cs : List Cmd) : (rgroup cs).length ≤ (rgp cs).length := by
  unfold rgp
  split
  · rw [List.length_append]; omega
  · rename_i h
    have h : rgroup cs = [] := by simpa using h
    rw [h]
    exact Nat.le_refl _
end Px
theorem neq_str {u : ByteArray} (h : sl u ≠ []) : (u.toList == ([] : List UInt8)) = false := by
  rw [beq_eq_false_iff_ne, str_list]
  exact h
theorem neq_str2 {u : ByteArray} (h : sl u ≠ []) : (u.toList != ([] : List UInt8)) = true := by rw [bne, neq_str h]; rfl
set_option maxHeartbeats 4000000 in
theorem rprint_in {w : World} {gv : Value} {Z : List (Value × List CQ)} (h : GroupsRd w gv Z) (hf : ∀ z ∈ Z, ∀ q ∈ z.2, OneFit q.1) (hn : Z.length ≤ 1050000 ∧ ∀ z ∈ Z, z.2.length ≤ 1050000) (hz : (Px.print (plainG Z)).length ≤ 100000000000000) :
    Calls Tryz.prog 15 #[gv] w fun e w' => ∃ u : ByteArray, e = .returned (.string u) ∧ sl u = Px.print (plainG Z) ∧ Turns Nothing w w' := by
  have HG := Lib.hid h
  obtain ⟨A, c, rfl, hat⟩ := h.at_
  have HAT := Lib.hid hat
  have HF := Lib.hid (And.intro hf hn)
  have hzl : (Z.length : Int) ≤ 1050000 := by have := hn.1; omega
  have HPR := Lib.hid (show (plainG Z).flatMap Px.rgp = Px.print (plainG Z) from Px.rprint_is (plainG Z))
  have HT := Lib.hid (fun k => Nat.le_trans (take_len Px.rgp (plainG Z) k) (by rw [HPR.out]; exact hz))
  have HPL := Lib.hid (show (plainG Z).length = Z.length by simp [plainG])
  clear h hat hf hn hz
  go_enter Tryz.func15, Tryz.ntmps15
  go_wp2_with fail
  go_loopw [4, 3] (fun i o wr => ∃ (k : Nat) (T : ByteArray), i = .int .i64 k ∧ o = .string T ∧ k ≤ Z.length ∧ sl T = ((plainG Z).take k).flatMap Px.rgp ∧ Turns Nothing w wr) (fun i _ _ => Z.length - (intOf i).toNat)
  case atStart => exact ⟨0, _, rfl, rfl, Nat.zero_le _, by simp [sl], Turns.refl _ _⟩
  case round =>
    obtain ⟨k, T, rfl, rfl, hk, hT, hR⟩ := hrel
    by_cases hlt : k < Z.length
    · obtain ⟨g, off, rfl, hg, hc⟩ := HAT.out (by omega)
      have p0 := (hR.cell (p := ⟨g, _, none⟩) hg id).trans (hc k hlt)
      have hgr : g < wr.heap.size := Nat.lt_of_lt_of_le hg hR.size
      have hrow := (HG.out.still hR).each _ (List.getElem_mem hlt)
      have hZ2 := HF.out.2.2 _ (List.getElem_mem hlt)
      have hfine := HF.out.1 _ (List.getElem_mem hlt)
      have hstep := flat_succ Px.rgp (plainG Z) k (by rw [HPL.out]; exact hlt)
      rw [show (plainG Z)[k]'(by rw [HPL.out]; exact hlt) = Z[k].2.map (·.1) by simp [plainG]] at hstep
      have HST := Lib.hid hstep
      generalize Z[k] = z at p0 hrow hZ2 hfine HST
      obtain ⟨z1, l⟩ := z
      dsimp only at p0 hrow hZ2 hfine HST
      obtain ⟨⟨A2, c2, rfl, hcm⟩, hft⟩ := hrow
      have hts := HT.out (k + 1)
      rw [HST.out, List.length_append, ← hT, sl_size] at hts
      have hgl := Px.rgp_len (l.map (·.1))
      have hTz : (T.size : Int) ≤ 100000000000000 := by omega
      have HTS := Lib.hid hts
      have HGL := Lib.hid hgl
      have HCM := Lib.hid (And.intro hcm hft)
      have HFI := Lib.hid hfine
      have hll : (l.length : Int) ≤ 1050000 := by omega
      have HR := Lib.hid hR
      have HTT := Lib.hid hT
      have HCL := Lib.hid (show (l.map (·.1)).length = l.length from List.length_map _)
      have HGR := Lib.hid hgr
      have HP0 := Lib.hid p0
      clear hR hc hg hcm hft hts hfine hstep hZ2 hT hgl p0 hgr
      generalize hw1 : wr = w1 at *
      clear hw1
      go_wp2_with fail
      go_loopw [6, 5] (fun j s wr => ∃ (n : Nat) (S : ByteArray), j = .int .i64 n ∧ s = .string S ∧ n ≤ l.length ∧ sl S = Px.rgroup ((l.map (·.1)).take n) ∧ Turns Nothing w1 wr) (fun j _ _ => l.length - (intOf j).toNat)
      case atStart => exact ⟨0, _, rfl, rfl, Nat.zero_le _, by simp [sl, Px.rgroup], Turns.refl _ _⟩
      case round =>
        obtain ⟨n, S, rfl, rfl, hn, hS, hO⟩ := hrel
        have hgr : g < wr.heap.size := Nat.lt_of_lt_of_le HGR.out hO.size
        have p0 := (hO.cell (p := ⟨g, _, none⟩) HGR.out id).trans HP0.out
        have hSl := Px.rgroup_take (l.map (·.1)) n
        rw [← hS, sl_size] at hSl
        have hSz : (S.size : Int) ≤ 100000000000000 := by have := HTS.out; have := HGL.out; omega
        have HS := Lib.hid hS
        clear hS hSl
        by_cases hn2 : n < l.length
        · obtain ⟨b, off2, rfl, hb, hcells⟩ := HCM.out.1 (by omega)
          obtain ⟨q0, q1, q2, q3⟩ := hcells n hn2
          obtain ⟨hFl, hTx⟩ := HCM.out.2 _ (List.getElem_mem hn2)
          have hs := Px.rgroup_succ (l.map (·.1)) n (by rw [HCL.out]; exact hn2)
          rw [show (l.map (·.1))[n]'(by rw [HCL.out]; exact hn2) = l[n].1 by simp] at hs
          have hsl := Px.rgroup_take (l.map (·.1)) (n + 1)
          have hfq := HFI.out _ (List.getElem_mem hn2)
          generalize l[n] = q at q0 q1 q2 q3 hFl hTx hs hfq
          obtain ⟨cq, fv, av⟩ := q
          dsimp only at q0 q1 q2 q3 hFl hTx hs hfq
          obtain ⟨fA, fc, rfl, -⟩ := hFl.at_
          obtain ⟨rA, rc, rfl, -⟩ := hTx.at_
          have q0 := (hO.cell (p := ⟨b, _, none⟩) hb id).trans q0
          have q1 := (hO.cell (p := ⟨b, _, none⟩) hb id).trans q1
          have q2 := (hO.cell (p := ⟨b, _, none⟩) hb id).trans q2
          have q3 := (hO.cell (p := ⟨b, _, none⟩) hb id).trans q3
          have hbr : b < wr.heap.size := Nat.lt_of_lt_of_le hb hO.size
          simp only [strV] at q0
          rw [hs] at hsl
          rw [← HS.out] at hs hsl
          have hlen : (Px.rstep (sl S) cq).length ≤ 100000000000000 := by have := HTS.out; have := HGL.out; omega
          have hus : S.size + (Px.one cq).length ≤ 100000000000000 := by
            have := Px.rstep_len (sl S) cq
            rw [sl_size] at this
            omega
          have HSS := Lib.hid hs
          have HO := Lib.hid hO
          have HC1 := Lib.hid (And.intro hFl (And.intro hTx hfq))
          have HLN := Lib.hid (And.intro hlen hus)
          clear hs hO hFl hTx hfq hb hcells hsl hlen hus
          go_wp2_with fail
          refine (rone_in (HC1.out.1.still HO.out) (HC1.out.2.1.still HO.out) HC1.out.2.2.fl HC1.out.2.2.ar).mono ?_
          rintro e w3 ⟨u, rfl, hu, ht⟩
          have hu : sl u = Px.one cq := hu
          have HO3 := Lib.hid (HO.out.same ht)
          have huz : (S.size : Int) + (u.size : Int) ≤ 100000000000000 := by
            have := HLN.out.2
            rw [← hu, sl_size] at this
            omega
          clear ht HO q0 q1 q2 q3
          by_cases hne : sl u = []
          · have hu0 : u = ⟨#[]⟩ := sl_inj (hne.trans rfl)
            subst hu0
            have HE := Lib.hid (show Px.rstep (sl S) cq = sl S by rw [Px.rstep, ← hu]; simp [sl])
            clear hu hne
            go_wp2_with fail
            go_roundw
            case rel => exact ⟨n + 1, _, by go_num, rfl, hn2, by rw [HSS.out, HE.out, sl_append]; simp [sl], HO3.out⟩
            case measure => simp [intOf]; omega
          · have d0 := neq_str hne
            have d1 := neq_str2 hne
            by_cases hs0 : sl S = []
            · have hS0 : S = ⟨#[]⟩ := sl_inj (hs0.trans rfl)
              subst hS0
              have HE := Lib.hid (show Px.rstep [] cq = sl u by rw [Px.rstep, ← hu]; simp)
              clear hu hne hs0
              go_wp2_with fail
              go_roundw
              case rel => exact ⟨n + 1, _, by go_num, rfl, hn2, by rw [HSS.out, sl_append]; exact HE.out.symm ▸ rfl, HO3.out⟩
              case measure => simp [intOf]; omega
            · have d2 := neq_str hs0
              have d3 := neq_str2 hs0
              have HE := Lib.hid (show Px.rstep (sl S) cq = sl S ++ [32, 59, 32] ++ sl u by rw [Px.rstep, ← hu, if_pos ⟨hne, hs0⟩])
              have hall : (S.size : Int) + 3 + (u.size : Int) ≤ 100000000000000 := by
                have := HLN.out.1
                rw [HE.out, List.length_append, List.length_append, sl_size, sl_size] at this
                simp only [List.length_cons, List.length_nil] at this
                omega
              clear hu hne hs0
              go_wp2_with fail
              go_roundw
              case rel => exact ⟨n + 1, _, by go_num, rfl, hn2, by rw [HSS.out, HE.out, sl_append, sl_append]; rfl, HO3.out⟩
              case measure => simp [intOf]; omega
        · obtain rfl : n = l.length := by omega
          have hS := HS.out
          rw [List.take_of_length_le (by rw [HCL.out]; exact Nat.le_refl _)] at hS
          have HO2 := Lib.hid (HR.out.same hO)
          by_cases hs0 : sl S = []
          · have hS0 : S = ⟨#[]⟩ := sl_inj (hs0.trans rfl)
            subst hS0
            have HE := Lib.hid (show Px.rgp (l.map (·.1)) = [] by rw [Px.rgp, if_neg (by rw [← hS, hs0]; simp)])
            clear hS hs0 HS hO
            go_wp2_with fail
            go_roundw
            case rel => exact ⟨k + 1, _, by go_num, rfl, hlt, by rw [HST.out, HE.out, HTT.out, List.append_nil], HO2.out⟩
            case measure => simp [intOf]; omega
          · have d2 := neq_str hs0
            have d3 := neq_str2 hs0
            have HE := Lib.hid (show Px.rgp (l.map (·.1)) = sl S ++ [10] by rw [Px.rgp, if_pos (by rw [← hS]; exact hs0), hS])
            have hall : (T.size : Int) + (S.size : Int) + 1 ≤ 100000000000000 := by
              have := HTS.out
              rw [HE.out, List.length_append, sl_size, List.length_singleton] at this
              omega
            clear hS hs0 HS hO
            go_wp2_with fail
            go_roundw
            case rel => exact ⟨k + 1, _, by go_num, rfl, hlt, by rw [HST.out, HE.out, sl_append, sl_append, HTT.out]; simp [sl], HO2.out⟩
            case measure => simp [intOf]; omega
    · obtain rfl : k = Z.length := by omega
      rw [List.take_of_length_le (by rw [HPL.out]; exact Nat.le_refl _)] at hT
      have HR := Lib.hid hR
      have HTT := Lib.hid hT
      clear hR hT
      go_wp2_with fail
      go_ret
      exact ⟨_, rfl, HTT.out.trans HPR.out, HR.out⟩
end Go.Proofs.YtedlhdegdlabhaaGreatDoor
