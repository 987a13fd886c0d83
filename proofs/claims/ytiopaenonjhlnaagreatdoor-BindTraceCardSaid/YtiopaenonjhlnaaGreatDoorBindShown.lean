/- Package mullionlaw15: shown, walked: chapter 15's examples hold. -/
import Derived.Test.YtiopaenonjhlnaaGreatDoorBindShownP
namespace Go.Proofs.YtiopaenonjhlnaaGreatDoor
set_option maxRecDepth 8000
open Go.RowKit
open Lx (Bytes)
set_option maxHeartbeats 400000000 in
theorem bshown_true {w : World} (hsp : Space w) : Calls Tryz.prog 4 #[] w fun e w' => e = .returned (.bool true) ∧ Turns Nothing w w' := by
  have HSP := Lib.hid hsp
  clear hsp
  go_enter Tryz.func4, Tryz.ntmps4
  go_wp2_with fail
  refine (tnew_in HSP.out).mono ?_
  rintro e w1 ⟨P, M, rfl, hT, -, -, ht⟩
  have HT := Lib.hid (fun W (h : Turns Nothing w1 W) => hT.still h)
  have H1 := Lib.hid ht
  clear hT ht HSP
  go_upto_region 4 with fail
  go_cut [2, 4] (fun s2 s4 wx => s2 = .int .i64 3 ∧ ∃ b, s4 = .pointer (some ⟨b, 0, none⟩) ∧ StAt wx b ⟨#[112, 114, 101, 102, 105, 120]⟩ 0 ∧ Turns Nothing w1 wx)
  case first =>
    go_wp2_with fail
    refine (ctrlB_in _).mono ?_
    rintro e w2 ⟨rfl, ht2⟩
    have H2 := Lib.hid ht2
    clear ht2
    go_wp2_with fail
    refine (ctrlB_in _).mono ?_
    rintro e w3 ⟨rfl, ht3⟩
    have H3 := Lib.hid (H2.out.same ht3)
    clear ht3
    go_wp2_with fail
    refine (press_is (HT.out _ H3.out) ⟨#[]⟩ 0 Bx.cB 0 Bx.cB 500 ok_b (by decide) (by decide) Bx.shown_1.1 (s := ⟨#[112, 114, 101, 102, 105, 120]⟩) (u := 0) Bx.shown_1.2 rfl).mono ?_
    rintro e w4 ⟨t, n, c, m, rp, A, cp, Z, rfl, -, -, ht4⟩
    have H4 := Lib.hid (H3.out.same ht4)
    clear ht4
    go_wp2_with fail
    go_meet
    exact ⟨rfl, _, rfl, blk_new_at (by simp [go_sem]), (H4.out.alloc _).alloc _⟩
  case rest =>
    obtain ⟨rfl, b4, rfl, hb4, hwc⟩ := hcut
    have HB4 := Lib.hid (fun W (h : Turns Nothing wc W) => hb4.still h)
    have HC := Lib.hid hwc
    clear hb4 hwc
    generalize wc = wa at *
    go_upto_region 5 with fail
    go_cut [5, 6, 7] (fun s5 s6 s7 wx => s5 = .int .i64 2 ∧ (∃ b6 b7, s6 = .pointer (some ⟨b6, 0, none⟩) ∧ s7 = .pointer (some ⟨b7, 0, none⟩) ∧ BindAt wx b6 (Bx.press Bx.start prefS 0 ⟨99, 0⟩ 0 Bx.cB 500).2.1.list ∧ StAt wx b7 ⟨#[]⟩ 0) ∧ Turns Nothing wa wx)
    case first =>
      have HS := Lib.hid (fun W (ht : Turns Nothing wa W) => show W.cell? ⟨b4, 0, none⟩ = some (.string ⟨#[112, 114, 101, 102, 105, 120]⟩) ∧ W.cell? ⟨b4, 1, none⟩ = some (.int .i64 0) ∧ Turns Nothing wa W from ⟨(HB4.out W ht).cells.1, (HB4.out W ht).cells.2.1, ht⟩)
      obtain ⟨x0, x1, xt⟩ := HS.out wa.drew ((Turns.refl _ wa).drewN 1)
      go_region_held3 (fun W => W.cell? ⟨b4, 0, none⟩ = some (.string ⟨#[112, 114, 101, 102, 105, 120]⟩) ∧ W.cell? ⟨b4, 1, none⟩ = some (.int .i64 0) ∧ Turns Nothing wa W)
        ((first | (with_reducible exact HS.out _ (T6)) | (with_reducible exact HS.out _ (T5)) | (with_reducible exact HS.out _ ((T6).alloc _)) | (with_reducible exact HS.out _ (((T6).alloc _).alloc _)) | (with_reducible exact HS.out _ (turns_six (T6) (.inr (by omega)) _ _ _ _ _ _)) | (with_reducible exact HS.out _ ((turns_six (T6) (.inr (by omega)) _ _ _ _ _ _).alloc _)) | (with_reducible exact HS.out _ (turns_two (T6) (.inr (by omega)) _ _)) | (with_reducible exact HS.out _ ((turns_two (T6) (.inr (by omega)) _ _).alloc _)) | (with_reducible exact HS.out _ (turns_two (turns_six (T6) (.inr (by omega)) _ _ _ _ _ _) (.inr (by omega)) _ _)) | (with_reducible exact HS.out _ (turns_six (turns_two (T6) (.inr (by omega)) _ _) (.inr (by omega)) _ _ _ _ _ _)) | (with_reducible exact HS.out _ (T5.alloc _)) | (with_reducible exact HS.out _ ((T5.alloc _).alloc _)) | (with_reducible exact HS.out _ (turns_drew ((Turns.refl Nothing wa).alloc _))) | (with_reducible exact HS.out _ (turns_drew (((Turns.refl Nothing wa).alloc _).alloc _))) | go_keep))
        (first
          | (go_at_call 13; refine (ctrlB_in _).mono ?_; rintro e w5 ⟨rfl, ht5⟩; (first | (have T5 : Turns Nothing wa w5 := ((Turns.refl Nothing wa).drewN 1).same ht5) | (have T5 : Turns Nothing wa w5 := (((Turns.refl Nothing wa).alloc oB).drewN 1).same ht5; have zb := Lib.hid (show ZB w5 wa.heap.size from ht5.blk ((Blk.new wa _ zeroC).drewN 1) id); have zbf := zb.out.facts) | (have T5 : Turns Nothing wa w5 := (((Turns.refl Nothing wa).alloc oS).drewN 1).same ht5; have zs := Lib.hid (show ZS w5 wa.heap.size from ht5.blk ((Blk.new wa _ zeroS).drewN 1) id); have zsf := zs.out.facts) | (have T5 : Turns Nothing wa w5 := ((((Turns.refl Nothing wa).alloc oB).alloc oS).drewN 1).same ht5; have zb := Lib.hid (show ZB w5 wa.heap.size from ht5.blk (((Blk.new wa _ zeroC).alloc oS).drewN 1) id); have zs := Lib.hid (show ZS w5 (wa.heap.size + 1) from ht5.blk ((new2 wa oB _ zeroS).drewN 1) id); have zbf := zb.out.facts; have zsf := zs.out.facts) | (have T5 : Turns Nothing wa w5 := ((((Turns.refl Nothing wa).alloc oS).alloc oB).drewN 1).same ht5; have zs := Lib.hid (show ZS w5 wa.heap.size from ht5.blk (((Blk.new wa _ zeroS).alloc oB).drewN 1) id); have zb := Lib.hid (show ZB w5 (wa.heap.size + 1) from ht5.blk ((new2 wa oS _ zeroC).drewN 1) id); have zbf := zb.out.facts; have zsf := zs.out.facts)); have z5 : wa.heap.size ≤ w5.heap.size := T5.size)
          | (go_at_call 12; refine (press_is (HT.out _ (HC.out.same ?_)) ⟨#[112, 114, 101, 102, 105, 120]⟩ 0 ⟨99, 0⟩ 0 Bx.cB 500 ok_c (by decide) (by decide) Bx.shown_2.1 (s := ⟨#[]⟩) (u := 0) Bx.shown_2.2.2 rfl).mono ?_; (first | exact T5 | exact T5.alloc _ | exact (T5.alloc _).alloc _); rintro e w6 ⟨t, n, c, m, rp, A, cp, Z, rfl, hg, hp, ht6⟩; have HPL := Lib.hid hp; clear hp; (first | (have T6 : Turns Nothing wa w6 := T5.same ht6; (try have zb6 := Lib.hid (show ZB w6 _ from ht6.blk zb.out id)); (try have zs6 := Lib.hid (show ZS w6 _ from ht6.blk zs.out id)); obtain ⟨BB, hBB⟩ : ∃ BB, BB = w5.heap.size + 0 := ⟨_, rfl⟩; have HG := Lib.hid (show GAt w6 BB _ _ from hg.weak (by rw [hBB]; simp [go_sem])); have HBB := Lib.hid hBB; clear hBB; (try have zbf6 := zb6.out.facts); (try have zsf6 := zs6.out.facts)) | (have T6 : Turns Nothing wa w6 := (T5.alloc oB).same ht6; have zb6 := Lib.hid (show ZB w6 w5.heap.size from ht6.blk (Blk.new w5 _ zeroC) id); (try have zs6 := Lib.hid (show ZS w6 _ from ht6.blk (zs.out.alloc oB) id)); obtain ⟨BB, hBB⟩ : ∃ BB, BB = w5.heap.size + 1 := ⟨_, rfl⟩; have HG := Lib.hid (show GAt w6 BB _ _ from hg.weak (by rw [hBB]; simp [go_sem])); have HBB := Lib.hid hBB; clear hBB; (try have zbf6 := zb6.out.facts); (try have zsf6 := zs6.out.facts)) | (have T6 : Turns Nothing wa w6 := (T5.alloc oS).same ht6; have zs6 := Lib.hid (show ZS w6 w5.heap.size from ht6.blk (Blk.new w5 _ zeroS) id); (try have zb6 := Lib.hid (show ZB w6 _ from ht6.blk (zb.out.alloc oS) id)); obtain ⟨BB, hBB⟩ : ∃ BB, BB = w5.heap.size + 1 := ⟨_, rfl⟩; have HG := Lib.hid (show GAt w6 BB _ _ from hg.weak (by rw [hBB]; simp [go_sem])); have HBB := Lib.hid hBB; clear hBB; (try have zbf6 := zb6.out.facts); (try have zsf6 := zs6.out.facts)) | (have T6 : Turns Nothing wa w6 := ((T5.alloc oB).alloc oS).same ht6; have zb6 := Lib.hid (show ZB w6 w5.heap.size from ht6.blk ((Blk.new w5 _ zeroC).alloc oS) id); have zs6 := Lib.hid (show ZS w6 (w5.heap.size + 1) from ht6.blk (new2 w5 oB _ zeroS) id); obtain ⟨BB, hBB⟩ : ∃ BB, BB = w5.heap.size + 2 := ⟨_, rfl⟩; have HG := Lib.hid (show GAt w6 BB _ _ from hg.weak (by rw [hBB]; simp [go_sem])); have HBB := Lib.hid hBB; clear hBB; (try have zbf6 := zb6.out.facts); (try have zsf6 := zs6.out.facts)) | (have T6 : Turns Nothing wa w6 := ((T5.alloc oS).alloc oB).same ht6; have zs6 := Lib.hid (show ZS w6 w5.heap.size from ht6.blk ((Blk.new w5 _ zeroS).alloc oB) id); have zb6 := Lib.hid (show ZB w6 (w5.heap.size + 1) from ht6.blk (new2 w5 oS _ zeroC) id); obtain ⟨BB, hBB⟩ : ∃ BB, BB = w5.heap.size + 2 := ⟨_, rfl⟩; have HG := Lib.hid (show GAt w6 BB _ _ from hg.weak (by rw [hBB]; simp [go_sem])); have HBB := Lib.hid hBB; clear hBB; (try have zbf6 := zb6.out.facts); (try have zsf6 := zs6.out.facts))); clear hg; go_split_ands))
      all_goals as_aux_lemma =>
        go_split_ands
        go_wp2_with fail
        go_meet
        refine ⟨rfl, ⟨_, _, rfl, rfl, ⟨t, n, c, m, rp, A, cp, Z, ?_, ?_, HPL.out⟩, ?_⟩, ?_⟩
        · first | ((with_reducible refine blk_new_at ?_); simp [go_sem]; done) | ((with_reducible refine Blk.alloc (blk_new_at ?_) _); simp [go_sem]; done) | (with_reducible exact zb6.out.set_ _ _ _ _ _ _) | (with_reducible exact (zb6.out.set_ _ _ _ _ _ _).alloc _) | (with_reducible exact far_two (zb6.out.set_ _ _ _ _ _ _) (by show _ ≠ _; omega) _ _) | (with_reducible exact (zb6.out.far_ (by show _ ≠ _; omega) _ _).set_ _ _ _ _ _ _)
        · exact HG.out.kept (by first | (with_reducible exact (Turns.refl (Lt BB) w6).alloc _) | (with_reducible exact ((Turns.refl (Lt BB) w6).alloc _).alloc _) | (with_reducible exact turns_six (Turns.refl (Lt BB) w6) (.inl (lt_mk (by have := HBB.out; omega))) _ _ _ _ _ _) | (with_reducible exact (turns_six (Turns.refl (Lt BB) w6) (.inl (lt_mk (by have := HBB.out; omega))) _ _ _ _ _ _).alloc _) | (with_reducible exact turns_two (Turns.refl (Lt BB) w6) (.inl (lt_mk (by have := HBB.out; omega))) _ _) | (with_reducible exact (turns_two (Turns.refl (Lt BB) w6) (.inl (lt_mk (by have := HBB.out; omega))) _ _).alloc _) | (with_reducible exact turns_two (turns_six (Turns.refl (Lt BB) w6) (.inl (lt_mk (by have := HBB.out; omega))) _ _ _ _ _ _) (.inl (lt_mk (by have := HBB.out; omega))) _ _) | (with_reducible exact turns_six (turns_two (Turns.refl (Lt BB) w6) (.inl (lt_mk (by have := HBB.out; omega))) _ _) (.inl (lt_mk (by have := HBB.out; omega))) _ _ _ _ _ _))
        · (show Blk _ _ _ _; first | ((with_reducible refine blk_new_at ?_); simp [go_sem]; done) | ((with_reducible refine Blk.alloc (blk_new_at ?_) _); simp [go_sem]; done) | (with_reducible exact zs6.out.set_ _ _) | (with_reducible exact (zs6.out.set_ _ _).alloc _) | (with_reducible exact far_six (zs6.out.set_ _ _) (by show _ ≠ _; omega) _ _ _ _ _ _) | (with_reducible exact (zs6.out.far_ (by show _ ≠ _; omega) _ _ _ _ _ _).set_ _ _))
        · first | (with_reducible exact (T6).alloc _) | (with_reducible exact ((T6).alloc _).alloc _) | (with_reducible exact turns_six (T6) (.inr (by omega)) _ _ _ _ _ _) | (with_reducible exact (turns_six (T6) (.inr (by omega)) _ _ _ _ _ _).alloc _) | (with_reducible exact turns_two (T6) (.inr (by omega)) _ _) | (with_reducible exact (turns_two (T6) (.inr (by omega)) _ _).alloc _) | (with_reducible exact turns_two (turns_six (T6) (.inr (by omega)) _ _ _ _ _ _) (.inr (by omega)) _ _) | (with_reducible exact turns_six (turns_two (T6) (.inr (by omega)) _ _) (.inr (by omega)) _ _ _ _ _ _)
    case rest =>
      obtain ⟨rfl, ⟨b6, b7, rfl, rfl, hb6, hb7⟩, hwc⟩ := hcut
      have HB6 := Lib.hid (fun W (h : Turns Nothing wc W) => hb6.still h)
      have HB7 := Lib.hid (fun W (h : Turns Nothing wc W) => hb7.still h)
      have HB5 := Lib.hid (fun W (h : Turns Nothing wc W) => HB4.out W (hwc.same h))
      have HC6 := Lib.hid (HC.out.same hwc)
      clear hb6 hb7 hwc HB4 HC
      generalize wc = wb at *
      have HC := HC6
      clear HC6
      go_upto_region 6 with fail
      go_cut [8, 10] (fun s8 s10 wx => s8 = .int .i64 2 ∧ (∃ b10, s10 = .pointer (some ⟨b10, 0, none⟩) ∧ StAt wx b10 ⟨#[112, 114, 101, 102, 105, 120]⟩ 600) ∧ Turns Nothing wb wx)
      case first =>
        go_wp2_with fail
        refine (ctrlB_in _).mono ?_
        rintro e w5 ⟨rfl, ht5⟩
        have H5 := Lib.hid (show Turns Nothing wb w5 from ht5)
        clear ht5
        go_wp2_with fail
        refine (press_is (HT.out _ (HC.out.same H5.out)) ⟨#[112, 114, 101, 102, 105, 120]⟩ 0 Bx.upK 100 Bx.cB 500 ok_u (by decide) (by decide) Bx.shown_3.1 (s := ⟨#[112, 114, 101, 102, 105, 120]⟩) (u := 600) Bx.shown_3.2 rfl).mono ?_
        rintro e w6 ⟨t, n, c, m, rp, A, cp', Z, rfl, -, -, ht6⟩
        have H6 := Lib.hid (H5.out.same ht6)
        clear ht6
        go_wp2_with fail
        go_meet
        exact ⟨rfl, ⟨_, rfl, blk_new_at (by simp [go_sem])⟩, (H6.out.alloc _).alloc _⟩
      case rest =>
        obtain ⟨rfl, ⟨b10, rfl, hb10⟩, hwc⟩ := hcut
        have HX4 := Lib.hid (fun W (h : Turns Nothing wc W) => HB5.out W (hwc.same h))
        have HX6 := Lib.hid (fun W (h : Turns Nothing wc W) => HB6.out W (hwc.same h))
        have HX7 := Lib.hid (fun W (h : Turns Nothing wc W) => HB7.out W (hwc.same h))
        have HX10 := Lib.hid (fun W (h : Turns Nothing wc W) => hb10.still h)
        have HC6 := Lib.hid (HC.out.same hwc)
        clear hb10 hwc HB5 HB6 HB7 HC
        generalize wc = wd at *
        have HC := HC6
        clear HC6
        go_upto_region 7 with fail
        go_cut [11, 13] (fun s11 s13 wx => s11 = .int .i64 1 ∧ (∃ b13, s13 = .pointer (some ⟨b13, 0, none⟩) ∧ StAt wx b13 ⟨#[]⟩ 0) ∧ Turns Nothing wd wx)
        case first =>
          have HS := Lib.hid (fun W (ht : Turns Nothing wd W) => show W.cell? ⟨b10, 0, none⟩ = some (.string ⟨#[112, 114, 101, 102, 105, 120]⟩) ∧ W.cell? ⟨b10, 1, none⟩ = some (.int .i64 600) ∧ Turns Nothing wd W from ⟨(HX10.out W ht).cells.1, (HX10.out W ht).cells.2.1, ht⟩)
          obtain ⟨x0, x1, xt⟩ := HS.out wd.drew ((Turns.refl _ wd).drewN 1)
          go_region_held3 (fun W => W.cell? ⟨b10, 0, none⟩ = some (.string ⟨#[112, 114, 101, 102, 105, 120]⟩) ∧ W.cell? ⟨b10, 1, none⟩ = some (.int .i64 600) ∧ Turns Nothing wd W)
            ((first | (with_reducible exact HS.out _ (T6)) | (with_reducible exact HS.out _ (T5)) | (with_reducible exact HS.out _ ((T6).alloc _)) | (with_reducible exact HS.out _ (((T6).alloc _).alloc _)) | (with_reducible exact HS.out _ (turns_six (T6) (.inr (by omega)) _ _ _ _ _ _)) | (with_reducible exact HS.out _ ((turns_six (T6) (.inr (by omega)) _ _ _ _ _ _).alloc _)) | (with_reducible exact HS.out _ (turns_two (T6) (.inr (by omega)) _ _)) | (with_reducible exact HS.out _ ((turns_two (T6) (.inr (by omega)) _ _).alloc _)) | (with_reducible exact HS.out _ (turns_two (turns_six (T6) (.inr (by omega)) _ _ _ _ _ _) (.inr (by omega)) _ _)) | (with_reducible exact HS.out _ (turns_six (turns_two (T6) (.inr (by omega)) _ _) (.inr (by omega)) _ _ _ _ _ _)) | (with_reducible exact HS.out _ (T5.alloc _)) | (with_reducible exact HS.out _ ((T5.alloc _).alloc _)) | (with_reducible exact HS.out _ (turns_drew ((Turns.refl Nothing wd).alloc _))) | (with_reducible exact HS.out _ (turns_drew (((Turns.refl Nothing wd).alloc _).alloc _))) | go_keep))
            (first
              | (go_at_call 13; refine (ctrlB_in _).mono ?_; rintro e w5 ⟨rfl, ht5⟩; (first | (have T5 : Turns Nothing wd w5 := ((Turns.refl Nothing wd).drewN 1).same ht5) | (have T5 : Turns Nothing wd w5 := (((Turns.refl Nothing wd).alloc oB).drewN 1).same ht5; have zb := Lib.hid (show ZB w5 wd.heap.size from ht5.blk ((Blk.new wd _ zeroC).drewN 1) id); have zbf := zb.out.facts) | (have T5 : Turns Nothing wd w5 := (((Turns.refl Nothing wd).alloc oS).drewN 1).same ht5; have zs := Lib.hid (show ZS w5 wd.heap.size from ht5.blk ((Blk.new wd _ zeroS).drewN 1) id); have zsf := zs.out.facts) | (have T5 : Turns Nothing wd w5 := ((((Turns.refl Nothing wd).alloc oB).alloc oS).drewN 1).same ht5; have zb := Lib.hid (show ZB w5 wd.heap.size from ht5.blk (((Blk.new wd _ zeroC).alloc oS).drewN 1) id); have zs := Lib.hid (show ZS w5 (wd.heap.size + 1) from ht5.blk ((new2 wd oB _ zeroS).drewN 1) id); have zbf := zb.out.facts; have zsf := zs.out.facts) | (have T5 : Turns Nothing wd w5 := ((((Turns.refl Nothing wd).alloc oS).alloc oB).drewN 1).same ht5; have zs := Lib.hid (show ZS w5 wd.heap.size from ht5.blk (((Blk.new wd _ zeroS).alloc oB).drewN 1) id); have zb := Lib.hid (show ZB w5 (wd.heap.size + 1) from ht5.blk ((new2 wd oS _ zeroC).drewN 1) id); have zbf := zb.out.facts; have zsf := zs.out.facts)); have z5 : wd.heap.size ≤ w5.heap.size := T5.size)
              | (go_at_call 12; refine (press_is (HT.out _ (HC.out.same ?_)) ⟨#[112, 114, 101, 102, 105, 120]⟩ 600 Bx.upK 1200 Bx.cB 500 ok_u (by decide) (by decide) Bx.shown_4.1 (s := ⟨#[]⟩) (u := 0) Bx.shown_4.2 rfl).mono ?_; (first | exact T5 | exact T5.alloc _ | exact (T5.alloc _).alloc _); rintro e w6 ⟨t, n, c, m, rp, A, cp, Z, rfl, hg, hp, ht6⟩; have HPL := Lib.hid hp; clear hp; (first | (have T6 : Turns Nothing wd w6 := T5.same ht6; (try have zb6 := Lib.hid (show ZB w6 _ from ht6.blk zb.out id)); (try have zs6 := Lib.hid (show ZS w6 _ from ht6.blk zs.out id)); obtain ⟨BB, hBB⟩ : ∃ BB, BB = w5.heap.size + 0 := ⟨_, rfl⟩; have HG := Lib.hid (show GAt w6 BB _ _ from hg.weak (by rw [hBB]; simp [go_sem])); have HBB := Lib.hid hBB; clear hBB; (try have zbf6 := zb6.out.facts); (try have zsf6 := zs6.out.facts)) | (have T6 : Turns Nothing wd w6 := (T5.alloc oB).same ht6; have zb6 := Lib.hid (show ZB w6 w5.heap.size from ht6.blk (Blk.new w5 _ zeroC) id); (try have zs6 := Lib.hid (show ZS w6 _ from ht6.blk (zs.out.alloc oB) id)); obtain ⟨BB, hBB⟩ : ∃ BB, BB = w5.heap.size + 1 := ⟨_, rfl⟩; have HG := Lib.hid (show GAt w6 BB _ _ from hg.weak (by rw [hBB]; simp [go_sem])); have HBB := Lib.hid hBB; clear hBB; (try have zbf6 := zb6.out.facts); (try have zsf6 := zs6.out.facts)) | (have T6 : Turns Nothing wd w6 := (T5.alloc oS).same ht6; have zs6 := Lib.hid (show ZS w6 w5.heap.size from ht6.blk (Blk.new w5 _ zeroS) id); (try have zb6 := Lib.hid (show ZB w6 _ from ht6.blk (zb.out.alloc oS) id)); obtain ⟨BB, hBB⟩ : ∃ BB, BB = w5.heap.size + 1 := ⟨_, rfl⟩; have HG := Lib.hid (show GAt w6 BB _ _ from hg.weak (by rw [hBB]; simp [go_sem])); have HBB := Lib.hid hBB; clear hBB; (try have zbf6 := zb6.out.facts); (try have zsf6 := zs6.out.facts)) | (have T6 : Turns Nothing wd w6 := ((T5.alloc oB).alloc oS).same ht6; have zb6 := Lib.hid (show ZB w6 w5.heap.size from ht6.blk ((Blk.new w5 _ zeroC).alloc oS) id); have zs6 := Lib.hid (show ZS w6 (w5.heap.size + 1) from ht6.blk (new2 w5 oB _ zeroS) id); obtain ⟨BB, hBB⟩ : ∃ BB, BB = w5.heap.size + 2 := ⟨_, rfl⟩; have HG := Lib.hid (show GAt w6 BB _ _ from hg.weak (by rw [hBB]; simp [go_sem])); have HBB := Lib.hid hBB; clear hBB; (try have zbf6 := zb6.out.facts); (try have zsf6 := zs6.out.facts)) | (have T6 : Turns Nothing wd w6 := ((T5.alloc oS).alloc oB).same ht6; have zs6 := Lib.hid (show ZS w6 w5.heap.size from ht6.blk ((Blk.new w5 _ zeroS).alloc oB) id); have zb6 := Lib.hid (show ZB w6 (w5.heap.size + 1) from ht6.blk (new2 w5 oS _ zeroC) id); obtain ⟨BB, hBB⟩ : ∃ BB, BB = w5.heap.size + 2 := ⟨_, rfl⟩; have HG := Lib.hid (show GAt w6 BB _ _ from hg.weak (by rw [hBB]; simp [go_sem])); have HBB := Lib.hid hBB; clear hBB; (try have zbf6 := zb6.out.facts); (try have zsf6 := zs6.out.facts))); clear hg; go_split_ands))
          all_goals as_aux_lemma =>
            go_split_ands
            go_wp2_with fail
            go_meet
            refine ⟨rfl, ⟨_, rfl, ?_⟩, ?_⟩
            · (show Blk _ _ _ _; first | ((with_reducible refine blk_new_at ?_); simp [go_sem]; done) | ((with_reducible refine Blk.alloc (blk_new_at ?_) _); simp [go_sem]; done) | (with_reducible exact zs6.out.set_ _ _) | (with_reducible exact (zs6.out.set_ _ _).alloc _) | (with_reducible exact far_six (zs6.out.set_ _ _) (by show _ ≠ _; omega) _ _ _ _ _ _) | (with_reducible exact (zs6.out.far_ (by show _ ≠ _; omega) _ _ _ _ _ _).set_ _ _))
            · first | (with_reducible exact (T6).alloc _) | (with_reducible exact ((T6).alloc _).alloc _) | (with_reducible exact turns_six (T6) (.inr (by omega)) _ _ _ _ _ _) | (with_reducible exact (turns_six (T6) (.inr (by omega)) _ _ _ _ _ _).alloc _) | (with_reducible exact turns_two (T6) (.inr (by omega)) _ _) | (with_reducible exact (turns_two (T6) (.inr (by omega)) _ _).alloc _) | (with_reducible exact turns_two (turns_six (T6) (.inr (by omega)) _ _ _ _ _ _) (.inr (by omega)) _ _) | (with_reducible exact turns_six (turns_two (T6) (.inr (by omega)) _ _) (.inr (by omega)) _ _ _ _ _ _)
        case rest =>
          obtain ⟨rfl, ⟨b13, rfl, hb13⟩, hwc⟩ := hcut
          have HY4 := Lib.hid (fun W (h : Turns Nothing wc W) => HX4.out W (hwc.same h))
          have HY6 := Lib.hid (fun W (h : Turns Nothing wc W) => HX6.out W (hwc.same h))
          have HY7 := Lib.hid (fun W (h : Turns Nothing wc W) => HX7.out W (hwc.same h))
          have HY10 := Lib.hid (fun W (h : Turns Nothing wc W) => HX10.out W (hwc.same h))
          have HY13 := Lib.hid (fun W (h : Turns Nothing wc W) => hb13.still h)
          have HC6 := Lib.hid (HC.out.same hwc)
          clear hb13 hwc HX4 HX6 HX7 HX10 HC
          generalize wc = we at *
          have HC := HC6
          clear HC6
          go_upto_region 8 with fail
          go_wp2_with fail
          refine (ctrlB_in _).mono ?_
          rintro e w5 ⟨rfl, ht5⟩
          have H5 := Lib.hid (show Turns Nothing we w5 from ht5)
          clear ht5
          go_wp2_with fail
          refine (press_is (HT.out _ (HC.out.same H5.out)) ⟨#[112, 114, 101, 102, 105, 120]⟩ 0 ⟨121, 0⟩ 0 Bx.cB 500 ok_y (by decide) (by decide) Bx.shown_5 (s := ⟨#[]⟩) (u := 0) Bx.shown_5s rfl).mono ?_
          rintro e w6 ⟨t, n, c, m, rp, A, cp', Z, rfl, -, -, ht6⟩
          have H6 := Lib.hid (H5.out.same ht6)
          clear ht6
          obtain ⟨p0, p1, pf0, pf1, pz⟩ := (HY4.out _ H6.out).cells
          obtain ⟨g, off, cp6, b2, o, c2, q0, q1, q2, qz0, qz1, qz2⟩ := (HY6.out _ H6.out).one Bx.shown_2.2.1
          obtain ⟨r0, r1, rf0, rf1, rz⟩ := (HY7.out _ H6.out).cells
          obtain ⟨s0, s1, sf0, sf1, sz⟩ := (HY10.out _ H6.out).cells
          obtain ⟨v0, v1, vf0, vf1, vz⟩ := (HY13.out _ H6.out).cells
          clear pf0 pf1 rf0 rf1 sf0 sf1 vf0 vf1
          go_wp2_with fail
          go_ret
          exact ⟨rfl, H1.out.same ((HC.out.same H6.out).alloc _ |>.alloc _)⟩
end Go.Proofs.YtiopaenonjhlnaaGreatDoor
