/- Package mullionlaw15: BindTrace, walked: it returns true for every key and every two numbers. -/
import Derived.Test.YtiopaenonjhlnaaGreatDoorBindShownP
import Derived.Test.YtiopaenonjhlnaaGreatDoorBindPrint
import Derived.Test.YtiopaenonjhlnaaGreatDoorBindAll
import Derived.Test.YtiopaenonjhlnaaGreatDoorBindTabP
import Derived.Test.YtiopaenonjhlnaaGreatDoorBindTraceA
import Derived.Test.YtiopaenonjhlnaaGreatDoorBindTraceB
import Derived.IntWalk
namespace Go.Proofs.YtiopaenonjhlnaaGreatDoor
set_option maxRecDepth 8000
open Go.RowKit
open Lx (Bytes)
namespace Bx
/-- a binding that Print can write -/
def fitsL (b : Bd) : Bool := nameOk b.table && right b.key && decide (b.note.length ≤ 64) && decide ((Px.print b.list).length ≤ 100000) && decide (b.list.length ≤ 1000) && b.list.all fun g => decide (g.length ≤ 1000) && g.all fun c => decide (c.flags.length ≤ 1000) && c.flags.all (fun f => decide (f.2.length ≤ 1000)) && decide (c.args.length ≤ 1000) && c.args.all (fun a => decide (a.length ≤ 1000)) && decide (c.line = 0)
set_option maxRecDepth 100000 in
theorem start_fits : start.all fitsL = true := by decide +kernel
end Bx
theorem fits_pfit {b : Bx.Bd} (h : Bx.fitsL b = true) : PFit b := by
  simp only [Bx.fitsL, Bool.and_eq_true, decide_eq_true_eq, List.all_eq_true] at h
  obtain ⟨⟨⟨⟨⟨h1, h2⟩, h3⟩, h4⟩, h5⟩, h6⟩ := h
  refine ⟨⟨h1, h2, h3, ⟨by omega, fun g hg => ⟨by have := (h6 g hg).1; omega, fun c hc => ?_⟩⟩, ?_⟩, h4, fun g hg c hc => ?_⟩
  · obtain ⟨⟨⟨⟨g1, g2⟩, g3⟩, g4⟩, g5⟩ := (h6 g hg).2 c hc
    exact ⟨by omega, by omega⟩
  · have e : ∀ g ∈ b.list, g.map Px.strip = g := fun g hg => by
      have e2 : ∀ c ∈ g, Px.strip c = c := fun c hc => by
        have := ((h6 g hg).2 c hc).2
        cases c
        simp only at this
        subst this
        rfl
      rw [List.map_congr_left e2]
      exact List.map_id _
    unfold Px.stripG
    rw [List.map_congr_left e]
    exact List.map_id _
  · obtain ⟨⟨⟨⟨g1, g2⟩, g3⟩, g4⟩, g5⟩ := (h6 g hg).2 c hc
    exact ⟨⟨by omega, fun f hf => by have := g2 f hf; omega⟩, ⟨by omega, fun a ha => by have := g4 a ha; omega⟩⟩
theorem start_pfit : ∀ b ∈ Bx.start, PFit b := fun b hb => fits_pfit (List.all_eq_true.1 Bx.start_fits b hb)
theorem kill_cat : Lx.cat Bx.killT = [107, 105, 108, 108, 45, 115, 101, 114, 118, 101, 114] := by decide +kernel
theorem kill_good : Px.goodT Bx.killT = true := by decide +kernel
theorem kill_small : Lx.Small Bx.killT := small_of (by decide +kernel)
/-- what is printed of the table, in two calls -/
theorem row_len {T : List Bx.Bd} {L : List BG} (h : L.map (·.1) = T) (hT : T.length ≤ 1000) : L.length ≤ 1000 := by
  rw [← h] at hT
  simpa using hT
theorem start_le : Bx.start.length ≤ 1000 := by rw [Bx.start_len]; decide
theorem one_len {Z : List (Value × List CQ)} {L : List (List Px.Cmd)} (h : plainG Z = L) : Z.length = L.length := by
  rw [← h]
  simp [plainG]
theorem FitL.kill {G : List (List Px.Cmd)} (h : Px.stripG G = [[Px.cmdT Bx.killT]]) : FitL G := by
  refine FitL.unstrip ?_
  rw [h]
  have : (Px.cmdT Bx.killT).flags.length ≤ 1000000 ∧ (Px.cmdT Bx.killT).args.length ≤ 1000000 := by decide +kernel
  refine ⟨by simp, fun g hg => ?_⟩
  obtain rfl := List.mem_singleton.1 hg
  refine ⟨by simp, fun c hc => ?_⟩
  obtain rfl := List.mem_singleton.1 hc
  exact this
set_option maxHeartbeats 40000000 in
theorem trace_true (hsh : ∀ w : World, Space w → Calls Tryz.prog 4 #[] w fun e w' => e = .returned (.bool true) ∧ Turns Nothing w w') {w : World} (hsp : Space w) (k : Bx.Ky) (wc : (Lit.int .i64 k.code).wf = true) (wm : (Lit.int .i64 k.mods).wf = true) (n1 n2 : Int) (h1 : -9223372036854775808 ≤ n1 ∧ n1 ≤ 9223372036854775807) (h2 : -9223372036854775808 ≤ n2 ∧ n2 ≤ 9223372036854775807) :
    Calls Tryz.prog 3 #[.agg #[.int .i64 k.code, .int .i64 k.mods], .int .i64 n1, .int .i64 n2] w fun e w' => e = .returned (.bool true) ∧ Turns Nothing w w' := by
  have HN1 := Lib.hid h1
  have HN2 := Lib.hid h2
  have HOK := Lib.hid (fun (st : ByteArray) (hs : st.size ≤ 100) => ok_key (k := k) hs wc wm)
  have HSP := Lib.hid hsp
  clear h1 h2 wc wm hsp
  obtain ⟨kc, km⟩ := k
  have B0 := Lib.hid (Blk.new w 23 #[.int .i64 kc, .int .i64 km])
  have T0 := Lib.hid ((Turns.refl Nothing w).alloc (.cells #[.int .i64 kc, .int .i64 km] 23))
  go_enter Tryz.func3, Tryz.ntmps3
  go_upto_region 1 with fail
  generalize w.alloc (.cells #[.int .i64 kc, .int .i64 km] 23) = w0 at *
  go_wp2_with fail
  refine (hsh _ (HSP.out.still T0.out)).mono ?_
  rintro e w1 ⟨rfl, ht⟩
  have T1 := Lib.hid (T0.out.same ht)
  have B1 := Lib.hid (ht.blk B0.out id)
  clear ht
  go_wp2_with fail
  refine (tnew_in (HSP.out.still T1.out)).mono ?_
  rintro e w2 ⟨P, M, rfl, hT, hP, hM, ht⟩
  have hMk : w.heap.size < M := Nat.lt_of_lt_of_le B1.out.lt hM
  have HW := Lib.hid (fun W (h : Turns (Only M) w2 W) => show Space W ∧ Blk W w.heap.size 23 #[.int .i64 kc, .int .i64 km] ∧ Turns Nothing w W from by
    have h3 : Turns Nothing w W := (T1.out.same ht).trans h fun b hb e => by
      have e : b = M := e
      omega
    exact ⟨HSP.out.still h3, h.blk (ht.blk B1.out id) fun e => by
      have e : w.heap.size = M := e
      omega, h3⟩)
  have HT := Lib.hid (fun W (h : Turns Nothing w2 W) => hT.still h)
  have HM := Lib.hid (fun W (h : Turns Nothing w2 W) => show Turns (Only M) w2 W from h.mono fun _ _ e => e.elim)
  clear hT hP hM ht hMk B0 T0 B1 T1 HSP
  go_upto_region 5 with fail
  go_wp2_with fail
  refine (all_in (HT.out _ (Turns.refl _ _))).mono ?_
  rintro e w3 ⟨Ag, cp, L, rfl, hrow, hL, ht⟩
  have HR := Lib.hid (And.intro hrow hL)
  have T3 := Lib.hid ht
  clear hrow hL ht
  go_wp2_with fail
  refine (tprint_in (HW.out _ (HM.out _ T3.out)).1 HR.out.1 (by rw [HR.out.2]; exact start_pfit) (row_len HR.out.2 start_le)).mono ?_
  rintro e w4 ⟨u0, rfl, hu, ht⟩
  have HU := Lib.hid (show sl u0 = Bx.print Bx.start by rw [← HR.out.2]; exact hu)
  have T4 := Lib.hid (T3.out.same ht)
  clear hu ht HR T3
  go_upto_region 6 with fail
  obtain ⟨k0, k1, kf0, kf1, kz⟩ := two_cells (HW.out _ (HM.out _ T4.out)).2.1
  clear kf0 kf1
  go_wp2_with fail
  refine (tfind_in (HT.out _ T4.out) ⟨#[112, 114, 101, 102, 105, 120]⟩ ⟨kc, km⟩ (HOK.out _ (by decide) _ (.inl rfl))).mono ?_
  rintro e w5 ⟨v, rfl, ⟨gv, Z, rfl, hg, -⟩, ht⟩
  obtain ⟨vA, vC, rfl⟩ := own_slice hg.outer
  obtain ⟨t0, c0, m0, r0, n0, hbd⟩ : ∃ (t0 : ByteArray) (c0 m0 : Int) (r0 : Bool) (n0 : ByteArray), ∀ x, bdV (foundB Bx.start (sl ⟨#[112, 114, 101, 102, 105, 120]⟩) ⟨kc, km⟩) x = .agg #[.string t0, .int .i64 c0, .int .i64 m0, .bool r0, .string n0, x] := ⟨_, _, _, _, _, fun _ => rfl⟩
  rw [hbd]
  have T6 := Lib.hid ((T4.out.same ht).alloc (.cells #[.string t0, .int .i64 c0, .int .i64 m0, .bool r0, .string n0, .slice vA Z.length vC] 34))
  have HTH := Lib.hid (show (Bx.find Bx.start (sl ⟨#[112, 114, 101, 102, 105, 120]⟩) ⟨kc, km⟩).isSome = false → Bx.find Bx.start prefS ⟨kc, km⟩ = none from fun h => Option.not_isSome_iff_eq_none.1 (by rw [show prefS = sl ⟨#[112, 114, 101, 102, 105, 120]⟩ from rfl, h]; simp))
  generalize (Bx.find Bx.start (sl ⟨#[112, 114, 101, 102, 105, 120]⟩) ⟨kc, km⟩).isSome = there at *
  clear hg hbd ht k0 k1 kz T4
  go_upto_region 7 with fail
  generalize w5.alloc (.cells #[.string t0, .int .i64 c0, .int .i64 m0, .bool r0, .string n0, .slice vA Z.length vC] 34) = w6 at *
  go_wp2_with fail
  refine (parse_one (HW.out _ (HM.out _ T6.out)).1 (u := ⟨#[107, 105, 108, 108, 45, 115, 101, 114, 118, 101, 114]⟩) (t := Bx.killT) kill_cat.symm kill_small (by rw [kill_cat]; decide) kill_good).mono ?_
  rintro e w7 ⟨A7, c7, Z7, rfl, hG, hp, ht⟩
  have TA := (Turns.refl Nothing w7).alloc (.cells #[.slice A7 Z7.length c7] 32)
  have B8 := Lib.hid (Blk.new w7 32 #[.slice A7 Z7.length c7])
  have T8 := Lib.hid ((T6.out.same ht).same TA)
  have HG := Lib.hid (And.intro (hG.rd.still TA) hp)
  clear hG hp ht TA T6
  go_upto_region 8 with fail
  generalize w7.alloc (.cells #[.slice A7 Z7.length c7] 32) = w8 at *
  generalize w7.heap.size = b8 at *
  have hb := bind_in (HT.out _ T8.out) (HW.out _ (HM.out _ T8.out)).1 ⟨prefS, ⟨kc, km⟩, true, [], plainG Z7⟩ HG.out.1 rfl (FitL.kill HG.out.2) (HOK.out ⟨#[112, 114, 101, 102, 105, 120]⟩ (by decide) _ (.inl rfl)) (by simp)
  have hE : Bx.bindE Bx.start ⟨prefS, ⟨kc, km⟩, true, [], plainG Z7⟩ = if Bx.right ⟨kc, km⟩ then 0 else 1 := Bx.trace_bindE ⟨kc, km⟩
  have hB : Bx.bareB ⟨prefS, ⟨kc, km⟩, true, [], plainG Z7⟩ = Bx.traceB ⟨kc, km⟩ := by
    simp only [Bx.bareB, HG.out.2]
    rfl
  rw [hE, afterB, hB] at hb
  have HB := Lib.hid hb
  clear hE hB hb
  obtain ⟨k0, k1, kf0, kf1, kz⟩ := two_cells (HW.out _ (HM.out _ T8.out)).2.1
  have l0 := B8.out.cell 0
  have lz := B8.out.lt
  simp at l0
  clear kf0 kf1
  go_wp2_with fail
  refine HB.out.mono ?_
  rintro e w9 ⟨rfl, hT9, ht9⟩
  have H9 := Lib.hid (And.intro hT9 ((HM.out _ T8.out).same ht9))
  clear hT9 ht9 HB HG T8 HT k0 k1 kz l0 lz B8
  cases hr : Bx.right ⟨kc, km⟩
  · rw [hr] at H9
    have HT9 := Lib.hid (show TabAt w9 P M Bx.start from H9.out.1)
    have HW9 := Lib.hid (fun W (h : Turns Nothing w9 W) => HW.out W (H9.out.2.same (h.mono fun _ _ e => e.elim)))
    clear H9 hr HW HM
    simp only [if_neg (show ¬ (false = true) by decide)]
    go_wp2_with fail
    refine (all_in HT9.out).mono ?_
    rintro e w10 ⟨Ag, cp, L, rfl, hrow, hL, ht⟩
    have HR := Lib.hid (And.intro hrow hL)
    have T10 := Lib.hid ht
    clear hrow hL ht
    go_wp2_with fail
    refine (tprint_in (HW9.out _ T10.out).1 HR.out.1 (by rw [HR.out.2]; exact start_pfit) (row_len HR.out.2 start_le)).mono ?_
    rintro e w11 ⟨u1, rfl, hu, ht⟩
    obtain rfl : u1 = u0 := sl_inj (by rw [HU.out, hu, HR.out.2])
    have T11 := Lib.hid (T10.out.same ht)
    clear hu ht
    go_wp2_with fail
    go_ret
    exact ⟨rfl, (HW9.out _ T11.out).2.2⟩
  · rw [hr] at H9
    have HT9 := Lib.hid (fun W (h : Turns Nothing w9 W) => show TabAt W P M (Bx.traceT ⟨kc, km⟩) from TabAt.still (show TabAt w9 P M (Bx.traceT ⟨kc, km⟩) from H9.out.1) h)
    have HW9 := Lib.hid (fun W (h : Turns (Only M) w9 W) => HW.out W (H9.out.2.same h))
    have HM9 := Lib.hid (fun W (h : Turns Nothing w9 W) => show Turns (Only M) w9 W from h.mono fun _ _ e => e.elim)
    clear H9 hr HW HM
    simp only
    go_upto_region 11 with fail
    go_wp2_with fail
    refine (pick_in _ n1 10000 HN1.out (by decide)).mono ?_
    rintro e wp ⟨r1, rfl, hr0, hr1, hw⟩
    have hw := hw.symm
    subst hw
    obtain ⟨rep, hrep⟩ : ∃ rep, rep = 1 + r1 := ⟨_, rfl⟩
    have HRP := Lib.hid (show 1 ≤ rep ∧ rep ≤ 10000 by omega)
    go_upto_region 12 with fail
    rw [← hrep]
    clear hrep hr0 hr1
    go_wp2_with fail
    refine (pick_in _ n2 1000000 HN2.out (by decide)).mono ?_
    rintro e wp2 ⟨now, rfl, hn0, hn1, hw⟩
    have hw := hw.symm
    subst hw
    have HNW := Lib.hid (show 0 ≤ now ∧ now < 1000000 from ⟨hn0, hn1⟩)
    clear hn0 hn1
    have HB0 := Lib.hid (show -10000000 ≤ now ∧ now ≤ 10000000 by have := HNW.out; omega)
    have HB1 := Lib.hid (show -10000000 ≤ now + rep - 1 ∧ now + rep - 1 ≤ 10000000 by have := HNW.out; have := HRP.out; omega)
    have HB2 := Lib.hid (show -10000000 ≤ now + rep ∧ now + rep ≤ 10000000 by have := HNW.out; have := HRP.out; omega)
    have HBR := Lib.hid (show -10000000 ≤ rep ∧ rep ≤ 10000000 by have := HRP.out; omega)
    have L1 := Lib.hid (Bx.trace_1 ⟨kc, km⟩ now rep)
    have L2 := Lib.hid (Bx.trace_2 ⟨kc, km⟩ now rep (by have := HRP.out; omega))
    have L3 := Lib.hid (Bx.trace_3 ⟨kc, km⟩ now rep HNW.out.1 (by have := HRP.out; omega))
    obtain ⟨f, fs, hf, h4⟩ := Bx.trace_4 ⟨kc, km⟩ now rep HNW.out.1 (by have := HRP.out; omega)
    have L4 := Lib.hid (And.intro hf h4)
    clear hf h4
    go_upto_region 13 with fail
    go_cut [16, 18] (fun s16 s18 wx => s16 = .int .i64 3 ∧ (∃ b, s18 = .pointer (some ⟨b, 0, none⟩) ∧ StAt wx b ⟨#[112, 114, 101, 102, 105, 120]⟩ 0 ∧ w9.heap.size ≤ b) ∧ Turns Nothing w9 wx)
    case first =>
      go_wp2_with fail
      refine (ctrlB_in _).mono ?_
      rintro e w2 ⟨rfl, ht2⟩
      have H2 := Lib.hid ht2
      clear ht2
      go_wp2_with fail
      refine (ctrlB_in _).mono ?_
      rintro e w3 ⟨rfl, ht3⟩
      have H3 := Lib.hid (H2.out.same ht3)
      clear ht3
      go_wp2_with fail
      refine (press_is (HT9.out _ H3.out) ⟨#[]⟩ (0) Bx.cB (now) Bx.cB rep ok_b HB0.out HBR.out (congrArg Prod.fst L1.out) (s := ⟨#[112, 114, 101, 102, 105, 120]⟩) (u := 0) (congrArg (fun r => r.2.2) L1.out) (congrArg (fun r => r.2.1.list) L1.out)).mono ?_
      rintro e w4 ⟨t, n, c, m, rp, A, cp, Z, rfl, -, -, ht4⟩
      have H4 := Lib.hid (H3.out.same ht4)
      clear ht4
      go_wp2_with fail
      go_meet
      exact ⟨rfl, ⟨_, rfl, blk_new_at (by simp [go_sem]), by have := H4.out.size; simp [go_sem]; omega⟩, (H4.out.alloc _).alloc _⟩
    case rest =>
      obtain ⟨rfl, ⟨b18, rfl, hb18, hl18⟩, hwc⟩ := hcut
      have HS := Lib.hid (fun W (h : Turns Nothing wc W) => hb18.still h)
      have HL18 := Lib.hid hl18
      have HTT := Lib.hid (fun W (h : Turns Nothing wc W) => HT9.out W (hwc.same h))
      have HK := Lib.hid (fun W (h : Turns Nothing wc W) => (HW9.out W (HM9.out W (hwc.same h))).2.1)
      have HC := Lib.hid hwc
      clear hb18 hwc hl18
      generalize wc = wa at *
      have HS18 := HS
      clear HS
      go_upto_region 14 with fail
      refine reg14 HTT.out HK.out HOK.out HBR.out HS18.out HB0.out L2.out ?_
      rintro s19 s20 y82 y83 y84 y85 y86 y87 y88 y89 y90 y91 y92 wc ⟨rfl, ⟨b20, rfl, hb20⟩, hb18, hwc⟩
      have hb20 : BindAt wc b20 [[Px.cmdT Bx.killT]] := hb20
      have HC2 := Lib.hid (show Turns Nothing w9 wc from HC.out.trans hwc fun x hx e => by have e : x = b18 := e; have := HL18.out; omega)
      clear HC HTT HK hwc HS18
      have HTT := Lib.hid (fun W (h : Turns Nothing wc W) => HT9.out W (HC2.out.same h))
      have HK := Lib.hid (fun W (h : Turns Nothing wc W) => (HW9.out W (HM9.out W (HC2.out.same h))).2.1)
      have HX20 := Lib.hid (fun W (h : Turns Nothing wc W) => hb20.still h)
      have HX18 := Lib.hid (fun W (h : Turns Nothing wc W) => hb18.still h)
      clear hb20 hb18
      generalize wc = wb at *
      have e1 : IntKind.i64.wrap (now + rep) = now + rep := IntWalk.i64_in _ (by have := HNW.out; have := HRP.out; omega)
      have e2 : IntKind.i64.wrap (now + rep - 1) = now + rep - 1 := IntWalk.i64_in _ (by have := HNW.out; have := HRP.out; omega)
      go_upto_region 15 with fail
      refine reg15 HTT.out HK.out HOK.out HBR.out HX18.out HB1.out L3.out e1 e2 ?_
      rintro s21 s22 s23 y93 y94 y95 y96 y97 y98 y99 y100 y101 y102 y103 y104 y105 y106 wc ⟨rfl, ⟨b23, rfl, hb23⟩, hwc⟩
      have HC3 := Lib.hid (HC2.out.same hwc)
      have HY20 := Lib.hid (fun W (h : Turns Nothing wc W) => HX20.out W (hwc.same h))
      have HY18 := Lib.hid (fun W (h : Turns Nothing wc W) => HX18.out W (hwc.same h))
      have HY23 := Lib.hid (fun W (h : Turns Nothing wc W) => hb23.still h)
      clear HC2 HTT HK hwc HX20 HX18 hb23
      have HTT := Lib.hid (fun W (h : Turns Nothing wc W) => HT9.out W (HC3.out.same h))
      have HK := Lib.hid (fun W (h : Turns Nothing wc W) => (HW9.out W (HM9.out W (HC3.out.same h))).2.1)
      generalize wc = wd at *
      go_upto_region 16 with fail
      obtain ⟨fsb, hfs⟩ : ∃ fsb : ByteArray, sl fsb = fs := ⟨⟨fs.toArray⟩, by simp [sl]⟩
      subst hfs
      refine reg16 HTT.out HK.out HOK.out HBR.out HY18.out HB2.out L4.out.2 e1 ?_
      rintro s24 s25 s26 y107 y108 y109 y110 y111 y112 y113 y114 y115 y116 y117 y118 y119 wc ⟨rfl, ⟨b26, rfl, hb26⟩, hwc⟩
      have HC4 := Lib.hid (HC3.out.same hwc)
      obtain ⟨t, n, c, m, rp, A, cp, Z, hb20, -, hp⟩ := HY20.out _ hwc
      have hz : Z.length = 1 := one_len hp
      rw [hz] at hb20
      have c20 := hb20.cell 5
      have z20 := hb20.lt
      simp at c20
      obtain ⟨p0, p1, pf0, pf1, pz⟩ := (HY23.out _ hwc).cells
      obtain ⟨q0, q1, qf0, qf1, qz⟩ := StAt.cells hb26
      obtain ⟨k0, k1, kf0, kf1, kz⟩ := two_cells (HK.out _ hwc)
      have e3 : IntKind.i64.wrap (now + rep - 1 + rep) = now + rep - 1 + rep := IntWalk.i64_in _ (by have := HNW.out; have := HRP.out; omega)
      have hn := HNW.out
      have hr := HRP.out
      obtain ⟨hn0, hn1⟩ := hn
      obtain ⟨hr0, hr1⟩ := hr
      have hf := L4.out.1
      clear hb20 hp hz hwc hb26 HY20 HY18 HY23 HTT HK pf0 pf1 qf0 qf1 kf0 kf1 L1 L2 L3 L4 HC3
      generalize wc = we at *
      have hfd : (Bx.find (Bx.traceT ⟨kc, km⟩) (sl ⟨#[112, 114, 101, 102, 105, 120]⟩) ⟨kc, km⟩).isSome = true := by
        rw [show Bx.find (Bx.traceT ⟨kc, km⟩) (sl ⟨#[112, 114, 101, 102, 105, 120]⟩) ⟨kc, km⟩ = _ from Bx.trace_found ⟨kc, km⟩]
        rfl
      have HUB := unbind_in (HT9.out _ HC4.out) ⟨#[112, 114, 101, 102, 105, 120]⟩ ⟨kc, km⟩ (HOK.out ⟨#[112, 114, 101, 102, 105, 120]⟩ (by decide) _ (.inl rfl))
      rw [hfd, if_pos rfl, if_pos rfl] at HUB
      have HUB := Lib.hid HUB
      clear hfd
      rcases hf with hf | hf
      all_goals
        subst hf
        go_upto_region 19 with fail
        go_wp2_with fail
        refine HUB.out.mono ?_
        rintro e wu ⟨rfl, hTu, htu⟩
        have HU9 := Lib.hid ((HM9.out _ HC4.out).same htu)
        cases there
        · have HTu := Lib.hid (show TabAt wu P M Bx.start by rw [← Bx.trace_drop ⟨kc, km⟩ (HTH.out rfl)]; exact hTu)
          clear hTu htu
          go_wp2_with fail
          refine (all_in HTu.out).mono ?_
          rintro e w10 ⟨Ag, cp, L, rfl, hrow, hL, ht⟩
          have HR := Lib.hid (And.intro hrow hL)
          have T10 := Lib.hid ht
          clear hrow hL ht
          go_wp2_with fail
          refine (tprint_in (HW9.out _ (HU9.out.same (to_only T10.out))).1 HR.out.1 (by rw [HR.out.2]; exact start_pfit) (row_len HR.out.2 start_le)).mono ?_
          rintro e w11 ⟨u1, rfl, hu, ht⟩
          obtain rfl : u1 = u0 := sl_inj (by rw [HU.out, hu, HR.out.2])
          have T11 := Lib.hid (T10.out.same ht)
          clear hu ht
          go_wp2_with fail
          go_ret
          exact ⟨rfl, (HW9.out _ (HU9.out.same (to_only T11.out))).2.2⟩
        · clear hTu htu
          go_wp2_with fail
          go_ret
          exact ⟨rfl, (HW9.out _ HU9.out).2.2⟩
end Go.Proofs.YtiopaenonjhlnaaGreatDoor
