/- The walks of package lex's reader: block. The walks of package lex's reader: end; the state between words. -/
import Derived.Test.YtiopaenonjhlnaaGreatDoorLexText
import Derived.Deep.RegionHeld3
import Derived.Deep.RegionLaw
namespace Go.Proofs.YtiopaenonjhlnaaGreatDoor
set_option maxRecDepth 8000
open Go.RowKit
open Lx (Bytes)

def BlockBad (w : World) (c : Cfg) (tx : Value) (e : Ending) (w' : World) : Prop := e = .panicked (trouble 4 c.wl) ∧ Turns (TS c.R tx) w w'
def BlockPost (w : World) (c : Cfg) (k : Nat) (tx : Value) (t : Bytes) (res : Option Bytes) (e : Ending) (w' : World) : Prop := match res with
  | none => BlockBad w c tx e w'
  | some r' => if Lx.over r' then ∃ u k', e = .returned (.agg #[.string u, .int .i64 c.wl, .bool true]) ∧ sl u = ((sl c.s).drop k).take (((sl c.s).drop k).length - r'.length - 1) ∧ (sl c.s).drop k' = r' ∧ Step w c tx k' t w' tx
    else BlockBad w c tx e w'
theorem T0_bad {w : World} {c : Cfg} {k : Nat} {tx tx1 : Value} {t t1 : Bytes} {k1 : Nat} {w1 w' : World} (h : Ctx w c k tx t) (hs : Step (T0 w) c tx k1 t1 w1 tx1) (hw : Turns (TS c.R tx1) w1 w') : BlockBad w c tx (.panicked (trouble 4 c.wl)) w' :=
  ⟨rfl, ((T0_step h).turns.txs (T0_step h).near (hs.turns.txs hs.near hw))⟩
def bk (d : Nat) (r : Bytes) : Option Bytes := if d = 0 then some r else Lx.blk d r
structure BLoop (w : World) (c : Cfg) (k : Nat) (tx : Value) (t : Bytes) (res : Option Bytes) (g : Nat) (wr : World) (j d : Nat) : Prop where
  meas : c.s.size - j = g
  le : k ≤ j
  few : d + k ≤ j + 1
  pos : d = 0 → k < j
  step : Step (T0 w) c tx j t wr tx
  spec : bk d ((sl c.s).drop j) = res
def oK (d : Nat) (r : Option Bytes) : Option Bytes := match r with
  | none => none
  | some r' => Lx.blk d r'
structure SLoop (w : World) (c : Cfg) (tx : Value) (t : Bytes) (res : Option Bytes) (j d g : Nat) (wr : World) (jj : Nat) : Prop where
  meas : c.s.size - jj = g
  lt : j < jj
  step : Step (T0 w) c tx jj t wr tx
  spec : oK d (Lx.skipS ((sl c.s).drop jj)) = res
structure DLoop (w : World) (c : Cfg) (tx : Value) (t : Bytes) (res : Option Bytes) (j d g : Nat) (wr : World) (y : UInt8) (jj : Nat) : Prop where
  meas : c.s.size + 1 - jj = g
  lt : j < jj
  step : Step (T0 w) c tx jj t wr tx
  spec : oK d (Lx.skipD (y :: (sl c.s).drop jj)) = res
theorem bk_some {d : Nat} (h : 0 < d) (r : Bytes) : bk d r = Lx.blk d r := if_neg (by omega)
theorem bk_down {d : Nat} (h : 0 < d) (r : Bytes) : (if d ≤ 1 then some r else Lx.blk (d - 1) r) = bk (d - 1) r := by
  unfold bk
  by_cases h1 : d ≤ 1
  · rw [if_pos h1, if_pos (by omega)]
  · rw [if_neg h1, if_neg (by omega)]
theorem skipD_cons (b : UInt8) (r : Bytes) : Lx.skipD (b :: r) = if b = 34 then some r else if b = 92 then match r with
    | [] => none
    | _ :: r' => Lx.skipD r'
    else Lx.skipD r := by rw [Lx.skipD.eq_def]; rfl

set_option maxRecDepth 100000 in
set_option maxHeartbeats 8000000 in
theorem block_in {w : World} {c : Cfg} {k : Nat} {tx : Value} {t : Bytes} (h : Ctx w c k tx t) (res : Option Bytes) (hres : Lx.blk 1 ((sl c.s).drop k) = res) :
    Calls Tryz.prog 91 #[.pointer (some ⟨c.R, 0, none⟩)] w (BlockPost w c k tx t res) := by
  have h2 := h.c2
  have hR := h.ltR
  have hsz := h.size
  have hkl := h.le
  have hN := Lib.hid (T0_not h)
  have H := Lib.hid h
  have HS := Lib.hid hres
  clear h hres
  go_enter Tryz.func91, Tryz.ntmps91
  go_wp2_with fail
  go_loopg [4] (c.s.size - k) (fun g s4 wr => ∃ j d : Nat, s4 = .int .i64 d ∧ BLoop w c k tx t res g wr j d)
  case atStart => exact ⟨k, 1, rfl, rfl, Nat.le_refl _, by omega, by omega, Step.refl (T0_step H.out).ctx, HS.out⟩
  case round =>
    clear h2 HS
    obtain ⟨j, d, rfl, hT⟩ := hrel
    have HT := Lib.hid hT
    have hjs := hT.step.ctx.le
    have hfew := hT.few
    have hkj := hT.le
    have hspec := hT.spec
    rcases Nat.eq_zero_or_pos d with h0 | hpos
    · have hpj := Lib.hid (hT.pos h0)
      subst h0
      have hsp2 : some ((sl c.s).drop j) = res := hspec
      have HE := Lib.hid hsp2.symm
      have hov := over_any hT.step.ctx
      clear hT hspec hsp2
      cases ho : Lx.over ((sl c.s).drop j) with
      | true =>
        rw [ho] at hov
        have hov := Lib.hid hov
        have HO := Lib.hid ho
        clear ho
        go_wp2_with fail
        refine hov.out.mono ?_
        rintro e w1 ⟨rfl, n, rfl⟩
        clear hov
        have h1 := Lib.hid (HT.out.step.drewN n)
        have hb1 := Lib.hid (T0_res hN.out h1.out)
        generalize wr.drewN n = w1 at h1 hb1
        have r0 := h1.out.ctx.c0
        have r2 := h1.out.ctx.c2
        have c4 := h1.out.ctx.c4
        have c0 := hb1.out.cell 0
        have c1 := hb1.out.cell 1
        have c2 := hb1.out.cell 2
        have f0 := hb1.out.frozen 0
        have f1 := hb1.out.frozen 1
        have f2 := hb1.out.frozen 2
        simp only [TCells] at c0 c1 c2
        have hne : w.heap.size ≠ c.R := by omega
        have hp := hpj.out
        have ej : IntKind.i64.wrap ((j : Int) - 1) = ((j - 1 : Nat) : Int) := by rw [IntWalk.i64_in _ (by omega)]; omega
        have i1 : (k : Int) ≤ ((j - 1 : Nat) : Int) := by omega
        have i2 : ((j - 1 : Nat) : Int) ≤ c.s.size := by omega
        go_wp2_with fail
        go_region
        all_goals
          go_wp2_with fail
          have hB : c.B ≤ w.heap.size := by have := h1.out.ctx.hB; omega
          have b1 := hb1.out.set_ 0 (.string (c.s.extract k (j - 1)))
          have h1 := (T0_step H.out).trans h1.out
          have s1 := h1.setRes hb1.out hB (Nat.le_refl _) 0 (.string (c.s.extract k (j - 1)))
          have b2 := b1.set_ 1 (.int .i64 c.wl)
          have s2 := s1.setRes b1 hB (Nat.le_refl _) 1 (.int .i64 c.wl)
          have b3 := b2.set_ 2 (.bool true)
          have s3 := s2.setRes b2 hB (Nat.le_refl _) 2 (.bool true)
          have b4 : Blk _ w.heap.size 104 #[.string (c.s.extract k (j - 1)), .int .i64 c.wl, .bool true] := b3
          refine bodyPost_ret (v := .agg #[.string (c.s.extract k (j - 1)), .int .i64 c.wl, .bool true]) ?_ rfl ?_
          · exact (results_cell Tryz.results91 _ _ _ ⟨w.heap.size, 0, none⟩ rfl).trans (load_word _ _ _ _ _ (b4.drewN 1))
          · rw [HE.out]
            unfold BlockPost
            dsimp only
            rw [if_pos HO.out]
            refine ⟨_, j, rfl, ?_, rfl, s3.drewN 1⟩
            rw [List.length_drop, List.length_drop, sl_size]
            rw [show c.s.size - k - (c.s.size - j) - 1 = j - 1 - k from by omega]
            simp [sl, ByteArray.data_extract, List.extract_eq_take_drop]
      | false =>
        rw [ho] at hov
        have hov := Lib.hid hov
        have HO := Lib.hid ho
        clear ho
        go_wp2_with fail
        refine hov.out.mono ?_
        rintro e w1 ⟨rfl, n, rfl⟩
        clear hov
        go_wp2_with fail
        refine (fail_any (HT.out.step.drewN n).ctx 4).mono ?_
        rintro e w2 ⟨rfl, rfl⟩
        refine ⟨rfl, ?_⟩
        rw [HE.out]
        unfold BlockPost
        dsimp only
        rw [HO.out]
        exact T0_bad H.out (HT.out.step.drewN n) (Turns.refl _ _)
    have hpi : (0 : Int) < (d : Int) := by omega
    rw [bk_some hpos] at hspec
    rcases hd : (sl c.s).drop j with _ | ⟨b, r⟩
    · rw [hd, Lx.blk_nil] at hspec
      have HE := Lib.hid hspec.symm
      have HN := Lib.hid (next_none hT.step.ctx hd)
      clear hT hspec hd
      go_wp2_with fail
      refine HN.out.mono ?_
      rintro e w1 ⟨rfl, ht⟩
      exact ⟨rfl, by rw [HE.out]; exact T0_bad H.out HT.out.step ht⟩
    rw [hd, Lx.blk_cons] at hspec
    have HN := Lib.hid (next_some hT.step.ctx hd)
    have hlt := Lib.hid (drop_lt hd)
    have HD := Lib.hid (drop_head hd).2
    clear hT hd
    by_cases h123 : b = 123
    · subst h123
      rw [if_pos rfl] at hspec
      have HQ := Lib.hid hspec
      clear hspec
      go_wp2_with fail
      refine HN.out.mono ?_
      rintro e w1 ⟨rfl, hs⟩
      have h1 := Lib.hid (HT.out.step.trans hs)
      clear hs HN
      go_wp2_with fail
      go_roundg (c.s.size - (j + 1))
      case measure => have := HT.out.meas; have := hlt.out; omega
      case rel => exact ⟨j + 1, d + 1, by go_num, rfl, by omega, by omega, by omega, h1.out, by rw [bk_some (by omega), HD.out]; exact HQ.out⟩
    rw [if_neg h123] at hspec
    by_cases h125 : b = 125
    · subst h125
      rw [if_pos rfl] at hspec
      have HQ := Lib.hid hspec
      clear hspec h123
      go_wp2_with fail
      refine HN.out.mono ?_
      rintro e w1 ⟨rfl, hs⟩
      have h1 := Lib.hid (HT.out.step.trans hs)
      clear hs HN
      go_wp2_with fail
      go_roundg (c.s.size - (j + 1))
      case measure => have := HT.out.meas; have := hlt.out; omega
      case rel => exact ⟨j + 1, d - 1, by rw [show (d : Int) - 1 = ((d - 1 : Nat) : Int) from by omega], rfl, by omega, by omega, by omega, h1.out, by rw [← bk_down hpos, HD.out]; exact HQ.out⟩
    rw [if_neg h125] at hspec
    by_cases h92 : b = 92
    · subst h92
      rw [if_pos rfl] at hspec
      have HQ := Lib.hid hspec
      clear hspec h123 h125
      go_wp2_with fail
      refine HN.out.mono ?_
      rintro e w1 ⟨rfl, hs⟩
      have h1 := Lib.hid (HT.out.step.trans hs)
      clear hs HN
      rcases r with _ | ⟨x, r⟩
      · have HE := Lib.hid (show res = none from HQ.out.symm)
        have HN := Lib.hid (next_none h1.out.ctx HD.out)
        clear HQ
        go_wp2_with fail
        refine HN.out.mono ?_
        rintro e w3 ⟨rfl, ht⟩
        exact ⟨rfl, by rw [HE.out]; exact T0_bad H.out h1.out ht⟩
      have hlt2 := Lib.hid (drop_lt HD.out)
      have HD2 := Lib.hid (drop_head HD.out).2
      go_wp2_with fail
      refine (next_some h1.out.ctx HD.out).mono ?_
      rintro e w2 ⟨rfl, hs⟩
      have h1 := Lib.hid (h1.out.trans hs)
      clear hs
      go_wp2_with fail
      go_roundg (c.s.size - (j + 1 + 1))
      case measure => have := HT.out.meas; have := hlt2.out; omega
      case rel => exact ⟨j + 1 + 1, d, rfl, rfl, by omega, by omega, by omega, h1.out, by rw [bk_some hpos, HD2.out]; exact HQ.out⟩
    rw [if_neg h92] at hspec
    by_cases h39 : b = 39
    · subst h39
      rw [if_pos rfl] at hspec
      have HQ := Lib.hid hspec
      clear hspec h123 h125 h92
      go_wp2_with fail
      refine HN.out.mono ?_
      rintro e w1 ⟨rfl, hs⟩
      have h1 := Lib.hid (HT.out.step.trans hs)
      clear hs HN
      go_wp2_with fail
      go_loopg [30] (c.s.size - (j + 1)) (fun g _ wr => ∃ jj, SLoop w c tx t res j d g wr jj)
      case atStart => exact ⟨j + 1, rfl, by omega, h1.out, by rw [HD.out]; exact HQ.out⟩
      case round =>
        clear HQ h1 HD
        obtain ⟨jj, hI⟩ := hrel
        have HI := Lib.hid hI
        have hsp := hI.spec
        rcases hd : (sl c.s).drop jj with _ | ⟨y, r2⟩
        · rw [hd] at hsp
          have HE := Lib.hid (show res = none from hsp.symm)
          have HN := Lib.hid (next_none hI.step.ctx hd)
          clear hsp hI hd
          go_wp2_with fail
          refine HN.out.mono ?_
          rintro e w3 ⟨rfl, ht⟩
          exact ⟨rfl, by rw [HE.out]; exact T0_bad H.out HI.out.step ht⟩
        have hlt2 := Lib.hid (drop_lt hd)
        have HD2 := Lib.hid (drop_head hd).2
        have HN := Lib.hid (next_some hI.step.ctx hd)
        rw [hd, Lx.skipS] at hsp
        clear hI hd
        by_cases h39 : y = 39
        · subst h39
          rw [if_pos rfl] at hsp
          have HP := Lib.hid hsp
          clear hsp
          go_wp2_with fail
          refine HN.out.mono ?_
          rintro e w3 ⟨rfl, hs⟩
          have h3 := Lib.hid (HI.out.step.trans hs)
          clear hs HN
          go_wp2_with fail
          go_roundg (c.s.size - (jj + 1))
          case measure => have := HT.out.meas; have := hlt2.out; have := HI.out.lt; omega
          case rel => exact ⟨jj + 1, d, rfl, rfl, by have := HI.out.lt; omega, by have := HI.out.lt; omega, by omega, h3.out, by rw [bk_some hpos, HD2.out]; exact HP.out⟩
        have e39 : ((y.toNat : Int) != 39) = true := u8_bne (m := 39) h39
        rw [if_neg h39] at hsp
        have HP := Lib.hid hsp
        clear hsp h39
        go_wp2_with fail
        refine HN.out.mono ?_
        rintro e w3 ⟨rfl, hs⟩
        have h3 := Lib.hid (HI.out.step.trans hs)
        clear hs HN
        go_wp2_with fail
        go_roundg (c.s.size - (jj + 1))
        case measure => have := HI.out.meas; have := hlt2.out; omega
        case rel => exact ⟨jj + 1, rfl, by have := HI.out.lt; omega, h3.out, by rw [HD2.out]; exact HP.out⟩
    rw [if_neg h39] at hspec
    by_cases h34 : b = 34
    · subst h34
      rw [if_pos rfl] at hspec
      have HQ := Lib.hid hspec
      clear hspec h123 h125 h92 h39
      go_wp2_with fail
      refine HN.out.mono ?_
      rintro e w1 ⟨rfl, hs⟩
      have h1 := Lib.hid (HT.out.step.trans hs)
      clear hs HN
      rcases r with _ | ⟨x, r⟩
      · have HE := Lib.hid (show res = none from HQ.out.symm)
        have HN := Lib.hid (next_none h1.out.ctx HD.out)
        clear HQ
        go_wp2_with fail
        refine HN.out.mono ?_
        rintro e w3 ⟨rfl, ht⟩
        exact ⟨rfl, by rw [HE.out]; exact T0_bad H.out h1.out ht⟩
      have hlt2 := Lib.hid (drop_lt HD.out)
      have HD2 := Lib.hid (drop_head HD.out).2
      go_wp2_with fail
      refine (next_some h1.out.ctx HD.out).mono ?_
      rintro e w2 ⟨rfl, hs⟩
      have h2 := Lib.hid (h1.out.trans hs)
      clear hs h1
      go_wp2_with fail
      go_loopg [5] (c.s.size + 1 - (j + 1 + 1)) (fun g s5 wr => ∃ y jj, s5 = .int .u8 (UInt8.toNat y) ∧ DLoop w c tx t res j d g wr y jj)
      case atStart => exact ⟨x, j + 1 + 1, rfl, rfl, by omega, h2.out, by rw [HD2.out]; exact HQ.out⟩
      case round =>
        clear HQ h2 HD HD2 hlt2
        obtain ⟨y, jj, rfl, hI⟩ := hrel
        have HI := Lib.hid hI
        have hsp := hI.spec
        clear hI
        rw [skipD_cons] at hsp
        by_cases h34 : y = 34
        · subst h34
          rw [if_pos rfl] at hsp
          have HP := Lib.hid hsp
          clear hsp
          go_wp2_with fail
          go_roundg (c.s.size - jj)
          case measure => have := HT.out.meas; have := HI.out.lt; have := hlt.out; omega
          case rel => exact ⟨jj, d, rfl, rfl, by have := HI.out.lt; omega, by have := HI.out.lt; omega, by omega, HI.out.step, by rw [bk_some hpos]; exact HP.out⟩
        have e34 : ((y.toNat : Int) != 34) = true := u8_bne (m := 34) h34
        rw [if_neg h34] at hsp
        by_cases h92 : y = 92
        · subst h92
          rw [if_pos rfl] at hsp
          rcases hd : (sl c.s).drop jj with _ | ⟨z, r2⟩
          · rw [hd] at hsp
            have HE := Lib.hid (show res = none from hsp.symm)
            have HN := Lib.hid (next_none HI.out.step.ctx hd)
            clear hsp hd h34
            go_wp2_with fail
            refine HN.out.mono ?_
            rintro e w3 ⟨rfl, ht⟩
            exact ⟨rfl, by rw [HE.out]; exact T0_bad H.out HI.out.step ht⟩
          have hlt2 := Lib.hid (drop_lt hd)
          have HD2 := Lib.hid (drop_head hd).2
          have HN := Lib.hid (next_some HI.out.step.ctx hd)
          rw [hd] at hsp
          have HP := Lib.hid hsp
          clear hsp hd h34
          go_wp2_with fail
          refine HN.out.mono ?_
          rintro e w3 ⟨rfl, hs⟩
          have h3 := Lib.hid (HI.out.step.trans hs)
          clear hs HN
          go_wp2_with fail
          rcases hd : (sl c.s).drop (jj + 1) with _ | ⟨q, r3⟩
          · have hr2 : r2 = [] := HD2.out.symm.trans hd
            have hp := HP.out
            rw [hr2] at hp
            have HE := Lib.hid (show res = none from hp.symm)
            refine (next_none h3.out.ctx hd).mono ?_
            rintro e w4 ⟨rfl, ht⟩
            exact ⟨rfl, by rw [HE.out]; exact T0_bad H.out h3.out ht⟩
          have hlt3 := Lib.hid (drop_lt hd)
          have HD3 := Lib.hid (drop_head hd).2
          have hp := HP.out
          rw [← HD2.out, hd] at hp
          have HP := Lib.hid hp
          refine (next_some h3.out.ctx hd).mono ?_
          rintro e w4 ⟨rfl, hs⟩
          have h4 := Lib.hid (h3.out.trans hs)
          clear hs hd hp
          go_wp2_with fail
          go_roundg (c.s.size + 1 - (jj + 1 + 1))
          case measure => have := HI.out.meas; have := hlt2.out; omega
          case rel => exact ⟨q, jj + 1 + 1, rfl, rfl, by have := HI.out.lt; omega, h4.out, by rw [HD3.out]; exact HP.out⟩
        have e92 : ((y.toNat : Int) == 92) = false := u8_ne (m := 92) h92
        rw [if_neg h92] at hsp
        rcases hd : (sl c.s).drop jj with _ | ⟨z, r2⟩
        · rw [hd] at hsp
          have HE := Lib.hid (show res = none from hsp.symm)
          have HN := Lib.hid (next_none HI.out.step.ctx hd)
          clear hsp hd h34 h92
          go_wp2_with fail
          refine HN.out.mono ?_
          rintro e w3 ⟨rfl, ht⟩
          exact ⟨rfl, by rw [HE.out]; exact T0_bad H.out HI.out.step ht⟩
        have hlt2 := Lib.hid (drop_lt hd)
        have HD2 := Lib.hid (drop_head hd).2
        have HN := Lib.hid (next_some HI.out.step.ctx hd)
        rw [hd] at hsp
        have HP := Lib.hid hsp
        clear hsp hd h34 h92
        go_wp2_with fail
        refine HN.out.mono ?_
        rintro e w3 ⟨rfl, hs⟩
        have h3 := Lib.hid (HI.out.step.trans hs)
        clear hs HN
        go_wp2_with fail
        go_roundg (c.s.size + 1 - (jj + 1))
        case measure => have := HI.out.meas; have := hlt2.out; omega
        case rel => exact ⟨z, jj + 1, rfl, rfl, by have := HI.out.lt; omega, h3.out, by rw [HD2.out]; exact HP.out⟩
    rw [if_neg h34] at hspec
    have e123 : ((b.toNat : Int) == 123) = false := u8_ne (m := 123) h123
    have e125 : ((b.toNat : Int) == 125) = false := u8_ne (m := 125) h125
    have e92 : ((b.toNat : Int) == 92) = false := u8_ne (m := 92) h92
    have e39 : ((b.toNat : Int) == 39) = false := u8_ne (m := 39) h39
    have e34 : ((b.toNat : Int) == 34) = false := u8_ne (m := 34) h34
    have HQ := Lib.hid hspec
    clear hspec h123 h125 h92 h39 h34
    go_wp2_with fail
    refine HN.out.mono ?_
    rintro e w1 ⟨rfl, hs⟩
    have h1 := Lib.hid (HT.out.step.trans hs)
    clear hs HN
    go_wp2_with fail
    go_roundg (c.s.size - (j + 1))
    case measure => have := HT.out.meas; have := hlt.out; omega
    case rel => exact ⟨j + 1, d, rfl, rfl, by omega, by omega, by omega, h1.out, by rw [bk_some hpos, HD.out]; exact HQ.out⟩
theorem block_any {w : World} {c : Cfg} {k : Nat} {tx : Value} {t : Bytes} (h : Ctx w c k tx t) :
    Calls Tryz.prog 91 #[.pointer (some ⟨c.R, 0, none⟩)] w (BlockPost w c k tx t (Lx.blk 1 ((sl c.s).drop k))) := block_in h _ rfl
theorem text_any {w : World} {c : Cfg} {k : Nat} {tx : Value} {t : Bytes} (h : Ctx w c k tx t) :
    Calls Tryz.prog 92 #[.pointer (some ⟨c.R, 0, none⟩)] w (TextPost w c tx (Lx.word (envOf c.es) true t ((sl c.s).drop k))) := text_in h _ rfl
end Go.Proofs.YtiopaenonjhlnaaGreatDoor
namespace Go.Proofs.YtiopaenonjhlnaaGreatDoor
set_option maxRecDepth 8000
open Go.RowKit
open Lx (Bytes)

structure RCfg where
  B : Nat
  W0 : Nat
  R : Nat
  s : ByteArray
  ev : Value
  es : List (ByteArray × ByteArray)

def wordCells (l : List Lx.W) : List Value := l.flatMap fun x => [.string ⟨x.text.toArray⟩, .int .i64 x.line, .bool x.block]
def lineCells : List Value → List Lx.Ln → List Value
  | v :: vs, x :: l => v :: .int .i64 x.2 :: lineCells vs l
  | _, _ => []
theorem lineCells_snoc : ∀ (vs : List Value) (l : List Lx.Ln) (v : Value) (x : Lx.Ln), vs.length = l.length → lineCells (vs ++ [v]) (l ++ [x]) = lineCells vs l ++ [v, .int .i64 x.2]
  | [], [], v, x, _ => rfl
  | u :: vs, y :: l, v, x, h => by
    simp only [List.cons_append, lineCells]
    rw [lineCells_snoc vs l v x (by simpa using h)]
  | [], _ :: _, _, _, h => by cases h
  | _ :: _, [], _, _, h => by cases h
/-- commands that lie in memory from block W0 on -/
structure LinesAt (w : World) (W0 : Nat) (ov : Value) (out : List Lx.Ln) (vs : List Value) : Prop where
  len : vs.length = out.length
  row : w.ownsRow W0 96 2 ov out.length (lineCells vs out)
  words : ∀ i (h : i < vs.length) (h' : i < out.length), w.ownsRow W0 104 3 vs[i] out[i].1.length (wordCells out[i].1)

structure RC (w : World) (c : RCfg) (k : Nat) (wl : Int) (tx nv ov : Value) (now : List Lx.W) (out : List Lx.Ln) (vs : List Value) (g : Nat) : Prop where
  blk : Blk w c.R 133 #[.string c.s, c.ev, .int .i64 k, .int .i64 (lineAt c.s k), .int .i64 wl, tx, ov, nv, .int .i64 g]
  hB : c.B ≤ c.R
  hW : c.R < c.W0
  hw : c.W0 ≤ w.heap.size
  size : c.s.size ≤ 65536
  le : k ≤ c.s.size
  nown : w.ownsRow c.W0 104 3 nv now.length (wordCells now)
  lines : LinesAt w c.W0 ov out vs
  apart : ∀ v ∈ vs, ∀ b, v.ownBlock = some b → nv.ownBlock ≠ some b
  few : now.length ≤ 256
  many : out.length + (if now = [] then 0 else 1) ≤ 1000
  grp : g ≤ k + 1
  env : EnvAt w c.B c.ev c.es

def RS (c : RCfg) : Nat → Prop := fun b => b = c.R ∨ c.W0 ≤ b

section
variable {w w' : World} {c : RCfg} {k : Nat} {wl : Int} {tx nv ov : Value} {now : List Lx.W} {out : List Lx.Ln} {vs : List Value} {g : Nat}
theorem RC.c0 (h : RC w c k wl tx nv ov now out vs g) : w.cell? ⟨c.R, 0, none⟩ = some (.string c.s) := by rw [h.blk.cell]; rfl
theorem RC.c2 (h : RC w c k wl tx nv ov now out vs g) : w.cell? ⟨c.R, 2, none⟩ = some (.int .i64 k) := by rw [h.blk.cell]; rfl
theorem RC.c3 (h : RC w c k wl tx nv ov now out vs g) : w.cell? ⟨c.R, 3, none⟩ = some (.int .i64 (lineAt c.s k)) := by rw [h.blk.cell]; rfl
theorem RC.c4 (h : RC w c k wl tx nv ov now out vs g) : w.cell? ⟨c.R, 4, none⟩ = some (.int .i64 wl) := by rw [h.blk.cell]; rfl
theorem RC.c5 (h : RC w c k wl tx nv ov now out vs g) : w.cell? ⟨c.R, 5, none⟩ = some tx := by rw [h.blk.cell]; rfl
theorem RC.c6 (h : RC w c k wl tx nv ov now out vs g) : w.cell? ⟨c.R, 6, none⟩ = some ov := by rw [h.blk.cell]; rfl
theorem RC.c7 (h : RC w c k wl tx nv ov now out vs g) : w.cell? ⟨c.R, 7, none⟩ = some nv := by rw [h.blk.cell]; rfl
theorem RC.c8 (h : RC w c k wl tx nv ov now out vs g) : w.cell? ⟨c.R, 8, none⟩ = some (.int .i64 g) := by rw [h.blk.cell]; rfl
theorem RC.f (h : RC w c k wl tx nv ov now out vs g) (i : Nat) : w.frozen? ⟨c.R, i, none⟩ = false := h.blk.frozen i
theorem RC.ltR (h : RC w c k wl tx nv ov now out vs g) : c.R < w.heap.size := h.blk.lt
theorem LinesAt.turns {S : Nat → Prop} {W0 : Nat} (h : LinesAt w W0 ov out vs) (ht : Turns S w w') (h1 : ∀ b, ov.ownBlock = some b → ¬ S b) (h2 : ∀ v ∈ vs, ∀ b, v.ownBlock = some b → ¬ S b) : LinesAt w' W0 ov out vs :=
  ⟨h.len, ht.own h.row h1, fun i hi hi' => ht.own (h.words i hi hi') (h2 _ (List.getElem_mem hi))⟩
end
theorem own_ne {w : World} {b1 b2 : Nat} {e1 e2 : TypeId} {s1 s2 n1 n2 : Nat} {v1 v2 : Value} {x1 x2 : List Value} (h1 : w.ownsRow b1 e1 s1 v1 n1 x1) (h2 : w.ownsRow b2 e2 s2 v2 n2 x2) (hne : e1 ≠ e2) :
    ∀ g, v1.ownBlock = some g → v2.ownBlock ≠ some g := by
  intro g hg hg2
  rcases h2.2 with ⟨rfl, _⟩ | ⟨g', cap, cur, rfl, _, hh, _⟩
  · simp [Value.ownBlock] at hg2
  · have : g' = g := by simpa [Value.ownBlock] using hg2
    subst this
    exact own_blk_ne h1 hh hne hg

theorem A.info_line : (Tryz.prog.info? 96).map (fun i => (i.zero, i.size, i.bytes)) = some (some (.agg #[.slice none 0 0, .int .i64 0]), 2, 32) := by kernel_rfl
theorem A.info_word : (Tryz.prog.info? 104).map (fun i => (i.zero, i.size, i.bytes)) = some (some (.agg #[.string ⟨#[]⟩, .int .i64 0, .bool false]), 3, 32) := by kernel_rfl

theorem Src.ofBlock {P : Program} {size : Nat} {tx e' : TypeId} (hk : P.underlying tx = some (.slice e')) {w w' : World} {g : Nat} {t : TypeId} {cs : Array Value} (hb : Blk w g t cs) (n c : Nat) (hl : cs.toList.length = n * size) (h1 : ∀ u ∈ cs.toList, u.oneCell' = true)
    (hw : w'.heap = w.heap := by rfl) : Src P size tx (.slice (some ⟨g, 0, none⟩) n c) n cs.toList w' := by
  refine Src.ofSlice w' hk ⟨g, 0, none⟩ n c cs.toList hl (fun j u hj => ?_) h1
  have hb' : Blk w' g t cs := by unfold Blk; rw [hw]; exact hb
  have ha : (⟨g, 0, none⟩ : Addr).add j = ⟨g, j, none⟩ := by unfold Addr.add; split <;> simp_all
  rw [ha, hb'.cell]
  simpa using hj
/-- what end leaves of the two rows -/
structure EndPost (w : World) (R W0 : Nat) (ov nv : Value) (n : Nat) (xs : List Value) (g : Int) (w' : World) : Prop where
  ex : ∃ ov' w1, w' = (w1.setCell ⟨R, 6, none⟩ ov').setCell ⟨R, 7, none⟩ (.slice none 0 0) ∧ w1.ownsRow W0 96 2 ov' (n + 1) (xs ++ [nv, .int .i64 g]) ∧ Turns (fun b => ov.ownBlock = some b) w w1 ∧ (ov'.ownBlock = ov.ownBlock ∨ ∃ b, ov'.ownBlock = some b ∧ w.heap.size ≤ b)

set_option maxRecDepth 100000 in
set_option maxHeartbeats 2000000 in
theorem end_in {w : World} {R W0 n m : Nat} {ov nv : Value} {Ad : Option Addr} {cp : Nat} {xs : List Value} {g : Int} (hnv : nv = .slice Ad m cp) (hm : 0 < m) (h6 : w.cell? ⟨R, 6, none⟩ = some ov) (h7 : w.cell? ⟨R, 7, none⟩ = some nv) (h8 : w.cell? ⟨R, 8, none⟩ = some (.int .i64 g))
    (f6 : w.frozen? ⟨R, 6, none⟩ = false) (f7 : w.frozen? ⟨R, 7, none⟩ = false) (hn : some R ≠ ov.ownBlock) (hR : R < w.heap.size) (hB : W0 ≤ w.heap.size) (ho : w.ownsRow W0 96 2 ov n xs) (hfew : n ≤ 1000) :
    Calls Tryz.prog 89 #[.pointer (some ⟨R, 0, none⟩)] w fun e w' => e = .returned (.tuple #[]) ∧ EndPost w R W0 ov nv n xs g w' := by
  obtain ⟨i0, hi0, hz0, hz1, hz2⟩ := info_parts A.info_line
  subst hnv
  go_enter Tryz.func89, Tryz.ntmps89
  go_wp2_with fail
  go_region_law ((refine step_append_src _ (by rfl) _ _ _ _ (by rfl) W0 96 i0 _ 2 32 Tryz.underlying84 hi0 hz0 hz1 hz2 (by rfl) ov n xs (by rfl) (by exact (ho.alloc _).drew) _ 1 [.slice Ad m cp, .int .i64 g] (by rfl) (by exact Src.ofBlock Tryz.underlying84 (Blk.new w _ _) 1 1 rfl (by intro u hu; simp at hu; rcases hu with rfl | rfl <;> rfl)) (by simp only [maxLen]; omega) (by omega) (by simp; omega) ?_; intro A1 cp1 w1 ho1 hg1 hat1; have c6 := hg1.cell (a := ⟨R, 6, none⟩) ((World.cell?_of_block (Below.heap_alloc w _ R hR)).trans h6) hn; have g6 := (World.frozen?_of_block (a := ⟨R, 6, none⟩) (hg1.block R (by simp; omega) hn)).trans ((World.frozen?_of_block (Below.heap_alloc w _ R hR)).trans f6); have c7 := hg1.cell (a := ⟨R, 7, none⟩) ((World.cell?_of_block (Below.heap_alloc w _ R hR)).trans h7) hn; have g7 := (World.frozen?_of_block (a := ⟨R, 7, none⟩) (hg1.block R (by simp; omega) hn)).trans ((World.frozen?_of_block (Below.heap_alloc w _ R hR)).trans f7)))
  all_goals
    go_wp2_with fail
    go_end0
    refine ⟨rfl, ⟨_, w1, rfl, ho1, ((((Turns.refl _ w).alloc _).drewN 1).grown hg1 fun b _ e => e), ?_⟩⟩
    rcases hat1 with e | e
    · exact .inl e
    · exact .inr ⟨_, e, by simp⟩

/-- behind end: the command at hand, if it has words, stands with the others -/
theorem end_some {w : World} {c : RCfg} {k : Nat} {wl : Int} {tx nv ov : Value} {now : List Lx.W} {out : List Lx.Ln} {vs : List Value} {g : Nat} (h : RC w c k wl tx nv ov now out vs g) (hne : now ≠ []) :
    Calls Tryz.prog 89 #[.pointer (some ⟨c.R, 0, none⟩)] w fun e w' => e = .returned (.tuple #[]) ∧ ∃ ov', RC w' c k wl tx (.slice none 0 0) ov' [] (out ++ [(now, g)]) (vs ++ [nv]) g ∧ Turns (RS c) w w' := by
  have hpos : 0 < now.length := by cases now with | nil => exact absurd rfl hne | cons => simp
  have hBw : c.W0 ≤ w.heap.size := h.hw
  have hovR : ov.ownBlock ≠ some c.R := own_blk_ne h.lines.row h.blk (by decide)
  have hm := h.many
  rw [if_neg hne] at hm
  obtain ⟨Ad, cp, hnv⟩ := own_slice h.nown
  refine (end_in hnv hpos h.c6 h.c7 h.c8 (h.f 6) (h.f 7) (fun e => hovR e.symm) h.ltR hBw h.lines.row (by omega)).mono ?_
  rintro e w' ⟨rfl, ⟨ov', w1, rfl, ho1, ht, hat⟩⟩
  have hnR : nv.ownBlock ≠ some c.R := own_blk_ne h.nown h.blk (by decide)
  have hovL : ∀ b, ov.ownBlock = some b → c.W0 ≤ b := fun b hb => (h.lines.row.lt b hb).1
  have hbk : Blk w1 c.R 133 #[.string c.s, c.ev, .int .i64 k, .int .i64 (lineAt c.s k), .int .i64 wl, tx, ov, nv, .int .i64 g] := ht.blk h.blk hovR
  have hvR : ∀ v ∈ vs, ∀ b, v.ownBlock = some b → b ≠ c.R := by
    intro v hv b hb e
    subst e
    obtain ⟨i, hi, rfl⟩ := List.getElem_of_mem hv
    exact own_blk_ne (h.lines.words i hi (by rw [← h.lines.len]; exact hi)) h.blk (by decide) hb
  have hT2 : Turns (Only c.R) w1 ((w1.setCell ⟨c.R, 6, none⟩ ov').setCell ⟨c.R, 7, none⟩ (.slice none 0 0)) := ((Turns.refl (Only c.R) w1).setCell (p := ⟨c.R, 6, none⟩) (.inl rfl) ov').setCell (p := ⟨c.R, 7, none⟩) (.inl rfl) _
  have hov' : ∀ b, ov'.ownBlock = some b → b ≠ c.R := by
    intro b hb e; subst e
    exact own_blk_ne ho1 hbk (by decide) hb
  refine ⟨rfl, ov', ⟨?_, h.hB, h.hW, ?_, h.size, h.le, ⟨by simp [wordCells], .inl ⟨rfl, rfl⟩⟩, ⟨by simp [h.lines.len], ?_, ?_⟩, ?_, by simp, by simp; omega, h.grp, ?_⟩, ?_⟩
  · have := (hbk.set_ 6 ov').set_ 7 (.slice none 0 0)
    exact this
  · have := hT2.size; have := ht.size; omega
  · have := hT2.own ho1 hov'
    rw [List.length_append, show (lineCells (vs ++ [nv]) (out ++ [(now, g)])) = lineCells vs out ++ [nv, .int .i64 g] from lineCells_snoc vs out nv (now, g) h.lines.len]
    exact this
  · intro i hi hi'
    rcases Nat.lt_or_ge i vs.length with hl | hl
    · have hl' : i < out.length := by rw [← h.lines.len]; exact hl
      have hr := h.lines.words i hl hl'
      have e1 : (vs ++ [nv])[i] = vs[i] := List.getElem_append_left hl
      have e2 : (out ++ [(now, g)])[i] = out[i] := List.getElem_append_left hl'
      rw [e1, e2]
      refine hT2.own (ht.own hr fun b hb e => own_ne hr h.lines.row (by decide) b hb e) fun b hb e => hvR _ (List.getElem_mem hl) b hb e
    · have hv : i = vs.length := by simp at hi; omega
      subst hv
      have e1 : (vs ++ [nv])[vs.length] = nv := by simp
      have e2 : (out ++ [(now, g)])[vs.length] = (now, g) := by simp [h.lines.len]
      rw [e1, e2]
      exact hT2.own (ht.own h.nown fun b hb e => own_ne h.nown h.lines.row (by decide) b hb e) fun b hb e => hnR (by rw [hb, e])
  · intro v hv b hb; simp [Value.ownBlock]
  · refine h.env.keep fun p hp => (hT2.cell ?_ ?_).trans (ht.cell ?_ ?_)
    · have := ht.size; have := h.hB; have := h.hW; omega
    · intro e; have e2 : p.block = c.R := e; have := h.hB; omega
    · have := h.hB; have := h.hW; omega
    · intro e; have := hovL _ e; have := h.hB; have := h.hW; omega
  · refine (ht.mono fun b _ e => .inr (hovL b e)).trans hT2 fun b _ e => .inl e
end Go.Proofs.YtiopaenonjhlnaaGreatDoor
