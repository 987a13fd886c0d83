/- The walk of the document's Takes (package mullionref12). The walk of the document's Right (package mullionref12). -/
import Derived.Test.YtedlhdegdlabhaaGreatDoorRefFind
import Derived.Test.YtedlhdegdlabhaaGreatDoorParseOne
namespace Go.Proofs.YtedlhdegdlabhaaGreatDoor
set_option maxRecDepth 8000
open Go.RowKit
open Lx (Bytes)

theorem takesIn_drop {c : UInt8} {l : Bytes} {i : Nat} (h : i < l.length) : Px.takesIn c (l.drop i) = if l[i] = c then some (decide (l[i + 1]? = some 58)) else Px.takesIn c (l.drop (i + 1)) := by
  rw [List.drop_eq_getElem_cons h, Px.takesIn, List.head?_drop]
theorem rrow_cells {w : World} {b : Nat} {v0 v1 v2 v3 v4 : Value} (h : Blk w b 61 #[v0, v1, v2, v3, v4]) :
    w.cell? ⟨b, 0, none⟩ = some v0 ∧ w.cell? ⟨b, 1, none⟩ = some v1 ∧ w.cell? ⟨b, 2, none⟩ = some v2 ∧ w.cell? ⟨b, 3, none⟩ = some v3 ∧ w.cell? ⟨b, 4, none⟩ = some v4 ∧ b < w.heap.size :=
  ⟨h.cell 0, h.cell 1, h.cell 2, h.cell 3, h.cell 4, h.lt⟩
structure RTRel (w wr : World) (v0 v1 v3 v4 : Value) (r : Px.Row) (c : UInt8) (fs : ByteArray) (i : Nat) : Prop where
  le : i ≤ fs.size
  box : Blk wr w.heap.size 61 #[v0, v1, .string fs, v3, v4]
  spec : (if c = 58 then none else Px.takesIn c (r.flags.drop i)) = Px.takes r c
  turns : Turns Nothing w wr
theorem RTRel.next {w wr : World} {v0 v1 v3 v4 : Value} {r : Px.Row} {c : UInt8} {fs : ByteArray} {i : Nat} (h : RTRel w wr v0 v1 v3 v4 r c fs i) (hi : i < fs.size) (hs : (if c = 58 then none else Px.takesIn c (r.flags.drop (i + 1))) = Px.takes r c) : RTRel w wr v0 v1 v3 v4 r c fs (i + 1) :=
  ⟨hi, h.box, hs, h.turns⟩
set_option maxHeartbeats 2000000 in
theorem rtakes_in (w : World) (r : Px.Row) (c : UInt8) (hl : r.flags.length ≤ 1000) : Calls Tryz.prog 21 #[rowV r, .int .u8 c.toNat] w fun e w' =>
    e = .returned (.tuple #[.bool (Px.takes r c).isSome, .bool ((Px.takes r c).getD false)]) ∧ Turns Nothing w w' := by
  have HC := Lib.hid (show (if c = 58 then none else Px.takesIn c (r.flags.drop 0)) = Px.takes r c from rfl)
  obtain ⟨fs, hfs⟩ : ∃ fs : ByteArray, fs = ⟨r.flags.toArray⟩ := ⟨_, rfl⟩
  simp only [rowV, strV]
  rw [← hfs]
  have hfz : fs.size = r.flags.length := by rw [hfs]; rfl
  have hfx : ∀ i (h : i < fs.size), ∃ h' : i < r.flags.length, fs[i] = r.flags[i] := fun i h => by subst hfs; exact ⟨by rw [← hfz]; exact h, rfl⟩
  have HFX := Lib.hid hfx
  have HFZ := Lib.hid hfz
  have hf20 : (fs.size : Int) ≤ 1000 := by omega
  clear hfs hfx hfz
  obtain ⟨nm, hnm⟩ : ∃ nm : ByteArray, nm = ⟨r.name.toArray⟩ := ⟨_, rfl⟩
  obtain ⟨ot, hot⟩ : ∃ ot : ByteArray, ot = ⟨r.others.toArray⟩ := ⟨_, rfl⟩
  rw [← hnm, ← hot]
  clear hnm hot
  have H0 := Lib.hid (show RTRel w (w.alloc (.cells #[.string nm, .string ot, .string fs, .int .i64 r.few, .int .i64 r.most] 61)) (.string nm) (.string ot) (.int .i64 r.few) (.int .i64 r.most) r c fs 0 from ⟨Nat.zero_le _, Blk.new _ _ _, HC.out, (Turns.refl _ w).alloc _⟩)
  clear HC
  go_enter Tryz.func21, Tryz.ntmps21
  go_wp2_with fail
  go_loopw [6] (fun iv wr => ∃ i : Nat, iv = .int .i64 i ∧ RTRel w wr (.string nm) (.string ot) (.int .i64 r.few) (.int .i64 r.most) r c fs i) (fun iv _ => fs.size - (intOf iv).toNat)
  case atStart => exact ⟨0, rfl, H0.out⟩
  case round =>
    obtain ⟨i, rfl, hR⟩ := hrel
    obtain ⟨y0, y1, y2, y3, y4, y5⟩ := rrow_cells hR.box
    have hi := hR.le
    have HR := Lib.hid hR
    clear hR H0
    by_cases hlt : i < fs.size
    · obtain ⟨hlf, hx⟩ := HFX.out i hlt
      have hstep := takesIn_drop (c := c) hlf
      rw [← hx] at hstep
      have HST := Lib.hid hstep
      clear hstep hx hlf
      by_cases hxc : fs[i] = c
      · have e1 : ((fs[i].toNat : Int) == (c.toNat : Int)) = true := by rw [hxc]; simp
        by_cases h58 : c = 58
        · have e2 : ((c.toNat : Int) == 58) = true := by rw [h58]; rfl
          have e3 : ((c.toNat : Int) != 58) = false := by rw [h58]; rfl
          have e4 : (c.toNat : Int) = 58 := by rw [h58]; rfl
          have HN := Lib.hid (HR.out.next hlt (by rw [← HR.out.spec, if_pos h58, if_pos h58]))
          clear h58 HST HR
          go_wp2_with fail
          go_roundw
          case rel => exact ⟨i + 1, by go_num, HN.out⟩
          case measure => simp [intOf]; omega
        · have e4 : ¬ (c.toNat : Int) = 58 := fun e => h58 (UInt8.toNat_inj.1 (by show c.toNat = 58; omega))
          have e2 : ((c.toNat : Int) == 58) = false := by simpa using e4
          have e3 : ((c.toNat : Int) != 58) = true := by simpa using e4
          have HN := Lib.hid (show Px.takes r c = some (decide (r.flags[i + 1]? = some 58)) by rw [← HR.out.spec, if_neg h58, HST.out, if_pos hxc])
          have HT := Lib.hid HR.out.turns
          clear h58 HST HR hxc
          by_cases hlt2 : i + 1 < fs.size
          · obtain ⟨hlf2, hx2⟩ := HFX.out (i + 1) hlt2
            have hb1 : (0 : Int) ≤ (i : Int) + 1 := by omega
            have hb2 : (i : Int) + 1 < (fs.size : Int) := by omega
            have HX2 := Lib.hid (show r.flags[i + 1]? = some fs[i + 1] by rw [List.getElem?_eq_getElem hlf2, hx2])
            clear hlf2 hx2
            by_cases hv : fs[i + 1] = 58
            · have e5 : ((fs[i + 1].toNat : Int) == 58) = true := by rw [hv]; rfl
              have HE := Lib.hid (show decide (r.flags[i + 1]? = some 58) = true by rw [HX2.out, hv]; rfl)
              clear hv
              go_upto_region 5 with fail
              go_quiet (fail)
              go_wp2_with fail
              refine bodyPost_ret (results_tmp2 rfl _ _ _) rfl ?_
              exact ⟨by rw [HN.out, HE.out]; rfl, HT.out.drewN _⟩
            · have e6 : ¬ (fs[i + 1].toNat : Int) = 58 := fun e => hv (UInt8.toNat_inj.1 (by show fs[i + 1].toNat = 58; omega))
              have e5 : ((fs[i + 1].toNat : Int) == 58) = false := by simpa using e6
              have HE := Lib.hid (show decide (r.flags[i + 1]? = some 58) = false by rw [HX2.out]; simpa using hv)
              clear hv
              go_upto_region 5 with fail
              go_quiet (fail)
              go_wp2_with fail
              refine bodyPost_ret (results_tmp2 rfl _ _ _) rfl ?_
              exact ⟨by rw [HN.out, HE.out]; rfl, HT.out.drewN _⟩
          · have d1 : decide ((i : Int) + 1 < (fs.size : Int)) = false := decide_eq_false (by omega)
            have HE := Lib.hid (show decide (r.flags[i + 1]? = some 58) = false by rw [List.getElem?_eq_none (by have := HFZ.out; omega)]; rfl)
            go_upto_region 5 with fail
            go_quiet (fail)
            go_wp2_with fail
            refine bodyPost_ret (results_tmp2 rfl _ _ _) rfl ?_
            exact ⟨by rw [HN.out, HE.out]; rfl, HT.out.drewN _⟩
      · have e4 : ¬ (fs[i].toNat : Int) = (c.toNat : Int) := fun e => hxc (UInt8.toNat_inj.1 (by omega))
        have e1 : ((fs[i].toNat : Int) == (c.toNat : Int)) = false := by simpa using e4
        have HN := Lib.hid (HR.out.next hlt (by rw [← HR.out.spec, HST.out, if_neg hxc]))
        clear hxc HST HR
        go_wp2_with fail
        go_roundw
        case rel => exact ⟨i + 1, by go_num, HN.out⟩
        case measure => simp [intOf]; omega
    · have HN := Lib.hid (show Px.takes r c = none by
        rw [← HR.out.spec, List.drop_eq_nil_of_le (by have := HFZ.out; omega)]
        simp [Px.takesIn])
      go_wp2_with fail
      refine bodyPost_ret (results_tmp2 rfl _ _ _) rfl ?_
      exact ⟨by rw [HN.out]; rfl, HR.out.turns⟩
end Go.Proofs.YtedlhdegdlabhaaGreatDoor
namespace Go.Proofs.YtedlhdegdlabhaaGreatDoor
set_option maxRecDepth 8000
open Go.RowKit
open Lx (Bytes)

/-- at each round of Right -/
structure RRightRel (w wr : World) (K : Nat) (nm : ByteArray) (fv av : Value) (line : Int) (r : Px.Row) (fl : List Px.Fl) (k : Nat) : Prop where
  le : k ≤ fl.length
  box : Blk wr w.heap.size 27 #[.string nm, fv, av, .int .i64 line]
  row : Blk wr K 61 (rowCs r)
  spec : Px.flagsOk r (Px.prev fl k) (fl.drop k) = Px.flagsOk r none fl
  turns : Turns Nothing w wr
theorem RRightRel.still {w wr w' : World} {K : Nat} {nm : ByteArray} {fv av : Value} {line : Int} {r : Px.Row} {fl : List Px.Fl} {k : Nat} (h : RRightRel w wr K nm fv av line r fl k) (ht : Turns Nothing wr w') : RRightRel w w' K nm fv av line r fl k :=
  ⟨h.le, ht.blk h.box id, ht.blk h.row id, h.spec, h.turns.same ht⟩
theorem RRightRel.next {w wr w' : World} {K : Nat} {nm : ByteArray} {fv av : Value} {line : Int} {r : Px.Row} {fl : List Px.Fl} {k : Nat} (h : RRightRel w wr K nm fv av line r fl k) (hk : k < fl.length) (hf : Px.flagOk r (Px.prev fl k) fl[k] = true) (ht : Turns Nothing wr w') : RRightRel w w' K nm fv av line r fl (k + 1) := by
  have h' := h.still ht
  refine ⟨hk, h'.box, h'.row, ?_, h'.turns⟩
  rw [← h.spec, Px.flagsOk_step r fl k hk, hf, Bool.true_and]
theorem RRightRel.bad {w wr : World} {K : Nat} {nm : ByteArray} {fv av : Value} {line : Int} {r : Px.Row} {fl : List Px.Fl} {k : Nat} (h : RRightRel w wr K nm fv av line r fl k) (hk : k < fl.length) (hf : Px.flagOk r (Px.prev fl k) fl[k] = false) : Px.flagsOk r none fl = false := by
  rw [← h.spec, Px.flagsOk_step r fl k hk, hf, Bool.false_and]
theorem RRightRel.done {w wr : World} {K : Nat} {nm : ByteArray} {fv av : Value} {line : Int} {r : Px.Row} {fl : List Px.Fl} {k : Nat} (h : RRightRel w wr K nm fv av line r fl k) (hk : ¬ k < fl.length) : Px.flagsOk r none fl = true := by
  rw [← h.spec]
  exact Px.flagsOk_done r fl k (by omega) _
set_option maxHeartbeats 2000000 in
theorem rright_in {w : World} {nm : ByteArray} {fv av : Value} {line : Int} {fl : List Px.Fl} {args : List Bytes} (hf : FlagsAt w fv fl) (hav : ∃ A c, av = .slice A args.length c) (hal : args.length ≤ 1050000) :
    Calls Tryz.prog 31 #[.agg #[.string nm, fv, av, .int .i64 line]] w fun e w' => e = .returned (.bool (Px.right ⟨sl nm, fl, args, line⟩)) ∧ Turns Nothing w w' := by
  obtain ⟨A2, c2, rfl⟩ := hav
  obtain ⟨⟨A, cp, rfl, hc⟩, hff⟩ := hf
  have HC := Lib.hid hc
  clear hc
  have HB := Lib.hid (Blk.new w 27 #[.string nm, .slice A fl.length cp, .slice A2 args.length c2, .int .i64 line])
  have ha : (args.length : Int) ≤ 1050000 := by omega
  have HRD := Lib.hid (show Px.right ⟨sl nm, fl, args, line⟩ = (match Px.whole (sl nm) with
    | none => false
    | some r => Px.fits r args.length && Px.flagsOk r none fl) from rfl)
  rw [HRD.out]
  have HW := Lib.hid (rwhole_in (w.alloc (.cells #[.string nm, .slice A fl.length cp, .slice A2 args.length c2, .int .i64 line] 27)) nm)
  have HM := Lib.hid (fun r (h : Px.whole (sl nm) = some r) => And.intro (Px.table_flags r (Px.whole_mem h).1) (Px.table_nums r (Px.whole_mem h).1))
  clear HRD
  generalize hq : Px.whole (sl nm) = q at HW HM ⊢
  clear hq
  go_enter Tryz.func31, Tryz.ntmps31
  go_wp2_with fail
  refine HW.out.mono ?_
  rintro e w1 ⟨rfl, ht1⟩
  obtain ⟨x0, x1, x2, x3, x4⟩ := box_cells (ht1.blk HB.out id)
  have T1 := Lib.hid (And.intro (((Turns.refl Nothing w).alloc (.cells #[.string nm, .slice A fl.length cp, .slice A2 args.length c2, .int .i64 line] 27)).same ht1) (ht1.blk HB.out id))
  clear ht1 HW
  cases q with
  | none =>
    simp only [rowV, strV, rowOr, Option.getD, Option.isSome, zeroRow]
    go_wp2_with fail
    go_ret
    exact ⟨rfl, T1.out.1.alloc _⟩
  | some r =>
    obtain ⟨⟨hfl, -, -⟩, hn1, hn2, hn3, hn4⟩ := HM.out r rfl
    have R0 : RRightRel w (w1.alloc (.cells (rowCs r) 61)) w1.heap.size nm (.slice A fl.length cp) (.slice A2 args.length c2) line r fl 0 :=
      ⟨Nat.zero_le _, T1.out.2.alloc _, Blk.new w1 _ _, rfl, T1.out.1.alloc _⟩
    simp only [rowOr, Option.getD, Option.isSome, rowV, rowCs, strV] at R0 ⊢
    have R1 := Lib.hid R0
    clear R0
    go_upto_region 2 with fail
    have hr : ∀ b : Bool, (Px.fits r args.length && b) = (if (args.length : Int) < r.few then false else if 0 ≤ r.most ∧ r.most < args.length then false else b) := by
      intro b
      unfold Px.fits
      by_cases h1 : (args.length : Int) < r.few
      · rw [if_pos h1, decide_eq_false (by omega)]; simp
      · rw [if_neg h1, decide_eq_true (by omega)]
        by_cases h2 : 0 ≤ r.most ∧ r.most < args.length
        · rw [if_pos h2, decide_eq_false (by omega), decide_eq_false (by omega)]; simp
        · rw [if_neg h2]
          by_cases h3 : r.most < 0
          · rw [decide_eq_true h3]; simp
          · rw [decide_eq_true (show (args.length : Int) ≤ r.most by omega)]; simp
    have HR := Lib.hid hr
    clear hr
    obtain ⟨y0, y1, y2, y3, y4, y5⟩ := rrow_cells R1.out.row
    simp only [strV] at y0 y1 y2
    by_cases hfew : (args.length : Int) < r.few
    · have d1 : decide ((args.length : Int) < r.few) = true := decide_eq_true hfew
      have HE := Lib.hid (show ∀ b : Bool, (Px.fits r args.length && b) = false from fun b => by rw [HR.out, if_pos hfew])
      clear HR
      go_wp2_with fail
      go_ret
      exact ⟨show Ending.returned (.bool false) = .returned (.bool (Px.fits r args.length && Px.flagsOk r none fl)) by rw [HE.out], R1.out.turns⟩
    · have d1 : decide ((args.length : Int) < r.few) = false := decide_eq_false hfew
      by_cases hbad : 0 ≤ r.most ∧ r.most < args.length
      · obtain ⟨hm, hm2⟩ := hbad
        have d2 : decide (0 ≤ r.most) = true := decide_eq_true hm
        have d3 : decide (r.most < (args.length : Int)) = true := decide_eq_true hm2
        have HE := Lib.hid (show ∀ b : Bool, (Px.fits r args.length && b) = false from fun b => by rw [HR.out, if_neg hfew, if_pos ⟨hm, hm2⟩])
        clear HR
        go_wp2_with fail
        go_ret
        exact ⟨show Ending.returned (.bool false) = .returned (.bool (Px.fits r args.length && Px.flagsOk r none fl)) by rw [HE.out], R1.out.turns⟩
      · have HE := Lib.hid (show ∀ b : Bool, (Px.fits r args.length && b) = b from fun b => by rw [HR.out, if_neg hfew, if_neg hbad])
        clear HR
        have hcase : (0 ≤ r.most ∧ decide (0 ≤ r.most) = true ∧ ¬ r.most < args.length ∧ decide (r.most < (args.length : Int)) = false) ∨ (¬ 0 ≤ r.most ∧ decide (0 ≤ r.most) = false) := by
          by_cases hm : 0 ≤ r.most
          · have : ¬ r.most < args.length := fun h => hbad ⟨hm, h⟩
            exact .inl ⟨hm, decide_eq_true hm, this, decide_eq_false this⟩
          · exact .inr ⟨hm, decide_eq_false hm⟩
        clear hbad
        rcases hcase with ⟨hm, d2, hm2, d3⟩ | ⟨hm, d2⟩
        all_goals
          go_wp2_with fail
          clear y0 y1 y2 y3 y4 x0 x1 x2 x3
          go_loopw [5] (fun i wr => ∃ k : Nat, i = .int .i64 k ∧ RRightRel w wr w1.heap.size nm (.slice A fl.length cp) (.slice A2 args.length c2) line r fl k) (fun i _ => fl.length - (intOf i).toNat)
          case atStart => exact ⟨0, rfl, R1.out⟩
          case round =>
            obtain ⟨k, rfl, hR⟩ := hrel
            have hkl := hR.le
            by_cases hlt : k < fl.length
            · obtain ⟨b, off, rfl, hb, hcs⟩ := HC.out (by omega)
              obtain ⟨f0, f1⟩ := hcs k hlt
              have f0 := (hR.turns.cell (p := ⟨b, _, none⟩) hb id).trans f0
              have f1 := (hR.turns.cell (p := ⟨b, _, none⟩) hb id).trans f1
              have hbr : b < wr.heap.size := Nat.lt_of_lt_of_le hb hR.turns.size
              obtain ⟨y0, y1, y2, y3, y4, y5⟩ := rrow_cells hR.row
              simp only [strV] at y0 y1 y2
              obtain ⟨x0, x1, x2, x3, x5⟩ := box_cells hR.box
              have HT := Lib.hid (fun W => rtakes_in W r fl[k].1 (by omega))
              simp only [rowV, strV] at HT
              have HR2 := Lib.hid hR
              clear hR
              go_upto_region 7 with fail
              go_cut [6, 7] (fun s6 s7 wx => s6 = .bool (Px.takes r fl[k].1).isSome ∧ s7 = .bool ((Px.takes r fl[k].1).getD false) ∧ Turns Nothing wr wx)
              case first =>
                go_region_with (go_at_call 21; refine (HT.out _).mono ?_; rintro e w3 ⟨rfl, ht3⟩; have H3 := Lib.hid ht3; clear ht3)
                all_goals
                  go_wp2_with fail
                  go_meet
                  exact ⟨rfl, rfl, by first | exact ((Turns.refl Nothing wr).drewN 1).same H3.out | exact H3.out⟩
              case rest =>
                obtain ⟨rfl, rfl, ht3⟩ := hcut
                have T3 := Lib.hid ht3
                have htx : ∃ tx : ByteArray, tx = ⟨fl[k].2.toArray⟩ := ⟨_, rfl⟩
                obtain ⟨tx, htx⟩ := htx
                simp only [strV] at f1
                rw [← htx] at f1
                have g0 := (T3.out.cell (p := ⟨b, _, none⟩) hbr id).trans f0
                have g1 := (T3.out.cell (p := ⟨b, _, none⟩) hbr id).trans f1
                have z1 := (T3.out.cell (p := ⟨w.heap.size, 1, none⟩) x5 id).trans x1
                have z5 : w.heap.size < wc.heap.size := Nat.lt_of_lt_of_le x5 T3.out.size
                have hb3 : b < wc.heap.size := Nat.lt_of_lt_of_le hbr T3.out.size
                have HP := Lib.hid (fun q (hq : q < fl.length) => (T3.out.cell (p := ⟨b, off + q * 2, none⟩) hbr id).trans ((HR2.out.turns.cell (p := ⟨b, off + q * 2, none⟩) hb id).trans (hcs q hq).1))
                generalize htk : Px.takes r fl[k].1 = tk
                have HK := Lib.hid htk
                have HX := Lib.hid htx
                have HG := Lib.hid (HR2.out.turns.same T3.out)
                clear htk htx ht3 HT f0 f1 y0 y1 y2 y3 y4 x0 x1 x2 x3 x5 hcs hb hbr
                rcases tk with _ | v
                · simp only [Option.isSome, Option.getD]
                  go_upto_region 8 with fail
                  go_quiet (fail)
                  go_wp2_with fail
                  go_ret
                  exact ⟨show Ending.returned (.bool false) = .returned (.bool (Px.fits r args.length && Px.flagsOk r none fl)) by rw [HE.out, HR2.out.bad hlt (flagOk_none HK.out)], HG.out.drewN _⟩
                · simp only [Option.isSome, Option.getD]
                  by_cases hval : v = false ∧ fl[k].2 ≠ []
                  · obtain ⟨rfl, hne⟩ := hval
                    have d0 : (tx.toList == ([] : List UInt8)) = false := by
                      rw [beq_eq_false_iff_ne, str_list, HX.out]
                      exact hne
                    have d4 : (tx.toList != ([] : List UInt8)) = true := by rw [bne, d0]; rfl
                    have HV := Lib.hid hne
                    clear hne
                    go_upto_region 8 with fail
                    go_quiet (fail)
                    go_wp2_with fail
                    go_ret
                    exact ⟨show Ending.returned (.bool false) = .returned (.bool (Px.fits r args.length && Px.flagsOk r none fl)) by rw [HE.out, HR2.out.bad hlt (flagOk_value HK.out HV.out)], HG.out.drewN _⟩
                  · have hval : v = true ∨ fl[k].2 = [] := by
                      by_cases h1 : v = true
                      · exact .inl h1
                      · right
                        by_cases h2 : fl[k].2 = []
                        · exact h2
                        · exact absurd ⟨by simpa using h1, h2⟩ hval
                    have HV := Lib.hid hval
                    have htx : v = true ∨ (v = false ∧ tx = ⟨#[]⟩) := by
                      cases v
                      · right
                        refine ⟨rfl, ?_⟩
                        rw [HX.out]
                        rcases hval with h | h
                        · cases h
                        · rw [h]
                      · exact .inl rfl
                    clear hval
                    rcases k with _ | q
                    · rcases htx with rfl | ⟨rfl, rfl⟩
                      all_goals
                        go_upto_region 8 with fail
                        go_quiet (fail)
                        go_wp2_with fail
                        go_roundw
                        case rel => exact ⟨1, by go_num, HR2.out.next hlt (flagOk_first HK.out HV.out) (T3.out.drewN _)⟩
                        case measure => simp [intOf]; omega
                    · have hq : q < fl.length := by omega
                      have p0 := HP.out q hq
                      have hprev := prev_succ hq
                      have hq0 : decide ((0 : Int) < ((q + 1 : Nat) : Int)) = true := decide_eq_true (by omega)
                      by_cases hc : fl[q].1 < fl[q + 1].1
                      · have dle : decide ((fl[q + 1].1.toNat : Int) ≤ (fl[q].1.toNat : Int)) = false := by
                          rw [Px.u8_lt] at hc
                          exact decide_eq_false (by omega)
                        have HC2 := Lib.hid (show Px.flagOk r (Px.prev fl (q + 1)) fl[q + 1] = true by rw [hprev, flagOk_next HK.out HV.out, decide_eq_true hc])
                        clear hprev hc
                        generalize (fl[q + 1].1.toNat : Int) = ci at g0 dle
                        generalize (fl[q].1.toNat : Int) = cj at p0 dle
                        rcases htx with rfl | ⟨rfl, rfl⟩
                        all_goals
                          go_upto_region 8 with fail
                          go_quiet (fail)
                          go_wp2_with fail
                          go_roundw
                          case rel => exact ⟨q + 1 + 1, by go_num, HR2.out.next hlt HC2.out (T3.out.drewN _)⟩
                          case measure => simp [intOf]; omega
                      · have dle : decide ((fl[q + 1].1.toNat : Int) ≤ (fl[q].1.toNat : Int)) = true := by
                          rw [Px.u8_lt] at hc
                          exact decide_eq_true (by omega)
                        have HC2 := Lib.hid (show Px.flagOk r (Px.prev fl (q + 1)) fl[q + 1] = false by rw [hprev, flagOk_next HK.out HV.out, decide_eq_false hc])
                        clear hprev hc
                        generalize (fl[q + 1].1.toNat : Int) = ci at g0 dle
                        generalize (fl[q].1.toNat : Int) = cj at p0 dle
                        rcases htx with rfl | ⟨rfl, rfl⟩
                        all_goals
                          go_upto_region 8 with fail
                          go_quiet (fail)
                          go_wp2_with fail
                          go_ret
                          exact ⟨show Ending.returned (.bool false) = .returned (.bool (Px.fits r args.length && Px.flagsOk r none fl)) by rw [HE.out, HR2.out.bad hlt HC2.out], HG.out.drewN _⟩
            · obtain ⟨x0, x1, x2, x3, x5⟩ := box_cells hR.box
              have HR2 := Lib.hid hR
              clear hR
              go_wp2_with fail
              go_ret
              exact ⟨show Ending.returned (.bool true) = .returned (.bool (Px.fits r args.length && Px.flagsOk r none fl)) by rw [HE.out, HR2.out.done hlt], HR2.out.turns⟩
end Go.Proofs.YtedlhdegdlabhaaGreatDoor
