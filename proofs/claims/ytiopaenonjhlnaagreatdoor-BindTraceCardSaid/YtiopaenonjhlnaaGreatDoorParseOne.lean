/- What package parse's right and One make of a command. Plain functions; no program. The walk of package parse: right. The walk of package parse: One. -/
import Derived.Test.YtiopaenonjhlnaaGreatDoorParseOneP
import Derived.Test.YtiopaenonjhlnaaGreatDoorLexQuote
import Derived.Test.YtiopaenonjhlnaaGreatDoorParseValue
import Derived.Test.YtiopaenonjhlnaaGreatDoorParseRead
import Derived.BigQuiet
import Derived.Shelf.Strings.BuilderK
import Derived.Test.YtiopaenonjhlnaaGreatDoorLexSplitIn
namespace Go.Proofs.YtiopaenonjhlnaaGreatDoor
set_option maxRecDepth 8000
open Go.RowKit
open Lx (Bytes)

/-- at each round -/
structure RightRel (w wr : World) (K : Nat) (nm : ByteArray) (fv av : Value) (line : Int) (r : Px.Row) (fl : List Px.Fl) (k : Nat) : Prop where
  le : k ≤ fl.length
  box : Blk wr w.heap.size 57 #[.string nm, fv, av, .int .i64 line]
  row : Blk wr K 139 (rowCs r)
  spec : Px.flagsOk r (Px.prev fl k) (fl.drop k) = Px.flagsOk r none fl
  turns : Turns Nothing w wr
theorem RightRel.still {w wr w' : World} {K : Nat} {nm : ByteArray} {fv av : Value} {line : Int} {r : Px.Row} {fl : List Px.Fl} {k : Nat} (h : RightRel w wr K nm fv av line r fl k) (ht : Turns Nothing wr w') : RightRel w w' K nm fv av line r fl k :=
  ⟨h.le, ht.blk h.box id, ht.blk h.row id, h.spec, h.turns.same ht⟩
theorem RightRel.next {w wr w' : World} {K : Nat} {nm : ByteArray} {fv av : Value} {line : Int} {r : Px.Row} {fl : List Px.Fl} {k : Nat} (h : RightRel w wr K nm fv av line r fl k) (hk : k < fl.length) (hf : Px.flagOk r (Px.prev fl k) fl[k] = true) (ht : Turns Nothing wr w') : RightRel w w' K nm fv av line r fl (k + 1) := by
  have h' := h.still ht
  refine ⟨hk, h'.box, h'.row, ?_, h'.turns⟩
  rw [← h.spec, Px.flagsOk_step r fl k hk, hf, Bool.true_and]
theorem RightRel.bad {w wr : World} {K : Nat} {nm : ByteArray} {fv av : Value} {line : Int} {r : Px.Row} {fl : List Px.Fl} {k : Nat} (h : RightRel w wr K nm fv av line r fl k) (hk : k < fl.length) (hf : Px.flagOk r (Px.prev fl k) fl[k] = false) : Px.flagsOk r none fl = false := by
  rw [← h.spec, Px.flagsOk_step r fl k hk, hf, Bool.false_and]
theorem RightRel.done {w wr : World} {K : Nat} {nm : ByteArray} {fv av : Value} {line : Int} {r : Px.Row} {fl : List Px.Fl} {k : Nat} (h : RightRel w wr K nm fv av line r fl k) (hk : ¬ k < fl.length) : Px.flagsOk r none fl = true := by
  rw [← h.spec]
  exact Px.flagsOk_done r fl k (by omega) _
theorem row_cells {w : World} {b : Nat} {r : Px.Row} (h : Blk w b 139 (rowCs r)) :
    w.cell? ⟨b, 0, none⟩ = some (strV r.name) ∧ w.cell? ⟨b, 1, none⟩ = some (strV r.others) ∧ w.cell? ⟨b, 2, none⟩ = some (strV r.flags) ∧ w.cell? ⟨b, 3, none⟩ = some (.int .i64 r.few) ∧ w.cell? ⟨b, 4, none⟩ = some (.int .i64 r.most) ∧ b < w.heap.size :=
  ⟨h.cell 0, h.cell 1, h.cell 2, h.cell 3, h.cell 4, h.lt⟩
theorem box_cells {w : World} {b : Nat} {v0 v1 v2 v3 : Value} (h : Blk w b 57 #[v0, v1, v2, v3]) :
    w.cell? ⟨b, 0, none⟩ = some v0 ∧ w.cell? ⟨b, 1, none⟩ = some v1 ∧ w.cell? ⟨b, 2, none⟩ = some v2 ∧ w.cell? ⟨b, 3, none⟩ = some v3 ∧ b < w.heap.size :=
  ⟨h.cell 0, h.cell 1, h.cell 2, h.cell 3, h.lt⟩
theorem flag_two {w : World} {b : Nat} {v0 v1 : Value} (h : Blk w b 121 #[v0, v1]) : w.cell? ⟨b, 0, none⟩ = some v0 ∧ w.cell? ⟨b, 1, none⟩ = some v1 ∧ b < w.heap.size := ⟨h.cell 0, h.cell 1, h.lt⟩
/-- what a flag comes to -/
theorem flagOk_none {r : Px.Row} {p : Option UInt8} {f : Px.Fl} (h : Px.takes r f.1 = none) : Px.flagOk r p f = false := by simp [Px.flagOk, h]
theorem flagOk_value {r : Px.Row} {p : Option UInt8} {f : Px.Fl} (h : Px.takes r f.1 = some false) (h2 : f.2 ≠ []) : Px.flagOk r p f = false := by
  simp [Px.flagOk, h, h2]
theorem flagOk_first {r : Px.Row} {f : Px.Fl} {v : Bool} (h : Px.takes r f.1 = some v) (h2 : v = true ∨ f.2 = []) : Px.flagOk r none f = true := by
  rcases h2 with rfl | h2 <;> simp [Px.flagOk, *]
theorem flagOk_next {r : Px.Row} {f : Px.Fl} {v : Bool} {q : UInt8} (h : Px.takes r f.1 = some v) (h2 : v = true ∨ f.2 = []) : Px.flagOk r (some q) f = decide (q < f.1) := by
  rcases h2 with rfl | h2 <;> simp [Px.flagOk, *]
theorem prev_succ {l : List Px.Fl} {q : Nat} (h : q < l.length) : Px.prev l (q + 1) = some l[q].1 := by simp [Px.prev, h]

set_option maxHeartbeats 2000000 in
theorem right_in {w : World} {nm : ByteArray} {fv av : Value} {line : Int} {fl : List Px.Fl} {args : List Bytes} (hf : FlagsAt w fv fl) (hav : ∃ A c, av = .slice A args.length c) (hal : args.length ≤ 1050000) :
    Calls Tryz.prog 67 #[.agg #[.string nm, fv, av, .int .i64 line]] w fun e w' => e = .returned (.bool (Px.right ⟨sl nm, fl, args, line⟩)) ∧ Turns Nothing w w' := by
  obtain ⟨A2, c2, rfl⟩ := hav
  obtain ⟨⟨A, cp, rfl, hc⟩, hff⟩ := hf
  have HC := Lib.hid hc
  clear hc
  have HB := Lib.hid (Blk.new w 57 #[.string nm, .slice A fl.length cp, .slice A2 args.length c2, .int .i64 line])
  have ha : (args.length : Int) ≤ 1050000 := by omega
  have HRD := Lib.hid (show Px.right ⟨sl nm, fl, args, line⟩ = (match Px.whole (sl nm) with
    | none => false
    | some r => Px.fits r args.length && Px.flagsOk r none fl) from rfl)
  rw [HRD.out]
  have HW := Lib.hid (whole_in (w.alloc (.cells #[.string nm, .slice A fl.length cp, .slice A2 args.length c2, .int .i64 line] 57)) nm)
  have HM := Lib.hid (fun r (h : Px.whole (sl nm) = some r) => And.intro (Px.table_flags r (Px.whole_mem h).1) (Px.table_nums r (Px.whole_mem h).1))
  clear HRD
  generalize hq : Px.whole (sl nm) = q at HW HM ⊢
  clear hq
  go_enter Tryz.func67, Tryz.ntmps67
  go_wp2_with fail
  refine HW.out.mono ?_
  rintro e w1 ⟨rfl, ht1⟩
  obtain ⟨x0, x1, x2, x3, x4⟩ := box_cells (ht1.blk HB.out id)
  have T1 := Lib.hid (And.intro (((Turns.refl Nothing w).alloc (.cells #[.string nm, .slice A fl.length cp, .slice A2 args.length c2, .int .i64 line] 57)).same ht1) (ht1.blk HB.out id))
  clear ht1 HW
  cases q with
  | none =>
    simp only [rowV, strV, rowOr, Option.getD, Option.isSome, zeroRow]
    go_wp2_with fail
    go_ret
    exact ⟨rfl, T1.out.1.alloc _⟩
  | some r =>
    obtain ⟨⟨hfl, -, -⟩, hn1, hn2, hn3, hn4⟩ := HM.out r rfl
    have R0 : RightRel w (w1.alloc (.cells (rowCs r) 139)) w1.heap.size nm (.slice A fl.length cp) (.slice A2 args.length c2) line r fl 0 :=
      ⟨Nat.zero_le _, T1.out.2.alloc _, Blk.new w1 _ _, rfl, T1.out.1.alloc _⟩
    simp only [rowOr, Option.getD, Option.isSome, rowV, rowCs, strV] at R0 ⊢
    have R1 := Lib.hid R0
    clear R0
    go_upto_region 2 with fail
    have hr : ∀ b : Bool, (Px.fits r args.length && b) = (if (args.length : Int) < r.few then false else if 0 ≤ r.most ∧ r.most < args.length then false else b) := by
      intro b
      unfold Px.fits
      by_cases h1 : (args.length : Int) < r.few
      · rw [if_pos h1, decide_eq_false (by omega)]; simp
      · rw [if_neg h1, decide_eq_true (by omega)]
        by_cases h2 : 0 ≤ r.most ∧ r.most < args.length
        · rw [if_pos h2, decide_eq_false (by omega), decide_eq_false (by omega)]; simp
        · rw [if_neg h2]
          by_cases h3 : r.most < 0
          · rw [decide_eq_true h3]; simp
          · rw [decide_eq_true (show (args.length : Int) ≤ r.most by omega)]; simp
    have HR := Lib.hid hr
    clear hr
    obtain ⟨y0, y1, y2, y3, y4, y5⟩ := row_cells R1.out.row
    by_cases hfew : (args.length : Int) < r.few
    · have d1 : decide ((args.length : Int) < r.few) = true := decide_eq_true hfew
      have HE := Lib.hid (show ∀ b : Bool, (Px.fits r args.length && b) = false from fun b => by rw [HR.out, if_pos hfew])
      clear HR
      go_wp2_with fail
      go_ret
      exact ⟨show Ending.returned (.bool false) = .returned (.bool (Px.fits r args.length && Px.flagsOk r none fl)) by rw [HE.out], R1.out.turns⟩
    · have d1 : decide ((args.length : Int) < r.few) = false := decide_eq_false hfew
      by_cases hbad : 0 ≤ r.most ∧ r.most < args.length
      · obtain ⟨hm, hm2⟩ := hbad
        have d2 : decide (0 ≤ r.most) = true := decide_eq_true hm
        have d3 : decide (r.most < (args.length : Int)) = true := decide_eq_true hm2
        have HE := Lib.hid (show ∀ b : Bool, (Px.fits r args.length && b) = false from fun b => by rw [HR.out, if_neg hfew, if_pos ⟨hm, hm2⟩])
        clear HR
        go_wp2_with fail
        go_ret
        exact ⟨show Ending.returned (.bool false) = .returned (.bool (Px.fits r args.length && Px.flagsOk r none fl)) by rw [HE.out], R1.out.turns⟩
      · have HE := Lib.hid (show ∀ b : Bool, (Px.fits r args.length && b) = b from fun b => by rw [HR.out, if_neg hfew, if_neg hbad])
        clear HR
        have hcase : (0 ≤ r.most ∧ decide (0 ≤ r.most) = true ∧ ¬ r.most < args.length ∧ decide (r.most < (args.length : Int)) = false) ∨ (¬ 0 ≤ r.most ∧ decide (0 ≤ r.most) = false) := by
          by_cases hm : 0 ≤ r.most
          · have : ¬ r.most < args.length := fun h => hbad ⟨hm, h⟩
            exact .inl ⟨hm, decide_eq_true hm, this, decide_eq_false this⟩
          · exact .inr ⟨hm, decide_eq_false hm⟩
        clear hbad
        rcases hcase with ⟨hm, d2, hm2, d3⟩ | ⟨hm, d2⟩
        all_goals
          go_wp2_with fail
          clear y0 y1 y2 y3 y4 x0 x1 x2 x3
          go_loopw [41] (fun i wr => ∃ k : Nat, i = .int .i64 k ∧ RightRel w wr w1.heap.size nm (.slice A fl.length cp) (.slice A2 args.length c2) line r fl k) (fun i _ => fl.length - (intOf i).toNat)
          case atStart => exact ⟨0, rfl, R1.out⟩
          case round =>
            obtain ⟨k, rfl, hR⟩ := hrel
            by_cases hlt : k < fl.length
            · obtain ⟨b, off, rfl, hb, hcs⟩ := HC.out (by omega)
              obtain ⟨f0, f1⟩ := hcs k hlt
              have f0 := (hR.turns.cell (p := ⟨b, _, none⟩) hb id).trans f0
              have f1 := (hR.turns.cell (p := ⟨b, _, none⟩) hb id).trans f1
              have hbr : b < wr.heap.size := Nat.lt_of_lt_of_le hb hR.turns.size
              obtain ⟨y0, y1, y2, y3, y4, y5⟩ := row_cells hR.row
              obtain ⟨x0, x1, x2, x3, x5⟩ := box_cells hR.box
              have HN := Lib.hid (Blk.new wr 121 #[.int .u8 fl[k].1.toNat, strV fl[k].2])
              have HT := Lib.hid (fun W => takes_in W r fl[k].1 (by omega))
              simp only [rowV] at HT
              have HR2 := Lib.hid hR
              clear hR
              go_wp2_with fail
              refine (HT.out _).mono ?_
              rintro e w3 ⟨rfl, ht3⟩
              have htx : ∃ tx : ByteArray, tx = ⟨fl[k].2.toArray⟩ := ⟨_, rfl⟩
              obtain ⟨tx, htx⟩ := htx
              have hF : Blk w3 wr.heap.size 121 #[.int .u8 fl[k].1.toNat, .string tx] := by rw [htx]; exact ht3.blk HN.out id
              obtain ⟨g0, g1, g2⟩ := flag_two hF
              have T3 := Lib.hid (((Turns.refl Nothing wr).alloc _).same ht3)
              have z1 := (T3.out.cell (p := ⟨w.heap.size, 1, none⟩) x5 id).trans x1
              have z5 : w.heap.size < w3.heap.size := Nat.lt_of_lt_of_le x5 T3.out.size
              have hb3 : b < w3.heap.size := Nat.lt_of_lt_of_le hbr T3.out.size
              have HP := Lib.hid (fun q (hq : q < fl.length) => (T3.out.cell (p := ⟨b, off + q * 2, none⟩) hbr id).trans ((HR2.out.turns.cell (p := ⟨b, off + q * 2, none⟩) hb id).trans (hcs q hq).1))
              generalize htk : Px.takes r fl[k].1 = tk
              have HK := Lib.hid htk
              have HX := Lib.hid htx
              have HG := Lib.hid (HR2.out.turns.same T3.out)
              clear htk htx ht3 HN HT hF f0 f1 y0 y1 y2 y3 y4 x0 x1 x2 x3 x5 hcs hb hbr
              rcases tk with _ | v
              · simp only [Option.isSome, Option.getD]
                go_upto_region 8 with fail
                go_quiet (fail)
                go_wp2_with fail
                go_ret
                exact ⟨show Ending.returned (.bool false) = .returned (.bool (Px.fits r args.length && Px.flagsOk r none fl)) by rw [HE.out, HR2.out.bad hlt (flagOk_none HK.out)], HG.out.drewN _⟩
              · simp only [Option.isSome, Option.getD]
                by_cases hval : v = false ∧ fl[k].2 ≠ []
                · obtain ⟨rfl, hne⟩ := hval
                  have d0 : (tx.toList == ([] : List UInt8)) = false := by
                    rw [beq_eq_false_iff_ne, str_list, HX.out]
                    exact hne
                  have d4 : (tx.toList != ([] : List UInt8)) = true := by rw [bne, d0]; rfl
                  have HV := Lib.hid hne
                  clear hne
                  go_upto_region 8 with fail
                  go_quiet (fail)
                  go_wp2_with fail
                  go_ret
                  exact ⟨show Ending.returned (.bool false) = .returned (.bool (Px.fits r args.length && Px.flagsOk r none fl)) by rw [HE.out, HR2.out.bad hlt (flagOk_value HK.out HV.out)], HG.out.drewN _⟩
                · have hval : v = true ∨ fl[k].2 = [] := by
                    by_cases h1 : v = true
                    · exact .inl h1
                    · right
                      by_cases h2 : fl[k].2 = []
                      · exact h2
                      · exact absurd ⟨by simpa using h1, h2⟩ hval
                  have HV := Lib.hid hval
                  have htx : v = true ∨ (v = false ∧ tx = ⟨#[]⟩) := by
                    cases v
                    · right
                      refine ⟨rfl, ?_⟩
                      rw [HX.out]
                      rcases hval with h | h
                      · cases h
                      · rw [h]
                    · exact .inl rfl
                  clear hval
                  rcases k with _ | q
                  · rcases htx with rfl | ⟨rfl, rfl⟩
                    all_goals
                      go_upto_region 8 with fail
                      go_quiet (fail)
                      go_wp2_with fail
                      go_roundw
                      case rel => exact ⟨1, by go_num, HR2.out.next hlt (flagOk_first HK.out HV.out) (T3.out.drewN _)⟩
                      case measure => simp [intOf]; omega
                  · have hq : q < fl.length := by omega
                    have p0 := HP.out q hq
                    have hprev := prev_succ hq
                    by_cases hc : fl[q].1 < fl[q + 1].1
                    · have dle : decide ((fl[q + 1].1.toNat : Int) ≤ (fl[q].1.toNat : Int)) = false := by
                        rw [Px.u8_lt] at hc
                        exact decide_eq_false (by omega)
                      have HC2 := Lib.hid (show Px.flagOk r (Px.prev fl (q + 1)) fl[q + 1] = true by rw [hprev, flagOk_next HK.out HV.out, decide_eq_true hc])
                      clear hprev hc
                      generalize (fl[q + 1].1.toNat : Int) = ci at g0 dle
                      generalize (fl[q].1.toNat : Int) = cj at p0 dle
                      rcases htx with rfl | ⟨rfl, rfl⟩
                      all_goals
                        go_upto_region 8 with fail
                        go_quiet (fail)
                        go_wp2_with fail
                        go_roundw
                        case rel => exact ⟨q + 1 + 1, by go_num, HR2.out.next hlt HC2.out (T3.out.drewN _)⟩
                        case measure => simp [intOf]; omega
                    · have dle : decide ((fl[q + 1].1.toNat : Int) ≤ (fl[q].1.toNat : Int)) = true := by
                        rw [Px.u8_lt] at hc
                        exact decide_eq_true (by omega)
                      have HC2 := Lib.hid (show Px.flagOk r (Px.prev fl (q + 1)) fl[q + 1] = false by rw [hprev, flagOk_next HK.out HV.out, decide_eq_false hc])
                      clear hprev hc
                      generalize (fl[q + 1].1.toNat : Int) = ci at g0 dle
                      generalize (fl[q].1.toNat : Int) = cj at p0 dle
                      rcases htx with rfl | ⟨rfl, rfl⟩
                      all_goals
                        go_upto_region 8 with fail
                        go_quiet (fail)
                        go_wp2_with fail
                        go_ret
                        exact ⟨show Ending.returned (.bool false) = .returned (.bool (Px.fits r args.length && Px.flagsOk r none fl)) by rw [HE.out, HR2.out.bad hlt HC2.out], HG.out.drewN _⟩
            · go_wp2_with fail
              go_ret
              exact ⟨show Ending.returned (.bool true) = .returned (.bool (Px.fits r args.length && Px.flagsOk r none fl)) by rw [HE.out, hR.done hlt], hR.turns⟩
end Go.Proofs.YtiopaenonjhlnaaGreatDoor
namespace Go.Proofs.YtiopaenonjhlnaaGreatDoor
set_option maxRecDepth 8000
open Go.RowKit
open Lx (Bytes)

/-- texts in memory, to be read -/
structure TextsAt (w : World) (v : Value) (l : List Bytes) : Prop where
  at_ : ∃ A c, v = .slice A l.length c ∧ (0 < l.length → ∃ b off, A = some ⟨b, off, none⟩ ∧ b < w.heap.size ∧ ∀ i, (h : i < l.length) → w.cell? ⟨b, off + i, none⟩ = some (strV l[i]))
theorem TextsAt.still {w w' : World} {v : Value} {l : List Bytes} (h : TextsAt w v l) (ht : Turns Nothing w w') : TextsAt w' v l := by
  obtain ⟨A, c, rfl, h1⟩ := h.at_
  refine ⟨⟨A, c, rfl, fun h0 => ?_⟩⟩
  obtain ⟨b, off, hA, hb, hc⟩ := h1 h0
  exact ⟨b, off, hA, Nat.lt_of_lt_of_le hb ht.size, fun i hi => (ht.cell (p := ⟨b, _, none⟩) hb id).trans (hc i hi)⟩
theorem own_texts {w : World} {B : Nat} {v : Value} {l : List Bytes} (h : w.ownsRow B 9 1 v l.length (l.map strV)) : TextsAt w v l := by
  rcases h.2 with ⟨rfl, h0⟩ | ⟨g, cap, cur, rfl, hb, hg, _⟩
  · exact ⟨⟨none, 0, by rw [h0], fun hp => by omega⟩⟩
  · refine ⟨⟨_, cap, rfl, fun _ => ⟨g, 0, rfl, (Array.getElem?_eq_some_iff.1 hg).1, fun i hi => ?_⟩⟩⟩
    rw [Nat.zero_add, h.cellAt _ (by omega), List.getElem?_map, List.getElem?_eq_getElem hi]
    rfl
abbrev IsB (B : Nat) (T : Bytes) (w : World) : Prop := Lib.IsBuilderF 66 5 B B (u8s T) w
theorem IsB.lt {B : Nat} {T : Bytes} {w : World} (h : IsB B T w) : B < w.heap.size := h.elim (fun h => h.lt) fun h => h.lt
theorem IsB.still {B : Nat} {T : Bytes} {w w' : World} (h : IsB B T w) (ht : Turns Nothing w w') : IsB B T w' := by
  have hg : w.grownBy w' none := ⟨ht.os, ht.tape, ht.output, ht.size, fun k hk _ => ht.block k hk id⟩
  refine h.imp ?_ ?_
  all_goals
    intro h
    have hl := h.lt
    obtain ⟨hB, v, hb, ho, hn⟩ := h
    exact ⟨hB, v, (ht.block B hl id).trans hb, ho.kept hg (by cases v.ownBlock <;> simp), hn⟩
theorem ws_in {w : World} {B : Nat} {l : Bytes} (h : IsB B l w) (s : ByteArray) (hl : l.length + s.size ≤ 140737488355328) :
    Calls Tryz.prog 20 #[.pointer (some ⟨B, 0, none⟩), .string s] w fun e w' => e = .returned (.tuple #[.int .i64 s.size, .nilIface]) ∧ IsB B (l ++ sl s) w' ∧ Below B w w' ∧ Lib.OthersKept 5 (some B) w w' := by
  have hc := Any.Builder_WriteString_k Tryz.bw166 Tryz.bw_extra B B (u8s l) s w h (by rw [u8s_len]; exact hl) (Nat.le_of_lt h.lt)
  change Calls Tryz.prog 20 _ _ _ at hc
  refine hc.mono fun e w' ⟨he, hw, hb⟩ => ⟨he, .inr ?_, hb⟩
  rw [u8s_append]
  exact hw
theorem bs_in {w : World} {B : Nat} {l : Bytes} (h : IsB B l w) : Calls Tryz.prog 22 #[.pointer (some ⟨B, 0, none⟩)] w fun e w' => e = .returned (.string ⟨l.toArray⟩) ∧ Below B w w' :=
  (Tryz.Builder_String_any_k B B l w h (Nat.le_of_lt h.lt)).mono fun _e _w' ⟨he, _, hb, _⟩ => ⟨he, hb⟩
theorem flag_kept {w w' : World} {B g : Nat} {v0 v1 : Value} (h : Blk w g 121 #[v0, v1]) (hk : Lib.OthersKept 5 (some B) w w') (hg : g ≠ B) : Blk w' g 121 #[v0, v1] :=
  hk g _ h (fun e => hg (by injection e)) fun c fz e => by injection e with e1 e2; exact absurd e2 (by decide)
theorem len_ok {T : Bytes} {n m : Nat} {s : ByteArray} (h : T.length ≤ n) (hs : s.size ≤ m) (h2 : n + m ≤ 140737488355328) : T.length + s.size ≤ 140737488355328 := by omega
theorem cat_len (a b : ByteArray) : (a ++ b).size = a.size + b.size := ByteArray.size_append
/-- while a command is written -/
structure OneRel (w : World) (K B : Nat) (bx : Array Value) (r : Px.Row) (T : Bytes) (wr : World) : Prop where
  box : Blk wr w.heap.size 57 bx
  row : Blk wr K 139 (rowCs r)
  isB : IsB B T wr
  turns : Turns Nothing w wr
  low : w.heap.size < B ∧ K < B
theorem OneRel.still {w wr w' : World} {K B : Nat} {bx : Array Value} {r : Px.Row} {T : Bytes} (h : OneRel w K B bx r T wr) (ht : Turns Nothing wr w') : OneRel w K B bx r T w' :=
  ⟨ht.blk h.box id, ht.blk h.row id, h.isB.still ht, h.turns.same ht, h.low⟩
theorem OneRel.wrote {w wr w' : World} {K B : Nat} {bx : Array Value} {r : Px.Row} {T T' : Bytes} (h : OneRel w K B bx r T wr) (hI : IsB B T' w') (hb : Below B wr w') : OneRel w K B bx r T' w' := by
  have ht : Turns (fun b => B ≤ b) wr w' := Turns.of_below hb fun b h1 h2 => h1
  exact ⟨ht.blk h.box (fun e => by have := h.low.1; omega), ht.blk h.row (fun e => by have := h.low.2; omega), hI, h.turns.trans ht fun b hb e => by have := h.low.1; omega, h.low⟩
theorem OneRel.ended {w wr w' : World} {K B : Nat} {bx : Array Value} {r : Px.Row} {T : Bytes} (h : OneRel w K B bx r T wr) (hb : Below B wr w') : Turns Nothing w w' := by
  have ht : Turns (fun b => B ≤ b) wr w' := Turns.of_below hb fun b h1 h2 => h1
  exact h.turns.trans ht fun b hb e => by have := h.low.1; omega
theorem wquote_len (s : Bytes) : (Lx.wquote s).length ≤ 2 * s.length + 2 := by
  unfold Lx.wquote
  have := Lx.wesc_length s
  split
  · omega
  · split
    · simp only [List.length_cons, List.length_append, List.length_nil]; omega
    · simp only [List.length_cons, List.length_append, List.length_nil]; omega
theorem flat_len {α : Type} (g : α → Bytes) (M : Nat) : ∀ (l : List α), (∀ x ∈ l, (g x).length ≤ M) → (l.flatMap g).length ≤ l.length * M
  | [], _ => by simp
  | x :: l, h => by
    rw [List.flatMap_cons, List.length_append, List.length_cons, Nat.succ_mul]
    have := flat_len g M l fun y hy => h y (List.mem_cons_of_mem _ hy)
    have := h x List.mem_cons_self
    omega
theorem flat_take {α : Type} (g : α → Bytes) (M : Nat) (l : List α) (h : ∀ x ∈ l, (g x).length ≤ M) (k : Nat) (hk : k ≤ l.length) : ((l.take k).flatMap g).length ≤ k * M := by
  have := flat_len g M (l.take k) fun x hx => h x (List.mem_of_mem_take hx)
  rwa [List.length_take, Nat.min_eq_left hk] at this
theorem flat_succ {α : Type} (g : α → Bytes) (l : List α) (k : Nat) (h : k < l.length) : (l.take (k + 1)).flatMap g = (l.take k).flatMap g ++ g l[k] := by
  rw [List.take_succ_eq_append_getElem h, List.flatMap_append]
  simp
theorem oneF_len (r : Px.Row) (f : Px.Fl) (h : f.2.length ≤ 1600000) : (Px.oneF r f).length ≤ 4000000 := by
  have := wquote_len f.2
  unfold Px.oneF
  rw [List.length_append]
  split
  · simp only [List.length_cons, List.length_nil]; omega
  · simp only [List.length_cons, List.length_nil]; omega
theorem oneA_len (a : Bytes) (h : a.length ≤ 1600000) : (Px.oneA a).length ≤ 4000000 := by
  have := wquote_len a
  simp only [Px.oneA, List.length_cons]
  omega
theorem dashes_len (l : List Bytes) : (Px.dashes l).length ≤ 3 := by
  cases l with
  | nil => simp [Px.dashes]
  | cons a l =>
    simp only [Px.dashes]
    split <;> simp
def hasDash : List Bytes → Bool
  | [] => false
  | a :: _ => decide (1 < a.length ∧ a.head? = some 45)
theorem dashes_is (l : List Bytes) : Px.dashes l = if hasDash l then [32, 45, 45] else [] := by
  cases l with
  | nil => rfl
  | cons a l => simp [Px.dashes, hasDash]
theorem chr_in (c : UInt8) (hc : c < 128) (w : World) : (convert 21 9 (.int .i32 c.toNat)).run Tryz.prog w = .ok (.string ⟨#[c]⟩) w := by
  have h1 : c.toNat < 128 := hc
  have hv : Utf8.valid (c.toNat : Int) = true := by
    unfold Utf8.valid
    simp
    omega
  have he : Utf8.encode (c.toNat : Int) = ⟨#[c]⟩ := by
    simp [Utf8.encode, hv, h1]
  simp [convert, run_underlying Tryz.underlying21, run_underlying Tryz.underlying9, Conv.intToString, he]

set_option maxHeartbeats 4000000 in
theorem one_in {w : World} {nm : ByteArray} {fv av : Value} {line : Int} {fl : List Px.Fl} {args : List Bytes} (hf : FlagsAt w fv fl) (hav : TextsAt w av args) (hfl : fl.length ≤ 1050000 ∧ ∀ f ∈ fl, f.2.length ≤ 1600000) (hal : args.length ≤ 1050000 ∧ ∀ a ∈ args, a.length ≤ 1600000) :
    Calls Tryz.prog 41 #[.agg #[.string nm, fv, av, .int .i64 line]] w fun e w' => ∃ u : ByteArray, e = .returned (.string u) ∧ sl u = Px.one ⟨sl nm, fl, args, line⟩ ∧ Turns Nothing w w' := by
  obtain ⟨A2, c2, rfl, hc2⟩ := hav.at_
  obtain ⟨A, cp, rfl, hc⟩ := hf.at_
  have HR := Lib.hid (right_in (nm := nm) (line := line) (hf.still ((Turns.refl Nothing w).alloc (.cells #[.string nm, .slice A fl.length cp, .slice A2 args.length c2, .int .i64 line] 57))) ⟨A2, c2, rfl⟩ hal.1)
  have HC := Lib.hid hc
  have HC2 := Lib.hid hc2
  have HA := Lib.hid (And.intro hfl hal)
  have ha : (args.length : Int) ≤ 1050000 := by have := hal.1; omega
  have hff : (fl.length : Int) ≤ 1050000 := by have := hfl.1; omega
  have HB := Lib.hid (Blk.new w 57 #[.string nm, .slice A fl.length cp, .slice A2 args.length c2, .int .i64 line])
  clear hf hav hc hc2 hfl hal
  have H1 := Lib.hid (fun (h : Px.right ⟨sl nm, fl, args, line⟩ = true) => Px.right_row h)
  have H2 := Lib.hid (show Px.one ⟨sl nm, fl, args, line⟩ = if Px.right ⟨sl nm, fl, args, line⟩ then sl nm ++ fl.flatMap (Px.oneF ((Px.whole (sl nm)).getD ⟨[], [], [], 0, 0⟩)) ++ Px.dashes args ++ args.flatMap Px.oneA else [] from rfl)
  rw [H2.out]
  clear H2
  have HW := Lib.hid (fun W => whole_in W nm)
  have H1 := Lib.hid (show Px.right ⟨sl nm, fl, args, line⟩ = true → ∃ r, Px.whole (sl nm) = some r ∧ r ∈ Px.table ∧ r.name = sl nm ∧ ∀ f ∈ fl, (Px.takes r f.1).isSome = true ∧ f.1 < 128 from H1.out)
  generalize Px.right ⟨sl nm, fl, args, line⟩ = rt at HR H1 ⊢
  generalize Px.whole (sl nm) = q at HW H1 ⊢
  go_enter Tryz.func41, Tryz.ntmps41
  go_wp2_with fail
  refine HR.out.mono ?_
  rintro e w1 ⟨rfl, ht1⟩
  have T1 := Lib.hid (And.intro (((Turns.refl Nothing w).alloc (.cells #[.string nm, .slice A fl.length cp, .slice A2 args.length c2, .int .i64 line] 57)).same ht1) (ht1.blk HB.out id))
  obtain ⟨x0, x1, x2, x3, x4⟩ := box_cells T1.out.2
  clear ht1 HR HB
  cases rt with
  | false =>
    go_wp2_with fail
    go_ret
    exact ⟨_, rfl, rfl, T1.out.1⟩
  | true =>
    obtain ⟨r, hw, hmem, hname, hlet⟩ := H1.out rfl
    have hn40 := (Px.table_flags r hmem).2.1
    have hfl20 := (Px.table_flags r hmem).1
    subst hw
    have HL := Lib.hid (And.intro hlet (And.intro hn40 (And.intro hfl20 hname)))
    clear hmem hname hlet hn40 hfl20 H1
    go_wp2_with fail
    refine (HW.out _).mono ?_
    rintro e w2 ⟨rfl, ht2⟩
    have T2 := Lib.hid (And.intro (T1.out.1.same ht2) (ht2.blk T1.out.2 id))
    obtain ⟨x0, x1, x2, x3, x4⟩ := box_cells T2.out.2
    have hbl : w1.heap.size ≤ w2.heap.size := ht2.size
    clear ht2 HW
    simp only [rowOr, Option.getD, Option.isSome, rowV, strV]
    have hfresh := Lib.fresh_isBuilder 66 5 (w2.alloc (.cells (rowCs r) 139))
    rw [show (w2.alloc (.cells (rowCs r) 139)).heap.size = w2.heap.size + 1 by simp [go_sem]] at hfresh
    have hnl : (sl nm).length ≤ 40 := by have := HL.out.2.1; rw [HL.out.2.2.2] at this; exact this
    have R0 : OneRel w w2.heap.size (w2.heap.size + 1) #[.string nm, .slice A fl.length cp, .slice A2 args.length c2, .int .i64 line] r [] ((w2.alloc (.cells (rowCs r) 139)).alloc (.cells #[.pointer none, .slice none 0 0] 66)) :=
      ⟨(T2.out.2.alloc _).alloc _, (Blk.new w2 _ _).alloc _, Lib.IsBuilderF.of hfresh, (T2.out.1.alloc _).alloc _, by have := T2.out.1.size; omega, by omega⟩
    have HR0 := Lib.hid R0
    have HNL := Lib.hid hnl
    clear R0 hfresh hnl T1 T2
    simp only [rowCs, strV] at HR0
    go_wp2_with fail
    refine (ws_in HR0.out.isB nm (by have := HNL.out; rw [sl_size] at this; simp; omega)).mono ?_
    rintro e w3 ⟨rfl, hI, hb3, -⟩
    have HR1 := Lib.hid (HR0.out.wrote (T' := sl nm) hI hb3)
    obtain ⟨x0, x1, x2, x3, x4⟩ := box_cells HR1.out.box
    have hl12 := HR1.out.low
    clear hI hb3 HR0
    have HTF := Lib.hid (fun W c => takes_in W r c (by have := HL.out.2.2.1; omega))
    simp only [rowV, strV] at HTF
    have hcv := chr_in
    have hcalls : ∀ (ci : Int) (c : UInt8), (c.toNat : Int) = ci → ∀ W : World, Calls Tryz.prog 69 #[.agg #[.string ⟨r.name.toArray⟩, .string ⟨r.others.toArray⟩, .string ⟨r.flags.toArray⟩, .int .i64 r.few, .int .i64 r.most], .int .u8 ci] W fun e w' => e = .returned (.tuple #[.bool (Px.takes r c).isSome, .bool ((Px.takes r c).getD false)]) ∧ Turns Nothing W w' :=
      fun ci c h W => h ▸ HTF.out W c
    go_wp2_with fail
    go_loopw [27] (fun i wr => ∃ k : Nat, i = .int .i64 k ∧ k ≤ fl.length ∧ OneRel w w2.heap.size (w2.heap.size + 1) #[.string nm, .slice A fl.length cp, .slice A2 args.length c2, .int .i64 line] r (sl nm ++ (fl.take k).flatMap (Px.oneF r)) wr) (fun i _ => fl.length - (intOf i).toNat)
    case atStart => exact ⟨0, rfl, Nat.zero_le _, by simpa using HR1.out⟩
    case round =>
      obtain ⟨k, rfl, hk, hR⟩ := hrel
      have hTl : (sl nm ++ (fl.take k).flatMap (Px.oneF r)).length ≤ 40 + k * 4000000 := by
        rw [List.length_append]
        have := flat_take (Px.oneF r) 4000000 fl (fun f hf => oneF_len r f (HA.out.1.2 f hf)) k hk
        have := HNL.out
        omega
      have hkk : k ≤ 1050000 := by have := HA.out.1.1; omega
      have HTL := Lib.hid (And.intro hTl hkk)
      clear hTl hkk
      by_cases hlt : k < fl.length
      · obtain ⟨b, off, rfl, hb, hcs⟩ := HC.out (by omega)
        obtain ⟨f0, f1⟩ := hcs k hlt
        have f0 := (hR.turns.cell (p := ⟨b, _, none⟩) hb id).trans f0
        have f1 := (hR.turns.cell (p := ⟨b, _, none⟩) hb id).trans f1
        have hbr : b < wr.heap.size := Nat.lt_of_lt_of_le hb hR.turns.size
        obtain ⟨y0, y1, y2, y3, y4, y5⟩ := row_cells hR.row
        have HN := Lib.hid (Blk.new wr 121 #[.int .u8 fl[k].1.toNat, strV fl[k].2])
        have HS := Lib.hid (flat_succ (Px.oneF r) fl k hlt)
        have hc128 := (HL.out.1 _ (List.getElem_mem hlt)).2
        have hval := HA.out.1.2 _ (List.getElem_mem hlt)
        have hsome := (HL.out.1 _ (List.getElem_mem hlt)).1
        have HR2 := Lib.hid hR
        have HQ := Lib.hid (And.intro hc128 (And.intro hval hsome))
        have hcv := Lib.hid (hcv fl[k].1 hc128)
        generalize hfk : fl[k] = fk at f0 f1 HN HS HQ hcv
        obtain ⟨c, val⟩ := fk
        dsimp only at f0 f1 HN HS HQ hcv
        have hcr : (c.toNat : Int) < 128 := by have := HQ.out.1; have : c.toNat < 128 := this; omega
        have hcr0 : 0 ≤ (c.toNat : Int) := by omega
        have hcv2 := hcv.out
        clear hR hcs hfk hc128 hval hsome hcv
        simp only [strV] at f1
        generalize hci : (c.toNat : Int) = ci at f0 HN hcr hcr0 hcv2
        have HCI := Lib.hid hci
        clear hci
        have R3 := Lib.hid (HR2.out.still ((Turns.refl Nothing wr).alloc (.cells #[.int .u8 ci, .string ⟨val.toArray⟩] 121)))
        have hB2 := HR2.out.isB.lt
        go_wp2_with fail
        refine (ws_in R3.out.isB _ (by have := HTL.out; show _ + 3 ≤ _; omega)).mono ?_
        rintro e w4 ⟨rfl, hI, hb4, hk4⟩
        have R4 := Lib.hid (R3.out.wrote hI hb4)
        have hF := flag_kept HN.out hk4 (by omega)
        obtain ⟨g0, g1, g2⟩ := flag_two hF
        have HF4 := Lib.hid hF
        obtain ⟨y0, y1, y2, y3, y4, y5⟩ := row_cells R4.out.row
        clear hI hb4 hk4 hF f0 f1 R3
        have HT := Lib.hid (hcalls ci c HCI.out)
        go_wp2_with fail
        refine (HT.out _).mono ?_
        rintro e w5 ⟨rfl, ht5⟩
        have R5 := Lib.hid (R4.out.still ht5)
        obtain ⟨g0, g1, g2⟩ := flag_two (ht5.blk HF4.out id)
        clear ht5 HF4 R4 HT y0 y1 y2 y3 y4 y5 hcalls hcv2
        have HTK := Lib.hid HQ.out.2.2
        generalize htk : Px.takes r c = tk at HTK
        have HK := Lib.hid htk
        clear htk
        obtain ⟨v, rfl⟩ : ∃ v, tk = some v := by
          cases tk with
          | none => exact absurd HTK.out (by simp)
          | some v => exact ⟨v, rfl⟩
        simp only [Option.isSome, Option.getD]
        cases v with
        | false =>
          have HE := Lib.hid (show Px.oneF r (c, val) = [32, 45, c] by simp [Px.oneF, HK.out])
          go_wp2_with fail
          go_roundw
          case rel =>
            refine ⟨k + 1, by go_num, hlt, ?_⟩
            rw [HS.out, HE.out, ← List.append_assoc]
            exact R5.out
          case measure => simp [intOf]; omega
        | true =>
          have HE := Lib.hid (show Px.oneF r (c, val) = [32, 45, c] ++ 32 :: Lx.wquote val by simp [Px.oneF, HK.out])
          go_wp2_with fail
          refine (quote_any ⟨val.toArray⟩ (by have := HQ.out.2.1; exact this)).mono ?_
          rintro e w6 ⟨u, rfl, hu, hB6⟩
          have R6 := Lib.hid (R5.out.still (Turns.of_below hB6 fun b h1 h2 => absurd h2 (by omega)))
          have hus : u.size ≤ 3200002 := by
            have h1 := wquote_len val
            have h2 := HQ.out.2.1
            rw [← sl_size, hu]
            exact Nat.le_trans h1 (by omega)
          have hus2 : (u.size : Int) ≤ 3200002 := by omega
          have HU := Lib.hid (show sl u = Lx.wquote val from hu)
          have HUS := Lib.hid hus
          clear hu hB6 R5 hus
          go_wp2_with fail
          refine (ws_in R6.out.isB _ (len_ok (n := 40 + k * 4000000 + 3) (m := 3200003) (by rw [List.length_append]; exact Nat.add_le_add HTL.out.1 (Nat.le_of_eq rfl)) (by rw [cat_len]; have := HUS.out; show 1 + _ ≤ _; omega) (by have := HTL.out.2; omega))).mono ?_
          rintro e w7 ⟨rfl, hI, hb7, -⟩
          have R7 := Lib.hid (R6.out.wrote hI hb7)
          clear hI hb7 R6
          go_wp2_with fail
          go_roundw
          case rel =>
            refine ⟨k + 1, by go_num, hlt, ?_⟩
            have h7 := R7.out
            simp only [sl_append] at h7
            rw [HU.out] at h7
            rw [HS.out, HE.out]
            have he : sl nm ++ ((fl.take k).flatMap (Px.oneF r) ++ ([32, 45, c] ++ 32 :: Lx.wquote val)) = sl nm ++ (fl.take k).flatMap (Px.oneF r) ++ (sl ⟨#[32, 45]⟩ ++ sl ⟨#[c]⟩) ++ (sl ⟨#[32]⟩ ++ Lx.wquote val) := by simp [sl]
            rw [he]
            exact h7
          case measure => simp [intOf]; omega
      · obtain rfl : k = fl.length := by omega
        have hR := hR
        rw [List.take_length] at hR
        obtain ⟨x0, x1, x2, x3, x4⟩ := box_cells hR.box
        have HR2 := Lib.hid hR
        clear hR
        go_upto_region 14 with fail
        go_cut [70] (fun s70 wx => s70 = .bool (hasDash args) ∧ wx = wr)
        case first =>
          rcases args with _ | ⟨a, l⟩
          · go_wp2_with fail
            go_meet
            exact ⟨rfl, rfl⟩
          · obtain ⟨b, off, rfl, hb, hcs⟩ := HC2.out (by simp)
            have p0 := hcs 0 (by simp)
            have p0 := (HR2.out.turns.cell (p := ⟨b, _, none⟩) hb id).trans p0
            rw [Nat.add_zero] at p0
            simp only [List.getElem_cons_zero, strV] at p0
            have hbr : b < wr.heap.size := Nat.lt_of_lt_of_le hb HR2.out.turns.size
            have hl1 : (0 : Int) < ((a :: l).length : Int) := by simp
            have hl2 : ((a :: l).length : Int) ≤ 1050000 := ha
            clear hcs hb HC HC2
            rcases a with _ | ⟨c, _ | ⟨d, a⟩⟩
            · go_wp2_with fail
              go_meet
              exact ⟨rfl, rfl⟩
            · go_wp2_with fail
              go_meet
              exact ⟨rfl, rfl⟩
            · obtain ⟨tx, htx⟩ : ∃ tx : ByteArray, tx = ⟨(c :: d :: a).toArray⟩ := ⟨_, rfl⟩
              rw [← htx] at p0
              have hs : 1 < tx.size := by rw [htx]; show 1 < (List.toArray _).size; simp
              have hs2 : (1 : Int) < tx.size := by omega
              have hs0 : 0 < tx.size := by omega
              have h0 : tx[0] = c := by subst htx; rfl
              clear htx
              by_cases h45 : c = 45
              · have HE := Lib.hid (show hasDash ((c :: d :: a) :: l) = true by simp [hasDash, h45])
                have h1 : (tx[0].toNat : Int) = 45 := by rw [h0, h45]; rfl
                have h2 : ((tx[0].toNat : Int) == 45) = true := by simpa using h1
                clear h45 h0 h1
                go_wp2_with fail
                go_meet
                exact ⟨show Value.bool true = _ by rw [HE.out], rfl⟩
              · have HE := Lib.hid (show hasDash ((c :: d :: a) :: l) = false by simp [hasDash, h45])
                have h1 : ¬ (tx[0].toNat : Int) = 45 := fun e => h45 (by rw [h0] at e; exact UInt8.toNat_inj.1 (by show c.toNat = 45; omega))
                have h2 : ((tx[0].toNat : Int) == 45) = false := by simpa using h1
                clear h45 h0 h1
                go_wp2_with fail
                go_meet
                exact ⟨show Value.bool false = _ by rw [HE.out], rfl⟩
        case rest =>
          obtain ⟨rfl, rfl⟩ := hcut
          have hTl : (sl nm ++ fl.flatMap (Px.oneF r)).length ≤ 40 + 1050000 * 4000000 := by
            rw [List.length_append]
            have h1 := flat_len (Px.oneF r) 4000000 fl (fun f hf => oneF_len r f (HA.out.1.2 f hf))
            have h2 := HNL.out
            have h3 := Nat.mul_le_mul_right 4000000 HA.out.1.1
            omega
          have HTL := Lib.hid hTl
          have HD := Lib.hid (dashes_is args)
          have HSA := Lib.hid (flat_succ Px.oneA args)
          clear hTl hcv hcalls
          have hdd : ∀ (wx : World) (T : Bytes), OneRel w w2.heap.size (w2.heap.size + 1) #[.string nm, .slice A fl.length cp, .slice A2 args.length c2, .int .i64 line] r T wx → T = sl nm ++ fl.flatMap (Px.oneF r) ++ Px.dashes args → OneRel w w2.heap.size (w2.heap.size + 1) #[.string nm, .slice A fl.length cp, .slice A2 args.length c2, .int .i64 line] r (sl nm ++ fl.flatMap (Px.oneF r) ++ Px.dashes args) wx := fun wx T h e => e ▸ h
          have HDD := Lib.hid hdd
          clear hdd
          generalize hasDash args = dd at HD
          cases dd
          case' true =>
            go_wp2_with fail
            refine (ws_in HR2.out.isB _ (by have := HTL.out; show _ + 3 ≤ _; omega)).mono ?_
            rintro e wd ⟨rfl, hI, hb7, -⟩
            have RD := Lib.hid (HDD.out _ _ (HR2.out.wrote hI hb7) (by rw [HD.out]; rfl))
            obtain ⟨x0, x1, x2, x3, x4⟩ := box_cells RD.out.box
            clear hI hb7 HR2
          case' false =>
            have RD := Lib.hid (HDD.out _ _ HR2.out (by rw [HD.out]; simp))
            clear HR2
          all_goals
            clear HDD HD
            go_wp2_with fail
            go_loopw [75] (fun i wr => ∃ k : Nat, i = .int .i64 k ∧ k ≤ args.length ∧ OneRel w w2.heap.size (w2.heap.size + 1) #[.string nm, .slice A fl.length cp, .slice A2 args.length c2, .int .i64 line] r (sl nm ++ fl.flatMap (Px.oneF r) ++ Px.dashes args ++ (args.take k).flatMap Px.oneA) wr) (fun i _ => args.length - (intOf i).toNat)
            case atStart => exact ⟨0, rfl, Nat.zero_le _, by simpa using RD.out⟩
            case round =>
              obtain ⟨k, rfl, hk, hR⟩ := hrel
              have hTl : (sl nm ++ fl.flatMap (Px.oneF r) ++ Px.dashes args ++ (args.take k).flatMap Px.oneA).length ≤ 40 + 1050000 * 4000000 + 3 + k * 4000000 := by
                rw [List.length_append, List.length_append]
                have h1 := flat_take Px.oneA 4000000 args (fun a ha => oneA_len a (HA.out.2.2 a ha)) k hk
                have h2 := HTL.out
                have h3 := dashes_len args
                omega
              have hkk : k ≤ 1050000 := by have := HA.out.2.1; omega
              have HTK := Lib.hid (And.intro hTl hkk)
              clear hTl hkk
              by_cases hlt : k < args.length
              · obtain ⟨b, off, rfl, hb, hcs⟩ := HC2.out (by omega)
                have p0 := (hR.turns.cell (p := ⟨b, _, none⟩) hb id).trans (hcs k hlt)
                have hbr : b < wr.heap.size := Nat.lt_of_lt_of_le hb hR.turns.size
                have HS := Lib.hid (HSA.out k hlt)
                have hval := Lib.hid (HA.out.2.2 _ (List.getElem_mem hlt))
                have HR3 := Lib.hid hR
                clear hR hcs
                generalize args[k] = a at p0 HS hval
                simp only [strV] at p0
                go_wp2_with fail
                refine (quote_any ⟨a.toArray⟩ (by have := hval.out; exact this)).mono ?_
                rintro e w6 ⟨u, rfl, hu, hB6⟩
                have R6 := Lib.hid (HR3.out.still (Turns.of_below hB6 fun b h1 h2 => absurd h2 (by omega)))
                have hus : u.size ≤ 3200002 := by
                  have h1 := wquote_len a
                  have h2 := hval.out
                  rw [← sl_size, show sl u = Lx.wquote a from hu]
                  exact Nat.le_trans h1 (by omega)
                have hus2 : (u.size : Int) ≤ 3200002 := by omega
                have HU := Lib.hid (show sl u = Lx.wquote a from hu)
                have HUS := Lib.hid hus
                clear hu hB6 hus
                go_wp2_with fail
                refine (ws_in R6.out.isB _ (len_ok (n := 40 + 1050000 * 4000000 + 3 + k * 4000000) (m := 3200003) HTK.out.1 (by rw [cat_len]; have := HUS.out; show 1 + _ ≤ _; omega) (by have := HTK.out.2; omega))).mono ?_
                rintro e w7 ⟨rfl, hI, hb7, -⟩
                have R7 := Lib.hid (R6.out.wrote hI hb7)
                clear hI hb7 R6
                go_wp2_with fail
                go_roundw
                case rel =>
                  refine ⟨k + 1, by go_num, hlt, ?_⟩
                  have h7 := R7.out
                  rw [sl_append, HU.out, List.append_assoc] at h7
                  rw [HS.out]
                  exact h7
                case measure => simp [intOf]; omega
              · obtain rfl : k = args.length := by omega
                rw [List.take_length] at hR
                have HR3 := Lib.hid hR
                clear hR
                go_wp2_with fail
                refine (bs_in HR3.out.isB).mono ?_
                rintro e w8 ⟨rfl, hb8⟩
                have HB8 := Lib.hid hb8
                clear hb8
                go_wp2_with fail
                go_ret
                exact ⟨_, rfl, by simp [sl], HR3.out.ended HB8.out⟩
end Go.Proofs.YtiopaenonjhlnaaGreatDoor
