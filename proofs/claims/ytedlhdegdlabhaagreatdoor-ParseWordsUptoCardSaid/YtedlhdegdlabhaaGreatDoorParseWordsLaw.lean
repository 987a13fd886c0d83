/- The walks of mullionlaw12's same (lines too), of the document's Value, and of the law ParseWords: it answers true. -/
import Derived.Test.YtedlhdegdlabhaaGreatDoorParseShown
import Derived.Test.YtedlhdegdlabhaaGreatDoorRefWords
namespace Go.Proofs.YtedlhdegdlabhaaGreatDoor
set_option maxRecDepth 8000
open Go.RowKit
open Lx (Bytes)

set_option maxHeartbeats 2000000 in
theorem lsame_in {w : World} {nm : ByteArray} {fv av fv' av' : Value} {ln : Int} {fl : List Px.Fl} {args : List Bytes} (hf : FlagsAt w fv fl) (ha : TextsAt w av args) (hf' : FlagsAt w fv' fl) (ha' : TextsAt w av' args) (hfl : fl.length ≤ 1000) (hal : args.length ≤ 1050000) :
    Calls Tryz.prog 8 #[.agg #[.string nm, fv, av, .int .i64 ln], .agg #[.string nm, fv', av', .int .i64 ln], .bool true] w fun e w' => e = .returned (.bool true) ∧ Turns Nothing w w' := by
  obtain ⟨fA, fc, rfl, hfc⟩ := hf.at_
  obtain ⟨fA', fc', rfl, hfc'⟩ := hf'.at_
  obtain ⟨rA, rc, rfl, hrc⟩ := ha.at_
  obtain ⟨rA', rc', rfl, hrc'⟩ := ha'.at_
  have HF := Lib.hid (And.intro hfc hfc')
  have HR := Lib.hid (And.intro hrc hrc')
  have hf1 : (fl.length : Int) ≤ 1000 := by omega
  have ha1 : (args.length : Int) ≤ 1050000 := by omega
  have HB := Lib.hid (And.intro ((Blk.new w 27 #[.string nm, .slice fA fl.length fc, .slice rA args.length rc, .int .i64 ln]).alloc (.cells #[.string nm, .slice fA' fl.length fc', .slice rA' args.length rc', .int .i64 ln] 27))
    (blk_new_at (w := w.alloc (.cells #[.string nm, .slice fA fl.length fc, .slice rA args.length rc, .int .i64 ln] 27)) (g := w.heap.size + 1) (t := 27) (cs := #[.string nm, .slice fA' fl.length fc', .slice rA' args.length rc', .int .i64 ln]) (by simp [go_sem])))
  have HT := Lib.hid (((Turns.refl Nothing w).alloc (.cells #[.string nm, .slice fA fl.length fc, .slice rA args.length rc, .int .i64 ln] 27)).alloc (.cells #[.string nm, .slice fA' fl.length fc', .slice rA' args.length rc', .int .i64 ln] 27))
  clear hf ha hf' ha' hfc hfc' hrc hrc' hfl hal
  go_enter Tryz.func8, Tryz.ntmps8
  go_wp2_with fail
  generalize hw1 : ((w.alloc (.cells #[.string nm, .slice fA fl.length fc, .slice rA args.length rc, .int .i64 ln] 27)).alloc (.cells #[.string nm, .slice fA' fl.length fc', .slice rA' args.length rc', .int .i64 ln] 27)) = w1 at HB HT ⊢
  clear hw1
  go_loopw [7] (fun i wr => ∃ k : Nat, i = .int .i64 k ∧ k ≤ fl.length ∧ Turns Nothing w1 wr) (fun i _ => fl.length - (intOf i).toNat)
  case atStart => exact ⟨0, rfl, Nat.zero_le _, Turns.refl _ _⟩
  case round =>
    obtain ⟨k, rfl, hk, ht⟩ := hrel
    obtain ⟨x0, x1, x2, x3, x4⟩ := box_cells (ht.blk HB.out.1 id)
    obtain ⟨y0, y1, y2, y3, y4⟩ := box_cells (ht.blk HB.out.2 id)
    by_cases hlt : k < fl.length
    · obtain ⟨b, off, rfl, hb, hc⟩ := HF.out.1 (by omega)
      obtain ⟨d, off', rfl, hd, hc'⟩ := HF.out.2 (by omega)
      have T := HT.out.same ht
      have p0 := (T.cell (p := ⟨b, _, none⟩) hb id).trans (hc k hlt).1
      have p1 := (T.cell (p := ⟨b, _, none⟩) hb id).trans (hc k hlt).2
      have r0 := (T.cell (p := ⟨d, _, none⟩) hd id).trans (hc' k hlt).1
      have r1 := (T.cell (p := ⟨d, _, none⟩) hd id).trans (hc' k hlt).2
      have hbr : b < wr.heap.size := Nat.lt_of_lt_of_le hb T.size
      have hdr : d < wr.heap.size := Nat.lt_of_lt_of_le hd T.size
      simp only [strV] at p1 r1
      generalize (fl[k].1.toNat : Int) = ci at p0 r0
      generalize (⟨fl[k].2.toArray⟩ : ByteArray) = tx at p1 r1
      have H1 := Lib.hid ht
      clear ht T hc hc' hb hd
      go_wp2_with fail
      go_quiet (fail)
      go_wp2_with fail
      go_roundw
      case rel => exact ⟨k + 1, by go_num, hlt, H1.out.drewN _⟩
      case measure => simp [intOf]; omega
    · have H1 := Lib.hid ht
      clear ht
      go_wp2_with fail
      generalize hw2 : wr = w2 at *
      clear hw2
      go_loopw [8] (fun i wr => ∃ k : Nat, i = .int .i64 k ∧ k ≤ args.length ∧ Turns Nothing w1 wr) (fun i _ => args.length - (intOf i).toNat)
      case atStart => exact ⟨0, rfl, Nat.zero_le _, H1.out⟩
      case round =>
        obtain ⟨n, rfl, hn, ht⟩ := hrel
        obtain ⟨x0, x1, x2, x3, x4⟩ := box_cells (ht.blk HB.out.1 id)
        obtain ⟨y0, y1, y2, y3, y4⟩ := box_cells (ht.blk HB.out.2 id)
        by_cases hlt2 : n < args.length
        · obtain ⟨b, off, rfl, hb, hc⟩ := HR.out.1 (by omega)
          obtain ⟨d, off', rfl, hd, hc'⟩ := HR.out.2 (by omega)
          have T := HT.out.same ht
          have p0 := (T.cell (p := ⟨b, _, none⟩) hb id).trans (hc n hlt2)
          have r0 := (T.cell (p := ⟨d, _, none⟩) hd id).trans (hc' n hlt2)
          have hbr : b < wr.heap.size := Nat.lt_of_lt_of_le hb T.size
          have hdr : d < wr.heap.size := Nat.lt_of_lt_of_le hd T.size
          simp only [strV] at p0 r0
          generalize (⟨args[n].toArray⟩ : ByteArray) = tx at p0 r0
          have H2 := Lib.hid ht
          clear ht T hc hc' hb hd
          go_wp2_with fail
          go_quiet (fail)
          go_wp2_with fail
          go_roundw
          case rel => exact ⟨n + 1, by go_num, hlt2, H2.out.drewN _⟩
          case measure => simp [intOf]; omega
        · have H2 := Lib.hid ht
          clear ht
          go_wp2_with fail
          go_ret
          exact ⟨rfl, HT.out.same H2.out⟩
theorem at_drop {c : UInt8} {l : List Px.Fl} {k : Nat} (h : k < l.length) : Px.at_ (l.drop k) c = if l[k].1 = c then some l[k].2 else Px.at_ (l.drop (k + 1)) c := by
  rw [List.drop_eq_getElem_cons h, Px.at_, List.find?_cons]
  by_cases e : l[k].1 = c
  · simp [e]
  · have e2 : (l[k].1 == c) = false := by simpa using e
    simp [e2, e, Px.at_]
/-- at each round of Value -/
structure RVRel (w wr : World) (cs : Array Value) (fl : List Px.Fl) (c : UInt8) (k : Nat) : Prop where
  le : k ≤ fl.length
  box : Blk wr w.heap.size 27 cs
  spec : Px.at_ (fl.drop k) c = Px.at_ fl c
  turns : Turns Nothing w wr
set_option maxHeartbeats 1000000 in
theorem rvalue_in {w : World} {nm : ByteArray} {fv av : Value} {line : Int} {fl : List Px.Fl} (c : UInt8) (hf : FlagsAt w fv fl) (hav : ∃ A n cp, av = .slice A n cp) :
    Calls Tryz.prog 10 #[.agg #[.string nm, fv, av, .int .i64 line], .int .u8 c.toNat] w fun e w' => e = .returned (.tuple #[strV ((Px.at_ fl c).getD []), .bool (Px.at_ fl c).isSome]) ∧ Turns Nothing w w' := by
  obtain ⟨A2, n2, c2, rfl⟩ := hav
  have hff := hf.few
  obtain ⟨A, cp, rfl, hc⟩ := hf.at_
  have HC := Lib.hid hc
  have hff2 : (fl.length : Int) ≤ 9223372036854775807 := by omega
  have H0 := Lib.hid (show RVRel w (w.alloc (.cells #[.string nm, .slice A fl.length cp, .slice A2 n2 c2, .int .i64 line] 27)) #[.string nm, .slice A fl.length cp, .slice A2 n2 c2, .int .i64 line] fl c 0 from ⟨Nat.zero_le _, Blk.new w _ _, rfl, (Turns.refl _ w).alloc _⟩)
  obtain ⟨ci, hci⟩ : ∃ ci : Int, (c.toNat : Int) = ci := ⟨_, rfl⟩
  have HCI := Lib.hid hci
  rw [hci]
  clear hf hc hci
  go_enter Tryz.func10, Tryz.ntmps10
  go_wp2_with fail
  go_loopw [6] (fun i wr => ∃ k : Nat, i = .int .i64 k ∧ RVRel w wr #[.string nm, .slice A fl.length cp, .slice A2 n2 c2, .int .i64 line] fl c k) (fun i _ => fl.length - (intOf i).toNat)
  case atStart => exact ⟨0, rfl, H0.out⟩
  case round =>
    obtain ⟨k, rfl, hR⟩ := hrel
    obtain ⟨x0, x1, x2, x3, x4⟩ := box_cells hR.box
    have hk := hR.le
    have HR := Lib.hid hR
    clear hR H0
    by_cases hlt : k < fl.length
    · obtain ⟨b, off, rfl, hb, hcs⟩ := HC.out (by omega)
      obtain ⟨f0, f1⟩ := hcs k hlt
      have f0 := (HR.out.turns.cell (p := ⟨b, _, none⟩) hb id).trans f0
      have f1 := (HR.out.turns.cell (p := ⟨b, _, none⟩) hb id).trans f1
      have hbr : b < wr.heap.size := Nat.lt_of_lt_of_le hb HR.out.turns.size
      have hst := at_drop (c := c) hlt
      rw [HR.out.spec] at hst
      generalize fl[k] = x at f0 f1 hst
      simp only [strV] at f1
      obtain ⟨cx, hcx⟩ : ∃ cx : Int, (x.1.toNat : Int) = cx := ⟨_, rfl⟩
      rw [hcx] at f0
      have HEQ := Lib.hid (show x.1 = c ↔ cx = ci by rw [Px.u8_eq, ← HCI.out, ← hcx]; omega)
      have HST := Lib.hid hst
      clear hst hcx hcs hb
      by_cases hx : cx = ci
      · have e1 : (cx == ci) = true := by simpa using hx
        have HE := Lib.hid (HST.out.trans (if_pos (HEQ.out.2 hx)))
        clear hx
        go_wp2_with fail
        refine bodyPost_ret (results_tmp2 rfl _ _ _) rfl ?_
        exact ⟨by rw [HE.out]; rfl, HR.out.turns⟩
      · have e1 : (cx == ci) = false := by simpa using hx
        have HN := Lib.hid (show RVRel w wr #[.string nm, .slice (some ⟨b, off, none⟩) fl.length cp, .slice A2 n2 c2, .int .i64 line] fl c (k + 1) from ⟨hlt, HR.out.box, (HST.out.trans (if_neg fun e => hx (HEQ.out.1 e))).symm, HR.out.turns⟩)
        clear hx
        go_wp2_with fail
        go_roundw
        case rel => exact ⟨k + 1, by go_num, HN.out⟩
        case measure => simp [intOf]; omega
    · have HE := Lib.hid (show Px.at_ fl c = none by
        rw [← HR.out.spec, List.drop_eq_nil_of_le (by omega)]
        rfl)
      go_wp2_with fail
      refine bodyPost_ret (results_tmp2 rfl _ _ _) rfl ?_
      exact ⟨by rw [HE.out]; rfl, HR.out.turns⟩
/-- the command and the code that words come to -/
def cOf : Except Int Px.Cmd → Px.Cmd
  | .ok c => c
  | .error _ => ⟨[], [], [], 0⟩
def kOf : Except Int Px.Cmd → Int
  | .ok _ => 0
  | .error k => k
theorem words_val {w w' : World} {R : Except Int Px.Cmd} {e : Ending} (h : WordsPost w R e w') : Turns Nothing w w' ∧ ∃ fv av, e = .returned (.tuple #[.agg #[.string ⟨(cOf R).name.toArray⟩, fv, av, .int .i64 (cOf R).line], .int .i64 (kOf R)]) ∧ FlagsAt w' fv (cOf R).flags ∧ TextsAt w' av (cOf R).args := by
  refine ⟨h.1, ?_⟩
  have h2 := h.2
  cases R with
  | error k => exact ⟨_, _, h2, ⟨⟨_, _, rfl, fun h => absurd h (Nat.lt_irrefl 0)⟩, Nat.zero_le _⟩, ⟨⟨_, _, rfl, fun h => absurd h (Nat.lt_irrefl 0)⟩⟩⟩
  | ok c =>
    obtain ⟨cv, he, fv, av, rfl, hf, ha⟩ := h2
    exact ⟨fv, av, he, own_flags hf, own_texts ha⟩
theorem words_few (l0 : List Px.PW) : (cOf (Px.words l0)).flags.length ≤ 1000 ∧ (cOf (Px.words l0)).args.length ≤ l0.length := by
  unfold Px.words
  cases l0 with
  | nil => exact ⟨Nat.zero_le _, Nat.zero_le _⟩
  | cons x l =>
    dsimp only
    split
    · exact ⟨Nat.zero_le _, Nat.zero_le _⟩
    · split
      · exact ⟨Nat.zero_le _, Nat.zero_le _⟩
      · rename_i r _
        split
        · exact ⟨Nat.zero_le _, Nat.zero_le _⟩
        · rename_i rest m hfl
          split
          · exact ⟨Nat.zero_le _, Nat.zero_le _⟩
          · have h1 := Px.sorted_len (Px.flagsN_sorted (m := []) .nil hfl)
            have h2 := flags_len hfl
            refine ⟨by show m.length ≤ _; omega, ?_⟩
            show (rest.map _).length ≤ _
            rw [List.length_map, List.length_cons]
            omega
set_option maxHeartbeats 4000000 in
theorem pwords_true {w : World} (hsp : Space w) {v : Value} {l0 : List Px.PW} (hl : PWordsAt w v l0) (hmax : l0.length ≤ 1048576) (c : UInt8) :
    Calls Tryz.prog 3 #[v, .int .u8 c.toNat] w fun e w' => e = .returned (.bool true) ∧ Turns Nothing w w' := by
  have HL := Lib.hid hl
  have HSP := Lib.hid hsp
  have HW := Lib.hid (fun W (h : Turns Nothing w W) => (words_in (HSP.out.still h) v l0 (HL.out.still h) (by omega)).mono fun _ _ => words_val)
  have HR := Lib.hid (fun W (h : Turns Nothing w W) => (dwords_in v l0 (HL.out.still h) (by omega)).mono fun _ _ => words_val)
  have hfew := words_few l0
  generalize Px.words l0 = R at HW HR hfew
  obtain ⟨⟨name, fl, args, line⟩, hC⟩ : ∃ C, cOf R = C := ⟨_, rfl⟩
  rw [hC] at HW HR hfew
  dsimp only at HW HR hfew
  generalize kOf R = k at HW HR
  have hfl : fl.length ≤ 1000 := hfew.1
  have hal : args.length ≤ 1050000 := by have := hfew.2; omega
  obtain ⟨A0, c0, hv, -⟩ := hl.at_
  subst hv
  have HFW := Lib.hid (And.intro hfl hal)
  obtain ⟨nm, hnm⟩ : ∃ nm : ByteArray, nm = ⟨name.toArray⟩ := ⟨_, rfl⟩
  rw [← hnm] at HW HR
  have hval := fun W fv av (hf : FlagsAt W fv fl) (ha : ∃ A n cp, av = Value.slice A n cp) => value_of (nm := nm) (line := line) c hf ha
  have hrval := fun W fv av (hf : FlagsAt W fv fl) (ha : ∃ A n cp, av = Value.slice A n cp) => rvalue_in (nm := nm) (line := line) c hf ha
  have hhas := fun W fv av (hf : FlagsAt W fv fl) (ha : ∃ A n cp, av = Value.slice A n cp) => has_of (nm := nm) (line := line) c hf ha
  obtain ⟨tx, htx⟩ : ∃ tx, strV ((Px.at_ fl c).getD []) = .string tx := ⟨_, rfl⟩
  rw [htx] at hval hrval
  generalize (Px.at_ fl c).isSome = bb at hval hrval hhas
  have HVA := Lib.hid hval
  have HRV := Lib.hid hrval
  have HHA := Lib.hid hhas
  clear hl hsp hfew hmax hfl hal hC hnm hval hrval hhas htx
  go_enter Tryz.func3, Tryz.ntmps3
  go_wp2_with fail
  refine (pshown_true HSP.out).mono ?_
  rintro e w1 ⟨rfl, ht⟩
  have T1 := Lib.hid ht
  clear ht
  go_wp2_with fail
  refine (HW.out _ T1.out).mono ?_
  rintro e w2 ⟨ht, fv, av, rfl, hf, ha⟩
  obtain ⟨fA, fc, rfl, -⟩ := hf.at_
  obtain ⟨rA, rc, rfl, -⟩ := ha.at_
  have T2 := Lib.hid ((T1.out.same ht).alloc (.cells #[.string nm, .slice fA fl.length fc, .slice rA args.length rc, .int .i64 line] 27))
  have B2 := Lib.hid (Blk.new w2 27 #[.string nm, .slice fA fl.length fc, .slice rA args.length rc, .int .i64 line])
  have V2 := Lib.hid (And.intro (hf.still ((Turns.refl Nothing w2).alloc (.cells #[.string nm, .slice fA fl.length fc, .slice rA args.length rc, .int .i64 line] 27))) (ha.still ((Turns.refl Nothing w2).alloc (.cells #[.string nm, .slice fA fl.length fc, .slice rA args.length rc, .int .i64 line] 27))))
  clear ht hf ha T1
  go_wp2_with fail
  refine (HR.out _ T2.out).mono ?_
  rintro e w3 ⟨ht, fv', av', rfl, hf', ha'⟩
  obtain ⟨fA', fc', rfl, -⟩ := hf'.at_
  obtain ⟨rA', rc', rfl, -⟩ := ha'.at_
  have Tn := (Turns.refl Nothing w3).alloc (.cells #[.string nm, .slice fA' fl.length fc', .slice rA' args.length rc', .int .i64 line] 27)
  have T3 := Lib.hid ((T2.out.same ht).same Tn)
  have B3 := Lib.hid (And.intro (Tn.blk (ht.blk B2.out id) id) (Blk.new w3 27 #[.string nm, .slice fA' fl.length fc', .slice rA' args.length rc', .int .i64 line]))
  have V3 := Lib.hid (And.intro (And.intro ((V2.out.1.still ht).still Tn) ((V2.out.2.still ht).still Tn)) (And.intro (hf'.still Tn) (ha'.still Tn)))
  have hz3 := (ht.blk B2.out id).lt
  clear ht hf' ha' T2 V2 Tn
  obtain ⟨x0, x1, x2, x3, x4⟩ := box_cells B3.out.1
  clear B2
  go_wp2_with fail
  generalize hw4 : (w3.alloc (.cells #[.string nm, .slice fA' fl.length fc', .slice rA' args.length rc', .int .i64 line] 27)) = w4 at T3 B3 V3 x0 x1 x2 x3 x4 ⊢
  clear hw4
  refine (lsame_in V3.out.1.1 V3.out.1.2 V3.out.2.1 V3.out.2.2 HFW.out.1 HFW.out.2).mono ?_
  rintro e w5 ⟨rfl, ht⟩
  have T5 := Lib.hid (T3.out.same ht)
  have B5 := Lib.hid (And.intro (ht.blk B3.out.1 id) (ht.blk B3.out.2 id))
  have V5 := Lib.hid (And.intro (V3.out.1.1.still ht) (V3.out.2.1.still ht))
  clear ht x0 x1 x2 x3 x4
  obtain ⟨x0, x1, x2, x3, x4⟩ := box_cells B5.out.1
  go_wp2_with fail
  refine (HVA.out _ _ _ V5.out.1 ⟨_, _, _, rfl⟩).mono ?_
  rintro e w6 ⟨rfl, ht⟩
  have T6 := Lib.hid (T5.out.same ht)
  have B6 := Lib.hid (And.intro (ht.blk B5.out.1 id) (ht.blk B5.out.2 id))
  have V6 := Lib.hid (And.intro (V5.out.1.still ht) (V5.out.2.still ht))
  clear ht x0 x1 x2 x3 x4
  obtain ⟨x0, x1, x2, x3, x4⟩ := box_cells B6.out.2
  go_wp2_with fail
  refine (HRV.out _ _ _ V6.out.2 ⟨_, _, _, rfl⟩).mono ?_
  rintro e w7 ⟨rfl, ht⟩
  have T7 := Lib.hid (T6.out.same ht)
  have B7 := Lib.hid (ht.blk B6.out.1 id)
  have V7 := Lib.hid (V6.out.1.still ht)
  clear ht x0 x1 x2 x3 x4
  obtain ⟨x0, x1, x2, x3, x4⟩ := box_cells B7.out
  go_wp2_with fail
  refine (HHA.out _ _ _ V7.out ⟨_, _, _, rfl⟩).mono ?_
  rintro e w8 ⟨rfl, ht⟩
  have T8 := Lib.hid (T7.out.same ht)
  clear ht x0 x1 x2 x3 x4
  go_wp2_with fail
  go_ret
  exact ⟨rfl, T8.out⟩
end Go.Proofs.YtedlhdegdlabhaaGreatDoor
