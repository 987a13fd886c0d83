/- The walk of the law ParsePrints: it answers true, for commands of small bulk. ParsePrints, the given statement for arguments of small bulk: whatever the commands, the law returns true and its argument reads as it did. -/
import Derived.Test.YtedlhdegdlabhaaGreatDoorParseShown
import Derived.Test.YtedlhdegdlabhaaGreatDoorRefPrints
import Derived.Test.YtedlhdegdlabhaaGreatDoorParsePutLaw
import Derived.Deep.RegionHeld3
import Derived.Test.YtedlhdegdlabhaaGreatDoorParsePrintsOpen
import Derived.ChangeMaps5
import Derived.Deep.DeepHandedRow
import Derived.Deep.DeepLaidRun
namespace Go.Proofs.YtedlhdegdlabhaaGreatDoor
set_option maxRecDepth 8000
open Go.RowKit
open Lx (Bytes)

theorem keep_turns {w w1 w2 : World} (ht : Turns Nothing w1 w2) (h1 : Turns Nothing w w1) : Turns Nothing w w2 := h1.same ht
theorem keep_cell {w w1 w2 : World} {b o : Nat} {v : Value} (hb : b < w.heap.size) (ht : Turns Nothing w1 w2) (h1 : Turns Nothing w w1) (hc : w1.cell? ⟨b, o, none⟩ = some v) : w2.cell? ⟨b, o, none⟩ = some v :=
  (ht.cell (p := ⟨b, o, none⟩) (Nat.lt_of_lt_of_le hb h1.size) id).trans hc
theorem cost_fit {c : Px.Cmd} {N : Nat} (h : Px.costC c ≤ N) (hN : N ≤ 1048576) : OneFit c := by
  have e : Px.costC c = c.name.length + Px.costF c.flags + Px.costA c.args + 5 := rfl
  have hf := Px.costF_len c.flags
  have ha := Px.costA_len c.args
  refine ⟨⟨by have := hf.1; omega, fun f h => by have := hf.2 f h; omega⟩, ⟨by have := ha.1; omega, fun a h => by have := ha.2 a h; omega⟩⟩
theorem one_turns {w : World} {nm : ByteArray} {fv av : Value} {line : Int} {fl : List Px.Fl} {args : List Bytes} (hf : FlagsAt w fv fl) (hav : TextsAt w av args) (h : OneFit ⟨sl nm, fl, args, line⟩) :
    Calls Tryz.prog 12 #[.agg #[.string nm, fv, av, .int .i64 line]] w fun e w' => e = .returned (.string ⟨(Px.one ⟨sl nm, fl, args, line⟩).toArray⟩) ∧ Turns Nothing w w' := by
  refine (one_in hf hav h.fl h.ar).mono ?_
  rintro e w' ⟨u, rfl, hu, ht⟩
  have : u = ⟨(Px.one ⟨sl nm, fl, args, line⟩).toArray⟩ := sl_inj (hu.trans rfl)
  exact ⟨by rw [this], ht⟩
theorem rone_turns {w : World} {nm : ByteArray} {fv av : Value} {line : Int} {fl : List Px.Fl} {args : List Bytes} (hf : FlagsAt w fv fl) (hav : TextsAt w av args) (h : OneFit ⟨sl nm, fl, args, line⟩) :
    Calls Tryz.prog 13 #[.agg #[.string nm, fv, av, .int .i64 line]] w fun e w' => e = .returned (.string ⟨(Px.one ⟨sl nm, fl, args, line⟩).toArray⟩) ∧ Turns Nothing w w' := by
  refine (rone_in hf hav h.fl h.ar).mono ?_
  rintro e w' ⟨u, rfl, hu, ht⟩
  have : u = ⟨(Px.one ⟨sl nm, fl, args, line⟩).toArray⟩ := sl_inj (hu.trans rfl)
  exact ⟨by rw [this], ht⟩
set_option maxHeartbeats 4000000 in
theorem prints_true {w : World} (hsp : Space w) {gv : Value} {Z : List (Value × List CQ)} (h : GroupsRd w gv Z) (hc : Px.costZ (plainG Z) ≤ 1048576) :
    Calls Tryz.prog 4 #[gv] w fun e w' => e = .returned (.bool true) ∧ Turns Nothing w w' := by
  have HG := Lib.hid h
  have hcl := Px.costZ_len (plainG Z)
  have hpl : (plainG Z).length = Z.length := by simp [plainG]
  have hmem : ∀ z ∈ Z, z.2.map (·.1) ∈ plainG Z := fun z hz => List.mem_map_of_mem hz
  have hf : ∀ z ∈ Z, ∀ q ∈ z.2, OneFit q.1 := fun z hz q hq => cost_fit ((hcl.2 _ (hmem z hz)).2 q.1 (List.mem_map_of_mem hq)) hc
  have hn : Z.length ≤ 1050000 ∧ ∀ z ∈ Z, z.2.length ≤ 1050000 := ⟨by have := hcl.1; omega, fun z hz => by
    have := (hcl.2 _ (hmem z hz)).1
    rw [List.length_map] at this
    omega⟩
  have hz : (Px.print (plainG Z)).length ≤ 100000000000000 := by have := Px.print_cost (plainG Z); omega
  have HF := Lib.hid (And.intro hf (And.intro hn hz))
  obtain ⟨A, c, rfl, hat⟩ := h.at_
  have HAT := Lib.hid hat
  have HSP := Lib.hid hsp
  have hzl : (Z.length : Int) ≤ 1050000 := by have := hn.1; omega
  clear h hcl hpl hmem hf hn hz hc hat hsp
  go_enter Tryz.func4, Tryz.ntmps4
  go_wp2_with fail
  refine (pshown_true HSP.out).mono ?_
  rintro e w1 ⟨rfl, ht⟩
  have T1 := Lib.hid ht
  clear ht
  go_wp2_with fail
  go_loopw [4] (fun i wr => ∃ k : Nat, i = .int .i64 k ∧ k ≤ Z.length ∧ Turns Nothing w wr) (fun i _ => Z.length - (intOf i).toNat)
  case atStart => exact ⟨0, rfl, Nat.zero_le _, T1.out⟩
  case round =>
    obtain ⟨k, rfl, hk, hR⟩ := hrel
    by_cases hlt : k < Z.length
    · obtain ⟨g, off, rfl, hg, hcell⟩ := HAT.out (by omega)
      have p0 := (hR.cell (p := ⟨g, _, none⟩) hg id).trans (hcell k hlt)
      have hgr : g < wr.heap.size := Nat.lt_of_lt_of_le hg hR.size
      have hrow := (HG.out.still hR).each _ (List.getElem_mem hlt)
      have hZ2 := HF.out.2.1.2 _ (List.getElem_mem hlt)
      have hfine := HF.out.1 _ (List.getElem_mem hlt)
      generalize Z[k] = z at p0 hrow hZ2 hfine
      obtain ⟨z1, l⟩ := z
      dsimp only at p0 hrow hZ2 hfine
      obtain ⟨⟨A2, c2, rfl, hcm⟩, hft⟩ := hrow
      have HCM := Lib.hid (And.intro hcm hft)
      have HFI := Lib.hid hfine
      have hll : (l.length : Int) ≤ 1050000 := by omega
      have HR := Lib.hid hR
      have HGR := Lib.hid hgr
      have HP0 := Lib.hid p0
      clear hR hcell hg hcm hft hfine hZ2 p0 hgr
      generalize hw1 : wr = w2 at *
      clear hw1
      go_wp2_with fail
      go_loopw [5] (fun j wr => ∃ n : Nat, j = .int .i64 n ∧ n ≤ l.length ∧ Turns Nothing w2 wr) (fun j _ => l.length - (intOf j).toNat)
      case atStart => exact ⟨0, rfl, Nat.zero_le _, Turns.refl _ _⟩
      case round =>
        obtain ⟨n, rfl, hn, hO⟩ := hrel
        have hgr : g < wr.heap.size := Nat.lt_of_lt_of_le HGR.out hO.size
        have p0 := (hO.cell (p := ⟨g, _, none⟩) HGR.out id).trans HP0.out
        by_cases hn2 : n < l.length
        · obtain ⟨b, off2, rfl, hb, hcells⟩ := HCM.out.1 (by omega)
          obtain ⟨q0, q1, q2, q3⟩ := hcells n hn2
          obtain ⟨hFl, hTx⟩ := HCM.out.2 _ (List.getElem_mem hn2)
          have hfq := HFI.out _ (List.getElem_mem hn2)
          generalize l[n] = q at q0 q1 q2 q3 hFl hTx hfq
          obtain ⟨cq, fv, av⟩ := q
          dsimp only at q0 q1 q2 q3 hFl hTx hfq
          obtain ⟨nm, hnm⟩ : ∃ nm : ByteArray, nm = ⟨cq.name.toArray⟩ := ⟨_, rfl⟩
          have q0 := (hO.cell (p := ⟨b, _, none⟩) hb id).trans q0
          have q1 := (hO.cell (p := ⟨b, _, none⟩) hb id).trans q1
          have q2 := (hO.cell (p := ⟨b, _, none⟩) hb id).trans q2
          have q3 := (hO.cell (p := ⟨b, _, none⟩) hb id).trans q3
          have hbr : b < wr.heap.size := Nat.lt_of_lt_of_le hb hO.size
          simp only [strV] at q0
          rw [← hnm] at q0
          have hcq : (⟨sl nm, cq.flags, cq.args, cq.line⟩ : Px.Cmd) = cq := by rw [hnm]; rfl
          have HO := Lib.hid hO
          have HFl := Lib.hid (hFl.still hO)
          have HTx := Lib.hid (hTx.still hO)
          have h1 : ∀ W, Turns Nothing wr W → Calls Tryz.prog 12 #[.agg #[.string nm, fv, av, .int .i64 cq.line]] W fun e w' => e = .returned (.string ⟨(Px.one cq).toArray⟩) ∧ Turns Nothing W w' := fun W hW => by
            have := one_turns (nm := nm) (line := cq.line) (HFl.out.still hW) (HTx.out.still hW) (by rw [hcq]; exact hfq)
            rw [hcq] at this
            exact this
          have h2 : ∀ W, Turns Nothing wr W → Calls Tryz.prog 13 #[.agg #[.string nm, fv, av, .int .i64 cq.line]] W fun e w' => e = .returned (.string ⟨(Px.one cq).toArray⟩) ∧ Turns Nothing W w' := fun W hW => by
            have := rone_turns (nm := nm) (line := cq.line) (HFl.out.still hW) (HTx.out.still hW) (by rw [hcq]; exact hfq)
            rw [hcq] at this
            exact this
          generalize (⟨(Px.one cq).toArray⟩ : ByteArray) = U at h1 h2
          obtain ⟨fA, fc, rfl, -⟩ := hFl.at_
          obtain ⟨rA, rc, rfl, -⟩ := hTx.at_
          generalize cq.line = ln at q3 h1 h2
          generalize cq.flags.length = fn at q1 h1 h2
          generalize cq.args.length = an at q2 h1 h2
          have H1 := Lib.hid h1
          have H2 := Lib.hid h2
          clear hO hFl hTx hfq hb hcells hcq HFl HTx h1 h2 hnm
          go_wp2_with fail
          have T0 : Turns Nothing wr wr.drew := ⟨rfl, rfl, rfl, Nat.le_refl _, fun _ _ _ => rfl⟩
          have p0 : wr.drew.cell? ⟨g, off + k, none⟩ = some (.slice (some ⟨b, off2, none⟩) l.length c2) := p0
          have q0 : wr.drew.cell? ⟨b, off2 + n * 4, none⟩ = some (.string nm) := q0
          have q1 : wr.drew.cell? ⟨b, off2 + n * 4 + 1, none⟩ = some (.slice fA fn fc) := q1
          have q2 : wr.drew.cell? ⟨b, off2 + n * 4 + 2, none⟩ = some (.slice rA an rc) := q2
          have q3 : wr.drew.cell? ⟨b, off2 + n * 4 + 3, none⟩ = some (.int .i64 ln) := q3
          go_region_held3 (fun w' => w'.cell? ⟨g, off + k, none⟩ = some (.slice (some ⟨b, off2, none⟩) l.length c2) ∧ w'.cell? ⟨b, off2 + n * 4, none⟩ = some (.string nm) ∧ w'.cell? ⟨b, off2 + n * 4 + 1, none⟩ = some (.slice fA fn fc) ∧ w'.cell? ⟨b, off2 + n * 4 + 2, none⟩ = some (.slice rA an rc) ∧ w'.cell? ⟨b, off2 + n * 4 + 3, none⟩ = some (.int .i64 ln) ∧ Turns Nothing wr w')
            (first
              | (go_split_ands; refine ⟨?_, ?_, ?_, ?_, ?_, ?_⟩; (exact keep_cell hgr (by assumption) (by assumption) (by assumption)); (exact keep_cell hbr (by assumption) (by assumption) (by assumption)); (exact keep_cell hbr (by assumption) (by assumption) (by assumption)); (exact keep_cell hbr (by assumption) (by assumption) (by assumption)); (exact keep_cell hbr (by assumption) (by assumption) (by assumption)); (exact keep_turns (by assumption) (by assumption)))
              | exact ⟨by assumption, by assumption, by assumption, by assumption, by assumption, by assumption⟩
              | go_keep)
            (first
              | (go_at_call 12; go_split_ands; refine (H1.out _ (by assumption)).mono ?_; rintro e w4 ⟨rfl, ht⟩)
              | (go_at_call 13; go_split_ands; refine (H2.out _ (by assumption)).mono ?_; rintro e w4 ⟨rfl, ht⟩))
          go_split_ands
          go_wp2_with fail
          go_roundw
          case rel => exact ⟨n + 1, by go_num, hn2, HO.out.same (by first | assumption | exact keep_turns (by assumption) (by assumption))⟩
          case measure => simp [intOf]; omega
        · have HO := Lib.hid hO
          clear hO
          go_wp2_with fail
          go_roundw
          case rel => exact ⟨k + 1, by go_num, hlt, HR.out.same HO.out⟩
          case measure => simp [intOf]; omega
    · have HR := Lib.hid hR
      clear hR
      go_wp2_with fail
      refine (print_rd (HG.out.still HR.out) HF.out.1 HF.out.2.1 HF.out.2.2).mono ?_
      rintro e w5 ⟨u, rfl, hu, ht⟩
      have H5 := Lib.hid (HR.out.same ht)
      have HU := Lib.hid hu
      clear ht hu
      go_wp2_with fail
      refine (rprint_in (HG.out.still H5.out) HF.out.1 HF.out.2.1 HF.out.2.2).mono ?_
      rintro e w6 ⟨u', rfl, hu', ht⟩
      obtain rfl : u = u' := sl_inj (HU.out.trans hu'.symm)
      have H6 := Lib.hid (H5.out.same ht)
      clear ht hu'
      go_wp2_with fail
      go_ret
      exact ⟨rfl, H6.out⟩
end Go.Proofs.YtedlhdegdlabhaaGreatDoor
namespace Go.Proofs.YtedlhdegdlabhaaGreatDoor.parsePrints
open Go.ChangeShapes Go.WideShapes Go.ChangeAt Go.RowKit Go.Deep Go.ChangeMaps

set_option maxRecDepth 100000 in
/-- what the walk gives, for every argument and every world -/
theorem contract (H : Type) (enc : TypeId × Value → H) (W : World) (base : Nat) (args : Array Value) (ds gs : List (DataW H)) (before : List MemPlace)
    (hval : ∀ (j : Nat) t v, Tryz.f4.params[j]? = some t → args[j]? = some v → Value.okWide Tryz.prog W .any base t v)
    (hW : DataW.Whole enc Tryz.prog Tryz.f4.params.toList Rows.parsePrintsSpec.vars false W args.toList ds gs before)
    (hk : Rows.uptoSmall H (ds ++ gs) = true) (hL : laidMetH Tryz.prog listed W) :
    Calls Tryz.prog 4 args W fun e W' => ∃ v, e = .returned v ∧ Rows.parsePrintsSpec.post enc Tryz.prog Tryz.f4 false true false false W args v W' := by
  have hW' := hW
  obtain ⟨p, q, hA0, hV, rfl, hfz, hnd⟩ := hW
  have hA : DataW.TrodAll enc Tryz.prog W 0 (fun _ => true) true Tryz.f4.params.toList args.toList ds p := hA0
  rw [Tryz.params4] at hA hval
  obtain ⟨v0, d0, rfl, rfl, h0⟩ := trodAll_one hA
  obtain ⟨rfl, rfl⟩ := trodVars_none hV
  clear hA0
  simp only [List.append_nil] at hW' hk
  have hlt : ∀ x ∈ p, x.block < W.heap.size := fun x hx => by simpa using hW'.lt x hx
  have hb : Rows.uptoBulkAll [d0] ≤ 1048576 := of_decide_eq_true hk
  simp only [Rows.uptoBulkAll, Nat.add_zero] at hb
  obtain ⟨Z, hZ, hc⟩ := groups_open (hval 0 36 v0 rfl rfl) h0
  have hsp : Space W := space_of_laid (by rw [MakeChecks.laidMetH_plain _ _ _ listed_plain] at hL; exact hL)
  refine (prints_true hsp hZ (Nat.le_trans hc hb)).mono fun e W' ⟨he, ht⟩ => ?_
  subst he
  have hb := ht.keep
  exact ⟨_, rfl, _, _, _, [], p, [], hW', trodAll_cons_mk (shut_bool Tryz.underlying4 _) trodAll_mk0,
    trodAll_mk1 (Below.trod laidOut (by kernel_rfl) (of_decide_eq_true (by kernel_rfl)) h0 hb hlt),
    rfl, hb.frame _, fun h => by cases h⟩
set_option maxRecDepth 100000 in
theorem reads (os : Os) {H : Type} (enc : TypeId × Value → H) : ∃ places, DataW.whole enc Tryz.prog ((World.laidAll Tryz.prog os listed).forCall (fun _ _ => 0) ⟨#[], #[.slice none 0 0], []⟩).memory Tryz.f4.params.toList Rows.parsePrintsSpec.vars false #[Value.slice none 0 0].toList 8 = some ([.nil], [], places) :=
  ⟨[], by kernel_rfl⟩
set_option maxRecDepth 100000 in
theorem fits (os : Os) : Input.okWideB Tryz.prog ((World.laidAll Tryz.prog os listed).forCall (fun _ _ => 0) ⟨#[], #[.slice none 0 0], []⟩) 4 ⟨#[], #[.slice none 0 0], []⟩ = true := by kernel_rfl
set_option maxRecDepth 100000 in
theorem lifted (os : Os) (started : os.Started) (H : Type) (enc : TypeId × Value → H) (F : Stop.Interp) :
    ReturnsInHanded {} Tryz.checked os 4 .any ((Rows.OpenSpec.upto Rows.parsePrintsSpec).preRow enc Tryz.prog Tryz.f4 Rows.parsePrintsUptoRow.domain false Rows.parsePrintsUptoRow.laid) (((Rows.OpenSpec.upto Rows.parsePrintsSpec).at F).post enc Tryz.prog Tryz.f4 false true false false) := by
  obtain ⟨places, hx⟩ := reads os enc
  refine returnsInHanded_of_row (C := Tryz.checked) (s := Rows.OpenSpec.upto Rows.parsePrintsSpec) own started (by kernel_rfl) Tryz.func4
    ⟨World.laidAll Tryz.prog os listed, fun _ _ => 0, ⟨#[], #[.slice none 0 0], []⟩, World.laidAll_os _ _ _, start_shaped os _, (Input.okWide_of_okWideB (base := 0) (fits os)).1, (Input.okWide_of_okWideB (fits os)).2,
      OpenSpec.preRow_of_cond 8 hx (by kernel_rfl) (fun k hk => by cases hk; kernel_rfl) (by kernel_rfl) (start_met os _), by
        simp only [Assume.holds]
        exact ⟨by simp, by simp, fun _ => Modest.zero, by simp, by simp⟩⟩ ?_
  intro W base args ds gs before hval hW _ hcond _ hL _ _
  exact contract H enc W base args ds gs before hval hW (hcond _ rfl) hL
theorem said : Rows.ParsePrintsUptoSaid :=
  OpenClaim.holds_of_cond 4 Tryz.f4 rfl rfl rfl rfl rfl rfl rfl ⟨rfl, rfl, rfl, rfl, rfl⟩ rfl rfl rfl rfl rfl (by kernel_rfl) Tryz.func4 prints_facts
    (of_decide_eq_true (by kernel_rfl)) (by unfold Func.isWrapper; first | (rw [if_pos (by decide +kernel)]; kernel_rfl) | (rw [if_neg (by decide +kernel)]; exact ⟨rfl, rfl⟩))
    (fun os started H enc _ F => by rw [OpenClaim.pre_eq_preRow]; exact lifted os started H enc F)
theorem plain (f : FuncId) (fn : Func) (hf : Tryz.pinned.checked.prog.funcNamed "mullion/mullionlaw12.ParsePrints" = some f) (hfn : Tryz.pinned.checked.prog.funcs[f]? = some fn) :
    true = Tryz.pinned.checked.prog.looks [] ∧ ∀ (j : Nat) t, fn.params[j]? = some t → Tryz.pinned.checked.prog.wantsStandIn t = false := by
  obtain rfl : f = 4 := Option.some.inj ((show Tryz.prog.funcNamed "mullion/mullionlaw12.ParsePrints" = some 4 by kernel_rfl).symm.trans hf) |>.symm
  obtain rfl : fn = Tryz.f4 := (Option.some.inj (Tryz.func4.symm.trans hfn)).symm
  refine ⟨by kernel_rfl, fun j t ht => ?_⟩
  rw [Tryz.params4] at ht
  have hm := Array.mem_of_getElem? ht
  obtain rfl : t = 36 := by simpa using hm
  exact (show Tryz.prog.wantsStandIn 36 = false by kernel_rfl)
/-- THE CARD: ParsePrints returns true for every row of rows of commands of bulk at most 1048576. -/
theorem card : Rows.ParsePrintsUptoCardSaid :=
  Claim7.holds_tied_plain_at .later [] _ _ _ _ said (fun _ h => by cases h) (by kernel_rfl) (fun _ h => by cases h) parsePrintsUpto_row_tie rfl ⟨rfl, rfl⟩ (by kernel_rfl) rfl plain (by kernel_rfl)
end Go.Proofs.YtedlhdegdlabhaaGreatDoor.parsePrints
