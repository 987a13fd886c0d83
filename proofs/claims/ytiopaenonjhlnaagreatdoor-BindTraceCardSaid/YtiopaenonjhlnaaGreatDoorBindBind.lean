/- Package bind: Bind, walked. -/
import Derived.Test.YtiopaenonjhlnaaGreatDoorBindTabP
namespace Go.Proofs.YtiopaenonjhlnaaGreatDoor
set_option maxRecDepth 8000
open Go.RowKit
open Lx (Bytes)

/-- the table behind Bind -/
def afterB (T : List Bx.Bd) (b : Bx.Bd) (E : Int) : List Bx.Bd := if E = 0 then Bx.put T (Bx.bareB b) else T
theorem afterB_no {T : List Bx.Bd} {b : Bx.Bd} {E : Int} (h : E ≠ 0) : afterB T b E = T := if_neg h
theorem afterB_yes {T : List Bx.Bd} {b : Bx.Bd} : afterB T b 0 = Bx.put T (Bx.bareB b) := if_pos rfl
theorem place_cells {w : World} {b : Nat} {t : Value} {c m : Int} (h : Blk w b 78 #[t, .int .i64 c, .int .i64 m]) : w.cell? ⟨b, 0, none⟩ = some t ∧ w.cell? ⟨b, 1, none⟩ = some (.int .i64 c) ∧ w.cell? ⟨b, 2, none⟩ = some (.int .i64 m) ∧ b < w.heap.size := ⟨h.cell 0, h.cell 1, h.cell 2, h.lt⟩
set_option maxHeartbeats 8000000 in
theorem bind_in {w : World} {P M : Nat} {T : List Bx.Bd} (h : TabAt w P M T) (hsp : Space w) (b : Bx.Bd) {Ag : Option Addr} {cp : Nat} {Z : List (Value × List CQ)} (hG : GroupsRd w (.slice Ag Z.length cp) Z) (hZ : plainG Z = b.list) (hF : FitL b.list) (hp : okP (Bx.place b)) (_hn : b.note.length ≤ 9223372036854775807) :
    Calls Tryz.prog 10 #[.pointer (some ⟨P, 0, none⟩), bdV b (.slice Ag Z.length cp)] w fun e w' =>
      e = .returned (.int .i64 (Bx.bindE T b)) ∧ TabAt w' P M (afterB T b (Bx.bindE T b)) ∧ Turns (Only M) w w' := by
  have HNE := Lib.hid h.ne
  obtain ⟨mm, D, hm⟩ := h.tab
  have HM := Lib.hid hm
  have HSP := Lib.hid (fun W (ht : Turns Nothing w W) => hsp.still ht)
  have hlk := fun W (ht : Turns Nothing w W) => (hm.still ht).look (t := b.table) (k := b.key) hp
  have HGB := Lib.hid (fun (h1 : Bx.nameOk b.table = true) (h2 : Bx.right b.key = true) (h3 : b.note.length ≤ 64) => show GoodB (Bx.bareB b) from ⟨h1, h2, h3, hF.strip, strip_strip b.list⟩)
  have HBE := Lib.hid (show Bx.bindE T b = if !Bx.nameOk b.table then 6 else if !Bx.right b.key then 1 else if 64 < b.note.length then 2 else if (Bx.find T b.table b.key).isNone && decide (500 ≤ T.length) then 3 else 0 from rfl)
  have HLN := Lib.hid hm.len
  have HSZ := Lib.hid hm.map.size
  generalize Bx.bindE T b = E at HBE ⊢
  have HPT := Lib.hid h.ptr
  have HP := Lib.hid hp
  have HKO := Lib.hid (keyP_of hp)
  have HGR := Lib.hid (And.intro hG (And.intro hZ hF))
  obtain ⟨vt, vc, vm, vr, vn, vA, vN, vC, hv0⟩ := look_form (hm.looked b.table b.key)
  rw [hv0] at hlk
  have HVD := Lib.hid (show ∀ x, bdV (Bx.bareB b) x = .agg #[.string ⟨b.table.toArray⟩, .int .i64 b.key.code, .int .i64 b.key.mods, .bool b.rep, .string ⟨b.note.toArray⟩, x] from fun _ => rfl)
  have hVD : ∀ x, bdV b x = .agg #[.string ⟨b.table.toArray⟩, .int .i64 b.key.code, .int .i64 b.key.mods, .bool b.rep, .string ⟨b.note.toArray⟩, x] := fun _ => rfl
  have hpv : Bx.placeV (b.table, b.key) = .agg #[.string ⟨b.table.toArray⟩, .int .i64 b.key.code, .int .i64 b.key.mods] := rfl
  have HPV := Lib.hid (show Bx.placeV (Bx.place b) = .agg #[.string ⟨b.table.toArray⟩, .int .i64 b.key.code, .int .i64 b.key.mods] from rfl)
  rw [hVD]
  simp only [hpv] at hlk
  have hts : b.table.length ≤ maxLen := hp.1
  have HST := Lib.hid (show sl ⟨b.table.toArray⟩ = b.table from rfl)
  have HSN := Lib.hid (show (⟨b.note.toArray⟩ : ByteArray).size = b.note.length by simp [ByteArray.size])
  have hbt : (⟨b.table.toArray⟩ : ByteArray).size ≤ 9223372036854775807 := by
    have : (⟨b.table.toArray⟩ : ByteArray).size = b.table.length := by simp [ByteArray.size]
    rw [this]; unfold maxLen at hts; omega
  have hkb : b.key = ⟨b.key.code, b.key.mods⟩ := rfl
  have HRT := Lib.hid (fun W (ht : Turns Nothing w W) => kright_in (HSP.out W ht) b.key.code b.key.mods)
  rw [HPV.out] at HKO
  clear hVD hpv hv0 hts
  generalize (⟨b.table.toArray⟩ : ByteArray) = t at hlk HVD HST HKO hbt HPV ⊢
  generalize (⟨b.note.toArray⟩ : ByteArray) = nt at HVD HSN ⊢
  rw [← HST.out] at hlk
  have HNM := Lib.hid (fun W => tname_in t W hbt)
  rw [HST.out] at HNM hlk
  rw [show Bx.right ⟨b.key.code, b.key.mods⟩ = Bx.right b.key from rfl] at HRT
  generalize hr1 : Bx.nameOk b.table = nb at HBE HNM
  generalize hr2 : Bx.right b.key = rb at HBE HRT
  generalize hr3 : b.note.length = nl at HBE HSN
  have HR1 := Lib.hid hr1
  have HR2 := Lib.hid hr2
  have HR3 := Lib.hid hr3
  generalize b.key.code = c at *
  generalize b.key.mods = m at *
  generalize b.rep = rp at *
  have hfs : (Bx.find T b.table b.key).isNone = !(Bx.find T b.table b.key).isSome := by cases Bx.find T b.table b.key <;> rfl
  rw [hfs] at HBE
  clear hfs
  generalize hr4 : (Bx.find T b.table b.key).isSome = fb at hlk HBE
  have HR4 := Lib.hid hr4
  obtain ⟨n0, hn0⟩ : ∃ n0, n0 = Z.length := ⟨_, rfl⟩
  rw [← hn0] at HGR
  rw [← hn0]
  clear hr1 hr2 hr3 hr4 h hm hsp hG hZ hF hp hn0
  have HLK2 := Lib.hid hlk
  clear hlk
  have B1 := Lib.hid ((Blk.new w 34 #[.string t, .int .i64 c, .int .i64 m, .bool rp, .string nt, .slice Ag n0 cp]).alloc (.cells #[.string t, .int .i64 c, .int .i64 m] 78))
  have B2 := Lib.hid (Blk.new (w.alloc (.cells #[.string t, .int .i64 c, .int .i64 m, .bool rp, .string nt, .slice Ag n0 cp] 34)) 78 #[.string t, .int .i64 c, .int .i64 m])
  rw [show (w.alloc (.cells #[.string t, .int .i64 c, .int .i64 m, .bool rp, .string nt, .slice Ag n0 cp] 34)).heap.size = w.heap.size + 1 by simp [go_sem]] at B2
  have T2 := Lib.hid (((Turns.refl Nothing w).alloc (.cells #[.string t, .int .i64 c, .int .i64 m, .bool rp, .string nt, .slice Ag n0 cp] 34)).alloc (.cells #[.string t, .int .i64 c, .int .i64 m] 78))
  go_enter Tryz.func10, Tryz.ntmps10
  go_wp2_with fail
  generalize (w.alloc (.cells #[.string t, .int .i64 c, .int .i64 m, .bool rp, .string nt, .slice Ag n0 cp] 34)).alloc (.cells #[.string t, .int .i64 c, .int .i64 m] 78) = w2 at *
  have HS := Lib.hid (fun W (ht : Turns Nothing w2 W) => show W.cell? ⟨P, 0, none⟩ = some (.map (some M)) ∧ W.cell? ⟨w.heap.size + 1, 0, none⟩ = some (.string t) ∧ W.cell? ⟨w.heap.size + 1, 1, none⟩ = some (.int .i64 c) ∧ W.cell? ⟨w.heap.size + 1, 2, none⟩ = some (.int .i64 m) ∧ (Instr.lookup 58 (.map (some M)) (.agg #[.string t, .int .i64 c, .int .i64 m]) true).run Tryz.prog W = .ok (.tuple #[.agg #[.string vt, .int .i64 vc, .int .i64 vm, .bool vr, .string vn, .slice vA vN vC], .bool fb]) W ∧ Turns Nothing w2 W from
    ⟨((T2.out.same ht).blk HPT.out id).cell 0, (ht.blk B2.out id).cell 0, (ht.blk B2.out id).cell 1, (ht.blk B2.out id).cell 2, HLK2.out W (T2.out.same ht), ht⟩)
  go_cut [7] (fun s7 wx => s7 = .bool fb ∧ Turns Nothing w2 wx)
  case first =>
    obtain ⟨x0, x1, x2, x3, x4, x5⟩ := HS.out w2.drew ((Turns.refl _ w2).drewN 1)
    go_region_held3 (fun W => W.cell? ⟨P, 0, none⟩ = some (.map (some M)) ∧ W.cell? ⟨w.heap.size + 1, 0, none⟩ = some (.string t) ∧ W.cell? ⟨w.heap.size + 1, 1, none⟩ = some (.int .i64 c) ∧ W.cell? ⟨w.heap.size + 1, 2, none⟩ = some (.int .i64 m) ∧ (Instr.lookup 58 (.map (some M)) (.agg #[.string t, .int .i64 c, .int .i64 m]) true).run Tryz.prog W = .ok (.tuple #[.agg #[.string vt, .int .i64 vc, .int .i64 vm, .bool vr, .string vn, .slice vA vN vC], .bool fb]) W ∧ Turns Nothing w2 W)
      (first
        | (go_split_ands; exact HS.out _ (Turns.alloc (by assumption) _))
        | exact HS.out _ (by assumption)
        | exact HS.out _ (((Turns.refl _ w2).alloc _).drewN 1)
        | go_keep)
      (fail)
    all_goals
      go_wp2_with fail
      go_meet
      exact ⟨rfl, ((Turns.refl Nothing w2).alloc _).drewN 1⟩
  case rest =>
    obtain ⟨rfl, hT3⟩ := hcut
    have T3 := Lib.hid (T2.out.same hT3)
    have B3 := Lib.hid (hT3.blk B1.out id)
    have B4 := Lib.hid (hT3.blk B2.out id)
    clear hT3 HS HLK2
    generalize wc = w3 at B3 B4 T3 ⊢
    obtain ⟨x0, x1, x2, x3, x4, x5, xf, xz⟩ := bd_cells B3.out
    clear xf
    go_wp2_with fail
    refine (HNM.out _).mono ?_
    rintro e w4 ⟨rfl, ht⟩
    have T4 := Lib.hid (T3.out.same ht)
    have B5 := Lib.hid (ht.blk B3.out id)
    have B6 := Lib.hid (ht.blk B4.out id)
    clear x0 x1 x2 x3 x4 x5 xz ht B3 B4 T3
    obtain ⟨x0, x1, x2, x3, x4, x5, xf, xz⟩ := bd_cells B5.out
    clear xf
    cases nb with
    | false =>
      go_wp2_with fail
      go_ret
      obtain rfl : E = 6 := HBE.out
      rw [afterB_no (by decide)]
      refine ⟨rfl, ⟨T4.out.blk HPT.out id, mm, D, HM.out.still T4.out⟩, T4.out.mono fun _ _ e => e.elim⟩
    | true =>
      go_wp2_with fail
      refine (HRT.out _ T4.out).mono ?_
      rintro e w5 ⟨rfl, ht⟩
      have T5 := Lib.hid (T4.out.same ht)
      have B7 := Lib.hid (ht.blk B5.out id)
      have B8 := Lib.hid (ht.blk B6.out id)
      clear x0 x1 x2 x3 x4 x5 xz ht B5 B6 T4
      obtain ⟨x0, x1, x2, x3, x4, x5, xf, xz⟩ := bd_cells B7.out
      cases rb with
      | false =>
        clear xf
        go_wp2_with fail
        go_ret
        obtain rfl : E = 1 := HBE.out
        rw [afterB_no (by decide)]
        refine ⟨rfl, ⟨T5.out.blk HPT.out id, mm, D, HM.out.still T5.out⟩, T5.out.mono fun _ _ e => e.elim⟩
      | true =>
        by_cases hl : 64 < nl
        · have d1 : decide ((64 : Int) < nt.size) = true := decide_eq_true (by rw [HSN.out]; omega)
          have HE := Lib.hid (show E = 2 by rw [HBE.out]; simp [hl])
          clear xf hl
          go_wp2_with fail
          go_ret
          obtain rfl : E = 2 := HE.out
          rw [afterB_no (by decide)]
          refine ⟨rfl, ⟨T5.out.blk HPT.out id, mm, D, HM.out.still T5.out⟩, T5.out.mono fun _ _ e => e.elim⟩
        · have d1 : decide ((64 : Int) < nt.size) = false := decide_eq_false (by rw [HSN.out]; omega)
          have hE2 : E = if !fb && decide (500 ≤ T.length) then 3 else 0 := by rw [HBE.out]; simp [hl]
          have hGD : GoodB (Bx.bareB b) := HGB.out HR1.out HR2.out (by rw [HR3.out]; omega)
          have HGD := Lib.hid hGD
          clear hGD
          have hfin : (fb = false ∧ 500 ≤ T.length) ∨ (fb = true ∨ ¬ 500 ≤ T.length) := by
            cases fb with
            | true => exact .inr (.inl rfl)
            | false =>
              by_cases h5 : 500 ≤ T.length
              · exact .inl ⟨rfl, h5⟩
              · exact .inr (.inr h5)
          have hM5 := HM.out.still T5.out
          have hlen := hM5.map.own.len Tryz.underlying58 3
          rw [hM5.map.size, hM5.len] at hlen
          have p0 : w5.cell? ⟨P, 0, none⟩ = some (.map (some M)) := (T5.out.blk HPT.out id).cell 0
          have pz := (T5.out.blk HPT.out id).lt
          have f5 := xf 5
          have HE2 := Lib.hid hE2
          clear xf hl hM5 hE2
          rcases hfin with ⟨rfl, h5⟩ | h5
          · have d2 : decide ((500 : Int) ≤ T.length) = true := decide_eq_true (by omega)
            have HE := Lib.hid (show E = 3 by rw [HE2.out]; simp [h5])
            clear h5
            go_wp2_with fail
            go_ret
            obtain rfl : E = 3 := HE.out
            rw [afterB_no (by decide)]
            refine ⟨rfl, ⟨T5.out.blk HPT.out id, mm, D, HM.out.still T5.out⟩, T5.out.mono fun _ _ e => e.elim⟩
          · have hb0 : (!fb && decide (500 ≤ T.length)) = false := by
              rcases h5 with rfl | h5
              · rfl
              · rw [decide_eq_false h5]; simp
            have HE := Lib.hid (show E = 0 by rw [HE2.out, hb0]; rfl)
            have HFEW := Lib.hid (show (Bx.find T (Bx.bareB b).table (Bx.bareB b).key).isSome = true ∨ T.length < 500 from by
              have e : (Bx.find T (Bx.bareB b).table (Bx.bareB b).key).isSome = fb := HR4.out
              rw [e]
              rcases h5 with h | h
              · exact .inl h
              · exact .inr (by omega))
            have hfin : fb = true ∨ (fb = false ∧ decide ((500 : Int) ≤ T.length) = false) := by
              cases fb with
              | true => exact .inl rfl
              | false =>
                have h6 : ¬ 500 ≤ T.length := h5.resolve_left (by decide)
                exact .inr ⟨rfl, decide_eq_false (by omega)⟩
            clear hb0
            rcases hfin with rfl | ⟨rfl, d2⟩
            all_goals
              clear h5
              go_wp2_with fail
              refine (bare_in (w := w5) (Z := Z) (HGR.out.1.still T5.out) (FitL.bare (by rw [HGR.out.2.1]; exact HGR.out.2.2))).mono ?_
              rintro e w6 ⟨gv', Z', rfl, hg', hp', ht⟩
              obtain ⟨A', c', rfl⟩ := own_slice hg'.outer
              have T6 := Lib.hid (T5.out.same ht)
              have HT5 := Lib.hid (T5.out)
              have B9 := Lib.hid ((ht.blk B7.out id).set_ 5 (.slice A' Z'.length c'))
              have B10 := Lib.hid ((ht.blk B8.out id).far (p := ⟨w.heap.size, 5, none⟩) (by simp) (.slice A' Z'.length c'))
              have T7 := Lib.hid (T6.out.setCell (p := ⟨w.heap.size, 5, none⟩) (.inr (Nat.le_refl _)) (.slice A' Z'.length c'))
              have HB5 := B7.out.lt
              have HG6 := Lib.hid (And.intro (hg'.keep ((Turns.refl (Only w.heap.size) w6).setCell (p := ⟨w.heap.size, 5, none⟩) (.inl rfl) (.slice A' Z'.length c')) fun b e => by have e : b = w.heap.size := e; omega) hp')
              clear x0 x1 x2 x3 x4 x5 xz p0 pz f5 hlen
              have x5 : w6.cell? ⟨w.heap.size, 5, none⟩ = some (.slice Ag n0 cp) := (ht.blk B7.out id).cell 5
              have f5 : w6.frozen? ⟨w.heap.size, 5, none⟩ = false := (ht.blk B7.out id).frozen 5
              have xz : w.heap.size < w6.heap.size := (ht.blk B7.out id).lt
              clear ht hg' hp'
              go_upto_region 12 with fail
              clear x5 f5 xz
              generalize w6.setCell ⟨w.heap.size, 5, none⟩ (.slice A' Z'.length c') = w7 at *
              have p0 : w7.cell? ⟨P, 0, none⟩ = some (.map (some M)) := (T7.out.blk HPT.out id).cell 0
              have pz := (T7.out.blk HPT.out id).lt
              obtain ⟨x0, x1, x2, x3, x4, x5, xf, xz⟩ := bd_cells B9.out
              obtain ⟨y0, y1, y2, yz⟩ := place_cells B10.out
              clear xf
              go_still_tail 6, (by kernel_rfl)
              change wpList _ _ _ _ _ w7.drew
              have T8 := Lib.hid (T7.out.drewN 1)
              change Hid (Turns Nothing w w7.drew) at T8
              have HG8 := Lib.hid (And.intro (HG6.out.1.still ((Turns.refl Nothing w7).drewN 1)) HG6.out.2)
              change Hid (GAt w7.drew _ _ _ ∧ _) at HG8
              have HM8 := Lib.hid (HM.out.still T8.out)
              clear p0 pz x0 x1 x2 x3 x4 x5 xz y0 y1 y2 yz B7 B8 B9 B10
              have hbase : M + 1 ≤ w5.heap.size := by have := (HM.out.still T5.out).map.lt; exact this
              have HBA := Lib.hid hbase
              have hlt : mm.length < maxLen := by
                have h1 := HM.out.len
                have h2 := HM.out.few
                unfold maxLen
                omega
              have HB8 := Lib.hid (show BdAt w7.drew (M + 1) (bdV (Bx.bareB b) (.slice A' Z'.length c')) (Bx.bareB b) from ⟨_, Z', rfl, HG8.out.1.weak hbase, by rw [HG8.out.2, HGR.out.2.1]; rfl⟩)
              rw [HVD.out] at HB8
              generalize w7.drew = w8 at *
              refine wpList_mapUpdate_in _ rfl _ _ _ 58 rfl 78 34 A.place_law Tryz.underlying58 elemR M mm.length D rfl HM8.out.map.own hlt _ _ (keyP (Bx.place b)) rfl rfl HKO.out (.held (.agg #[.string t, .int .i64 c, .int .i64 m, .bool rp, .string nt, .slice A' Z'.length c'])) [] rfl ?_
              intro w9 hown hturn
              have H9 := Lib.hid (And.intro hown (turned hturn))
              clear hown hturn
              go_wp2_with fail
              go_ret
              have hTT : Turns (Only M) w w9 := (T8.out.mono fun _ _ e => e.elim).trans H9.out.2 fun b _ e => e
              have hBd : BdAt w9 (M + 1) (.agg #[.string t, .int .i64 c, .int .i64 m, .bool rp, .string nt, .slice A' Z'.length c']) (Bx.bareB b) := by
                obtain ⟨gv, Z2, e1, e2, e3⟩ := HB8.out
                exact ⟨gv, Z2, e1, e2.keep H9.out.2 fun b e => by have e : b = M := e; omega, e3⟩
              obtain rfl : E = 0 := HE.out
              rw [afterB_yes]
              refine ⟨rfl, ⟨hTT.blk HPT.out (fun e => HNE.out e), _, _, HM8.out.put HGD.out ?_ H9.out.1 H9.out.2 hBd⟩, hTT⟩
              exact HFEW.out
end Go.Proofs.YtiopaenonjhlnaaGreatDoor
