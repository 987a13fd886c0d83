/- The walks of package lex's reader: text. -/
import Derived.Test.YtiopaenonjhlnaaGreatDoorLexQuoted
import Derived.StillTailTactics
import Derived.Laws.BytesArg
namespace Go.Proofs.YtiopaenonjhlnaaGreatDoor
set_option maxRecDepth 8000
open Go.RowKit
open Lx (Bytes)

/-- the bytes of a row of the call's own, as a string -/
theorem conv_own {w : World} {B : Nat} {tx : Value} {t : Bytes} (h : w.ownsRow B 5 1 tx t.length (u8s t)) : (convert 64 9 tx).run Tryz.prog w = .ok (.string ⟨t.toArray⟩) w := by
  obtain ⟨A, cp, hv⟩ := own_slice h
  subst hv
  cases A with
  | none =>
    rcases h.2 with ⟨e, hn⟩ | ⟨g, cap, cur, hv, _⟩
    · have : t = [] := List.eq_nil_of_length_eq_zero hn
      subst this
      exact run_convert_bytes_nil (P := Tryz.prog) w 64 5 Tryz.underlying64 Tryz.underlying5 0 cp 9 Tryz.underlying9
    · cases hv
  | some a =>
    have ha : a = ⟨a.block, 0, none⟩ := by
      rcases h.2 with ⟨e, _⟩ | ⟨g, cap, cur, hv, _⟩
      · cases e
      · injection hv with e _ _; injection e with e; rw [e]
    refine run_convert_bytes_back (P := Tryz.prog) w 64 9 5 a cp t Tryz.underlying64 Tryz.underlying5 Tryz.underlying9 ?_
    intro j hj
    rw [ha]
    refine h.cells (g := a.block) rfl j _ ?_
    simp [u8s, List.getElem?_eq_getElem hj]

theorem results_cell {fn : Func} {p : Tmp} {ty : TypeId} (h : fn.results = #[.cell p ty]) (tmps : Array Value) (P : Program) (w : World) (a : Addr) (ha : tmps.getD p undef = .pointer (some a)) :
    (results fn tmps).run P w = (loadVar ty a).run P w := by
  simp only [results, h]
  simp only [Array.getD_eq_getD_getElem?] at ha
  simp [ha, asAddr]
theorem load_word (w : World) (g : Nat) (v0 v1 v2 : Value) (h : Blk w g 104 #[v0, v1, v2]) : (loadVar 104 ⟨g, 0, none⟩).run Tryz.prog w = .ok (.agg #[v0, v1, v2]) w := by
  have d0 := h.cell 0
  have d1 := h.cell 1
  have d2 := h.cell 2
  clear h
  simp at d0 d1 d2
  simp [go_sem, d0, d1, d2]
def TCells : Array Value := #[.string ⟨#[]⟩, .int .i64 0, .bool false]
/-- what a word comes to -/
def TextPost (w : World) (c : Cfg) (tx : Value) (r : Lx.Res (Bytes × Bytes)) (e : Ending) (w' : World) : Prop := match r with
  | .ok x => e = .returned (.agg #[.string ⟨x.1.toArray⟩, .int .i64 c.wl, .bool false]) ∧ ∃ k' tx', (sl c.s).drop k' = x.2 ∧ Step w c tx k' x.1 w' tx'
  | .error m => e = .panicked (trouble m c.wl) ∧ Turns (TS c.R tx) w w'
def T0 (w : World) : World := w.alloc (.cells TCells 104)
theorem T0_step {w : World} {c : Cfg} {k : Nat} {tx : Value} {t : Bytes} (h : Ctx w c k tx t) : Step w c tx k t (T0 w) tx := (Step.refl h).alloc _
theorem T0_not {w : World} {c : Cfg} {k : Nat} {tx : Value} {t : Bytes} (h : Ctx w c k tx t) : ¬ TS c.R tx w.heap.size := by
  rintro (e | e)
  · have := h.ltR; omega
  · have := (h.txB _ e).2; omega
theorem T0_res {w w1 : World} {c : Cfg} {k1 : Nat} {tx tx1 : Value} {t1 : Bytes} (hn : ¬ TS c.R tx w.heap.size) (h : Step (T0 w) c tx k1 t1 w1 tx1) : Blk w1 w.heap.size 104 TCells :=
  h.turns.blk (Blk.new w _ _) hn
theorem T0_text {w : World} {c : Cfg} {k : Nat} {tx : Value} {t : Bytes} (h : Ctx w c k tx t) {res : Lx.Res (Bytes × Bytes)} {ch : List PanicEntry} {w' : World} (hw : WordPost (T0 w) c tx res (.panicked ch) w') : TextPost w c tx res (.panicked ch) w' := by
  cases res with
  | error m => exact ⟨hw.1, (T0_step h).turns.txs (T0_step h).near hw.2⟩
  | ok x => obtain ⟨e, _⟩ := hw; cases e
structure TLoop (w : World) (c : Cfg) (k : Nat) (tx : Value) (res : Lx.Res (Bytes × Bytes)) (g : Nat) (wr : World) (j : Nat) (t1 : Bytes) (tx1 : Value) : Prop where
  meas : c.s.size - j = g
  le : k ≤ j
  step : Step (T0 w) c tx j t1 wr tx1
  spec : Lx.word (envOf c.es) (decide (j = k)) t1 ((sl c.s).drop j) = res
theorem Step.setRes {w w1 : World} {c : Cfg} {tx tx1 : Value} {k1 : Nat} {t1 : Bytes} (h : Step w c tx k1 t1 w1 tx1) {g : Nat} {cs : Array Value} (hb : Blk w1 g 104 cs) (hB : c.B ≤ w.heap.size) (hg : w.heap.size ≤ g) (i : Nat) (v : Value) :
    Step w c tx k1 t1 (w1.setCell ⟨g, i, none⟩ v) tx1 := by
  have hT : Turns (Only g) w1 (w1.setCell ⟨g, i, none⟩ v) := (Turns.refl (Only g) w1).setCell (p := ⟨g, i, none⟩) (.inl rfl) v
  have hR : ¬ Only g c.R := fun e => hb.ne_ h.ctx.blk (by decide) e.symm
  refine ⟨⟨hT.blk h.ctx.blk hR, h.ctx.hB, h.ctx.size, h.ctx.le, hT.own h.ctx.own fun b hb' e => own_blk_ne h.ctx.own hb (by decide) (by rw [hb', e]), h.ctx.long, h.ctx.env.keep fun p hp => hT.cell (by have := h.ctx.hB; have := h.ctx.ltR; omega) (fun e => by
    have e2 : p.block = g := e
    omega)⟩, h.turns.setCell (.inr hg) _, h.near⟩

def sK (G : Bytes → Bytes → Lx.Res (Bytes × Bytes)) (r : Lx.Res (Bytes × Bytes)) : Lx.Res (Bytes × Bytes) := match r with
  | .error m => .error m
  | .ok (t', r') => G t' r'
theorem single_k {G : Bytes → Bytes → Lx.Res (Bytes × Bytes)} {t : Bytes} {y : UInt8} {r : Bytes} (h : ¬ y = 39) :
    sK G (Lx.single t (y :: r)) = match Lx.put t [y] with | .error m => .error m | .ok t2 => sK G (Lx.single t2 r) := by
  rw [Lx.single.eq_2, if_neg h]
  cases Lx.put t [y] <;> rfl
structure ILoop (w : World) (c : Cfg) (tx : Value) (res : Lx.Res (Bytes × Bytes)) (j1 g : Nat) (wi : World) (y : UInt8) (jj : Nat) (tt : Bytes) (txx : Value) : Prop where
  meas : c.s.size + 1 - jj = g
  lt : j1 < jj
  step : Step (T0 w) c tx jj tt wi txx
  spec : sK (fun t' r' => Lx.word (envOf c.es) false t' r') (Lx.single tt (y :: (sl c.s).drop jj)) = res
set_option maxRecDepth 100000 in
set_option maxHeartbeats 8000000 in
theorem text_in {w : World} {c : Cfg} {k : Nat} {tx : Value} {t : Bytes} (h : Ctx w c k tx t) (res : Lx.Res (Bytes × Bytes)) (hres : Lx.word (envOf c.es) true t ((sl c.s).drop k) = res) :
    Calls Tryz.prog 92 #[.pointer (some ⟨c.R, 0, none⟩)] w (TextPost w c tx res) := by
  have h2 := h.c2
  have hR := h.ltR
  have hN := Lib.hid (T0_not h)
  have H := Lib.hid h
  have HS := Lib.hid hres
  clear h hres
  go_enter Tryz.func92, Tryz.ntmps92
  go_wp2_with fail
  go_loopg [5] (c.s.size - k) (fun g _ wr => ∃ j t1 tx1, TLoop w c k tx res g wr j t1 tx1)
  case atStart => exact ⟨k, t, tx, rfl, Nat.le_refl _, Step.refl (T0_step H.out).ctx, by simpa using HS.out⟩
  case round =>
    clear h2 HS
    obtain ⟨j, t1, tx1, hT⟩ := hrel
    have hov := Lib.hid (over_any hT.step.ctx)
    have HT := Lib.hid hT
    cases ho : Lx.over ((sl c.s).drop j) with
    | true =>
      rw [ho] at hov
      have hres : res = .ok (t1, (sl c.s).drop j) := by rw [← hT.spec, Lx.word_over _ _ _ _ ho]
      have HE := Lib.hid hres
      clear hT ho hres
      go_wp2_with fail
      refine hov.out.mono ?_
      rintro e w1 ⟨rfl, n, rfl⟩
      clear hov
      have h1 := Lib.hid (HT.out.step.drewN n)
      have hb1 := Lib.hid (T0_res hN.out h1.out)
      generalize wr.drewN n = w1 at h1 hb1
      have c4 := h1.out.ctx.c4
      have c5 := h1.out.ctx.c5
      have c0 := hb1.out.cell 0
      have c1 := hb1.out.cell 1
      have c2 := hb1.out.cell 2
      have f0 := hb1.out.frozen 0
      have f1 := hb1.out.frozen 1
      have f2 := hb1.out.frozen 2
      simp only [TCells] at c0 c1 c2
      have hcv := conv_own h1.out.ctx.own
      have hcvd : (convert 64 9 tx1).run Tryz.prog w1.drew = .ok (.string ⟨t1.toArray⟩) w1.drew := conv_own (h1.out.ctx.drewN 1).own
      have hne : w.heap.size ≠ c.R := by omega
      go_wp2_with fail
      go_region
      all_goals
        go_wp2_with fail
        have hB : c.B ≤ w.heap.size := by have := h1.out.ctx.hB; omega
        have b1 := hb1.out.set_ 0 (.string ⟨t1.toArray⟩)
        have h1 := (T0_step H.out).trans h1.out
        have s1 := h1.setRes hb1.out hB (Nat.le_refl _) 0 (.string ⟨t1.toArray⟩)
        have b2 := b1.set_ 1 (.int .i64 c.wl)
        have s2 := s1.setRes b1 hB (Nat.le_refl _) 1 (.int .i64 c.wl)
        have b3 := b2.set_ 2 (.bool false)
        have s3 := s2.setRes b2 hB (Nat.le_refl _) 2 (.bool false)
        have b4 : Blk _ w.heap.size 104 #[.string ⟨t1.toArray⟩, .int .i64 c.wl, .bool false] := b3
        refine bodyPost_ret (v := .agg #[.string ⟨t1.toArray⟩, .int .i64 c.wl, .bool false]) ?_ rfl ?_
        · exact (results_cell Tryz.results92 _ _ _ ⟨w.heap.size, 0, none⟩ rfl).trans (load_word _ _ _ _ _ (b4.drewN 1))
        · rw [HE.out]
          exact ⟨rfl, j, tx1, rfl, s3.drewN 1⟩
    | false =>
      rw [ho] at hov
      rcases hd : (sl c.s).drop j with _ | ⟨b, r⟩
      · rw [hd] at ho; cases ho
      have hq := hT.spec
      rw [hd] at ho
      rw [hd, Lx.word_cons _ _ _ _ _ ho] at hq
      have hd' := Lib.hid hd
      have hlt := Lib.hid (drop_lt hd)
      have HD := Lib.hid (drop_head hd).2
      clear hT ho hd
      have hf : decide (j = k) = ((j : Int) == (k : Int)) := by rw [Bool.eq_iff_iff]; simp; omega
      rw [hf] at hq
      generalize hff : ((j : Int) == (k : Int)) = f at hq
      by_cases h39 : b = 39
      · subst h39
        rw [if_pos rfl] at hq
        have HQ := Lib.hid hq
        clear hq hf
        go_wp2_with fail
        refine hov.out.mono ?_
        rintro e w1 ⟨rfl, n, rfl⟩
        have h1 := Lib.hid (HT.out.step.drewN n)
        generalize wr.drewN n = w1 at h1
        have c2 := h1.out.ctx.c2
        clear hov
        go_wp2_with fail
        clear c2
        refine (next_some h1.out.ctx hd'.out).mono ?_
        rintro e w2 ⟨rfl, hs⟩
        have h2 := Lib.hid (h1.out.trans hs)
        clear hs h1
        go_wp2_with fail
        rcases r with _ | ⟨x, r⟩
        · have HE := Lib.hid (show res = .error 4 from HQ.out.symm)
          refine (next_none h2.out.ctx HD.out).mono ?_
          rintro e w3 ⟨rfl, ht⟩
          exact ⟨rfl, T0_text H.out (by rw [HE.out]; exact ⟨rfl, h2.out.turns.txs h2.out.near ht⟩)⟩
        have hlt2 := Lib.hid (drop_lt HD.out)
        have HD2 := Lib.hid (drop_head HD.out).2
        refine (next_some h2.out.ctx HD.out).mono ?_
        rintro e w3 ⟨rfl, hs⟩
        have h3 := Lib.hid (h2.out.trans hs)
        clear hs h2
        go_wp2_with fail
        go_loopg [5] (c.s.size + 1 - (j + 1 + 1)) (fun g s5 wi => ∃ y jj tt txx, s5 = .int .u8 y.toNat ∧ ILoop w c tx res (j + 1) g wi y jj tt txx)
        case atStart => exact ⟨x, j + 1 + 1, t1, tx1, rfl, rfl, by omega, h3.out, by rw [HD2.out]; exact HQ.out⟩
        case round =>
          clear HQ h3 hd' HD HD2
          obtain ⟨y, jj, tt, txx, rfl, hI⟩ := hrel
          have HI := Lib.hid hI
          have hsp := hI.spec
          clear hI
          by_cases h39 : y = 39
          · subst h39
            have hsp2 : Lx.word (envOf c.es) false tt ((sl c.s).drop jj) = res := hsp
            have HP := Lib.hid hsp2
            clear hsp hsp2
            go_wp2_with fail
            go_roundg (c.s.size - jj)
            case measure => have := HT.out.meas; have := HI.out.lt; have := hlt.out; omega
            case rel => exact ⟨jj, tt, txx, rfl, by have := HT.out.le; have := HI.out.lt; omega, HI.out.step, by rw [decide_eq_false (by have := HT.out.le; have := HI.out.lt; omega)]; exact HP.out⟩
          have e39 : ((y.toNat : Int) != 39) = true := u8_bne (m := 39) h39
          rw [single_k h39] at hsp
          have HP := Lib.hid hsp
          clear hsp h39
          have hcv := conv_one wr y
          go_wp2_with fail
          clear hcv
          refine (put_cases (HI.out.step.alloc _) ⟨#[y]⟩ (str_one _) (fun t2 => sK (fun t' r' => Lx.word (envOf c.es) false t' r') (Lx.single t2 ((sl c.s).drop jj))) res HP.out).mono ?_
          rintro e w5 (⟨ch, rfl, hw⟩ | ⟨t2, tx2, rfl, hst2, hq2⟩)
          · exact ⟨rfl, T0_text H.out hw⟩
          have HE := Lib.hid (And.intro hst2 hq2)
          clear hst2 hq2
          go_wp2_with fail
          rcases hd : (sl c.s).drop jj with _ | ⟨z, r2⟩
          · have hq := HE.out.2
            rw [hd] at hq
            have HZ := Lib.hid (show res = .error 4 from hq.symm)
            refine (next_none HE.out.1.ctx hd).mono ?_
            rintro e w3 ⟨rfl, ht⟩
            exact ⟨rfl, T0_text H.out (by rw [HZ.out]; exact ⟨rfl, HE.out.1.turns.txs HE.out.1.near ht⟩)⟩
          have hlt3 := Lib.hid (drop_lt hd)
          have HD3 := Lib.hid (drop_head hd).2
          have hq := HE.out.2
          rw [hd] at hq
          have HZ := Lib.hid hq
          refine (next_some HE.out.1.ctx hd).mono ?_
          rintro e w6 ⟨rfl, hs⟩
          have h6 := Lib.hid (HE.out.1.trans hs)
          clear hs hd hq HE
          go_wp2_with fail
          go_roundg (c.s.size + 1 - (jj + 1))
          case measure => have := HI.out.meas; have := hlt3.out; omega
          case rel => exact ⟨z, jj + 1, t2, tx2, rfl, rfl, by have := HI.out.lt; omega, h6.out, by rw [HD3.out]; exact HZ.out⟩
      rw [if_neg h39] at hq
      by_cases h34 : b = 34
      · subst h34
        rw [if_pos rfl] at hq
        have HQ := Lib.hid hq
        clear hq h39 hf
        go_wp2_with fail
        refine hov.out.mono ?_
        rintro e w1 ⟨rfl, n, rfl⟩
        have h1 := Lib.hid (HT.out.step.drewN n)
        generalize wr.drewN n = w1 at h1
        have c2 := h1.out.ctx.c2
        clear hov
        go_wp2_with fail
        clear c2
        refine (next_some h1.out.ctx hd'.out).mono ?_
        rintro e w2 ⟨rfl, hs⟩
        have h2 := Lib.hid (h1.out.trans hs)
        clear hs h1
        go_wp2_with fail
        refine (quoted_cases h2.out r HD.out (fun t' r' => Lx.word (envOf c.es) false t' r') res HQ.out).mono ?_
        rintro e w3 (⟨ch, rfl, hw⟩ | ⟨t2, k2, tx2, rfl, hst2, hk2, hq2⟩)
        · exact ⟨rfl, T0_text H.out hw⟩
        have HE := Lib.hid (And.intro hst2 hq2)
        clear hst2 hq2
        go_wp2_with fail
        go_roundg (c.s.size - k2)
        case measure => have := HT.out.meas; have := hlt.out; omega
        case rel => exact ⟨k2, t2, tx2, rfl, by have := HT.out.le; omega, HE.out.1, by rw [decide_eq_false (by have := HT.out.le; omega)]; exact HE.out.2⟩
      rw [if_neg h34] at hq
      by_cases h92 : b = 92
      · subst h92
        rw [if_pos rfl] at hq
        have HQ := Lib.hid hq
        clear hq h39 h34 hf
        go_wp2_with fail
        refine hov.out.mono ?_
        rintro e w1 ⟨rfl, n, rfl⟩
        have h1 := Lib.hid (HT.out.step.drewN n)
        generalize wr.drewN n = w1 at h1
        have c2 := h1.out.ctx.c2
        clear hov
        go_wp2_with fail
        clear c2
        refine (next_some h1.out.ctx hd'.out).mono ?_
        rintro e w2 ⟨rfl, hs⟩
        have h2 := Lib.hid (h1.out.trans hs)
        clear hs h1
        rcases r with _ | ⟨x, r⟩
        · have HE := Lib.hid (show res = .error 4 from HQ.out.symm)
          have HN := Lib.hid (next_none h2.out.ctx HD.out)
          clear HQ
          go_wp2_with fail
          refine HN.out.mono ?_
          rintro e w3 ⟨rfl, ht⟩
          exact ⟨rfl, T0_text H.out (by rw [HE.out]; exact ⟨rfl, h2.out.turns.txs h2.out.near ht⟩)⟩
        have hlt2 := Lib.hid (drop_lt HD.out)
        have HD2 := Lib.hid (drop_head HD.out).2
        have hq := HQ.out
        clear HQ
        dsimp only at hq
        go_wp2_with fail
        refine (next_some h2.out.ctx HD.out).mono ?_
        rintro e w3 ⟨rfl, hs⟩
        have h3 := Lib.hid (h2.out.trans hs)
        clear hs h2
        by_cases h10 : x = 10
        · subst h10
          rw [if_pos rfl] at hq
          have HE := Lib.hid (And.intro h3.out hq)
          clear hq
          go_wp2_with fail
          go_roundg (c.s.size - (j + 1 + 1))
          case measure => have := HT.out.meas; have := hlt2.out; omega
          case rel => exact ⟨j + 1 + 1, t1, tx1, rfl, by have := HT.out.le; omega, HE.out.1, by rw [decide_eq_false (by have := HT.out.le; omega), HD2.out]; exact HE.out.2⟩
        rw [if_neg h10] at hq
        have e10 : ((x.toNat : Int) != 10) = true := u8_bne (m := 10) h10
        have HQ := Lib.hid hq
        clear hq h10
        have hcv := conv_one w3 x
        go_wp2_with fail
        clear hcv
        refine (put_cases (h3.out.alloc _) ⟨#[x]⟩ (str_one _) (fun t2 => Lx.word (envOf c.es) false t2 r) res HQ.out).mono ?_
        rintro e w5 (⟨ch, rfl, hw⟩ | ⟨t2, tx2, rfl, hst2, hq2⟩)
        · exact ⟨rfl, T0_text H.out hw⟩
        have HE := Lib.hid (And.intro hst2 hq2)
        clear hst2 hq2
        go_wp2_with fail
        go_roundg (c.s.size - (j + 1 + 1))
        case measure => have := HT.out.meas; have := hlt2.out; omega
        case rel => exact ⟨j + 1 + 1, t2, tx2, rfl, by have := HT.out.le; omega, HE.out.1, by rw [decide_eq_false (by have := HT.out.le; omega), HD2.out]; exact HE.out.2⟩
      rw [if_neg h92] at hq
      by_cases h36 : b = 36
      · subst h36
        rw [if_pos rfl] at hq
        have HQ := Lib.hid hq
        clear hq h39 h34 h92 hf
        go_wp2_with fail
        refine hov.out.mono ?_
        rintro e w1 ⟨rfl, n, rfl⟩
        have h1 := Lib.hid (HT.out.step.drewN n)
        generalize wr.drewN n = w1 at h1
        have c2 := h1.out.ctx.c2
        clear hov
        go_wp2_with fail
        clear c2
        refine (next_some h1.out.ctx hd'.out).mono ?_
        rintro e w2 ⟨rfl, hs⟩
        have h2 := Lib.hid (h1.out.trans hs)
        clear hs h1
        go_wp2_with fail
        refine (dollar_cases h2.out r HD.out (fun t' r' => Lx.word (envOf c.es) false t' r') res HQ.out).mono ?_
        rintro e w3 (⟨ch, rfl, hw⟩ | ⟨t2, k2, tx2, rfl, hst2, hk2, hq2⟩)
        · exact ⟨rfl, T0_text H.out hw⟩
        have HE := Lib.hid (And.intro hst2 hq2)
        clear hst2 hq2
        go_wp2_with fail
        go_roundg (c.s.size - k2)
        case measure => have := HT.out.meas; have := hlt.out; omega
        case rel => exact ⟨k2, t2, tx2, rfl, by have := HT.out.le; omega, HE.out.1, by rw [decide_eq_false (by have := HT.out.le; omega)]; exact HE.out.2⟩
      rw [if_neg h36] at hq
      by_cases h126 : b = 126
      · subst h126
        cases f with
        | false =>
          rw [if_neg (by simp)] at hq
          have HQ := Lib.hid hq
          clear hq h39 h34 h92 h36 hf
          go_wp2_with fail
          refine hov.out.mono ?_
          rintro e w1 ⟨rfl, n, rfl⟩
          have h1 := Lib.hid (HT.out.step.drewN n)
          generalize wr.drewN n = w1 at h1
          have c2 := h1.out.ctx.c2
          clear hov
          go_wp2_with fail
          clear c2
          refine (next_some h1.out.ctx hd'.out).mono ?_
          rintro e w2 ⟨rfl, hs⟩
          have h2 := Lib.hid (h1.out.trans hs)
          clear hs h1
          go_wp2_with fail
          refine (peek_is h2.out.ctx).mono ?_
          rintro e w3 ⟨b', ok', -, rfl, n, rfl⟩
          have h4 := Lib.hid (h2.out.drewN n)
          generalize w2.drewN n = w3 at h4
          go_wp2_with fail
          refine (put_cases h4.out ⟨#[126]⟩ (by decide) (fun t2 => Lx.word (envOf c.es) false t2 r) res HQ.out).mono ?_
          rintro e w5 (⟨ch, rfl, hw⟩ | ⟨t2, tx2, rfl, hst2, hq2⟩)
          · exact ⟨rfl, T0_text H.out hw⟩
          have HE := Lib.hid (And.intro hst2 hq2)
          clear hst2 hq2
          go_wp2_with fail
          go_roundg (c.s.size - (j + 1))
          case measure => have := HT.out.meas; have := hlt.out; omega
          case rel => exact ⟨j + 1, t2, tx2, rfl, by have := HT.out.le; omega, HE.out.1, by rw [decide_eq_false (by have := HT.out.le; omega), HD.out]; exact HE.out.2⟩
        | true =>
          rcases r with _ | ⟨x, r⟩
          · rw [if_pos ⟨rfl, rfl, .inr rfl⟩] at hq
            have HQ := Lib.hid hq
            clear hq h39 h34 h92 h36 hf
            go_wp2_with fail
            refine hov.out.mono ?_
            rintro e w1 ⟨rfl, n, rfl⟩
            have h1 := Lib.hid (HT.out.step.drewN n)
            generalize wr.drewN n = w1 at h1
            have c2 := h1.out.ctx.c2
            clear hov
            go_wp2_with fail
            clear c2
            refine (next_some h1.out.ctx hd'.out).mono ?_
            rintro e w2 ⟨rfl, hs⟩
            have h2 := Lib.hid (h1.out.trans hs)
            clear hs h1
            go_wp2_with fail
            refine (peek_none h2.out.ctx HD.out).mono ?_
            rintro e w3 ⟨rfl, n, rfl⟩
            have h4 := Lib.hid (h2.out.drewN n)
            generalize w2.drewN n = w3 at h4
            have ho2 := over_any h4.out.ctx
            rw [HD.out] at ho2
            have HO := Lib.hid ho2
            clear ho2
            go_wp2_with fail
            refine HO.out.mono ?_
            rintro e w4 ⟨rfl, n, rfl⟩
            clear HO
            have h6 := Lib.hid (h4.out.drewN n)
            generalize w3.drewN n = w4 at h6
            go_wp2_with fail
            refine (value_any h6.out.ctx ⟨#[72, 79, 77, 69]⟩).mono ?_
            rintro e w4 ⟨v, rfl, hv⟩
            obtain ⟨y, rfl, hy, hys, hst⟩ := value_step h6.out hv
            have h5 := Lib.hid (And.intro hys hst)
            have hq := HQ.out
            rw [show Lx.value (envOf c.es) [72, 79, 77, 69] = sl y from hy.symm] at hq
            have HQ := Lib.hid hq
            clear hq hv hy hys hst
            go_wp2_with fail
            refine (put_cases h5.out.2 y h5.out.1 (fun t2 => Lx.word (envOf c.es) false t2 []) res HQ.out).mono ?_
            rintro e w5 (⟨ch, rfl, hw⟩ | ⟨t2, tx2, rfl, hst2, hq2⟩)
            · exact ⟨rfl, T0_text H.out hw⟩
            have HE := Lib.hid (And.intro hst2 hq2)
            clear hst2 hq2
            go_wp2_with fail
            go_roundg (c.s.size - (j + 1))
            case measure => have := HT.out.meas; have := hlt.out; omega
            case rel => exact ⟨j + 1, t2, tx2, rfl, by have := HT.out.le; omega, HE.out.1, by rw [decide_eq_false (by have := HT.out.le; omega), HD.out]; exact HE.out.2⟩
          by_cases h47 : x = 47
          · subst h47
            rw [if_pos ⟨rfl, rfl, .inl rfl⟩] at hq
            have HQ := Lib.hid hq
            clear hq h39 h34 h92 h36 hf
            go_wp2_with fail
            refine hov.out.mono ?_
            rintro e w1 ⟨rfl, n, rfl⟩
            have h1 := Lib.hid (HT.out.step.drewN n)
            generalize wr.drewN n = w1 at h1
            have c2 := h1.out.ctx.c2
            clear hov
            go_wp2_with fail
            clear c2
            refine (next_some h1.out.ctx hd'.out).mono ?_
            rintro e w2 ⟨rfl, hs⟩
            have h2 := Lib.hid (h1.out.trans hs)
            clear hs h1
            go_wp2_with fail
            refine (peek_some h2.out.ctx HD.out).mono ?_
            rintro e w3 ⟨rfl, n, rfl⟩
            have h4 := Lib.hid (h2.out.drewN n)
            generalize w2.drewN n = w3 at h4
            go_wp2_with fail
            refine (value_any h4.out.ctx ⟨#[72, 79, 77, 69]⟩).mono ?_
            rintro e w4 ⟨v, rfl, hv⟩
            obtain ⟨y, rfl, hy, hys, hst⟩ := value_step h4.out hv
            have h5 := Lib.hid (And.intro hys hst)
            have hq := HQ.out
            rw [show Lx.value (envOf c.es) [72, 79, 77, 69] = sl y from hy.symm] at hq
            have HQ := Lib.hid hq
            clear hq hv hy hys hst
            go_wp2_with fail
            refine (put_cases h5.out.2 y h5.out.1 (fun t2 => Lx.word (envOf c.es) false t2 (47 :: r)) res HQ.out).mono ?_
            rintro e w5 (⟨ch, rfl, hw⟩ | ⟨t2, tx2, rfl, hst2, hq2⟩)
            · exact ⟨rfl, T0_text H.out hw⟩
            have HE := Lib.hid (And.intro hst2 hq2)
            clear hst2 hq2
            go_wp2_with fail
            go_roundg (c.s.size - (j + 1))
            case measure => have := HT.out.meas; have := hlt.out; omega
            case rel => exact ⟨j + 1, t2, tx2, rfl, by have := HT.out.le; omega, HE.out.1, by rw [decide_eq_false (by have := HT.out.le; omega), HD.out]; exact HE.out.2⟩
          have e47 : ((x.toNat : Int) == 47) = false := u8_ne (m := 47) h47
          cases hov2 : Lx.over (x :: r) with
          | true =>
            rw [if_pos ⟨rfl, rfl, .inr hov2⟩] at hq
            have HQ := Lib.hid hq
            have HV := Lib.hid hov2
            clear hq h39 h34 h92 h36 hf h47 hov2
            go_wp2_with fail
            refine hov.out.mono ?_
            rintro e w1 ⟨rfl, n, rfl⟩
            have h1 := Lib.hid (HT.out.step.drewN n)
            generalize wr.drewN n = w1 at h1
            have c2 := h1.out.ctx.c2
            clear hov
            go_wp2_with fail
            clear c2
            refine (next_some h1.out.ctx hd'.out).mono ?_
            rintro e w2 ⟨rfl, hs⟩
            have h2 := Lib.hid (h1.out.trans hs)
            clear hs h1
            go_wp2_with fail
            refine (peek_some h2.out.ctx HD.out).mono ?_
            rintro e w3 ⟨rfl, n, rfl⟩
            have h4 := Lib.hid (h2.out.drewN n)
            generalize w2.drewN n = w3 at h4
            have ho2 := over_any h4.out.ctx
            rw [HD.out, HV.out] at ho2
            have HO := Lib.hid ho2
            clear ho2
            go_wp2_with fail
            refine HO.out.mono ?_
            rintro e w4 ⟨rfl, n, rfl⟩
            clear HO
            have h6 := Lib.hid (h4.out.drewN n)
            generalize w3.drewN n = w4 at h6
            go_wp2_with fail
            refine (value_any h6.out.ctx ⟨#[72, 79, 77, 69]⟩).mono ?_
            rintro e w4 ⟨v, rfl, hv⟩
            obtain ⟨y, rfl, hy, hys, hst⟩ := value_step h6.out hv
            have h5 := Lib.hid (And.intro hys hst)
            have hq := HQ.out
            rw [show Lx.value (envOf c.es) [72, 79, 77, 69] = sl y from hy.symm] at hq
            have HQ := Lib.hid hq
            clear hq hv hy hys hst
            go_wp2_with fail
            refine (put_cases h5.out.2 y h5.out.1 (fun t2 => Lx.word (envOf c.es) false t2 (x :: r)) res HQ.out).mono ?_
            rintro e w5 (⟨ch, rfl, hw⟩ | ⟨t2, tx2, rfl, hst2, hq2⟩)
            · exact ⟨rfl, T0_text H.out hw⟩
            have HE := Lib.hid (And.intro hst2 hq2)
            clear hst2 hq2
            go_wp2_with fail
            go_roundg (c.s.size - (j + 1))
            case measure => have := HT.out.meas; have := hlt.out; omega
            case rel => exact ⟨j + 1, t2, tx2, rfl, by have := HT.out.le; omega, HE.out.1, by rw [decide_eq_false (by have := HT.out.le; omega), HD.out]; exact HE.out.2⟩
          | false =>
            rw [if_neg (by simp [h47, hov2])] at hq
            have HQ := Lib.hid hq
            have HV := Lib.hid hov2
            clear hq h39 h34 h92 h36 hf h47 hov2
            go_wp2_with fail
            refine hov.out.mono ?_
            rintro e w1 ⟨rfl, n, rfl⟩
            have h1 := Lib.hid (HT.out.step.drewN n)
            generalize wr.drewN n = w1 at h1
            have c2 := h1.out.ctx.c2
            clear hov
            go_wp2_with fail
            clear c2
            refine (next_some h1.out.ctx hd'.out).mono ?_
            rintro e w2 ⟨rfl, hs⟩
            have h2 := Lib.hid (h1.out.trans hs)
            clear hs h1
            go_wp2_with fail
            refine (peek_some h2.out.ctx HD.out).mono ?_
            rintro e w3 ⟨rfl, n, rfl⟩
            have h3 := Lib.hid (h2.out.drewN n)
            generalize w2.drewN n = w3 at h3
            have ho2 := over_any h3.out.ctx
            rw [HD.out, HV.out] at ho2
            have HO := Lib.hid ho2
            clear ho2
            go_wp2_with fail
            refine HO.out.mono ?_
            rintro e w4 ⟨rfl, n, rfl⟩
            clear HO
            have h4 := Lib.hid (h3.out.drewN n)
            generalize w3.drewN n = w4 at h4
            go_wp2_with fail
            refine (put_cases h4.out ⟨#[126]⟩ (by decide) (fun t2 => Lx.word (envOf c.es) false t2 (x :: r)) res HQ.out).mono ?_
            rintro e w5 (⟨ch, rfl, hw⟩ | ⟨t2, tx2, rfl, hst2, hq2⟩)
            · exact ⟨rfl, T0_text H.out hw⟩
            have HE := Lib.hid (And.intro hst2 hq2)
            clear hst2 hq2
            go_wp2_with fail
            go_roundg (c.s.size - (j + 1))
            case measure => have := HT.out.meas; have := hlt.out; omega
            case rel => exact ⟨j + 1, t2, tx2, rfl, by have := HT.out.le; omega, HE.out.1, by rw [decide_eq_false (by have := HT.out.le; omega), HD.out]; exact HE.out.2⟩
      rw [if_neg (fun e => h126 e.1)] at hq
      have e39 : ((b.toNat : Int) == 39) = false := u8_ne (m := 39) h39
      have e34 : ((b.toNat : Int) == 34) = false := u8_ne (m := 34) h34
      have e92 : ((b.toNat : Int) == 92) = false := u8_ne (m := 92) h92
      have e36 : ((b.toNat : Int) == 36) = false := u8_ne (m := 36) h36
      have e126 : ((b.toNat : Int) == 126) = false := u8_ne (m := 126) h126
      have HQ := Lib.hid hq
      clear hq h39 h34 h92 h36 h126 hf
      go_wp2_with fail
      refine hov.out.mono ?_
      rintro e w1 ⟨rfl, n, rfl⟩
      have h1 := Lib.hid (HT.out.step.drewN n)
      generalize wr.drewN n = w1 at h1
      have c2 := h1.out.ctx.c2
      clear hov
      go_wp2_with fail
      clear c2
      refine (next_some h1.out.ctx hd'.out).mono ?_
      rintro e w2 ⟨rfl, hs⟩
      have h2 := Lib.hid (h1.out.trans hs)
      clear hs h1
      have hcv := conv_one w2 b
      go_wp2_with fail
      clear hcv
      refine (put_cases (h2.out.alloc _) ⟨#[b]⟩ (str_one _) (fun t2 => Lx.word (envOf c.es) false t2 r) res HQ.out).mono ?_
      rintro e w5 (⟨ch, rfl, hw⟩ | ⟨t2, tx2, rfl, hst2, hq2⟩)
      · exact ⟨rfl, T0_text H.out hw⟩
      have HE := Lib.hid (And.intro hst2 hq2)
      clear hst2 hq2
      go_wp2_with fail
      go_roundg (c.s.size - (j + 1))
      case measure => have := HT.out.meas; have := hlt.out; omega
      case rel => exact ⟨j + 1, t2, tx2, rfl, by have := HT.out.le; omega, HE.out.1, by rw [decide_eq_false (by have := HT.out.le; omega), HD.out]; exact HE.out.2⟩
end Go.Proofs.YtiopaenonjhlnaaGreatDoor
