/- The walks of package lex's reader: quoted. -/
import Derived.Test.YtedlhdegdlabhaaGreatDoorLexDollar
namespace Go.Proofs.YtedlhdegdlabhaaGreatDoor
set_option maxRecDepth 8000
open Go.RowKit
open Lx (Bytes)

def QLoop (w : World) (c : Cfg) (tx : Value) (res : Lx.Res (Bytes × Bytes)) (g : Nat) (wr : World) : Prop :=
  ∃ j t1 tx1, c.s.size - j = g ∧ Step w c tx j t1 wr tx1 ∧ Lx.quoted (envOf c.es) t1 ((sl c.s).drop j) = res

theorem str_one (b : UInt8) : (⟨#[b]⟩ : ByteArray).size ≤ strMost := by unfold strMost; exact Nat.le_trans (show (1 : Nat) ≤ 1 from Nat.le_refl _) (by decide)
set_option maxRecDepth 100000 in
set_option maxHeartbeats 2000000 in
theorem quoted_in {w : World} {c : Cfg} {k : Nat} {tx : Value} {t : Bytes} (h : Ctx w c k tx t) (res : Lx.Res (Bytes × Bytes)) (hres : Lx.quoted (envOf c.es) t ((sl c.s).drop k) = res) :
    Calls Tryz.prog 104 #[.pointer (some ⟨c.R, 0, none⟩)] w (WordPost w c tx res) := by
  have H := Lib.hid (And.intro h hres)
  clear h hres
  go_enter Tryz.func104, Tryz.ntmps104
  go_wp2_with fail
  go_loopg [2] (c.s.size - k) (fun g _ wr => QLoop w c tx res g wr)
  case atStart => exact ⟨k, t, tx, rfl, Step.refl H.out.1, H.out.2⟩
  case round =>
    clear H
    obtain ⟨j, t1, tx1, hg, hst, hq⟩ := hrel
    rcases hd : (sl c.s).drop j with _ | ⟨b, r⟩
    · have HN := Lib.hid (next_none hst.ctx hd)
      have HE := Lib.hid (And.intro hst (show res = .error 4 by rw [← hq, hd, Lx.quoted_nil]))
      clear hg hst hd hq
      go_wp2_with fail
      refine HN.out.mono ?_
      rintro e w1 ⟨rfl, ht⟩
      exact ⟨rfl, by rw [HE.out.2]; exact ⟨rfl, HE.out.1.turns.txs HE.out.1.near ht⟩⟩
    · have HN := Lib.hid (next_some hst.ctx hd)
      rw [hd, Lx.quoted_cons] at hq
      have hlt := Lib.hid (drop_lt hd)
      have HD := Lib.hid (drop_head hd).2
      by_cases h34 : b = 34
      · subst h34
        rw [if_pos rfl] at hq
        have HQ := Lib.hid (And.intro hst hq)
        clear hg hst hd hq
        go_wp2_with fail
        refine HN.out.mono ?_
        rintro e w1 ⟨rfl, hs⟩
        have HS := Lib.hid (HQ.out.1.trans hs)
        clear hs HN
        go_wp2_with fail
        refine bodyPost_ret (results_none rfl _ _ _) rfl ?_
        rw [← HQ.out.2]
        exact ⟨rfl, j + 1, tx1, HD.out, HS.out⟩
      rw [if_neg h34] at hq
      by_cases h36 : b = 36
      · subst h36
        rw [if_pos rfl] at hq
        have HQ := Lib.hid (And.intro hg (And.intro hst hq))
        clear hg hst hd hq h34
        go_wp2_with fail
        refine HN.out.mono ?_
        rintro e w1 ⟨rfl, hs⟩
        have HS := Lib.hid (HQ.out.2.1.trans hs)
        clear hs HN
        go_wp2_with fail
        refine (dollar_cases HS.out r HD.out (fun t' r' => Lx.quoted (envOf c.es) t' r') res HQ.out.2.2).mono ?_
        rintro e w2 (⟨ch, rfl, hw⟩ | ⟨t2, k2, tx2, rfl, hst2, hk2, hq2⟩)
        · exact ⟨rfl, hw⟩
        have HT := Lib.hid (And.intro hk2 (And.intro hst2 hq2))
        clear hk2 hst2 hq2
        go_wp2_with fail
        go_roundg (c.s.size - k2)
        case measure => have := HQ.out.1; have := HT.out.1; have := hlt.out; omega
        case rel => exact ⟨k2, t2, tx2, rfl, HT.out.2.1, HT.out.2.2⟩
      rw [if_neg h36] at hq
      by_cases h92 : b = 92
      · subst h92
        rw [if_pos rfl] at hq
        have HQ := Lib.hid (And.intro hg (And.intro hst hq))
        clear hg hst hd hq h34 h36
        go_wp2_with fail
        refine HN.out.mono ?_
        rintro e w1 ⟨rfl, hs⟩
        have HS := Lib.hid (HQ.out.2.1.trans hs)
        clear hs HN
        rcases r with _ | ⟨x, r⟩
        · have HE := Lib.hid (show res = .error 4 from HQ.out.2.2.symm)
          have HN := Lib.hid (next_none HS.out.ctx HD.out)
          clear HQ
          go_wp2_with fail
          refine HN.out.mono ?_
          rintro e w1 ⟨rfl, ht⟩
          exact ⟨rfl, by rw [HE.out]; exact ⟨rfl, HS.out.turns.txs HS.out.near ht⟩⟩
        have hlt2 := Lib.hid (drop_lt HD.out)
        have HD2 := Lib.hid (drop_head HD.out).2
        have HN := Lib.hid (next_some HS.out.ctx HD.out)
        have hq := HQ.out.2.2
        have HG := Lib.hid HQ.out.1
        clear HQ
        dsimp only at hq
        by_cases h10 : x = 10
        · subst h10
          rw [if_pos rfl] at hq
          have HQ := Lib.hid hq
          clear hq
          go_wp2_with fail
          refine HN.out.mono ?_
          rintro e w2 ⟨rfl, hs⟩
          have HS2 := Lib.hid (HS.out.trans hs)
          clear hs HN
          go_wp2_with fail
          go_roundg (c.s.size - (j + 1 + 1))
          case measure => have := HG.out; have := hlt2.out; omega
          case rel => exact ⟨j + 1 + 1, t1, tx1, rfl, HS2.out, by rw [HD2.out]; exact HQ.out⟩
        rw [if_neg h10] at hq
        by_cases hx110 : x = 110
        · subst hx110
          have HQ := Lib.hid hq
          clear hq h10
          go_wp2_with fail
          refine HN.out.mono ?_
          rintro e w2 ⟨rfl, hs⟩
          have HS2 := Lib.hid (HS.out.trans hs)
          clear hs HN
          go_wp2_with fail
          refine (put_cases HS2.out ⟨#[10]⟩ (by first | decide | exact str_one _) (fun t2 => Lx.quoted (envOf c.es) t2 r) res HQ.out).mono ?_
          rintro e w3 (⟨ch, rfl, hw⟩ | ⟨t2, tx2, rfl, hst2, hq2⟩)
          · exact ⟨rfl, hw⟩
          have HT := Lib.hid (And.intro hst2 hq2)
          clear hst2 hq2
          go_wp2_with fail
          go_roundg (c.s.size - (j + 1 + 1))
          case measure => have := HG.out; have := hlt2.out; omega
          case rel => exact ⟨j + 1 + 1, t2, tx2, rfl, HT.out.1, by rw [HD2.out]; exact HT.out.2⟩
        by_cases hx116 : x = 116
        · subst hx116
          have HQ := Lib.hid hq
          clear hq h10 hx110
          go_wp2_with fail
          refine HN.out.mono ?_
          rintro e w2 ⟨rfl, hs⟩
          have HS2 := Lib.hid (HS.out.trans hs)
          clear hs HN
          go_wp2_with fail
          refine (put_cases HS2.out ⟨#[9]⟩ (by first | decide | exact str_one _) (fun t2 => Lx.quoted (envOf c.es) t2 r) res HQ.out).mono ?_
          rintro e w3 (⟨ch, rfl, hw⟩ | ⟨t2, tx2, rfl, hst2, hq2⟩)
          · exact ⟨rfl, hw⟩
          have HT := Lib.hid (And.intro hst2 hq2)
          clear hst2 hq2
          go_wp2_with fail
          go_roundg (c.s.size - (j + 1 + 1))
          case measure => have := HG.out; have := hlt2.out; omega
          case rel => exact ⟨j + 1 + 1, t2, tx2, rfl, HT.out.1, by rw [HD2.out]; exact HT.out.2⟩
        by_cases hx101 : x = 101
        · subst hx101
          have HQ := Lib.hid hq
          clear hq h10 hx110 hx116
          go_wp2_with fail
          refine HN.out.mono ?_
          rintro e w2 ⟨rfl, hs⟩
          have HS2 := Lib.hid (HS.out.trans hs)
          clear hs HN
          go_wp2_with fail
          refine (put_cases HS2.out ⟨#[27]⟩ (by first | decide | exact str_one _) (fun t2 => Lx.quoted (envOf c.es) t2 r) res HQ.out).mono ?_
          rintro e w3 (⟨ch, rfl, hw⟩ | ⟨t2, tx2, rfl, hst2, hq2⟩)
          · exact ⟨rfl, hw⟩
          have HT := Lib.hid (And.intro hst2 hq2)
          clear hst2 hq2
          go_wp2_with fail
          go_roundg (c.s.size - (j + 1 + 1))
          case measure => have := HG.out; have := hlt2.out; omega
          case rel => exact ⟨j + 1 + 1, t2, tx2, rfl, HT.out.1, by rw [HD2.out]; exact HT.out.2⟩
        have e10 : ((x.toNat : Int) == 10) = false := u8_ne (m := 10) h10
        have e110 : ((x.toNat : Int) == 110) = false := u8_ne (m := 110) hx110
        have e116 : ((x.toNat : Int) == 116) = false := u8_ne (m := 116) hx116
        have e101 : ((x.toNat : Int) == 101) = false := u8_ne (m := 101) hx101
        have hesc : Lx.esc x = [x] := by unfold Lx.esc; rw [if_neg hx110, if_neg hx116, if_neg hx101]
        rw [hesc] at hq
        have HQ := Lib.hid hq
        clear hq hesc h10 hx110 hx116 hx101
        go_wp2_with fail
        refine HN.out.mono ?_
        rintro e w2 ⟨rfl, hs⟩
        have HS2 := Lib.hid (HS.out.trans hs)
        clear hs HN
        have hcv := conv_one w2 x
        go_wp2_with fail
        clear hcv
        refine (put_cases (HS2.out.alloc _) ⟨#[x]⟩ (str_one _) (fun t2 => Lx.quoted (envOf c.es) t2 r) res HQ.out).mono ?_
        rintro e w3 (⟨ch, rfl, hw⟩ | ⟨t2, tx2, rfl, hst2, hq2⟩)
        · exact ⟨rfl, hw⟩
        have HT := Lib.hid (And.intro hst2 hq2)
        clear hst2 hq2
        go_wp2_with fail
        go_roundg (c.s.size - (j + 1 + 1))
        case measure => have := HG.out; have := hlt2.out; omega
        case rel => exact ⟨j + 1 + 1, t2, tx2, rfl, HT.out.1, by rw [HD2.out]; exact HT.out.2⟩
      rw [if_neg h92] at hq
      have e34 : ((b.toNat : Int) == 34) = false := u8_ne (m := 34) h34
      have e36 : ((b.toNat : Int) == 36) = false := u8_ne (m := 36) h36
      have e92 : ((b.toNat : Int) == 92) = false := u8_ne (m := 92) h92
      have HQ := Lib.hid (And.intro hg (And.intro hst hq))
      clear hg hst hd hq h34 h36 h92
      go_wp2_with fail
      refine HN.out.mono ?_
      rintro e w1 ⟨rfl, hs⟩
      have HS := Lib.hid (HQ.out.2.1.trans hs)
      clear hs HN
      have hcv := conv_one w1 b
      go_wp2_with fail
      clear hcv
      refine (put_cases (HS.out.alloc _) ⟨#[b]⟩ (str_one _) (fun t2 => Lx.quoted (envOf c.es) t2 r) res HQ.out.2.2).mono ?_
      rintro e w3 (⟨ch, rfl, hw⟩ | ⟨t2, tx2, rfl, hst2, hq2⟩)
      · exact ⟨rfl, hw⟩
      have HT := Lib.hid (And.intro hst2 hq2)
      clear hst2 hq2
      go_wp2_with fail
      go_roundg (c.s.size - (j + 1))
      case measure => have := HQ.out.1; have := hlt.out; omega
      case rel => exact ⟨j + 1, t2, tx2, rfl, HT.out.1, by rw [HD.out]; exact HT.out.2⟩
theorem quoted_any {w : World} {c : Cfg} {k : Nat} {tx : Value} {t : Bytes} (h : Ctx w c k tx t) :
    Calls Tryz.prog 104 #[.pointer (some ⟨c.R, 0, none⟩)] w (WordPost w c tx (Lx.quoted (envOf c.es) t ((sl c.s).drop k))) := quoted_in h _ rfl
/-- quoted in the midst of a word -/
theorem quoted_cases {w w1 : World} {c : Cfg} {tx tx1 : Value} {j : Nat} {t1 : Bytes} (hs : Step w c tx j t1 w1 tx1) (r : Bytes) (hr : (sl c.s).drop j = r) (F : Bytes → Bytes → Lx.Res (Bytes × Bytes)) (res : Lx.Res (Bytes × Bytes))
    (hres : (match Lx.quoted (envOf c.es) t1 r with | .error m => .error m | .ok (t', r') => F t' r') = res) :
    Calls Tryz.prog 104 #[.pointer (some ⟨c.R, 0, none⟩)] w1 fun e w' =>
      (∃ ch, e = .panicked ch ∧ WordPost w c tx res e w') ∨ (∃ t2 k2 tx2, e = .returned (.tuple #[]) ∧ Step w c tx k2 t2 w' tx2 ∧ j ≤ k2 ∧ F t2 ((sl c.s).drop k2) = res) := by
  subst hr
  refine (quoted_any hs.ctx).mono fun e w' hp => ?_
  cases hq : Lx.quoted (envOf c.es) t1 ((sl c.s).drop j) with
  | error m =>
    rw [hq] at hp hres
    subst hres
    exact .inl ⟨_, hp.1, hp.1, hs.turns.txs hs.near hp.2⟩
  | ok x =>
    have hlen := Lx.quoted_len _ (Nat.le_refl _) (t' := x.1) (r' := x.2) hq
    rw [hq] at hp hres
    obtain ⟨he, k2, tx', hk, hst⟩ := hp
    rw [← hk, List.length_drop, List.length_drop, sl_size] at hlen
    have := hst.ctx.le
    have := hs.ctx.le
    exact .inr ⟨x.1, k2, tx', he, hs.trans hst, by omega, by rw [hk]; exact hres⟩
end Go.Proofs.YtedlhdegdlabhaaGreatDoor
