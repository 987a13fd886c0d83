/- The walk of LexTwo: it answers true, whatever the two texts and the environment are. -/
import Derived.Test.YtdcknacjeilifaaDoorLexRemarks
namespace Go.Proofs.YtdcknacjeilifaaDoor
open Go.RowKit
open Lx (Bytes)

/-- what a result of Split says of the three values that it gave -/
def Gave (w : World) (B0 : Nat) (res : Except (Int × Nat) (List Lx.Ln)) (A : Option Addr) (n c : Nat) (f at_ : Int) : Prop := match res with
  | .ok L => n = L.length ∧ f = 0 ∧ at_ = 0 ∧ LinesIn w B0 (.slice A n c) L
  | .error x => A = none ∧ n = 0 ∧ c = 0 ∧ f = x.1 ∧ at_ = x.2 ∧ Lx.Err x.1
theorem split_gen {w : World} {s : ByteArray} {ev : Value} {es : List (ByteArray × ByteArray)} (hen : EnvAt w w.heap.size ev es) :
    Calls Tryd.prog 8 #[.string s, ev] w fun e w' => Turns Nothing w w' ∧ ∃ A n c f at_, e = .returned (.tuple #[.slice A n c, .int .i64 f, .int .i64 at_]) ∧
      (n : Int) ≤ 1000 ∧ 0 ≤ f ∧ f ≤ 4 ∧ 0 ≤ at_ ∧ at_ ≤ 65537 ∧ Gave w' w.heap.size (Lx.split (envOf es) (sl s)) A n c f at_ := by
  refine (split_in hen).mono ?_
  intro e w' hp
  refine ⟨hp.1, ?_⟩
  have h2 := hp.2
  cases hr : Lx.split (envOf es) (sl s) with
  | ok L =>
    rw [hr] at h2
    obtain ⟨ov, he, hl⟩ := h2
    obtain ⟨A, c, e1, -⟩ := hl.at_
    subst e1
    exact ⟨A, _, c, 0, 0, he, by have := hl.good.many; omega, by decide, by decide, by decide, by decide, rfl, rfl, rfl, hl⟩
  | error x =>
    rw [hr] at h2
    obtain ⟨he, h3, h4⟩ := h2
    exact ⟨none, 0, 0, x.1, x.2, he, by decide, by have := h3.1; omega, h3.2, by omega, by omega, rfl, rfl, rfl, rfl, rfl, h3⟩

theorem feeds_take (a : ByteArray) (n : Nat) (h : n < a.size) : Lx.feeds ((sl a).take (n + 1)) = Lx.feeds ((sl a).take n) + (if a[n] = 10 then 1 else 0) := by
  have hl : n < (sl a).length := by rw [sl_size]; exact h
  rw [List.take_succ_eq_append_getElem hl, Lx.feeds_append]
  show _ + Lx.feeds [a[n]] = _
  generalize a[n] = x
  by_cases hx : x = 10
  · rw [if_pos hx, hx]; rfl
  · rw [if_neg hx]; simp [Lx.feeds, hx]

theorem lastg_take (L : List Lx.Ln) (n : Nat) (h : n < L.length) : Lx.lastg (L.take (n + 1)) = L[n].2 := by
  rw [List.take_succ_eq_append_getElem h, Lx.lastg_snoc]

set_option maxHeartbeats 8000000 in
set_option maxRecDepth 4000 in
theorem two_true {w : World} (a b : ByteArray) (ev : Value) (es : List (ByteArray × ByteArray)) (hen : EnvAt w w.heap.size ev es) (ha : a.size ≤ strMost) (hb : b.size ≤ strMost) :
    Calls Tryd.prog 3 #[.string a, .string b, ev] w fun e w' => e = .returned (.bool true) ∧ Turns Nothing w w' := by
  obtain ⟨AE, cE, rfl, -⟩ := hen.at_
  have HE := Lib.hid hen
  clear hen
  have ha2 : (a.size : Int) ≤ 140737488355328 := by unfold strMost at ha; omega
  have hb2 : (b.size : Int) ≤ 140737488355328 := by unfold strMost at hb; omega
  clear ha hb
  go_enter Tryd.func3, Tryd.ntmps3
  go_wp2_with fail
  refine (shown_true _).mono ?_
  rintro e w1 ⟨rfl, ht⟩
  have H1 := Lib.hid ht
  clear ht
  by_cases hbig : 60000 < (a.size : Int) + b.size
  · go_wp2_with fail
    go_ret
    exact ⟨rfl, H1.out⟩
  have hb1 : (a.size : Int) ≤ 60000 := by omega
  have hb3 : (b.size : Int) ≤ 60000 := by omega
  clear ha2 hb2
  have hE1 := env_up (HE.out.keep (w' := w1) fun p hp => H1.out.cell hp id) H1.out.size
  go_wp2_with fail
  refine (split_gen hE1).mono ?_
  rintro e w2 ⟨ht, A, na, ca, f1, at1, rfl, hn1, hf1, hf1b, hat1, hat1b, hG1⟩
  have H2 := Lib.hid (H1.out.same ht)
  have G1 := Lib.hid hG1
  have hE2 := env_up (HE.out.keep (w' := w2) fun p hp => H2.out.cell hp id) H2.out.size
  clear ht hG1 H1 hE1
  go_wp2_with fail
  refine (split_gen hE2).mono ?_
  rintro e w3 ⟨ht, B, nb, cb, f2, at2, rfl, hn2, hf2, hf2b, hat2, hat2b, hG2⟩
  have H3 := Lib.hid (H2.out.same ht)
  have H23 := Lib.hid ht
  have G2 := Lib.hid hG2
  clear ht hG2 H2 hE2
  by_cases hf : f1 ≠ 0
  · go_wp2_with fail
    go_ret
    exact ⟨rfl, H3.out⟩
  obtain rfl : f1 = 0 := by omega
  by_cases hmany : 1000 < (na : Int) + nb
  · go_wp2_with fail
    go_ret
    exact ⟨rfl, H3.out⟩
  go_wp2_with fail
  go_loopw [14] (fun i wr => ∃ n : Nat, i = .int .i64 n ∧ n ≤ a.size ∧ Turns Nothing w3 wr) (fun i _ => a.size - (intOf i).toNat)
  case atStart => exact ⟨0, rfl, Nat.zero_le _, Turns.refl _ _⟩
  case round =>
    obtain ⟨n, rfl, hn, ht⟩ := hrel
    have HT := Lib.hid ht
    clear ht
    by_cases hlt : n < a.size
    · by_cases h92 : (a[n].toNat : Int) = 92
      · go_wp2_with fail
        go_ret
        exact ⟨rfl, H3.out.same HT.out⟩
      · go_wp2_with fail
        go_roundw
        case rel => exact ⟨n + 1, by go_num, hlt, HT.out⟩
        case measure => simp [intOf]; omega
    · go_wp2_with fail
      go_loopw [16, 15] (fun i q wr2 => ∃ n k : Nat, i = .int .i64 n ∧ q = .int .i64 k ∧ n ≤ a.size ∧ k = 1 + Lx.feeds ((sl a).take n) ∧ (k : Int) ≤ 1 + n ∧ Turns Nothing w3 wr2) (fun i _ _ => a.size - (intOf i).toNat)
      case atStart => exact ⟨0, 1, rfl, rfl, Nat.zero_le _, rfl, by decide, HT.out⟩
      case round =>
        obtain ⟨n, k, rfl, rfl, hn, hk, hk2, ht⟩ := hrel
        have HT2 := Lib.hid ht
        have HK := Lib.hid hk
        clear ht hk HT
        have hn2 : (n : Int) ≤ 60000 := by omega
        by_cases hlt : n < a.size
        · have HF := Lib.hid (feeds_take a n hlt)
          by_cases h10 : (a[n].toNat : Int) = 10
          · have HM := Lib.hid (show a[n] = 10 from UInt8.toNat_inj.1 (by rw [show (10 : UInt8).toNat = 10 from rfl]; omega))
            go_wp2_with fail
            go_roundw
            case rel => exact ⟨n + 1, k + 1, by go_num, by go_num, hlt, by rw [HF.out, if_pos HM.out, HK.out]; omega, by omega, HT2.out⟩
            case measure => simp [intOf]; omega
          · have HM := Lib.hid (show a[n] ≠ 10 from fun e => h10 (by rw [e]; rfl))
            go_wp2_with fail
            go_roundw
            case rel => exact ⟨n + 1, k, by go_num, rfl, hlt, by rw [HF.out, if_neg HM.out, HK.out]; rfl, by omega, HT2.out⟩
            case measure => simp [intOf]; omega
        · have hk : k = 1 + Lx.feeds (sl a) := by rw [HK.out, List.take_of_length_le (by rw [sl_size]; omega)]
          have HK2 := Lib.hid hk
          clear hk HK
          have hk2 : (k : Int) ≤ 60001 := by omega
          have HB := Lib.hid (H3.out.same HT2.out)
          have hE3 := env_up (HE.out.keep (w' := wr) fun p hp => HB.out.cell hp id) HB.out.size
          have hT : sl (a ++ (⟨#[10]⟩ : ByteArray) ++ b) = sl a ++ Lx.tail (sl b) := by
            simp [sl_append, Lx.tail]; simp [sl]
          have HTX := Lib.hid hT
          have HE3 := Lib.hid hE3
          clear hT hE3
          by_cases hroom : f2 ≠ 0 ∧ 1000 < (na : Int) + b.size
          · have hf2 := hroom.1
            have hroom := hroom.2
            go_wp2_with fail
            refine (split_gen HE3.out).mono ?_
            rintro e w4 ⟨ht, C, nc, cc, f3, at3, rfl, -, -, -, -, -, -⟩
            have H4 := Lib.hid (HB.out.same ht)
            clear ht
            go_wp2_with fail
            go_ret
            exact ⟨rfl, H4.out⟩
          cases hra : Lx.split (envOf es) (sl a) with
          | error x =>
            have hg := G1.out
            rw [hra] at hg
            exact absurd hg.2.2.2.1 (by have := hg.2.2.2.2.2.1; omega)
          | ok L =>
          have hg := G1.out
          rw [hra] at hg
          obtain ⟨rfl, -, rfl, hL⟩ := hg
          have hlen : (sl a).length + (sl b).length ≤ 60000 := by rw [sl_size, sl_size]; omega
          cases hrb : Lx.split (envOf es) (sl b) with
          | error x =>
            obtain ⟨c, kx⟩ := x
            have hg := G2.out
            rw [hrb] at hg
            obtain ⟨rfl, rfl, rfl, rfl, rfl, he1, he2⟩ := hg
            dsimp only at *
            have hne : f2 ≠ 0 := by omega
            have hq := Lx.split_two hlen hra (.inl (by rw [sl_size]; omega))
            rw [hrb] at hq
            have HQ := Lib.hid hq
            have HL := Lib.hid hL
            clear hq hL hra hrb hlen
            go_wp2_with fail
            refine (split_no HE3.out (x := (f2, kx + (Lx.feeds (sl a) + 1))) ?_).mono ?_
            · rw [HTX.out, HQ.out]; rfl
            rintro e w4 ⟨ht, rfl⟩
            have H4 := Lib.hid (HB.out.same ht)
            clear ht
            dsimp only
            have hsum : ((kx + (Lx.feeds (sl a) + 1) : Nat) : Int) = kx + k := by rw [HK2.out]; omega
            rw [hsum]
            go_wp2_with fail
            go_ret
            exact ⟨rfl, H4.out⟩
          | ok M =>
            have hg := G2.out
            rw [hrb] at hg
            obtain ⟨rfl, rfl, rfl, hM⟩ := hg
            have hq := Lx.split_two hlen hra (.inr ⟨M, hrb, by omega⟩)
            rw [hrb, show Lx.feeds (sl a) + 1 = k from by rw [HK2.out]; omega] at hq
            have HQ := Lib.hid hq
            have HL := Lib.hid hL
            have HMM := Lib.hid hM
            clear hq hL hM hra hrb hlen
            go_wp2_with fail
            refine (split_ok HE3.out (L := L ++ M.map (Lx.ll k (Lx.lastg L))) ?_).mono ?_
            · rw [HTX.out, HQ.out]; rfl
            rintro e w4 ⟨ht, C, cc, rfl, hN⟩
            rw [show (L ++ M.map (Lx.ll k (Lx.lastg L))).length = L.length + M.length by rw [List.length_append, List.length_map]] at hN ⊢
            have H4 := Lib.hid (HB.out.same ht)
            have ht4 := HT2.out.same ht
            have L4 := Lib.hid ((HL.out.still H23.out).still ht4)
            have M4 := Lib.hid (HMM.out.still ht4)
            have N4 := Lib.hid hN
            have hcast : ((L.length + M.length : Nat) : Int) = L.length + M.length := by omega
            rw [hcast] at *
            clear ht ht4 hN HL HMM HQ
            dsimp only
            go_wp2_with fail
            generalize hNdef : L.length + M.length = N at *
            have HND := Lib.hid hNdef
            clear hNdef
            go_loopw [21, 20] (fun i q wr => ∃ j g : Nat, i = .int .i64 j ∧ q = .int .i64 g ∧ j ≤ L.length ∧ g = Lx.lastg (L.take j) ∧ (g : Int) ≤ 65537 ∧ Turns Nothing w4 wr) (fun i _ _ => L.length - (intOf i).toNat)
            case atStart => exact ⟨0, 0, rfl, rfl, Nat.zero_le _, rfl, by decide, Turns.refl _ _⟩
            case round =>
              obtain ⟨j, g, rfl, rfl, hj, hg, hg2, ht⟩ := hrel
              have HGR := Lib.hid hg
              clear hg
              by_cases hlt2 : j < L.length
              · obtain ⟨p, A3, c3, rfl, hB, hb, x1, y1, z1⟩ := L4.out.cell j hlt2
                obtain ⟨p', A4, c4, rfl, hB', hb', x2, y2, z2⟩ := N4.out.cellFirst j hlt2
                have hgood := L4.out.good.each _ (List.getElem_mem hlt2)
                have hgr : (L[j].2 : Int) ≤ 65537 := by have := hgood.grp; omega
                have hli := Lib.hid hgood.lines
                have hlg := Lib.hid (lastg_take L j hlt2)
                clear hgood
                have x1 := (ht.cell (p := ⟨p, j * 2, none⟩) hb id).trans x1
                have y1 := (ht.cell (p := ⟨p, j * 2 + 1, none⟩) hb id).trans y1
                have x2 := (ht.cell (p := ⟨p', j * 2, none⟩) hb' id).trans x2
                have y2 := (ht.cell (p := ⟨p', j * 2 + 1, none⟩) hb' id).trans y2
                have HJ := Lib.hid ht
                have hb := Nat.lt_of_lt_of_le hb ht.size
                have hb' := Nat.lt_of_lt_of_le hb' ht.size
                have Z := Lib.hid (And.intro (z1.still ht) (z2.still ht))
                clear ht z1 z2 hB hB'
                have hlt3 : j < N := by have := HND.out; omega
                go_wp2_with fail
                go_still_tail 10, (by kernel_rfl)
                change wpList _ _ _ _ _ wr.drew
                have hd : Turns Nothing wr wr.drew := ⟨rfl, rfl, rfl, Nat.le_refl _, fun _ _ _ => rfl⟩
                generalize wr.drew = w5 at hd ⊢
                have HD := Lib.hid hd
                clear hd
                go_wp2_with fail
                refine (same0 (Z.out.2.still HD.out) (Z.out.1.still HD.out) (fun x hx => ?_)).mono ?_
                · have := hli.out x hx; omega
                rintro e w6 ⟨rfl, ht⟩
                have ht2 := HD.out.same ht
                have y1 := (ht2.cell (p := ⟨p, j * 2 + 1, none⟩) hb id).trans y1
                have y2 := (ht2.cell (p := ⟨p', j * 2 + 1, none⟩) hb' id).trans y2
                have HJ2 := Lib.hid (HJ.out.same ht2)
                clear ht ht2 HD HJ Z x1 x2
                go_wp2_with fail
                go_quiet (fail)
                go_wp2_with fail
                go_roundw
                case rel => exact ⟨j + 1, L[j].2, by go_num, rfl, hlt2, hlg.out.symm, hgr, HJ2.out.drewN _⟩
                case measure => simp [intOf]; omega
              · have hgl : Lx.lastg L = g := by rw [HGR.out, List.take_of_length_le (by omega)]
                rw [hgl] at N4
                have HJ := Lib.hid ht
                clear ht hgl HGR
                go_wp2_with fail
                go_loopw [23] (fun i wr => ∃ j : Nat, i = .int .i64 j ∧ j ≤ M.length ∧ Turns Nothing w4 wr) (fun i _ => M.length - (intOf i).toNat)
                case atStart => exact ⟨0, rfl, Nat.zero_le _, HJ.out⟩
                case round =>
                  obtain ⟨j, rfl, hj, ht⟩ := hrel
                  by_cases hlt4 : j < M.length
                  · obtain ⟨p, A3, c3, rfl, hB, hb, x1, y1, z1⟩ := M4.out.cell j hlt4
                    obtain ⟨p', A4, c4, rfl, hB', hb', x2, y2, z2⟩ := N4.out.cellLater j hlt4
                    have hgood := M4.out.good.each _ (List.getElem_mem hlt4)
                    have hgr : (M[j].2 : Int) ≤ 65537 := by have := hgood.grp; omega
                    have hli := Lib.hid hgood.lines
                    clear hgood
                    obtain ⟨q, hq⟩ : ∃ q, q = L.length + j := ⟨_, rfl⟩
                    have hsum : IntKind.i64.wrap ((L.length : Int) + j) = (q : Int) := by rw [hq, IntKind.wrap_i64]; omega
                    have hqN : q < N := by have := HND.out; omega
                    have hsum2 : IntKind.i64.wrap ((M[j].2 : Int) + g) = ((M[j].2 + g : Nat) : Int) := by rw [IntKind.wrap_i64]; omega
                    rw [← hq] at x2 y2
                    have x1 := (ht.cell (p := ⟨p, j * 2, none⟩) hb id).trans x1
                    have y1 := (ht.cell (p := ⟨p, j * 2 + 1, none⟩) hb id).trans y1
                    have x2 := (ht.cell (p := ⟨p', q * 2, none⟩) hb' id).trans x2
                    have y2 := (ht.cell (p := ⟨p', q * 2 + 1, none⟩) hb' id).trans y2
                    have HJ := Lib.hid ht
                    have hb := Nat.lt_of_lt_of_le hb ht.size
                    have hb' := Nat.lt_of_lt_of_le hb' ht.size
                    have Z := Lib.hid (And.intro (z1.still ht) (z2.still ht))
                    have HQ2 := Lib.hid hq
                    clear ht z1 z2 hB hB' hq
                    go_wp2_with fail
                    go_still_tail 14, (by kernel_rfl)
                    change wpList _ _ _ _ _ wr.drew
                    have hd : Turns Nothing wr wr.drew := ⟨rfl, rfl, rfl, Nat.le_refl _, fun _ _ _ => rfl⟩
                    generalize wr.drew = w5 at hd ⊢
                    have HD := Lib.hid hd
                    clear hd
                    go_wp2_with fail
                    refine (same_in (by_ := k) (Z.out.2.still HD.out) (Z.out.1.still HD.out) (fun x hx => ?_) (by omega)).mono ?_
                    · have := hli.out x hx; omega
                    rintro e w6 ⟨rfl, ht⟩
                    have ht2 := HD.out.same ht
                    have y1 := (ht2.cell (p := ⟨p, j * 2 + 1, none⟩) hb id).trans y1
                    have y2 := (ht2.cell (p := ⟨p', q * 2 + 1, none⟩) hb' id).trans y2
                    have HJ2 := Lib.hid (HJ.out.same ht2)
                    clear ht ht2 HD HJ Z x1 x2
                    go_wp2_with fail
                    go_quiet (fail)
                    go_wp2_with fail
                    go_roundw
                    case rel => exact ⟨j + 1, by go_num, hlt4, HJ2.out.drewN _⟩
                    case measure => simp [intOf]; omega
                  · have HJ2 := Lib.hid ht
                    clear ht
                    go_wp2_with fail
                    go_ret
                    exact ⟨rfl, H4.out.same HJ2.out⟩
end Go.Proofs.YtdcknacjeilifaaDoor
