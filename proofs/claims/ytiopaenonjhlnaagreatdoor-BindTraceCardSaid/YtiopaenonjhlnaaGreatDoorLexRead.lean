/- The walk of package lex's reader: read. -/
import Derived.Test.YtiopaenonjhlnaaGreatDoorLexWords
namespace Go.Proofs.YtiopaenonjhlnaaGreatDoor
set_option maxRecDepth 8000
open Go.RowKit
open Lx (Bytes)

/-- what reading all comes to -/
def ReadPost (w0 : World) (c : RCfg) (res : Except (Int × Nat) (List Lx.Ln)) (e : Ending) (w' : World) : Prop := match res with
  | .ok L => e = .returned (.tuple #[]) ∧ ∃ k wl tx nv ov vs g, RC w' c k wl tx nv ov [] L vs g ∧ Turns (RS c) w0 w'
  | .error x => e = .panicked (trouble x.1 x.2) ∧ Turns (RS c) w0 w'
/-- what holds at a label; n: an upper bound of the rounds to come -/
structure RJ (w0 : World) (c : RCfg) (res : Except (Int × Nat) (List Lx.Ln)) (n l : Nat) (w : World) (k : Nat) (wl : Int) (tx nv ov : Value) (now : List Lx.W) (out : List Lx.Ln) (vs : List Value) (g : Nat) : Prop where
  rc : RC w c k wl tx nv ov now out vs g
  turns : Turns (RS c) w0 w
  meas : l = 0 ∧ n = c.s.size - k + 1 ∧ Lx.read (envOf c.es) (lineAt c.s k) now out g ((sl c.s).drop k) = res ∨ l = 1 ∧ n = 0 ∧ .ok (Lx.fin now out g) = res
set_option maxRecDepth 1000000 in
def RJf (w0 : World) (c : RCfg) (res : Except (Int × Nat) (List Lx.Ln)) (n l : Nat) (a : Act) (w : World) : Prop :=
  (∃ k wl tx nv ov now out vs g, RJ w0 c res n l w k wl tx nv ov now out vs g) ∧ ∃ f, a = { tmps := frameOf (.pointer (some ⟨c.R, 0, none⟩)) 192 f, defers := [] }
theorem act_ex {a : Act} {v : Value} {n : Nat} (hs : a.tmps.size = n + 1) (h0 : a.tmps.getD 0 undef = v) (hd : a.defers = []) : ∃ f, a = { tmps := frameOf v n f, defers := [] } := by
  obtain ⟨f, hf⟩ := frame_ex hs h0
  refine ⟨f, ?_⟩
  cases a
  simp only at hf hd
  rw [hf, hd]
set_option maxRecDepth 1000000 in
theorem RJ.goto0 {w0 : World} {c : RCfg} {res : Except (Int × Nat) (List Lx.Ln)} {n : Nat} {w : World} {k : Nat} {wl : Int} {tx nv ov : Value} {now : List Lx.W} {out : List Lx.Ln} {vs : List Value} {g : Nat} {a : Act}
    (h : RC w c k wl tx nv ov now out vs g) (ht : Turns (RS c) w0 w) (hn : c.s.size - k + 1 < n) (hr : Lx.read (envOf c.es) (lineAt c.s k) now out g ((sl c.s).drop k) = res) (hs : a.tmps.size = 193) (h00 : a.tmps.getD 0 undef = .pointer (some ⟨c.R, 0, none⟩)) (hd : a.defers = []) :
    ∃ n', n' < n ∧ RJf w0 c res n' 0 a w := ⟨_, hn, ⟨k, wl, tx, nv, ov, now, out, vs, g, h, ht, .inl ⟨rfl, rfl, hr⟩⟩, act_ex hs h00 hd⟩
set_option maxRecDepth 1000000 in
theorem RJ.goto1 {w0 : World} {c : RCfg} {res : Except (Int × Nat) (List Lx.Ln)} {n : Nat} {w : World} {k : Nat} {wl : Int} {tx nv ov : Value} {now : List Lx.W} {out : List Lx.Ln} {vs : List Value} {g : Nat} {a : Act}
    (h : RC w c k wl tx nv ov now out vs g) (ht : Turns (RS c) w0 w) (hn : 0 < n) (hr : .ok (Lx.fin now out g) = res) (hs : a.tmps.size = 193) (h00 : a.tmps.getD 0 undef = .pointer (some ⟨c.R, 0, none⟩)) (hd : a.defers = []) :
    ∃ n', n' < n ∧ RJf w0 c res n' 1 a w := ⟨0, hn, ⟨k, wl, tx, nv, ov, now, out, vs, g, h, ht, .inr ⟨rfl, rfl, hr⟩⟩, act_ex hs h00 hd⟩

set_option maxRecDepth 1000000 in
set_option maxHeartbeats 16000000 in
theorem read_in {w0 : World} {c : RCfg} (h0 : RC w0 c 0 0 (.slice none 0 0) (.slice none 0 0) (.slice none 0 0) [] [] [] 1) (res : Except (Int × Nat) (List Lx.Ln)) (hres : Lx.read (envOf c.es) 1 [] [] 1 (sl c.s) = res) :
    Calls Tryz.prog 53 #[.pointer (some ⟨c.R, 0, none⟩)] w0 (ReadPost w0 c res) := by
  have H0 := Lib.hid (And.intro h0 hres)
  clear h0 hres
  go_enter Tryz.func53, Tryz.ntmps53
  refine wp_scope_start (n0 := c.s.size + 1) (RJf w0 c res) ?_ ?_ ?_
  · exact ⟨⟨0, 0, _, _, _, [], [], [], 1, H0.out.1, Turns.refl _ _, .inl ⟨rfl, rfl, H0.out.2⟩⟩, act_ex rfl rfl rfl⟩
  · clear H0
    intro n a w hJ
    obtain ⟨⟨k, wl, tx, nv, ov, now, out, vs, g, hJ⟩, f, rfl⟩ := hJ
    rw [show frameOf (.pointer (some ⟨c.R, 0, none⟩)) 192 f = #[.pointer (some ⟨c.R, 0, none⟩), f 0, f 1, f 2, f 3, f 4, f 5, f 6, f 7, f 8, f 9, f 10, f 11, f 12, f 13, f 14, f 15, f 16, f 17, f 18, f 19, f 20, f 21, f 22, f 23, f 24, f 25, f 26, f 27, f 28, f 29, f 30, f 31, f 32, f 33, f 34, f 35, f 36, f 37, f 38, f 39, f 40, f 41, f 42, f 43, f 44, f 45, f 46, f 47, f 48, f 49, f 50, f 51, f 52, f 53, f 54, f 55, f 56, f 57, f 58, f 59, f 60, f 61, f 62, f 63, f 64, f 65, f 66, f 67, f 68, f 69, f 70, f 71, f 72, f 73, f 74, f 75, f 76, f 77, f 78, f 79, f 80, f 81, f 82, f 83, f 84, f 85, f 86, f 87, f 88, f 89, f 90, f 91, f 92, f 93, f 94, f 95, f 96, f 97, f 98, f 99, f 100, f 101, f 102, f 103, f 104, f 105, f 106, f 107, f 108, f 109, f 110, f 111, f 112, f 113, f 114, f 115, f 116, f 117, f 118, f 119, f 120, f 121, f 122, f 123, f 124, f 125, f 126, f 127, f 128, f 129, f 130, f 131, f 132, f 133, f 134, f 135, f 136, f 137, f 138, f 139, f 140, f 141, f 142, f 143, f 144, f 145, f 146, f 147, f 148, f 149, f 150, f 151, f 152, f 153, f 154, f 155, f 156, f 157, f 158, f 159, f 160, f 161, f 162, f 163, f 164, f 165, f 166, f 167, f 168, f 169, f 170, f 171, f 172, f 173, f 174, f 175, f 176, f 177, f 178, f 179, f 180, f 181, f 182, f 183, f 184, f 185, f 186, f 187, f 188, f 189, f 190, f 191] from rfl]
    dsimp only
    rcases hJ.meas with ⟨-, hn, hspec⟩ | ⟨e, _⟩
    · have hT := Lib.hid hJ.turns
      have hrc := hJ.rc
      have HN := Lib.hid hn
      have hkle := hrc.le
      have hsz := hrc.size
      clear hn
      clear hJ
      rcases hd : (sl c.s).drop k with _ | ⟨b, r⟩
      · have hp := Lib.hid (hrc.peek_none hd)
        have HE := Lib.hid (show Except.ok (Lx.fin now out g) = res by rw [← hspec, hd, Lx.read_nil])
        have H := Lib.hid hrc
        clear hd hspec hrc
        go_wp2_with fail
        refine hp.out.mono ?_
        rintro e w1 ⟨rfl, n1, rfl⟩
        have h1 := Lib.hid (H.out.drewN n1)
        have hT1 := Lib.hid (hT.out.drewN n1)
        generalize w.drewN n1 = w1 at h1 hT1
        have c3 := h1.out.c3
        have c4 := h1.out.c4
        have c5 := h1.out.c5
        have f4 := h1.out.f 4
        have f5 := h1.out.f 5
        clear hp
        go_wp2_with fail
        go_step3
        exact RJ.goto1 h1.out.word.1 (hT1.out.same h1.out.word.2) (by have := HN.out; omega) HE.out rfl rfl rfl
      have hp := Lib.hid (hrc.peek_some hd)
      rw [hd, Lx.read_cons] at hspec
      have HD0 := Lib.hid hd
      have hlt := drop_lt hd
      have HD := Lib.hid (drop_head hd).2
      have HL := Lib.hid (lineAt_succ hd)
      have H := Lib.hid hrc
      have hN0 := H
      clear hd hrc
      by_cases h32 : b = 32
      · subst h32
        rw [if_pos (by simp)] at hspec
        have HS := Lib.hid hspec
        clear hspec
        go_wp2_with fail
        refine hp.out.mono ?_
        rintro e w1 ⟨rfl, n1, rfl⟩
        have h1 := Lib.hid (H.out.drewN n1)
        have hT1 := Lib.hid (hT.out.drewN n1)
        generalize w.drewN n1 = w1 at h1 hT1
        have c3 := h1.out.c3
        have c4 := h1.out.c4
        have c5 := h1.out.c5
        have f4 := h1.out.f 4
        have f5 := h1.out.f 5
        clear hp
        have c2 := h1.out.c2
        have f2 := h1.out.f 2
        go_wp2_with fail
        go_step3
        exact RJ.goto0 (h1.out.word.1.at_ (k + 1) (by omega) (by omega) (by rw [HL.out]; rfl)).1 ((hT1.out.same h1.out.word.2).same (h1.out.word.1.at_ (k + 1) (by omega) (by omega) (by rw [HL.out]; rfl)).2) (by have := HN.out; omega) (by rw [HD.out, HL.out]; exact HS.out) rfl rfl rfl
      by_cases h9 : b = 9
      · subst h9
        rw [if_pos (by simp)] at hspec
        have HS := Lib.hid hspec
        clear hspec h32
        go_wp2_with fail
        refine hp.out.mono ?_
        rintro e w1 ⟨rfl, n1, rfl⟩
        have h1 := Lib.hid (H.out.drewN n1)
        have hT1 := Lib.hid (hT.out.drewN n1)
        generalize w.drewN n1 = w1 at h1 hT1
        have c3 := h1.out.c3
        have c4 := h1.out.c4
        have c5 := h1.out.c5
        have f4 := h1.out.f 4
        have f5 := h1.out.f 5
        clear hp
        have c2 := h1.out.c2
        have f2 := h1.out.f 2
        go_wp2_with fail
        go_step3
        exact RJ.goto0 (h1.out.word.1.at_ (k + 1) (by omega) (by omega) (by rw [HL.out]; rfl)).1 ((hT1.out.same h1.out.word.2).same (h1.out.word.1.at_ (k + 1) (by omega) (by omega) (by rw [HL.out]; rfl)).2) (by have := HN.out; omega) (by rw [HD.out, HL.out]; exact HS.out) rfl rfl rfl
      rw [if_neg (by simp [h32, h9])] at hspec
      by_cases h92 : b = 92 ∧ r.head? = some 10
      · rw [if_pos h92] at hspec
        obtain ⟨rfl, hr⟩ := h92
        rcases r with _ | ⟨x, r⟩
        · cases hr
        obtain rfl : x = 10 := by simpa using hr
        have HS := Lib.hid hspec
        clear hspec h32 h9 hr
        go_wp2_with fail
        refine hp.out.mono ?_
        rintro e w1 ⟨rfl, n1, rfl⟩
        have h1 := Lib.hid (H.out.drewN n1)
        have hT1 := Lib.hid (hT.out.drewN n1)
        generalize w.drewN n1 = w1 at h1 hT1
        have c3 := h1.out.c3
        have c4 := h1.out.c4
        have c5 := h1.out.c5
        have f4 := h1.out.f 4
        have f5 := h1.out.f 5
        clear hp
        have c0 := h1.out.c0
        have c2 := h1.out.c2
        have hpx : ∀ W, Calls Tryz.prog 87 #[.string (c.s.extract k c.s.size), .string ⟨#[92, 10]⟩] W fun e w' => e = .returned (.bool true) ∧ w' = W := fun W => (Tryz.strings_HasPrefix _ _ W).mono fun e w' ⟨he, hw⟩ => ⟨by rw [he, extract_sl, HD0.out]; rfl, hw⟩
        go_wp2_with fail
        go_quiet ((go_at_call 87; exact Calls.quiet_of_same (hpx _)))
        clear c3 c4 c5 f4 f5
        clear c0 c2 hpx
        go_wp2_with fail
        refine (next_some (h1.out.word.1.drewN _).ctx HD0.out).mono ?_
        rintro e w2 ⟨rfl, hs⟩
        have h2 := Lib.hid ((h1.out.word.1.drewN _).step hs (by omega))
        have hT2 := Lib.hid (((hT1.out.same h1.out.word.2).drewN _).same h2.out.2)
        clear hs h1 hT1
        go_wp2_with fail
        refine (next_some h2.out.1.ctx HD.out).mono ?_
        rintro e w3 ⟨rfl, hs⟩
        have h3 := Lib.hid (h2.out.1.step hs (by omega))
        clear hs
        go_wp2_with fail
        go_step3
        exact RJ.goto0 h3.out.1 (hT2.out.same h3.out.2) (by have := HN.out; omega) (by rw [(drop_head HD.out).2, lineAt_succ HD.out, HL.out]; exact HS.out) rfl rfl rfl
      rw [if_neg h92] at hspec
      by_cases h35 : b = 35
      · subst h35
        rw [if_pos rfl] at hspec
        have HS := Lib.hid hspec
        clear hspec h32 h9 h92
        rcases ib_feed ((sl c.s).drop k) with ⟨hib, hfd⟩ | ⟨q, hib, hql, hfd, hff⟩
        · have hix : ∀ W, Calls Tryz.prog 75 #[.string (c.s.extract k c.s.size), .int .u8 10] W fun e w' => e = .returned (.int .i64 (-1)) ∧ w' = W := fun W => (Tryz.strings_IndexByte _ 10 W).mono fun e w' ⟨he, hw⟩ => ⟨by rw [he, extract_sl, ← hib]; rfl, hw⟩
          have HE := Lib.hid (show Except.ok (Lx.fin now out g) = res by
            have hs := HS.out
            rw [HD0.out] at hfd
            have hf2 : Lx.toFeed r = [] := by simpa [Lx.toFeed] using hfd
            rw [hf2, Lx.read_nil] at hs
            exact hs)
          clear hib hfd
          go_wp2_with fail
          refine hp.out.mono ?_
          rintro e w1 ⟨rfl, n1, rfl⟩
          have h1 := Lib.hid (H.out.drewN n1)
          have hT1 := Lib.hid (hT.out.drewN n1)
          generalize w.drewN n1 = w1 at h1 hT1
          have c3 := h1.out.c3
          have c4 := h1.out.c4
          have c5 := h1.out.c5
          have f4 := h1.out.f 4
          have f5 := h1.out.f 5
          clear hp
          have c0 := h1.out.c0
          have c2 := h1.out.c2
          go_wp2_with fail
          go_quiet (fail)
          go_wp2_with fail
          go_quiet ((go_at_call 75; first | exact Calls.quiet_of_same (hix _) | exact quiet_add_same (hix _)))
          clear c3 c4 c5 f4 f5
          clear c0 c2 hix
          go_wp2_with fail
          go_step3
          exact RJ.goto1 (h1.out.word.1.drewN _) ((hT1.out.same h1.out.word.2).drewN _) (by have := HN.out; omega) HE.out rfl rfl rfl
        · have hix : ∀ W, Calls Tryz.prog 75 #[.string (c.s.extract k c.s.size), .int .u8 10] W fun e w' => e = .returned (.int .i64 q) ∧ w' = W := fun W => (Tryz.strings_IndexByte _ 10 W).mono fun e w' ⟨he, hw⟩ => ⟨by rw [he, extract_sl, ← hib]; rfl, hw⟩
          rw [List.length_drop, sl_size] at hql
          have hq0 : (0 : Int) ≤ (q : Int) := by omega
          have hqp : 0 < q := by
            rcases Nat.eq_zero_or_pos q with e | e
            · subst e
              rw [HD0.out] at hib
              have h1 := hib
              simp only [Lib.indexByte] at h1
              split at h1
              · rename_i e2; cases e2
              · have := Lib.indexByte_ge r 10
                split at h1
                · cases h1
                · have h3 : Lib.indexByte r 10 = -1 := by omega
                  rename_i h4; exact absurd (by rw [h3]; rfl) h4
            · exact e
          have HF := Lib.hid (And.intro hfd (lineAt_add hff))
          clear hib hfd hff
          go_wp2_with fail
          refine hp.out.mono ?_
          rintro e w1 ⟨rfl, n1, rfl⟩
          have h1 := Lib.hid (H.out.drewN n1)
          have hT1 := Lib.hid (hT.out.drewN n1)
          generalize w.drewN n1 = w1 at h1 hT1
          have c3 := h1.out.c3
          have c4 := h1.out.c4
          have c5 := h1.out.c5
          have f4 := h1.out.f 4
          have f5 := h1.out.f 5
          clear hp
          have c0 := h1.out.c0
          have c2 := h1.out.c2
          have f2 := h1.out.f 2
          go_wp2_with fail
          go_quiet (fail)
          go_wp2_with fail
          go_quiet ((go_at_call 75; first | exact Calls.quiet_of_same (hix _) | exact quiet_add_same (hix _)))
          clear hix
          go_wp2_with fail
          go_step3
          exact RJ.goto0 ((h1.out.word.1.drewN _).at_ (k + q) (by omega) (by omega) HF.out.2).1 (((hT1.out.same h1.out.word.2).drewN _).same ((h1.out.word.1.drewN _).at_ (k + q) (by omega) (by omega) HF.out.2).2) (by have := HN.out; omega) (by
            rw [HF.out.2, ← List.drop_drop, ← HF.out.1, HD0.out]
            simpa [Lx.toFeed] using HS.out) rfl rfl rfl
      rw [if_neg h35] at hspec
      by_cases h59 : b = 59
      · subst h59
        rw [if_pos rfl] at hspec
        have HS := Lib.hid hspec
        clear hspec h32 h9 h92 h35
        go_wp2_with fail
        refine hp.out.mono ?_
        rintro e w1 ⟨rfl, n1, rfl⟩
        have h1 := Lib.hid (H.out.drewN n1)
        have hT1 := Lib.hid (hT.out.drewN n1)
        generalize w.drewN n1 = w1 at h1 hT1
        have c3 := h1.out.c3
        have c4 := h1.out.c4
        have c5 := h1.out.c5
        have f4 := h1.out.f 4
        have f5 := h1.out.f 5
        clear hp
        have c2 := h1.out.c2
        have f2 := h1.out.f 2
        go_wp2_with fail
        go_quiet (fail)
        rename_i nq
        go_wp2_with fail
        have ha := Lib.hid ((h1.out.word.1.drewN nq).at_ (k + 1) (by omega) (by omega) (by rw [HL.out]; rfl))
        refine (end_any ha.out.1).mono ?_
        rintro e w2 ⟨rfl, nv', ov', vs', h2, ht2, -⟩
        have H2 := Lib.hid h2
        have hT2 := Lib.hid ((((hT1.out.same h1.out.word.2).drewN nq).same ha.out.2).same ht2)
        clear h2 ht2 ha h1 hT1
        go_wp2_with fail
        go_step3
        exact RJ.goto0 H2.out hT2.out (by have := HN.out; omega) (by rw [HD.out, HL.out]; exact HS.out) rfl rfl rfl
      rw [if_neg h59] at hspec
      by_cases h10 : b = 10
      · subst h10
        rw [if_pos rfl] at hspec
        have HS := Lib.hid hspec
        clear hspec h32 h9 h92 h35 h59
        go_wp2_with fail
        refine hp.out.mono ?_
        rintro e w1 ⟨rfl, n1, rfl⟩
        have h1 := Lib.hid (H.out.drewN n1)
        have hT1 := Lib.hid (hT.out.drewN n1)
        generalize w.drewN n1 = w1 at h1 hT1
        have c3 := h1.out.c3
        have c4 := h1.out.c4
        have c5 := h1.out.c5
        have f4 := h1.out.f 4
        have f5 := h1.out.f 5
        clear hp
        go_wp2_with fail
        go_quiet (fail)
        go_wp2_with fail
        refine (next_some (h1.out.word.1.drewN _).ctx HD0.out).mono ?_
        rintro e w2 ⟨rfl, hs⟩
        have h2 := Lib.hid ((h1.out.word.1.drewN _).step hs (by omega))
        have hT2 := Lib.hid (((hT1.out.same h1.out.word.2).drewN _).same h2.out.2)
        clear hs h1 hT1 c3 c4 c5 f4 f5
        go_wp2_with fail
        refine (end_any h2.out.1).mono ?_
        rintro e w3 ⟨rfl, nv', ov', vs', h3, ht3, -⟩
        have H3 := Lib.hid h3
        have hT3 := Lib.hid (hT2.out.same ht3)
        have hnum := last_of h3.lines
        generalize hout : Lx.fin now out g = out' at h3 hnum H3 HS
        have c6 := h3.c6
        have c8 := h3.c8
        have f8 := h3.f 8
        clear h3 ht3 h2 hT2
        rcases hnum with ⟨he, A0, cp, hov⟩ | ⟨m, gb, cp, lg, hlen, hov, hcell, hlast⟩
        · subst hov
          have HE := Lib.hid (And.intro he hout)
          clear he hout
          go_wp2_with fail
          go_quiet (fail)
          go_wp2_with fail
          go_step3
          exact RJ.goto0 (H3.out.drewN _) (hT3.out.drewN _) (by have := HN.out; omega) (by rw [HD.out, HL.out]; have := HS.out; rw [HE.out.1] at this ⊢; exact this) rfl rfl rfl
        subst hov
        have HE := Lib.hid (And.intro hout hlast)
        have hm1 : (0 : Int) < ((m + 1 : Nat) : Int) := by omega
        have hm2 : ((m : Int) + 1 - 1) = m := by omega
        have hmcp : m + 1 ≤ 1000 := by have := H3.out.many; simp at this; omega
        clear hout hlast hlen
        by_cases hg : lg = g
        · subst hg
          have hgi : ((lg : Int) == (lg : Int)) = true := by simp
          have hgb : (lg : Int) ≤ 70000 := by have := H.out.grp; omega
          go_wp2_with fail
          go_quiet (fail)
          go_wp2_with fail
          go_step3
          exact RJ.goto0 ((H3.out.drewN _).gset (by have := H.out.grp; omega)).1 ((hT3.out.drewN _).same ((H3.out.drewN _).gset (by have := H.out.grp; omega)).2) (by have := HN.out; omega) (by rw [HD.out, HL.out]; have := HS.out; rw [bump_eq HE.out.2, if_pos rfl] at this; exact this) rfl rfl rfl
        have hgi : ((lg : Int) == (g : Int)) = false := by rw [beq_eq_false_iff_ne]; omega
        have HG := Lib.hid hg
        clear hg
        go_wp2_with fail
        go_quiet (fail)
        go_wp2_with fail
        go_step3
        exact RJ.goto0 (H3.out.drewN _) (hT3.out.drewN _) (by have := HN.out; omega) (by rw [HD.out, HL.out]; have := HS.out; rw [bump_eq HE.out.2, if_neg HG.out] at this; exact this) rfl rfl rfl
      rw [if_neg h10] at hspec
      by_cases h125 : b = 125
      · subst h125
        rw [if_pos rfl] at hspec
        have HE := Lib.hid (show res = .error (4, lineAt c.s k) from hspec.symm)
        clear hspec h32 h9 h92 h35 h59 h10
        go_wp2_with fail
        refine hp.out.mono ?_
        rintro e w1 ⟨rfl, n1, rfl⟩
        have h1 := Lib.hid (H.out.drewN n1)
        have hT1 := Lib.hid (hT.out.drewN n1)
        generalize w.drewN n1 = w1 at h1 hT1
        have c3 := h1.out.c3
        have c4 := h1.out.c4
        have c5 := h1.out.c5
        have f4 := h1.out.f 4
        have f5 := h1.out.f 5
        clear hp
        go_wp2_with fail
        go_quiet (fail)
        go_wp2_with fail
        refine (fail_any (h1.out.word.1.drewN _).ctx 4).mono ?_
        rintro e w2 ⟨rfl, rfl⟩
        exact ⟨rfl, by rw [HE.out]; exact ⟨rfl, (hT1.out.same h1.out.word.2).drewN _⟩⟩
      rw [if_neg h125] at hspec
      have e32 : ((b.toNat : Int) == 32) = false := u8_ne (m := 32) h32
      have e9 : ((b.toNat : Int) == 9) = false := u8_ne (m := 9) h9
      have e35 : ((b.toNat : Int) == 35) = false := u8_ne (m := 35) h35
      have e59 : ((b.toNat : Int) == 59) = false := u8_ne (m := 59) h59
      have e10 : ((b.toNat : Int) == 10) = false := u8_ne (m := 10) h10
      have e125 : ((b.toNat : Int) == 125) = false := u8_ne (m := 125) h125
      have hov : Lx.over (b :: r) = false := by simp [Lx.over, h32, h9, h10, h59]
      have HOV := Lib.hid hov
      have h92' : b = 92 → ¬ r.head? = some 10 := fun e1 e2 => h92 ⟨e1, e2⟩
      have hnm := hN0.out.few
      have hom := hN0.out.many
      obtain ⟨An, cpn, hnv⟩ := own_slice hN0.out.nown
      obtain ⟨Ao, cpo, hovv⟩ := own_slice hN0.out.lines.row
      clear h32 h9 h35 h59 h10 h125 hov
      subst hnv
      subst hovv
      by_cases h256 : now.length = 256
      · rw [if_pos (.inl h256)] at hspec
        have HE := Lib.hid (show res = .error (3, lineAt c.s k) from hspec.symm)
        have hl : ((now.length : Int) == 256) = true := by simp [h256]
        clear hspec h256
        by_cases hb92 : b = 92
        · subst hb92
          have hnr := h92' rfl
          have hpx : ∀ W, Calls Tryz.prog 87 #[.string (c.s.extract k c.s.size), .string ⟨#[92, 10]⟩] W fun e w' => e = .returned (.bool false) ∧ w' = W := fun W => (Tryz.strings_HasPrefix _ _ W).mono fun e w' ⟨he, hw⟩ => ⟨by rw [he, extract_sl, HD0.out, prefix_no hnr], hw⟩
          clear h92' hnr e32 e9 e35 e59 e10 e125
          go_wp2_with fail
          refine hp.out.mono ?_
          rintro e w1 ⟨rfl, n1, rfl⟩
          have h1 := Lib.hid (H.out.drewN n1)
          have hT1 := Lib.hid (hT.out.drewN n1)
          generalize w.drewN n1 = w1 at h1 hT1
          have c3 := h1.out.c3
          have c4 := h1.out.c4
          have c5 := h1.out.c5
          have f4 := h1.out.f 4
          have f5 := h1.out.f 5
          clear hp
          have c0 := h1.out.c0
          have c2 := h1.out.c2
          have f2 := h1.out.f 2
          have c6 := h1.out.c6
          have c7 := h1.out.c7
          go_wp2_with fail
          go_quiet ((go_at_call 87; exact Calls.quiet_of_same (hpx _)))
          clear hpx
          rename_i nq
          have h2 := Lib.hid (h1.out.word.1.drewN nq)
          have hT2 := Lib.hid ((hT1.out.same h1.out.word.2).drewN nq)
          clear h1 hT1
          generalize World.drewN _ nq = w2 at h2 hT2
          clear c0 c2 f2 c3 c4 c5 c6 c7 f4 f5
          have c2 := h2.out.c2
          have f2 := h2.out.f 2
          have c6 := h2.out.c6
          have c7 := h2.out.c7
          go_wp2_with fail
          refine (fail_any h2.out.ctx 3).mono ?_
          rintro e w2 ⟨rfl, rfl⟩
          exact ⟨rfl, by rw [HE.out]; exact ⟨rfl, hT2.out⟩⟩
        have e92 : ((b.toNat : Int) == 92) = false := u8_ne (m := 92) hb92
        clear h92' hb92
        go_wp2_with fail
        refine hp.out.mono ?_
        rintro e w1 ⟨rfl, n1, rfl⟩
        have h1 := Lib.hid (H.out.drewN n1)
        have hT1 := Lib.hid (hT.out.drewN n1)
        generalize w.drewN n1 = w1 at h1 hT1
        have c3 := h1.out.c3
        have c4 := h1.out.c4
        have c5 := h1.out.c5
        have f4 := h1.out.f 4
        have f5 := h1.out.f 5
        clear hp
        have c0 := h1.out.c0
        have c2 := h1.out.c2
        have f2 := h1.out.f 2
        have c6 := h1.out.c6
        have c7 := h1.out.c7
        go_wp2_with fail
        go_quiet (fail)
        rename_i nq
        have h2 := Lib.hid (h1.out.word.1.drewN nq)
        have hT2 := Lib.hid ((hT1.out.same h1.out.word.2).drewN nq)
        clear h1 hT1
        generalize World.drewN _ nq = w2 at h2 hT2
        clear c0 c2 f2 c3 c4 c5 c6 c7 f4 f5
        have c2 := h2.out.c2
        have f2 := h2.out.f 2
        have c6 := h2.out.c6
        have c7 := h2.out.c7
        go_wp2_with fail
        refine (fail_any h2.out.ctx 3).mono ?_
        rintro e w2 ⟨rfl, rfl⟩
        exact ⟨rfl, by rw [HE.out]; exact ⟨rfl, hT2.out⟩⟩
      by_cases hmm : now = [] ∧ out.length = 1000
      · rw [if_pos (.inr hmm)] at hspec
        have HE := Lib.hid (show res = .error (3, lineAt c.s k) from hspec.symm)
        have hl : ((now.length : Int) == 256) = false := by rw [beq_eq_false_iff_ne]; omega
        have hl0 : ((now.length : Int) == 0) = true := by simp [hmm.1]
        have hl1 : ((out.length : Int) == 1000) = true := by simp [hmm.2]
        clear hspec h256 hmm
        by_cases hb92 : b = 92
        · subst hb92
          have hnr := h92' rfl
          have hpx : ∀ W, Calls Tryz.prog 87 #[.string (c.s.extract k c.s.size), .string ⟨#[92, 10]⟩] W fun e w' => e = .returned (.bool false) ∧ w' = W := fun W => (Tryz.strings_HasPrefix _ _ W).mono fun e w' ⟨he, hw⟩ => ⟨by rw [he, extract_sl, HD0.out, prefix_no hnr], hw⟩
          clear h92' hnr e32 e9 e35 e59 e10 e125
          go_wp2_with fail
          refine hp.out.mono ?_
          rintro e w1 ⟨rfl, n1, rfl⟩
          have h1 := Lib.hid (H.out.drewN n1)
          have hT1 := Lib.hid (hT.out.drewN n1)
          generalize w.drewN n1 = w1 at h1 hT1
          have c3 := h1.out.c3
          have c4 := h1.out.c4
          have c5 := h1.out.c5
          have f4 := h1.out.f 4
          have f5 := h1.out.f 5
          clear hp
          have c0 := h1.out.c0
          have c2 := h1.out.c2
          have f2 := h1.out.f 2
          have c6 := h1.out.c6
          have c7 := h1.out.c7
          go_wp2_with fail
          go_quiet ((go_at_call 87; exact Calls.quiet_of_same (hpx _)))
          clear hpx
          rename_i nq
          have h2 := Lib.hid (h1.out.word.1.drewN nq)
          have hT2 := Lib.hid ((hT1.out.same h1.out.word.2).drewN nq)
          clear h1 hT1
          generalize World.drewN _ nq = w2 at h2 hT2
          clear c0 c2 f2 c3 c4 c5 c6 c7 f4 f5
          have c2 := h2.out.c2
          have f2 := h2.out.f 2
          have c6 := h2.out.c6
          have c7 := h2.out.c7
          go_wp2_with fail
          refine (fail_any h2.out.ctx 3).mono ?_
          rintro e w2 ⟨rfl, rfl⟩
          exact ⟨rfl, by rw [HE.out]; exact ⟨rfl, hT2.out⟩⟩
        have e92 : ((b.toNat : Int) == 92) = false := u8_ne (m := 92) hb92
        clear h92' hb92
        go_wp2_with fail
        refine hp.out.mono ?_
        rintro e w1 ⟨rfl, n1, rfl⟩
        have h1 := Lib.hid (H.out.drewN n1)
        have hT1 := Lib.hid (hT.out.drewN n1)
        generalize w.drewN n1 = w1 at h1 hT1
        have c3 := h1.out.c3
        have c4 := h1.out.c4
        have c5 := h1.out.c5
        have f4 := h1.out.f 4
        have f5 := h1.out.f 5
        clear hp
        have c0 := h1.out.c0
        have c2 := h1.out.c2
        have f2 := h1.out.f 2
        have c6 := h1.out.c6
        have c7 := h1.out.c7
        go_wp2_with fail
        go_quiet (fail)
        rename_i nq
        have h2 := Lib.hid (h1.out.word.1.drewN nq)
        have hT2 := Lib.hid ((hT1.out.same h1.out.word.2).drewN nq)
        clear h1 hT1
        generalize World.drewN _ nq = w2 at h2 hT2
        clear c0 c2 f2 c3 c4 c5 c6 c7 f4 f5
        have c2 := h2.out.c2
        have f2 := h2.out.f 2
        have c6 := h2.out.c6
        have c7 := h2.out.c7
        go_wp2_with fail
        refine (fail_any h2.out.ctx 3).mono ?_
        rintro e w2 ⟨rfl, rfl⟩
        exact ⟨rfl, by rw [HE.out]; exact ⟨rfl, hT2.out⟩⟩
      rw [if_neg (by rintro (e | e); exact h256 e; exact hmm e)] at hspec
      have hfew : now.length < 256 := by omega
      have hman : out.length < 1000 := by
        by_cases e : now = []
        · rw [if_pos e] at hom; have : out.length ≠ 1000 := fun e2 => hmm ⟨e, e2⟩; omega
        · rw [if_neg e] at hom; omega
      have hl : ((now.length : Int) == 256) = false := by rw [beq_eq_false_iff_ne]; omega
      have hl01 : ((now.length : Int) == 0) = true ∧ ((out.length : Int) == 1000) = false ∨ ((now.length : Int) == 0) = false := by
        by_cases e : now = []
        · left; refine ⟨by simp [e], ?_⟩; rw [beq_eq_false_iff_ne]; omega
        · right
          have : now.length ≠ 0 := fun e2 => e (List.eq_nil_of_length_eq_zero e2)
          rw [beq_eq_false_iff_ne]; omega
      have HFM := Lib.hid (And.intro hfew hman)
      clear h256 hmm hfew hman hnm hom
      by_cases h123 : b = 123
      · subst h123
        rw [if_pos rfl] at hspec
        clear h92' e32 e9 e35 e59 e10 e125
        by_cases hbk : ∃ r', Lx.blk 1 r = some r' ∧ Lx.over r' = true
        · obtain ⟨r', hbk, hor⟩ := hbk
          rw [hbk] at hspec
          dsimp only at hspec
          rw [if_pos hor] at hspec
          have HS := Lib.hid hspec
          have HB := Lib.hid (And.intro hbk hor)
          clear hspec hbk hor
          go_wp2_with fail
          refine hp.out.mono ?_
          rintro e w1 ⟨rfl, n1, rfl⟩
          have h1 := Lib.hid (H.out.drewN n1)
          have hT1 := Lib.hid (hT.out.drewN n1)
          generalize w.drewN n1 = w1 at h1 hT1
          have c3 := h1.out.c3
          have c4 := h1.out.c4
          have c5 := h1.out.c5
          have f4 := h1.out.f 4
          have f5 := h1.out.f 5
          clear hp
          have c0 := h1.out.c0
          have c2 := h1.out.c2
          have f2 := h1.out.f 2
          have c6 := h1.out.c6
          have c7 := h1.out.c7
          go_wp2_with fail
          go_quiet (fail)
          rename_i nq
          have h2 := Lib.hid (h1.out.word.1.drewN nq)
          have hT2 := Lib.hid ((hT1.out.same h1.out.word.2).drewN nq)
          clear h1 hT1
          generalize World.drewN _ nq = w2 at h2 hT2
          clear c0 c2 f2 c3 c4 c5 c6 c7 f4 f5
          have c2 := h2.out.c2
          have f2 := h2.out.f 2
          have c6 := h2.out.c6
          have c7 := h2.out.c7
          rcases hl01 with ⟨hl0, hl1⟩ | hl0
          · go_wp2_with fail
            have ha := Lib.hid (h2.out.at1 (by omega) (by rw [HL.out]; rfl))
            generalize w2.setCell _ _ = w3 at ha ⊢
            have d7 := ha.out.1.c7
            have e7 := ha.out.1.f 7
            have hR := ha.out.1.ltR
            have hW := ha.out.1.hw
            have hdr : RC w3.drew c (k + 1) (lineAt c.s k) (.slice none 0 0) (.slice An now.length cpn) (.slice Ao out.length cpo) now out vs g := ha.out.1.drewN 1
            obtain ⟨T, hT⟩ : ∃ T, ((sl c.s).drop (k + 1)).take (((sl c.s).drop (k + 1)).length - r'.length - 1) = T := ⟨_, rfl⟩
            have hbo := block_ok hdr (by rw [HD.out]; exact HB.out.1) HB.out.2
            rw [hT] at hbo
            have hcall := Lib.hid hbo
            have HTT := Lib.hid hT
            clear hT hbo
            have hT3 := Lib.hid (hT2.out.same ha.out.2)
            clear c2 f2 c6 c7 hdr
            obtain ⟨i0, hi0, hz0, hz1, hz2⟩ := info_parts A.info_word
            have hfew := HFM.out.1
            have HNR := Lib.hid (show some c.R ≠ (Value.slice An now.length cpn).ownBlock from fun e => own_blk_ne ha.out.1.nown ha.out.1.blk (by decide) e.symm)
            go_region_law (first
              | (refine step_call_one (by rfl) 91 _ _ (by rfl) (.pointer (some ⟨c.R, 0, none⟩)) (by rfl) A.enter_block _ hcall.out ?_; rintro e w4 ⟨k', tx', rfl, hkk, hk', hrc4, ht4⟩; have H4 := Lib.hid (And.intro hkk (And.intro hk' (And.intro hrc4 ht4))); have d4 := hrc4.c7; have e4 := hrc4.f 7; have hR4 := hrc4.ltR; have hW4 := hrc4.hw; have ho4 := Lib.hid hrc4.nown; clear hkk hk' hrc4 ht4; refine ⟨_, rfl, ?_⟩)
              | (refine step_append_src _ (by rfl) _ _ _ _ (by rfl) c.W0 104 i0 _ 3 32 Tryz.underlying94 hi0 hz0 hz1 hz2 (by rfl) (.slice An now.length cpn) now.length (wordCells now) (by rfl) (by exact ho4.out.alloc _) _ 1 [.string ⟨T.toArray⟩, .int .i64 (lineAt c.s k), .bool true] (by rfl) (by exact Src.ofBlock Tryz.underlying94 (Blk.new w4 _ _) 1 1 rfl (by intro u hu; simp at hu; rcases hu with rfl | rfl | rfl <;> rfl)) (by simp only [maxLen]; omega) (by omega) (by simp; omega) ?_; intro A1 cp1 w5 ho5 hg5 hat5; have d5 := hg5.cell (a := ⟨c.R, 7, none⟩) ((World.cell?_of_block (Below.heap_alloc w4 _ c.R hR4)).trans d4) HNR.out; have e5 := (World.frozen?_of_block (a := ⟨c.R, 7, none⟩) (hg5.block c.R (by simp; omega) HNR.out)).trans ((World.frozen?_of_block (Below.heap_alloc w4 _ c.R hR4)).trans e4); have H5 := Lib.hid (And.intro ho5 (And.intro hg5 hat5)); clear ho5 hg5 hat5))
            all_goals
              have HP := Lib.hid (H4.out.2.2.1.push { text := T, line := lineAt c.s k, block := true } H5.out.1 (((Turns.refl _ w4).alloc _).grown H5.out.2.1 fun b _ e => e) (by
                rcases H5.out.2.2 with e | e
                · exact .inl e
                · exact .inr ⟨_, e, by simp⟩) HFM.out.1 HFM.out.2)
              go_wp2_with fail
              go_step3
              refine RJ.goto0 HP.out.1 (((hT3.out.drewN 1).same H4.out.2.2.2).same HP.out.2) (by have := HN.out; have := H4.out.1; omega) ?_ rfl rfl rfl
              have hs := HS.out
              rw [← HTT.out, HD.out, H4.out.2.1, lineAt_drop (k := k) (by have := H4.out.1; omega), HD0.out, H4.out.2.1]
              exact hs
          · go_wp2_with fail
            have ha := Lib.hid (h2.out.at1 (by omega) (by rw [HL.out]; rfl))
            generalize w2.setCell _ _ = w3 at ha ⊢
            have d7 := ha.out.1.c7
            have e7 := ha.out.1.f 7
            have hR := ha.out.1.ltR
            have hW := ha.out.1.hw
            have hdr : RC w3.drew c (k + 1) (lineAt c.s k) (.slice none 0 0) (.slice An now.length cpn) (.slice Ao out.length cpo) now out vs g := ha.out.1.drewN 1
            obtain ⟨T, hT⟩ : ∃ T, ((sl c.s).drop (k + 1)).take (((sl c.s).drop (k + 1)).length - r'.length - 1) = T := ⟨_, rfl⟩
            have hbo := block_ok hdr (by rw [HD.out]; exact HB.out.1) HB.out.2
            rw [hT] at hbo
            have hcall := Lib.hid hbo
            have HTT := Lib.hid hT
            clear hT hbo
            have hT3 := Lib.hid (hT2.out.same ha.out.2)
            clear c2 f2 c6 c7 hdr
            obtain ⟨i0, hi0, hz0, hz1, hz2⟩ := info_parts A.info_word
            have hfew := HFM.out.1
            have HNR := Lib.hid (show some c.R ≠ (Value.slice An now.length cpn).ownBlock from fun e => own_blk_ne ha.out.1.nown ha.out.1.blk (by decide) e.symm)
            go_region_law (first
              | (refine step_call_one (by rfl) 91 _ _ (by rfl) (.pointer (some ⟨c.R, 0, none⟩)) (by rfl) A.enter_block _ hcall.out ?_; rintro e w4 ⟨k', tx', rfl, hkk, hk', hrc4, ht4⟩; have H4 := Lib.hid (And.intro hkk (And.intro hk' (And.intro hrc4 ht4))); have d4 := hrc4.c7; have e4 := hrc4.f 7; have hR4 := hrc4.ltR; have hW4 := hrc4.hw; have ho4 := Lib.hid hrc4.nown; clear hkk hk' hrc4 ht4; refine ⟨_, rfl, ?_⟩)
              | (refine step_append_src _ (by rfl) _ _ _ _ (by rfl) c.W0 104 i0 _ 3 32 Tryz.underlying94 hi0 hz0 hz1 hz2 (by rfl) (.slice An now.length cpn) now.length (wordCells now) (by rfl) (by exact ho4.out.alloc _) _ 1 [.string ⟨T.toArray⟩, .int .i64 (lineAt c.s k), .bool true] (by rfl) (by exact Src.ofBlock Tryz.underlying94 (Blk.new w4 _ _) 1 1 rfl (by intro u hu; simp at hu; rcases hu with rfl | rfl | rfl <;> rfl)) (by simp only [maxLen]; omega) (by omega) (by simp; omega) ?_; intro A1 cp1 w5 ho5 hg5 hat5; have d5 := hg5.cell (a := ⟨c.R, 7, none⟩) ((World.cell?_of_block (Below.heap_alloc w4 _ c.R hR4)).trans d4) HNR.out; have e5 := (World.frozen?_of_block (a := ⟨c.R, 7, none⟩) (hg5.block c.R (by simp; omega) HNR.out)).trans ((World.frozen?_of_block (Below.heap_alloc w4 _ c.R hR4)).trans e4); have H5 := Lib.hid (And.intro ho5 (And.intro hg5 hat5)); clear ho5 hg5 hat5))
            all_goals
              have HP := Lib.hid (H4.out.2.2.1.push { text := T, line := lineAt c.s k, block := true } H5.out.1 (((Turns.refl _ w4).alloc _).grown H5.out.2.1 fun b _ e => e) (by
                rcases H5.out.2.2 with e | e
                · exact .inl e
                · exact .inr ⟨_, e, by simp⟩) HFM.out.1 HFM.out.2)
              go_wp2_with fail
              go_step3
              refine RJ.goto0 HP.out.1 (((hT3.out.drewN 1).same H4.out.2.2.2).same HP.out.2) (by have := HN.out; have := H4.out.1; omega) ?_ rfl rfl rfl
              have hs := HS.out
              rw [← HTT.out, HD.out, H4.out.2.1, lineAt_drop (k := k) (by have := H4.out.1; omega), HD0.out, H4.out.2.1]
              exact hs
        · have hnb : ∀ r', Lx.blk 1 r = some r' → Lx.over r' = false := fun r' e => by
            cases ho : Lx.over r' with
            | false => rfl
            | true => exact absurd ⟨r', e, ho⟩ hbk
          have hres : res = .error (4, lineAt c.s k) := by
            rw [← hspec]
            cases hq : Lx.blk 1 r with
            | none => rfl
            | some r' =>
              dsimp only
              rw [if_neg (by rw [hnb r' hq]; simp)]
          have HE := Lib.hid hres
          have HB := Lib.hid hnb
          clear hspec hbk hnb hres
          go_wp2_with fail
          refine hp.out.mono ?_
          rintro e w1 ⟨rfl, n1, rfl⟩
          have h1 := Lib.hid (H.out.drewN n1)
          have hT1 := Lib.hid (hT.out.drewN n1)
          generalize w.drewN n1 = w1 at h1 hT1
          have c3 := h1.out.c3
          have c4 := h1.out.c4
          have c5 := h1.out.c5
          have f4 := h1.out.f 4
          have f5 := h1.out.f 5
          clear hp
          have c0 := h1.out.c0
          have c2 := h1.out.c2
          have f2 := h1.out.f 2
          have c6 := h1.out.c6
          have c7 := h1.out.c7
          go_wp2_with fail
          go_quiet (fail)
          rename_i nq
          have h2 := Lib.hid (h1.out.word.1.drewN nq)
          have hT2 := Lib.hid ((hT1.out.same h1.out.word.2).drewN nq)
          clear h1 hT1
          generalize World.drewN _ nq = w2 at h2 hT2
          clear c0 c2 f2 c3 c4 c5 c6 c7 f4 f5
          have c2 := h2.out.c2
          have f2 := h2.out.f 2
          have c6 := h2.out.c6
          have c7 := h2.out.c7
          rcases hl01 with ⟨hl0, hl1⟩ | hl0
          · go_wp2_with fail
            have ha := Lib.hid (h2.out.at1 (by omega) (by rw [HL.out]; rfl))
            generalize w2.setCell _ _ = w3 at ha ⊢
            have d7 := ha.out.1.c7
            have hdr : RC w3.drew c (k + 1) (lineAt c.s k) (.slice none 0 0) (.slice An now.length cpn) (.slice Ao out.length cpo) now out vs g := ha.out.1.drewN 1
            have hcall := Lib.hid (block_bad hdr (by rw [HD.out]; exact HB.out))
            have hT3 := Lib.hid ((hT2.out.same ha.out.2).drewN 1)
            clear c2 f2 c6 c7 hdr
            go_region_law ((refine step_call_panic (by rfl) 91 _ _ (by rfl) (.pointer (some ⟨c.R, 0, none⟩)) (by rfl) A.enter_block _ hcall.out (fun e w4 hr => ⟨_, hr.1, ?_⟩) ?_; (exact ⟨rfl, by rw [HE.out]; exact ⟨rfl, hT3.out.same hr.2⟩⟩)))
            all_goals exact trivial
          · go_wp2_with fail
            have ha := Lib.hid (h2.out.at1 (by omega) (by rw [HL.out]; rfl))
            generalize w2.setCell _ _ = w3 at ha ⊢
            have d7 := ha.out.1.c7
            have hdr : RC w3.drew c (k + 1) (lineAt c.s k) (.slice none 0 0) (.slice An now.length cpn) (.slice Ao out.length cpo) now out vs g := ha.out.1.drewN 1
            have hcall := Lib.hid (block_bad hdr (by rw [HD.out]; exact HB.out))
            have hT3 := Lib.hid ((hT2.out.same ha.out.2).drewN 1)
            clear c2 f2 c6 c7 hdr
            go_region_law ((refine step_call_panic (by rfl) 91 _ _ (by rfl) (.pointer (some ⟨c.R, 0, none⟩)) (by rfl) A.enter_block _ hcall.out (fun e w4 hr => ⟨_, hr.1, ?_⟩) ?_; (exact ⟨rfl, by rw [HE.out]; exact ⟨rfl, hT3.out.same hr.2⟩⟩)))
            all_goals exact trivial
      rw [if_neg h123] at hspec
      have e123 : ((b.toNat : Int) == 123) = false := u8_ne (m := 123) h123
      rcases hw : Lx.word (envOf c.es) true [] (b :: r) with m | ⟨T, r'⟩
      · have HE := Lib.hid (show res = .error (m, lineAt c.s k) by rw [← hspec, hw])
        have HW := Lib.hid hw
        clear hspec hw h123
        by_cases hb92 : b = 92
        · subst hb92
          have hnr := h92' rfl
          have hpx : ∀ W, Calls Tryz.prog 87 #[.string (c.s.extract k c.s.size), .string ⟨#[92, 10]⟩] W fun e w' => e = .returned (.bool false) ∧ w' = W := fun W => (Tryz.strings_HasPrefix _ _ W).mono fun e w' ⟨he, hw⟩ => ⟨by rw [he, extract_sl, HD0.out, prefix_no hnr], hw⟩
          clear h92' hnr e32 e9 e35 e59 e10 e125 e123
          go_wp2_with fail
          refine hp.out.mono ?_
          rintro e w1 ⟨rfl, n1, rfl⟩
          have h1 := Lib.hid (H.out.drewN n1)
          have hT1 := Lib.hid (hT.out.drewN n1)
          generalize w.drewN n1 = w1 at h1 hT1
          have c3 := h1.out.c3
          have c4 := h1.out.c4
          have c5 := h1.out.c5
          have f4 := h1.out.f 4
          have f5 := h1.out.f 5
          clear hp
          have c0 := h1.out.c0
          have c2 := h1.out.c2
          have f2 := h1.out.f 2
          have c6 := h1.out.c6
          have c7 := h1.out.c7
          go_wp2_with fail
          go_quiet ((go_at_call 87; exact Calls.quiet_of_same (hpx _)))
          clear hpx
          rename_i nq
          have h2 := Lib.hid (h1.out.word.1.drewN nq)
          have hT2 := Lib.hid ((hT1.out.same h1.out.word.2).drewN nq)
          clear h1 hT1
          generalize World.drewN _ nq = w2 at h2 hT2
          clear c0 c2 f2 c3 c4 c5 c6 c7 f4 f5
          have c2 := h2.out.c2
          have f2 := h2.out.f 2
          have c6 := h2.out.c6
          have c7 := h2.out.c7
          rcases hl01 with ⟨hl0, hl1⟩ | hl0
          · go_wp2_with fail
            have d7 := h2.out.c7
            have hdr : RC w2.drew c k (lineAt c.s k) (.slice none 0 0) (.slice An now.length cpn) (.slice Ao out.length cpo) now out vs g := h2.out.drewN 1
            have hcall := Lib.hid (word_bad hdr (by rw [HD0.out]; exact HW.out))
            have hT3 := Lib.hid (hT2.out.drewN 1)
            clear c2 f2 c6 c7 hdr
            go_region_law ((refine step_call_panic (by rfl) 92 _ _ (by rfl) (.pointer (some ⟨c.R, 0, none⟩)) (by rfl) A.enter_text _ hcall.out (fun e w4 hr => ⟨_, hr.1, ?_⟩) ?_; (exact ⟨rfl, by rw [HE.out]; exact ⟨rfl, hT3.out.same hr.2⟩⟩)))
            all_goals exact trivial
          · go_wp2_with fail
            have d7 := h2.out.c7
            have hdr : RC w2.drew c k (lineAt c.s k) (.slice none 0 0) (.slice An now.length cpn) (.slice Ao out.length cpo) now out vs g := h2.out.drewN 1
            have hcall := Lib.hid (word_bad hdr (by rw [HD0.out]; exact HW.out))
            have hT3 := Lib.hid (hT2.out.drewN 1)
            clear c2 f2 c6 c7 hdr
            go_region_law ((refine step_call_panic (by rfl) 92 _ _ (by rfl) (.pointer (some ⟨c.R, 0, none⟩)) (by rfl) A.enter_text _ hcall.out (fun e w4 hr => ⟨_, hr.1, ?_⟩) ?_; (exact ⟨rfl, by rw [HE.out]; exact ⟨rfl, hT3.out.same hr.2⟩⟩)))
            all_goals exact trivial
        have e92 : ((b.toNat : Int) == 92) = false := u8_ne (m := 92) hb92
        clear h92' hb92
        go_wp2_with fail
        refine hp.out.mono ?_
        rintro e w1 ⟨rfl, n1, rfl⟩
        have h1 := Lib.hid (H.out.drewN n1)
        have hT1 := Lib.hid (hT.out.drewN n1)
        generalize w.drewN n1 = w1 at h1 hT1
        have c3 := h1.out.c3
        have c4 := h1.out.c4
        have c5 := h1.out.c5
        have f4 := h1.out.f 4
        have f5 := h1.out.f 5
        clear hp
        have c0 := h1.out.c0
        have c2 := h1.out.c2
        have f2 := h1.out.f 2
        have c6 := h1.out.c6
        have c7 := h1.out.c7
        go_wp2_with fail
        go_quiet (fail)
        rename_i nq
        have h2 := Lib.hid (h1.out.word.1.drewN nq)
        have hT2 := Lib.hid ((hT1.out.same h1.out.word.2).drewN nq)
        clear h1 hT1
        generalize World.drewN _ nq = w2 at h2 hT2
        clear c0 c2 f2 c3 c4 c5 c6 c7 f4 f5
        have c2 := h2.out.c2
        have f2 := h2.out.f 2
        have c6 := h2.out.c6
        have c7 := h2.out.c7
        rcases hl01 with ⟨hl0, hl1⟩ | hl0
        · go_wp2_with fail
          have d7 := h2.out.c7
          have hdr : RC w2.drew c k (lineAt c.s k) (.slice none 0 0) (.slice An now.length cpn) (.slice Ao out.length cpo) now out vs g := h2.out.drewN 1
          have hcall := Lib.hid (word_bad hdr (by rw [HD0.out]; exact HW.out))
          have hT3 := Lib.hid (hT2.out.drewN 1)
          clear c2 f2 c6 c7 hdr
          go_region_law ((refine step_call_panic (by rfl) 92 _ _ (by rfl) (.pointer (some ⟨c.R, 0, none⟩)) (by rfl) A.enter_text _ hcall.out (fun e w4 hr => ⟨_, hr.1, ?_⟩) ?_; (exact ⟨rfl, by rw [HE.out]; exact ⟨rfl, hT3.out.same hr.2⟩⟩)))
          all_goals exact trivial
        · go_wp2_with fail
          have d7 := h2.out.c7
          have hdr : RC w2.drew c k (lineAt c.s k) (.slice none 0 0) (.slice An now.length cpn) (.slice Ao out.length cpo) now out vs g := h2.out.drewN 1
          have hcall := Lib.hid (word_bad hdr (by rw [HD0.out]; exact HW.out))
          have hT3 := Lib.hid (hT2.out.drewN 1)
          clear c2 f2 c6 c7 hdr
          go_region_law ((refine step_call_panic (by rfl) 92 _ _ (by rfl) (.pointer (some ⟨c.R, 0, none⟩)) (by rfl) A.enter_text _ hcall.out (fun e w4 hr => ⟨_, hr.1, ?_⟩) ?_; (exact ⟨rfl, by rw [HE.out]; exact ⟨rfl, hT3.out.same hr.2⟩⟩)))
          all_goals exact trivial
      · rw [hw] at hspec
        have HS := Lib.hid hspec
        have HW := Lib.hid hw
        clear hspec hw h123
        by_cases hb92 : b = 92
        · subst hb92
          have hnr := h92' rfl
          have hpx : ∀ W, Calls Tryz.prog 87 #[.string (c.s.extract k c.s.size), .string ⟨#[92, 10]⟩] W fun e w' => e = .returned (.bool false) ∧ w' = W := fun W => (Tryz.strings_HasPrefix _ _ W).mono fun e w' ⟨he, hw⟩ => ⟨by rw [he, extract_sl, HD0.out, prefix_no hnr], hw⟩
          clear h92' hnr e32 e9 e35 e59 e10 e125 e123
          go_wp2_with fail
          refine hp.out.mono ?_
          rintro e w1 ⟨rfl, n1, rfl⟩
          have h1 := Lib.hid (H.out.drewN n1)
          have hT1 := Lib.hid (hT.out.drewN n1)
          generalize w.drewN n1 = w1 at h1 hT1
          have c3 := h1.out.c3
          have c4 := h1.out.c4
          have c5 := h1.out.c5
          have f4 := h1.out.f 4
          have f5 := h1.out.f 5
          clear hp
          have c0 := h1.out.c0
          have c2 := h1.out.c2
          have f2 := h1.out.f 2
          have c6 := h1.out.c6
          have c7 := h1.out.c7
          go_wp2_with fail
          go_quiet ((go_at_call 87; exact Calls.quiet_of_same (hpx _)))
          clear hpx
          rename_i nq
          have h2 := Lib.hid (h1.out.word.1.drewN nq)
          have hT2 := Lib.hid ((hT1.out.same h1.out.word.2).drewN nq)
          clear h1 hT1
          generalize World.drewN _ nq = w2 at h2 hT2
          clear c0 c2 f2 c3 c4 c5 c6 c7 f4 f5
          have c2 := h2.out.c2
          have f2 := h2.out.f 2
          have c6 := h2.out.c6
          have c7 := h2.out.c7
          rcases hl01 with ⟨hl0, hl1⟩ | hl0
          · go_wp2_with fail
            have d7 := h2.out.c7
            have e7 := h2.out.f 7
            have hR := h2.out.ltR
            have hW := h2.out.hw
            have hdr : RC w2.drew c k (lineAt c.s k) (.slice none 0 0) (.slice An now.length cpn) (.slice Ao out.length cpo) now out vs g := h2.out.drewN 1
            have hcall := Lib.hid (word_ok hdr (by rw [HD0.out]; exact HOV.out) (by rw [HD0.out]; exact HW.out))
            clear c2 f2 c6 c7 hdr
            obtain ⟨i0, hi0, hz0, hz1, hz2⟩ := info_parts A.info_word
            have hfew := HFM.out.1
            have HNR := Lib.hid (show some c.R ≠ (Value.slice An now.length cpn).ownBlock from fun e => own_blk_ne h2.out.nown h2.out.blk (by decide) e.symm)
            go_region_law (first
              | (refine step_call_one (by rfl) 92 _ _ (by rfl) (.pointer (some ⟨c.R, 0, none⟩)) (by rfl) A.enter_text _ hcall.out ?_; rintro e w4 ⟨k', tx', rfl, hkk, hk', hrc4, ht4⟩; have H4 := Lib.hid (And.intro hkk (And.intro hk' (And.intro hrc4 ht4))); have d4 := hrc4.c7; have e4 := hrc4.f 7; have hR4 := hrc4.ltR; have hW4 := hrc4.hw; have ho4 := Lib.hid hrc4.nown; clear hkk hk' hrc4 ht4; refine ⟨_, rfl, ?_⟩)
              | (refine step_append_src _ (by rfl) _ _ _ _ (by rfl) c.W0 104 i0 _ 3 32 Tryz.underlying94 hi0 hz0 hz1 hz2 (by rfl) (.slice An now.length cpn) now.length (wordCells now) (by rfl) (by exact ho4.out.alloc _) _ 1 [.string ⟨T.toArray⟩, .int .i64 (lineAt c.s k), .bool false] (by rfl) (by exact Src.ofBlock Tryz.underlying94 (Blk.new w4 _ _) 1 1 rfl (by intro u hu; simp at hu; rcases hu with rfl | rfl | rfl <;> rfl)) (by simp only [maxLen]; omega) (by omega) (by simp; omega) ?_; intro A1 cp1 w5 ho5 hg5 hat5; have d5 := hg5.cell (a := ⟨c.R, 7, none⟩) ((World.cell?_of_block (Below.heap_alloc w4 _ c.R hR4)).trans d4) HNR.out; have e5 := (World.frozen?_of_block (a := ⟨c.R, 7, none⟩) (hg5.block c.R (by simp; omega) HNR.out)).trans ((World.frozen?_of_block (Below.heap_alloc w4 _ c.R hR4)).trans e4); have H5 := Lib.hid (And.intro ho5 (And.intro hg5 hat5)); clear ho5 hg5 hat5))
            all_goals
              have HP := Lib.hid (H4.out.2.2.1.push { text := T, line := lineAt c.s k, block := false } H5.out.1 (((Turns.refl _ w4).alloc _).grown H5.out.2.1 fun b _ e => e) (by
                rcases H5.out.2.2 with e | e
                · exact .inl e
                · exact .inr ⟨_, e, by simp⟩) HFM.out.1 HFM.out.2)
              go_wp2_with fail
              go_step3
              refine RJ.goto0 HP.out.1 (((hT2.out.drewN 1).same H4.out.2.2.2).same HP.out.2) (by have := HN.out; have := H4.out.1; omega) ?_ rfl rfl rfl
              have hs := HS.out
              rw [H4.out.2.1, lineAt_drop (k := k) (by have := H4.out.1; omega), HD0.out, H4.out.2.1]
              exact hs
          · go_wp2_with fail
            have d7 := h2.out.c7
            have e7 := h2.out.f 7
            have hR := h2.out.ltR
            have hW := h2.out.hw
            have hdr : RC w2.drew c k (lineAt c.s k) (.slice none 0 0) (.slice An now.length cpn) (.slice Ao out.length cpo) now out vs g := h2.out.drewN 1
            have hcall := Lib.hid (word_ok hdr (by rw [HD0.out]; exact HOV.out) (by rw [HD0.out]; exact HW.out))
            clear c2 f2 c6 c7 hdr
            obtain ⟨i0, hi0, hz0, hz1, hz2⟩ := info_parts A.info_word
            have hfew := HFM.out.1
            have HNR := Lib.hid (show some c.R ≠ (Value.slice An now.length cpn).ownBlock from fun e => own_blk_ne h2.out.nown h2.out.blk (by decide) e.symm)
            go_region_law (first
              | (refine step_call_one (by rfl) 92 _ _ (by rfl) (.pointer (some ⟨c.R, 0, none⟩)) (by rfl) A.enter_text _ hcall.out ?_; rintro e w4 ⟨k', tx', rfl, hkk, hk', hrc4, ht4⟩; have H4 := Lib.hid (And.intro hkk (And.intro hk' (And.intro hrc4 ht4))); have d4 := hrc4.c7; have e4 := hrc4.f 7; have hR4 := hrc4.ltR; have hW4 := hrc4.hw; have ho4 := Lib.hid hrc4.nown; clear hkk hk' hrc4 ht4; refine ⟨_, rfl, ?_⟩)
              | (refine step_append_src _ (by rfl) _ _ _ _ (by rfl) c.W0 104 i0 _ 3 32 Tryz.underlying94 hi0 hz0 hz1 hz2 (by rfl) (.slice An now.length cpn) now.length (wordCells now) (by rfl) (by exact ho4.out.alloc _) _ 1 [.string ⟨T.toArray⟩, .int .i64 (lineAt c.s k), .bool false] (by rfl) (by exact Src.ofBlock Tryz.underlying94 (Blk.new w4 _ _) 1 1 rfl (by intro u hu; simp at hu; rcases hu with rfl | rfl | rfl <;> rfl)) (by simp only [maxLen]; omega) (by omega) (by simp; omega) ?_; intro A1 cp1 w5 ho5 hg5 hat5; have d5 := hg5.cell (a := ⟨c.R, 7, none⟩) ((World.cell?_of_block (Below.heap_alloc w4 _ c.R hR4)).trans d4) HNR.out; have e5 := (World.frozen?_of_block (a := ⟨c.R, 7, none⟩) (hg5.block c.R (by simp; omega) HNR.out)).trans ((World.frozen?_of_block (Below.heap_alloc w4 _ c.R hR4)).trans e4); have H5 := Lib.hid (And.intro ho5 (And.intro hg5 hat5)); clear ho5 hg5 hat5))
            all_goals
              have HP := Lib.hid (H4.out.2.2.1.push { text := T, line := lineAt c.s k, block := false } H5.out.1 (((Turns.refl _ w4).alloc _).grown H5.out.2.1 fun b _ e => e) (by
                rcases H5.out.2.2 with e | e
                · exact .inl e
                · exact .inr ⟨_, e, by simp⟩) HFM.out.1 HFM.out.2)
              go_wp2_with fail
              go_step3
              refine RJ.goto0 HP.out.1 (((hT2.out.drewN 1).same H4.out.2.2.2).same HP.out.2) (by have := HN.out; have := H4.out.1; omega) ?_ rfl rfl rfl
              have hs := HS.out
              rw [H4.out.2.1, lineAt_drop (k := k) (by have := H4.out.1; omega), HD0.out, H4.out.2.1]
              exact hs
        have e92 : ((b.toNat : Int) == 92) = false := u8_ne (m := 92) hb92
        clear h92' hb92
        go_wp2_with fail
        refine hp.out.mono ?_
        rintro e w1 ⟨rfl, n1, rfl⟩
        have h1 := Lib.hid (H.out.drewN n1)
        have hT1 := Lib.hid (hT.out.drewN n1)
        generalize w.drewN n1 = w1 at h1 hT1
        have c3 := h1.out.c3
        have c4 := h1.out.c4
        have c5 := h1.out.c5
        have f4 := h1.out.f 4
        have f5 := h1.out.f 5
        clear hp
        have c0 := h1.out.c0
        have c2 := h1.out.c2
        have f2 := h1.out.f 2
        have c6 := h1.out.c6
        have c7 := h1.out.c7
        go_wp2_with fail
        go_quiet (fail)
        rename_i nq
        have h2 := Lib.hid (h1.out.word.1.drewN nq)
        have hT2 := Lib.hid ((hT1.out.same h1.out.word.2).drewN nq)
        clear h1 hT1
        generalize World.drewN _ nq = w2 at h2 hT2
        clear c0 c2 f2 c3 c4 c5 c6 c7 f4 f5
        have c2 := h2.out.c2
        have f2 := h2.out.f 2
        have c6 := h2.out.c6
        have c7 := h2.out.c7
        rcases hl01 with ⟨hl0, hl1⟩ | hl0
        · go_wp2_with fail
          have d7 := h2.out.c7
          have e7 := h2.out.f 7
          have hR := h2.out.ltR
          have hW := h2.out.hw
          have hdr : RC w2.drew c k (lineAt c.s k) (.slice none 0 0) (.slice An now.length cpn) (.slice Ao out.length cpo) now out vs g := h2.out.drewN 1
          have hcall := Lib.hid (word_ok hdr (by rw [HD0.out]; exact HOV.out) (by rw [HD0.out]; exact HW.out))
          clear c2 f2 c6 c7 hdr
          obtain ⟨i0, hi0, hz0, hz1, hz2⟩ := info_parts A.info_word
          have hfew := HFM.out.1
          have HNR := Lib.hid (show some c.R ≠ (Value.slice An now.length cpn).ownBlock from fun e => own_blk_ne h2.out.nown h2.out.blk (by decide) e.symm)
          go_region_law (first
            | (refine step_call_one (by rfl) 92 _ _ (by rfl) (.pointer (some ⟨c.R, 0, none⟩)) (by rfl) A.enter_text _ hcall.out ?_; rintro e w4 ⟨k', tx', rfl, hkk, hk', hrc4, ht4⟩; have H4 := Lib.hid (And.intro hkk (And.intro hk' (And.intro hrc4 ht4))); have d4 := hrc4.c7; have e4 := hrc4.f 7; have hR4 := hrc4.ltR; have hW4 := hrc4.hw; have ho4 := Lib.hid hrc4.nown; clear hkk hk' hrc4 ht4; refine ⟨_, rfl, ?_⟩)
            | (refine step_append_src _ (by rfl) _ _ _ _ (by rfl) c.W0 104 i0 _ 3 32 Tryz.underlying94 hi0 hz0 hz1 hz2 (by rfl) (.slice An now.length cpn) now.length (wordCells now) (by rfl) (by exact ho4.out.alloc _) _ 1 [.string ⟨T.toArray⟩, .int .i64 (lineAt c.s k), .bool false] (by rfl) (by exact Src.ofBlock Tryz.underlying94 (Blk.new w4 _ _) 1 1 rfl (by intro u hu; simp at hu; rcases hu with rfl | rfl | rfl <;> rfl)) (by simp only [maxLen]; omega) (by omega) (by simp; omega) ?_; intro A1 cp1 w5 ho5 hg5 hat5; have d5 := hg5.cell (a := ⟨c.R, 7, none⟩) ((World.cell?_of_block (Below.heap_alloc w4 _ c.R hR4)).trans d4) HNR.out; have e5 := (World.frozen?_of_block (a := ⟨c.R, 7, none⟩) (hg5.block c.R (by simp; omega) HNR.out)).trans ((World.frozen?_of_block (Below.heap_alloc w4 _ c.R hR4)).trans e4); have H5 := Lib.hid (And.intro ho5 (And.intro hg5 hat5)); clear ho5 hg5 hat5))
          all_goals
            have HP := Lib.hid (H4.out.2.2.1.push { text := T, line := lineAt c.s k, block := false } H5.out.1 (((Turns.refl _ w4).alloc _).grown H5.out.2.1 fun b _ e => e) (by
              rcases H5.out.2.2 with e | e
              · exact .inl e
              · exact .inr ⟨_, e, by simp⟩) HFM.out.1 HFM.out.2)
            go_wp2_with fail
            go_step3
            refine RJ.goto0 HP.out.1 (((hT2.out.drewN 1).same H4.out.2.2.2).same HP.out.2) (by have := HN.out; have := H4.out.1; omega) ?_ rfl rfl rfl
            have hs := HS.out
            rw [H4.out.2.1, lineAt_drop (k := k) (by have := H4.out.1; omega), HD0.out, H4.out.2.1]
            exact hs
        · go_wp2_with fail
          have d7 := h2.out.c7
          have e7 := h2.out.f 7
          have hR := h2.out.ltR
          have hW := h2.out.hw
          have hdr : RC w2.drew c k (lineAt c.s k) (.slice none 0 0) (.slice An now.length cpn) (.slice Ao out.length cpo) now out vs g := h2.out.drewN 1
          have hcall := Lib.hid (word_ok hdr (by rw [HD0.out]; exact HOV.out) (by rw [HD0.out]; exact HW.out))
          clear c2 f2 c6 c7 hdr
          obtain ⟨i0, hi0, hz0, hz1, hz2⟩ := info_parts A.info_word
          have hfew := HFM.out.1
          have HNR := Lib.hid (show some c.R ≠ (Value.slice An now.length cpn).ownBlock from fun e => own_blk_ne h2.out.nown h2.out.blk (by decide) e.symm)
          go_region_law (first
            | (refine step_call_one (by rfl) 92 _ _ (by rfl) (.pointer (some ⟨c.R, 0, none⟩)) (by rfl) A.enter_text _ hcall.out ?_; rintro e w4 ⟨k', tx', rfl, hkk, hk', hrc4, ht4⟩; have H4 := Lib.hid (And.intro hkk (And.intro hk' (And.intro hrc4 ht4))); have d4 := hrc4.c7; have e4 := hrc4.f 7; have hR4 := hrc4.ltR; have hW4 := hrc4.hw; have ho4 := Lib.hid hrc4.nown; clear hkk hk' hrc4 ht4; refine ⟨_, rfl, ?_⟩)
            | (refine step_append_src _ (by rfl) _ _ _ _ (by rfl) c.W0 104 i0 _ 3 32 Tryz.underlying94 hi0 hz0 hz1 hz2 (by rfl) (.slice An now.length cpn) now.length (wordCells now) (by rfl) (by exact ho4.out.alloc _) _ 1 [.string ⟨T.toArray⟩, .int .i64 (lineAt c.s k), .bool false] (by rfl) (by exact Src.ofBlock Tryz.underlying94 (Blk.new w4 _ _) 1 1 rfl (by intro u hu; simp at hu; rcases hu with rfl | rfl | rfl <;> rfl)) (by simp only [maxLen]; omega) (by omega) (by simp; omega) ?_; intro A1 cp1 w5 ho5 hg5 hat5; have d5 := hg5.cell (a := ⟨c.R, 7, none⟩) ((World.cell?_of_block (Below.heap_alloc w4 _ c.R hR4)).trans d4) HNR.out; have e5 := (World.frozen?_of_block (a := ⟨c.R, 7, none⟩) (hg5.block c.R (by simp; omega) HNR.out)).trans ((World.frozen?_of_block (Below.heap_alloc w4 _ c.R hR4)).trans e4); have H5 := Lib.hid (And.intro ho5 (And.intro hg5 hat5)); clear ho5 hg5 hat5))
          all_goals
            have HP := Lib.hid (H4.out.2.2.1.push { text := T, line := lineAt c.s k, block := false } H5.out.1 (((Turns.refl _ w4).alloc _).grown H5.out.2.1 fun b _ e => e) (by
              rcases H5.out.2.2 with e | e
              · exact .inl e
              · exact .inr ⟨_, e, by simp⟩) HFM.out.1 HFM.out.2)
            go_wp2_with fail
            go_step3
            refine RJ.goto0 HP.out.1 (((hT2.out.drewN 1).same H4.out.2.2.2).same HP.out.2) (by have := HN.out; have := H4.out.1; omega) ?_ rfl rfl rfl
            have hs := HS.out
            rw [H4.out.2.1, lineAt_drop (k := k) (by have := H4.out.1; omega), HD0.out, H4.out.2.1]
            exact hs
    · cases e
  · clear H0
    intro n l a w hl hJ
    obtain ⟨⟨k, wl, tx, nv, ov, now, out, vs, g, hJ⟩, f, rfl⟩ := hJ
    rw [show frameOf (.pointer (some ⟨c.R, 0, none⟩)) 192 f = #[.pointer (some ⟨c.R, 0, none⟩), f 0, f 1, f 2, f 3, f 4, f 5, f 6, f 7, f 8, f 9, f 10, f 11, f 12, f 13, f 14, f 15, f 16, f 17, f 18, f 19, f 20, f 21, f 22, f 23, f 24, f 25, f 26, f 27, f 28, f 29, f 30, f 31, f 32, f 33, f 34, f 35, f 36, f 37, f 38, f 39, f 40, f 41, f 42, f 43, f 44, f 45, f 46, f 47, f 48, f 49, f 50, f 51, f 52, f 53, f 54, f 55, f 56, f 57, f 58, f 59, f 60, f 61, f 62, f 63, f 64, f 65, f 66, f 67, f 68, f 69, f 70, f 71, f 72, f 73, f 74, f 75, f 76, f 77, f 78, f 79, f 80, f 81, f 82, f 83, f 84, f 85, f 86, f 87, f 88, f 89, f 90, f 91, f 92, f 93, f 94, f 95, f 96, f 97, f 98, f 99, f 100, f 101, f 102, f 103, f 104, f 105, f 106, f 107, f 108, f 109, f 110, f 111, f 112, f 113, f 114, f 115, f 116, f 117, f 118, f 119, f 120, f 121, f 122, f 123, f 124, f 125, f 126, f 127, f 128, f 129, f 130, f 131, f 132, f 133, f 134, f 135, f 136, f 137, f 138, f 139, f 140, f 141, f 142, f 143, f 144, f 145, f 146, f 147, f 148, f 149, f 150, f 151, f 152, f 153, f 154, f 155, f 156, f 157, f 158, f 159, f 160, f 161, f 162, f 163, f 164, f 165, f 166, f 167, f 168, f 169, f 170, f 171, f 172, f 173, f 174, f 175, f 176, f 177, f 178, f 179, f 180, f 181, f 182, f 183, f 184, f 185, f 186, f 187, f 188, f 189, f 190, f 191] from rfl]
    dsimp only
    rcases hJ.meas with ⟨e, _⟩ | ⟨rfl, hn, hspec⟩
    · exact absurd e hl
    · refine ⟨_, rfl, ?_⟩
      have HT := Lib.hid hJ.turns
      have hrc := hJ.rc
      have HE := Lib.hid hspec
      clear hJ hn hspec
      go_wp2_with fail
      refine (end_any hrc).mono ?_
      rintro e w2 ⟨rfl, nv', ov', vs', h2, ht2, -⟩
      have H2 := Lib.hid h2
      have hT2 := Lib.hid (HT.out.same ht2)
      clear h2 ht2 HT
      go_wp2_with fail
      change bodyPost Tryz.prog Tryz.f53 (ReadPost w0 c res) Exit.normal _ _
      go_end0
      rw [← HE.out]
      exact ⟨rfl, k, wl, tx, nv', ov', vs', g, H2.out, hT2.out⟩
end Go.Proofs.YtiopaenonjhlnaaGreatDoor
