/- The walks of package lex's reader: dollar. The walks of package lex's reader: quoted. -/
import Derived.Test.YtiopaenonjhlnaaGreatDoorLexName
import Derived.Laws.IdiomStrings
namespace Go.Proofs.YtiopaenonjhlnaaGreatDoor
set_option maxRecDepth 8000
open Go.RowKit
open Lx (Bytes)

def PutPost (w : World) (c : Cfg) (tx : Value) (k : Nat) (r : Lx.Res Bytes) (e : Ending) (w' : World) : Prop := match r with
  | .ok t' => e = .returned (.tuple #[]) ∧ ∃ tx', Step w c tx k t' w' tx'
  | .error m => e = .panicked (trouble m c.wl) ∧ Turns (TS c.R tx) w w'
theorem put_any {w : World} {c : Cfg} {k : Nat} {tx : Value} {t : Bytes} (h : Ctx w c k tx t) (u : ByteArray) (hu : u.size ≤ strMost) :
    Calls Tryz.prog 120 #[.pointer (some ⟨c.R, 0, none⟩), .string u] w (PutPost w c tx k (Lx.put t (sl u))) := by
  unfold Lx.put
  rw [List.length_append, sl_size]
  by_cases hl : t.length + u.size > 8192
  · rw [if_pos hl]; exact put_long h u hl hu
  · rw [if_neg hl]; exact put_ok h u (by omega)

/-- what a piece of a word comes to: the text, the place; or what is wrong -/
def WordPost (w : World) (c : Cfg) (tx : Value) (r : Lx.Res (Bytes × Bytes)) (e : Ending) (w' : World) : Prop := match r with
  | .ok x => e = .returned (.tuple #[]) ∧ ∃ k' tx', (sl c.s).drop k' = x.2 ∧ Step w c tx k' x.1 w' tx'
  | .error m => e = .panicked (trouble m c.wl) ∧ Turns (TS c.R tx) w w'
theorem PutPost.word {w w1 w' : World} {c : Cfg} {tx tx1 : Value} {k : Nat} {t1 : Bytes} {r : Lx.Res Bytes} {e : Ending} (hs : Step w c tx k t1 w1 tx1) :
    PutPost w1 c tx1 k r e w' → WordPost w c tx (match r with | .error m => .error m | .ok t' => .ok (t', (sl c.s).drop k)) e w' := by
  intro h
  cases r with
  | error m => exact ⟨h.1, hs.turns.txs hs.near h.2⟩
  | ok t' => obtain ⟨he, tx', hst⟩ := h; exact ⟨he, k, tx', rfl, hs.trans hst⟩

theorem u_nil {u : ByteArray} (h : sl u = []) : u = ⟨#[]⟩ := sl_inj h
theorem u_some {u : ByteArray} (h : ¬ sl u = []) : u.toList.isEmpty = false := by
  rw [str_list]; cases e : sl u with
  | nil => exact absurd e h
  | cons _ _ => rfl

/-- r.put(r.value(name)) -/
theorem value_step {w w1 w' : World} {c : Cfg} {k : Nat} {tx tx1 : Value} {t1 : Bytes} {nm : ByteArray} {v : Value} (hs : Step w c tx k t1 w1 tx1) (h : ValueRel w1 c.es nm c.es.length v w') :
    ∃ u : ByteArray, v = .string u ∧ sl u = Lx.value (envOf c.es) (sl nm) ∧ u.size ≤ strMost ∧ Step w c tx k t1 w' tx1 := by
  obtain ⟨u, hv, hu, hz, ht⟩ := h
  rw [List.take_length] at hu
  exact ⟨u, hv, hu, hz, hs.trans (hs.ctx.turned ht)⟩

/-- an ending of a call without results, and what holds there -/
def Tail (W : Ending → World → Prop) (e : Ending) (w' : World) : Prop := (∃ ch, e = .panicked ch ∧ W e w') ∨ (e = .returned (.tuple #[]) ∧ W e w')
theorem put_tail {w : World} {c : Cfg} {k : Nat} {tx : Value} {t : Bytes} (h : Ctx w c k tx t) (u : ByteArray) (hu : u.size ≤ strMost) {W : Ending → World → Prop}
    (hW : ∀ e w', PutPost w c tx k (Lx.put t (sl u)) e w' → W e w') :
    Calls Tryz.prog 120 #[.pointer (some ⟨c.R, 0, none⟩), .string u] w (Tail W) := by
  refine (put_any h u hu).mono fun e w' hp => ?_
  have hw := hW e w' hp
  cases hq : Lx.put t (sl u) with
  | error m => rw [hq] at hp; exact .inl ⟨_, hp.1, hw⟩
  | ok t' => rw [hq] at hp; exact .inr ⟨hp.1, hw⟩

/-- put in the midst of a word: it panics, or the word goes on -/
theorem put_cases {w w1 : World} {c : Cfg} {tx tx1 : Value} {j : Nat} {t1 : Bytes} (hs : Step w c tx j t1 w1 tx1) (u : ByteArray) (hsz : u.size ≤ strMost) (F : Bytes → Lx.Res (Bytes × Bytes)) (res : Lx.Res (Bytes × Bytes))
    (hres : (match Lx.put t1 (sl u) with | .error m => .error m | .ok t2 => F t2) = res) :
    Calls Tryz.prog 120 #[.pointer (some ⟨c.R, 0, none⟩), .string u] w1 fun e w' =>
      (∃ ch, e = .panicked ch ∧ WordPost w c tx res e w') ∨ (∃ t2 tx2, e = .returned (.tuple #[]) ∧ Step w c tx j t2 w' tx2 ∧ F t2 = res) := by
  refine (put_any hs.ctx u hsz).mono fun e w' hp => ?_
  cases hq : Lx.put t1 (sl u) with
  | error m =>
    rw [hq] at hp hres
    subst hres
    exact .inl ⟨_, hp.1, hp.1, hs.turns.txs hs.near hp.2⟩
  | ok t' =>
    rw [hq] at hp hres
    obtain ⟨he, tx', hst⟩ := hp
    exact .inr ⟨t', tx', he, hs.trans hst, hres⟩

set_option maxHeartbeats 1000000 in
theorem dollar_plain {w : World} {c : Cfg} {k : Nat} {tx : Value} {t : Bytes} (h : Ctx w c k tx t) (hb : ∀ r, (sl c.s).drop k ≠ 123 :: r) (res : Lx.Res (Bytes × Bytes)) (hres : Lx.dollar (envOf c.es) t ((sl c.s).drop k) = res) :
    Calls Tryz.prog 122 #[.pointer (some ⟨c.R, 0, none⟩)] w (WordPost w c tx res) := by
  have hL : (if (Lx.name ((sl c.s).drop k)).1 = [] then match Lx.put t [36] with
      | .error m => .error m
      | .ok t' => .ok (t', (sl c.s).drop k)
    else match Lx.put t (Lx.value (envOf c.es) (Lx.name ((sl c.s).drop k)).1) with
      | .error m => .error m
      | .ok t' => .ok (t', (Lx.name ((sl c.s).drop k)).2)) = res := by
    rw [← hres]
    exact (Lx.dollar.eq_2 _ _ _ fun r e => hb r e).symm
  have hq : Calls Tryz.prog 86 #[.pointer (some ⟨c.R, 0, none⟩)] w fun e w' => ∃ (b : UInt8) (ok : Bool), (ok = true → (((b.toNat : Int) == 123) = false)) ∧ e = .returned (.tuple #[.int .u8 b.toNat, .bool ok]) ∧ ∃ n, w' = w.drewN n := by
    rcases hd : (sl c.s).drop k with _ | ⟨b, r⟩
    · exact (peek_none h hd).mono fun e w' ⟨he, hn⟩ => ⟨0, false, fun q => (by cases q), he, hn⟩
    · exact (peek_some h hd).mono fun e w' ⟨he, hn⟩ => ⟨b, true, fun _ => u8_ne (m := 123) fun q => hb r (by rw [hd, q]), he, hn⟩
  have HQ := Lib.hid hq
  have H := Lib.hid h
  have HL := Lib.hid hL
  clear hq h hL hb hres
  go_enter Tryz.func122, Tryz.ntmps122
  go_wp2_with fail
  refine HQ.out.mono ?_
  rintro e w1 ⟨b, ok, hbk, rfl, n, rfl⟩
  clear HQ
  have HB := Lib.hid hbk
  clear hbk
  have h1 := Lib.hid ((Step.refl H.out).drewN n)
  generalize w.drewN n = w1 at h1
  cases ok
  all_goals
    try have hb0 := HB.out rfl
    clear HB
    go_wp2_with fail
    refine (name_any h1.out.ctx).mono ?_
    rintro e w2 ⟨u, k', rfl, hu, hk, -, hst⟩
    have h2 := Lib.hid (h1.out.trans hst)
    have HU := Lib.hid (And.intro hu hk)
    clear h1 hu hk hst
    by_cases hz : (Lx.name ((sl c.s).drop k)).1 = []
    · have hu0 : u = ⟨#[]⟩ := u_nil (HU.out.1.trans hz)
      subst hu0
      have hk2 := HU.out.2
      have hsp := name_split ((sl c.s).drop k)
      rw [hz, List.nil_append] at hsp
      have hfin : ∀ e w', PutPost w2 c tx k' (Lx.put t (sl ⟨#[36]⟩)) e w' → WordPost w c tx res e w' := by
        intro e w' hp
        have := PutPost.word h2.out hp
        rw [← HL.out, if_pos hz, ← hsp, ← hk2]
        exact this
      have HF := Lib.hid hfin
      clear hz hk2 hsp HU HL hfin
      go_wp2_with fail
      refine (put_tail h2.out.ctx _ (by decide) HF.out).mono ?_
      rintro e w3 (⟨ch, rfl, hw⟩ | ⟨rfl, hw⟩)
      · exact ⟨rfl, hw⟩
      · have HW := Lib.hid hw
        clear hw
        go_wp2_with fail
        go_end0
        exact HW.out
    · have hu0 := u_some (u := u) (by rw [HU.out.1]; exact hz)
      have HZ := Lib.hid hz
      clear hz
      go_wp2_with fail
      refine (value_any h2.out.ctx u).mono ?_
      rintro e w3 ⟨v, rfl, hv⟩
      obtain ⟨x, rfl, hx, hxs, hst⟩ := value_step h2.out hv
      have hfin : ∀ e w', PutPost w3 c tx k' (Lx.put t (sl x)) e w' → WordPost w c tx res e w' := by
        intro e w' hp
        have := PutPost.word hst hp
        rw [hx, HU.out.1, HU.out.2] at this
        rw [← HL.out, if_neg HZ.out]
        exact this
      have HF := Lib.hid hfin
      have h3 := Lib.hid (And.intro hxs hst)
      clear hv hx hxs hst hfin HU HL HZ h2
      go_wp2_with fail
      refine (put_tail h3.out.2.ctx _ h3.out.1 HF.out).mono ?_
      rintro e w4 (⟨ch, rfl, hw⟩ | ⟨rfl, hw⟩)
      · exact ⟨rfl, hw⟩
      · have HW := Lib.hid hw
        clear hw
        go_wp2_with fail
        refine bodyPost_ret (results_none rfl _ _ _) rfl ?_
        exact HW.out

set_option maxHeartbeats 1000000 in
theorem dollar_brace {w : World} {c : Cfg} {k : Nat} {tx : Value} {t : Bytes} (h : Ctx w c k tx t) {r : Bytes} (hb : (sl c.s).drop k = 123 :: r) (res : Lx.Res (Bytes × Bytes)) (hres : Lx.dollar (envOf c.es) t ((sl c.s).drop k) = res) :
    Calls Tryz.prog 122 #[.pointer (some ⟨c.R, 0, none⟩)] w (WordPost w c tx res) := by
  have hL : (if (Lx.name r).1 = [] then .error 4
    else match (Lx.name r).2 with
      | 125 :: r' => match Lx.put t (Lx.value (envOf c.es) (Lx.name r).1) with
        | .error c => .error c
        | .ok t' => .ok (t', r')
      | _ => .error 4) = res := by
    rw [← hres, hb]
    exact (Lx.dollar.eq_1 _ _ _).symm
  have HQ := Lib.hid (peek_some h hb)
  have hlt := drop_lt hb
  have hsz := h.size
  have h2 := h.c2
  have f2 := h.f 2
  have hat := fun n => Lib.hid (((Step.refl h).drewN n).trans ((h.drewN n).at_ (k + 1) (by omega) (by rw [lineAt_succ hb]; rfl)))
  have HD := Lib.hid (drop_head hb).2
  have HL := Lib.hid hL
  have hat := Lib.hid hat
  clear hb h hL hres
  go_enter Tryz.func122, Tryz.ntmps122
  go_wp2_with fail
  refine HQ.out.mono ?_
  rintro e w1 ⟨rfl, n, rfl⟩
  clear HQ
  go_wp2_with fail
  have h1 := hat.out n
  clear hat h2 f2
  refine (name_any h1.out.ctx).mono ?_
  rintro e w2 ⟨u, k', rfl, hnp⟩
  obtain ⟨hu, hk, -, hst⟩ := hnp
  rw [HD.out] at hu hk
  have h2 := Lib.hid (h1.out.trans hst)
  have HU := Lib.hid (And.intro hu hk)
  clear h1 hu hk hst
  by_cases hz : (Lx.name r).1 = []
  · have hu0 : u = ⟨#[]⟩ := u_nil (HU.out.1.trans hz)
    subst hu0
    have HZ := Lib.hid (show res = .error 4 by rw [← HL.out, if_pos hz])
    clear hz HU HL
    go_wp2_with fail
    refine (fail_any h2.out.ctx 4).mono ?_
    rintro e w3 ⟨rfl, rfl⟩
    exact ⟨rfl, by rw [HZ.out]; exact ⟨rfl, h2.out.turns⟩⟩
  · have hu0 := u_some (u := u) (by rw [HU.out.1]; exact hz)
    have HZ := Lib.hid hz
    clear hz
    rcases hd : (Lx.name r).2 with _ | ⟨x, r'⟩
    · have hd2 := HU.out.2.trans hd
      have HE := Lib.hid (show res = .error 4 by rw [← HL.out, if_neg HZ.out, hd])
      have hnx := Lib.hid (next_none h2.out.ctx hd2)
      clear hd hd2 HL HZ
      go_wp2_with fail
      refine hnx.out.mono ?_
      rintro e w3 ⟨rfl, ht⟩
      exact ⟨rfl, by rw [HE.out]; exact ⟨rfl, h2.out.turns.txs h2.out.near ht⟩⟩
    · have hd2 := HU.out.2.trans hd
      have hnx := Lib.hid (next_some h2.out.ctx hd2)
      by_cases hx : x = 125
      · subst hx
        have HE := Lib.hid (show (match Lx.put t (Lx.value (envOf c.es) (Lx.name r).1) with
          | .error c => .error c
          | .ok t' => .ok (t', r')) = res by rw [← HL.out, if_neg HZ.out, hd]; rfl)
        have HD2 := Lib.hid (drop_head hd2).2
        clear hd hd2 HL HZ
        go_wp2_with fail
        refine hnx.out.mono ?_
        rintro e w3 ⟨rfl, hst⟩
        have h3 := Lib.hid (h2.out.trans hst)
        clear hst hnx h2
        go_wp2_with fail
        refine (value_any h3.out.ctx u).mono ?_
        rintro e w4 ⟨v, rfl, hv⟩
        obtain ⟨y, rfl, hy, hys, hst⟩ := value_step h3.out hv
        have hfin : ∀ e w', PutPost w4 c tx (k' + 1) (Lx.put t (sl y)) e w' → WordPost w c tx res e w' := by
          intro e w' hp
          have := PutPost.word hst hp
          rw [hy, HU.out.1, HD2.out] at this
          rw [← HE.out]
          exact this
        have HF := Lib.hid hfin
        have h4 := Lib.hid (And.intro hys hst)
        clear hv hy hys hst hfin HU HE h3 HD2
        go_wp2_with fail
        refine (put_tail h4.out.2.ctx _ h4.out.1 HF.out).mono ?_
        rintro e w5 (⟨ch, rfl, hw⟩ | ⟨rfl, hw⟩)
        · exact ⟨rfl, hw⟩
        · have HW := Lib.hid hw
          clear hw
          go_wp2_with fail
          refine bodyPost_ret (results_none rfl _ _ _) rfl ?_
          exact HW.out
      · have HE := Lib.hid (show res = .error 4 by
          rw [← HL.out, if_neg HZ.out, hd]
          split
          · rename_i e; injection e with e _; exact absurd e hx
          · rfl)
        have hx2 : ((x.toNat : Int) != 125) = true := u8_bne hx
        clear hd hd2 HL HZ hx
        go_wp2_with fail
        refine hnx.out.mono ?_
        rintro e w3 ⟨rfl, hst⟩
        have h3 := Lib.hid (h2.out.trans hst)
        clear hst hnx h2
        go_wp2_with fail
        refine (fail_any h3.out.ctx 4).mono ?_
        rintro e w4 ⟨rfl, rfl⟩
        exact ⟨rfl, by rw [HE.out]; exact ⟨rfl, h3.out.turns⟩⟩

theorem dollar_any {w : World} {c : Cfg} {k : Nat} {tx : Value} {t : Bytes} (h : Ctx w c k tx t) :
    Calls Tryz.prog 122 #[.pointer (some ⟨c.R, 0, none⟩)] w (WordPost w c tx (Lx.dollar (envOf c.es) t ((sl c.s).drop k))) := by
  by_cases hb : ∃ r, (sl c.s).drop k = 123 :: r
  · obtain ⟨r, hr⟩ := hb
    exact dollar_brace h hr _ rfl
  · exact dollar_plain h (fun r e => hb ⟨r, e⟩) _ rfl
/-- dollar in the midst of a word -/
theorem dollar_cases {w w1 : World} {c : Cfg} {tx tx1 : Value} {j : Nat} {t1 : Bytes} (hs : Step w c tx j t1 w1 tx1) (r : Bytes) (hr : (sl c.s).drop j = r) (F : Bytes → Bytes → Lx.Res (Bytes × Bytes)) (res : Lx.Res (Bytes × Bytes))
    (hres : (match Lx.dollar (envOf c.es) t1 r with | .error m => .error m | .ok (t', r') => F t' r') = res) :
    Calls Tryz.prog 122 #[.pointer (some ⟨c.R, 0, none⟩)] w1 fun e w' =>
      (∃ ch, e = .panicked ch ∧ WordPost w c tx res e w') ∨ (∃ t2 k2 tx2, e = .returned (.tuple #[]) ∧ Step w c tx k2 t2 w' tx2 ∧ j ≤ k2 ∧ F t2 ((sl c.s).drop k2) = res) := by
  subst hr
  refine (dollar_any hs.ctx).mono fun e w' hp => ?_
  cases hq : Lx.dollar (envOf c.es) t1 ((sl c.s).drop j) with
  | error m =>
    rw [hq] at hp hres
    subst hres
    exact .inl ⟨_, hp.1, hp.1, hs.turns.txs hs.near hp.2⟩
  | ok x =>
    have hlen := Lx.dollar_len (t' := x.1) (r' := x.2) hq
    rw [hq] at hp hres
    obtain ⟨he, k2, tx', hk, hst⟩ := hp
    rw [← hk, List.length_drop, List.length_drop, sl_size] at hlen
    have := hst.ctx.le
    have := hs.ctx.le
    exact .inr ⟨x.1, k2, tx', he, hs.trans hst, by omega, by rw [hk]; exact hres⟩
/-- string([]byte{b}) -/
theorem conv_one (w : World) (b : UInt8) : (convert 64 9 (.slice (some ⟨w.heap.size, 0, none⟩) 1 1)).run Tryz.prog (w.alloc (.cells #[.int .u8 b.toNat] 5)) = .ok (.string ⟨#[b]⟩) (w.alloc (.cells #[.int .u8 b.toNat] 5)) :=
  run_convert_bytes_back (P := Tryz.prog) (w.alloc (.cells #[.int .u8 b.toNat] 5)) 64 9 5 ⟨w.heap.size, 0, none⟩ 1 [b] Tryz.underlying64 Tryz.underlying5 Tryz.underlying9 (by
    intro j hj
    have : j = 0 := by simp at hj; exact hj
    subst this
    show (w.alloc _).cell? ⟨w.heap.size, 0, none⟩ = _
    rw [(Blk.new w _ _).cell]; rfl)
theorem Step.alloc {w w' : World} {c : Cfg} {tx tx' : Value} {k' : Nat} {t' : Bytes} (h : Step w c tx k' t' w' tx') (o : Obj) : Step w c tx k' t' (w'.alloc o) tx' := h.trans (h.ctx.turned ((Turns.refl _ _).alloc o))
end Go.Proofs.YtiopaenonjhlnaaGreatDoor
namespace Go.Proofs.YtiopaenonjhlnaaGreatDoor
set_option maxRecDepth 8000
open Go.RowKit
open Lx (Bytes)

def QLoop (w : World) (c : Cfg) (tx : Value) (res : Lx.Res (Bytes × Bytes)) (g : Nat) (wr : World) : Prop :=
  ∃ j t1 tx1, c.s.size - j = g ∧ Step w c tx j t1 wr tx1 ∧ Lx.quoted (envOf c.es) t1 ((sl c.s).drop j) = res

theorem str_one (b : UInt8) : (⟨#[b]⟩ : ByteArray).size ≤ strMost := by unfold strMost; exact Nat.le_trans (show (1 : Nat) ≤ 1 from Nat.le_refl _) (by decide)
set_option maxRecDepth 100000 in
set_option maxHeartbeats 2000000 in
theorem quoted_in {w : World} {c : Cfg} {k : Nat} {tx : Value} {t : Bytes} (h : Ctx w c k tx t) (res : Lx.Res (Bytes × Bytes)) (hres : Lx.quoted (envOf c.es) t ((sl c.s).drop k) = res) :
    Calls Tryz.prog 121 #[.pointer (some ⟨c.R, 0, none⟩)] w (WordPost w c tx res) := by
  have H := Lib.hid (And.intro h hres)
  clear h hres
  go_enter Tryz.func121, Tryz.ntmps121
  go_wp2_with fail
  go_loopg [2] (c.s.size - k) (fun g _ wr => QLoop w c tx res g wr)
  case atStart => exact ⟨k, t, tx, rfl, Step.refl H.out.1, H.out.2⟩
  case round =>
    clear H
    obtain ⟨j, t1, tx1, hg, hst, hq⟩ := hrel
    rcases hd : (sl c.s).drop j with _ | ⟨b, r⟩
    · have HN := Lib.hid (next_none hst.ctx hd)
      have HE := Lib.hid (And.intro hst (show res = .error 4 by rw [← hq, hd, Lx.quoted_nil]))
      clear hg hst hd hq
      go_wp2_with fail
      refine HN.out.mono ?_
      rintro e w1 ⟨rfl, ht⟩
      exact ⟨rfl, by rw [HE.out.2]; exact ⟨rfl, HE.out.1.turns.txs HE.out.1.near ht⟩⟩
    · have HN := Lib.hid (next_some hst.ctx hd)
      rw [hd, Lx.quoted_cons] at hq
      have hlt := Lib.hid (drop_lt hd)
      have HD := Lib.hid (drop_head hd).2
      by_cases h34 : b = 34
      · subst h34
        rw [if_pos rfl] at hq
        have HQ := Lib.hid (And.intro hst hq)
        clear hg hst hd hq
        go_wp2_with fail
        refine HN.out.mono ?_
        rintro e w1 ⟨rfl, hs⟩
        have HS := Lib.hid (HQ.out.1.trans hs)
        clear hs HN
        go_wp2_with fail
        refine bodyPost_ret (results_none rfl _ _ _) rfl ?_
        rw [← HQ.out.2]
        exact ⟨rfl, j + 1, tx1, HD.out, HS.out⟩
      rw [if_neg h34] at hq
      by_cases h36 : b = 36
      · subst h36
        rw [if_pos rfl] at hq
        have HQ := Lib.hid (And.intro hg (And.intro hst hq))
        clear hg hst hd hq h34
        go_wp2_with fail
        refine HN.out.mono ?_
        rintro e w1 ⟨rfl, hs⟩
        have HS := Lib.hid (HQ.out.2.1.trans hs)
        clear hs HN
        go_wp2_with fail
        refine (dollar_cases HS.out r HD.out (fun t' r' => Lx.quoted (envOf c.es) t' r') res HQ.out.2.2).mono ?_
        rintro e w2 (⟨ch, rfl, hw⟩ | ⟨t2, k2, tx2, rfl, hst2, hk2, hq2⟩)
        · exact ⟨rfl, hw⟩
        have HT := Lib.hid (And.intro hk2 (And.intro hst2 hq2))
        clear hk2 hst2 hq2
        go_wp2_with fail
        go_roundg (c.s.size - k2)
        case measure => have := HQ.out.1; have := HT.out.1; have := hlt.out; omega
        case rel => exact ⟨k2, t2, tx2, rfl, HT.out.2.1, HT.out.2.2⟩
      rw [if_neg h36] at hq
      by_cases h92 : b = 92
      · subst h92
        rw [if_pos rfl] at hq
        have HQ := Lib.hid (And.intro hg (And.intro hst hq))
        clear hg hst hd hq h34 h36
        go_wp2_with fail
        refine HN.out.mono ?_
        rintro e w1 ⟨rfl, hs⟩
        have HS := Lib.hid (HQ.out.2.1.trans hs)
        clear hs HN
        rcases r with _ | ⟨x, r⟩
        · have HE := Lib.hid (show res = .error 4 from HQ.out.2.2.symm)
          have HN := Lib.hid (next_none HS.out.ctx HD.out)
          clear HQ
          go_wp2_with fail
          refine HN.out.mono ?_
          rintro e w1 ⟨rfl, ht⟩
          exact ⟨rfl, by rw [HE.out]; exact ⟨rfl, HS.out.turns.txs HS.out.near ht⟩⟩
        have hlt2 := Lib.hid (drop_lt HD.out)
        have HD2 := Lib.hid (drop_head HD.out).2
        have HN := Lib.hid (next_some HS.out.ctx HD.out)
        have hq := HQ.out.2.2
        have HG := Lib.hid HQ.out.1
        clear HQ
        dsimp only at hq
        by_cases h10 : x = 10
        · subst h10
          rw [if_pos rfl] at hq
          have HQ := Lib.hid hq
          clear hq
          go_wp2_with fail
          refine HN.out.mono ?_
          rintro e w2 ⟨rfl, hs⟩
          have HS2 := Lib.hid (HS.out.trans hs)
          clear hs HN
          go_wp2_with fail
          go_roundg (c.s.size - (j + 1 + 1))
          case measure => have := HG.out; have := hlt2.out; omega
          case rel => exact ⟨j + 1 + 1, t1, tx1, rfl, HS2.out, by rw [HD2.out]; exact HQ.out⟩
        rw [if_neg h10] at hq
        by_cases hx110 : x = 110
        · subst hx110
          have HQ := Lib.hid hq
          clear hq h10
          go_wp2_with fail
          refine HN.out.mono ?_
          rintro e w2 ⟨rfl, hs⟩
          have HS2 := Lib.hid (HS.out.trans hs)
          clear hs HN
          go_wp2_with fail
          refine (put_cases HS2.out ⟨#[10]⟩ (by first | decide | exact str_one _) (fun t2 => Lx.quoted (envOf c.es) t2 r) res HQ.out).mono ?_
          rintro e w3 (⟨ch, rfl, hw⟩ | ⟨t2, tx2, rfl, hst2, hq2⟩)
          · exact ⟨rfl, hw⟩
          have HT := Lib.hid (And.intro hst2 hq2)
          clear hst2 hq2
          go_wp2_with fail
          go_roundg (c.s.size - (j + 1 + 1))
          case measure => have := HG.out; have := hlt2.out; omega
          case rel => exact ⟨j + 1 + 1, t2, tx2, rfl, HT.out.1, by rw [HD2.out]; exact HT.out.2⟩
        by_cases hx116 : x = 116
        · subst hx116
          have HQ := Lib.hid hq
          clear hq h10 hx110
          go_wp2_with fail
          refine HN.out.mono ?_
          rintro e w2 ⟨rfl, hs⟩
          have HS2 := Lib.hid (HS.out.trans hs)
          clear hs HN
          go_wp2_with fail
          refine (put_cases HS2.out ⟨#[9]⟩ (by first | decide | exact str_one _) (fun t2 => Lx.quoted (envOf c.es) t2 r) res HQ.out).mono ?_
          rintro e w3 (⟨ch, rfl, hw⟩ | ⟨t2, tx2, rfl, hst2, hq2⟩)
          · exact ⟨rfl, hw⟩
          have HT := Lib.hid (And.intro hst2 hq2)
          clear hst2 hq2
          go_wp2_with fail
          go_roundg (c.s.size - (j + 1 + 1))
          case measure => have := HG.out; have := hlt2.out; omega
          case rel => exact ⟨j + 1 + 1, t2, tx2, rfl, HT.out.1, by rw [HD2.out]; exact HT.out.2⟩
        by_cases hx101 : x = 101
        · subst hx101
          have HQ := Lib.hid hq
          clear hq h10 hx110 hx116
          go_wp2_with fail
          refine HN.out.mono ?_
          rintro e w2 ⟨rfl, hs⟩
          have HS2 := Lib.hid (HS.out.trans hs)
          clear hs HN
          go_wp2_with fail
          refine (put_cases HS2.out ⟨#[27]⟩ (by first | decide | exact str_one _) (fun t2 => Lx.quoted (envOf c.es) t2 r) res HQ.out).mono ?_
          rintro e w3 (⟨ch, rfl, hw⟩ | ⟨t2, tx2, rfl, hst2, hq2⟩)
          · exact ⟨rfl, hw⟩
          have HT := Lib.hid (And.intro hst2 hq2)
          clear hst2 hq2
          go_wp2_with fail
          go_roundg (c.s.size - (j + 1 + 1))
          case measure => have := HG.out; have := hlt2.out; omega
          case rel => exact ⟨j + 1 + 1, t2, tx2, rfl, HT.out.1, by rw [HD2.out]; exact HT.out.2⟩
        have e10 : ((x.toNat : Int) == 10) = false := u8_ne (m := 10) h10
        have e110 : ((x.toNat : Int) == 110) = false := u8_ne (m := 110) hx110
        have e116 : ((x.toNat : Int) == 116) = false := u8_ne (m := 116) hx116
        have e101 : ((x.toNat : Int) == 101) = false := u8_ne (m := 101) hx101
        have hesc : Lx.esc x = [x] := by unfold Lx.esc; rw [if_neg hx110, if_neg hx116, if_neg hx101]
        rw [hesc] at hq
        have HQ := Lib.hid hq
        clear hq hesc h10 hx110 hx116 hx101
        go_wp2_with fail
        refine HN.out.mono ?_
        rintro e w2 ⟨rfl, hs⟩
        have HS2 := Lib.hid (HS.out.trans hs)
        clear hs HN
        have hcv := conv_one w2 x
        go_wp2_with fail
        clear hcv
        refine (put_cases (HS2.out.alloc _) ⟨#[x]⟩ (str_one _) (fun t2 => Lx.quoted (envOf c.es) t2 r) res HQ.out).mono ?_
        rintro e w3 (⟨ch, rfl, hw⟩ | ⟨t2, tx2, rfl, hst2, hq2⟩)
        · exact ⟨rfl, hw⟩
        have HT := Lib.hid (And.intro hst2 hq2)
        clear hst2 hq2
        go_wp2_with fail
        go_roundg (c.s.size - (j + 1 + 1))
        case measure => have := HG.out; have := hlt2.out; omega
        case rel => exact ⟨j + 1 + 1, t2, tx2, rfl, HT.out.1, by rw [HD2.out]; exact HT.out.2⟩
      rw [if_neg h92] at hq
      have e34 : ((b.toNat : Int) == 34) = false := u8_ne (m := 34) h34
      have e36 : ((b.toNat : Int) == 36) = false := u8_ne (m := 36) h36
      have e92 : ((b.toNat : Int) == 92) = false := u8_ne (m := 92) h92
      have HQ := Lib.hid (And.intro hg (And.intro hst hq))
      clear hg hst hd hq h34 h36 h92
      go_wp2_with fail
      refine HN.out.mono ?_
      rintro e w1 ⟨rfl, hs⟩
      have HS := Lib.hid (HQ.out.2.1.trans hs)
      clear hs HN
      have hcv := conv_one w1 b
      go_wp2_with fail
      clear hcv
      refine (put_cases (HS.out.alloc _) ⟨#[b]⟩ (str_one _) (fun t2 => Lx.quoted (envOf c.es) t2 r) res HQ.out.2.2).mono ?_
      rintro e w3 (⟨ch, rfl, hw⟩ | ⟨t2, tx2, rfl, hst2, hq2⟩)
      · exact ⟨rfl, hw⟩
      have HT := Lib.hid (And.intro hst2 hq2)
      clear hst2 hq2
      go_wp2_with fail
      go_roundg (c.s.size - (j + 1))
      case measure => have := HQ.out.1; have := hlt.out; omega
      case rel => exact ⟨j + 1, t2, tx2, rfl, HT.out.1, by rw [HD.out]; exact HT.out.2⟩
theorem quoted_any {w : World} {c : Cfg} {k : Nat} {tx : Value} {t : Bytes} (h : Ctx w c k tx t) :
    Calls Tryz.prog 121 #[.pointer (some ⟨c.R, 0, none⟩)] w (WordPost w c tx (Lx.quoted (envOf c.es) t ((sl c.s).drop k))) := quoted_in h _ rfl
/-- quoted in the midst of a word -/
theorem quoted_cases {w w1 : World} {c : Cfg} {tx tx1 : Value} {j : Nat} {t1 : Bytes} (hs : Step w c tx j t1 w1 tx1) (r : Bytes) (hr : (sl c.s).drop j = r) (F : Bytes → Bytes → Lx.Res (Bytes × Bytes)) (res : Lx.Res (Bytes × Bytes))
    (hres : (match Lx.quoted (envOf c.es) t1 r with | .error m => .error m | .ok (t', r') => F t' r') = res) :
    Calls Tryz.prog 121 #[.pointer (some ⟨c.R, 0, none⟩)] w1 fun e w' =>
      (∃ ch, e = .panicked ch ∧ WordPost w c tx res e w') ∨ (∃ t2 k2 tx2, e = .returned (.tuple #[]) ∧ Step w c tx k2 t2 w' tx2 ∧ j ≤ k2 ∧ F t2 ((sl c.s).drop k2) = res) := by
  subst hr
  refine (quoted_any hs.ctx).mono fun e w' hp => ?_
  cases hq : Lx.quoted (envOf c.es) t1 ((sl c.s).drop j) with
  | error m =>
    rw [hq] at hp hres
    subst hres
    exact .inl ⟨_, hp.1, hp.1, hs.turns.txs hs.near hp.2⟩
  | ok x =>
    have hlen := Lx.quoted_len _ (Nat.le_refl _) (t' := x.1) (r' := x.2) hq
    rw [hq] at hp hres
    obtain ⟨he, k2, tx', hk, hst⟩ := hp
    rw [← hk, List.length_drop, List.length_drop, sl_size] at hlen
    have := hst.ctx.le
    have := hs.ctx.le
    exact .inr ⟨x.1, k2, tx', he, hs.trans hst, by omega, by rw [hk]; exact hres⟩
end Go.Proofs.YtiopaenonjhlnaaGreatDoor
