/- Package lex's reader, between words: what text, block and end leave, said of the state between words. The commands that Split gave, as they lie in memory: each command's words and its group. The walk of the deferred closure of lex.Split: what is thrown is caught. -/
import Derived.Test.YtiopaenonjhlnaaGreatDoorLexBlock
import Derived.Test.YtiopaenonjhlnaaGreatDoorShelf
import Derived.Test.YtiopaenonjhlnaaGreatDoorLexPure
import Derived.Defers
import Derived.Recover
import Derived.Laws.Pointers
namespace Go.Proofs.YtiopaenonjhlnaaGreatDoor
set_option maxRecDepth 8000
open Go.RowKit
open Lx (Bytes)

section
variable {w w' : World} {c : RCfg} {k : Nat} {wl : Int} {tx nv ov : Value} {now : List Lx.W} {out : List Lx.Ln} {vs : List Value} {g : Nat}
/-- only cells of the reader's own block turn -/
theorem RC.own_ (h : RC w c k wl tx nv ov now out vs g) {wl' : Int} {tx' : Value} {k' g' : Nat} (ht : Turns (Only c.R) w w')
    (hb : Blk w' c.R 133 #[.string c.s, c.ev, .int .i64 k', .int .i64 (lineAt c.s k'), .int .i64 wl', tx', ov, nv, .int .i64 g']) (hk : k' ≤ c.s.size) (hg : g' ≤ k' + 1) :
    RC w' c k' wl' tx' nv ov now out vs g' ∧ Turns (RS c) w w' := by
  have hnR : ∀ b, nv.ownBlock = some b → ¬ Only c.R b := fun b hb' e => own_blk_ne h.nown h.blk (by decide) (by rw [hb', e])
  have hoR : ∀ b, ov.ownBlock = some b → ¬ Only c.R b := fun b hb' e => own_blk_ne h.lines.row h.blk (by decide) (by rw [hb', e])
  refine ⟨⟨hb, h.hB, h.hW, Nat.le_trans h.hw ht.size, h.size, hk, ht.own h.nown hnR, h.lines.turns ht hoR ?_, h.apart, h.few, h.many, hg, h.env.keep fun p hp => ht.cell ?_ ?_⟩, ht.mono fun b _ e => .inl e⟩
  · intro v hv b hb' e
    obtain ⟨i, hi, rfl⟩ := List.getElem_of_mem hv
    exact own_blk_ne (h.lines.words i hi (by rw [← h.lines.len]; exact hi)) h.blk (by decide) (by rw [hb', e])
  · have := h.hB; have := h.hW; have := h.hw; omega
  · intro e; have e2 : p.block = c.R := e; have := h.hB; omega
theorem RC.drewN (h : RC w c k wl tx nv ov now out vs g) (n : Nat) : RC (w.drewN n) c k wl tx nv ov now out vs g :=
  (h.own_ ((Turns.refl _ w).drewN n) (h.blk.drewN n) h.le h.grp).1
theorem RC.peek_some (h : RC w c k wl tx nv ov now out vs g) {b : UInt8} {r : Bytes} (hd : (sl c.s).drop k = b :: r) :
    Calls Tryz.prog 86 #[.pointer (some ⟨c.R, 0, none⟩)] w fun e w' => e = .returned (.tuple #[.int .u8 b.toNat, .bool true]) ∧ ∃ n, w' = w.drewN n := by
  have := peek_in w c.R c.s k h.c0 h.c2 h.size (drop_lt hd)
  rw [(drop_head hd).1] at this
  exact this
theorem RC.peek_none (h : RC w c k wl tx nv ov now out vs g) (hd : (sl c.s).drop k = []) :
    Calls Tryz.prog 86 #[.pointer (some ⟨c.R, 0, none⟩)] w fun e w' => e = .returned (.tuple #[.int .u8 0, .bool false]) ∧ ∃ n, w' = w.drewN n :=
  peek_out w c.R c.s k h.c0 h.c2 h.size (drop_nil hd)
/-- word.line, word.text = line, nil -/
theorem RC.word (h : RC w c k wl tx nv ov now out vs g) : RC ((w.setCell ⟨c.R, 4, none⟩ (.int .i64 (lineAt c.s k))).setCell ⟨c.R, 5, none⟩ (.slice none 0 0)) c k (lineAt c.s k) (.slice none 0 0) nv ov now out vs g ∧ Turns (RS c) w ((w.setCell ⟨c.R, 4, none⟩ (.int .i64 (lineAt c.s k))).setCell ⟨c.R, 5, none⟩ (.slice none 0 0)) := by
  refine h.own_ (((Turns.refl (Only c.R) w).setCell (p := ⟨c.R, 4, none⟩) (.inl rfl) _).setCell (p := ⟨c.R, 5, none⟩) (.inl rfl) _) ?_ h.le h.grp
  exact (h.blk.set_ 4 (.int .i64 (lineAt c.s k))).set_ 5 (.slice none 0 0)
/-- r.at moves on, no line feed between -/
theorem RC.at_ (h : RC w c k wl tx nv ov now out vs g) (k' : Nat) (hk : k' ≤ c.s.size) (hkk : k ≤ k') (hl : lineAt c.s k' = lineAt c.s k) :
    RC (w.setCell ⟨c.R, 2, none⟩ (.int .i64 k')) c k' wl tx nv ov now out vs g ∧ Turns (RS c) w (w.setCell ⟨c.R, 2, none⟩ (.int .i64 k')) := by
  refine h.own_ ((Turns.refl (Only c.R) w).setCell (p := ⟨c.R, 2, none⟩) (.inl rfl) _) ?_ hk (by have := h.grp; omega)
  have := h.blk.set_ 2 (.int .i64 k')
  rw [hl]
  exact this
def RCfg.cfg (c : RCfg) (wl : Int) (nv ov : Value) (g : Nat) : Cfg := { B := c.B, R := c.R, s := c.s, ev := c.ev, es := c.es, wl := wl, out := ov, now := nv, g := g }
theorem RC.ctx (h : RC w c k wl (.slice none 0 0) nv ov now out vs g) : Ctx w (c.cfg wl nv ov g) k (.slice none 0 0) [] :=
  ⟨h.blk, h.hB, h.size, h.le, ⟨by simp [u8s], .inl ⟨rfl, rfl⟩⟩, by simp, h.env⟩
theorem nil_TS {R b : Nat} (h : TS R (.slice none 0 0) b) : b = R := by
  rcases h with h | h
  · exact h
  · simp [Value.ownBlock] at h
theorem RC.step (h : RC w c k wl (.slice none 0 0) nv ov now out vs g) {k' : Nat} {t' : Bytes} {tx' : Value} (hs : Step w (c.cfg wl nv ov g) (.slice none 0 0) k' t' w' tx') (hk : k ≤ k') :
    RC w' c k' wl tx' nv ov now out vs g ∧ Turns (RS c) w w' :=
  h.own_ (hs.turns.mono fun b _ e => nil_TS e) hs.ctx.blk hs.ctx.le (by have := h.grp; omega)
theorem RC.fails (ht : Turns (TS c.R (.slice none 0 0)) w w') : Turns (RS c) w w' := ht.mono fun _ _ e => .inl (nil_TS e)
theorem RS_same {w1 w2 : World} (h : Turns (RS c) w w1) (h2 : Turns (RS c) w1 w2) : Turns (RS c) w w2 := h.same h2
end
theorem lineAt_drop {s : ByteArray} {k k' : Nat} (h : k ≤ k') : lineAt s k' = lineAt s k + (Lx.feeds ((sl s).drop k) - Lx.feeds ((sl s).drop k')) := by
  unfold lineAt Lx.feeds
  have e1 : ((sl s).take k').count 10 + ((sl s).drop k').count 10 = (sl s).count 10 := by rw [← List.count_append, List.take_append_drop]
  have e2 : ((sl s).take k).count 10 + ((sl s).drop k).count 10 = (sl s).count 10 := by rw [← List.count_append, List.take_append_drop]
  have e3 : ((sl s).take k).count 10 ≤ ((sl s).take k').count 10 := List.Sublist.count_le _ (List.take_sublist_take_left h)
  omega

theorem RC.push {w3 w4 : World} {c : RCfg} {k : Nat} {wl : Int} {tx nv ov : Value} {now : List Lx.W} {out : List Lx.Ln} {vs : List Value} {g : Nat} (h : RC w3 c k wl tx nv ov now out vs g) (x : Lx.W) {nv' : Value}
    (ho : w4.ownsRow c.W0 104 3 nv' (now.length + 1) (wordCells now ++ [.string ⟨x.text.toArray⟩, .int .i64 x.line, .bool x.block])) (ht : Turns (fun b => nv.ownBlock = some b) w3 w4) (hat : nv'.ownBlock = nv.ownBlock ∨ ∃ b, nv'.ownBlock = some b ∧ w3.heap.size ≤ b)
    (hf : now.length < 256) (hm : out.length < 1000) :
    RC (w4.setCell ⟨c.R, 7, none⟩ nv') c k wl tx nv' ov (now ++ [x]) out vs g ∧ Turns (RS c) w3 (w4.setCell ⟨c.R, 7, none⟩ nv') := by
  have hnR : nv.ownBlock ≠ some c.R := own_blk_ne h.nown h.blk (by decide)
  have hovR : ov.ownBlock ≠ some c.R := own_blk_ne h.lines.row h.blk (by decide)
  have hnL : ∀ b, nv.ownBlock = some b → c.W0 ≤ b := fun b hb => (h.nown.lt b hb).1
  have hbk := ht.blk h.blk hnR
  have hT2 : Turns (Only c.R) w4 (w4.setCell ⟨c.R, 7, none⟩ nv') := (Turns.refl (Only c.R) w4).setCell (p := ⟨c.R, 7, none⟩) (.inl rfl) nv'
  have hn' : ∀ b, nv'.ownBlock = some b → ¬ Only c.R b := by
    intro b hb e
    exact own_blk_ne ho hbk (by decide) (by rw [hb, e])
  refine ⟨⟨?_, h.hB, h.hW, ?_, h.size, h.le, ?_, ?_, ?_, by simp; omega, by simp; omega, h.grp, ?_⟩, ?_⟩
  · exact hbk.set_ 7 nv'
  · have := hT2.size; have := ht.size; have := h.hw; omega
  · have := hT2.own ho hn'
    rw [List.length_append]
    simp only [wordCells, List.flatMap_append, List.flatMap_cons, List.flatMap_nil, List.append_nil] at this ⊢
    exact this
  · have h1 : LinesAt w4 c.W0 ov out vs := h.lines.turns ht (fun b hb e => own_ne h.lines.row h.nown (by decide) b hb e) fun v hv b hb e => h.apart v hv b hb e
    refine h1.turns hT2 (fun b hb e => hovR (by rw [hb, e])) ?_
    intro v hv b hb e
    obtain ⟨i, hi, rfl⟩ := List.getElem_of_mem hv
    exact own_blk_ne (h.lines.words i hi (by rw [← h.lines.len]; exact hi)) h.blk (by decide) (by rw [hb, e])
  · intro v hv b hb e
    obtain ⟨i, hi, rfl⟩ := List.getElem_of_mem hv
    have hlt := ((h.lines.words i hi (by rw [← h.lines.len]; exact hi)).lt b hb).2
    rcases hat with e2 | ⟨b2, e2, hb2⟩
    · exact h.apart _ hv b hb (by rw [← e2]; exact e)
    · rw [e2] at e; injection e with e; omega
  · refine h.env.keep fun p hp => (hT2.cell ?_ ?_).trans (ht.cell ?_ ?_)
    · have := ht.size; have := h.hB; have := h.hW; have := h.hw; omega
    · intro e; have e2 : p.block = c.R := e; have := h.hB; omega
    · have := h.hB; have := h.hW; have := h.hw; omega
    · intro e; have := hnL _ e; have := h.hB; have := h.hW; omega
  · exact (ht.mono fun b _ e => .inr (hnL b e)).trans hT2 fun b _ e => .inl e

section
variable {w w' : World} {c : RCfg} {k : Nat} {wl : Int} {tx nv ov : Value} {now : List Lx.W} {out : List Lx.Ln} {vs : List Value} {g : Nat}
theorem word_ok (h : RC w c k wl (.slice none 0 0) nv ov now out vs g) {t' r' : Bytes} (ho : Lx.over ((sl c.s).drop k) = false) (hw : Lx.word (envOf c.es) true [] ((sl c.s).drop k) = .ok (t', r')) :
    Calls Tryz.prog 92 #[.pointer (some ⟨c.R, 0, none⟩)] w fun e w' => ∃ k' tx', e = .returned (.agg #[.string ⟨t'.toArray⟩, .int .i64 wl, .bool false]) ∧ k < k' ∧ (sl c.s).drop k' = r' ∧ RC w' c k' wl tx' nv ov now out vs g ∧ Turns (RS c) w w' := by
  refine (text_any h.ctx).mono fun e w' hp => ?_
  have hw' : Lx.word (envOf (c.cfg wl nv ov g).es) true [] ((sl (c.cfg wl nv ov g).s).drop k) = .ok (t', r') := hw
  rw [hw'] at hp
  obtain ⟨he, k', tx', hk, hst⟩ := hp
  have hl := Lx.word_lt ho hw
  have hk2 : (sl c.s).drop k' = r' := hk
  rw [← hk2, List.length_drop, List.length_drop, sl_size] at hl
  have := h.le
  have hlt : k < k' := by omega
  exact ⟨k', tx', he, hlt, hk2, (h.step hst (by omega)).1, (h.step hst (by omega)).2⟩
theorem word_bad (h : RC w c k wl (.slice none 0 0) nv ov now out vs g) {m : Int} (hw : Lx.word (envOf c.es) true [] ((sl c.s).drop k) = .error m) :
    Calls Tryz.prog 92 #[.pointer (some ⟨c.R, 0, none⟩)] w fun e w' => e = .panicked (trouble m wl) ∧ Turns (RS c) w w' := by
  refine (text_any h.ctx).mono fun e w' hp => ?_
  have hw' : Lx.word (envOf (c.cfg wl nv ov g).es) true [] ((sl (c.cfg wl nv ov g).s).drop k) = .error m := hw
  rw [hw'] at hp
  exact ⟨hp.1, RC.fails hp.2⟩
theorem block_ok (h : RC w c k wl (.slice none 0 0) nv ov now out vs g) {r' : Bytes} (hw : Lx.blk 1 ((sl c.s).drop k) = some r') (ho : Lx.over r' = true) :
    Calls Tryz.prog 91 #[.pointer (some ⟨c.R, 0, none⟩)] w fun e w' => ∃ k' tx', e = .returned (.agg #[.string ⟨(((sl c.s).drop k).take (((sl c.s).drop k).length - r'.length - 1)).toArray⟩, .int .i64 wl, .bool true]) ∧ k < k' ∧ (sl c.s).drop k' = r' ∧ RC w' c k' wl tx' nv ov now out vs g ∧ Turns (RS c) w w' := by
  refine (block_any h.ctx).mono fun e w' hp => ?_
  have hw' : Lx.blk 1 ((sl (c.cfg wl nv ov g).s).drop k) = some r' := hw
  rw [hw'] at hp
  unfold BlockPost at hp
  dsimp only at hp
  rw [if_pos ho] at hp
  obtain ⟨u, k', he, hu, hk, hst⟩ := hp
  have hl := Lx.blk_len _ (Nat.le_refl _) hw
  have hk2 : (sl c.s).drop k' = r' := hk
  rw [← hk2, List.length_drop, List.length_drop, sl_size] at hl
  have := h.le
  have hlt : k < k' := by omega
  refine ⟨k', _, ?_, hlt, hk2, (h.step hst (by omega)).1, (h.step hst (by omega)).2⟩
  rw [he]
  have hu2 : u = ⟨(((sl c.s).drop k).take (((sl c.s).drop k).length - r'.length - 1)).toArray⟩ := sl_inj (hu.trans rfl)
  rw [hu2]
  rfl
theorem block_bad (h : RC w c k wl (.slice none 0 0) nv ov now out vs g) (hw : ∀ r', Lx.blk 1 ((sl c.s).drop k) = some r' → Lx.over r' = false) :
    Calls Tryz.prog 91 #[.pointer (some ⟨c.R, 0, none⟩)] w fun e w' => e = .panicked (trouble 4 wl) ∧ Turns (RS c) w w' := by
  refine (block_any h.ctx).mono fun e w' hp => ?_
  cases hb : Lx.blk 1 ((sl c.s).drop k) with
  | none =>
    have hb' : Lx.blk 1 ((sl (c.cfg wl nv ov g).s).drop k) = none := hb
    rw [hb'] at hp
    exact ⟨hp.1, RC.fails hp.2⟩
  | some r' =>
    have hb' : Lx.blk 1 ((sl (c.cfg wl nv ov g).s).drop k) = some r' := hb
    rw [hb'] at hp
    unfold BlockPost at hp
    dsimp only at hp
    rw [if_neg (by rw [hw r' hb]; simp)] at hp
    exact ⟨hp.1, RC.fails hp.2⟩
end

set_option maxHeartbeats 1000000 in
theorem end_empty {w : World} {R : Nat} {A0 : Option Addr} {cp : Nat} (h7 : w.cell? ⟨R, 7, none⟩ = some (.slice A0 0 cp)) :
    Calls Tryz.prog 89 #[.pointer (some ⟨R, 0, none⟩)] w fun e w' => e = .returned (.tuple #[]) ∧ w = w' := by
  go_enter Tryz.func89, Tryz.ntmps89
  go_wp2_with fail
  go_end0
  exact ⟨rfl, rfl⟩
theorem end_any {w : World} {c : RCfg} {k : Nat} {wl : Int} {tx nv ov : Value} {now : List Lx.W} {out : List Lx.Ln} {vs : List Value} {g : Nat} (h : RC w c k wl tx nv ov now out vs g) :
    Calls Tryz.prog 89 #[.pointer (some ⟨c.R, 0, none⟩)] w fun e w' => e = .returned (.tuple #[]) ∧ ∃ nv' ov' vs', RC w' c k wl tx nv' ov' [] (Lx.fin now out g) vs' g ∧ Turns (RS c) w w' ∧ (now ≠ [] → nv' = .slice none 0 0) := by
  by_cases hne : now = []
  · subst hne
    obtain ⟨A0, cp, hnv⟩ := own_slice h.nown
    have h7 := h.c7
    rw [hnv] at h7
    refine (end_empty h7).mono ?_
    rintro e w' ⟨rfl, rfl⟩
    exact ⟨rfl, nv, ov, vs, h, Turns.refl _ _, fun e => absurd rfl e⟩
  · refine (end_some h hne).mono ?_
    rintro e w' ⟨rfl, ov', h', ht⟩
    refine ⟨rfl, _, ov', vs ++ [nv], ?_, ht, fun _ => rfl⟩
    unfold Lx.fin
    rw [if_neg hne]
    exact h'

/-! a remark: up to the line feed -/
theorem ib_feed : ∀ (l : Bytes), (Lib.indexByte l 10 = -1 ∧ Lx.toFeed l = []) ∨ ∃ n : Nat, Lib.indexByte l 10 = n ∧ n < l.length ∧ Lx.toFeed l = l.drop n ∧ Lx.feeds (l.take n) = 0
  | [] => .inl ⟨rfl, rfl⟩
  | b :: l => by
    by_cases hb : b = 10
    · subst hb
      exact .inr ⟨0, rfl, by simp, by simp [Lx.toFeed], by simp [Lx.feeds]⟩
    · have hb' : (b == 10) = false := by simp [hb]
      rcases ib_feed l with ⟨h1, h2⟩ | ⟨n, h1, h2, h3, h4⟩
      · left
        simp [Lib.indexByte, hb', h1, Lx.toFeed, hb, h2]
      · right
        refine ⟨n + 1, ?_, by simp; omega, by simp [Lx.toFeed, hb, h3], ?_⟩
        · simp only [Lib.indexByte, hb', h1]
          have : ¬ ((n : Int) == -1) = true := by simp
          simp [this]
        · have : ¬ (10 : UInt8) = b := fun e => hb e.symm
          simp only [Lx.feeds, List.take_succ_cons, List.count_cons, hb'] at h4 ⊢
          simpa using h4
theorem lineAt_add {s : ByteArray} {k n : Nat} (h : Lx.feeds (((sl s).drop k).take n) = 0) : lineAt s (k + n) = lineAt s k := by
  unfold lineAt
  have : (sl s).take (k + n) = (sl s).take k ++ ((sl s).drop k).take n := List.take_add
  rw [this]
  unfold Lx.feeds at h ⊢
  rw [List.count_append, h, Nat.add_zero]
theorem extract_sl (s : ByteArray) (k : Nat) : (s.extract k s.size).data.toList = (sl s).drop k := by
  simp [sl, ByteArray.data_extract, List.extract_eq_take_drop]
  rw [List.take_of_length_le (by simp)]
theorem quiet_add_same {P : Program} {f : FuncId} {args : Array Value} {w : World} {a n : Nat} {v : Value}
    (h : Calls P f args (w.drewN (a + n)) fun e w' => e = .returned v ∧ w' = w.drewN (a + n)) :
    Calls P f args (w.drewN (a + n)) fun e w'' => e = .returned v ∧ ∃ m, w'' = w.drewN (a + m) :=
  h.mono fun _ _ ⟨he, hm⟩ => ⟨he, n, hm⟩
theorem lineCells_len : ∀ (vs : List Value) (l : List Lx.Ln), vs.length = l.length → (lineCells vs l).length = l.length * 2
  | [], [], _ => rfl
  | v :: vs, x :: l, h => by simp only [lineCells, List.length_cons]; rw [lineCells_len vs l (by simpa using h)]; omega
  | [], _ :: _, h => by cases h
  | _ :: _, [], h => by cases h
theorem lineCells_group : ∀ (vs : List Value) (l : List Lx.Ln) (i : Nat), vs.length = l.length → (h : i < l.length) → (lineCells vs l)[2 * i + 1]? = some (.int .i64 l[i].2)
  | [], _, i, h, hi => by simp at h; rw [List.eq_nil_of_length_eq_zero h.symm] at hi; cases hi
  | v :: vs, [], i, h, hi => by cases hi
  | v :: vs, x :: l, 0, h, hi => rfl
  | v :: vs, x :: l, i + 1, h, hi => by
    have := lineCells_group vs l i (by simpa using h) (by simpa using hi)
    simp only [lineCells]
    rw [show 2 * (i + 1) + 1 = 2 * i + 1 + 1 + 1 from by omega]
    simpa using this
theorem lineCells_words : ∀ (vs : List Value) (l : List Lx.Ln) (i : Nat), vs.length = l.length → (h : i < vs.length) → (lineCells vs l)[2 * i]? = some vs[i]
  | [], _, i, h, hi => by cases hi
  | v :: vs, [], i, h, hi => by cases h
  | v :: vs, x :: l, 0, h, hi => rfl
  | v :: vs, x :: l, i + 1, h, hi => by
    have := lineCells_words vs l i (by simpa using h) (by simpa using hi)
    simp only [lineCells]
    rw [show 2 * (i + 1) = 2 * i + 1 + 1 from by omega]
    simpa using this
theorem bump_eq {out : List Lx.Ln} {g lg : Nat} (h : out.getLast?.map (·.2) = some lg) : Lx.bump out g = if lg = g then g + 1 else g := by
  unfold Lx.bump
  cases hl : out.getLast? with
  | none => rw [hl] at h; cases h
  | some x => rw [hl] at h; simp at h; subst h; rfl
theorem RC.gset {w : World} {c : RCfg} {k : Nat} {wl : Int} {tx nv ov : Value} {now : List Lx.W} {out : List Lx.Ln} {vs : List Value} {g : Nat} (h : RC w c k wl tx nv ov now out vs g) (hg : g + 1 ≤ k + 1) :
    RC (w.setCell ⟨c.R, 8, none⟩ (.int .i64 ((g : Int) + 1))) c k wl tx nv ov now out vs (g + 1) ∧ Turns (RS c) w (w.setCell ⟨c.R, 8, none⟩ (.int .i64 ((g : Int) + 1))) := by
  refine h.own_ ((Turns.refl (Only c.R) w).setCell (p := ⟨c.R, 8, none⟩) (.inl rfl) _) ?_ h.le hg
  exact h.blk.set_ 8 (.int .i64 ((g : Int) + 1))
theorem prefix_no {r : Bytes} (h : ¬ r.head? = some 10) : Lib.hasPrefix (92 :: r) [92, 10] = false := by
  cases r with
  | nil => rfl
  | cons x r =>
    have : ¬ x = 10 := fun e => h (by rw [e]; rfl)
    simp only [Lib.hasPrefix, List.isPrefixOf]
    simp
    exact fun e => this e.symm
theorem RC.at1 {w : World} {c : RCfg} {k : Nat} {wl : Int} {tx nv ov : Value} {now : List Lx.W} {out : List Lx.Ln} {vs : List Value} {g : Nat} (h : RC w c k wl tx nv ov now out vs g) (hk : k + 1 ≤ c.s.size) (hl : lineAt c.s (k + 1) = lineAt c.s k) :
    RC (w.setCell ⟨c.R, 2, none⟩ (.int .i64 ((k : Int) + 1))) c (k + 1) wl tx nv ov now out vs g ∧ Turns (RS c) w (w.setCell ⟨c.R, 2, none⟩ (.int .i64 ((k : Int) + 1))) := h.at_ (k + 1) hk (Nat.le_succ k) hl
theorem A.enter_block (args : Array Value) (w : World) : (callFunc 91 args).run Tryz.prog w = .ok (.enter 91 args) w := by kernel_rfl
theorem A.enter_text (args : Array Value) (w : World) : (callFunc 92 args).run Tryz.prog w = .ok (.enter 92 args) w := by kernel_rfl
/-- a call of a Go function of one argument that returns, as one step of a region that draws -/
theorem step_call_one {P : Program} {ops : Array Oper} {o : Oper} {a : Act} {w : World} {K : Act → World → Prop} {Q : Exit → Act → World → Prop} {E : Prop} (hgd : o.guard = none) (f : FuncId) (x : Operand) (ts : Array TypeId)
    (ho : o.op = .call { callee := .value (.func f), args := #[x], argTypes := ts }) (v : Value) (hx : a.eval x = v) (hrun : ∀ args w, (callFunc f args).run P w = .ok (.enter f args) w)
    (R : Ending → World → Prop) (hc : Calls P f #[v] w R) (h : ∀ e w', R e w' → ∃ u, e = .returned u ∧ K (a.put o.dst u) w') :
    if Region.wanted o (yielded ops a.tmps) = true then Oper.wp P o a w K Q else E :=
  step_call_ret hgd f #[x] ts ho (hrun _ _) R (by rw [show (#[x] : Array Operand).map a.eval = #[v] from by simp [hx]]; exact hc) h
/-- a call of a Go function of one argument that panics, as one step of a region that draws; the last premise is there for the tactic alone -/
theorem step_call_panic {P : Program} {ops : Array Oper} {o : Oper} {a : Act} {w : World} {K : Act → World → Prop} {Q : Exit → Act → World → Prop} {E : Prop} (hgd : o.guard = none) (f : FuncId) (x : Operand) (ts : Array TypeId)
    (ho : o.op = .call { callee := .value (.func f), args := #[x], argTypes := ts }) (v : Value) (hx : a.eval x = v) (hrun : ∀ args w, (callFunc f args).run P w = .ok (.enter f args) w)
    (R : Ending → World → Prop) (hc : Calls P f #[v] w R) (h : ∀ e w', R e w' → ∃ ch, e = .panicked ch ∧ Q (.panic ch) a w') (_d : wpAny P .any #[] (fun _ _ _ => True) 0 #[] a w) :
    if Region.wanted o (yielded ops a.tmps) = true then Oper.wp P o a w K Q else E := by
  have hw : Region.wanted o (yielded ops a.tmps) = true := by simp [Region.wanted, hgd]
  rw [if_pos hw]
  unfold Oper.wp execOp
  have hm : (#[x] : Array Operand).map a.eval = #[v] := by simp [hx]
  simp only [ho, resolve, invoke, Deferred.ofValue, Sem.run_bind, Sem.run_pure, Result.andThen_ok, Act.eval, Array.append_empty, Array.empty_append]
  have hm' : Array.map a.eval #[x] = #[v] := hm
  rw [hm', hrun, Oper.upon_enter]
  refine hc.mono fun e w' hr => ?_
  obtain ⟨ch, rfl, hk⟩ := h e w' hr
  exact hk
/-- the last command's group, where it lies -/
theorem last_of {w : World} {W0 : Nat} {ov : Value} {out : List Lx.Ln} {vs : List Value} (h : LinesAt w W0 ov out vs) :
    (out = [] ∧ ∃ A0 cp, ov = .slice A0 0 cp) ∨ ∃ m gb cp lg, out.length = m + 1 ∧ ov = .slice (some ⟨gb, 0, none⟩) (m + 1) cp ∧ w.cell? ⟨gb, m * 2 + 1, none⟩ = some (.int .i64 ((lg : Nat) : Int)) ∧ (out.getLast?.map (·.2)) = some lg := by
  cases hl : out.length with
  | zero =>
    left
    obtain ⟨A0, cp, hv⟩ := own_slice h.row
    rw [hl] at hv
    exact ⟨List.eq_nil_of_length_eq_zero hl, A0, cp, hv⟩
  | succ m =>
    right
    rcases h.row.2 with ⟨_, hn⟩ | ⟨gb, cp, cur, hv, _⟩
    · rw [hn] at hl; cases hl
    · have hm : m < out.length := by omega
      refine ⟨m, gb, cp, out[m].2, rfl, by rw [hv, hl], ?_, ?_⟩
      · have h1 := h.row.cells (g := gb) (by rw [hv]; rfl) (2 * m + 1) _ (lineCells_group vs out m h.len hm)
        have ha : (⟨gb, 0, none⟩ : Addr).add (2 * m + 1) = ⟨gb, m * 2 + 1, none⟩ := by unfold Addr.add; rw [if_neg (by omega)]; simp; omega
        rw [← ha]; exact h1
      · rw [List.getLast?_eq_getElem?, hl, Nat.add_sub_cancel, List.getElem?_eq_getElem hm]; rfl
end Go.Proofs.YtiopaenonjhlnaaGreatDoor
namespace Go.Proofs.YtiopaenonjhlnaaGreatDoor
set_option maxRecDepth 8000
open Go.RowKit
open Lx (Bytes)

structure WordsAt (w : World) (v : Value) (l : List Lx.W) : Prop where
  at_ : ∃ A c, v = .slice A l.length c ∧ ∀ i, (h : i < l.length) → ∃ b off, A = some ⟨b, off, none⟩ ∧ b < w.heap.size ∧ w.cell? ⟨b, off + i * 3, none⟩ = some (.string ⟨l[i].text.toArray⟩) ∧
    w.cell? ⟨b, off + i * 3 + 1, none⟩ = some (.int .i64 l[i].line) ∧ w.cell? ⟨b, off + i * 3 + 2, none⟩ = some (.bool l[i].block)
  few : l.length ≤ 256

def later (by_ : Nat) (l : List Lx.W) : List Lx.W := l.map fun x => { x with line := x.line + by_ }

theorem wordCells_at : ∀ (l : List Lx.W) (i : Nat) (h : i < l.length), (wordCells l)[i * 3]? = some (.string ⟨l[i].text.toArray⟩) ∧ (wordCells l)[i * 3 + 1]? = some (.int .i64 l[i].line) ∧ (wordCells l)[i * 3 + 2]? = some (.bool l[i].block)
  | x :: l, 0, _ => ⟨rfl, rfl, rfl⟩
  | x :: l, i + 1, h => by
    have := wordCells_at l i (by simpa using h)
    have e : wordCells (x :: l) = .string ⟨x.text.toArray⟩ :: .int .i64 x.line :: .bool x.block :: wordCells l := rfl
    rw [e, show (i + 1) * 3 = i * 3 + 3 by omega]
    simpa using this
theorem lineCells_at : ∀ (vs : List Value) (l : List Lx.Ln) (i : Nat) (h1 : i < vs.length) (h : i < l.length), vs.length = l.length →
    (lineCells vs l)[i * 2]? = some vs[i] ∧ (lineCells vs l)[i * 2 + 1]? = some (.int .i64 l[i].2)
  | v :: vs, x :: l, 0, _, _, _ => ⟨rfl, rfl⟩
  | v :: vs, x :: l, i + 1, h1, h, he => by
    have := lineCells_at vs l i (by simpa using h1) (by simpa using h) (by simpa using he)
    have e : lineCells (v :: vs) (x :: l) = v :: .int .i64 x.2 :: lineCells vs l := rfl
    rw [e, show (i + 1) * 2 = i * 2 + 2 by omega]
    simpa using this

theorem own_words {w : World} {B : Nat} {v : Value} {l : List Lx.W} (h : w.ownsRow B 104 3 v l.length (wordCells l)) (hf : l.length ≤ 256) : WordsAt w v l := by
  refine ⟨?_, hf⟩
  rcases h.2 with ⟨rfl, h0⟩ | ⟨g, cap, cur, rfl, hb, hg, _⟩
  · exact ⟨none, 0, by rw [h0], fun i hi => by omega⟩
  · refine ⟨_, cap, rfl, fun i hi => ⟨g, 0, rfl, (Array.getElem?_eq_some_iff.1 hg).1, ?_⟩⟩
    have hc := wordCells_at l i hi
    rw [Nat.zero_add, h.cellAt _ (by omega), h.cellAt _ (by omega), h.cellAt _ (by omega)]
    exact hc

/-- commands in memory, as the laws read them -/
structure LinesIn (w : World) (B : Nat) (ov : Value) (L : List Lx.Ln) : Prop where
  at_ : ∃ A c, ov = .slice A L.length c ∧ ∀ i (hi : i < L.length), ∃ b v, A = some ⟨b, 0, none⟩ ∧ B ≤ b ∧ b < w.heap.size ∧ w.cell? ⟨b, i * 2, none⟩ = some v ∧ w.cell? ⟨b, i * 2 + 1, none⟩ = some (.int .i64 L[i].2) ∧ WordsAt w v L[i].1
  good : Lx.Goods 65537 L

theorem LinesAt.view {w : World} {B : Nat} {ov : Value} {L : List Lx.Ln} {vs : List Value} (h : LinesAt w B ov L vs) (hg : Lx.Goods 65537 L) : LinesIn w B ov L := by
  refine ⟨?_, hg⟩
  rcases h.row.2 with ⟨rfl, h0⟩ | ⟨g, cap, cur, rfl, hb, hgg, _⟩
  · exact ⟨none, 0, by rw [h0], fun i hi => by omega⟩
  · refine ⟨_, cap, rfl, fun i hi => ?_⟩
    have h1 : i < vs.length := by rw [h.len]; exact hi
    have hc := lineCells_at vs L i h1 hi h.len
    refine ⟨g, vs[i], rfl, hb, (Array.getElem?_eq_some_iff.1 hgg).1, ?_, ?_, own_words (h.words i h1 hi) (hg.each _ (List.getElem_mem hi)).few⟩
    · rw [h.row.cellAt _ (by omega)]; exact hc.1
    · rw [h.row.cellAt _ (by omega)]; exact hc.2

theorem WordsAt.keep {w w' : World} {v : Value} {l : List Lx.W} (h : WordsAt w v l) (hk : ∀ p : Addr, p.block < w.heap.size → w'.cell? p = w.cell? p) (hz : w.heap.size ≤ w'.heap.size) : WordsAt w' v l := by
  obtain ⟨⟨A, c, rfl, h1⟩, hf⟩ := h
  refine ⟨⟨A, c, rfl, fun i hi => ?_⟩, hf⟩
  obtain ⟨b, off, hA, hb, x1, x2, x3⟩ := h1 i hi
  refine ⟨b, off, hA, by omega, ?_, ?_, ?_⟩
  · rw [hk _ hb]; exact x1
  · rw [hk _ hb]; exact x2
  · rw [hk _ hb]; exact x3
theorem LinesIn.keep {w w' : World} {B : Nat} {v : Value} {L : List Lx.Ln} (h : LinesIn w B v L) (hk : ∀ p : Addr, p.block < w.heap.size → w'.cell? p = w.cell? p) (hz : w.heap.size ≤ w'.heap.size) : LinesIn w' B v L := by
  obtain ⟨⟨A, c, rfl, h1⟩, hg⟩ := h
  refine ⟨⟨A, c, rfl, fun i hi => ?_⟩, hg⟩
  obtain ⟨b, u, hA, hB, hb, x1, x2, x3⟩ := h1 i hi
  refine ⟨b, u, hA, hB, by omega, ?_, ?_, x3.keep hk hz⟩
  · rw [hk _ hb]; exact x1
  · rw [hk _ hb]; exact x2
theorem Turns.still {w w' : World} (h : Turns Nothing w w') : (∀ p : Addr, p.block < w.heap.size → w'.cell? p = w.cell? p) ∧ w.heap.size ≤ w'.heap.size :=
  ⟨fun p hp => h.cell (p := p) hp id, h.size⟩
theorem LinesIn.still {w w' : World} {B : Nat} {v : Value} {L : List Lx.Ln} (h : LinesIn w B v L) (ht : Turns Nothing w w') : LinesIn w' B v L := h.keep (Turns.still ht).1 (Turns.still ht).2
theorem WordsAt.still {w w' : World} {v : Value} {l : List Lx.W} (h : WordsAt w v l) (ht : Turns Nothing w w') : WordsAt w' v l := h.keep (Turns.still ht).1 (Turns.still ht).2
theorem LinesIn.cell {w : World} {B n c : Nat} {A : Option Addr} {L : List Lx.Ln} (h : LinesIn w B (.slice A n c) L) (i : Nat) (hi : i < L.length) :
    ∃ b A' c', A = some ⟨b, 0, none⟩ ∧ B ≤ b ∧ b < w.heap.size ∧ w.cell? ⟨b, i * 2, none⟩ = some (.slice A' L[i].1.length c') ∧ w.cell? ⟨b, i * 2 + 1, none⟩ = some (.int .i64 L[i].2) ∧ WordsAt w (.slice A' L[i].1.length c') L[i].1 := by
  obtain ⟨⟨A1, c1, e, h1⟩, hg⟩ := h
  obtain ⟨b, v, hA, hB, hb, x1, x2, x3⟩ := h1 i hi
  obtain ⟨A', c', e', -⟩ := x3.at_
  subst e'
  have : A = A1 := by injection e
  exact ⟨b, A', c', this.trans hA, hB, hb, x1, x2, x3⟩
/-- a command of those that come later than L's own -/
theorem LinesIn.cellLater {w : World} {B n c : Nat} {A : Option Addr} {P L : List Lx.Ln} {d G : Nat} (h : LinesIn w B (.slice A n c) (P ++ L.map (Lx.ll d G))) (i : Nat) (hi : i < L.length) :
    ∃ b A' c', A = some ⟨b, 0, none⟩ ∧ B ≤ b ∧ b < w.heap.size ∧ w.cell? ⟨b, (P.length + i) * 2, none⟩ = some (.slice A' L[i].1.length c') ∧ w.cell? ⟨b, (P.length + i) * 2 + 1, none⟩ = some (.int .i64 (L[i].2 + G : Nat)) ∧
      WordsAt w (.slice A' L[i].1.length c') (later d L[i].1) := by
  have hlt : P.length + i < (P ++ L.map (Lx.ll d G)).length := by rw [List.length_append, List.length_map]; omega
  obtain ⟨b, A', c', hA, hB, hb, x1, x2, x3⟩ := h.cell (P.length + i) hlt
  have he : (P ++ L.map (Lx.ll d G))[P.length + i] = Lx.ll d G L[i] := by
    rw [List.getElem_append_right (by omega)]
    simp
  rw [he] at x1 x2 x3
  have hl : (Lx.ll d G L[i]).1.length = L[i].1.length := by simp [Lx.ll]
  rw [hl] at x1 x3
  exact ⟨b, A', c', hA, hB, hb, x1, x2, x3⟩
/-- a command of those that come first -/
theorem LinesIn.cellFirst {w : World} {B n c : Nat} {A : Option Addr} {P L : List Lx.Ln} (h : LinesIn w B (.slice A n c) (P ++ L)) (i : Nat) (hi : i < P.length) :
    ∃ b A' c', A = some ⟨b, 0, none⟩ ∧ B ≤ b ∧ b < w.heap.size ∧ w.cell? ⟨b, i * 2, none⟩ = some (.slice A' P[i].1.length c') ∧ w.cell? ⟨b, i * 2 + 1, none⟩ = some (.int .i64 P[i].2) ∧
      WordsAt w (.slice A' P[i].1.length c') P[i].1 := by
  have hlt : i < (P ++ L).length := by rw [List.length_append]; omega
  obtain ⟨b, A', c', hA, hB, hb, x1, x2, x3⟩ := h.cell i hlt
  have he : (P ++ L)[i] = P[i] := List.getElem_append_left hi
  rw [he] at x1 x2 x3
  exact ⟨b, A', c', hA, hB, hb, x1, x2, x3⟩
end Go.Proofs.YtiopaenonjhlnaaGreatDoor
namespace Go.Proofs.YtiopaenonjhlnaaGreatDoor
set_option maxRecDepth 8000
open Go.RowKit
open Lx (Bytes)

theorem A.assert_yes (e l : Int) (w : World) : (Instr.typeAssert (.iface 128 (.agg #[.int .i64 e, .int .i64 l])) 20 128 true).run Tryz.prog w = .ok (.tuple #[.agg #[.int .i64 e, .int .i64 l], .bool true]) w := by kernel_rfl
theorem A.assert_no (w : World) : (Instr.typeAssert .nilIface 20 128 true).run Tryz.prog w = .ok (.tuple #[.agg #[.int .i64 0, .int .i64 0], .bool false]) w := by kernel_rfl
theorem wp_frame {P : Program} {co : Code} {Q : Exit → Act → World → Prop} {tmps tmps' : Array Value} {d : List Deferred} {w : World} (h : tmps = tmps') (hw : co.wp P Q { tmps := tmps', defers := d } w) : co.wp P Q { tmps := tmps, defers := d } w := by rw [h]; exact hw
theorem cell_new {w0 w1 : World} {cs : Array Value} {t : TypeId} {i : Nat} {v : Option Value} (h : w1.heap.size = w0.heap.size) (hv : cs[i]? = v) : ((w1.alloc (.cells cs t)).drew).cell? ⟨w0.heap.size, i, none⟩ = v := by
  show (w1.alloc (.cells cs t)).cell? _ = _
  rw [← h, (Blk.new w1 t cs).cell]; exact hv
/-- what the closure leaves: the three results' cells written -/
structure Caught (w : World) (a b c : Nat) (e l : Int) (w' : World) : Prop where
  ca : w'.cell? ⟨a, 0, none⟩ = some (.slice none 0 0)
  cb : w'.cell? ⟨b, 0, none⟩ = some (.int .i64 e)
  cc : w'.cell? ⟨c, 0, none⟩ = some (.int .i64 l)
  turns : Turns (fun k => k = a ∨ k = b ∨ k = c) w w'
def ClosePost (w : World) (a b c : Nat) (e l : Int) (ex : Exit) (act : Act) (w' : World) : Prop := (ex = .normal ∨ ex = .ret) ∧ act.defers = [] ∧ Caught w a b c e l w'
set_option maxHeartbeats 400000 in
theorem catch_panic (w : World) (a b c : Nat) (e l : Int) (x0 x1 x2 : Value) (ha : w.cell? ⟨a, 0, none⟩ = some x0) (hb : w.cell? ⟨b, 0, none⟩ = some x1) (hc : w.cell? ⟨c, 0, none⟩ = some x2)
    (fa : w.frozen? ⟨a, 0, none⟩ = false) (fb : w.frozen? ⟨b, 0, none⟩ = false) (fc : w.frozen? ⟨c, 0, none⟩ = false) (hab : a ≠ b) (hac : a ≠ c) (hbc : b ≠ c) (la : a < w.heap.size) (lb : b < w.heap.size) (lc : c < w.heap.size) :
    CallsD Tryz.prog 52 #[.pointer (some ⟨a, 0, none⟩), .pointer (some ⟨b, 0, none⟩), .pointer (some ⟨c, 0, none⟩)] (.panicking (trouble e l)) w fun e' u' w' =>
      e' = .returned (.tuple #[]) ∧ u' = .panicking [{ v := .iface 128 (.agg #[.int .i64 e, .int .i64 l]), recovered := true }] ∧ Caught w a b c e l w' := by
  refine callsD_of_wpS Tryz.func52 rfl fun c₀ cs hu => ?_
  apply wpS_seq
  apply wpS_region
  unfold trouble at hu
  simp [wpOpsS, go_sem, recoverD, hu, Tryz.ntmps52, Exit.thenS, A.assert_yes]
  refine wpS_of_wp ?_
  have hT : ∀ w', Turns (fun k => k = a ∨ k = b ∨ k = c) (w.alloc (.cells #[.int .i64 e, .int .i64 l] 128)) w' → Turns (fun k => k = a ∨ k = b ∨ k = c) w w' := fun w' h => ((Turns.refl _ w).alloc _).same h
  have HT := Lib.hid hT
  clear hT hu
  have na : a ≠ w.heap.size := by omega
  have nb : b ≠ w.heap.size := by omega
  have nc : c ≠ w.heap.size := by omega
  refine Code.wp_mono (Q := ClosePost w a b c e l) ?_ ?_
  · rintro ex act w' ⟨hex, hd, hcau⟩
    rcases hex with rfl | rfl
    all_goals
      exact ⟨hd, _, rfl, .tuple #[], by simp [results, Tryz.results52], rfl, rfl, hcau⟩
  refine wp_frame (tmps' := #[.pointer (some ⟨a, 0, none⟩), .pointer (some ⟨b, 0, none⟩), .pointer (some ⟨c, 0, none⟩), .pointer (some ⟨w.heap.size, 0, none⟩), .bool true, .tuple #[.agg #[.int .i64 e, .int .i64 l], .bool true], .iface 128 (.agg #[.int .i64 e, .int .i64 l]), .tuple #[.agg #[.int .i64 e, .int .i64 l], .bool true], .agg #[.int .i64 e, .int .i64 l], .bool true, undef, undef, undef, undef, undef]) (by kernel_rfl) ?_
  go_wp2_with fail
  go_region_held3 (fun w' => w'.cell? ⟨w.heap.size, 0, none⟩ = some (.int .i64 e) ∧ w'.cell? ⟨w.heap.size, 1, none⟩ = some (.int .i64 l)) (first | (refine ⟨?_, ?_⟩ <;> exact cell_new (by simp [World.setCell]) rfl) | go_keep) (fail)
  all_goals
    go_wp2_with fail
    refine ⟨.inl rfl, rfl, ⟨?_, ?_, ?_, ?_⟩⟩
    · show ((_ : World).alloc _).cell? _ = _
      rw [World.cell?_alloc_lt _ _ _ (by simpa [World.setCell] using la)]
      rw [World.cell?_setCell_other _ _ _ _ (by simp), World.cell?_setCell_other _ _ _ _ (by simp), World.cell?_setCell_same _ _ _ ha]
    · show ((_ : World).alloc _).cell? _ = _
      rw [World.cell?_alloc_lt _ _ _ (by simpa [World.setCell] using lb)]
      rw [World.cell?_setCell_other _ _ _ _ (by simp), World.cell?_setCell_same _ _ _ ((World.cell?_setCell_other _ _ _ _ (by simp)).trans hb)]
    · show ((_ : World).alloc _).cell? _ = _
      rw [World.cell?_alloc_lt _ _ _ (by simpa [World.setCell] using lc)]
      rw [World.cell?_setCell_same _ _ _ ((World.cell?_setCell_other _ _ _ _ (by simp)).trans ((World.cell?_setCell_other _ _ _ _ (by simp)).trans hc))]
    · exact ((((Turns.refl _ w).setCell (p := ⟨a, 0, none⟩) (.inl (.inl rfl)) _).setCell (p := ⟨b, 0, none⟩) (.inl (.inr (.inl rfl))) _).setCell (p := ⟨c, 0, none⟩) (.inl (.inr (.inr rfl))) _).alloc _ |>.drewN 1

set_option maxHeartbeats 400000 in
/-- nothing is thrown: nothing happens -/
theorem catch_idle (w : World) (args : Array Value) (a b c : Nat) (hargs : args = #[.pointer (some ⟨a, 0, none⟩), .pointer (some ⟨b, 0, none⟩), .pointer (some ⟨c, 0, none⟩)]) :
    CallsD Tryz.prog 52 args .returning w fun e' u' w' => e' = .returned (.tuple #[]) ∧ u' = .returning ∧ Turns Nothing w w' := by
  subst hargs
  refine callsD_of_wpS Tryz.func52 rfl fun c₀ cs hu => ?_
  apply wpS_seq
  apply wpS_region
  simp [wpOpsS, go_sem, recoverD, hu, Tryz.ntmps52, Exit.thenS, A.assert_no]
  refine wpS_of_wp ?_
  refine Code.wp_mono (Q := fun ex act w' => (ex = .normal ∨ ex = .ret) ∧ act.defers = [] ∧ Turns Nothing w w') ?_ ?_
  · rintro ex act w' ⟨hex, hd, ht⟩
    rcases hex with rfl | rfl
    all_goals
      refine ⟨hd, .returning, ?_, .tuple #[], by simp [results, Tryz.results52], rfl, rfl, ht⟩
      cases c₀
      simp_all
  clear hu
  refine wp_frame (tmps' := #[.pointer (some ⟨a, 0, none⟩), .pointer (some ⟨b, 0, none⟩), .pointer (some ⟨c, 0, none⟩), .pointer (some ⟨w.heap.size, 0, none⟩), .bool false, .tuple #[.agg #[.int .i64 0, .int .i64 0], .bool false], .nilIface, .tuple #[.agg #[.int .i64 0, .int .i64 0], .bool false], .agg #[.int .i64 0, .int .i64 0], .bool false, undef, undef, undef, undef, undef]) (by kernel_rfl) ?_
  go_wp2_with fail
  exact (Turns.refl _ w).alloc _
end Go.Proofs.YtiopaenonjhlnaaGreatDoor
