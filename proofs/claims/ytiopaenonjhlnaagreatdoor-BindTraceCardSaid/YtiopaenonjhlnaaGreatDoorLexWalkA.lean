/- The walks of package lex's reader, first part: peek, fail, next, over, put. Each computes what the plain model says. The walks of package lex's reader, second part: next at the end, put. -/
import Derived.Test.YtiopaenonjhlnaaGreatDoorProg
import Derived.Test.YtiopaenonjhlnaaGreatDoorLexBase
import Derived.Test.YtiopaenonjhlnaaGreatDoorLexPure
namespace Go.Proofs.YtiopaenonjhlnaaGreatDoor
set_option maxRecDepth 8000
open Go.RowKit
open Lx (Bytes)

def sl (s : ByteArray) : Bytes := s.data.toList
def lineAt (s : ByteArray) (k : Nat) : Nat := 1 + Lx.feeds ((sl s).take k)
def u8s (l : Bytes) : List Value := l.map fun b => .int .u8 b.toNat
def envCells (es : List (ByteArray × ByteArray)) : List Value := es.flatMap fun p => [.string p.1, .string p.2]
def envOf (es : List (ByteArray × ByteArray)) : Lx.Env := es.map fun p => (sl p.1, sl p.2)
def strMost : Nat := 140737488355328

/-- the environment, a slice of pairs that lies below block B -/
structure EnvAt (w : World) (B : Nat) (v : Value) (es : List (ByteArray × ByteArray)) : Prop where
  at_ : ∃ A c, v = .slice A es.length c ∧ (0 < es.length → ∃ b off, A = some ⟨b, off, none⟩ ∧ b < B ∧ ∀ i, (h : i < es.length) → w.cell? ⟨b, off + i * 2, none⟩ = some (.string es[i].1) ∧ w.cell? ⟨b, off + i * 2 + 1, none⟩ = some (.string es[i].2))
  few : es.length ≤ maxLen
  small : ∀ p ∈ es, p.1.size ≤ strMost ∧ p.2.size ≤ strMost

theorem EnvAt.keep {w w' : World} {B : Nat} {v : Value} {es : List (ByteArray × ByteArray)} (h : EnvAt w B v es) (hb : ∀ p : Addr, p.block < B → w'.cell? p = w.cell? p) : EnvAt w' B v es := by
  obtain ⟨⟨A, c, hv, h1⟩, h2, h3⟩ := h
  refine ⟨⟨A, c, hv, fun hn => ?_⟩, h2, h3⟩
  obtain ⟨b, off, hA, hlt, hc⟩ := h1 hn
  exact ⟨b, off, hA, hlt, fun i hi => ⟨(hb _ hlt).trans (hc i hi).1, (hb _ hlt).trans (hc i hi).2⟩⟩

/-- what stays the same while a word is read -/
structure Cfg where
  B : Nat
  R : Nat
  s : ByteArray
  ev : Value
  es : List (ByteArray × ByteArray)
  wl : Int
  out : Value
  now : Value
  g : Int

def rcells (c : Cfg) (k : Nat) (tx : Value) : Array Value := #[.string c.s, c.ev, .int .i64 k, .int .i64 (lineAt c.s k), .int .i64 c.wl, tx, c.out, c.now, .int .i64 c.g]

structure Ctx (w : World) (c : Cfg) (k : Nat) (tx : Value) (t : Bytes) : Prop where
  blk : Blk w c.R 133 (rcells c k tx)
  hB : c.B ≤ c.R
  size : c.s.size ≤ 65536
  le : k ≤ c.s.size
  own : w.ownsRow c.B 5 1 tx t.length (u8s t)
  long : t.length ≤ 8192
  env : EnvAt w c.B c.ev c.es

def TS (R : Nat) (tx : Value) : Nat → Prop := fun b => b = R ∨ tx.ownBlock = some b
/-- the reader has come to k', the word's text is t' -/
structure Step (w : World) (c : Cfg) (tx : Value) (k' : Nat) (t' : Bytes) (w' : World) (tx' : Value) : Prop where
  ctx : Ctx w' c k' tx' t'
  turns : Turns (TS c.R tx) w w'
  near : ∀ b, tx'.ownBlock = some b → tx.ownBlock = some b ∨ w.heap.size ≤ b

def trouble (e wl : Int) : List PanicEntry := [{ v := .iface 128 (.agg #[.int .i64 e, .int .i64 wl]), recovered := false }]

section
variable {w w' w1 w2 : World} {c : Cfg} {k k' : Nat} {tx tx' : Value} {t t' : Bytes}
theorem Ctx.c0 (h : Ctx w c k tx t) : w.cell? ⟨c.R, 0, none⟩ = some (.string c.s) := by rw [h.blk.cell]; rfl
theorem Ctx.c1 (h : Ctx w c k tx t) : w.cell? ⟨c.R, 1, none⟩ = some c.ev := by rw [h.blk.cell]; rfl
theorem Ctx.c2 (h : Ctx w c k tx t) : w.cell? ⟨c.R, 2, none⟩ = some (.int .i64 k) := by rw [h.blk.cell]; rfl
theorem Ctx.c3 (h : Ctx w c k tx t) : w.cell? ⟨c.R, 3, none⟩ = some (.int .i64 (lineAt c.s k)) := by rw [h.blk.cell]; rfl
theorem Ctx.c4 (h : Ctx w c k tx t) : w.cell? ⟨c.R, 4, none⟩ = some (.int .i64 c.wl) := by rw [h.blk.cell]; rfl
theorem Ctx.c5 (h : Ctx w c k tx t) : w.cell? ⟨c.R, 5, none⟩ = some tx := by rw [h.blk.cell]; rfl
theorem Ctx.f (h : Ctx w c k tx t) (i : Nat) : w.frozen? ⟨c.R, i, none⟩ = false := h.blk.frozen i
theorem Ctx.ltR (h : Ctx w c k tx t) : c.R < w.heap.size := h.blk.lt
theorem Ctx.drewN (h : Ctx w c k tx t) (n : Nat) : Ctx (w.drewN n) c k tx t := ⟨h.blk, h.hB, h.size, h.le, h.own, h.long, h.env.keep fun _ _ => rfl⟩
theorem Ctx.txNe (h : Ctx w c k tx t) : tx.ownBlock ≠ some c.R := own_blk_ne h.own h.blk (by decide)
theorem Ctx.txB (h : Ctx w c k tx t) : ∀ b, tx.ownBlock = some b → c.B ≤ b ∧ b < w.heap.size := h.own.lt
theorem Ctx.belowB (h : Ctx w c k tx t) (ht : Turns (TS c.R tx) w w') : Below c.B w w' := by
  refine ht.below (by have := h.hB; have := h.ltR; omega) fun b hb hs => ?_
  rcases hs with rfl | hs
  · have := h.hB; omega
  · have := (h.txB b hs).1; omega
theorem Step.from_drewN {n : Nat} (h : Step (w.drewN n) c tx k' t' w' tx') : Step w c tx k' t' w' tx' := ⟨h.ctx, ⟨h.turns.os, h.turns.tape, h.turns.output, h.turns.size, h.turns.block⟩, h.near⟩
theorem Step.refl (h : Ctx w c k tx t) : Step w c tx k t w tx := ⟨h, Turns.refl _ _, fun _ hb => .inl hb⟩
theorem Step.drewN (h : Step w c tx k' t' w' tx') (n : Nat) : Step w c tx k' t' (w'.drewN n) tx' := ⟨h.ctx.drewN n, h.turns.drewN n, h.near⟩
theorem Turns.txs (h : Turns (TS c.R tx) w w1) (hn : ∀ b, tx'.ownBlock = some b → tx.ownBlock = some b ∨ w.heap.size ≤ b) (h2 : Turns (TS c.R tx') w1 w2) : Turns (TS c.R tx) w w2 := by
  refine h.trans h2 fun b hb hs => ?_
  rcases hs with rfl | hs
  · exact .inl rfl
  · rcases hn b hs with e | e
    · exact .inr e
    · omega
theorem Step.trans {k1 : Nat} {t1 : Bytes} {tx1 tx2 : Value} (h : Step w c tx k1 t1 w1 tx1) (h2 : Step w1 c tx1 k' t' w2 tx2) : Step w c tx k' t' w2 tx2 :=
  ⟨h2.ctx, h.turns.txs h.near h2.turns, fun b hb => by
    rcases h2.near b hb with e | e
    · exact h.near b e
    · exact .inr (Nat.le_trans h.turns.size e)⟩
end

theorem u8_of {b m : UInt8} (h : ((b.toNat : Int) == (m.toNat : Int)) = true) : b = m := UInt8.toNat_inj.1 (by have := eq_of_beq h; omega)
theorem u8_not {b m : UInt8} (h : ((b.toNat : Int) == (m.toNat : Int)) = false) : ¬ b = m := fun e => by subst e; simp at h
theorem u8_eq {b m : UInt8} (h : b = m) : ((b.toNat : Int) == (m.toNat : Int)) = true := by subst h; simp
theorem u8_ne {b m : UInt8} (h : ¬ b = m) : ((b.toNat : Int) == (m.toNat : Int)) = false := by
  rw [beq_eq_false_iff_ne]; intro e; exact h (UInt8.toNat_inj.1 (by omega))
theorem u8_bne {b m : UInt8} (h : ¬ b = m) : ((b.toNat : Int) != (m.toNat : Int)) = true := by rw [bne, u8_ne h]; rfl
theorem sl_size (s : ByteArray) : (sl s).length = s.size := by simp [sl]
theorem sl_get (s : ByteArray) (k : Nat) (h : k < s.size) : (sl s)[k]'(by rw [sl_size]; exact h) = s[k] := rfl
theorem drop_cons {s : ByteArray} {k : Nat} (h : k < s.size) : (sl s).drop k = s[k] :: (sl s).drop (k + 1) := by
  rw [List.drop_eq_getElem_cons (by rw [sl_size]; exact h)]; rfl
theorem drop_nil {s : ByteArray} {k : Nat} (h : (sl s).drop k = []) : s.size ≤ k := by
  have := List.drop_eq_nil_iff.1 h; rw [sl_size] at this; exact this
theorem drop_lt {s : ByteArray} {k : Nat} {b : UInt8} {r : Bytes} (h : (sl s).drop k = b :: r) : k < s.size := by
  rcases Nat.lt_or_ge k s.size with hl | hl
  · exact hl
  · rw [List.drop_eq_nil_of_le (by rw [sl_size]; exact hl)] at h; cases h
theorem drop_head {s : ByteArray} {k : Nat} {b : UInt8} {r : Bytes} (h : (sl s).drop k = b :: r) : s[k]'(drop_lt h) = b ∧ (sl s).drop (k + 1) = r := by
  have := drop_cons (drop_lt h); rw [h] at this; injection this with a b; exact ⟨a.symm, b.symm⟩
theorem lineAt_succ {s : ByteArray} {k : Nat} {b : UInt8} {r : Bytes} (h : (sl s).drop k = b :: r) : lineAt s (k + 1) = lineAt s k + if b = 10 then 1 else 0 := by
  unfold lineAt Lx.feeds
  have hl : k < (sl s).length := by rw [sl_size]; exact drop_lt h
  rw [List.take_succ_eq_append_getElem hl, List.count_append]
  have := (drop_head h).1
  rw [sl_get s k (drop_lt h), this]
  by_cases e : b = 10 <;> simp [e, Nat.add_assoc]
theorem Ctx.at_ {w : World} {c : Cfg} {k : Nat} {tx : Value} {t : Bytes} (h : Ctx w c k tx t) (k' : Nat) (hk : k' ≤ c.s.size) (hl : lineAt c.s k' = lineAt c.s k) :
    Step w c tx k' t (w.setCell ⟨c.R, 2, none⟩ (.int .i64 k')) tx := by
  refine ⟨⟨?_, h.hB, h.size, hk, ?_, h.long, h.env.keep fun p hp => World.cell?_setCell_other _ _ _ _ ?_⟩, (Turns.refl _ _).setCell (.inl (.inl rfl)) _, fun b hb => .inl hb⟩
  · have := h.blk.set_ 2 (.int .i64 k')
    rw [rcells] at this
    rw [rcells, hl]
    exact this
  · exact ((Turns.refl (Only c.R) w).setCell (p := ⟨c.R, 2, none⟩) (.inl rfl) _).own h.own fun g hg e => h.txNe (by rw [hg, e])
  · intro e; subst e; have := h.hB; dsimp only at hp; omega
theorem Ctx.atl {w : World} {c : Cfg} {k : Nat} {tx : Value} {t : Bytes} (h : Ctx w c k tx t) (k' : Nat) (hk : k' ≤ c.s.size) (l : Int) (hl : (lineAt c.s k' : Int) = l) :
    Step w c tx k' t ((w.setCell ⟨c.R, 2, none⟩ (.int .i64 k')).setCell ⟨c.R, 3, none⟩ (.int .i64 l)) tx := by
  subst hl
  refine ⟨⟨?_, h.hB, h.size, hk, ?_, h.long, h.env.keep fun p hp => (World.cell?_setCell_other _ _ _ _ ?_).trans (World.cell?_setCell_other _ _ _ _ ?_)⟩, ((Turns.refl _ _).setCell (.inl (.inl rfl)) _).setCell (.inl (.inl rfl)) _, fun b hb => .inl hb⟩
  · have := (h.blk.set_ 2 (.int .i64 k')).set_ 3 (.int .i64 (lineAt c.s k'))
    rw [rcells] at this
    rw [rcells]
    exact this
  · exact (((Turns.refl (Only c.R) w).setCell (p := ⟨c.R, 2, none⟩) (.inl rfl) _).setCell (p := ⟨c.R, 3, none⟩) (.inl rfl) _).own h.own fun g hg e => h.txNe (by rw [hg, e])
  · intro e; subst e; have := h.hB; dsimp only at hp; omega
  · intro e; subst e; have := h.hB; dsimp only at hp; omega
theorem lineAt_le (s : ByteArray) (k : Nat) : lineAt s k ≤ s.size + 1 := by
  unfold lineAt Lx.feeds
  have h1 := List.count_le_length (a := (10 : UInt8)) (l := (sl s).take k)
  have h2 := List.length_take_le k (sl s)
  have h3 := List.length_take_le' k (sl s)
  rw [sl_size] at h3
  omega

set_option maxHeartbeats 400000 in
theorem peek_in (w : World) (R : Nat) (s : ByteArray) (k : Nat) (h0 : w.cell? ⟨R, 0, none⟩ = some (.string s)) (h2 : w.cell? ⟨R, 2, none⟩ = some (.int .i64 k)) (_hs : s.size ≤ 65536) (hk : k < s.size) :
    Calls Tryz.prog 86 #[.pointer (some ⟨R, 0, none⟩)] w fun e w' => e = .returned (.tuple #[.int .u8 s[k].toNat, .bool true]) ∧ ∃ n, w' = w.drewN n := by
  go_enter Tryz.func86, Tryz.ntmps86
  go_wp2
  go_quiet (fail)
  go_wp2
  go_quiet (fail)
  go_wp2
  go_ret2
  exact ⟨rfl, _, World.drewN_drewN _ _ _⟩
set_option maxHeartbeats 400000 in
theorem peek_out (w : World) (R : Nat) (s : ByteArray) (k : Nat) (h0 : w.cell? ⟨R, 0, none⟩ = some (.string s)) (h2 : w.cell? ⟨R, 2, none⟩ = some (.int .i64 k)) (_hs : s.size ≤ 65536) (hk : s.size ≤ k) :
    Calls Tryz.prog 86 #[.pointer (some ⟨R, 0, none⟩)] w fun e w' => e = .returned (.tuple #[.int .u8 0, .bool false]) ∧ ∃ n, w' = w.drewN n := by
  go_enter Tryz.func86, Tryz.ntmps86
  go_wp2
  go_quiet (fail)
  go_wp2
  go_ret2
  exact ⟨rfl, _, rfl⟩
theorem peek_some {w : World} {c : Cfg} {k : Nat} {tx : Value} {t : Bytes} (h : Ctx w c k tx t) {b : UInt8} {r : Bytes} (hd : (sl c.s).drop k = b :: r) :
    Calls Tryz.prog 86 #[.pointer (some ⟨c.R, 0, none⟩)] w fun e w' => e = .returned (.tuple #[.int .u8 b.toNat, .bool true]) ∧ ∃ n, w' = w.drewN n := by
  have := peek_in w c.R c.s k h.c0 h.c2 h.size (drop_lt hd)
  rw [(drop_head hd).1] at this
  exact this
theorem peek_none {w : World} {c : Cfg} {k : Nat} {tx : Value} {t : Bytes} (h : Ctx w c k tx t) (hd : (sl c.s).drop k = []) :
    Calls Tryz.prog 86 #[.pointer (some ⟨c.R, 0, none⟩)] w fun e w' => e = .returned (.tuple #[.int .u8 0, .bool false]) ∧ ∃ n, w' = w.drewN n :=
  peek_out w c.R c.s k h.c0 h.c2 h.size (drop_nil hd)

set_option maxHeartbeats 400000 in
theorem fail_in (w : World) (R : Nat) (wl e0 : Int) (h4 : w.cell? ⟨R, 4, none⟩ = some (.int .i64 wl)) :
    Calls Tryz.prog 90 #[.pointer (some ⟨R, 0, none⟩), .int .i64 e0] w fun e w' => e = .panicked (trouble e0 wl) ∧ w = w' := by
  go_enter Tryz.func90, Tryz.ntmps90
  go_wp2
  exact ⟨rfl, rfl, rfl⟩
theorem fail_any {w : World} {c : Cfg} {k : Nat} {tx : Value} {t : Bytes} (h : Ctx w c k tx t) (e0 : Int) :
    Calls Tryz.prog 90 #[.pointer (some ⟨c.R, 0, none⟩), .int .i64 e0] w fun e w' => e = .panicked (trouble e0 c.wl) ∧ w = w' :=
  fail_in w c.R c.wl e0 h.c4

/-! next -/
set_option maxHeartbeats 400000 in
theorem next_some {w : World} {c : Cfg} {k : Nat} {tx : Value} {t : Bytes} (h : Ctx w c k tx t) {b : UInt8} {r : Bytes} (hd : (sl c.s).drop k = b :: r) :
    Calls Tryz.prog 88 #[.pointer (some ⟨c.R, 0, none⟩)] w fun e w' => e = .returned (.int .u8 b.toNat) ∧ Step w c tx (k + 1) t w' tx := by
  have hp := Lib.hid (peek_some h hd)
  go_enter Tryz.func88, Tryz.ntmps88
  go_wp2_with fail
  refine hp.out.mono ?_
  rintro e w1 ⟨rfl, n, rfl⟩
  have h2 := h.c2
  have h3 := h.c3
  have f2 := h.f 2
  have f3 := h.f 3
  have hk := h.le
  have hs := h.size
  have hl := lineAt_le c.s k
  have HK := Lib.hid (And.intro h hd)
  clear h hp hd
  go_wp2_with fail
  · rename_i hb
    go_ret
    obtain ⟨h, hd⟩ := HK.out
    have hb' : b = 10 := u8_of hb
    refine ⟨rfl, Step.from_drewN (n := n) ?_⟩
    have := (h.drewN n).atl (k + 1) (by have := drop_lt hd; omega) (lineAt c.s k + 1) (by rw [lineAt_succ hd, if_pos hb']; rfl)
    exact this
  · rename_i hb
    go_ret
    obtain ⟨h, hd⟩ := HK.out
    have hb' : ¬ b = 10 := u8_not hb
    refine ⟨rfl, Step.from_drewN (n := n) ?_⟩
    have := (h.drewN n).at_ (k + 1) (by have := drop_lt hd; omega) (by rw [lineAt_succ hd, if_neg hb']; rfl)
    exact this
end Go.Proofs.YtiopaenonjhlnaaGreatDoor
namespace Go.Proofs.YtiopaenonjhlnaaGreatDoor
set_option maxRecDepth 8000
open Go.RowKit
open Lx (Bytes)

set_option maxHeartbeats 400000 in
theorem next_none {w : World} {c : Cfg} {k : Nat} {tx : Value} {t : Bytes} (h : Ctx w c k tx t) (hd : (sl c.s).drop k = []) :
    Calls Tryz.prog 88 #[.pointer (some ⟨c.R, 0, none⟩)] w fun e w' => e = .panicked (trouble 4 c.wl) ∧ Turns (TS c.R tx) w w' := by
  have hp := Lib.hid (peek_none h hd)
  have H := Lib.hid h
  clear h hd
  go_enter Tryz.func88, Tryz.ntmps88
  go_wp2_with fail
  refine hp.out.mono ?_
  rintro e w1 ⟨rfl, n, rfl⟩
  go_wp2_with fail
  refine (fail_any (H.out.drewN n) 4).mono ?_
  rintro e w1 ⟨rfl, rfl⟩
  exact ⟨rfl, rfl, (Turns.refl _ _).drewN n⟩

theorem A.info_u8 : (Tryz.prog.info? 5).map (fun i => (i.zero, i.size, i.bytes)) = some (some (.int .u8 0), 1, 1) := by kernel_rfl

theorem u8s_append (a b : Bytes) : u8s (a ++ b) = u8s a ++ u8s b := List.map_append
theorem byteCells_eq (u : ByteArray) : byteCells u = u8s (sl u) := rfl
theorem u8s_len (a : Bytes) : (u8s a).length = a.length := List.length_map _

/-- behind the append and the store of r.word.text -/
theorem Ctx.text {w w1 : World} {c : Cfg} {k : Nat} {tx tx' : Value} {t u : Bytes} (h : Ctx w c k tx t) (hl : (t ++ u).length ≤ 8192)
    (ho : w1.ownsRow c.B 5 1 tx' (t ++ u).length (u8s (t ++ u))) (hg : w.grownBy w1 tx.ownBlock) (ht : tx'.ownBlock = tx.ownBlock ∨ tx'.ownBlock = some w.heap.size) :
    Step w c tx k (t ++ u) (w1.setCell ⟨c.R, 5, none⟩ tx') tx' := by
  have hb : Blk w1 c.R 133 (rcells c k tx) := h.blk.grown hg (fun e => h.txNe e.symm)
  have hne : tx'.ownBlock ≠ some c.R := own_blk_ne ho hb (by decide)
  have hT : Turns (TS c.R tx) w w1 := (Turns.refl (TS c.R tx) w).grown hg fun b _ e => .inr e
  refine ⟨⟨?_, h.hB, h.size, h.le, ?_, hl, ?_⟩, hT.setCell (.inl (.inl rfl)) _, fun b hb => ?_⟩
  · have := hb.set_ 5 tx'
    rw [rcells] at this
    exact this
  · exact ((Turns.refl (Only c.R) w1).setCell (p := ⟨c.R, 5, none⟩) (.inl rfl) _).own ho fun g hg e => hne (by rw [hg, e])
  · refine h.env.keep fun p hp => (World.cell?_setCell_other _ _ _ _ ?_).trans ((h.belowB hT).cell hp)
    intro e; subst e; have := h.hB; dsimp only at hp; omega
  · rcases ht with e | e
    · exact .inl (by rw [← e]; exact hb)
    · rw [e] at hb; cases hb; exact .inr (Nat.le_refl _)

set_option maxHeartbeats 400000 in
theorem put_in {w : World} {R B n : Nat} {tx : Value} {xs : List Value} (u : ByteArray) (h5 : w.cell? ⟨R, 5, none⟩ = some tx) (f5 : w.frozen? ⟨R, 5, none⟩ = false) (hn : some R ≠ tx.ownBlock) (hR : R < w.heap.size) (hB : B ≤ w.heap.size)
    (ho : w.ownsRow B 5 1 tx n xs) (hu : n + u.size ≤ 8192) :
    Calls Tryz.prog 120 #[.pointer (some ⟨R, 0, none⟩), .string u] w fun e w' => e = .returned (.tuple #[]) ∧
      ∃ tx' w1, w' = w1.setCell ⟨R, 5, none⟩ tx' ∧ w1.ownsRow B 5 1 tx' (n + u.size) (xs ++ byteCells u) ∧ w.grownBy w1 tx.ownBlock ∧ (tx'.ownBlock = tx.ownBlock ∨ tx'.ownBlock = some w.heap.size) := by
  obtain ⟨i0, hi0, hz0, hz1, hz2⟩ := info_parts A.info_u8
  have hsrc : Src Tryz.prog 1 9 (.string u) u.size (byteCells u) w := Src.ofString w Tryz.underlying9 u
  go_enter Tryz.func120, Tryz.ntmps120
  go_wp2_with (first
    | (at_builtin
       refine wpList_append_src _ rfl (.tmp 9) (.tmp 10) _ _ rfl B 5 i0 _ 1 1 Tryz.underlying64 hi0 hz0 hz1 hz2 rfl tx _ _ rfl ho (.string u) _ _ rfl hsrc (by simp only [maxLen]; omega) (by omega) hB ?_
       intro A1 cp w1 ho1 hg1 hat1
       have c5 := hg1.cell h5 hn
       have g5 := (World.frozen?_of_block (a := ⟨R, 5, none⟩) (hg1.block R hR hn)).trans f5))
  go_end0
  exact ⟨rfl, _, w1, rfl, ho1, hg1, hat1⟩
set_option maxHeartbeats 400000 in
theorem put_out {w : World} {R B n : Nat} {tx : Value} {xs : List Value} {wl : Int} (u : ByteArray) (h4 : w.cell? ⟨R, 4, none⟩ = some (.int .i64 wl)) (h5 : w.cell? ⟨R, 5, none⟩ = some tx) (f5 : w.frozen? ⟨R, 5, none⟩ = false) (hn : some R ≠ tx.ownBlock) (hR : R < w.heap.size) (hB : B ≤ w.heap.size)
    (ho : w.ownsRow B 5 1 tx n xs) (hn1 : n ≤ 8192) (hu : 8192 < n + u.size) (hu2 : u.size ≤ strMost) :
    Calls Tryz.prog 120 #[.pointer (some ⟨R, 0, none⟩), .string u] w fun e w' => e = .panicked (trouble 2 wl) ∧
      ∃ tx' w1, w' = w1.setCell ⟨R, 5, none⟩ tx' ∧ w1.ownsRow B 5 1 tx' (n + u.size) (xs ++ byteCells u) ∧ w.grownBy w1 tx.ownBlock ∧ (tx'.ownBlock = tx.ownBlock ∨ tx'.ownBlock = some w.heap.size) := by
  unfold strMost at hu2
  obtain ⟨i0, hi0, hz0, hz1, hz2⟩ := info_parts A.info_u8
  have hsrc : Src Tryz.prog 1 9 (.string u) u.size (byteCells u) w := Src.ofString w Tryz.underlying9 u
  go_enter Tryz.func120, Tryz.ntmps120
  go_wp2_with (first
    | (at_builtin
       refine wpList_append_src _ rfl (.tmp 9) (.tmp 10) _ _ rfl B 5 i0 _ 1 1 Tryz.underlying64 hi0 hz0 hz1 hz2 rfl tx _ _ rfl ho (.string u) _ _ rfl hsrc (by simp only [maxLen]; omega) (by omega) hB ?_
       intro A1 cp w1 ho1 hg1 hat1
       have c5 := hg1.cell h5 hn
       have c4 := hg1.cell h4 hn
       have g5 := (World.frozen?_of_block (a := ⟨R, 5, none⟩) (hg1.block R hR hn)).trans f5))
  refine (fail_in _ R wl 2 (by rw [World.cell?_setCell_other _ _ _ _ (by simp)]; exact c4)).mono ?_
  rintro e w2 ⟨rfl, rfl⟩
  exact ⟨rfl, rfl, _, w1, rfl, ho1, hg1, hat1⟩
theorem put_ok {w : World} {c : Cfg} {k : Nat} {tx : Value} {t : Bytes} (h : Ctx w c k tx t) (u : ByteArray) (hu : t.length + u.size ≤ 8192) :
    Calls Tryz.prog 120 #[.pointer (some ⟨c.R, 0, none⟩), .string u] w fun e w' => e = .returned (.tuple #[]) ∧ ∃ tx', Step w c tx k (t ++ sl u) w' tx' := by
  refine (put_in u h.c5 (h.f 5) (fun e => h.txNe e.symm) h.ltR (by have := h.hB; have := h.ltR; omega) h.own hu).mono ?_
  rintro e w' ⟨rfl, tx', w1, rfl, ho, hg, hat⟩
  refine ⟨rfl, tx', h.text (by simpa [sl_size] using hu) ?_ hg hat⟩
  rw [u8s_append, List.length_append, sl_size]
  exact ho
theorem put_long {w : World} {c : Cfg} {k : Nat} {tx : Value} {t : Bytes} (h : Ctx w c k tx t) (u : ByteArray) (hu : 8192 < t.length + u.size) (hu2 : u.size ≤ strMost) :
    Calls Tryz.prog 120 #[.pointer (some ⟨c.R, 0, none⟩), .string u] w fun e w' => e = .panicked (trouble 2 c.wl) ∧ Turns (TS c.R tx) w w' := by
  refine (put_out u h.c4 h.c5 (h.f 5) (fun e => h.txNe e.symm) h.ltR (by have := h.hB; have := h.ltR; omega) h.own h.long hu hu2).mono ?_
  rintro e w' ⟨rfl, tx', w1, rfl, ho, hg, hat⟩
  exact ⟨rfl, ((Turns.refl (TS c.R tx) w).grown hg fun b _ e => .inr e).setCell (.inl (.inl rfl)) _⟩
end Go.Proofs.YtiopaenonjhlnaaGreatDoor
