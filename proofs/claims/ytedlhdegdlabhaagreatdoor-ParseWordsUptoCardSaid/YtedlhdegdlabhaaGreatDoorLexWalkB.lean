/- The walks of package lex's reader, second part: next at the end, put. -/
import Derived.Test.YtedlhdegdlabhaaGreatDoorLexWalkA
namespace Go.Proofs.YtedlhdegdlabhaaGreatDoor
set_option maxRecDepth 8000
open Go.RowKit
open Lx (Bytes)

set_option maxHeartbeats 400000 in
theorem next_none {w : World} {c : Cfg} {k : Nat} {tx : Value} {t : Bytes} (h : Ctx w c k tx t) (hd : (sl c.s).drop k = []) :
    Calls Tryz.prog 78 #[.pointer (some ⟨c.R, 0, none⟩)] w fun e w' => e = .panicked (trouble 4 c.wl) ∧ Turns (TS c.R tx) w w' := by
  have hp := Lib.hid (peek_none h hd)
  have H := Lib.hid h
  clear h hd
  go_enter Tryz.func78, Tryz.ntmps78
  go_wp2_with fail
  refine hp.out.mono ?_
  rintro e w1 ⟨rfl, n, rfl⟩
  go_wp2_with fail
  refine (fail_any (H.out.drewN n) 4).mono ?_
  rintro e w1 ⟨rfl, rfl⟩
  exact ⟨rfl, rfl, (Turns.refl _ _).drewN n⟩

theorem A.info_u8 : (Tryz.prog.info? 5).map (fun i => (i.zero, i.size, i.bytes)) = some (some (.int .u8 0), 1, 1) := by kernel_rfl

theorem u8s_append (a b : Bytes) : u8s (a ++ b) = u8s a ++ u8s b := List.map_append
theorem byteCells_eq (u : ByteArray) : byteCells u = u8s (sl u) := rfl
theorem u8s_len (a : Bytes) : (u8s a).length = a.length := List.length_map _

/-- behind the append and the store of r.word.text -/
theorem Ctx.text {w w1 : World} {c : Cfg} {k : Nat} {tx tx' : Value} {t u : Bytes} (h : Ctx w c k tx t) (hl : (t ++ u).length ≤ 8192)
    (ho : w1.ownsRow c.B 5 1 tx' (t ++ u).length (u8s (t ++ u))) (hg : w.grownBy w1 tx.ownBlock) (ht : tx'.ownBlock = tx.ownBlock ∨ tx'.ownBlock = some w.heap.size) :
    Step w c tx k (t ++ u) (w1.setCell ⟨c.R, 5, none⟩ tx') tx' := by
  have hb : Blk w1 c.R 124 (rcells c k tx) := h.blk.grown hg (fun e => h.txNe e.symm)
  have hne : tx'.ownBlock ≠ some c.R := own_blk_ne ho hb (by decide)
  have hT : Turns (TS c.R tx) w w1 := (Turns.refl (TS c.R tx) w).grown hg fun b _ e => .inr e
  refine ⟨⟨?_, h.hB, h.size, h.le, ?_, hl, ?_⟩, hT.setCell (.inl (.inl rfl)) _, fun b hb => ?_⟩
  · have := hb.set_ 5 tx'
    rw [rcells] at this
    exact this
  · exact ((Turns.refl (Only c.R) w1).setCell (p := ⟨c.R, 5, none⟩) (.inl rfl) _).own ho fun g hg e => hne (by rw [hg, e])
  · refine h.env.keep fun p hp => (World.cell?_setCell_other _ _ _ _ ?_).trans ((h.belowB hT).cell hp)
    intro e; subst e; have := h.hB; dsimp only at hp; omega
  · rcases ht with e | e
    · exact .inl (by rw [← e]; exact hb)
    · rw [e] at hb; cases hb; exact .inr (Nat.le_refl _)

set_option maxHeartbeats 400000 in
theorem put_in {w : World} {R B n : Nat} {tx : Value} {xs : List Value} (u : ByteArray) (h5 : w.cell? ⟨R, 5, none⟩ = some tx) (f5 : w.frozen? ⟨R, 5, none⟩ = false) (hn : some R ≠ tx.ownBlock) (hR : R < w.heap.size) (hB : B ≤ w.heap.size)
    (ho : w.ownsRow B 5 1 tx n xs) (hu : n + u.size ≤ 8192) :
    Calls Tryz.prog 103 #[.pointer (some ⟨R, 0, none⟩), .string u] w fun e w' => e = .returned (.tuple #[]) ∧
      ∃ tx' w1, w' = w1.setCell ⟨R, 5, none⟩ tx' ∧ w1.ownsRow B 5 1 tx' (n + u.size) (xs ++ byteCells u) ∧ w.grownBy w1 tx.ownBlock ∧ (tx'.ownBlock = tx.ownBlock ∨ tx'.ownBlock = some w.heap.size) := by
  obtain ⟨i0, hi0, hz0, hz1, hz2⟩ := info_parts A.info_u8
  have hsrc : Src Tryz.prog 1 9 (.string u) u.size (byteCells u) w := Src.ofString w Tryz.underlying9 u
  go_enter Tryz.func103, Tryz.ntmps103
  go_wp2_with (first
    | (at_builtin
       refine wpList_append_src _ rfl (.tmp 9) (.tmp 10) _ _ rfl B 5 i0 _ 1 1 Tryz.underlying73 hi0 hz0 hz1 hz2 rfl tx _ _ rfl ho (.string u) _ _ rfl hsrc (by simp only [maxLen]; omega) (by omega) hB ?_
       intro A1 cp w1 ho1 hg1 hat1
       have c5 := hg1.cell h5 hn
       have g5 := (World.frozen?_of_block (a := ⟨R, 5, none⟩) (hg1.block R hR hn)).trans f5))
  go_end0
  exact ⟨rfl, _, w1, rfl, ho1, hg1, hat1⟩
set_option maxHeartbeats 400000 in
theorem put_out {w : World} {R B n : Nat} {tx : Value} {xs : List Value} {wl : Int} (u : ByteArray) (h4 : w.cell? ⟨R, 4, none⟩ = some (.int .i64 wl)) (h5 : w.cell? ⟨R, 5, none⟩ = some tx) (f5 : w.frozen? ⟨R, 5, none⟩ = false) (hn : some R ≠ tx.ownBlock) (hR : R < w.heap.size) (hB : B ≤ w.heap.size)
    (ho : w.ownsRow B 5 1 tx n xs) (hn1 : n ≤ 8192) (hu : 8192 < n + u.size) (hu2 : u.size ≤ strMost) :
    Calls Tryz.prog 103 #[.pointer (some ⟨R, 0, none⟩), .string u] w fun e w' => e = .panicked (trouble 2 wl) ∧
      ∃ tx' w1, w' = w1.setCell ⟨R, 5, none⟩ tx' ∧ w1.ownsRow B 5 1 tx' (n + u.size) (xs ++ byteCells u) ∧ w.grownBy w1 tx.ownBlock ∧ (tx'.ownBlock = tx.ownBlock ∨ tx'.ownBlock = some w.heap.size) := by
  unfold strMost at hu2
  obtain ⟨i0, hi0, hz0, hz1, hz2⟩ := info_parts A.info_u8
  have hsrc : Src Tryz.prog 1 9 (.string u) u.size (byteCells u) w := Src.ofString w Tryz.underlying9 u
  go_enter Tryz.func103, Tryz.ntmps103
  go_wp2_with (first
    | (at_builtin
       refine wpList_append_src _ rfl (.tmp 9) (.tmp 10) _ _ rfl B 5 i0 _ 1 1 Tryz.underlying73 hi0 hz0 hz1 hz2 rfl tx _ _ rfl ho (.string u) _ _ rfl hsrc (by simp only [maxLen]; omega) (by omega) hB ?_
       intro A1 cp w1 ho1 hg1 hat1
       have c5 := hg1.cell h5 hn
       have c4 := hg1.cell h4 hn
       have g5 := (World.frozen?_of_block (a := ⟨R, 5, none⟩) (hg1.block R hR hn)).trans f5))
  refine (fail_in _ R wl 2 (by rw [World.cell?_setCell_other _ _ _ _ (by simp)]; exact c4)).mono ?_
  rintro e w2 ⟨rfl, rfl⟩
  exact ⟨rfl, rfl, _, w1, rfl, ho1, hg1, hat1⟩
theorem put_ok {w : World} {c : Cfg} {k : Nat} {tx : Value} {t : Bytes} (h : Ctx w c k tx t) (u : ByteArray) (hu : t.length + u.size ≤ 8192) :
    Calls Tryz.prog 103 #[.pointer (some ⟨c.R, 0, none⟩), .string u] w fun e w' => e = .returned (.tuple #[]) ∧ ∃ tx', Step w c tx k (t ++ sl u) w' tx' := by
  refine (put_in u h.c5 (h.f 5) (fun e => h.txNe e.symm) h.ltR (by have := h.hB; have := h.ltR; omega) h.own hu).mono ?_
  rintro e w' ⟨rfl, tx', w1, rfl, ho, hg, hat⟩
  refine ⟨rfl, tx', h.text (by simpa [sl_size] using hu) ?_ hg hat⟩
  rw [u8s_append, List.length_append, sl_size]
  exact ho
theorem put_long {w : World} {c : Cfg} {k : Nat} {tx : Value} {t : Bytes} (h : Ctx w c k tx t) (u : ByteArray) (hu : 8192 < t.length + u.size) (hu2 : u.size ≤ strMost) :
    Calls Tryz.prog 103 #[.pointer (some ⟨c.R, 0, none⟩), .string u] w fun e w' => e = .panicked (trouble 2 c.wl) ∧ Turns (TS c.R tx) w w' := by
  refine (put_out u h.c4 h.c5 (h.f 5) (fun e => h.txNe e.symm) h.ltR (by have := h.hB; have := h.ltR; omega) h.own h.long hu hu2).mono ?_
  rintro e w' ⟨rfl, tx', w1, rfl, ho, hg, hat⟩
  exact ⟨rfl, ((Turns.refl (TS c.R tx) w).grown hg fun b _ e => .inr e).setCell (.inl (.inl rfl)) _⟩
end Go.Proofs.YtedlhdegdlabhaaGreatDoor
