/- The walk of lex.Split. The contract of Split in the forms in which the laws use it. -/
import Derived.Test.YtiopaenonjhlnaaGreatDoorLexRead
import Derived.Test.YtiopaenonjhlnaaGreatDoorLexWords
namespace Go.Proofs.YtiopaenonjhlnaaGreatDoor
set_option maxRecDepth 8000
open Go.RowKit
open Lx (Bytes)

def SplitPost (w : World) (res : Except (Int × Nat) (List Lx.Ln)) (e : Ending) (w' : World) : Prop := Turns Nothing w w' ∧ match res with
  | .ok L => ∃ ov vs, e = .returned (.tuple #[ov, .int .i64 0, .int .i64 0]) ∧ LinesAt w' w.heap.size ov L vs
  | .error x => e = .returned (.tuple #[.slice none 0 0, .int .i64 x.1, .int .i64 x.2])

theorem split_long {w : World} {s : ByteArray} {ev : Value} {es : List (ByteArray × ByteArray)} (hl : 65536 < s.size) :
    Calls Tryz.prog 29 #[.string s, ev] w (SplitPost w (Lx.split (envOf es) (sl s))) := by
  have hsp : Lx.split (envOf es) (sl s) = .error (2, 0) := by
    rw [Lx.split, if_pos (by rw [sl_size]; exact hl)]
  rw [hsp]
  clear hsp
  have hl' : (65536 : Int) < (s.size : Int) := by omega
  go_enter_defers Tryz.func29, Tryz.ntmps29
  go_wp2_with fail
  simp [bodyPostD, Leaves, results, Tryz.results29, go_sem]
  exact ⟨(((Turns.refl _ w).alloc _).alloc _).alloc _, rfl⟩

theorem start_rc {w : World} {s : ByteArray} {ev : Value} {es : List (ByteArray × ByteArray)} (o1 o2 o3 : Obj) (hl : s.size ≤ 65536) (hen : EnvAt w w.heap.size ev es) :
    RC ((((w.alloc o1).alloc o2).alloc o3).alloc (.cells #[.string s, ev, .int .i64 0, .int .i64 1, .int .i64 0, .slice none 0 0, .slice none 0 0, .slice none 0 0, .int .i64 1] 133)) ⟨w.heap.size, w.heap.size + 1 + 1 + 1 + 1, w.heap.size + 1 + 1 + 1, s, ev, es⟩ 0 0 (.slice none 0 0) (.slice none 0 0) (.slice none 0 0) [] [] [] 1 := by
  have hsz : (((w.alloc o1).alloc o2).alloc o3).heap.size = w.heap.size + 1 + 1 + 1 := by simp [go_sem]
  have hb := Blk.new (((w.alloc o1).alloc o2).alloc o3) 133 #[.string s, ev, .int .i64 0, .int .i64 1, .int .i64 0, .slice none 0 0, .slice none 0 0, .slice none 0 0, .int .i64 1]
  rw [hsz] at hb
  have hT := ((((Turns.refl Nothing w).alloc o1).alloc o2).alloc o3).alloc (.cells #[.string s, ev, .int .i64 0, .int .i64 1, .int .i64 0, .slice none 0 0, .slice none 0 0, .slice none 0 0, .int .i64 1] 133)
  exact {
    blk := hb
    hB := by dsimp only; omega
    hW := Nat.lt_succ_self _
    hw := by simp [go_sem]
    size := hl
    le := Nat.zero_le _
    nown := ⟨rfl, .inl ⟨rfl, rfl⟩⟩
    lines := ⟨rfl, ⟨rfl, .inl ⟨rfl, rfl⟩⟩, fun i h => absurd h (Nat.not_lt_zero _)⟩
    apart := fun _ h => absurd h List.not_mem_nil
    few := Nat.zero_le _
    many := by decide
    grp := by decide
    env := hen.keep fun p hp => hT.cell hp id }

structure ResAt (w w1 : World) : Prop where
  a : Blk w1 w.heap.size 84 #[.slice none 0 0]
  b : Blk w1 (w.heap.size + 1) 37 #[.int .i64 0]
  c : Blk w1 (w.heap.size + 1 + 1) 3 #[.int .i64 0]
  turns : Turns Nothing w w1
theorem res_at {w w1 : World} {s : ByteArray} {ev : Value} {es : List (ByteArray × ByteArray)} {o : Obj}
    (ht : Turns (RS ⟨w.heap.size, w.heap.size + 1 + 1 + 1 + 1, w.heap.size + 1 + 1 + 1, s, ev, es⟩) ((((w.alloc (.cells #[.slice none 0 0] 84)).alloc (.cells #[.int .i64 0] 37)).alloc (.cells #[.int .i64 0] 3)).alloc o) w1) : ResAt w w1 := by
  have h1 : (w.alloc (.cells #[.slice none 0 0] 84)).heap.size = w.heap.size + 1 := by simp [go_sem]
  have h2 : ((w.alloc (.cells #[.slice none 0 0] 84)).alloc (.cells #[.int .i64 0] 37)).heap.size = w.heap.size + 1 + 1 := by simp [go_sem]
  have hb := (((Blk.new (w.alloc (.cells #[.slice none 0 0] 84)) 37 #[.int .i64 0]).alloc (.cells #[.int .i64 0] 3)).alloc o)
  have hc := (Blk.new ((w.alloc (.cells #[.slice none 0 0] 84)).alloc (.cells #[.int .i64 0] 37)) 3 #[.int .i64 0]).alloc o
  rw [h1] at hb
  rw [h2] at hc
  refine ⟨ht.blk ((((Blk.new w _ _).alloc _).alloc _).alloc _) ?_, ht.blk hb ?_, ht.blk hc ?_, ?_⟩
  · rintro (e | e) <;> dsimp only at e <;> omega
  · rintro (e | e) <;> dsimp only at e <;> omega
  · rintro (e | e) <;> dsimp only at e <;> omega
  · exact (((((Turns.refl Nothing w).alloc _).alloc _).alloc _).alloc _).trans ht fun b hb e => by rcases e with e | e <;> dsimp only at e <;> omega

theorem done_at {w w1 w2 : World} (h : ResAt w w1) (v : Value) (hc : Turns Nothing (((w1.setCell ⟨w.heap.size, 0, none⟩ v).setCell ⟨w.heap.size + 1, 0, none⟩ (.int .i64 0)).setCell ⟨w.heap.size + 1 + 1, 0, none⟩ (.int .i64 0)) w2) :
    w2.cell? ⟨w.heap.size, 0, none⟩ = some v ∧ w2.cell? ⟨w.heap.size + 1, 0, none⟩ = some (.int .i64 0) ∧ w2.cell? ⟨w.heap.size + 1 + 1, 0, none⟩ = some (.int .i64 0) ∧ Turns (fun k => k = w.heap.size ∨ k = w.heap.size + 1 ∨ k = w.heap.size + 1 + 1) w1 w2 := by
  have a1 := ((h.a.set_ 0 v).far (p := ⟨w.heap.size + 1, 0, none⟩) (by dsimp only; omega) (.int .i64 0)).far (p := ⟨w.heap.size + 1 + 1, 0, none⟩) (by dsimp only; omega) (.int .i64 0)
  have b1 := ((h.b.far (p := ⟨w.heap.size, 0, none⟩) (by dsimp only; omega) v).set_ 0 (.int .i64 0)).far (p := ⟨w.heap.size + 1 + 1, 0, none⟩) (by dsimp only; omega) (.int .i64 0)
  have c1 := ((h.c.far (p := ⟨w.heap.size, 0, none⟩) (by dsimp only; omega) v).far (p := ⟨w.heap.size + 1, 0, none⟩) (by dsimp only; omega) (.int .i64 0)).set_ 0 (.int .i64 0)
  refine ⟨((hc.blk a1 id).cell 0).trans rfl, ((hc.blk b1 id).cell 0).trans rfl, ((hc.blk c1 id).cell 0).trans rfl, ?_⟩
  exact ((((Turns.refl _ w1).setCell (p := ⟨w.heap.size, 0, none⟩) (.inl (.inl rfl)) _).setCell (p := ⟨w.heap.size + 1, 0, none⟩) (.inl (.inr (.inl rfl))) _).setCell (p := ⟨w.heap.size + 1 + 1, 0, none⟩) (.inl (.inr (.inr rfl))) _).trans hc fun _ _ e => e.elim

theorem own_low {w : World} {B B' : Nat} {e : TypeId} {z n : Nat} {v : Value} {xs : List Value} (h : w.ownsRow B e z v n xs) (hB : B' ≤ B) : w.ownsRow B' e z v n xs := by
  refine ⟨h.1, ?_⟩
  rcases h.2 with h2 | ⟨g, cap, cur, e1, e2, h2⟩
  · exact .inl h2
  · exact .inr ⟨g, cap, cur, e1, Nat.le_trans hB e2, h2⟩
theorem own_from {w : World} {B : Nat} {e : TypeId} {z n : Nat} {v : Value} {xs : List Value} (h : w.ownsRow B e z v n xs) : ∀ b, v.ownBlock = some b → B ≤ b := by
  intro b hb
  rcases h.2 with ⟨rfl, _⟩ | ⟨g, cap, cur, rfl, e2, _⟩
  · simp [Value.ownBlock] at hb
  · have : g = b := by simpa [Value.ownBlock] using hb
    omega
theorem LinesAt.low {w : World} {B B' : Nat} {ov : Value} {out : List Lx.Ln} {vs : List Value} (h : LinesAt w B ov out vs) (hB : B' ≤ B) : LinesAt w B' ov out vs :=
  ⟨h.len, own_low h.row hB, fun i hi hi' => own_low (h.words i hi hi') hB⟩

theorem split_short {w : World} {s : ByteArray} {ev : Value} {es : List (ByteArray × ByteArray)} (hl : s.size ≤ 65536) (hen : EnvAt w w.heap.size ev es) (res : Except (Int × Nat) (List Lx.Ln)) (hres : Lx.read (envOf es) 1 [] [] 1 (sl s) = res) :
    Calls Tryz.prog 29 #[.string s, ev] w (SplitPost w res) := by
  have hmf : ∀ (fn : Fn) (first cap : Array Value) (w : World), (Instr.makeFunc fn first cap).run Tryz.prog w = .ok (.func fn first cap) w := fun _ _ _ _ => rfl
  obtain ⟨A, cc, rfl, -⟩ := hen.at_
  have H := Lib.hid (And.intro hen hres)
  clear hen hres
  have hl' : ¬ (65536 : Int) < (s.size : Int) := by omega
  go_enter_defers Tryz.func29, Tryz.ntmps29
  go_wp2_with fail
  refine (read_in (start_rc _ _ _ hl H.out.1) res H.out.2).mono ?_
  intro e w1 hp
  cases res with
  | ok L =>
    obtain ⟨rfl, k, wl, tx, nv, ov, vs, g, hrc, ht⟩ := hp
    obtain ⟨oA, on, oc, rfl⟩ : ∃ A n c, ov = .slice A n c := by
      rcases hrc.lines.row.2 with ⟨e, _⟩ | ⟨g', cap, cur, e, _⟩
      · exact ⟨_, _, _, e⟩
      · exact ⟨_, _, _, e⟩
    have c6 := hrc.c6
    have hr := res_at ht
    have ca := hr.a.cell 0
    have cb := hr.b.cell 0
    have cc := hr.c.cell 0
    have fa := hr.a.frozen 0
    have fb := hr.b.frozen 0
    have fc := hr.c.frozen 0
    simp at ca cb cc
    have H1 := Lib.hid (And.intro hrc hr)
    clear hrc ht hr
    go_wp2_with fail
    refine leaves_cons (f := 52) (args := #[.pointer (some ⟨w.heap.size, 0, none⟩), .pointer (some ⟨w.heap.size + 1, 0, none⟩), .pointer (some ⟨w.heap.size + 1 + 1, 0, none⟩)]) (by simp) (by simp [go_sem]) ?_
    refine (catch_idle _ _ w.heap.size (w.heap.size + 1) (w.heap.size + 1 + 1) rfl).mono ?_
    rintro e u w2 ⟨rfl, rfl, hc⟩
    have hd := done_at H1.out.2 (.slice oA on oc) hc
    have da := hd.1
    have db := hd.2.1
    have dc := hd.2.2.1
    simp [Leaves, settle, results, Tryz.results29, go_sem, da, db, dc]
    refine ⟨H1.out.2.turns.trans hd.2.2.2 fun b hb e => ?_, _, vs, rfl, ?_⟩
    · rcases e with e | e | e <;> omega
    · refine (H1.out.1.lines.low (B' := w.heap.size) (by dsimp only; omega)).turns hd.2.2.2 (fun b hb e => ?_) (fun v hv b hb e => ?_)
      · have := own_from H1.out.1.lines.row b hb
        dsimp only at this e
        omega
      · obtain ⟨i, hi, rfl⟩ := List.getElem_of_mem hv
        have := own_from (H1.out.1.lines.words i hi (by rw [← H1.out.1.lines.len]; exact hi)) b hb
        dsimp only at this e
        omega
  | error x =>
    obtain ⟨rfl, ht⟩ := hp
    have H1 := Lib.hid (res_at ht)
    clear ht
    refine leaves_cons (f := 52) (args := #[.pointer (some ⟨w.heap.size, 0, none⟩), .pointer (some ⟨w.heap.size + 1, 0, none⟩), .pointer (some ⟨w.heap.size + 1 + 1, 0, none⟩)]) (by simp) (by simp [go_sem]) ?_
    refine (catch_panic w1 w.heap.size (w.heap.size + 1) (w.heap.size + 1 + 1) x.1 x.2 _ _ _ (H1.out.a.cell 0) (H1.out.b.cell 0) (H1.out.c.cell 0) (H1.out.a.frozen 0) (H1.out.b.frozen 0) (H1.out.c.frozen 0) (by omega) (by omega) (by omega) H1.out.a.lt H1.out.b.lt H1.out.c.lt).mono ?_
    rintro e u w2 ⟨rfl, rfl, hc⟩
    have ca := hc.ca
    have cb := hc.cb
    have cc := hc.cc
    simp [Leaves, settle, results, Tryz.results29, go_sem, ca, cb, cc]
    exact ⟨H1.out.turns.trans hc.turns fun b hb e => by rcases e with e | e | e <;> omega, rfl⟩

theorem split_any {w : World} {s : ByteArray} {ev : Value} {es : List (ByteArray × ByteArray)} (hen : EnvAt w w.heap.size ev es) :
    Calls Tryz.prog 29 #[.string s, ev] w (SplitPost w (Lx.split (envOf es) (sl s))) := by
  by_cases h : 65536 < s.size
  · exact split_long h
  · exact split_short (by omega) hen _ (by rw [Lx.split, if_neg (by rw [sl_size]; exact h)])
end Go.Proofs.YtiopaenonjhlnaaGreatDoor
namespace Go.Proofs.YtiopaenonjhlnaaGreatDoor
set_option maxRecDepth 8000
open Go.RowKit
open Lx (Bytes)

def SplitIn (w : World) (res : Except (Int × Nat) (List Lx.Ln)) (e : Ending) (w' : World) : Prop :=
  Turns Nothing w w' ∧ match res with
  | .ok L => ∃ ov, e = .returned (.tuple #[ov, .int .i64 0, .int .i64 0]) ∧ LinesIn w' w.heap.size ov L
  | .error x => e = .returned (.tuple #[.slice none 0 0, .int .i64 x.1, .int .i64 x.2]) ∧ Lx.Err x.1 ∧ x.2 ≤ 65537
theorem split_in {w : World} {s : ByteArray} {ev : Value} {es : List (ByteArray × ByteArray)} (hen : EnvAt w w.heap.size ev es) :
    Calls Tryz.prog 29 #[.string s, ev] w (SplitIn w (Lx.split (envOf es) (sl s))) := by
  refine (split_any hen).mono ?_
  intro e w' hp
  refine ⟨hp.1, ?_⟩
  have h2 := hp.2
  cases hr : Lx.split (envOf es) (sl s) with
  | ok L =>
    rw [hr] at h2
    obtain ⟨ov, vs, he, hL⟩ := h2
    exact ⟨ov, he, hL.view (Lx.split_good hr)⟩
  | error x =>
    rw [hr] at h2
    exact ⟨h2, Lx.split_err hr⟩

theorem split_ok {w : World} {s : ByteArray} {ev : Value} {es : List (ByteArray × ByteArray)} {L : List Lx.Ln} (hen : EnvAt w w.heap.size ev es) (h : Lx.split (envOf es) (sl s) = .ok L) :
    Calls Tryz.prog 29 #[.string s, ev] w fun e w' => Turns Nothing w w' ∧ ∃ A c, e = .returned (.tuple #[.slice A L.length c, .int .i64 0, .int .i64 0]) ∧ LinesIn w' w.heap.size (.slice A L.length c) L := by
  refine (split_in hen).mono ?_
  intro e w' hp
  rw [h] at hp
  obtain ⟨ht, ov, he, hl⟩ := hp
  obtain ⟨A, c, e1, -⟩ := hl.at_
  rw [e1] at he hl
  exact ⟨ht, A, c, he, hl⟩
theorem split_no {w : World} {s : ByteArray} {ev : Value} {es : List (ByteArray × ByteArray)} {x : Int × Nat} (hen : EnvAt w w.heap.size ev es) (h : Lx.split (envOf es) (sl s) = .error x) :
    Calls Tryz.prog 29 #[.string s, ev] w fun e w' => Turns Nothing w w' ∧ e = .returned (.tuple #[.slice none 0 0, .int .i64 x.1, .int .i64 x.2]) := by
  refine (split_in hen).mono ?_
  intro e w' hp
  rw [h] at hp
  exact ⟨hp.1, hp.2.1⟩

theorem no_env (w : World) (B : Nat) : EnvAt w B (.slice none 0 0) [] := ⟨⟨_, _, rfl, fun h => absurd h (by decide)⟩, by simp [maxLen], fun p hp => by cases hp⟩

theorem sl_append (a b : ByteArray) : sl (a ++ b) = sl a ++ sl b := by simp [sl]

theorem env_up {w : World} {B B' : Nat} {v : Value} {es : List (ByteArray × ByteArray)} (h : EnvAt w B v es) (hB : B ≤ B') : EnvAt w B' v es := by
  obtain ⟨⟨A, c, hv, h1⟩, h2, h3⟩ := h
  refine ⟨⟨A, c, hv, fun hn => ?_⟩, h2, h3⟩
  obtain ⟨b, off, hA, hb, hc⟩ := h1 hn
  exact ⟨b, off, hA, by omega, hc⟩
/-- what a result of Split says of the three values that it gave -/
def Gave (w : World) (B0 : Nat) (res : Except (Int × Nat) (List Lx.Ln)) (A : Option Addr) (n c : Nat) (f at_ : Int) : Prop := match res with
  | .ok L => n = L.length ∧ f = 0 ∧ at_ = 0 ∧ LinesIn w B0 (.slice A n c) L
  | .error x => A = none ∧ n = 0 ∧ c = 0 ∧ f = x.1 ∧ at_ = x.2 ∧ Lx.Err x.1
theorem split_gen {w : World} {s : ByteArray} {ev : Value} {es : List (ByteArray × ByteArray)} (hen : EnvAt w w.heap.size ev es) :
    Calls Tryz.prog 29 #[.string s, ev] w fun e w' => Turns Nothing w w' ∧ ∃ A n c f at_, e = .returned (.tuple #[.slice A n c, .int .i64 f, .int .i64 at_]) ∧
      (n : Int) ≤ 1000 ∧ 0 ≤ f ∧ f ≤ 4 ∧ 0 ≤ at_ ∧ at_ ≤ 65537 ∧ Gave w' w.heap.size (Lx.split (envOf es) (sl s)) A n c f at_ := by
  refine (split_in hen).mono ?_
  intro e w' hp
  refine ⟨hp.1, ?_⟩
  have h2 := hp.2
  cases hr : Lx.split (envOf es) (sl s) with
  | ok L =>
    rw [hr] at h2
    obtain ⟨ov, he, hl⟩ := h2
    obtain ⟨A, c, e1, -⟩ := hl.at_
    subst e1
    exact ⟨A, _, c, 0, 0, he, by have := hl.good.many; omega, by decide, by decide, by decide, by decide, rfl, rfl, rfl, hl⟩
  | error x =>
    rw [hr] at h2
    obtain ⟨he, h3, h4⟩ := h2
    exact ⟨none, 0, 0, x.1, x.2, he, by decide, by have := h3.1; omega, h3.2, by omega, by omega, rfl, rfl, rfl, rfl, rfl, h3⟩

end Go.Proofs.YtiopaenonjhlnaaGreatDoor
