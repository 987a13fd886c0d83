/- Package mullionlaw15: what the walks of shown and BindTrace want: a press's answer, the blocks of bindings and states. -/
import Derived.Test.YtiopaenonjhlnaaGreatDoorBindPress
import Derived.Test.YtiopaenonjhlnaaGreatDoorKeyParse
import Derived.Test.YtiopaenonjhlnaaGreatDoorBindNew
namespace Go.Proofs.YtiopaenonjhlnaaGreatDoor
set_option maxRecDepth 8000
open Go.RowKit
open Lx (Bytes)

/-- what a press answers, cell by cell -/
def PressIs (w : World) (a : Int) (s : ByteArray) (u : Int) (L : List (List Px.Cmd)) (e : Ending) (w' : World) : Prop :=
  ∃ (t n : ByteArray) (c m : Int) (rp : Bool) (A : Option Addr) (cp : Nat) (Z : List (Value × List CQ)), e = .returned (.tuple #[.int .i64 a, .agg #[.string t, .int .i64 c, .int .i64 m, .bool rp, .string n, .slice A Z.length cp], .agg #[.string s, .int .i64 u]]) ∧ GAt w' w.heap.size (.slice A Z.length cp) Z ∧ plainG Z = L ∧ Turns Nothing w w'
theorem press_is {w : World} {P M : Nat} {T : List Bx.Bd} (h : TabAt w P M T) (st : ByteArray) (un : Int) (k : Bx.Ky) (now : Int) (pk : Bx.Ky) (rep : Int) (hp : ∀ t, t = sl st ∨ t = rootS → okP (t, k)) (hnow : -10000000 ≤ now ∧ now ≤ 10000000) (hrep : -10000000 ≤ rep ∧ rep ≤ 10000000)
    {a : Int} {s : ByteArray} {u : Int} {L : List (List Px.Cmd)} (h1 : (Bx.press T (sl st) un k now pk rep).1 = a) (h2 : (Bx.press T (sl st) un k now pk rep).2.2 = (sl s, u)) (h3 : (Bx.press T (sl st) un k now pk rep).2.1.list = L) :
    Calls Tryz.prog 12 #[.pointer (some ⟨P, 0, none⟩), .agg #[.string st, .int .i64 un], .agg #[.int .i64 k.code, .int .i64 k.mods], .int .i64 now, .agg #[.int .i64 pk.code, .int .i64 pk.mods], .int .i64 rep] w (PressIs w a s u L) := by
  refine (press_in h st un k now pk rep hp hnow hrep).mono ?_
  rintro e w' ⟨v, s', rfl, hs, ⟨gv, Z, rfl, hg, hpz⟩, ht⟩
  obtain ⟨A, cp, rfl⟩ := own_slice hg.outer
  have e1 := congrArg Prod.fst h2
  have e2 := congrArg Prod.snd h2
  dsimp only at e1 e2
  have e3 : s' = s := sl_inj (hs.trans e1)
  subst e3
  exact ⟨_, _, _, _, _, A, cp, Z, by rw [h1, e2]; rfl, hg, hpz.trans h3, ht⟩
theorem ok_key {st : ByteArray} {k : Bx.Ky} (hs : st.size ≤ 100) (hc : (Lit.int .i64 k.code).wf = true) (hm : (Lit.int .i64 k.mods).wf = true) : ∀ t, t = sl st ∨ t = rootS → okP (t, k) := by
  rintro t (rfl | rfl)
  · refine ⟨?_, hc, hm⟩
    have : (sl st).length = st.size := Array.length_toList
    show (sl st).length ≤ maxLen
    rw [this]
    exact Nat.le_trans hs (by decide)
  · exact ⟨show rootS.length ≤ maxLen by decide, hc, hm⟩
/-- groups of one command -/
theorem one_group {Z : List (Value × List CQ)} {nm : Bytes} (h : (plainG Z).map (fun g => g.map (·.name)) = [[nm]]) : ∃ (z : Value) (q : CQ), Z = [(z, [q])] ∧ q.1.name = nm := by
  cases Z with
  | nil => simp [plainG] at h
  | cons x Z =>
    obtain ⟨z, l⟩ := x
    cases Z with
    | cons y Z => simp [plainG] at h
    | nil =>
      cases l with
      | nil => simp [plainG] at h
      | cons q l =>
        cases l with
        | cons y l => simp [plainG] at h
        | nil => exact ⟨z, q, rfl, by simpa [plainG] using h⟩
theorem keep_t {w w1 w2 : World} (ht : Turns Nothing w1 w2) (h1 : Turns Nothing w w1) : Turns Nothing w w2 := h1.same ht
/-- a key for the pressings -/
theorem ok_b : ∀ t, t = sl ⟨#[]⟩ ∨ t = rootS → okP (t, Bx.cB) := ok_key (by decide) (by decide) (by decide)
theorem ok_c : ∀ t, t = sl ⟨#[112, 114, 101, 102, 105, 120]⟩ ∨ t = rootS → okP (t, ⟨99, 0⟩) := ok_key (by decide) (by decide) (by decide)
theorem ok_u : ∀ t, t = sl ⟨#[112, 114, 101, 102, 105, 120]⟩ ∨ t = rootS → okP (t, Bx.upK) := ok_key (by decide) (by decide) (by decide)
theorem ok_y : ∀ t, t = sl ⟨#[112, 114, 101, 102, 105, 120]⟩ ∨ t = rootS → okP (t, ⟨121, 0⟩) := ok_key (by decide) (by decide) (by decide)
/-- a state's block -/
def StAt (W : World) (b : Nat) (s : ByteArray) (u : Int) : Prop := Blk W b 47 #[.string s, .int .i64 u]
theorem StAt.still {w w' : World} {b : Nat} {s : ByteArray} {u : Int} (h : StAt w b s u) (ht : Turns Nothing w w') : StAt w' b s u := ht.blk h id
theorem StAt.cells {w : World} {b : Nat} {s : ByteArray} {u : Int} (h : StAt w b s u) : w.cell? ⟨b, 0, none⟩ = some (.string s) ∧ w.cell? ⟨b, 1, none⟩ = some (.int .i64 u) ∧ w.frozen? ⟨b, 0, none⟩ = false ∧ w.frozen? ⟨b, 1, none⟩ = false ∧ b < w.heap.size := two_cells h
/-- a binding's block, and its one command's name -/
def OneAt (W : World) (b : Nat) (nm : ByteArray) (g off : Nat) (cp : Nat) (b2 o c2 : Nat) : Prop :=
  W.cell? ⟨b, 5, none⟩ = some (.slice (some ⟨g, off, none⟩) 1 cp) ∧ W.cell? ⟨g, off, none⟩ = some (.slice (some ⟨b2, o, none⟩) 1 c2) ∧ W.cell? ⟨b2, o, none⟩ = some (.string nm) ∧ b < W.heap.size ∧ g < W.heap.size ∧ b2 < W.heap.size
theorem OneAt.still {w w' : World} {b g off cp b2 o c2 : Nat} {nm : ByteArray} (h : OneAt w b nm g off cp b2 o c2) (ht : Turns Nothing w w') : OneAt w' b nm g off cp b2 o c2 := by
  obtain ⟨h1, h2, h3, h4, h5, h6⟩ := h
  have := ht.size
  exact ⟨(ht.cell (p := ⟨b, _, none⟩) h4 id).trans h1, (ht.cell (p := ⟨g, _, none⟩) h5 id).trans h2, (ht.cell (p := ⟨b2, _, none⟩) h6 id).trans h3, by omega, by omega, by omega⟩
theorem OneAt.made {w : World} {B b cp : Nat} {A : Option Addr} {Z : List (Value × List CQ)} {nm : Bytes} (h : GAt w B (.slice A Z.length cp) Z) (hn : (plainG Z).map (fun g => g.map (·.name)) = [[nm]]) (h5 : w.cell? ⟨b, 5, none⟩ = some (.slice A Z.length cp)) (hb : b < w.heap.size) : ∃ g off b2 o c2, OneAt w b ⟨nm.toArray⟩ g off cp b2 o c2 := by
  obtain ⟨z, q, rfl, hq⟩ := one_group hn
  obtain ⟨g, off, rfl, hg, hc, b2, o, c2, hz, hb2, hnm, -⟩ := h.row (k := 0) Nat.one_pos (q := q) rfl
  refine ⟨g, off, b2, o, c2, h5, ?_, ?_, hb, hg, hb2⟩
  · have hz : z = .slice (some ⟨b2, o, none⟩) 1 c2 := hz
    rw [← hz]
    exact hc
  · rw [hnm, strV, hq]
/-- the cells of a state that is not yet stored -/
def zeroS : Array Value := #[.string ⟨#[]⟩, .int .i64 0]
def oB : Obj := .cells zeroC 34
def oS : Obj := .cells zeroS 47
def ZB (W : World) (b : Nat) : Prop := Blk W b 34 zeroC
def ZS (W : World) (b : Nat) : Prop := Blk W b 47 zeroS
theorem ZB.facts {W : World} {b : Nat} (h : ZB W b) : W.cell? ⟨b, 0, none⟩ = some (.string ⟨#[]⟩) ∧ W.cell? ⟨b, 1, none⟩ = some (.int .i64 0) ∧ W.cell? ⟨b, 2, none⟩ = some (.int .i64 0) ∧ W.cell? ⟨b, 3, none⟩ = some (.bool false) ∧ W.cell? ⟨b, 4, none⟩ = some (.string ⟨#[]⟩) ∧ W.cell? ⟨b, 5, none⟩ = some (.slice none 0 0) ∧
    W.frozen? ⟨b, 0, none⟩ = false ∧ W.frozen? ⟨b, 1, none⟩ = false ∧ W.frozen? ⟨b, 2, none⟩ = false ∧ W.frozen? ⟨b, 3, none⟩ = false ∧ W.frozen? ⟨b, 4, none⟩ = false ∧ W.frozen? ⟨b, 5, none⟩ = false ∧ b < W.heap.size :=
  ⟨h.cell 0, h.cell 1, h.cell 2, h.cell 3, h.cell 4, h.cell 5, h.frozen 0, h.frozen 1, h.frozen 2, h.frozen 3, h.frozen 4, h.frozen 5, h.lt⟩
theorem ZS.facts {W : World} {b : Nat} (h : ZS W b) : W.cell? ⟨b, 0, none⟩ = some (.string ⟨#[]⟩) ∧ W.cell? ⟨b, 1, none⟩ = some (.int .i64 0) ∧ W.frozen? ⟨b, 0, none⟩ = false ∧ W.frozen? ⟨b, 1, none⟩ = false ∧ b < W.heap.size :=
  ⟨h.cell 0, h.cell 1, h.frozen 0, h.frozen 1, h.lt⟩
theorem turns_drew {S : Nat → Prop} {w w1 : World} (h : Turns S w w1) : Turns S w w1.drew := h.drewN 1
theorem new2 (w : World) (o : Obj) (t : TypeId) (cs : Array Value) : Blk ((w.alloc o).alloc (.cells cs t)) (w.heap.size + 1) t cs := blk_new_at (by simp [go_sem])
theorem set_st {w : World} {b : Nat} {t : TypeId} {a0 a1 : Value} (h : Blk w b t #[a0, a1]) (v0 v1 : Value) : Blk ((w.setCell ⟨b, 0, none⟩ v0).setCell ⟨b, 1, none⟩ v1) b t #[v0, v1] := (h.set_ 0 v0).set_ 1 v1
theorem turns_two {w0 w : World} {b : Nat} {S : Nat → Prop} (ht : Turns S w0 w) (hb : S b ∨ w0.heap.size ≤ b) (v0 v1 : Value) : Turns S w0 ((w.setCell ⟨b, 0, none⟩ v0).setCell ⟨b, 1, none⟩ v1) := (ht.setCell hb v0).setCell hb v1
theorem far_six {w : World} {b b' : Nat} {t : TypeId} {cs : Array Value} (h : Blk w b t cs) (hn : b ≠ b') (v0 v1 v2 v3 v4 v5 : Value) :
    Blk ((((((w.setCell ⟨b', 0, none⟩ v0).setCell ⟨b', 1, none⟩ v1).setCell ⟨b', 2, none⟩ v2).setCell ⟨b', 3, none⟩ v3).setCell ⟨b', 4, none⟩ v4).setCell ⟨b', 5, none⟩ v5) b t cs :=
  (((((h.far hn v0).far hn v1).far hn v2).far hn v3).far hn v4).far hn v5
theorem far_two {w : World} {b b' : Nat} {t : TypeId} {cs : Array Value} (h : Blk w b t cs) (hn : b ≠ b') (v0 v1 : Value) : Blk ((w.setCell ⟨b', 0, none⟩ v0).setCell ⟨b', 1, none⟩ v1) b t cs := (h.far hn v0).far hn v1
theorem ZB.set_ {w : World} {b : Nat} (h : ZB w b) (v0 v1 v2 v3 v4 v5 : Value) :
    Blk ((((((w.setCell ⟨b, 0, none⟩ v0).setCell ⟨b, 1, none⟩ v1).setCell ⟨b, 2, none⟩ v2).setCell ⟨b, 3, none⟩ v3).setCell ⟨b, 4, none⟩ v4).setCell ⟨b, 5, none⟩ v5) b 34 #[v0, v1, v2, v3, v4, v5] := set_six h v0 v1 v2 v3 v4 v5
theorem ZS.set_ {w : World} {b : Nat} (h : ZS w b) (v0 v1 : Value) : Blk ((w.setCell ⟨b, 0, none⟩ v0).setCell ⟨b, 1, none⟩ v1) b 47 #[v0, v1] := set_st h v0 v1
theorem ZB.far_ {w : World} {b b' : Nat} (h : ZB w b) (hn : b ≠ b') (v0 v1 : Value) : ZB ((w.setCell ⟨b', 0, none⟩ v0).setCell ⟨b', 1, none⟩ v1) b := far_two h hn v0 v1
theorem ZS.far_ {w : World} {b b' : Nat} (h : ZS w b) (hn : b ≠ b') (v0 v1 v2 v3 v4 v5 : Value) : ZS ((((((w.setCell ⟨b', 0, none⟩ v0).setCell ⟨b', 1, none⟩ v1).setCell ⟨b', 2, none⟩ v2).setCell ⟨b', 3, none⟩ v3).setCell ⟨b', 4, none⟩ v4).setCell ⟨b', 5, none⟩ v5) b := far_six h hn v0 v1 v2 v3 v4 v5
def Lt (B b : Nat) : Prop := b < B
theorem lt_mk {B b : Nat} (h : b < B) : Lt B b := h
theorem GAt.kept {w w' : World} {B : Nat} {v : Value} {Z : List (Value × List CQ)} (h : GAt w B v Z) (ht : Turns (Lt B) w w') : GAt w' 0 v Z := (h.keep ht fun _ e => e).weak (Nat.zero_le _)
/-- a binding's block, and its commands -/
def BindAt (W : World) (b : Nat) (L : List (List Px.Cmd)) : Prop := ∃ (t n : ByteArray) (c m : Int) (rp : Bool) (A : Option Addr) (cp : Nat) (Z : List (Value × List CQ)), Blk W b 34 #[.string t, .int .i64 c, .int .i64 m, .bool rp, .string n, .slice A Z.length cp] ∧ GAt W 0 (.slice A Z.length cp) Z ∧ plainG Z = L
theorem BindAt.still {w w' : World} {b : Nat} {L : List (List Px.Cmd)} (h : BindAt w b L) (ht : Turns Nothing w w') : BindAt w' b L := by
  obtain ⟨t, n, c, m, rp, A, cp, Z, h1, h2, h3⟩ := h
  exact ⟨t, n, c, m, rp, A, cp, Z, ht.blk h1 id, h2.still ht, h3⟩
theorem BindAt.one {w : World} {b : Nat} {L : List (List Px.Cmd)} {nm : Bytes} (h : BindAt w b L) (hn : L.map (fun g => g.map (·.name)) = [[nm]]) : ∃ g off cp b2 o c2, OneAt w b ⟨nm.toArray⟩ g off cp b2 o c2 := by
  obtain ⟨t, n, c, m, rp, A, cp, Z, h1, h2, h3⟩ := h
  obtain ⟨g, off, b2, o, c2, h4⟩ := OneAt.made h2 (by rw [h3]; exact hn) (h1.cell 5) h1.lt
  exact ⟨g, off, cp, b2, o, c2, h4⟩
def newWin : Bytes := [110, 101, 119, 45, 119, 105, 110, 100, 111, 119]
/-- region n of a body -/
def regAt (n : Nat) : Code → Code
  | .region i o d => bif Nat.beq i n then .region i o d else .skip
  | .seq a b => match regAt n a with
    | .skip => regAt n b
    | c => c
  | .cond _ a b => match regAt n a with
    | .skip => regAt n b
    | c => c
  | .block _ b => regAt n b
  | .loop b => regAt n b
  | .scope b => regAt n b
  | _ => .skip
theorem only_self {b : Nat} : Only b b := rfl
theorem to_only {b : Nat} {w w1 : World} (h : Turns Nothing w w1) : Turns (Only b) w w1 := h.mono fun _ _ e => e.elim
end Go.Proofs.YtiopaenonjhlnaaGreatDoor
