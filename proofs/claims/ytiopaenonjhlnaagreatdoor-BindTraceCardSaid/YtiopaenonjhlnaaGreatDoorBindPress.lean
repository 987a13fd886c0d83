/- Package bind: Press, as a plain function; what it answers to chapter 15's examples, and to a key that is bound. Package bind: Press, walked. -/
import Derived.Test.YtiopaenonjhlnaaGreatDoorBindFind
import Derived.Test.YtiopaenonjhlnaaGreatDoorBindNew
namespace Go.Proofs.YtiopaenonjhlnaaGreatDoor
set_option maxRecDepth 8000
open Lx (Bytes)

def rootS : Bytes := [114, 111, 111, 116]
def prefS : Bytes := [112, 114, 101, 102, 105, 120]
def copyS : Bytes := [99, 111, 112, 121, 45, 109, 111, 100, 101]
namespace Bx
/-- where a press looks first -/
def press1 (st : Bytes) (un now : Int) : Bytes × Int := if (un != 0 && decide (un ≤ now)) || st == [] then (rootS, 0) else (st, un)
def pressC (st : Bytes) (un : Int) : Bool := st == copyS && un == 0
/-- where a press looks at last -/
def press2 (T : List Bd) (s : Bytes × Int) (k : Ky) : Bytes × Int := if (find T s.1 k).isNone && s.2 != 0 && s.1 != rootS then (rootS, 0) else s
/-- what a press answers: what it is, the binding, the state -/
def pressA (T : List Bd) (cp : Bool) (s : Bytes × Int) (k : Ky) (now : Int) (pk : Ky) (rep : Int) : Int × Bd × Bytes × Int :=
  let ok := (find T s.1 k).isSome
  let b := foundB T s.1 k
  let rt := s.1 == rootS
  if (rt || cp) && decide (k = pk) then (3, zeroBd, prefS, 0)
  else if ok && cp then (2, b, s.1, s.2)
  else if ok && !rt && b.rep && decide (0 < rep) then (2, b, s.1, now + rep)
  else if ok then (2, b, [], 0)
  else if rt then (1, zeroBd, [], 0)
  else if cp then (4, zeroBd, s.1, s.2)
  else (4, zeroBd, [], 0)
def press (T : List Bd) (st : Bytes) (un : Int) (k : Ky) (now : Int) (pk : Ky) (rep : Int) : Int × Bd × Bytes × Int :=
  pressA T (pressC st un) (press2 T (press1 st un now) k) k now pk rep
end Bx
namespace Bx
/-- the key C-b -/
def cB : Ky := ⟨98, 4⟩
def upK : Ky := ⟨1114112, 0⟩
theorem find_root_none {T : List Bd} {t : Bytes} {k : Ky} (h : find T t k = none) : foundB T t k = zeroBd := by rw [foundB, h]; rfl
/-- the commands' names -/
def namesL (b : Bd) : List (List Bytes) := b.list.map fun g => g.map (·.name)
set_option maxRecDepth 100000 in
theorem shown_1 : (press start [] 0 cB 0 cB 500).1 = 3 ∧ (press start [] 0 cB 0 cB 500).2.2 = (prefS, 0) := by
  refine ⟨?_, ?_⟩ <;> decide +kernel
set_option maxRecDepth 100000 in
theorem shown_2 : (press start prefS 0 ⟨99, 0⟩ 0 cB 500).1 = 2 ∧ namesL (press start prefS 0 ⟨99, 0⟩ 0 cB 500).2.1 = [[[110, 101, 119, 45, 119, 105, 110, 100, 111, 119]]] ∧ (press start prefS 0 ⟨99, 0⟩ 0 cB 500).2.2 = ([], 0) := by
  refine ⟨?_, ?_, ?_⟩ <;> decide +kernel
set_option maxRecDepth 100000 in
theorem shown_3 : (press start prefS 0 upK 100 cB 500).1 = 2 ∧ (press start prefS 0 upK 100 cB 500).2.2 = (prefS, 600) := by
  refine ⟨?_, ?_⟩ <;> decide +kernel
set_option maxRecDepth 100000 in
theorem shown_4 : (press start prefS 600 upK 1200 cB 500).1 = 1 ∧ (press start prefS 600 upK 1200 cB 500).2.2 = ([], 0) := by
  refine ⟨?_, ?_⟩ <;> decide +kernel
set_option maxRecDepth 100000 in
theorem shown_5 : (press start prefS 0 ⟨121, 0⟩ 0 cB 500).1 = 4 := by decide +kernel
set_option maxRecDepth 100000 in
theorem shown_5s : (press start prefS 0 ⟨121, 0⟩ 0 cB 500).2.2 = ([], 0) := by decide +kernel
/-- the command kill-server -/
def killT : List Bytes := [[107, 105, 108, 108, 45, 115, 101, 114, 118, 101, 114]]
/-- the binding of the law -/
def traceB (k : Ky) : Bd := ⟨prefS, k, true, [], [[Px.cmdT killT]]⟩
theorem trace_bare (k : Ky) : bareB (traceB k) = traceB k := by
  have : Px.stripG [[Px.cmdT killT]] = [[Px.cmdT killT]] := by decide +kernel
  simp only [bareB, traceB, this]
theorem trace_bindE (k : Ky) : bindE start (traceB k) = if right k then 0 else 1 := by
  have h1 : nameOk prefS = true := by decide +kernel
  have h2 : ¬ 500 ≤ start.length := by rw [start_len]; decide
  simp only [bindE, traceB, h1, decide_eq_false h2, Bool.and_false]
  cases right k <;> rfl
/-- the table behind Bind -/
def traceT (k : Ky) : List Bd := put start (traceB k)
theorem trace_found (k : Ky) : find (traceT k) prefS k = some (traceB k) := put_find (traceB k)
theorem trace_root (k k' : Ky) : find (traceT k) rootS k' = none := put_other (traceB k) (show rootS ≠ prefS by decide) (start_find_root k')
theorem trace_drop (k : Ky) (h : find start prefS k = none) : drop (traceT k) prefS k = start := put_drop (traceB k) h
theorem trace_1 (k : Ky) (now rep : Int) : press (traceT k) [] 0 cB now cB rep = (3, zeroBd, prefS, 0) := by
  have e1 : press1 [] 0 now = (rootS, 0) := by simp [press1]
  have e2 : press2 (traceT k) (rootS, 0) cB = (rootS, 0) := by simp [press2]
  rw [press, e1, e2]
  simp [pressA]
theorem trace_2 (k : Ky) (now rep : Int) (hr : 0 < rep) : press (traceT k) prefS 0 k now cB rep = (2, traceB k, prefS, now + rep) := by
  have e1 : press1 prefS 0 now = (prefS, 0) := by simp [press1, prefS]
  have e2 : press2 (traceT k) (prefS, 0) k = (prefS, 0) := by simp [press2]
  have e3 : pressC prefS 0 = false := by decide
  have e4 : (prefS == rootS) = false := by decide
  have e5 : foundB (traceT k) prefS k = traceB k := by rw [foundB, trace_found]; rfl
  rw [press, e1, e2, e3]
  simp [pressA, trace_found, e4, e5, traceB, hr]
theorem trace_3 (k : Ky) (now rep : Int) (_hn : 0 ≤ now) (hr : 0 < rep) : press (traceT k) prefS (now + rep) k (now + rep - 1) cB rep = (2, traceB k, prefS, now + rep - 1 + rep) := by
  have e1 : press1 prefS (now + rep) (now + rep - 1) = (prefS, now + rep) := by
    have : ¬ (now + rep ≤ now + rep - 1) := by omega
    simp [press1, prefS, this]
  have e2 : press2 (traceT k) (prefS, now + rep) k = (prefS, now + rep) := by simp [press2, trace_found]
  have e3 : pressC prefS (now + rep) = false := by
    have : (prefS == copyS) = false := by decide
    simp [pressC, this]
  have e4 : (prefS == rootS) = false := by decide
  have e5 : foundB (traceT k) prefS k = traceB k := by rw [foundB, trace_found]; rfl
  rw [press, e1, e2, e3]
  simp [pressA, trace_found, e4, e5, traceB, hr]
theorem trace_4 (k : Ky) (now rep : Int) (hn : 0 ≤ now) (hr : 0 < rep) : ∃ f s, (f = 1 ∨ f = 3) ∧ press (traceT k) prefS (now + rep) k (now + rep) cB rep = (f, zeroBd, s, 0) := by
  have e1 : press1 prefS (now + rep) (now + rep) = (rootS, 0) := by
    have : now + rep ≠ 0 := by omega
    simp [press1, this]
  have e2 : press2 (traceT k) (rootS, 0) k = (rootS, 0) := by simp [press2]
  have e3 : pressC prefS (now + rep) = false := by
    have : (prefS == copyS) = false := by decide
    simp [pressC, this]
  have e5 : foundB (traceT k) rootS k = zeroBd := by rw [foundB, trace_root]; rfl
  rw [press, e1, e2, e3]
  by_cases hk : k = cB
  · exact ⟨3, prefS, .inr rfl, by simp [pressA, hk]⟩
  · exact ⟨1, [], .inl rfl, by simp [pressA, hk, trace_root]⟩
end Bx
end Go.Proofs.YtiopaenonjhlnaaGreatDoor
namespace Go.Proofs.YtiopaenonjhlnaaGreatDoor
set_option maxRecDepth 8000
open Go.RowKit
open Lx (Bytes)

def zeroC : Array Value := #[.string ⟨#[]⟩, .int .i64 0, .int .i64 0, .bool false, .string ⟨#[]⟩, .slice none 0 0]
/-- within Press: its cells -/
structure PM (w wx : World) (k pk : Bx.Ky) (s : ByteArray) (u : Int) : Prop where
  st : Blk wx w.heap.size 47 #[.string s, .int .i64 u]
  ky : Blk wx (w.heap.size + 1) 23 #[.int .i64 k.code, .int .i64 k.mods]
  pk : Blk wx (w.heap.size + 2) 23 #[.int .i64 pk.code, .int .i64 pk.mods]
  res : Blk wx (w.heap.size + 3) 34 zeroC
  rst : Blk wx (w.heap.size + 4) 47 #[.string ⟨#[]⟩, .int .i64 0]
  turns : Turns Nothing w wx
theorem two_cells {w : World} {b : Nat} {t : TypeId} {v0 v1 : Value} (h : Blk w b t #[v0, v1]) : w.cell? ⟨b, 0, none⟩ = some v0 ∧ w.cell? ⟨b, 1, none⟩ = some v1 ∧ w.frozen? ⟨b, 0, none⟩ = false ∧ w.frozen? ⟨b, 1, none⟩ = false ∧ b < w.heap.size := ⟨h.cell 0, h.cell 1, h.frozen 0, h.frozen 1, h.lt⟩
theorem PM.still {w wx w' : World} {k pk : Bx.Ky} {s : ByteArray} {u : Int} (h : PM w wx k pk s u) (ht : Turns Nothing wx w') : PM w w' k pk s u :=
  ⟨ht.blk h.st id, ht.blk h.ky id, ht.blk h.pk id, ht.blk h.res id, ht.blk h.rst id, h.turns.same ht⟩
theorem PM.made (w : World) (k pk : Bx.Ky) (s : ByteArray) (u : Int) : PM w (((((w.alloc (.cells #[.string s, .int .i64 u] 47)).alloc (.cells #[.int .i64 k.code, .int .i64 k.mods] 23)).alloc (.cells #[.int .i64 pk.code, .int .i64 pk.mods] 23)).alloc (.cells zeroC 34)).alloc (.cells #[.string ⟨#[]⟩, .int .i64 0] 47)) k pk s u :=
  ⟨((((Blk.new w _ _).alloc _).alloc _).alloc _).alloc _, (((blk_new_at (by simp [go_sem])).alloc _).alloc _).alloc _, ((blk_new_at (by simp [go_sem])).alloc _).alloc _, (blk_new_at (by simp [go_sem])).alloc _, blk_new_at (by simp [go_sem]), (((((Turns.refl _ w).alloc _).alloc _).alloc _).alloc _).alloc _⟩
theorem PM.set_ {w wx : World} {k pk : Bx.Ky} {s : ByteArray} {u : Int} (h : PM w wx k pk s u) (s' : ByteArray) (u' : Int) : PM w ((wx.setCell ⟨w.heap.size, 0, none⟩ (.string s')).setCell ⟨w.heap.size, 1, none⟩ (.int .i64 u')) k pk s' u' :=
  ⟨(h.st.set_ 0 _).set_ 1 _, (h.ky.far (by simp) _).far (by simp) _, (h.pk.far (by simp) _).far (by simp) _, (h.res.far (by simp) _).far (by simp) _, (h.rst.far (by simp) _).far (by simp) _, (h.turns.setCell (.inr (Nat.le_refl _)) _).setCell (.inr (Nat.le_refl _)) _⟩
theorem PM.low {w wx : World} {k pk : Bx.Ky} {s : ByteArray} {u : Int} (h : PM w wx k pk s u) : w.heap.size + 5 ≤ wx.heap.size := by have := h.rst.lt; omega
theorem PM.turn {w wx w' : World} {k pk : Bx.Ky} {s : ByteArray} {u : Int} (h : PM w wx k pk s u) {b : Nat} (hb : w.heap.size + 5 ≤ b) (ht : Turns (Only b) wx w') : PM w w' k pk s u :=
  ⟨ht.blk h.st (fun e => by have e : w.heap.size = b := e; omega), ht.blk h.ky (fun e => by have e : w.heap.size + 1 = b := e; omega), ht.blk h.pk (fun e => by have e : w.heap.size + 2 = b := e; omega), ht.blk h.res (fun e => by have e : w.heap.size + 3 = b := e; omega), ht.blk h.rst (fun e => by have e : w.heap.size + 4 = b := e; omega),
    h.turns.trans ht fun x hx e => by have e : x = b := e; omega⟩
/-- what is found, in its cells -/
structure FoundAt (w wx : World) (b : Nat) (fd : Bx.Bd) : Prop where
  low : w.heap.size + 5 ≤ b
  ex : ∃ t c m n A Z cp, Blk wx b 34 #[.string t, .int .i64 c, .int .i64 m, .bool fd.rep, .string n, .slice A (List.length Z) cp] ∧ (∀ x, bdV fd x = .agg #[.string t, .int .i64 c, .int .i64 m, .bool fd.rep, .string n, x]) ∧ GAt wx (w.heap.size + 5) (.slice A Z.length cp) Z ∧ plainG Z = fd.list
theorem FoundAt.still {w wx w' : World} {b : Nat} {fd : Bx.Bd} (h : FoundAt w wx b fd) (ht : Turns Nothing wx w') : FoundAt w w' b fd := by
  obtain ⟨t, c, m, n, A, Z, cp, h1, h2, h3, h4⟩ := h.ex
  exact ⟨h.low, t, c, m, n, A, Z, cp, ht.blk h1 id, h2, h3.still ht, h4⟩
/-- what Press answers -/
def PressOut (w : World) (r : Int × Bx.Bd × Bytes × Int) (e : Ending) (w' : World) : Prop := ∃ v s, e = .returned (.tuple #[.int .i64 r.1, v, .agg #[.string s, .int .i64 r.2.2.2]]) ∧ sl s = r.2.2.1 ∧ BdAt w' w.heap.size v r.2.1 ∧ Turns Nothing w w'
theorem results_three {fn : Func} {t p q : Tmp} {ty1 ty2 : TypeId} (h : fn.results = #[.tmp t, .cell p ty1, .cell q ty2]) (tmps : Array Value) (P : Program) (w : World) (a b : Addr) (v1 v2 : Value) (ha : tmps.getD p undef = .pointer (some a)) (hb : tmps.getD q undef = .pointer (some b))
    (h1 : (loadVar ty1 a).run P w = .ok v1 w) (h2 : (loadVar ty2 b).run P w = .ok v2 w) : (results fn tmps).run P w = .ok (.tuple #[tmps.getD t undef, v1, v2]) w := by
  simp only [results, h]
  simp only [Array.getD_eq_getD_getElem?] at ha hb
  simp [ha, hb, asAddr, h1, h2]
theorem load_state (w : World) (g : Nat) (v0 v1 : Value) (h : Blk w g 47 #[v0, v1]) : (loadVar 47 ⟨g, 0, none⟩).run Tryz.prog w = .ok (.agg #[v0, v1]) w := by
  have d0 := h.cell 0
  have d1 := h.cell 1
  clear h
  simp at d0 d1
  simp [go_sem, d0, d1]
/-- the blocks of Press' results -/
def Res (w : World) (b : Nat) : Prop := b = w.heap.size + 3 ∨ b = w.heap.size + 4
theorem press_end {w wx w' : World} {k pk : Bx.Ky} {s0 : ByteArray} {u0 : Int} (h : PM w wx k pk s0 u0) {n : Int} {b : Bx.Bd} {s : ByteArray} {u : Int} {gv : Value} {Z : List (Value × List CQ)} {R : Int × Bx.Bd × Bytes × Int} (hR : R = (n, b, sl s, u)) (ht : Turns (Res w) wx w') (hg : GAt wx (w.heap.size + 5) gv Z) (hp : plainG Z = b.list) :
    PressOut w R (.returned (.tuple #[.int .i64 n, bdV b gv, .agg #[.string s, .int .i64 u]])) w' := by
  subst hR
  refine ⟨_, s, rfl, rfl, ⟨gv, Z, rfl, (hg.keep ht fun x e => by rcases e with e | e <;> omega).weak (by omega), hp⟩, h.turns.trans ht fun x hx e => by rcases e with e | e <;> omega⟩
theorem res_blk {w wx : World} {k pk : Bx.Ky} {s0 : ByteArray} {u0 : Int} (h : PM w wx k pk s0 u0) (v0 v1 v2 v3 v4 v5 z0 z1 : Value) :
    Blk ((((((((wx.setCell ⟨w.heap.size + 3, 0, none⟩ v0).setCell ⟨w.heap.size + 3, 1, none⟩ v1).setCell ⟨w.heap.size + 3, 2, none⟩ v2).setCell ⟨w.heap.size + 3, 3, none⟩ v3).setCell ⟨w.heap.size + 3, 4, none⟩ v4).setCell ⟨w.heap.size + 3, 5, none⟩ v5).setCell ⟨w.heap.size + 4, 0, none⟩ z0).setCell ⟨w.heap.size + 4, 1, none⟩ z1) (w.heap.size + 3) 34 #[v0, v1, v2, v3, v4, v5] ∧
    Blk ((((((((wx.setCell ⟨w.heap.size + 3, 0, none⟩ v0).setCell ⟨w.heap.size + 3, 1, none⟩ v1).setCell ⟨w.heap.size + 3, 2, none⟩ v2).setCell ⟨w.heap.size + 3, 3, none⟩ v3).setCell ⟨w.heap.size + 3, 4, none⟩ v4).setCell ⟨w.heap.size + 3, 5, none⟩ v5).setCell ⟨w.heap.size + 4, 0, none⟩ z0).setCell ⟨w.heap.size + 4, 1, none⟩ z1) (w.heap.size + 4) 47 #[z0, z1] ∧
    Turns (Res w) wx ((((((((wx.setCell ⟨w.heap.size + 3, 0, none⟩ v0).setCell ⟨w.heap.size + 3, 1, none⟩ v1).setCell ⟨w.heap.size + 3, 2, none⟩ v2).setCell ⟨w.heap.size + 3, 3, none⟩ v3).setCell ⟨w.heap.size + 3, 4, none⟩ v4).setCell ⟨w.heap.size + 3, 5, none⟩ v5).setCell ⟨w.heap.size + 4, 0, none⟩ z0).setCell ⟨w.heap.size + 4, 1, none⟩ z1) := by
  refine ⟨?_, ?_, ?_⟩
  · exact ((set_six h.res v0 v1 v2 v3 v4 v5).far (by simp) z0).far (by simp) z1
  · exact (((((((h.rst.far (by simp) v0).far (by simp) v1).far (by simp) v2).far (by simp) v3).far (by simp) v4).far (by simp) v5).set_ 0 z0).set_ 1 z1
  · exact ((turns_six (S := Res w) (Turns.refl _ wx) (.inl (.inl rfl)) v0 v1 v2 v3 v4 v5).setCell (.inl (.inr rfl)) z0).setCell (.inl (.inr rfl)) z1
set_option maxHeartbeats 4000000 in
theorem press_in {w : World} {P M : Nat} {T : List Bx.Bd} (h : TabAt w P M T) (st : ByteArray) (un : Int) (k : Bx.Ky) (now : Int) (pk : Bx.Ky) (rep : Int) (hp : ∀ t, t = sl st ∨ t = rootS → okP (t, k)) (hnow : -10000000 ≤ now ∧ now ≤ 10000000) (hrep : -10000000 ≤ rep ∧ rep ≤ 10000000) :
    Calls Tryz.prog 12 #[.pointer (some ⟨P, 0, none⟩), .agg #[.string st, .int .i64 un], .agg #[.int .i64 k.code, .int .i64 k.mods], .int .i64 now, .agg #[.int .i64 pk.code, .int .i64 pk.mods], .int .i64 rep] w (PressOut w (Bx.press T (sl st) un k now pk rep)) := by
  have HT := Lib.hid (fun W (ht : Turns Nothing w W) => h.still ht)
  have HP := Lib.hid hp
  have HNR := Lib.hid (And.intro hnow hrep)
  clear hnow hrep
  have P5 := Lib.hid (PM.made w k pk st un)
  clear h hp
  have HR := Lib.hid (show Bx.press T (sl st) un k now pk rep = Bx.pressA T (Bx.pressC (sl st) un) (Bx.press2 T (Bx.press1 (sl st) un now) k) k now pk rep from rfl)
  generalize Bx.press T (sl st) un k now pk rep = R at HR ⊢
  generalize hkc : k.code = kc at *
  generalize hkm : k.mods = km at *
  generalize hpc : pk.code = pc at *
  generalize hpm : pk.mods = pm at *
  unfold zeroC at P5
  go_enter Tryz.func12, Tryz.ntmps12
  go_upto_region 1 with fail
  generalize ((((w.alloc (.cells #[.string st, .int .i64 un] 47)).alloc (.cells #[.int .i64 kc, .int .i64 km] 23)).alloc (.cells #[.int .i64 pc, .int .i64 pm] 23)).alloc (.cells #[.string ⟨#[]⟩, .int .i64 0, .int .i64 0, .bool false, .string ⟨#[]⟩, .slice none 0 0] 34)).alloc (.cells #[.string ⟨#[]⟩, .int .i64 0] 47) = w5 at *
  obtain ⟨x0, x1, xf0, xf1, xz⟩ := two_cells P5.out.st
  generalize hqe : (st.toList == []) = qe
  generalize hqc : (st.toList == [99, 111, 112, 121, 45, 109, 111, 100, 101]) = qc
  have HC := Lib.hid (show Bx.pressC (sl st) un = (qc && un == 0) by rw [← hqc, txt_list]; rfl)
  have H1 := Lib.hid (show Bx.press1 (sl st) un now = if (un != 0 && decide (un ≤ now)) || qe then (rootS, 0) else (sl st, un) by rw [← hqe, txt_list]; rfl)
  rw [HC.out] at HR
  have HQ := Lib.hid (And.intro hqe hqc)
  clear HC hqe
  go_cut [15] (fun s15 wx => s15 = .bool (un != 0 && decide (un ≤ now)) ∧ wx = w5)
  case first =>
    by_cases hu0 : un = 0
    · subst hu0
      go_wp2_with fail
      go_meet
      exact ⟨rfl, rfl⟩
    · have d1 : (un != 0) = true := by simpa using hu0
      go_wp2_with fail
      go_meet
      simp [d1]
  case rest =>
    obtain ⟨rfl, hw⟩ := hcut
    subst hw
    generalize (un != 0 && decide (un ≤ now)) = dead at *
    go_upto_region 2 with fail
    go_cut [16] (fun s16 wx => s16 = .bool (qc && un == 0) ∧ wx = wc)
    case first =>
      cases qc
      · go_wp2_with fail
        go_meet
        exact ⟨rfl, rfl⟩
      · go_wp2_with fail
        go_meet
        exact ⟨rfl, rfl⟩
    case rest =>
      obtain ⟨rfl, hw⟩ := hcut
      subst hw
      generalize (qc && un == 0) = cp at *
      clear hqc
      go_upto_region 3 with fail
      go_cut [42] (fun s42 wx => s42 = .bool (dead || qe) ∧ wx = wc)
      case first =>
        have hqe := HQ.out.1
        cases dead
        · go_wp2_with fail
          go_meet
          exact ⟨rfl, rfl⟩
        · go_wp2_with fail
          go_meet
          exact ⟨rfl, rfl⟩
      case rest =>
        obtain ⟨rfl, hw⟩ := hcut
        subst hw
        generalize (dead || qe) = de at *
        go_upto_if 42 with fail
        go_cut [] (fun wx => ∃ s1 u1, PM w wx k pk s1 u1 ∧ Bx.press1 (sl st) un now = (sl s1, u1) ∧ okP (sl s1, k))
        case first =>
          cases de
          · go_wp2_with fail
            go_meet
            exact ⟨st, un, P5.out, H1.out, HP.out _ (.inl rfl)⟩
          · go_wp2_with fail
            go_meet
            exact ⟨⟨#[114, 111, 111, 116]⟩, 0, P5.out.set_ _ _, H1.out, HP.out _ (.inr rfl)⟩
        case rest =>
          obtain ⟨s1, u1, hP6, hS1, hok⟩ := hcut
          rw [hS1] at HR
          have P6 := Lib.hid hP6
          have HOK := Lib.hid hok
          have HFD := Lib.hid (tfind_in (HT.out _ hP6.turns) s1 k hok)
          rw [hkc, hkm] at HFD
          have hreg : Bx.press2 T (sl s1, u1) k = if (!(Bx.find T (sl s1) k).isSome && u1 != 0) && s1.toList != [114, 111, 111, 116] then (rootS, 0) else (sl s1, u1) := by
            unfold Bx.press2
            rw [txt_list]
            cases Bx.find T (sl s1) k <;> rfl
          have H2 := Lib.hid hreg
          clear hP6 hS1 hok P5 H1 HQ x0 x1 xf0 xf1 xz hreg
          go_upto_region 5 with fail
          generalize wc = w6 at *
          obtain ⟨x0, x1, xf0, xf1, xz⟩ := two_cells P6.out.st
          obtain ⟨k0, k1, kf0, kf1, kz⟩ := two_cells P6.out.ky
          rw [hkc] at k0
          rw [hkm] at k1
          clear xf0 xf1 kf0 kf1
          go_wp2_with fail
          refine HFD.out.mono ?_
          rintro e w7 ⟨v, rfl, ⟨gv, Z, rfl, hg, hpz⟩, ht⟩
          obtain ⟨vA, vC, rfl⟩ := own_slice hg.outer
          obtain ⟨t0, c0, m0, r0, n0, hr0, hbd⟩ : ∃ (t0 : ByteArray) (c0 m0 : Int) (r0 : Bool) (n0 : ByteArray), (foundB T (sl s1) k).rep = r0 ∧ ∀ x, bdV (foundB T (sl s1) k) x = .agg #[.string t0, .int .i64 c0, .int .i64 m0, .bool r0, .string n0, x] := ⟨_, _, _, _, _, rfl, fun _ => rfl⟩
          rw [hbd]
          have TA := (Turns.refl Nothing w7).alloc (.cells #[.string t0, .int .i64 c0, .int .i64 m0, .bool r0, .string n0, .slice vA Z.length vC] 34)
          have P8 := Lib.hid ((P6.out.still ht).still TA)
          have F8 := Lib.hid (show FoundAt w _ w7.heap.size (foundB T (sl s1) k) from ⟨(P6.out.still ht).low, t0, c0, m0, n0, vA, Z, vC, by rw [hr0]; exact Blk.new w7 34 #[.string t0, .int .i64 c0, .int .i64 m0, .bool r0, .string n0, .slice vA Z.length vC], by rw [hr0]; exact hbd, (hg.weak P6.out.low).still TA, hpz⟩)
          have HOK2 := Lib.hid (HP.out rootS (.inr rfl))
          clear x0 x1 xz k0 k1 kz HFD ht hg hpz TA hr0 hbd P6 HP
          generalize hfo : (Bx.find T (sl s1) k).isSome = ok at *
          have HFO := Lib.hid hfo
          clear hfo
          go_upto_region 6 with fail
          generalize w7.alloc (.cells #[.string t0, .int .i64 c0, .int .i64 m0, .bool r0, .string n0, .slice vA Z.length vC] 34) = w8 at *
          generalize w7.heap.size = b7 at *
          obtain ⟨x0, x1, xf0, xf1, xz⟩ := two_cells P8.out.st
          clear xf0 xf1
          go_cut [63] (fun s63 wx => s63 = .bool ((!ok && u1 != 0) && s1.toList != [114, 111, 111, 116]) ∧ wx = w8)
          case first =>
            cases ok
            · by_cases hu : u1 = 0
              · subst hu
                go_wp2_with fail
                go_meet
                exact ⟨rfl, rfl⟩
              · have d1 : (u1 != 0) = true := by simpa using hu
                go_wp2_with fail
                go_meet
                simp [bne, hu]
            · go_wp2_with fail
              go_meet
              exact ⟨rfl, rfl⟩
          case rest =>
            obtain ⟨rfl, hw⟩ := hcut
            subst hw
            generalize ((!ok && u1 != 0) && s1.toList != [114, 111, 111, 116]) = q6 at *
            go_upto_if 63 with fail
            go_cut [18] (fun s18 wx => ∃ s2 u2, s18 = .bool (Bx.find T (sl s2) k).isSome ∧ PM w wx k pk s2 u2 ∧ Bx.press2 T (sl s1, u1) k = (sl s2, u2) ∧ FoundAt w wx b7 (foundB T (sl s2) k))
            case first =>
              cases q6
              · go_wp2_with fail
                go_meet
                exact ⟨s1, u1, by rw [HFO.out], P8.out, H2.out, F8.out⟩
              · have P9 := Lib.hid (P8.out.set_ ⟨#[114, 111, 111, 116]⟩ 0)
                obtain ⟨t9, c9, m9, n9, A9, Z9, cp9, hb9, -⟩ := F8.out.ex
                have hlow := F8.out.low
                have hB9 := (hb9.far (p := ⟨w.heap.size, 0, none⟩) (by show b7 ≠ w.heap.size; omega) (.string ⟨#[114, 111, 111, 116]⟩)).far (p := ⟨w.heap.size, 1, none⟩) (by show b7 ≠ w.heap.size; omega) (.int .i64 0)
                have xf0 := P8.out.st.frozen 0
                have xf1 := P8.out.st.frozen 1
                go_upto_region 8 with fail
                clear x0 x1 xz xf0 xf1 hb9
                generalize (wc.setCell ⟨w.heap.size, 0, none⟩ (.string ⟨#[114, 111, 111, 116]⟩)).setCell ⟨w.heap.size, 1, none⟩ (.int .i64 0) = w9 at *
                obtain ⟨x0, x1, xf0, xf1, xz⟩ := two_cells P9.out.st
                obtain ⟨k0, k1, kf0, kf1, kz⟩ := two_cells P9.out.ky
                rw [hkc] at k0
                rw [hkm] at k1
                have B9 := Lib.hid hB9
                have HFD := Lib.hid (tfind_in (HT.out _ P9.out.turns) ⟨#[114, 111, 111, 116]⟩ k HOK2.out)
                rw [hkc, hkm] at HFD
                clear xf0 xf1 kf0 kf1 hB9
                go_wp2_with fail
                refine HFD.out.mono ?_
                rintro e w10 ⟨v, rfl, ⟨gv, Z, rfl, hg, hpz⟩, ht⟩
                obtain ⟨vA, vC, rfl⟩ := own_slice hg.outer
                obtain ⟨t0, c0, m0, r0, n0, hr0, hbd⟩ : ∃ (t0 : ByteArray) (c0 m0 : Int) (r0 : Bool) (n0 : ByteArray), (foundB T (sl ⟨#[114, 111, 111, 116]⟩) k).rep = r0 ∧ ∀ x, bdV (foundB T (sl ⟨#[114, 111, 111, 116]⟩) k) x = .agg #[.string t0, .int .i64 c0, .int .i64 m0, .bool r0, .string n0, x] := ⟨_, _, _, _, _, rfl, fun _ => rfl⟩
                rw [hbd]
                have P10 := Lib.hid (P9.out.still ht)
                have B10 := Lib.hid (ht.blk B9.out id)
                have HG10 := Lib.hid (And.intro hg (And.intro hpz (And.intro B9.out.lt (And.intro P9.out.low (And.intro hr0 hbd)))))
                clear ht hg hpz hr0 hbd x0 x1 xz k0 k1 kz HFD
                obtain ⟨y0, y1, y2, y3, y4, y5, yf, yz⟩ := bd_cells B10.out
                have f0 := yf 0
                have f1 := yf 1
                have f2 := yf 2
                have f3 := yf 3
                have f4 := yf 4
                have f5 := yf 5
                clear yf
                go_wp2_with fail
                go_meet
                have T6 := turns_six (S := Only b7) (Turns.refl _ w10) (.inl rfl) (.string t0) (.int .i64 c0) (.int .i64 m0) (.bool r0) (.string n0) (.slice vA Z.length vC)
                refine ⟨⟨#[114, 111, 111, 116]⟩, 0, rfl, P10.out.turn hlow T6, H2.out, hlow, t0, c0, m0, n0, vA, Z, vC, ?_, ?_, ?_, HG10.out.2.1⟩
                · rw [HG10.out.2.2.2.2.1]
                  exact set_six B10.out _ _ _ _ _ _
                · rw [HG10.out.2.2.2.2.1]
                  exact HG10.out.2.2.2.2.2
                · exact (HG10.out.1.keep T6 fun b e => by
                    have e : b = b7 := e
                    have := HG10.out.2.2.1
                    omega).weak HG10.out.2.2.2.1
            case rest =>
              obtain ⟨s2, u2, rfl, hP2, hS2, hF2⟩ := hcut
              rw [hS2] at HR
              have PP := Lib.hid hP2
              have FF := Lib.hid hF2
              clear hP2 hS2 hF2 H2 P8 F8 HFO x0 x1 xz q6
              generalize hfo : (Bx.find T (sl s2) k).isSome = ok2 at *
              have HFO := Lib.hid hfo
              clear hfo
              generalize hfd : foundB T (sl s2) k = fd at *
              have HFF := Lib.hid hfd
              clear hfd
              obtain ⟨x0, x1, xf0, xf1, xz⟩ := two_cells PP.out.st
              obtain ⟨k0, k1, kf0, kf1, kz⟩ := two_cells PP.out.ky
              obtain ⟨p0, p1, pf0, pf1, pz⟩ := two_cells PP.out.pk
              rw [hkc] at k0
              rw [hkm] at k1
              rw [hpc] at p0
              rw [hpm] at p1
              clear xf0 xf1 kf0 kf1 pf0 pf1
              generalize wc = w11 at *
              have hpa : Bx.pressA T cp (sl s2, u2) k now pk rep = if ((s2.toList == [114, 111, 111, 116]) || cp) && decide (k = pk) then (3, zeroBd, prefS, 0)
                  else if ok2 && cp then (2, fd, sl s2, u2)
                  else if ok2 && !(s2.toList == [114, 111, 111, 116]) && fd.rep && decide (0 < rep) then (2, fd, sl s2, now + rep)
                  else if ok2 then (2, fd, [], 0)
                  else if (s2.toList == [114, 111, 111, 116]) then (1, zeroBd, [], 0)
                  else if cp then (4, zeroBd, sl s2, u2)
                  else (4, zeroBd, [], 0) := by
                rw [txt_list, ← HFO.out, ← HFF.out]
                rfl
              rw [hpa] at HR
              have hke : decide (k = pk) = (decide (kc = pc) && decide (km = pm)) := by
                rw [← hkc, ← hkm, ← hpc, ← hpm]
                cases k
                cases pk
                simp
              rw [hke] at HR
              clear hpa hke HFO HFF
              go_upto_region 10 with fail
              generalize (s2.toList == [114, 111, 111, 116]) = rt at *
              obtain ⟨g1, hg1⟩ : ∃ g1, g1 = decide (kc = pc) := ⟨_, rfl⟩
              obtain ⟨g2, hg2⟩ : ∃ g2, g2 = decide (km = pm) := ⟨_, rfl⟩
              have b1 : (kc == pc) = g1 := by rw [hg1]; rfl
              have b2 : (km == pm) = g2 := by rw [hg2]; rfl
              have HG1 := Lib.hid hg1
              have HG2 := Lib.hid hg2
              clear hg1 hg2
              rw [← HG1.out, ← HG2.out] at HR
              go_cut [76] (fun s76 wx => s76 = .bool ((rt || cp) && (g1 && g2)) ∧ wx = w11)
              case first =>
                cases g1 <;> cases g2 <;> cases rt <;> cases cp
                all_goals
                  go_wp2_with fail
                  go_meet
                  exact ⟨rfl, rfl⟩
              case rest =>
                obtain ⟨rfl, hw⟩ := hcut
                subst hw
                generalize ((rt || cp) && (g1 && g2)) = q10 at *
                obtain ⟨r0, r1, r2, r3, r4, r5, rf, rz⟩ := bd_cells PP.out.res
                obtain ⟨y0, y1, yf0, yf1, yz⟩ := two_cells PP.out.rst
                have f0 := rf 0
                have f1 := rf 1
                have f2 := rf 2
                have f3 := rf 3
                have f4 := rf 4
                have f5 := rf 5
                clear rf p0 p1 pz k0 k1 kz
                obtain ⟨bt, bc, bm, bn, bA, Z, bcp, hb, hbd, hbg, hbp⟩ := FF.out.ex
                have hlow := FF.out.low
                obtain ⟨v0, v1, v2, v3, v4, v5, vf, vz⟩ := bd_cells hb
                have HBD := Lib.hid hbd
                have HBG := Lib.hid (And.intro hbg hbp)
                generalize fd.rep = fr at *
                clear vf hbd hbg hbp hb
                cases q10
                · rw [if_neg (by decide)] at HR
                  cases ok2
                  · cases rt
                    · cases cp
                      · go_wp2_with fail
                        obtain ⟨z1, z2, z3⟩ := res_blk PP.out (.string ⟨#[]⟩) (.int .i64 0) (.int .i64 0) (.bool false) (.string ⟨#[]⟩) (.slice none 0 0) (.string ⟨#[]⟩) (.int .i64 0)
                        refine bodyPost_ret (results_three Tryz.results12 _ _ _ ⟨w.heap.size + 3, 0, none⟩ ⟨w.heap.size + 4, 0, none⟩ _ _ rfl rfl (load_bd _ _ _ _ _ _ _ _ z1) (load_state _ _ _ _ z2)) rfl ?_
                        exact press_end (b := zeroBd) (s := ⟨#[]⟩) (gv := .slice none 0 0) (Z := []) PP.out HR.out z3 (GAt.nil _ _) rfl
                      · skip
                        go_upto_region 21 with fail
                        go_region
                        all_goals
                          go_wp2_with fail
                          obtain ⟨z1, z2, z3⟩ := res_blk PP.out (.string ⟨#[]⟩) (.int .i64 0) (.int .i64 0) (.bool false) (.string ⟨#[]⟩) (.slice none 0 0) (.string s2) (.int .i64 u2)
                          refine bodyPost_ret (results_three Tryz.results12 _ _ _ ⟨w.heap.size + 3, 0, none⟩ ⟨w.heap.size + 4, 0, none⟩ _ _ rfl rfl (load_bd _ _ _ _ _ _ _ _ (z1.drewN 1)) (load_state _ _ _ _ (z2.drewN 1))) rfl ?_
                          exact press_end (b := zeroBd) (s := s2) (gv := .slice none 0 0) (Z := []) PP.out HR.out (z3.drewN 1) (GAt.nil _ _) rfl
                    · cases cp
                      all_goals
                        go_wp2_with fail
                        obtain ⟨z1, z2, z3⟩ := res_blk PP.out (.string ⟨#[]⟩) (.int .i64 0) (.int .i64 0) (.bool false) (.string ⟨#[]⟩) (.slice none 0 0) (.string ⟨#[]⟩) (.int .i64 0)
                        refine bodyPost_ret (results_three Tryz.results12 _ _ _ ⟨w.heap.size + 3, 0, none⟩ ⟨w.heap.size + 4, 0, none⟩ _ _ rfl rfl (load_bd _ _ _ _ _ _ _ _ z1) (load_state _ _ _ _ z2)) rfl ?_
                        exact press_end (b := zeroBd) (s := ⟨#[]⟩) (gv := .slice none 0 0) (Z := []) PP.out HR.out z3 (GAt.nil _ _) rfl
                  · cases cp
                    · cases rt
                      · cases fr
                        · skip
                          go_upto_region 17 with fail
                          go_region
                          all_goals
                            go_wp2_with fail
                            obtain ⟨z1, z2, z3⟩ := res_blk PP.out (.string bt) (.int .i64 bc) (.int .i64 bm) (.bool false) (.string bn) (.slice bA Z.length bcp) (.string ⟨#[]⟩) (.int .i64 0)
                            refine bodyPost_ret (results_three Tryz.results12 _ _ _ ⟨w.heap.size + 3, 0, none⟩ ⟨w.heap.size + 4, 0, none⟩ _ _ rfl rfl (load_bd _ _ _ _ _ _ _ _ (z1.drewN 1)) (load_state _ _ _ _ (z2.drewN 1))) rfl ?_
                            rw [← HBD.out]
                            exact press_end (b := fd) (s := ⟨#[]⟩) (Z := Z) PP.out HR.out (z3.drewN 1) HBG.out.1 HBG.out.2
                        · by_cases hrp : 0 < rep
                          · have d1 : decide (0 < rep) = true := decide_eq_true hrp
                            rw [d1] at HR
                            have hnr1 := HNR.out.1
                            have hnr2 := HNR.out.2
                            go_upto_region 15 with fail
                            go_region
                            all_goals
                              go_wp2_with fail
                              obtain ⟨z1, z2, z3⟩ := res_blk PP.out (.string bt) (.int .i64 bc) (.int .i64 bm) (.bool true) (.string bn) (.slice bA Z.length bcp) (.string s2) (.int .i64 (now + rep))
                              refine bodyPost_ret (results_three Tryz.results12 _ _ _ ⟨w.heap.size + 3, 0, none⟩ ⟨w.heap.size + 4, 0, none⟩ _ _ rfl rfl (load_bd _ _ _ _ _ _ _ _ (z1.drewN 1)) (load_state _ _ _ _ (z2.drewN 1))) rfl ?_
                              rw [← HBD.out]
                              exact press_end (b := fd) (s := s2) (Z := Z) PP.out HR.out (z3.drewN 1) HBG.out.1 HBG.out.2
                          · have d1 : decide (0 < rep) = false := decide_eq_false hrp
                            rw [d1] at HR
                            go_upto_region 17 with fail
                            go_region
                            all_goals
                              go_wp2_with fail
                              obtain ⟨z1, z2, z3⟩ := res_blk PP.out (.string bt) (.int .i64 bc) (.int .i64 bm) (.bool true) (.string bn) (.slice bA Z.length bcp) (.string ⟨#[]⟩) (.int .i64 0)
                              refine bodyPost_ret (results_three Tryz.results12 _ _ _ ⟨w.heap.size + 3, 0, none⟩ ⟨w.heap.size + 4, 0, none⟩ _ _ rfl rfl (load_bd _ _ _ _ _ _ _ _ (z1.drewN 1)) (load_state _ _ _ _ (z2.drewN 1))) rfl ?_
                              rw [← HBD.out]
                              exact press_end (b := fd) (s := ⟨#[]⟩) (Z := Z) PP.out HR.out (z3.drewN 1) HBG.out.1 HBG.out.2
                      · skip
                        go_upto_region 17 with fail
                        go_region
                        all_goals
                          go_wp2_with fail
                          obtain ⟨z1, z2, z3⟩ := res_blk PP.out (.string bt) (.int .i64 bc) (.int .i64 bm) (.bool fr) (.string bn) (.slice bA Z.length bcp) (.string ⟨#[]⟩) (.int .i64 0)
                          refine bodyPost_ret (results_three Tryz.results12 _ _ _ ⟨w.heap.size + 3, 0, none⟩ ⟨w.heap.size + 4, 0, none⟩ _ _ rfl rfl (load_bd _ _ _ _ _ _ _ _ (z1.drewN 1)) (load_state _ _ _ _ (z2.drewN 1))) rfl ?_
                          rw [← HBD.out]
                          exact press_end (b := fd) (s := ⟨#[]⟩) (Z := Z) PP.out HR.out (z3.drewN 1) HBG.out.1 HBG.out.2
                    · skip
                      go_upto_region 13 with fail
                      go_region
                      all_goals
                        go_wp2_with fail
                        obtain ⟨z1, z2, z3⟩ := res_blk PP.out (.string bt) (.int .i64 bc) (.int .i64 bm) (.bool fr) (.string bn) (.slice bA Z.length bcp) (.string s2) (.int .i64 u2)
                        refine bodyPost_ret (results_three Tryz.results12 _ _ _ ⟨w.heap.size + 3, 0, none⟩ ⟨w.heap.size + 4, 0, none⟩ _ _ rfl rfl (load_bd _ _ _ _ _ _ _ _ (z1.drewN 1)) (load_state _ _ _ _ (z2.drewN 1))) rfl ?_
                        rw [← HBD.out]
                        exact press_end (b := fd) (s := s2) (Z := Z) PP.out HR.out (z3.drewN 1) HBG.out.1 HBG.out.2
                · rw [if_pos rfl] at HR
                  go_wp2_with fail
                  obtain ⟨z1, z2, z3⟩ := res_blk PP.out (.string ⟨#[]⟩) (.int .i64 0) (.int .i64 0) (.bool false) (.string ⟨#[]⟩) (.slice none 0 0) (.string ⟨#[112, 114, 101, 102, 105, 120]⟩) (.int .i64 0)
                  refine bodyPost_ret (results_three Tryz.results12 _ _ _ ⟨w.heap.size + 3, 0, none⟩ ⟨w.heap.size + 4, 0, none⟩ _ _ rfl rfl (load_bd _ _ _ _ _ _ _ _ z1) (load_state _ _ _ _ z2)) rfl ?_
                  exact press_end (b := zeroBd) (gv := .slice none 0 0) (Z := []) PP.out HR.out z3 (GAt.nil _ _) rfl
end Go.Proofs.YtiopaenonjhlnaaGreatDoor
