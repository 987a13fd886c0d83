/- Package bind: the table of bindings in memory. Package bind: Find, walked. -/
import Derived.Test.YtiopaenonjhlnaaGreatDoorBindBare
import Derived.Test.YtiopaenonjhlnaaGreatDoorKeyName
import Derived.Test.YtiopaenonjhlnaaGreatDoorBindMap
import Derived.DeepKeys4
import Derived.Maps.RangeWalk
import Derived.Deep.RegionHeld3
namespace Go.Proofs.YtiopaenonjhlnaaGreatDoor
set_option maxRecDepth 8000
open Go.RowKit
open Lx (Bytes)
open Go.Maps (Keyed)

theorem A.laidOut : laidOutB Tryz.prog = true := by kernel_rfl
theorem A.row_place : (78 : TypeId) < Tryz.prog.types.size := of_decide_eq_true (by kernel_rfl)
theorem A.wide_place : (match Tryz.prog.underlying 78 with | some (.array _ _) | some (.struct _) => true | _ => false) = true := by rw [Tryz.underlying78]
theorem A.place_law : Keyed Tryz.prog 78 := Keyed.of_law (deep_law_laid A.laidOut (m := 4) (by omega) A.row_place (by kernel_rfl) A.wide_place)
theorem A.place_type : Tryz.prog.keyType 78 = true := by kernel_rfl
theorem A.place_cells : Tryz.prog.cellsOf 78 = 3 ∧ Tryz.prog.cellsOf 23 = 2 ∧ Tryz.prog.cellsOf 9 = 1 ∧ Tryz.prog.cellsOf 3 = 1 := ⟨by kernel_rfl, by kernel_rfl, by kernel_rfl, by kernel_rfl⟩
theorem A.place_key (s : ByteArray) (c m : Int) (hs : s.size ≤ maxLen) (hc : (Lit.int .i64 c).wf = true) (hm : (Lit.int .i64 m).wf = true) : ∃ l, keyOf Tryz.prog 78 (.agg #[.string s, .int .i64 c, .int .i64 m]) = some l := by
  obtain ⟨n, hn⟩ : ∃ n, Tryz.prog.types.size = n + 3 := ⟨Tryz.prog.types.size - 3, by have : (78 : Nat) < Tryz.prog.types.size := A.row_place; omega⟩
  obtain ⟨c1, c2, c3, c4⟩ := A.place_cells
  unfold keyOf
  rw [Tryz.underlying78]
  dsimp only
  rw [A.place_type, hn]
  simp [Value.formed, Value.cells, Tryz.underlying78, c1, Program.keyLits, Tryz.underlying23, Tryz.underlying9, Tryz.underlying3, c2, c3, c4, hs, hc, hm]
  rw [if_pos (by decide)]
  exact ⟨_, rfl⟩
def okP (p : Bx.Pl) : Prop := p.1.length ≤ maxLen ∧ (Lit.int .i64 p.2.code).wf = true ∧ (Lit.int .i64 p.2.mods).wf = true
noncomputable def keyP (p : Bx.Pl) : Lit := (keyOf Tryz.prog 78 (Bx.placeV p)).getD (.bool false)
theorem keyP_of {p : Bx.Pl} (h : okP p) : keyOf Tryz.prog 78 (Bx.placeV p) = some (keyP p) := by
  obtain ⟨l, hl⟩ := A.place_key ⟨p.1.toArray⟩ p.2.code p.2.mods (by simpa [ByteArray.size] using h.1) h.2.1 h.2.2
  have hl2 : keyOf Tryz.prog 78 (Bx.placeV p) = some l := hl
  rw [keyP, hl2]
  rfl
theorem A.keyFn : Bx.KeyFn okP keyP where
  inj {p q} hp hq e := by
    have h1 := keyP_of hp
    have h2 := keyP_of hq
    rw [← e] at h2
    have h3 := A.place_law.inj h1 h2
    simp only [Bx.placeV, Value.agg.injEq, Array.mk.injEq, List.cons.injEq, Value.string.injEq, Value.int.injEq, true_and, and_true] at h3
    obtain ⟨t1, k1⟩ := p
    obtain ⟨t2, k2⟩ := q
    obtain ⟨c1, m1⟩ := k1
    obtain ⟨c2, m2⟩ := k2
    obtain ⟨h4, h5, h6⟩ := h3
    have h7 : t1 = t2 := by simpa using congrArg (fun b : ByteArray => b.data.toList) h4
    simp only at h5 h6
    subst h5 h6 h7
    rfl
  lit {p} hp := A.place_law.key (keyP_of hp)
/-- a binding's cells -/
structure BdC where
  t : ByteArray
  c : Int
  m : Int
  r : Bool
  n : ByteArray
  A : Option Addr
  k : Nat
  p : Nat
def bdcV (x : BdC) : Value := .agg #[.string x.t, .int .i64 x.c, .int .i64 x.m, .bool x.r, .string x.n, .slice x.A x.k x.p]
def isBd : Value → Bool
  | .agg ⟨[.string _, .int .i64 _, .int .i64 _, .bool _, .string _, .slice _ _ _]⟩ => true
  | _ => false
/-- an element, as it stands -/
def elemR : Value → Option (DataW Value × List MemPlace) := fun v => if isBd v then some (.held v, []) else none
theorem elemR_inv {v : Value} {y : DataW Value × List MemPlace} (h : elemR v = some y) : (∃ x, v = bdcV x) ∧ y = (.held v, []) := by
  unfold elemR at h
  split at h
  · rename_i hb
    injection h with h
    refine ⟨?_, h.symm⟩
    unfold isBd at hb
    split at hb
    · exact ⟨⟨_, _, _, _, _, _, _, _⟩, rfl⟩
    · cases hb
  · cases h
theorem elemR_mk (x : BdC) : elemR (bdcV x) = some (.held (bdcV x), []) := rfl
theorem lits_str {N : Nat} {a : Value} {x : List Lit} (h : Tryz.prog.keyLits (N + 1) 9 [a] = some x) : ∃ s : ByteArray, a = .string s ∧ s.size ≤ maxLen := by
  unfold Program.keyLits at h
  rw [Tryz.underlying9] at h
  cases a <;> simp at h
  exact ⟨_, rfl, h.1⟩
theorem lits_int {N : Nat} {a : Value} {x : List Lit} (h : Tryz.prog.keyLits (N + 1) 3 [a] = some x) : ∃ n : Int, a = .int .i64 n ∧ (Lit.int .i64 n).wf = true := by
  unfold Program.keyLits at h
  rw [Tryz.underlying3] at h
  cases a <;> simp at h
  obtain ⟨⟨rfl, h1⟩, -⟩ := h
  exact ⟨_, rfl, h1⟩
theorem lits_key {N : Nat} {a b : Value} {x : List Lit} (h : Tryz.prog.keyLits (N + 1 + 1) 23 [a, b] = some x) : ∃ c m : Int, a = .int .i64 c ∧ b = .int .i64 m ∧ (Lit.int .i64 c).wf = true ∧ (Lit.int .i64 m).wf = true := by
  obtain ⟨c1, c2, c3, c4⟩ := A.place_cells
  unfold Program.keyLits at h
  rw [Tryz.underlying23] at h
  generalize hK : N + 1 = K at h
  cases h1 : Tryz.prog.keyLits K 3 [a] with
  | none => simp [c2, c4, h1] at h
  | some y1 =>
    cases h2 : Tryz.prog.keyLits K 3 [b] with
    | none => simp [c2, c4, h1, h2] at h
    | some y2 =>
      obtain ⟨c, rfl, hc⟩ := lits_int (N := N) (by rw [hK]; exact h1)
      obtain ⟨m, rfl, hm⟩ := lits_int (N := N) (by rw [hK]; exact h2)
      exact ⟨c, m, rfl, rfl, hc, hm⟩
theorem lits_place {N : Nat} {a b d : Value} {x : List Lit} (h : Tryz.prog.keyLits (N + 1) 78 [a, b, d] = some x) : (∃ y, Tryz.prog.keyLits N 9 [a] = some y) ∧ ∃ y, Tryz.prog.keyLits N 23 [b, d] = some y := by
  obtain ⟨c1, c2, c3, c4⟩ := A.place_cells
  unfold Program.keyLits at h
  rw [Tryz.underlying78] at h
  cases h1 : Tryz.prog.keyLits N 9 [a] with
  | none => simp [c1, c2, c3, h1] at h
  | some y1 =>
    cases h2 : Tryz.prog.keyLits N 23 [b, d] with
    | none => simp [c1, c2, c3, h1, h2] at h
    | some y2 => exact ⟨⟨_, rfl⟩, _, rfl⟩
theorem place_inv {key : Value} {kl : Lit} (h : keyOf Tryz.prog 78 key = some kl) : ∃ (t : ByteArray) (c m : Int), key = .agg #[.string t, .int .i64 c, .int .i64 m] ∧ okP (sl t, ⟨c, m⟩) := by
  obtain ⟨n, hn⟩ : ∃ n, Tryz.prog.types.size = n + 2 := ⟨Tryz.prog.types.size - 2, by have : (78 : Nat) < Tryz.prog.types.size := A.row_place; omega⟩
  obtain ⟨c1, c2, c3, c4⟩ := A.place_cells
  unfold keyOf at h
  rw [Tryz.underlying78] at h
  dsimp only at h
  rw [A.place_type, hn] at h
  cases hc : key.formed Tryz.prog 78 with
  | false => rw [hc] at h; simp at h
  | true =>
    rw [hc] at h
    cases key with
    | agg cs =>
      obtain ⟨l⟩ := cs
      have hl : l.length = 3 := by simpa [Value.formed, Tryz.underlying78, c1] using hc
      match l, hl with
      | [a, b, d], _ =>
        simp only [Bool.and_self, if_true, Option.map_eq_some_iff] at h
        obtain ⟨x, hx, -⟩ := h
        obtain ⟨⟨y1, h1⟩, y2, h2⟩ := lits_place (N := n + 2) hx
        obtain ⟨s, rfl, hs⟩ := lits_str h1
        obtain ⟨c, m, rfl, rfl, hc1, hc2⟩ := lits_key h2
        exact ⟨s, c, m, rfl, by rw [sl_size]; exact hs, hc1, hc2⟩
    | _ => simp [Value.formed, Tryz.underlying78] at hc
def bdV (b : Bx.Bd) (gv : Value) : Value := .agg #[strV b.table, .int .i64 b.key.code, .int .i64 b.key.mods, .bool b.rep, strV b.note, gv]
def zeroBd : Bx.Bd := ⟨[], ⟨0, 0⟩, false, [], []⟩
def zeroB : Value := bdV zeroBd (.slice none 0 0)
theorem A.zero_bd (w : World) : (zeroValue 34).run Tryz.prog w = .ok zeroB w := by kernel_rfl
/-- commands that the walks may take -/
def FitL (G : List (List Px.Cmd)) : Prop := G.length ≤ 1000000 ∧ ∀ g ∈ G, g.length ≤ 1000000 ∧ ∀ c ∈ g, c.flags.length ≤ 1000000 ∧ c.args.length ≤ 1000000
theorem FitL.bare {Z : List (Value × List CQ)} (h : FitL (plainG Z)) : BareFit Z := by
  obtain ⟨h1, h2⟩ := h
  refine ⟨by simp [plainG] at h1; omega, fun z hz => ?_⟩
  have h3 := h2 (z.2.map (·.1)) (List.mem_map.2 ⟨z, hz, rfl⟩)
  refine ⟨by have := h3.1; rw [List.length_map] at this; omega, fun q hq => ?_⟩
  have := h3.2 q.1 (List.mem_map.2 ⟨q, hq, rfl⟩)
  omega
theorem FitL.strip {G : List (List Px.Cmd)} (h : FitL G) : FitL (Px.stripG G) := by
  obtain ⟨h1, h2⟩ := h
  refine ⟨by simpa [Px.stripG] using h1, fun g hg => ?_⟩
  obtain ⟨g0, hg0, rfl⟩ := List.mem_map.1 hg
  have h3 := h2 g0 hg0
  refine ⟨by simpa using h3.1, fun c hc => ?_⟩
  obtain ⟨c0, hc0, rfl⟩ := List.mem_map.1 hc
  exact h3.2 c0 hc0
/-- a binding that may stand in a table -/
structure GoodB (b : Bx.Bd) : Prop where
  name : Bx.nameOk b.table = true
  key : Bx.right b.key = true
  note : b.note.length ≤ 64
  list : FitL b.list
  bare : Px.stripG b.list = b.list
theorem name_len {s : Bytes} (h : Bx.nameOk s = true) : s.length ≤ 64 := by
  simp only [Bx.nameOk, Bool.and_eq_true, decide_eq_true_eq] at h
  exact h.1.2
theorem wf_i64 {x : Int} (h : -9223372036854775808 ≤ x ∧ x ≤ 9223372036854775807) : (Lit.int .i64 x).wf = true := by
  unfold Lit.wf
  rw [Bool.and_eq_true, decide_eq_true_eq, decide_eq_true_eq]
  exact h
theorem named_range {c : Int} (h : Bx.named c ≠ []) : 0 ≤ c ∧ c ≤ 1114143 := by
  by_cases h1 : c = 9 ∨ c = 13 ∨ c = 32 ∨ c = 127 ∨ (1114112 ≤ c ∧ c < 1114143)
  · omega
  · have h2 := named_rune (c := c) ⟨fun e => h1 (.inl e), fun e => h1 (.inr (.inl e)), fun e => h1 (.inr (.inr (.inl e))), fun e => h1 (.inr (.inr (.inr (.inl e)))), fun e => h1 (.inr (.inr (.inr (.inr e))))⟩
    by_cases h3 : 32 < c ∧ c ≤ 1114111 ∧ Lib.validRune c = true ∧ 0 < widthP c
    · omega
    · rw [h2, if_neg h3] at h
      exact absurd rfl h
theorem right_range {k : Bx.Ky} (h : Bx.right k = true) : (0 ≤ k.code ∧ k.code ≤ 1114143) ∧ 0 ≤ k.mods ∧ k.mods ≤ 7 := by
  obtain ⟨c, m⟩ := k
  have h8 := right_mods h
  rw [right_is] at h
  by_cases hb : Bx.named c = [] ∨ m < 0 ∨ 7 < m
  · rw [if_pos hb] at h; cases h
  · exact ⟨named_range fun e => hb (.inl e), by simp only; omega⟩
theorem GoodB.ok {b : Bx.Bd} (h : GoodB b) : okP (Bx.place b) := by
  have h1 := name_len h.name
  have h2 := right_range h.key
  exact ⟨by show b.table.length ≤ maxLen; simp only [maxLen]; omega, wf_i64 (by have := h2.1; show _ ≤ b.key.code ∧ b.key.code ≤ _; omega), wf_i64 (by have := h2.2; show _ ≤ b.key.mods ∧ b.key.mods ≤ _; omega)⟩
/-- what the map holds -/
structure MapIs (w : World) (M : Nat) (m : List Bx.BV) (D : DataW Value) : Prop where
  own : w.ownsMap Tryz.prog 78 elemR M m.length D
  agree : Bx.Agree okP keyP D m
  apart : Bx.Apart m
  size : Maps.size D = m.length
/-- the table, in a map -/
structure TabM (w : World) (M : Nat) (T : List Bx.Bd) (m : List Bx.BV) (D : DataW Value) : Prop where
  map : MapIs w M m D
  perm : (m.map (·.1)).Perm T
  sorted : Bx.Sorted T
  good : ∀ b ∈ T, GoodB b
  each : ∀ x ∈ m, ∃ gv Z, x.2 = bdV x.1 gv ∧ GAt w (M + 1) gv Z ∧ plainG Z = x.1.list
  few : T.length ≤ 500
/-- the table, behind its pointer -/
structure TabAt (w : World) (P M : Nat) (T : List Bx.Bd) : Prop where
  ptr : Blk w P 60 #[.map (some M)]
  tab : ∃ m D, TabM w M T m D
section
variable {w w' : World} {P M : Nat} {T : List Bx.Bd} {m : List Bx.BV} {D : DataW Value}
theorem own_kept {n : Nat} (h : w.ownsMap Tryz.prog 78 elemR M n D) (hb : w'.heap[M]? = w.heap[M]?) : w'.ownsMap Tryz.prog 78 elemR M n D := by
  obtain ⟨es, clock, h1, h2⟩ := h
  exact ⟨es, clock, hb.trans h1, h2⟩
theorem MapIs.lt (h : MapIs w M m D) : M < w.heap.size := h.own.lt
theorem TabM.still (h : TabM w M T m D) (ht : Turns Nothing w w') : TabM w' M T m D :=
  ⟨⟨own_kept h.map.own (ht.block M h.map.lt id), h.map.agree, h.map.apart, h.map.size⟩, h.perm, h.sorted, h.good, fun x hx => by
    obtain ⟨gv, Z, h1, h2, h3⟩ := h.each x hx
    exact ⟨gv, Z, h1, h2.still ht, h3⟩, h.few⟩
theorem TabAt.still (h : TabAt w P M T) (ht : Turns Nothing w w') : TabAt w' P M T := by
  obtain ⟨m, D, hm⟩ := h.tab
  exact ⟨ht.blk h.ptr id, m, D, hm.still ht⟩
theorem TabM.mem (h : TabM w M T m D) {x : Bx.BV} (hx : x ∈ m) : x.1 ∈ T := h.perm.mem_iff.1 (List.mem_map.2 ⟨x, hx, rfl⟩)
theorem TabM.ok (h : TabM w M T m D) {x : Bx.BV} (hx : x ∈ m) : okP (Bx.bvP x) := (h.good _ (h.mem hx)).ok
theorem place_uniq : ∀ {T : List Bx.Bd}, (T.Pairwise fun a b => Bx.place a ≠ Bx.place b) → ∀ {b b' : Bx.Bd}, b ∈ T → b' ∈ T → Bx.place b = Bx.place b' → b = b'
  | y :: T, h, b, b', hb, hb', e => by
    obtain ⟨h1, h2⟩ := List.pairwise_cons.1 h
    rcases List.mem_cons.1 hb with q | q
    · rcases List.mem_cons.1 hb' with r | r
      · rw [q, r]
      · subst q
        exact absurd e (h1 _ r)
    · rcases List.mem_cons.1 hb' with r | r
      · subst r
        exact absurd e.symm (h1 _ q)
      · exact place_uniq h2 q r e
theorem find_some {t : Bytes} {k : Bx.Ky} {b : Bx.Bd} (hs : Bx.Sorted T) : Bx.find T t k = some b ↔ b ∈ T ∧ Bx.place b = (t, k) := by
  constructor
  · intro h
    exact ⟨List.mem_of_find?_eq_some h, Bx.same_iff.1 (List.find?_some h)⟩
  · rintro ⟨h1, h2⟩
    cases hf : Bx.find T t k with
    | none => exact absurd h2 (Bx.find_none.1 hf b h1)
    | some b' =>
      have h3 := List.mem_of_find?_eq_some hf
      have h4 := Bx.same_iff.1 (List.find?_some hf)
      rw [place_uniq (Bx.sorted_place hs) h1 h3 (h2.trans h4.symm)]
theorem TabM.get (h : TabM w M T m D) (t : Bytes) (k : Bx.Ky) : Bx.find T t k = (Bx.getV m (t, k)).map (·.1) := by
  cases hg : Bx.getV m (t, k) with
  | none =>
    rw [Bx.getV_none] at hg
    rw [Option.map_none, Bx.find_none]
    intro b hb e
    obtain ⟨x, hx, rfl⟩ := List.mem_map.1 (h.perm.mem_iff.2 hb)
    exact hg x hx e
  | some x =>
    obtain ⟨h1, h2⟩ := (Bx.getV_mem h.map.apart).1 hg
    exact (find_some h.sorted).2 ⟨h.mem h1, h2⟩
/-- what is looked up -/
def Looked (w : World) (M : Nat) (T : List Bx.Bd) (t : Bytes) (k : Bx.Ky) (v : Value) : Prop := match Bx.find T t k with
  | some b => ∃ gv Z, v = bdV b gv ∧ GAt w (M + 1) gv Z ∧ plainG Z = b.list
  | none => v = zeroB
def lookV (m : List Bx.BV) (t : Bytes) (k : Bx.Ky) : Value := ((Bx.getV m (t, k)).map (·.2)).getD zeroB
theorem TabM.looked (h : TabM w M T m D) (t : Bytes) (k : Bx.Ky) : Looked w M T t k (lookV m t k) := by
  unfold Looked lookV
  rw [h.get t k]
  cases hg : Bx.getV m (t, k) with
  | none => rfl
  | some x =>
    obtain ⟨hx, -⟩ := (Bx.getV_mem h.map.apart).1 hg
    exact h.each x hx
theorem TabM.look (h : TabM w M T m D) {t : Bytes} {k : Bx.Ky} (hp : okP (t, k)) :
    (Instr.lookup 58 (.map (some M)) (Bx.placeV (t, k)) true).run Tryz.prog w = .ok (.tuple #[lookV m t k, .bool (Bx.find T t k).isSome]) w := by
  obtain ⟨v, ps, hrun, hv⟩ := h.map.own.look_ok A.place_law Tryz.underlying58 (A.zero_bd w) (zd := .held zeroB) (zp := []) rfl (keyP_of hp)
  obtain ⟨h1, h2⟩ := h.map.agree (t, k) hp
  have hfe := h.get t k
  have hv2 : DataW.held v = D.atKey (keyP (t, k)) (.held zeroB) := by
    have h3 := (elemR_inv hv).2
    exact (congrArg Prod.fst h3).symm
  have hvv : v = lookV m t k := by
    unfold lookV
    cases hg : Bx.getV m (t, k) with
    | none =>
      rw [hg] at h1
      rw [Maps.atKey_of_not_has h1] at hv2
      injection hv2
    | some x =>
      rw [h2 x hg] at hv2
      injection hv2
  rw [hrun, h1, hfe, Option.isSome_map, hvv]
end
end Go.Proofs.YtiopaenonjhlnaaGreatDoor
namespace Go.Proofs.YtiopaenonjhlnaaGreatDoor
set_option maxRecDepth 8000
open Go.RowKit
open Lx (Bytes)

/-- what is found; nothing: the empty binding -/
def foundB (T : List Bx.Bd) (t : Bytes) (k : Bx.Ky) : Bx.Bd := (Bx.find T t k).getD zeroBd
/-- a binding in memory, its commands above B -/
def BdAt (w : World) (B : Nat) (v : Value) (b : Bx.Bd) : Prop := ∃ gv Z, v = bdV b gv ∧ GAt w B gv Z ∧ plainG Z = b.list
theorem BdAt.still {w w' : World} {B : Nat} {v : Value} {b : Bx.Bd} (h : BdAt w B v b) (ht : Turns Nothing w w') : BdAt w' B v b := by
  obtain ⟨gv, Z, h1, h2, h3⟩ := h
  exact ⟨gv, Z, h1, h2.still ht, h3⟩
theorem BdAt.weak {w : World} {B B' : Nat} {v : Value} {b : Bx.Bd} (h : BdAt w B v b) (hB : B' ≤ B) : BdAt w B' v b := by
  obtain ⟨gv, Z, h1, h2, h3⟩ := h
  exact ⟨gv, Z, h1, h2.weak hB, h3⟩
theorem Looked.at_ {w : World} {M : Nat} {T : List Bx.Bd} {t : Bytes} {k : Bx.Ky} {v : Value} (h : Looked w M T t k v) : BdAt w (M + 1) v (foundB T t k) := by
  unfold Looked at h
  unfold foundB
  cases hf : Bx.find T t k with
  | some b => rw [hf] at h; exact h
  | none => rw [hf] at h; exact ⟨_, [], h, GAt.nil _ _, rfl⟩
theorem found_fit {T : List Bx.Bd} (hs : Bx.Sorted T) (hg : ∀ b ∈ T, GoodB b) (t : Bytes) (k : Bx.Ky) : FitL (foundB T t k).list ∧ Px.stripG (foundB T t k).list = (foundB T t k).list := by
  unfold foundB
  cases hf : Bx.find T t k with
  | some b =>
    have := hg b ((find_some hs).1 hf).1
    exact ⟨this.list, this.bare⟩
  | none => exact ⟨⟨Nat.zero_le _, fun g hg => (List.not_mem_nil hg).elim⟩, rfl⟩
theorem tab_drew {w : World} {P M : Nat} {T : List Bx.Bd} (h : TabAt w P M T) (n : Nat) : TabAt (w.drewN n) P M T := h.still ((Turns.refl _ w).drewN n)
theorem load_bd (w : World) (g : Nat) (v0 v1 v2 v3 v4 v5 : Value) (h : Blk w g 34 #[v0, v1, v2, v3, v4, v5]) : (loadVar 34 ⟨g, 0, none⟩).run Tryz.prog w = .ok (.agg #[v0, v1, v2, v3, v4, v5]) w := by
  have d0 := h.cell 0
  have d1 := h.cell 1
  have d2 := h.cell 2
  have d3 := h.cell 3
  have d4 := h.cell 4
  have d5 := h.cell 5
  clear h
  simp at d0 d1 d2 d3 d4 d5
  simp [go_sem, d0, d1, d2, d3, d4, d5]
theorem bd_cells {w : World} {b : Nat} {v0 v1 v2 v3 v4 v5 : Value} (h : Blk w b 34 #[v0, v1, v2, v3, v4, v5]) : w.cell? ⟨b, 0, none⟩ = some v0 ∧ w.cell? ⟨b, 1, none⟩ = some v1 ∧ w.cell? ⟨b, 2, none⟩ = some v2 ∧ w.cell? ⟨b, 3, none⟩ = some v3 ∧ w.cell? ⟨b, 4, none⟩ = some v4 ∧ w.cell? ⟨b, 5, none⟩ = some v5 ∧ (∀ i, w.frozen? ⟨b, i, none⟩ = false) ∧ b < w.heap.size :=
  ⟨h.cell 0, h.cell 1, h.cell 2, h.cell 3, h.cell 4, h.cell 5, fun i => h.frozen i, h.lt⟩
theorem set_six {w : World} {b : Nat} {t : TypeId} {a0 a1 a2 a3 a4 a5 : Value} (h : Blk w b t #[a0, a1, a2, a3, a4, a5]) (v0 v1 v2 v3 v4 v5 : Value) :
    Blk ((((((w.setCell ⟨b, 0, none⟩ v0).setCell ⟨b, 1, none⟩ v1).setCell ⟨b, 2, none⟩ v2).setCell ⟨b, 3, none⟩ v3).setCell ⟨b, 4, none⟩ v4).setCell ⟨b, 5, none⟩ v5) b t #[v0, v1, v2, v3, v4, v5] :=
  (((((h.set_ 0 v0).set_ 1 v1).set_ 2 v2).set_ 3 v3).set_ 4 v4).set_ 5 v5
theorem turns_six {w0 w : World} {b : Nat} {S : Nat → Prop} (ht : Turns S w0 w) (hb : S b ∨ w0.heap.size ≤ b) (v0 v1 v2 v3 v4 v5 : Value) :
    Turns S w0 ((((((w.setCell ⟨b, 0, none⟩ v0).setCell ⟨b, 1, none⟩ v1).setCell ⟨b, 2, none⟩ v2).setCell ⟨b, 3, none⟩ v3).setCell ⟨b, 4, none⟩ v4).setCell ⟨b, 5, none⟩ v5) :=
  (((((ht.setCell hb v0).setCell hb v1).setCell hb v2).setCell hb v3).setCell hb v4).setCell hb v5
set_option maxHeartbeats 4000000 in
theorem tfind_in {w : World} {P M : Nat} {T : List Bx.Bd} (h : TabAt w P M T) (t : ByteArray) (k : Bx.Ky) (hp : okP (sl t, k)) :
    Calls Tryz.prog 8 #[.pointer (some ⟨P, 0, none⟩), .string t, .agg #[.int .i64 k.code, .int .i64 k.mods]] w fun e w' => ∃ v, e = .returned (.tuple #[v, .bool (Bx.find T (sl t) k).isSome]) ∧ BdAt w' w.heap.size v (foundB T (sl t) k) ∧ Turns Nothing w w' := by
  obtain ⟨c, m⟩ := k
  obtain ⟨mm, D, hm⟩ := h.tab
  have HM := Lib.hid hm
  have hlk := fun W (ht : Turns Nothing w W) => (hm.still ht).look hp
  have hpv : Bx.placeV (sl t, ⟨c, m⟩) = .agg #[.string t, .int .i64 c, .int .i64 m] := rfl
  simp only [hpv] at hlk
  have HPT := Lib.hid h.ptr
  have hlooked := (hm.looked (sl t) ⟨c, m⟩).at_
  have HFF := Lib.hid (found_fit hm.sorted hm.good (sl t) ⟨c, m⟩)
  dsimp only
  generalize (Bx.find T (sl t) ⟨c, m⟩).isSome = fb at hlk ⊢
  generalize lookV mm (sl t) ⟨c, m⟩ = v0 at hlk hlooked
  generalize foundB T (sl t) ⟨c, m⟩ = fd at hlooked HFF ⊢
  obtain ⟨gv, Z, rfl, hg, hpg⟩ := hlooked
  have HGZ := Lib.hid (And.intro hg hpg)
  obtain ⟨vA, vC, rfl⟩ := own_slice hg.outer
  obtain ⟨vN, hvN⟩ : ∃ n, n = Z.length := ⟨_, rfl⟩
  rw [← hvN] at hlk HGZ
  have HVD := Lib.hid (show ∀ x, bdV fd x = .agg #[.string ⟨fd.table.toArray⟩, .int .i64 fd.key.code, .int .i64 fd.key.mods, .bool fd.rep, .string ⟨fd.note.toArray⟩, x] from fun _ => rfl)
  rw [HVD.out] at hlk
  generalize (⟨fd.table.toArray⟩ : ByteArray) = vt at hlk HVD
  generalize fd.key.code = vc at hlk HVD
  generalize fd.key.mods = vm at hlk HVD
  generalize fd.rep = vr at hlk HVD
  generalize (⟨fd.note.toArray⟩ : ByteArray) = vn at hlk HVD
  have B1 := Lib.hid ((Blk.new w 23 #[.int .i64 c, .int .i64 m]).alloc (.cells #[.string ⟨#[]⟩, .int .i64 0, .int .i64 0, .bool false, .string ⟨#[]⟩, .slice none 0 0] 34))
  have B2 := Lib.hid (Blk.new (w.alloc (.cells #[.int .i64 c, .int .i64 m] 23)) 34 #[.string ⟨#[]⟩, .int .i64 0, .int .i64 0, .bool false, .string ⟨#[]⟩, .slice none 0 0])
  have T2 := Lib.hid (((Turns.refl Nothing w).alloc (.cells #[.int .i64 c, .int .i64 m] 23)).alloc (.cells #[.string ⟨#[]⟩, .int .i64 0, .int .i64 0, .bool false, .string ⟨#[]⟩, .slice none 0 0] 34))
  rw [show (w.alloc (.cells #[.int .i64 c, .int .i64 m] 23)).heap.size = w.heap.size + 1 by simp [go_sem]] at B2
  clear h hm hpv hg hpg hvN
  have HLK2 := Lib.hid hlk
  clear hlk
  go_enter Tryz.func8, Tryz.ntmps8
  go_wp2_with fail
  generalize (w.alloc (.cells #[.int .i64 c, .int .i64 m] 23)).alloc (.cells #[.string ⟨#[]⟩, .int .i64 0, .int .i64 0, .bool false, .string ⟨#[]⟩, .slice none 0 0] 34) = w2 at *
  have HS := Lib.hid (fun W (ht : Turns Nothing w2 W) => show W.cell? ⟨P, 0, none⟩ = some (.map (some M)) ∧ W.cell? ⟨w.heap.size, 0, none⟩ = some (.int .i64 c) ∧ W.cell? ⟨w.heap.size, 1, none⟩ = some (.int .i64 m) ∧ (Instr.lookup 58 (.map (some M)) (.agg #[.string t, .int .i64 c, .int .i64 m]) true).run Tryz.prog W = .ok (.tuple #[.agg #[.string vt, .int .i64 vc, .int .i64 vm, .bool vr, .string vn, .slice vA vN vC], .bool fb]) W ∧ Turns Nothing w2 W from
    ⟨((T2.out.same ht).blk HPT.out id).cell 0, (ht.blk B1.out id).cell 0, (ht.blk B1.out id).cell 1, HLK2.out W (T2.out.same ht), ht⟩)
  have hw2 : w.heap.size + 1 < w2.heap.size := B2.out.lt
  go_cut [8, 9] (fun s8 s9 wx => s8 = .pointer (some ⟨w2.heap.size, 0, none⟩) ∧ s9 = .bool fb ∧ Blk wx w2.heap.size 34 #[.string vt, .int .i64 vc, .int .i64 vm, .bool vr, .string vn, .slice vA vN vC] ∧ Turns Nothing w2 wx)
  case first =>
    obtain ⟨x0, x1, x2, x3, x4⟩ := HS.out w2.drew ((Turns.refl _ w2).drewN 1)
    go_region_held3 (fun W => W.cell? ⟨P, 0, none⟩ = some (.map (some M)) ∧ W.cell? ⟨w.heap.size, 0, none⟩ = some (.int .i64 c) ∧ W.cell? ⟨w.heap.size, 1, none⟩ = some (.int .i64 m) ∧ (Instr.lookup 58 (.map (some M)) (.agg #[.string t, .int .i64 c, .int .i64 m]) true).run Tryz.prog W = .ok (.tuple #[.agg #[.string vt, .int .i64 vc, .int .i64 vm, .bool vr, .string vn, .slice vA vN vC], .bool fb]) W ∧ Turns Nothing w2 W)
      (first
        | (go_split_ands; exact HS.out _ (Turns.alloc (by assumption) _))
        | exact HS.out _ (by assumption)
        | exact HS.out _ (((Turns.refl _ w2).alloc _).drewN 1)
        | go_keep)
      (fail)
    all_goals
      go_wp2_with fail
      go_meet
      exact ⟨rfl, rfl, (Blk.new w2 34 #[.string vt, .int .i64 vc, .int .i64 vm, .bool vr, .string vn, .slice vA vN vC]).drewN 1, ((Turns.refl Nothing w2).alloc _).drewN 1⟩
  case rest =>
    obtain ⟨rfl, rfl, hB3, hT3⟩ := hcut
    have B3 := Lib.hid hB3
    have T3 := Lib.hid hT3
    clear hB3 hT3 HS HLK2
    generalize wc = w3 at B3 T3 ⊢
    obtain ⟨x0, x1, x2, x3, x4, x5, xf, xz⟩ := bd_cells B3.out
    go_wp2_with fail
    refine (bare_in (w := w3) (Z := Z) ((HGZ.out.1.still (T2.out.same T3.out)).rd) (FitL.bare (by rw [HGZ.out.2]; exact HFF.out.1))).mono ?_
    rintro e w4 ⟨gv', Z', rfl, hg', hp', ht⟩
    obtain ⟨A', c', rfl⟩ := own_slice hg'.outer
    have B4 := Lib.hid (ht.blk B3.out id)
    have R4 := Lib.hid (ht.blk (T3.out.blk B2.out id) id)
    have T4 := Lib.hid (T3.out.same ht)
    have HG4 := Lib.hid (And.intro hg' hp')
    clear x0 x1 x2 x3 x4 x5 xf xz ht hg' hp'
    obtain ⟨x0, x1, x2, x3, x4, x5, xf, xz⟩ := bd_cells B4.out
    obtain ⟨y0, y1, y2, y3, y4, y5, yf, yz⟩ := bd_cells R4.out
    have g0 := yf 0
    have g1 := yf 1
    have g2 := yf 2
    have g3 := yf 3
    have g4 := yf 4
    have g5 := yf 5
    have f5 := xf 5
    clear yf xf
    go_wp2_with fail
    have HF := set_six ((R4.out.far (p := ⟨w2.heap.size, 5, none⟩) (by simp; omega) (.slice A' Z'.length c'))) (.string vt) (.int .i64 vc) (.int .i64 vm) (.bool vr) (.string vn) (.slice A' Z'.length c')
    refine bodyPost_ret (results_cell_tmp Tryz.results8 _ _ _ ⟨w.heap.size + 1, 0, none⟩ _ rfl (load_bd _ _ _ _ _ _ _ _ HF)) rfl ?_
    have hTT : Turns Nothing w w4 := T2.out.same T4.out
    refine ⟨_, rfl, ⟨.slice A' Z'.length c', Z', (HVD.out _).symm, ?_, ?_⟩, ?_⟩
    · refine (HG4.out.1.keep (S := fun b => b = w2.heap.size ∨ b = w.heap.size + 1) ?_ fun b e => ?_).weak (Nat.le_trans T2.out.size T3.out.size)
      · exact turns_six ((Turns.refl _ w4).setCell (p := ⟨w2.heap.size, 5, none⟩) (.inl (.inl rfl)) _) (.inl (.inr rfl)) _ _ _ _ _ _
      · have h1 := B3.out.lt
        rcases e with e | e <;> omega
    · rw [HG4.out.2, HGZ.out.2, HFF.out.2]
    · exact turns_six (hTT.setCell (p := ⟨w2.heap.size, 5, none⟩) (.inr T2.out.size) _) (.inr (Nat.le_succ _)) _ _ _ _ _ _
end Go.Proofs.YtiopaenonjhlnaaGreatDoor
