/- Package bind: the texts of the beginning, parsed. Package bind: Read, walked: a bind-key command with -T, without -n and -N. -/
import Derived.Test.YtiopaenonjhlnaaGreatDoorBindPure
import Derived.Test.YtiopaenonjhlnaaGreatDoorParseOneP
import Derived.Test.YtiopaenonjhlnaaGreatDoorBindFind
import Derived.Test.YtiopaenonjhlnaaGreatDoorBindPrint
import Derived.Test.YtiopaenonjhlnaaGreatDoorKeyParse
namespace Go.Proofs.YtiopaenonjhlnaaGreatDoor
set_option maxRecDepth 8000
open Go.RowKit
open Lx (Bytes)

namespace Px
theorem each_all : ∀ (ts : List (List Bytes)) (g : Nat) (L : List Lx.Ln), Lx.GLines g L (ts.map fun t => [t]) → L.length = ts.length ∧ ∀ l ∈ L, ∃ t ∈ ts, l.1.map (·.text) = t ∧ ∀ x ∈ l.1, x.block = false
  | [], g, L, h => by
    cases h
    exact ⟨rfl, fun _ hl => (List.not_mem_nil hl).elim⟩
  | t :: ts, g, _, h => by
    cases h with
    | @cons _ L M _ _ h hne tl =>
      obtain ⟨h1, h2⟩ := each_all ts (g + 1) M tl
      have ht := h.texts
      have hll : L.length = 1 := by
        have := congrArg List.length ht
        simpa using this
      refine ⟨by rw [List.length_append, hll, h1, List.length_cons]; omega, fun l hl => ?_⟩
      rcases List.mem_append.1 hl with hl | hl
      · match L, ht, hl with
        | [x], ht, hl =>
          have e : l = x := by simpa using hl
          subst e
          simp only [List.map_cons, List.map_nil, List.cons.injEq, and_true] at ht
          exact ⟨t, by simp, ht, (h.each l (by simp)).2⟩
      · obtain ⟨t', ht', h3⟩ := h2 l hl
        exact ⟨t', List.mem_cons_of_mem _ ht', h3⟩
end Px
theorem small_of {t : List Bytes} (h : (!t.isEmpty && t.all (fun x => decide (x.length ≤ 8192)) && decide (t.length ≤ 256)) = true) : Lx.Small t := by
  simp only [Bool.and_eq_true, Bool.not_eq_true', decide_eq_true_eq, List.all_eq_true, List.isEmpty_eq_false_iff] at h
  exact ⟨h.1.1, fun x hx => h.1.2 x hx, h.2⟩
theorem fit_texts {l : List Lx.W} {t : List Bytes} (e : l.map (·.text) = t) (hs : Lx.Small t) : l ≠ [] ∧ l.length ≤ 256 ∧ ∀ x ∈ l, x.text.length ≤ maxLen := by
  obtain ⟨s1, s2, s3⟩ := hs
  rw [← e, List.length_map] at s3
  exact ⟨fun e0 => s1 (by rw [← e, e0]; rfl), s3, fun x hx => Nat.le_trans (s2 x.text (by rw [← e]; exact List.mem_map.2 ⟨x, hx, rfl⟩)) (by decide)⟩
set_option maxRecDepth 100000 in
theorem first_small : (Bx.firstW.all fun t => !t.isEmpty && t.all (fun x => decide (x.length ≤ 8192)) && decide (t.length ≤ 256)) = true := by decide +kernel
set_option maxRecDepth 100000 in
theorem first_sum : ((Bx.firstW.map fun t => [t]).map (·.length)).sum ≤ 1000 := by decide +kernel
set_option maxRecDepth 100000 in
theorem first_len : Bx.firstT.length ≤ 65536 := by decide +kernel
theorem first_parse : ∃ L G', Lx.split [] Bx.firstT = .ok L ∧ Fit L ∧ NoDir (L.map Px.ofLn) [] ∧ Px.parse nilX [] Bx.firstT = .ok G' ∧ Px.stripG G' = Bx.firstW.map fun t => [Px.cmdT t] := by
  have hsm : ∀ t ∈ Bx.firstW, Lx.Small t := fun t ht => small_of (List.all_eq_true.1 first_small t ht)
  have hgd : ∀ t ∈ Bx.firstW, Px.goodT t = true := fun t ht => List.all_eq_true.1 Bx.first_good t ht
  obtain ⟨L, h1, h2⟩ := Lx.split_groups (env := []) (gs := Bx.firstW.map fun t => [t]) (fun c hc => by
    obtain ⟨t, ht, rfl⟩ := List.mem_map.1 hc
    exact ⟨by simp, fun x hx => by rw [List.mem_singleton.1 hx]; exact hsm t ht⟩) first_sum (by rw [Bx.first_is]; exact first_len)
  rw [Bx.first_is] at h2
  obtain ⟨G', h3, h4⟩ := Px.parse_each (X := nilX) Bx.firstW 1 0 L [] h1 (by decide) hgd
  obtain ⟨h5, h6⟩ := Px.each_all Bx.firstW 1 L h1
  refine ⟨L, G', h2, ⟨by rw [h5]; decide +kernel, fun l hl => ?_⟩, ⟨rfl, fun l hl => ?_⟩, ?_, h3⟩
  · obtain ⟨t, ht, e, -⟩ := h6 l hl
    exact fit_texts e (hsm t ht)
  · obtain ⟨l', hl', rfl⟩ := List.mem_map.1 hl
    obtain ⟨t, ht, e, hb⟩ := h6 l' hl'
    exact (Px.good_words (l := (Px.ofLn l').1) (t := t) (by rw [Px.ofLn_texts]; exact e) (fun x hx => by
      simp only [Px.ofLn] at hx
      obtain ⟨y, hy, rfl⟩ := List.mem_map.1 hx
      exact hb y hy) (hgd t ht)).1
  · rw [Px.parse, h2]
    exact h4
theorem parse_text {w : World} (hsp : Space w) {u : ByteArray} {s : Bytes} {G' : List (List Px.Cmd)} {L : List Lx.Ln} (hu : sl u = s) (h1 : Lx.split [] s = .ok L) (h2 : Fit L) (h3 : NoDir (L.map Px.ofLn) []) (h4 : Px.parse nilX [] s = .ok G') :
    Calls Tryz.prog 9 #[.string u, .agg #[.slice none 0 0, .slice none 0 0], .slice none 0 0] w fun e w' => ∃ Ag c Z, e = .returned (.tuple #[.agg #[.slice Ag Z.length c], .int .i64 0, .int .i64 0]) ∧ GroupsAt w' w.heap.size (.slice Ag Z.length c) Z ∧ plainG Z = G' ∧ Turns Nothing w w' := by
  have h := parse_in (s := u) hsp (no_env w _) nilX NoDir (nodir_inv (.slice none 0 0) (.slice none 0 0) nilX) (fun L' hL => by
    have e : Lx.split [] (sl u) = .ok L' := hL
    rw [hu, h1] at e
    injection e with e
    subst e
    exact ⟨h2, h3⟩)
  rw [hu, show envOf [] = [] from rfl, h4] at h
  refine h.mono ?_
  rintro e w' ⟨ht, gv, Z, rfl, hg, hp⟩
  obtain ⟨A, c, rfl⟩ := own_slice hg.outer
  exact ⟨A, c, Z, rfl, hg, hp, ht⟩
/-- one command's text, parsed -/
theorem parse_one {w : World} (hsp : Space w) {u : ByteArray} {t : List Bytes} (hu : sl u = Lx.cat t) (hs : Lx.Small t) (hl : (Lx.cat t).length ≤ 65536) (hg : Px.goodT t = true) :
    Calls Tryz.prog 9 #[.string u, .agg #[.slice none 0 0, .slice none 0 0], .slice none 0 0] w fun e w' => ∃ Ag c Z, e = .returned (.tuple #[.agg #[.slice Ag Z.length c], .int .i64 0, .int .i64 0]) ∧ GroupsAt w' w.heap.size (.slice Ag Z.length c) Z ∧ Px.stripG (plainG Z) = [[Px.cmdT t]] ∧ Turns Nothing w w' := by
  obtain ⟨L, c, h1, ⟨l, rfl, e, hd⟩, h2, h3⟩ := Px.parse_cat (X := nilX) hs hl hg
  refine (parse_text hsp hu h1 ⟨by simp, fun x hx => ?_⟩ ⟨rfl, fun x hx => ?_⟩ h2).mono ?_
  · rw [List.mem_singleton.1 hx]
    exact fit_texts e hs
  · simp only [List.map_cons, List.map_nil, List.mem_singleton] at hx
    rw [hx]
    exact hd
  · rintro e w' ⟨Ag, cp, Z, rfl, hG, hp, ht⟩
    refine ⟨Ag, cp, Z, rfl, hG, ?_, ht⟩
    rw [hp, ← h3]
    rfl
end Go.Proofs.YtiopaenonjhlnaaGreatDoor
namespace Go.Proofs.YtiopaenonjhlnaaGreatDoor
set_option maxRecDepth 8000
open Go.RowKit
open Lx (Bytes)

def bkName : Bytes := [98, 105, 110, 100, 45, 107, 101, 121]
/-- the commands that are read: those of the beginning -/
structure ReadFit (c : Px.Cmd) (a0 : Bytes) (rest : List Bytes) (tb : Bytes) (k : Bx.Ky) : Prop where
  name : c.name = bkName
  args : c.args = a0 :: rest
  ne : rest ≠ []
  few : c.args.length ≤ 256
  key : Bx.parseKey a0 = some k
  asc : a0 ≠ [] ∧ ∀ x ∈ a0, x.toNat < 128
  len : a0.length ≤ 8192
  n : Px.at_ c.flags 110 = none
  t : Px.at_ c.flags 84 = some tb
  note : Px.at_ c.flags 78 = none
  small : Lx.Small rest
  cat : (Lx.cat rest).length ≤ 65536
  cost : Lx.cost rest ≤ 3200000
  good : Px.goodT rest = true
  fit : FitL [[Px.cmdT rest]]
  two : rest.length = 1 → rest.headD [] = Lx.cat rest
def readB (c : Px.Cmd) (rest : List Bytes) (tb : Bytes) (k : Bx.Ky) : Bx.Bd := ⟨tb, k, (Px.at_ c.flags 114).isSome, [], [[Px.cmdT rest]]⟩
theorem FitL.unstrip {G : List (List Px.Cmd)} (h : FitL (Px.stripG G)) : FitL G := by
  refine ⟨by have := h.1; simpa [Px.stripG] using this, fun g hg => ?_⟩
  obtain ⟨h1, h2⟩ := h.2 (g.map Px.strip) (List.mem_map.2 ⟨g, hg, rfl⟩)
  exact ⟨by simpa using h1, fun c hc => h2 (Px.strip c) (List.mem_map.2 ⟨c, hc, rfl⟩)⟩
theorem dec_all {w : World} {a0 : Bytes} (h : a0 ≠ [] ∧ ∀ x ∈ a0, x.toNat < 128) (t : ByteArray) (h1 : sl t = [] → a0 = []) (h2 : sl t <:+ a0) : Dec w t := by
  have hne : sl t ≠ [] := fun e => h.1 (h1 e)
  have h0 : 0 < t.size := by
    rw [← sl_size]
    exact List.length_pos_iff.2 hne
  refine Dec.ascii h0 (h.2 _ (h2.subset ?_))
  exact List.getElem_mem (by rw [sl_size]; exact h0)
/-- within Read: the command's box, the result's cells, the binding's cells -/
structure RM (w wx : World) (p : Nat) (X C : Array Value) : Prop where
  box : Blk wx w.heap.size 57 X
  res : Blk wx (w.heap.size + 1) 34 #[.string ⟨#[]⟩, .int .i64 0, .int .i64 0, .bool false, .string ⟨#[]⟩, .slice none 0 0]
  bd : Blk wx p 34 C
  low : w.heap.size + 2 ≤ p
  turns : Turns Nothing w wx
theorem RM.still {w wx w' : World} {p : Nat} {X C : Array Value} (h : RM w wx p X C) (ht : Turns Nothing wx w') : RM w w' p X C :=
  ⟨ht.blk h.box id, ht.blk h.res id, ht.blk h.bd id, h.low, h.turns.same ht⟩
theorem RM.put {w wx : World} {p : Nat} {X C : Array Value} (h : RM w wx p X C) (i : Nat) (v : Value) : RM w (wx.setCell ⟨p, i, none⟩ v) p X (C.setIfInBounds i v) :=
  ⟨h.box.far (p := ⟨p, i, none⟩) (by have := h.low; show w.heap.size ≠ p; omega) v, h.res.far (p := ⟨p, i, none⟩) (by have := h.low; show w.heap.size + 1 ≠ p; omega) v, h.bd.set_ i v, h.low, h.turns.setCell (.inr (by have := h.low; show w.heap.size ≤ p; omega)) v⟩
theorem RM.made {w wx : World} {X : Array Value} (h1 : Blk wx w.heap.size 57 X) (h2 : Blk wx (w.heap.size + 1) 34 #[.string ⟨#[]⟩, .int .i64 0, .int .i64 0, .bool false, .string ⟨#[]⟩, .slice none 0 0]) (ht : Turns Nothing w wx) (C : Array Value) :
    RM w (wx.alloc (.cells C 34)) wx.heap.size X C :=
  ⟨h1.alloc _, h2.alloc _, Blk.new wx _ _, h2.lt, ht.alloc _⟩
theorem RM.six {w wx : World} {p : Nat} {X : Array Value} {a0 a1 a2 a3 a4 a5 : Value} (h : RM w wx p X #[a0, a1, a2, a3, a4, a5]) (v0 v1 v2 v3 v4 v5 : Value) :
    RM w ((((((wx.setCell ⟨p, 0, none⟩ v0).setCell ⟨p, 1, none⟩ v1).setCell ⟨p, 2, none⟩ v2).setCell ⟨p, 3, none⟩ v3).setCell ⟨p, 4, none⟩ v4).setCell ⟨p, 5, none⟩ v5) p X #[v0, v1, v2, v3, v4, v5] :=
  (((((h.put 0 v0).put 1 v1).put 2 v2).put 3 v3).put 4 v4).put 5 v5
theorem rbox_cells {w : World} {b : Nat} {u0 u1 u2 u3 : Value} (h : Blk w b 57 #[u0, u1, u2, u3]) : w.cell? ⟨b, 0, none⟩ = some u0 ∧ w.cell? ⟨b, 1, none⟩ = some u1 ∧ w.cell? ⟨b, 2, none⟩ = some u2 ∧ w.cell? ⟨b, 3, none⟩ = some u3 ∧ b < w.heap.size := ⟨h.cell 0, h.cell 1, h.cell 2, h.cell 3, h.lt⟩
set_option maxHeartbeats 8000000 in
theorem tread_in {w : World} (hsp : Space w) {c : Px.Cmd} {a0 tb : Bytes} {rest : List Bytes} {k : Bx.Ky} (hr : ReadFit c a0 rest tb k) {fv av : Value} {B : Nat} (hf : FlagsAt w fv c.flags) (ha : w.ownsRow B 9 1 av c.args.length (c.args.map strV)) :
    Calls Tryz.prog 15 #[.agg #[strV c.name, fv, av, .int .i64 c.line]] w fun e w' => ∃ gv Z, e = .returned (.tuple #[bdV (readB c rest tb k) gv, .int .i64 0]) ∧ GAt w' w.heap.size gv Z ∧ plainG Z = [[Px.cmdT rest]] ∧ Turns Nothing w w' := by
  have HSP := Lib.hid (fun W (ht : Turns Nothing w W) => hsp.still ht)
  have HRF := Lib.hid hr
  have hal : c.args.length = rest.length + 1 := by rw [hr.args]; rfl
  have hrl : 0 < rest.length := List.length_pos_iff.2 hr.ne
  have h256 := hr.few
  rcases ha.2 with ⟨e, h0⟩ | ⟨g, cap, cur, rfl, hbase, hg, hcap, hmx, -⟩
  · omega
  have hc0 : w.cell? ⟨g, 0, none⟩ = some (strV a0) := by
    rw [ha.cellAt 0 (by omega), hr.args]
    rfl
  have hc1 : ∀ i, (hi : i < rest.length) → w.cell? ⟨g, 1 + i, none⟩ = some (strV rest[i]) := fun i hi => by
    rw [ha.cellAt (1 + i) (by omega), hr.args, Nat.add_comm 1 i]
    simp [hi]
  have hgz : g < w.heap.size := (Array.getElem?_eq_some_iff.1 hg).1
  have HC := Lib.hid (And.intro hc0 (And.intro hc1 hgz))
  obtain ⟨fA, fc, rfl, -⟩ := hf.at_
  have HFL := Lib.hid hf
  have hnm : strV c.name = .string ⟨#[98, 105, 110, 100, 45, 107, 101, 121]⟩ := by rw [hr.name]; rfl
  rw [hnm]
  have hne0 : ((c.args.length : Int) == 0) = false := by rw [beq_eq_false_iff_ne]; omega
  have HVR := Lib.hid (fun W (ht : Turns Nothing w W) => has_of (nm := ⟨#[98, 105, 110, 100, 45, 107, 101, 121]⟩) (line := c.line) 114 (hf.still ht) ⟨some ⟨g, 0, none⟩, c.args.length, cap, rfl⟩)
  have HVN := Lib.hid (fun W (ht : Turns Nothing w W) => has_of (nm := ⟨#[98, 105, 110, 100, 45, 107, 101, 121]⟩) (line := c.line) 110 (hf.still ht) ⟨some ⟨g, 0, none⟩, c.args.length, cap, rfl⟩)
  have HVT := Lib.hid (fun W (ht : Turns Nothing w W) => value_of (nm := ⟨#[98, 105, 110, 100, 45, 107, 101, 121]⟩) (line := c.line) 84 (hf.still ht) ⟨some ⟨g, 0, none⟩, c.args.length, cap, rfl⟩)
  have HVO := Lib.hid (fun W (ht : Turns Nothing w W) => value_of (nm := ⟨#[98, 105, 110, 100, 45, 107, 101, 121]⟩) (line := c.line) 78 (hf.still ht) ⟨some ⟨g, 0, none⟩, c.args.length, cap, rfl⟩)
  rw [hr.n] at HVN
  rw [hr.t] at HVT
  rw [hr.note] at HVO
  simp only [Option.getD, Option.isSome] at HVN HVT HVO
  have HBD := Lib.hid (show ∀ x, bdV (readB c rest tb k) x = .agg #[.string ⟨tb.toArray⟩, .int .i64 k.code, .int .i64 k.mods, .bool (Px.at_ c.flags 114).isSome, .string ⟨#[]⟩, x] from fun _ => rfl)
  generalize (Px.at_ c.flags 114).isSome = rp at HVR HBD
  simp only [strV] at HVT HVO hc0
  have HKP := Lib.hid (fun W (ht : Turns Nothing w W) => kparse_in (HSP.out W ht) ⟨a0.toArray⟩ (by show (List.toArray _).size ≤ _; rw [List.size_toArray]; have := hr.len; omega) (fun t h1 h2 => dec_all hr.asc t h1 h2))
  rw [show sl ⟨a0.toArray⟩ = a0 from rfl, hr.key] at HKP
  simp only [kv] at HKP
  generalize (⟨a0.toArray⟩ : ByteArray) = u0 at HKP hc0
  generalize (⟨tb.toArray⟩ : ByteArray) = ut at HVT HBD
  have HC0 := Lib.hid hc0
  obtain ⟨kc, km⟩ := k
  dsimp only at HKP HBD
  generalize hN : c.args.length = N at *
  have BX := Lib.hid ((Blk.new w 57 #[.string ⟨#[98, 105, 110, 100, 45, 107, 101, 121]⟩, .slice fA c.flags.length fc, .slice (some ⟨g, 0, none⟩) N cap, .int .i64 c.line]).alloc (.cells #[.string ⟨#[]⟩, .int .i64 0, .int .i64 0, .bool false, .string ⟨#[]⟩, .slice none 0 0] 34))
  have BR := Lib.hid (Blk.new (w.alloc (.cells #[.string ⟨#[98, 105, 110, 100, 45, 107, 101, 121]⟩, .slice fA c.flags.length fc, .slice (some ⟨g, 0, none⟩) N cap, .int .i64 c.line] 57)) 34 #[.string ⟨#[]⟩, .int .i64 0, .int .i64 0, .bool false, .string ⟨#[]⟩, .slice none 0 0])
  rw [show (w.alloc (.cells #[.string ⟨#[98, 105, 110, 100, 45, 107, 101, 121]⟩, .slice fA c.flags.length fc, .slice (some ⟨g, 0, none⟩) N cap, .int .i64 c.line] 57)).heap.size = w.heap.size + 1 by simp [go_sem]] at BR
  have T2 := Lib.hid (((Turns.refl Nothing w).alloc (.cells #[.string ⟨#[98, 105, 110, 100, 45, 107, 101, 121]⟩, .slice fA c.flags.length fc, .slice (some ⟨g, 0, none⟩) N cap, .int .i64 c.line] 57)).alloc (.cells #[.string ⟨#[]⟩, .int .i64 0, .int .i64 0, .bool false, .string ⟨#[]⟩, .slice none 0 0] 34))
  have HAL := Lib.hid hal
  clear hr hf ha hg hc0 hc1 hnm hsp hal hN
  go_enter Tryz.func15, Tryz.ntmps15
  go_wp2_with fail
  refine (HVR.out _ T2.out).mono ?_
  rintro e w3 ⟨rfl, ht⟩
  have M4 := Lib.hid (RM.made (ht.blk BX.out id) (ht.blk BR.out id) (T2.out.same ht) #[.string ⟨#[112, 114, 101, 102, 105, 120]⟩, .int .i64 0, .int .i64 0, .bool rp, .string ⟨#[]⟩, .slice none 0 0])
  clear ht BX BR T2
  go_upto_region 4 with fail
  generalize w3.alloc (.cells #[.string ⟨#[112, 114, 101, 102, 105, 120]⟩, .int .i64 0, .int .i64 0, .bool rp, .string ⟨#[]⟩, .slice none 0 0] 34) = w4 at *
  generalize w3.heap.size = p at *
  obtain ⟨x0, x1, x2, x3, xz⟩ := rbox_cells M4.out.box
  go_wp2_with fail
  refine (HVN.out _ M4.out.turns).mono ?_
  rintro e w5 ⟨rfl, ht⟩
  have M5 := Lib.hid (M4.out.still ht)
  clear ht x0 x1 x2 x3 xz M4
  obtain ⟨x0, x1, x2, x3, xz⟩ := rbox_cells M5.out.box
  go_wp2_with fail
  refine (HVT.out _ M5.out.turns).mono ?_
  rintro e w6 ⟨rfl, ht⟩
  have M6 := Lib.hid (M5.out.still ht)
  clear ht x0 x1 x2 x3 xz M5
  have M7 := Lib.hid (show RM w _ p _ #[.string ut, .int .i64 0, .int .i64 0, .bool rp, .string ⟨#[]⟩, .slice none 0 0] from M6.out.put 0 (.string ut))
  obtain ⟨x0, x1, x2, x3, xz⟩ := rbox_cells M6.out.box
  obtain ⟨y0, y1, y2, y3, y4, y5, yf, yz⟩ := bd_cells M6.out.bd
  have f0 := yf 0
  clear yf
  go_upto_region 9 with fail
  clear x0 x1 x2 x3 xz y0 y1 y2 y3 y4 y5 f0 yz M6
  generalize w6.setCell ⟨p, 0, none⟩ (.string ut) = w7 at *
  obtain ⟨x0, x1, x2, x3, xz⟩ := rbox_cells M7.out.box
  go_wp2_with fail
  refine (HVO.out _ M7.out.turns).mono ?_
  rintro e w8 ⟨rfl, ht⟩
  have M8 := Lib.hid (M7.out.still ht)
  clear ht x0 x1 x2 x3 xz M7
  have M9 := Lib.hid (show RM w _ p _ #[.string ut, .int .i64 0, .int .i64 0, .bool rp, .string ⟨#[]⟩, .slice none 0 0] from M8.out.put 4 (.string ⟨#[]⟩))
  obtain ⟨x0, x1, x2, x3, xz⟩ := rbox_cells M8.out.box
  obtain ⟨y0, y1, y2, y3, y4, y5, yf, yz⟩ := bd_cells M8.out.bd
  have f4 := yf 4
  clear yf
  go_upto_region 10 with fail
  clear x0 x1 x2 x3 xz y0 y1 y2 y3 y4 y5 f4 yz M8
  generalize w8.setCell ⟨p, 4, none⟩ (.string ⟨#[]⟩) = w9 at *
  obtain ⟨x0, x1, x2, x3, xz⟩ := rbox_cells M9.out.box
  have c0 := (M9.out.turns.cell (p := ⟨g, 0, none⟩) hgz id).trans HC0.out
  have cz : g < w9.heap.size := Nat.lt_of_lt_of_le hgz M9.out.turns.size
  have hN0 : (0 : Int) < N := by have := HAL.out; omega
  go_wp2_with fail
  refine (HKP.out _ M9.out.turns).mono ?_
  rintro e w10 ⟨rfl, ht⟩
  have M11 := Lib.hid ((M9.out.still ht).still ((Turns.refl Nothing w10).alloc (.cells #[.int .i64 kc, .int .i64 km] 23)))
  have K10 := Lib.hid (Blk.new w10 23 #[.int .i64 kc, .int .i64 km])
  clear ht x0 x1 x2 x3 xz c0 cz M9
  go_upto_region 13 with fail
  generalize w10.alloc (.cells #[.int .i64 kc, .int .i64 km] 23) = w11 at *
  generalize w10.heap.size = q at *
  have M12 := Lib.hid (show RM w _ p _ #[.string ut, .int .i64 kc, .int .i64 km, .bool rp, .string ⟨#[]⟩, .slice none 0 0] from (M11.out.put 1 (.int .i64 kc)).put 2 (.int .i64 km))
  obtain ⟨x0, x1, x2, x3, xz⟩ := rbox_cells M11.out.box
  obtain ⟨y0, y1, y2, y3, y4, y5, yf, yz⟩ := bd_cells M11.out.bd
  obtain ⟨k0, k1, kf0, kf1, kz⟩ := key_cells K10.out
  have f1 := yf 1
  have f2 := yf 2
  clear yf
  go_upto_region 14 with fail
  clear x0 x1 x2 x3 xz y0 y1 y2 y3 y4 y5 yz f1 f2 k0 k1 kf0 kf1 kz K10 M11
  generalize (w11.setCell ⟨p, 1, none⟩ (.int .i64 kc)).setCell ⟨p, 2, none⟩ (.int .i64 km) = w12 at *
  obtain ⟨x0, x1, x2, x3, xz⟩ := rbox_cells M12.out.box
  have hN1 : (1 : Int) ≤ N := by omega
  have hNc : (N : Int) ≤ cap := by omega
  have hc1 : ¬ cap = 1 := by have := HAL.out; omega
  have HJ := Lib.hid (join_any (w := w12) (v := .slice (some ⟨g, 1, none⟩) (N - 1) (cap - 1)) (ls := rest.map fun s => ⟨s.toArray⟩)
    ⟨⟨_, _, by rw [List.length_map, show N - 1 = rest.length by have := HAL.out; omega], fun _ => ⟨g, 1, rfl, Nat.lt_of_lt_of_le hgz M12.out.turns.size, fun i hi => by
      have hi2 : i < rest.length := by simpa using hi
      rw [List.getElem_map]
      exact (M12.out.turns.cell (p := ⟨g, _, none⟩) hgz id).trans (HC.out.2.1 i hi2)⟩⟩, by rw [List.map_map]; simpa [Function.comp_def, sl] using HRF.out.cost⟩)
  rw [List.map_map, show sl ∘ (fun s : Bytes => (⟨s.toArray⟩ : ByteArray)) = id from rfl, List.map_id, ← cat_jn] at HJ
  go_wp2_with fail
  refine HJ.out.mono ?_
  rintro e w13 ⟨rfl, ht⟩
  have M13 := Lib.hid (M12.out.still ht)
  clear ht x0 x1 x2 x3 xz M12 HJ
  obtain ⟨x0, x1, x2, x3, xz⟩ := rbox_cells M13.out.box
  generalize hu1 : (⟨(Lx.cat rest).toArray⟩ : ByteArray) = u1
  have HU1 := Lib.hid (show sl u1 = Lx.cat rest by rw [← hu1]; rfl)
  clear hu1
  have c1 := (M13.out.turns.cell (p := ⟨g, 1 + 0, none⟩) hgz id).trans (HC.out.2.1 0 hrl)
  have cz : g < w13.heap.size := Nat.lt_of_lt_of_le hgz M13.out.turns.size
  simp only [Nat.add_zero, strV] at c1
  have HU2 := Lib.hid (fun (h : N = 2) => show sl ⟨(rest[0]).toArray⟩ = Lx.cat rest by
    have h1 : rest.length = 1 := by have := HAL.out; omega
    have h2 := HRF.out.two h1
    rw [← h2]
    match rest, h1 with
    | [x], _ => rfl)
  generalize (⟨(rest[0]).toArray⟩ : ByteArray) = u2 at HU2 c1
  have hcase : ((N : Int) == 2) = true ∨ ((N : Int) == 2) = false := by cases ((N : Int) == 2) <;> simp
  rcases hcase with hq | hq
  · have HU := Lib.hid (HU2.out (by have e := beq_iff_eq.1 hq; omega))
    have hN3 : (1 : Int) < N := by have := HAL.out; omega
    go_upto_region 17 with fail
    generalize u2 = u at HU ⊢
    clear x0 x1 x2 x3 xz c1 cz HU1 HU2 hq
    go_wp2_with fail
    refine (parse_one (HSP.out _ M13.out.turns) HU.out HRF.out.small HRF.out.cat HRF.out.good).mono ?_
    rintro e w14 ⟨Ag, cp, Z, rfl, hg, hp, ht⟩
    have M15 := Lib.hid ((M13.out.still ht).still ((Turns.refl Nothing w14).alloc (.cells #[.slice Ag Z.length cp] 32)))
    have L15 := Lib.hid (Blk.new w14 32 #[.slice Ag Z.length cp])
    have HG := Lib.hid (And.intro ((GAt.of hg).rd.still ((Turns.refl Nothing w14).alloc (.cells #[.slice Ag Z.length cp] 32))) (And.intro (FitL.bare (FitL.unstrip (by rw [hp]; exact HRF.out.fit))) hp))
    clear ht hg hp M13
    go_upto_region 20 with fail
    generalize w14.alloc (.cells #[.slice Ag Z.length cp] 32) = w15 at *
    generalize w14.heap.size = r at *
    have l0 : w15.cell? ⟨r, 0, none⟩ = some (.slice Ag Z.length cp) := L15.out.cell 0
    have lz := L15.out.lt
    go_wp2_with fail
    refine (bare_in HG.out.1 HG.out.2.1).mono ?_
    rintro e w16 ⟨gv', Z', rfl, hg', hp', ht⟩
    obtain ⟨A', c', rfl⟩ := own_slice hg'.outer
    have M16 := Lib.hid (M15.out.still ht)
    have HG16 := Lib.hid (And.intro hg' (And.intro (hp'.trans HG.out.2.2) (And.intro (M15.out.bd.lt) (M15.out.res.lt))))
    clear ht hg' hp' l0 lz M15 L15 HG
    have M17 := Lib.hid (show RM w _ p _ #[.string ut, .int .i64 kc, .int .i64 km, .bool rp, .string ⟨#[]⟩, .slice A' Z'.length c'] from M16.out.put 5 (.slice A' Z'.length c'))
    have HG17 := Lib.hid (And.intro (HG16.out.1.keep ((Turns.refl (Only p) w16).setCell (p := ⟨p, 5, none⟩) (.inl rfl) (.slice A' Z'.length c')) fun b e => by have e : b = p := e; have := HG16.out.2.2.1; omega) HG16.out.2)
    obtain ⟨y0, y1, y2, y3, y4, y5, yf, yz⟩ := bd_cells M16.out.bd
    have f5 := yf 5
    clear yf
    go_upto_region 21 with fail
    clear y0 y1 y2 y3 y4 y5 f5 yz M16 HG16
    generalize w16.setCell ⟨p, 5, none⟩ (.slice A' Z'.length c') = w17 at *
    obtain ⟨x0, x1, x2, x3, x4, x5, xf, xz⟩ := bd_cells M17.out.bd
    obtain ⟨y0, y1, y2, y3, y4, y5, yf, yz⟩ := bd_cells M17.out.res
    have g0 := yf 0
    have g1 := yf 1
    have g2 := yf 2
    have g3 := yf 3
    have g4 := yf 4
    have g5 := yf 5
    clear xf yf
    go_wp2_with fail
    have HF := set_six M17.out.res (.string ut) (.int .i64 kc) (.int .i64 km) (.bool rp) (.string ⟨#[]⟩) (.slice A' Z'.length c')
    refine bodyPost_ret (results_cell_tmp Tryz.results15 _ _ _ ⟨w.heap.size + 1, 0, none⟩ _ rfl (load_bd _ _ _ _ _ _ _ _ HF)) rfl ?_
    have hlow := M17.out.low
    refine ⟨.slice A' Z'.length c', Z', by rw [HBD.out]; rfl, ?_, HG17.out.2.1, ?_⟩
    · refine (HG17.out.1.keep (S := Only (w.heap.size + 1)) ?_ fun b e => ?_).weak (by have := HG17.out.2.2.2; omega)
      · exact turns_six (S := Only (w.heap.size + 1)) (Turns.refl _ w17) (.inl rfl) _ _ _ _ _ _
      · have e : b = w.heap.size + 1 := e
        have := HG17.out.2.2.2
        omega
    · exact turns_six M17.out.turns (.inr (Nat.le_succ _)) _ _ _ _ _ _
  · have HU := HU1
    go_upto_region 17 with fail
    generalize u1 = u at HU ⊢
    clear x0 x1 x2 x3 xz c1 cz HU1 HU2 hq
    go_wp2_with fail
    refine (parse_one (HSP.out _ M13.out.turns) HU.out HRF.out.small HRF.out.cat HRF.out.good).mono ?_
    rintro e w14 ⟨Ag, cp, Z, rfl, hg, hp, ht⟩
    have M15 := Lib.hid ((M13.out.still ht).still ((Turns.refl Nothing w14).alloc (.cells #[.slice Ag Z.length cp] 32)))
    have L15 := Lib.hid (Blk.new w14 32 #[.slice Ag Z.length cp])
    have HG := Lib.hid (And.intro ((GAt.of hg).rd.still ((Turns.refl Nothing w14).alloc (.cells #[.slice Ag Z.length cp] 32))) (And.intro (FitL.bare (FitL.unstrip (by rw [hp]; exact HRF.out.fit))) hp))
    clear ht hg hp M13
    go_upto_region 20 with fail
    generalize w14.alloc (.cells #[.slice Ag Z.length cp] 32) = w15 at *
    generalize w14.heap.size = r at *
    have l0 : w15.cell? ⟨r, 0, none⟩ = some (.slice Ag Z.length cp) := L15.out.cell 0
    have lz := L15.out.lt
    go_wp2_with fail
    refine (bare_in HG.out.1 HG.out.2.1).mono ?_
    rintro e w16 ⟨gv', Z', rfl, hg', hp', ht⟩
    obtain ⟨A', c', rfl⟩ := own_slice hg'.outer
    have M16 := Lib.hid (M15.out.still ht)
    have HG16 := Lib.hid (And.intro hg' (And.intro (hp'.trans HG.out.2.2) (And.intro (M15.out.bd.lt) (M15.out.res.lt))))
    clear ht hg' hp' l0 lz M15 L15 HG
    have M17 := Lib.hid (show RM w _ p _ #[.string ut, .int .i64 kc, .int .i64 km, .bool rp, .string ⟨#[]⟩, .slice A' Z'.length c'] from M16.out.put 5 (.slice A' Z'.length c'))
    have HG17 := Lib.hid (And.intro (HG16.out.1.keep ((Turns.refl (Only p) w16).setCell (p := ⟨p, 5, none⟩) (.inl rfl) (.slice A' Z'.length c')) fun b e => by have e : b = p := e; have := HG16.out.2.2.1; omega) HG16.out.2)
    obtain ⟨y0, y1, y2, y3, y4, y5, yf, yz⟩ := bd_cells M16.out.bd
    have f5 := yf 5
    clear yf
    go_upto_region 21 with fail
    clear y0 y1 y2 y3 y4 y5 f5 yz M16 HG16
    generalize w16.setCell ⟨p, 5, none⟩ (.slice A' Z'.length c') = w17 at *
    obtain ⟨x0, x1, x2, x3, x4, x5, xf, xz⟩ := bd_cells M17.out.bd
    obtain ⟨y0, y1, y2, y3, y4, y5, yf, yz⟩ := bd_cells M17.out.res
    have g0 := yf 0
    have g1 := yf 1
    have g2 := yf 2
    have g3 := yf 3
    have g4 := yf 4
    have g5 := yf 5
    clear xf yf
    go_wp2_with fail
    have HF := set_six M17.out.res (.string ut) (.int .i64 kc) (.int .i64 km) (.bool rp) (.string ⟨#[]⟩) (.slice A' Z'.length c')
    refine bodyPost_ret (results_cell_tmp Tryz.results15 _ _ _ ⟨w.heap.size + 1, 0, none⟩ _ rfl (load_bd _ _ _ _ _ _ _ _ HF)) rfl ?_
    have hlow := M17.out.low
    refine ⟨.slice A' Z'.length c', Z', by rw [HBD.out]; rfl, ?_, HG17.out.2.1, ?_⟩
    · refine (HG17.out.1.keep (S := Only (w.heap.size + 1)) ?_ fun b e => ?_).weak (by have := HG17.out.2.2.2; omega)
      · exact turns_six (S := Only (w.heap.size + 1)) (Turns.refl _ w17) (.inl rfl) _ _ _ _ _ _
      · have e : b = w.heap.size + 1 := e
        have := HG17.out.2.2.2
        omega
    · exact turns_six M17.out.turns (.inr (Nat.le_succ _)) _ _ _ _ _ _
end Go.Proofs.YtiopaenonjhlnaaGreatDoor
