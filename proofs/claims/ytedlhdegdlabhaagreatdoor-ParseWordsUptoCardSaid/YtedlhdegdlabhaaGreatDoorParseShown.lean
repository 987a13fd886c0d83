/- What package parse makes of the two texts of chapter 12's examples. Plain functions; no program. The two texts of chapter 12's examples, parsed: what the walk of Parse stands on, for each. The walk of mullionlaw12.shown: it answers true. -/
import Derived.Test.YtedlhdegdlabhaaGreatDoorParseLines
import Derived.Test.YtedlhdegdlabhaaGreatDoorLexLaw
import Derived.Test.YtedlhdegdlabhaaGreatDoorLexEval
import Derived.Test.YtedlhdegdlabhaaGreatDoorParseWalk
import Derived.Test.YtedlhdegdlabhaaGreatDoorParseOne
namespace Go.Proofs.YtedlhdegdlabhaaGreatDoor
set_option maxRecDepth 8000
open Lx (Bytes)
namespace Lx
theorem eval_splitw : split [] [115, 112, 108, 105, 116, 119, 32, 45, 104, 108, 32, 50, 48, 32, 45, 116, 32, 37, 49, 32, 59, 32, 107, 105, 108, 108, 112] =
    .ok [([⟨[115, 112, 108, 105, 116, 119], 1, false⟩, ⟨[45, 104, 108], 1, false⟩, ⟨[50, 48], 1, false⟩, ⟨[45, 116], 1, false⟩, ⟨[37, 49], 1, false⟩], 1), ([⟨[107, 105, 108, 108, 112], 1, false⟩], 1)] := by
  simp [split, read_cons, read_nil, word_cons, word_over, word_nil, over, put, feeds, fin]
theorem eval_cond : split [] [37, 105, 102, 32, 39, 35, 123, 120, 125, 39, 10, 110, 101, 119, 10, 37, 101, 108, 115, 101, 10, 111, 111, 112, 115, 10, 37, 101, 110, 100, 105, 102] =
    .ok [([⟨[37, 105, 102], 1, false⟩, ⟨[35, 123, 120, 125], 1, false⟩], 1), ([⟨[110, 101, 119], 2, false⟩], 2), ([⟨[37, 101, 108, 115, 101], 3, false⟩], 3), ([⟨[111, 111, 112, 115], 4, false⟩], 4), ([⟨[37, 101, 110, 100, 105, 102], 5, false⟩], 5)] := by
  simp [split, read_cons, read_nil, word_cons, word_over, word_nil, over, put, single, feeds, fin, bump]
end Lx
namespace Px
/-- splitw -hl 20 -t %1 ; killp -/
abbrev text1 : Bytes := [115, 112, 108, 105, 116, 119, 32, 45, 104, 108, 32, 50, 48, 32, 45, 116, 32, 37, 49, 32, 59, 32, 107, 105, 108, 108, 112]
abbrev text2 : Bytes := [37, 105, 102, 32, 39, 35, 123, 120, 125, 39, 10, 110, 101, 119, 10, 37, 101, 108, 115, 101, 10, 111, 111, 112, 115, 10, 37, 101, 110, 100, 105, 102]
def splitw : Cmd := ⟨[115, 112, 108, 105, 116, 45, 119, 105, 110, 100, 111, 119], [(104, []), (108, [50, 48]), (116, [37, 49])], [], 1⟩
def killp : Cmd := ⟨[107, 105, 108, 108, 45, 112, 97, 110, 101], [], [], 1⟩
theorem parse_one (X : Bytes → Bytes × Int) : parse X [] text1 = .ok [[splitw, killp]] := by
  rw [parse, Lx.eval_splitw]
  rfl
theorem parse_two (X : Bytes → Bytes × Int) (h : X [35, 123, 120, 125] = ([], 0)) : parse X [] text2 = .error (10, 4) := by
  rw [parse, Lx.eval_cond]
  have w1 : words [⟨[111, 111, 112, 115], 4, false⟩] = .error 10 := rfl
  simp [parseL, isDir, dir, dirOn, asked, h, taken, isTrue, ofLn, ofW, setLast, line0, w1]
end Px
end Go.Proofs.YtedlhdegdlabhaaGreatDoor
namespace Go.Proofs.YtedlhdegdlabhaaGreatDoor
set_option maxRecDepth 8000
open Go.RowKit
open Lx (Bytes)

/-- what a condition's text comes to where nothing is known: nothing -/
def nilX : Bytes → Bytes × Int := fun _ => ([], 0)
theorem isDir_nil : Px.isDir [] = false := rfl
/-- texts without directives -/
def NoDir (ls : List Px.PLn) (o : List Px.Cond) : Prop := o = [] ∧ ∀ l ∈ ls, Px.isDir l.1 = false
theorem nodir_inv (sv lv : Value) (X : Bytes → Bytes × Int) : DoInv sv lv X NoDir where
  few := fun ls o h => by rw [h.1]; exact Nat.zero_le _
  skip := fun l ls o h _ _ => ⟨h.1, fun x hx => h.2 x (List.mem_cons_of_mem _ hx)⟩
  spec := fun l ls o h hd => by rw [h.2 l List.mem_cons_self] at hd; cases hd
  step := fun l ls o o' h hd => by rw [h.2 l List.mem_cons_self] at hd; cases hd
abbrev l0 : Px.PLn := ([⟨[37, 105, 102], 1, false⟩, ⟨[35, 123, 120, 125], 1, false⟩], 1)
abbrev l1 : Px.PLn := ([⟨[110, 101, 119], 2, false⟩], 2)
abbrev l2 : Px.PLn := ([⟨[37, 101, 108, 115, 101], 3, false⟩], 3)
abbrev l3 : Px.PLn := ([⟨[111, 111, 112, 115], 4, false⟩], 4)
abbrev l4 : Px.PLn := ([⟨[37, 101, 110, 100, 105, 102], 5, false⟩], 5)
abbrev c0 : Px.Cond := ⟨1, true, false, false, false⟩
abbrev c1 : Px.Cond := ⟨1, true, true, true, true⟩
/-- the states of the second text -/
def CondText (ls : List Px.PLn) (o : List Px.Cond) : Prop := (ls = [l0, l1, l2, l3, l4] ∧ o = []) ∨ (ls = [l1, l2, l3, l4] ∧ o = [c0]) ∨ (ls = [l2, l3, l4] ∧ o = [c0]) ∨ (ls = [l3, l4] ∧ o = [c1])
theorem dir0 : Px.dir nilX l0.1 [] = .ok [c0] := by rfl
theorem dir2 : Px.dir nilX l2.1 [c0] = .ok [c1] := by rfl
theorem oops_bad : Px.words l3.1 = .error 10 := by rfl
theorem cond_inv : DoInv (.slice none 0 0) (.slice none 0 0) nilX CondText where
  few := fun ls o h => by rcases h with ⟨-, rfl⟩ | ⟨-, rfl⟩ | ⟨-, rfl⟩ | ⟨-, rfl⟩ <;> decide
  skip := fun l ls o h hd hw => by
    rcases h with ⟨h, rfl⟩ | ⟨h, rfl⟩ | ⟨h, rfl⟩ | ⟨h, rfl⟩ <;> injection h with h1 h2 <;> subst h1 h2
    · exact absurd hd (by decide)
    · exact .inr (.inr (.inl ⟨rfl, rfl⟩))
    · exact absurd hd (by decide)
    · obtain ⟨c, hc⟩ := hw rfl
      rw [oops_bad] at hc
      cases hc
  spec := fun l ls o h hd => by
    rcases h with ⟨h, rfl⟩ | ⟨h, rfl⟩ | ⟨h, rfl⟩ | ⟨h, rfl⟩ <;> injection h with h1 h2 <;> subst h1 h2
    · intro w K ov dv hc hp
      obtain ⟨w0, h1, h2, h3⟩ := hp
      rw [dir0]
      exact do_if hc h1 h2 h3 rfl rfl
    · exact absurd hd (by decide)
    · intro w K ov dv hc hp
      rw [dir2]
      exact do_else (o := []) (c := c0) hc (by decide) hp.at_ rfl rfl
    · exact absurd hd (by decide)
  step := fun l ls o o' h hd ho => by
    rcases h with ⟨h, rfl⟩ | ⟨h, rfl⟩ | ⟨h, rfl⟩ | ⟨h, rfl⟩ <;> injection h with h1 h2 <;> subst h1 h2
    · rw [dir0] at ho
      injection ho with ho
      subst ho
      exact .inr (.inl ⟨rfl, rfl⟩)
    · exact absurd hd (by decide)
    · rw [dir2] at ho
      injection ho with ho
      subst ho
      exact .inr (.inr (.inr ⟨rfl, rfl⟩))
    · exact absurd hd (by decide)
theorem fit_of {L : List Lx.Ln} (h : (decide (L.length ≤ 1000) && L.all fun l => !l.1.isEmpty && decide (l.1.length ≤ 256) && l.1.all fun x => decide (x.text.length ≤ 1000)) = true) : Fit L := by
  rw [Bool.and_eq_true, decide_eq_true_eq, List.all_eq_true] at h
  refine ⟨h.1, fun l hl => ?_⟩
  have := h.2 l hl
  simp only [Bool.and_eq_true, Bool.not_eq_true', decide_eq_true_eq, List.all_eq_true] at this
  refine ⟨fun e => ?_, this.1.2, fun x hx => ?_⟩
  · rw [e] at this
    exact absurd this.1.1 (by decide)
  · have := this.2 x hx
    unfold maxLen
    omega
theorem parse_text1 {w : World} (hsp : Space w) : Calls Tryz.prog 16 #[.string ⟨Px.text1.toArray⟩, .agg #[.slice none 0 0, .slice none 0 0], .slice none 0 0] w (ParsePost w (.ok [[Px.splitw, Px.killp]])) := by
  have h := parse_in (s := ⟨Px.text1.toArray⟩) hsp (no_env w _) nilX NoDir (nodir_inv (.slice none 0 0) (.slice none 0 0) nilX) (fun L hL => by
    have e : Lx.split [] Px.text1 = .ok L := hL
    rw [Lx.eval_splitw] at e
    injection e with e
    subst e
    refine ⟨fit_of (by decide), rfl, fun l hl => ?_⟩
    simp only [List.map_cons, List.map_nil, List.mem_cons, List.not_mem_nil, or_false] at hl
    rcases hl with rfl | rfl <;> rfl)
  rw [show Px.parse nilX (envOf []) (sl ⟨Px.text1.toArray⟩) = .ok [[Px.splitw, Px.killp]] from Px.parse_one nilX] at h
  exact h
theorem parse_text2 {w : World} (hsp : Space w) : Calls Tryz.prog 16 #[.string ⟨Px.text2.toArray⟩, .agg #[.slice none 0 0, .slice none 0 0], .slice none 0 0] w (ParsePost w (.error (10, 4))) := by
  have h := parse_in (s := ⟨Px.text2.toArray⟩) hsp (no_env w _) nilX CondText cond_inv (fun L hL => by
    have e : Lx.split [] Px.text2 = .ok L := hL
    rw [Lx.eval_cond] at e
    injection e with e
    subst e
    exact ⟨fit_of (by decide), .inl ⟨rfl, rfl⟩⟩)
  rw [show Px.parse nilX (envOf []) (sl ⟨Px.text2.toArray⟩) = .error (10, 4) from Px.parse_two nilX rfl] at h
  exact h
end Go.Proofs.YtedlhdegdlabhaaGreatDoor
namespace Go.Proofs.YtedlhdegdlabhaaGreatDoor
set_option maxRecDepth 8000
open Go.RowKit
open Lx (Bytes)

/-- the first text's result, in memory -/
structure ShownAt (w : World) (g cp g2 cp2 : Nat) (fv av : Value) : Prop where
  out : w.cell? ⟨g, 0, none⟩ = some (.slice (some ⟨g2, 0, none⟩) 2 cp2)
  name : w.cell? ⟨g2, 0, none⟩ = some (strV Px.splitw.name)
  fl : w.cell? ⟨g2, 1, none⟩ = some fv
  ar : w.cell? ⟨g2, 2, none⟩ = some av
  line : w.cell? ⟨g2, 3, none⟩ = some (.int .i64 1)
  lt : g < w.heap.size ∧ g2 < w.heap.size
  flags : FlagsAt w fv Px.splitw.flags
  args : TextsAt w av []
theorem ShownAt.still {w w' : World} {g cp g2 cp2 : Nat} {fv av : Value} (h : ShownAt w g cp g2 cp2 fv av) (ht : Turns Nothing w w') : ShownAt w' g cp g2 cp2 fv av :=
  ⟨(ht.cell (p := ⟨g, 0, none⟩) h.lt.1 id).trans h.out, (ht.cell (p := ⟨g2, 0, none⟩) h.lt.2 id).trans h.name, (ht.cell (p := ⟨g2, 1, none⟩) h.lt.2 id).trans h.fl, (ht.cell (p := ⟨g2, 2, none⟩) h.lt.2 id).trans h.ar, (ht.cell (p := ⟨g2, 3, none⟩) h.lt.2 id).trans h.line,
    ⟨Nat.lt_of_lt_of_le h.lt.1 ht.size, Nat.lt_of_lt_of_le h.lt.2 ht.size⟩, h.flags.still ht, h.args.still ht⟩
theorem own_one {w : World} {B n size : Nat} {e : TypeId} {v : Value} {xs : List Value} (h : w.ownsRow B e size v (n + 1) xs) : ∃ g cp, v = .slice (some ⟨g, 0, none⟩) (n + 1) cp ∧ g < w.heap.size ∧ ∀ i, i < (n + 1) * size → w.cell? ⟨g, i, none⟩ = xs[i]? := by
  rcases h.2 with ⟨_, h0⟩ | ⟨g, cap, cur, rfl, hb, hg, _⟩
  · omega
  · exact ⟨g, cap, rfl, (Array.getElem?_eq_some_iff.1 hg).1, fun i hi => h.cellAt _ hi⟩
theorem shown_at {w : World} {B : Nat} {gv : Value} {Z : List (Value × List CQ)} (h : GroupsAt w B gv Z) (hp : plainG Z = [[Px.splitw, Px.killp]]) : ∃ g cp g2 cp2 fv av, gv = .slice (some ⟨g, 0, none⟩) 1 cp ∧ ShownAt w g cp g2 cp2 fv av := by
  match Z, hp, h with
  | [(z, [q1, q2])], hp, h =>
    have hq : q1.1 = Px.splitw := by
      simp [plainG] at hp
      exact hp.1
    obtain ⟨g, cp, rfl, hg, hc⟩ := own_one (n := 0) h.outer
    obtain ⟨g2, cp2, hz, hg2, hc2⟩ := own_one (n := 1) (h.inner (z, [q1, q2]) (by simp))
    have hz : z = _ := hz
    subst hz
    have hr := h.rows _ (List.mem_singleton.2 rfl) q1 (by simp)
    have hfl := hr.flags
    have har := hr.args
    rw [hq] at hfl har
    refine ⟨g, cp, g2, cp2, q1.2.1, q1.2.2, rfl, ?_, ?_, ?_, ?_, ?_, ⟨hg, hg2⟩, own_flags hfl, own_texts har⟩
    · exact hc 0 (by decide)
    · rw [hc2 0 (by decide), ← hq]; rfl
    · rw [hc2 1 (by decide)]; rfl
    · rw [hc2 2 (by decide)]; rfl
    · rw [hc2 3 (by decide)]
      show some (Value.int .i64 q1.1.line) = _
      rw [hq]; rfl
  | [], hp, _ => cases hp
  | [(z, [])], hp, _ => simp [plainG] at hp
  | [(z, [q1])], hp, _ => simp [plainG] at hp
  | (z, q1 :: q2 :: q3 :: l) :: r, hp, _ => simp [plainG] at hp
  | z1 :: z2 :: r, hp, _ => simp [plainG] at hp
theorem found_new : Px.found [110, 101, 119] = some ⟨[110, 101, 119, 45, 115, 101, 115, 115, 105, 111, 110], [110, 101, 119], [65, 100, 110, 58, 115, 58, 120, 58, 121, 58], 0, 0⟩ := by decide +kernel
theorem found_k : Px.found [107] = none := by decide +kernel
theorem one_splitw : Px.one Px.splitw = [115, 112, 108, 105, 116, 45, 119, 105, 110, 100, 111, 119, 32, 45, 104, 32, 45, 108, 32, 50, 48, 32, 45, 116, 32, 37, 49] := by decide +kernel

set_option maxHeartbeats 4000000 in
theorem pshown_true {w : World} (hsp : Space w) : Calls Tryz.prog 5 #[] w fun e w' => e = .returned (.bool true) ∧ Turns Nothing w w' := by
  have HS := Lib.hid hsp
  clear hsp
  go_enter Tryz.func5, Tryz.ntmps5
  go_wp2_with fail
  refine (parse_text1 HS.out).mono ?_
  rintro e w1 ⟨ht, gv, Z, rfl, hG, hP⟩
  obtain ⟨g, cp, g2, cp2, fv, av, rfl, hA⟩ := shown_at hG hP
  have T1 := Lib.hid ht
  have A1 := Lib.hid (hA.still ((Turns.refl Nothing w1).alloc (.cells #[.slice (some ⟨g, 0, none⟩) 1 cp] 41)))
  have B1 := Lib.hid (Blk.new w1 41 #[.slice (some ⟨g, 0, none⟩) 1 cp])
  clear ht hG hP hA Z
  go_wp2_with fail
  refine (parse_text2 (HS.out.still (T1.out.alloc _))).mono ?_
  rintro e w2 ⟨ht, rfl⟩
  have T2 := Lib.hid ((T1.out.alloc _).same ht)
  have A2 := Lib.hid (A1.out.still ht)
  have B2 := Lib.hid (ht.blk B1.out id)
  clear ht A1 B1 T1
  go_wp2_with fail
  refine (find_in (HS.out.still (T2.out.alloc _)) ⟨#[110, 101, 119]⟩).mono ?_
  rintro e w3 ⟨rfl, ht⟩
  rw [show sl ⟨#[110, 101, 119]⟩ = [110, 101, 119] from rfl, found_new]
  simp only [rowOr, Option.getD, Option.isSome, strV]
  have ht := ((Turns.refl Nothing w2).alloc _).same ht
  have T3 := Lib.hid (T2.out.same ht)
  have A3 := Lib.hid (A2.out.still ht)
  have B3 := Lib.hid (ht.blk B2.out id)
  clear ht A2 B2 T2
  go_wp2_with fail
  refine (find_in (HS.out.still T3.out) ⟨#[107]⟩).mono ?_
  rintro e w4 ⟨rfl, ht⟩
  rw [show sl ⟨#[107]⟩ = [107] from rfl, found_k]
  simp only [rowOr, Option.getD, Option.isSome, strV, zeroRow]
  have T4 := Lib.hid (T3.out.same ht)
  have A4 := Lib.hid (A3.out.still ht)
  have b0 := (ht.blk B3.out id).cell 0
  simp at b0
  have bl := (ht.blk B3.out id).lt
  obtain ⟨a0, a1, a2, a3, a4, ⟨al1, al2⟩, -, -⟩ := A4.out
  clear ht A3 B3 T3
  have hn : (⟨[110, 101, 119, 45, 115, 101, 115, 115, 105, 111, 110].toArray⟩ : ByteArray) = ⟨#[110, 101, 119, 45, 115, 101, 115, 115, 105, 111, 110]⟩ := rfl
  rw [hn]
  clear hn
  obtain ⟨fA, fc, rfl, -⟩ := A4.out.flags.at_
  obtain ⟨rA, rc, rfl, -⟩ := A4.out.args.at_
  have hn2 : strV Px.splitw.name = .string ⟨#[115, 112, 108, 105, 116, 45, 119, 105, 110, 100, 111, 119]⟩ := rfl
  rw [hn2] at a1
  simp only [show Px.splitw.flags.length = 3 from rfl, show ([] : List Bytes).length = 0 from rfl] at a2 a3 A4
  have C5 := Lib.hid (Blk.new w4 27 #[.string ⟨#[115, 112, 108, 105, 116, 45, 119, 105, 110, 100, 111, 119]⟩, .slice fA 3 fc, .slice rA 0 rc, .int .i64 1])
  have T5 := Lib.hid ((Turns.refl Nothing w4).alloc (.cells #[.string ⟨#[115, 112, 108, 105, 116, 45, 119, 105, 110, 100, 111, 119]⟩, .slice fA 3 fc, .slice rA 0 rc, .int .i64 1] 27))
  have HF := Lib.hid (fun (W : World) (h : Turns Nothing w4 W) => A4.out.flags.still h)
  have HA := Lib.hid (fun (W : World) (h : Turns Nothing w4 W) => A4.out.args.still h)
  clear A4 hn2
  go_upto_region 8 with fail
  go_wp2_with fail
  refine (value_of 108 (HF.out _ T5.out) ⟨rA, 0, rc, rfl⟩).mono ?_
  rintro e w5 ⟨rfl, ht⟩
  rw [show Px.at_ Px.splitw.flags 108 = some [50, 48] from rfl]
  simp only [Option.getD, Option.isSome, strV]
  have U5 := Lib.hid (T5.out.same ht)
  have C6 := ht.blk C5.out id
  obtain ⟨x0, x1, x2, x3, x4⟩ := box_cells C6
  have HC := Lib.hid C6
  clear ht C5 C6 T5 b0 bl a0 a1 a2 a3 a4 al1 al2
  have hn3 : (⟨([50, 48] : List UInt8).toArray⟩ : ByteArray) = ⟨#[50, 48]⟩ := rfl
  rw [hn3]
  clear hn3
  go_upto_region 9 with fail
  go_wp2_with fail
  refine (has_of 104 (HF.out _ U5.out) ⟨rA, 0, rc, rfl⟩).mono ?_
  rintro e w6 ⟨rfl, ht⟩
  rw [show (Px.at_ Px.splitw.flags 104).isSome = true from rfl]
  have U6 := Lib.hid (U5.out.same ht)
  have C6 := ht.blk HC.out id
  obtain ⟨x0, x1, x2, x3, x4⟩ := box_cells C6
  have HC6 := Lib.hid C6
  clear ht C6 HC U5
  go_wp2_with fail
  refine (has_of 118 (HF.out _ U6.out) ⟨rA, 0, rc, rfl⟩).mono ?_
  rintro e w7 ⟨rfl, ht⟩
  rw [show (Px.at_ Px.splitw.flags 118).isSome = false from rfl]
  have U7 := Lib.hid (U6.out.same ht)
  obtain ⟨x0, x1, x2, x3, x4⟩ := box_cells (ht.blk HC6.out id)
  clear ht HC6 U6
  go_wp2_with fail
  refine (one_in (HF.out _ U7.out) (HA.out _ U7.out) (by decide) (by decide)).mono ?_
  rintro e w8 ⟨u, rfl, hu, ht⟩
  have hu : u = ⟨#[115, 112, 108, 105, 116, 45, 119, 105, 110, 100, 111, 119, 32, 45, 104, 32, 45, 108, 32, 50, 48, 32, 45, 116, 32, 37, 49]⟩ := sl_inj (hu.trans one_splitw)
  subst hu
  have U8 := Lib.hid (U7.out.same ht)
  clear ht U7
  go_wp2_with fail
  go_ret
  exact ⟨rfl, T4.out.same U8.out⟩
end Go.Proofs.YtedlhdegdlabhaaGreatDoor
