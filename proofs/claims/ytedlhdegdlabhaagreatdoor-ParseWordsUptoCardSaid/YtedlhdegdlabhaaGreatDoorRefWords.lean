/- The walk of the document's Words (package mullionref12): words become a command. -/
import Derived.Test.YtedlhdegdlabhaaGreatDoorRefPut
import Derived.Test.YtedlhdegdlabhaaGreatDoorRefOne
import Derived.Test.YtedlhdegdlabhaaGreatDoorParseWords
import Derived.StillTailTactics
namespace Go.Proofs.YtedlhdegdlabhaaGreatDoor
set_option maxRecDepth 8000
open Go.RowKit
open Lx (Bytes)

/-- the command that is being made, in memory -/
structure WMem (w wr : World) (K : Nat) (r : Px.Row) (line : Int) (m : List Px.Fl) (fv : Value) : Prop where
  res : Blk wr w.heap.size 27 zeroCs
  row : Blk wr K 61 (rowCs r)
  cmd : Blk wr (K + 1) 27 #[.string ⟨r.name.toArray⟩, fv, .slice none 0 0, .int .i64 line]
  own : wr.ownsRow (K + 2) 67 2 fv m.length (flagCells m)
  turns : Turns Nothing w wr
  low : w.heap.size < K
  srt : Px.Sorted m
theorem WMem.still {w wr w1 : World} {K : Nat} {r : Px.Row} {line : Int} {m : List Px.Fl} {fv : Value} (h : WMem w wr K r line m fv) (ht : Turns Nothing wr w1) : WMem w w1 K r line m fv :=
  ⟨ht.blk h.res id, ht.blk h.row id, ht.blk h.cmd id, ht.own h.own fun _ _ => id, h.turns.same ht, h.low, h.srt⟩
theorem WMem.put {w wr w1 w2 : World} {K : Nat} {r : Px.Row} {line : Int} {m : List Px.Fl} {fv v' : Value} {f : Px.Fl} (h : WMem w wr K r line m fv) (h1 : Turns Nothing wr w1) (h2 : Turns Nothing w1 w2) (ho : w2.ownsRow w1.heap.size 67 2 v' (Px.rput f false m).length (flagCells (Px.rput f false m))) :
    WMem w (w2.setCell ⟨K + 1, 1, none⟩ v') K r line (Px.putF f m) v' := by
  have h' := (h.still h1).still h2
  rw [Px.rput_put f m h.srt] at ho
  have hT : Turns (Only (K + 1)) w2 (w2.setCell ⟨K + 1, 1, none⟩ v') := (Turns.refl (Only (K + 1)) w2).setCell (p := ⟨K + 1, 1, none⟩) (.inl rfl) v'
  have hlow := h.low
  have hz := (h.still h1).cmd.lt
  refine ⟨hT.blk h'.res fun e => ?_, hT.blk h'.row fun e => ?_, h'.cmd.set_ 1 v', own_weak (hT.own ho fun g hg e => ?_) (by omega), h'.turns.setCell (p := ⟨K + 1, 1, none⟩) (.inr (by show _ ≤ K + 1; omega)) v', h.low, Px.putF_sorted h.srt⟩
  · have e : w.heap.size = K + 1 := e
    omega
  · have e : K = K + 1 := e
    omega
  · have e : g = K + 1 := e
    have := (ho.lt g hg).1
    omega
/-- .. with its arguments -/
structure WArgs (w wr : World) (K : Nat) (r : Px.Row) (line : Int) (m : List Px.Fl) (fv : Value) (rest : List Px.PW) (k : Nat) (av : Value) : Prop where
  le : k ≤ rest.length
  res : Blk wr w.heap.size 27 zeroCs
  row : Blk wr K 61 (rowCs r)
  cmd : Blk wr (K + 1) 27 #[.string ⟨r.name.toArray⟩, fv, av, .int .i64 line]
  own : wr.ownsRow (K + 2) 67 2 fv m.length (flagCells m)
  args : wr.ownsRow (K + 2) 9 1 av k ((rest.take k).map fun x => strV x.text)
  turns : Turns Nothing w wr
  low : w.heap.size < K
theorem WMem.args {w wr : World} {K : Nat} {r : Px.Row} {line : Int} {m : List Px.Fl} {fv : Value} (h : WMem w wr K r line m fv) (rest : List Px.PW) : WArgs w wr K r line m fv rest 0 (.slice none 0 0) :=
  ⟨Nat.zero_le _, h.res, h.row, h.cmd, h.own, World.ownsRow_nil _ _ _ _, h.turns, h.low⟩
theorem WArgs.still {w wr w1 : World} {K : Nat} {r : Px.Row} {line : Int} {m : List Px.Fl} {fv : Value} {rest : List Px.PW} {k : Nat} {av : Value} (h : WArgs w wr K r line m fv rest k av) (ht : Turns Nothing wr w1) : WArgs w w1 K r line m fv rest k av :=
  ⟨h.le, ht.blk h.res id, ht.blk h.row id, ht.blk h.cmd id, ht.own h.own fun _ _ => id, ht.own h.args fun _ _ => id, h.turns.same ht, h.low⟩
theorem WArgs.grown {w w2 w3 : World} {K : Nat} {r : Px.Row} {line : Int} {m : List Px.Fl} {fv : Value} {rest : List Px.PW} {k : Nat} {av : Value} (h : WArgs w w2 K r line m fv rest k av) (hg : w2.grownBy w3 av.ownBlock) :
    Blk w3 w.heap.size 27 zeroCs ∧ Blk w3 K 61 (rowCs r) ∧ Blk w3 (K + 1) 27 #[.string ⟨r.name.toArray⟩, fv, av, .int .i64 line] ∧ w3.ownsRow (K + 2) 67 2 fv m.length (flagCells m) ∧ Turns Nothing w w3 := by
  have hlow := h.low
  have ht : Turns (fun b => av.ownBlock = some b) w2 w3 := (Turns.refl _ w2).grown hg fun _ _ e => e
  have hne : ∀ g, g < K + 2 → ¬ av.ownBlock = some g := fun g hgk e => by have := (h.args.lt g e).1; omega
  refine ⟨ht.blk h.res (hne _ (by omega)), ht.blk h.row (hne _ (by omega)), ht.blk h.cmd (hne _ (by omega)), ht.own h.own fun g hg e => own_ne h.own h.args (by decide) g hg e, h.turns.grown hg fun b hb e => hne b (by omega) e⟩
theorem WArgs.step {w w2 w3 : World} {K : Nat} {r : Px.Row} {line : Int} {m : List Px.Fl} {fv : Value} {rest : List Px.PW} {k : Nat} {av av' : Value} {tx : ByteArray} (h : WArgs w w2 K r line m fv rest k av) (hlt : k < rest.length) (htx : tx = ⟨rest[k].text.toArray⟩)
    (hg : w2.grownBy w3 av.ownBlock) (ho : w3.ownsRow (K + 2) 9 1 av' (k + 1) (((rest.take k).map fun x => strV x.text) ++ [.string tx])) : WArgs w (w3.setCell ⟨K + 1, 2, none⟩ av') K r line m fv rest (k + 1) av' := by
  obtain ⟨g1, g2, g3, g4, g5⟩ := h.grown hg
  have hlow := h.low
  have hT : Turns (Only (K + 1)) w3 (w3.setCell ⟨K + 1, 2, none⟩ av') := (Turns.refl (Only (K + 1)) w3).setCell (p := ⟨K + 1, 2, none⟩) (.inl rfl) av'
  refine ⟨hlt, hT.blk g1 fun e => ?_, hT.blk g2 fun e => ?_, g3.set_ 2 av', hT.own g4 fun g hg e => ?_, ?_, g5.setCell (p := ⟨K + 1, 2, none⟩) (.inr (by show _ ≤ K + 1; omega)) av', h.low⟩
  · have e : w.heap.size = K + 1 := e
    omega
  · have e : K = K + 1 := e
    omega
  · have e : g = K + 1 := e
    have := (g4.lt g hg).1
    omega
  · have e : ((rest.take (k + 1)).map fun x => strV x.text) = ((rest.take k).map fun x => strV x.text) ++ [.string tx] := by
      rw [List.take_succ_eq_append_getElem hlt, List.map_append, htx]
      rfl
    rw [e]
    refine hT.own ho fun g hg e => ?_
    have e : g = K + 1 := e
    have := (ho.lt g hg).1
    omega
theorem WArgs.fin {w wr : World} {K : Nat} {r : Px.Row} {line : Int} {m : List Px.Fl} {A6 A2 : Option Addr} {c6 cp2 : Nat} {rest : List Px.PW} (h : WArgs w wr K r line m (.slice A6 m.length c6) rest rest.length (.slice A2 rest.length cp2)) (v0 v1 v2 v3 : Value) :
    CmdAt ((((wr.setCell ⟨w.heap.size, 0, none⟩ v0).setCell ⟨w.heap.size, 1, none⟩ v1).setCell ⟨w.heap.size, 2, none⟩ v2).setCell ⟨w.heap.size, 3, none⟩ v3) w.heap.size
      (.agg #[.string ⟨r.name.toArray⟩, .slice A6 m.length c6, .slice A2 rest.length cp2, .int .i64 line]) ⟨r.name, m, rest.map (·.text), line⟩ := by
  have hs := set_four_only (wr := wr) (R := w.heap.size) v0 v1 v2 v3
  have hlow := h.low
  refine ⟨_, _, rfl, own_weak (hs.own h.own fun g hg e => ?_) (by omega), ?_⟩
  · have e : g = w.heap.size := e
    have := (h.own.lt g hg).1
    omega
  · have ho := h.args
    rw [List.take_length] at ho
    rw [List.length_map, List.map_map]
    refine own_weak (hs.own ho fun g hg e => ?_) (by omega)
    have e : g = w.heap.size := e
    have := (ho.lt g hg).1
    omega
/-- what the words from a place on make -/
def restOf (r : Px.Row) (l : List Px.PW) (m : List Px.Fl) : Option (List Px.PW × List Px.Fl) := Px.flagsN r l.length l m
theorem rest_plain {r : Px.Row} {p : Px.PW} {l : List Px.PW} {m : List Px.Fl} (hf : Px.isFlag p = false) : restOf r (p :: l) m = some (p :: l, m) := by
  simp [restOf, Px.flagsN, hf]
theorem rest_nil {r : Px.Row} {m : List Px.Fl} : restOf r [] m = some ([], m) := rfl
theorem rest_dash {r : Px.Row} {p : Px.PW} {l : List Px.PW} {m : List Px.Fl} (hf : Px.isFlag p = true) (hd : p.text.tail = [45]) : restOf r (p :: l) m = some (l, m) := by
  simp [restOf, Px.flagsN, hf, hd]
def inOf (r : Px.Row) (t : Bytes) (l : List Px.PW) (m : List Px.Fl) : Option (List Px.PW × List Px.Fl) := match Px.letters r t l m with
  | none => none
  | some y => restOf r y.1 y.2
theorem rest_flag {r : Px.Row} {p : Px.PW} {l : List Px.PW} {m : List Px.Fl} (hf : Px.isFlag p = true) (hd : ¬ p.text.tail = [45]) : restOf r (p :: l) m = inOf r p.text.tail l m := by
  simp only [restOf, inOf, List.length_cons, Px.flagsN, hf, if_true, hd, if_false]
  cases he : Px.letters r p.text.tail l m with
  | none => rfl
  | some y =>
    have hl := Px.letters_len (l' := y.1) (m' := y.2) he
    exact Px.flagsN_fuel _ _ _ _ hl (Nat.le_refl _)
theorem in_done {r : Px.Row} {l : List Px.PW} {m : List Px.Fl} : inOf r [] l m = restOf r l m := rfl
theorem in_none {r : Px.Row} {c : UInt8} {t : Bytes} {l : List Px.PW} {m : List Px.Fl} (hk : Px.takes r c = none) : inOf r (c :: t) l m = none := by simp [inOf, Px.letters, hk]
theorem in_bare {r : Px.Row} {c : UInt8} {t : Bytes} {l : List Px.PW} {m : List Px.Fl} (hk : Px.takes r c = some false) : inOf r (c :: t) l m = inOf r t l (Px.putF (c, []) m) := by simp [inOf, Px.letters, hk]
theorem in_full {r : Px.Row} {c u : UInt8} {t : Bytes} {l : List Px.PW} {m : List Px.Fl} (hk : Px.takes r c = some true) : inOf r (c :: u :: t) l m = restOf r l (Px.putF (c, u :: t) m) := by simp [inOf, Px.letters, hk]
theorem in_next {r : Px.Row} {c : UInt8} {p : Px.PW} {l : List Px.PW} {m : List Px.Fl} (hk : Px.takes r c = some true) : inOf r [c] (p :: l) m = restOf r l (Px.putF (c, p.text) m) := by simp [inOf, Px.letters, hk]
theorem in_lacks {r : Px.Row} {c : UInt8} {m : List Px.Fl} (hk : Px.takes r c = some true) : inOf r [c] [] m = none := by simp [inOf, Px.letters, hk]
theorem sl_at {T : ByteArray} {k : Nat} (h : k < T.size) : (sl T).drop k = T[k] :: (sl T).drop (k + 1) := by
  have hl : k < (sl T).length := by rw [sl_size]; exact h
  rw [List.drop_eq_getElem_cons hl]
  rfl
theorem sl_from {T : ByteArray} {k : Nat} : sl (T.extract k T.size) = (sl T).drop k := by
  simp [sl]
  exact List.take_of_length_le (by simp)

set_option maxHeartbeats 4000000 in
theorem dwords_in {w : World} (v : Value) (l0 : List Px.PW) (hl : PWordsAt w v l0) (hmax : l0.length ≤ 10000000000) :
    Calls Tryz.prog 7 #[v] w (WordsPost w (Px.words l0)) := by
  cases l0 with
  | nil =>
    obtain ⟨A, c, rfl⟩ := hl.nil
    clear hl
    go_enter Tryz.func7, Tryz.ntmps7
    go_wp2_with fail
    refine bodyPost_ret (results_cell_tmp Tryz.results7 _ _ _ ⟨w.heap.size, 0, none⟩ _ rfl (load_cmd _ _ _ _ _ _ (Blk.new w _ _))) rfl ?_
    exact ⟨(Turns.refl _ w).alloc _, rfl⟩
  | cons x l =>
    have hlen : (x :: l).length = l.length + 1 := rfl
    obtain ⟨b, off, c, rfl, hc1, hc2, hb, x0, x1, x2, -⟩ := hl.cons
    have hcell : ∀ i (hi : i < l.length + 1), w.cell? ⟨b, off + i * 3, none⟩ = some (strV (x :: l)[i].text) ∧ w.cell? ⟨b, off + i * 3 + 1, none⟩ = some (.int .i64 (x :: l)[i].line) ∧ w.cell? ⟨b, off + i * 3 + 2, none⟩ = some (.bool (x :: l)[i].block) := fun i hi => by
      obtain ⟨b', off', e, -, h⟩ := hl.cells i hi
      injection e with e
      injection e with e1 e2
      subst e1 e2
      exact h
    simp only [strV] at x0
    obtain ⟨N, hN⟩ : ∃ N, l.length + 1 = N := ⟨_, rfl⟩
    have HN := Lib.hid (show (x :: l).length = N from hN)
    have HCE := Lib.hid (show ∀ i (hi : i < N), w.cell? ⟨b, off + i * 3, none⟩ = some (strV ((x :: l)[i]'(by rw [HN.out]; exact hi)).text) ∧ w.cell? ⟨b, off + i * 3 + 1, none⟩ = some (.int .i64 ((x :: l)[i]'(by rw [HN.out]; exact hi)).line) ∧ w.cell? ⟨b, off + i * 3 + 2, none⟩ = some (.bool ((x :: l)[i]'(by rw [HN.out]; exact hi)).block) from fun i hi => hcell i (by omega))
    have hsm := Lib.hid hl.small
    have hN0 : 0 < N := by omega
    have hNm : (N : Int) ≤ 10000000000 := by rw [hlen] at hmax; omega
    have hNb : ((N : Int) == 0) = false := beq_eq_false_iff_ne.2 (by omega)
    rw [hN]
    clear hl hcell hN hmax hlen hc2
    obtain ⟨X, hX⟩ : ∃ X : ByteArray, X = ⟨x.text.toArray⟩ := ⟨_, rfl⟩
    have HX := Lib.hid (show sl X = x.text by rw [hX]; rfl)
    rw [← hX] at x0
    clear hX
    cases hbl : x.block with
    | true =>
      rw [hbl] at x2
      have he : Px.words (x :: l) = .error 10 := by simp [Px.words, hbl]
      rw [he]
      clear he
      go_enter Tryz.func7, Tryz.ntmps7
      go_wp2_with fail
      refine bodyPost_ret (results_cell_tmp Tryz.results7 _ _ _ ⟨w.heap.size, 0, none⟩ _ rfl (load_cmd _ _ _ _ _ _ (Blk.new w _ _))) rfl ?_
      exact ⟨(Turns.refl _ w).alloc _, rfl⟩
    | false =>
      rw [hbl] at x2
      have HB := Lib.hid hbl
      clear hbl
      go_enter Tryz.func7, Tryz.ntmps7
      go_wp2_with fail
      refine (rfind_in _ X).mono ?_
      rintro e w1 ⟨rfl, ht⟩
      have hres := ht.blk (Blk.new w 27 zeroCs) id
      have hT1 := ((Turns.refl Nothing w).alloc (.cells zeroCs 27)).same ht
      have HRes := Lib.hid hres
      have HT1 := Lib.hid hT1
      have hz := hres.lt
      obtain ⟨r0, r1, r2, r3, f0, f1, f2, f3⟩ := four_cells hres
      have hbw := Lib.hid hb
      have x0 := (hT1.cell (p := ⟨b, off, none⟩) hb id).trans x0
      have x1 := (hT1.cell (p := ⟨b, off + 1, none⟩) hb id).trans x1
      have x2 := (hT1.cell (p := ⟨b, off + 2, none⟩) hb id).trans x2
      have hb1 : b < w1.heap.size := Nat.lt_of_lt_of_le hb hT1.size
      clear ht hT1 hres hb
      cases hf : Px.found (sl X) with
      | none =>
        have HFd := Lib.hid hf
        clear hf
        simp only [rowOr, Option.getD, Option.isSome, zeroRow, rowV, strV]
        go_wp2_with fail
        have S := set_four HRes.out HT1.out (.string ⟨#[]⟩) (.slice none 0 0) (.slice none 0 0) (.int .i64 0)
        refine bodyPost_ret (results_cell_tmp Tryz.results7 _ _ _ ⟨w.heap.size, 0, none⟩ _ rfl (load_cmd _ _ _ _ _ _ (S.1.alloc _))) rfl ?_
        exact ⟨S.2.alloc _, by rw [words_none HB.out (by rw [← HX.out]; exact HFd.out)]; rfl⟩
      | some r =>
        have HWd := Lib.hid (words_some (l := l) HB.out (by rw [← HX.out]; exact hf))
        have hfl : r.flags.length ≤ 1000 := found_flags hf
        have HTK := Lib.hid (fun (W : World) (c : UInt8) => rtakes_in W r c hfl)
        clear hf hfl
        simp only [rowOr, Option.getD, Option.isSome]
        simp only [rowV, strV] at HTK ⊢
        have hM0 : WMem w ((w1.alloc (.cells (rowCs r) 61)).alloc (.cells #[.string ⟨r.name.toArray⟩, .slice none 0 0, .slice none 0 0, .int .i64 x.line] 27)).drew w1.heap.size r x.line [] (.slice none 0 0) :=
          WMem.still ⟨(HRes.out.alloc _).alloc _, (Blk.new w1 _ _).alloc _, blk_new_at (by simp [go_sem]), World.ownsRow_nil _ _ _ _, (HT1.out.alloc _).alloc _, hz, .nil⟩ ((Turns.refl Nothing _).drewN 1)
        have HM0 := Lib.hid hM0
        clear hM0
        go_wp2_with fail
        go_region
        clear x0 x1 x2 r0 r1 r2 r3 f0 f1 f2 f3
        generalize ((w1.alloc (.cells (rowCs r) 61)).alloc (.cells #[.string ⟨r.name.toArray⟩, .slice none 0 0, .slice none 0 0, .int .i64 x.line] 27)).drew = w2 at HM0 ⊢
        generalize w1.heap.size = K at HM0 ⊢
        have hR : restOf r ((x :: l).drop 1) [] = Px.flags r l := flags_fuel r l
        generalize Px.flags r l = R at HWd hR
        have HR := Lib.hid hR
        have HER := Lib.hid (show R = none → Px.words (x :: l) = .error 9 from fun e => by rw [HWd.out, e]; rfl)
        clear hR
        go_upto_block 0 with fail
        go_cut [7] (fun s7 wx => ∃ (i : Nat) (m : List Px.Fl) (fv : Value), s7 = .int .i64 i ∧ i ≤ N ∧ R = some ((x :: l).drop i, m) ∧ WMem w wx K r x.line m fv)
        case first =>
          go_wp2_with fail
          go_loopw [7] (fun s7 wr => ∃ (i : Nat) (m : List Px.Fl) (fv : Value), s7 = .int .i64 i ∧ i ≤ N ∧ restOf r ((x :: l).drop i) m = R ∧ WMem w wr K r x.line m fv) (fun s7 _ => N - (intOf s7).toNat)
          case atStart => exact ⟨1, [], _, rfl, hN0, HR.out, HM0.out⟩
          case round =>
            obtain ⟨i, m, fv, rfl, hiN, hs, hM⟩ := hrel
            have HM := Lib.hid hM
            have HS := Lib.hid hs
            clear hM hs
            by_cases hlt : i < N
            · obtain ⟨y0, y1, y2⟩ := HCE.out i hlt
              have hdrop := List.drop_eq_getElem_cons (l := x :: l) (i := i) (by rw [HN.out]; exact hlt)
              have hspec := HS.out
              rw [hdrop] at hspec
              have HDR := Lib.hid hdrop
              have hpsm := hsm.out _ (List.getElem_mem (l := x :: l) (n := i) (by rw [HN.out]; exact hlt))
              clear hdrop
              generalize (x :: l)[i]'(by rw [HN.out]; exact hlt) = p at y0 y1 y2 hspec HDR hpsm
              have y0 := (HM.out.turns.cell (p := ⟨b, _, none⟩) hbw.out id).trans y0
              have y1 := (HM.out.turns.cell (p := ⟨b, _, none⟩) hbw.out id).trans y1
              have y2 := (HM.out.turns.cell (p := ⟨b, _, none⟩) hbw.out id).trans y2
              have hbr : b < wr.heap.size := Nat.lt_of_lt_of_le hbw.out HM.out.turns.size
              obtain ⟨P, hP⟩ : ∃ P : ByteArray, P = ⟨p.text.toArray⟩ := ⟨_, rfl⟩
              have HP := Lib.hid (show sl P = p.text by rw [hP]; rfl)
              simp only [strV] at y0
              rw [← hP] at y0
              have hPz : (P.size : Int) ≤ 9223372036854775807 := by
                have := congrArg List.length HP.out
                rw [sl_size] at this
                simp only [maxLen] at hpsm
                omega
              have HSP := Lib.hid hspec
              clear hP hspec hpsm
              cases hbl : p.block with
              | true =>
                rw [hbl] at y2
                have HE := Lib.hid (show R = some ((x :: l).drop i, m) by
                  rw [← HSP.out, HDR.out]
                  exact rest_plain (by simp [Px.isFlag, hbl]))
                go_wp2_with fail
                go_meet
                exact ⟨i, m, fv, rfl, hiN, HE.out, HM.out⟩
              | false =>
                rw [hbl] at y2
                have HBL := Lib.hid hbl
                clear hbl
                by_cases h1 : 1 < P.size
                · have h1' : (1 : Int) < (P.size : Int) := by omega
                  have h0 : 0 < P.size := by omega
                  have HH := Lib.hid (sl_at h0)
                  by_cases h2 : (P[0].toNat : Int) = 45
                  · have hp0 : P[0] = 45 := UInt8.toNat_inj.1 (by show P[0].toNat = 45; omega)
                    have hsP : p.text = 45 :: (sl P).drop 1 := by
                      rw [← HP.out]
                      have := HH.out
                      rw [List.drop_zero, hp0] at this
                      exact this
                    have HF := Lib.hid (show Px.isFlag p = true by
                      rw [Px.isFlag, HBL.out]
                      have : 1 < p.text.length := by rw [← HP.out, sl_size]; exact h1
                      rw [hsP] at this ⊢
                      simpa using this)
                    have HTL := Lib.hid (show p.text.tail = (sl P).drop 1 by rw [hsP]; rfl)
                    have h2' : ((P[0].toNat : Int) == 45) = true := by simpa using h2
                    clear hp0
                    by_cases h3 : sl P = [45, 45]
                    · have h3' : (P.toList == [45, 45]) = true := by rw [beq_iff_eq, txt_list]; exact h3
                      have HE := Lib.hid (show R = some ((x :: l).drop (i + 1), m) by
                        rw [← HSP.out]
                        exact rest_dash HF.out (by rw [HTL.out, h3]; rfl))
                      clear h3 hsP
                      go_wp2_with fail
                      go_meet
                      exact ⟨i + 1, m, fv, by go_num, hlt, HE.out, HM.out⟩
                    · have h3' : (P.toList == [45, 45]) = false := by rw [beq_eq_false_iff_ne, txt_list]; exact h3
                      have HE := Lib.hid (show inOf r ((sl P).drop 1) ((x :: l).drop (i + 1)) m = R by
                        rw [← HSP.out, rest_flag HF.out, HTL.out]
                        intro e
                        rw [HTL.out] at e
                        refine h3 ?_
                        rw [HP.out, hsP, e])
                      clear h3 hsP
                      go_wp2_with fail
                      clear y0 y1 y2 h2 h2' h3'
                      go_loopw [9, 7] (fun s9 s7 wr => ∃ (k i' : Nat) (m : List Px.Fl) (fv : Value), s9 = .int .i64 k ∧ s7 = .int .i64 i' ∧ k ≤ P.size ∧ i < i' ∧ i' ≤ N ∧ inOf r ((sl P).drop k) ((x :: l).drop i') m = R ∧ WMem w wr K r x.line m fv) (fun s9 _ _ => P.size - (intOf s9).toNat)
                      case atStart => exact ⟨1, i + 1, m, fv, rfl, by go_num, by omega, Nat.lt_succ_self _, hlt, HE.out, HM.out⟩
                      case round =>
                        obtain ⟨k, j, m1, fv1, rfl, rfl, hk, hij, hjN, hs, hM⟩ := hrel
                        have HM1 := Lib.hid hM
                        have HS1 := Lib.hid hs
                        clear hM hs
                        by_cases hkl : k < P.size
                        · have HHk := Lib.hid (sl_at hkl)
                          obtain ⟨k0, k1, k2, k3, k4, k5⟩ := rrow_cells HM1.out.row
                          simp only [strV] at k0 k1 k2
                          obtain ⟨c0, c1, c2, c3, c4, c5, c6, c7⟩ := four_cells HM1.out.cmd
                          have HT := Lib.hid (fun W => HTK.out W P[k])
                          go_upto_region 15 with fail
                          go_cut [10, 11] (fun s10 s11 wx => s10 = .bool (Px.takes r P[k]).isSome ∧ s11 = .bool ((Px.takes r P[k]).getD false) ∧ Turns Nothing wr wx)
                          case first =>
                            go_region_with (go_at_call 21; refine (HT.out _).mono ?_; rintro e w3 ⟨rfl, ht3⟩; have H3 := Lib.hid ht3; clear ht3)
                            all_goals
                              go_wp2_with fail
                              go_meet
                              exact ⟨rfl, rfl, by first | exact ((Turns.refl Nothing wr).drewN 1).same H3.out | exact H3.out⟩
                          case rest =>
                            obtain ⟨rfl, rfl, ht3⟩ := hcut
                            have HM3 := Lib.hid (HM1.out.still ht3)
                            clear ht3 k0 k1 k2 k3 k4 k5 c0 c1 c2 c3 c4 c5 c6 c7
                            have hin := HS1.out
                            rw [HHk.out] at hin
                            have HIN := Lib.hid hin
                            clear hin
                            cases htk : Px.takes r P[k] with
                            | none =>
                              have HE9 := Lib.hid (HER.out (by rw [← HIN.out, in_none htk]))
                              simp only [Option.isSome, Option.getD]
                              obtain ⟨r0, r1, r2, r3, f0, f1, f2, f3⟩ := four_cells HM3.out.res
                              clear htk
                              go_wp2_with fail
                              have S := set_four HM3.out.res HM3.out.turns (.string ⟨#[]⟩) (.slice none 0 0) (.slice none 0 0) (.int .i64 0)
                              refine bodyPost_ret (results_cell_tmp Tryz.results7 _ _ _ ⟨w.heap.size, 0, none⟩ _ rfl (load_cmd _ _ _ _ _ _ S.1)) rfl ?_
                              exact ⟨S.2, by rw [HE9.out]; rfl⟩
                            | some v =>
                              have HTKc := Lib.hid htk
                              simp only [Option.isSome, Option.getD]
                              clear htk
                              obtain ⟨c0, c1, c2, c3, c4, c5, c6, c7⟩ := four_cells HM3.out.cmd
                              have hKw := HM3.out.cmd.lt
                              have hKne : K + 1 ≠ wc.heap.size := by omega
                              cases v with
                              | false =>
                                have HN1 := Lib.hid (in_bare HTKc.out ▸ HIN.out)
                                go_wp2_with fail
                                have T4 := Lib.hid ((Turns.refl Nothing wc).alloc (.cells #[.int .u8 P[k].toNat, .string ⟨#[]⟩] 67))
                                refine (rput_in (l := m1) (own_flags (HM3.out.still T4.out).own) (by have := Px.sorted_len HM3.out.srt; omega) (P[k], [])).mono ?_
                                rintro e w5 ⟨v5, rfl, ho5, ht5⟩
                                obtain ⟨A5, cp5, rfl⟩ := own_slice ho5
                                have HM5 := Lib.hid (HM3.out.put T4.out ht5 ho5)
                                have HB5 := Lib.hid (ht5.blk (HM3.out.still T4.out).cmd id)
                                obtain ⟨d0, d1, d2, d3, d4, d5, d6, d7⟩ := four_cells HB5.out
                                have hK5 := HB5.out.lt
                                clear ho5 ht5 c0 c1 c2 c3 c4 c5 c6 c7
                                go_wp2_with fail
                                go_roundw
                                case rel => exact ⟨k + 1, j, _, _, by go_num, rfl, hkl, hij, hjN, HN1.out, HM5.out⟩
                                case measure => simp [intOf]; omega
                              | true =>
                                by_cases hk1 : k + 1 < P.size
                                · have hk1' : (k : Int) + 1 < (P.size : Int) := by omega
                                  have HN1 := Lib.hid (show restOf r ((x :: l).drop j) (Px.putF (P[k], sl (P.extract (k + 1) P.size)) m1) = R by
                                    rw [← HIN.out, sl_from, sl_at hk1, in_full HTKc.out])
                                  clear HIN
                                  have T4 := Lib.hid ((Turns.refl Nothing wc).alloc (.cells #[.int .u8 P[k].toNat, .string (P.extract (k + 1) P.size)] 67))
                                  go_wp2_with fail
                                  generalize P.extract (k + 1) P.size = E at T4 HN1 ⊢
                                  refine (rput_str (l := m1) (own_flags (HM3.out.still T4.out).own) (by have := Px.sorted_len HM3.out.srt; omega) P[k] E).mono ?_
                                  rintro e w5 ⟨v5, rfl, ho5, ht5⟩
                                  obtain ⟨A5, cp5, rfl⟩ := own_slice ho5
                                  have HM5 := Lib.hid (HM3.out.put T4.out ht5 ho5)
                                  have HB5 := Lib.hid (ht5.blk (HM3.out.still T4.out).cmd id)
                                  obtain ⟨d0, d1, d2, d3, d4, d5, d6, d7⟩ := four_cells HB5.out
                                  have hK5 := HB5.out.lt
                                  clear ho5 ht5 c0 c1 c2 c3 c4 c5 c6 c7
                                  go_wp2_with fail
                                  go_roundw
                                  case rel => exact ⟨j, _, _, rfl, hjN, HN1.out, HM5.out⟩
                                  case measure => simp [intOf]; omega
                                · have hk1' : ¬ (k : Int) + 1 < (P.size : Int) := by omega
                                  have hdn : (sl P).drop (k + 1) = [] := List.drop_eq_nil_of_le (by rw [sl_size]; omega)
                                  have hin2 := HIN.out
                                  rw [hdn] at hin2
                                  by_cases hjl : j < N
                                  · obtain ⟨z0, z1, z2⟩ := HCE.out j hjl
                                    have hdrop := List.drop_eq_getElem_cons (l := x :: l) (i := j) (by rw [HN.out]; exact hjl)
                                    rw [hdrop] at hin2
                                    generalize (x :: l)[j]'(by rw [HN.out]; exact hjl) = p2 at z0 z1 z2 hin2
                                    have z0 := (HM3.out.turns.cell (p := ⟨b, _, none⟩) hbw.out id).trans z0
                                    have z1 := (HM3.out.turns.cell (p := ⟨b, _, none⟩) hbw.out id).trans z1
                                    have z2 := (HM3.out.turns.cell (p := ⟨b, _, none⟩) hbw.out id).trans z2
                                    have hbr3 : b < wc.heap.size := Nat.lt_of_lt_of_le hbw.out HM3.out.turns.size
                                    obtain ⟨E, hE⟩ : ∃ E : ByteArray, E = ⟨p2.text.toArray⟩ := ⟨_, rfl⟩
                                    have HN1 := Lib.hid (show restOf r ((x :: l).drop (j + 1)) (Px.putF (P[k], sl E) m1) = R by
                                      rw [← hin2, in_next HTKc.out, hE]
                                      rfl)
                                    simp only [strV] at z0
                                    rw [← hE] at z0
                                    have T4 := Lib.hid ((Turns.refl Nothing wc).alloc (.cells #[.int .u8 P[k].toNat, .string E] 67))
                                    clear hE HIN hin2 hdn hdrop
                                    go_wp2_with fail
                                    refine (rput_str (l := m1) (own_flags (HM3.out.still T4.out).own) (by have := Px.sorted_len HM3.out.srt; omega) P[k] E).mono ?_
                                    rintro e w5 ⟨v5, rfl, ho5, ht5⟩
                                    obtain ⟨A5, cp5, rfl⟩ := own_slice ho5
                                    have HM5 := Lib.hid (HM3.out.put T4.out ht5 ho5)
                                    have HB5 := Lib.hid (ht5.blk (HM3.out.still T4.out).cmd id)
                                    obtain ⟨d0, d1, d2, d3, d4, d5, d6, d7⟩ := four_cells HB5.out
                                    have hK5 := HB5.out.lt
                                    clear ho5 ht5 c0 c1 c2 c3 c4 c5 c6 c7
                                    go_wp2_with fail
                                    go_roundw
                                    case rel => exact ⟨j + 1, _, _, by go_num, hjl, HN1.out, HM5.out⟩
                                    case measure => simp [intOf]; omega
                                  · have hdl : (x :: l).drop j = [] := List.drop_eq_nil_of_le (by rw [HN.out]; omega)
                                    rw [hdl] at hin2
                                    have HE9 := Lib.hid (HER.out (by rw [← hin2, in_lacks HTKc.out]))
                                    obtain ⟨r0, r1, r2, r3, f0, f1, f2, f3⟩ := four_cells HM3.out.res
                                    have hz3 := HM3.out.res.lt
                                    clear hin2 hdl hdn HIN
                                    go_wp2_with fail
                                    have S := set_four HM3.out.res HM3.out.turns (.string ⟨#[]⟩) (.slice none 0 0) (.slice none 0 0) (.int .i64 0)
                                    refine bodyPost_ret (results_cell_tmp Tryz.results7 _ _ _ ⟨w.heap.size, 0, none⟩ _ rfl (load_cmd _ _ _ _ _ _ (S.1.alloc _))) rfl ?_
                                    exact ⟨S.2.alloc _, by rw [HE9.out]; rfl⟩
                        · obtain rfl : k = P.size := by omega
                          have HE1 := Lib.hid (show restOf r ((x :: l).drop j) m1 = R by
                            rw [← HS1.out, show (sl P).drop P.size = [] from List.drop_eq_nil_of_le (by rw [sl_size]; exact Nat.le_refl _)]
                            rfl)
                          go_wp2_with fail
                          go_roundw
                          case rel => exact ⟨j, m1, fv1, rfl, hjN, HE1.out, HM1.out⟩
                          case measure => simp [intOf]; omega
                  · have HE := Lib.hid (show R = some ((x :: l).drop i, m) by
                      rw [← HSP.out, HDR.out]
                      refine rest_plain ?_
                      rw [Px.isFlag, ← HP.out]
                      have := HH.out
                      rw [List.drop_zero] at this
                      rw [this]
                      have hne : P[0] ≠ 45 := fun e => h2 (by rw [e]; rfl)
                      simp [hne])
                    have h2' : ((P[0].toNat : Int) == 45) = false := by simpa using h2
                    go_wp2_with fail
                    go_meet
                    exact ⟨i, m, fv, rfl, hiN, HE.out, HM.out⟩
                · have HE := Lib.hid (show R = some ((x :: l).drop i, m) by
                    rw [← HSP.out, HDR.out]
                    refine rest_plain ?_
                    have : ¬ 1 < p.text.length := by rw [← HP.out, sl_size]; exact h1
                    simp [Px.isFlag, this])
                  go_wp2_with fail
                  go_meet
                  exact ⟨i, m, fv, rfl, hiN, HE.out, HM.out⟩
            · obtain rfl : i = N := by omega
              have HE := Lib.hid (show R = some ((x :: l).drop i, m) by
                rw [← HS.out, List.drop_eq_nil_of_le (by rw [HN.out]; exact Nat.le_refl _)]
                rfl)
              go_wp2_with fail
              go_meet
              exact ⟨i, m, fv, rfl, hiN, HE.out, HM.out⟩
        case rest =>
          obtain ⟨i0, m, fv, rfl, hi0N, hRv, hM⟩ := hcut
          have HWd2 := Lib.hid (show Px.words (x :: l) = cmdOf r x.line (some ((x :: l).drop i0, m)) by rw [HWd.out, hRv])
          have hrl : ((x :: l).drop i0).length = N - i0 := by rw [List.length_drop, HN.out]
          have HRC := Lib.hid (show ∀ k (hk : k < ((x :: l).drop i0).length), w.cell? ⟨b, off + (i0 + k) * 3, none⟩ = some (strV ((x :: l).drop i0)[k].text) from fun k hk => by
            have := (HCE.out (i0 + k) (by omega)).1
            rw [List.getElem_drop]
            exact this)
          have HA0 := Lib.hid (hM.args ((x :: l).drop i0))
          generalize (x :: l).drop i0 = rest at HWd2 hrl HRC HA0
          obtain ⟨A6, c6, rfl⟩ := own_slice hM.own
          obtain ⟨j0, hj0, hz0, hz1, hz2⟩ := info_parts A.info_str
          have hrN : (rest.length : Int) ≤ 10000000000 := by omega
          have HRL := Lib.hid hrl
          clear hRv hM HER HR HM0 HWd HCE hrl
          go_wp2_with fail
          go_loopw [7] (fun s7 wr => ∃ (k : Nat) (av : Value), s7 = .int .i64 ((i0 + k : Nat) : Int) ∧ WArgs w wr K r x.line m (.slice A6 m.length c6) rest k av) (fun s7 _ => N - (intOf s7).toNat)
          case atStart => exact ⟨0, _, rfl, HA0.out⟩
          case round =>
            obtain ⟨k, av, rfl, hA⟩ := hrel
            obtain ⟨A2, cp2, rfl⟩ := own_slice hA.args
            have hk := hA.le
            have HA := Lib.hid hA
            clear hA
            by_cases hlt : k < rest.length
            · have y0 := HRC.out k hlt
              have y0 := (HA.out.turns.cell (p := ⟨b, _, none⟩) hbw.out id).trans y0
              have hbr : b < wr.heap.size := Nat.lt_of_lt_of_le hbw.out HA.out.turns.size
              obtain ⟨tx, htx⟩ : ∃ tx : ByteArray, tx = ⟨rest[k].text.toArray⟩ := ⟨_, rfl⟩
              simp only [strV] at y0
              rw [← htx] at y0
              have HTX := Lib.hid htx
              obtain ⟨d0, d1, d2, d3, -, -, -, -⟩ := four_cells HA.out.cmd
              have hzc := HA.out.cmd.lt
              have hiN : ((i0 + k : Nat) : Int) < (N : Int) := by have := HRL.out; omega
              have hi0' : (0 : Int) ≤ ((i0 + k : Nat) : Int) := by omega
              obtain ⟨I, hI⟩ : ∃ I : Nat, i0 + k = I := ⟨_, rfl⟩
              rw [hI] at hiN hi0' y0 ⊢
              have hIN : I < N := by omega
              have HI := Lib.hid hI
              clear htx hI
              have HOW := Lib.hid (fun W (h : Turns Nothing wr W) => h.own HA.out.args fun _ _ => id)
              have HPF := Lib.hid (fun W w6 (h : Turns Nothing wr W) (hg : W.grownBy w6 (Value.slice A2 k cp2).ownBlock) => ((HA.out.still h).grown hg).2.2.1)
              have HST := Lib.hid (fun W w6 A3 cp3 (h : Turns Nothing wr W) (hg : W.grownBy w6 (Value.slice A2 k cp2).ownBlock) (ho : w6.ownsRow (K + 2) 9 1 (.slice A3 (k + 1) cp3) (k + 1) (((rest.take k).map fun x => strV x.text) ++ [.string tx])) => (HA.out.still h).step hlt HTX.out hg ho)
              go_upto_region 29 with fail
              go_region_law (refine step_append_src _ (by rfl) _ _ _ _ (by rfl) (K + 2) 9 j0 _ 1 16 Tryz.underlying25 hj0 hz0 hz1 hz2 (by rfl) (.slice A2 k cp2) k ((rest.take k).map fun x => strV x.text) (by rfl) (by exact HOW.out _ (by first | exact (Turns.refl _ wr).alloc _ | exact ((Turns.refl _ wr).drewN _).alloc _ | exact (((Turns.refl _ wr).drewN 1).drewN _).alloc _)) _ 1 [.string tx] (by rfl) (by first | exact psrc_block Tryz.underlying25 (Blk.new wr _ _) 1 1 rfl (by intro u hu; simp at hu; rcases hu with rfl; rfl)) (by simp only [maxLen]; omega) (by omega) (by simp; omega) ?_; intro A3 cp3 w6 ho1 hg1 hat1; have kb := HPF.out _ w6 (by first | exact (Turns.refl _ wr).alloc _ | exact ((Turns.refl _ wr).drewN _).alloc _ | exact (((Turns.refl _ wr).drewN 1).drewN _).alloc _) hg1; have k2 := kb.cell 2; have k3 := kb.frozen 2; have HN := Lib.hid (HST.out _ w6 A3 cp3 (by first | exact (Turns.refl _ wr).alloc _ | exact ((Turns.refl _ wr).drewN _).alloc _ | exact (((Turns.refl _ wr).drewN 1).drewN _).alloc _) hg1 ho1); clear ho1 hg1 hat1 kb)
              all_goals
                go_wp2_with fail
                go_roundw
                case rel => exact ⟨k + 1, _, by rw [← HI.out]; go_num, HN.out⟩
                case measure => simp [intOf]; omega
            · obtain rfl : k = rest.length := by omega
              have hkN : i0 + rest.length = N := by have := HRL.out; omega
              rw [hkN]
              obtain ⟨d0, d1, d2, d3, -, -, -, -⟩ := four_cells HA.out.cmd
              obtain ⟨q0, q1, q2, q3, q4, q5⟩ := rrow_cells HA.out.row
              have hzc := HA.out.cmd.lt
              clear hkN
              go_upto_region 31 with fail
              go_cut [168] (fun s168 wx => s168 = .bool (decide ((rest.length : Int) < r.few ∨ (0 ≤ r.most ∧ r.most < rest.length))) ∧ wx = wr)
              case first =>
                by_cases h1 : (rest.length : Int) < r.few
                · go_wp2_with fail
                  go_meet
                  exact ⟨by rw [decide_eq_true (.inl h1)], rfl⟩
                · by_cases h2 : 0 ≤ r.most
                  · by_cases h3 : r.most < rest.length
                    · go_wp2_with fail
                      go_meet
                      exact ⟨by rw [decide_eq_true (.inr ⟨h2, h3⟩)], rfl⟩
                    · go_wp2_with fail
                      go_meet
                      exact ⟨by rw [decide_eq_false (by omega)], rfl⟩
                  · go_wp2_with fail
                    go_meet
                    exact ⟨by rw [decide_eq_false (by omega)], rfl⟩
              case rest =>
                obtain ⟨rfl, rfl⟩ := hcut
                obtain ⟨r0, r1, r2, r3, f0, f1, f2, f3⟩ := four_cells HA.out.res
                clear q0 q1 q2 q3 q4 q5
                by_cases hcond : (rest.length : Int) < r.few ∨ (0 ≤ r.most ∧ r.most < rest.length)
                · rw [decide_eq_true hcond]
                  have HC := Lib.hid hcond
                  clear hcond
                  go_wp2_with fail
                  have S := set_four HA.out.res HA.out.turns (.string ⟨#[]⟩) (.slice none 0 0) (.slice none 0 0) (.int .i64 0)
                  refine bodyPost_ret (results_cell_tmp Tryz.results7 _ _ _ ⟨w.heap.size, 0, none⟩ _ rfl (load_cmd _ _ _ _ _ _ S.1)) rfl ?_
                  exact ⟨S.2, by rw [HWd2.out, cmdOf, if_pos HC.out]; rfl⟩
                · rw [decide_eq_false hcond]
                  have HC := Lib.hid hcond
                  clear hcond
                  go_wp2_with fail
                  have S := set_four HA.out.res HA.out.turns (.string ⟨r.name.toArray⟩) (.slice A6 m.length c6) (.slice A2 rest.length cp2) (.int .i64 x.line)
                  refine bodyPost_ret (results_cell_tmp Tryz.results7 _ _ _ ⟨w.heap.size, 0, none⟩ _ rfl (load_cmd _ _ _ _ _ _ S.1)) rfl ?_
                  exact ⟨S.2, by
                    rw [HWd2.out, cmdOf, if_neg HC.out]
                    exact ⟨_, rfl, HA.out.fin _ _ _ _⟩⟩
end Go.Proofs.YtedlhdegdlabhaaGreatDoor
