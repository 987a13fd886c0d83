/- The walk of package parse: Words: words become a command. -/
import Derived.Test.YtiopaenonjhlnaaGreatDoorParseRead
import Derived.Test.YtiopaenonjhlnaaGreatDoorParseTakes
import Derived.StillTailTactics
namespace Go.Proofs.YtiopaenonjhlnaaGreatDoor
set_option maxRecDepth 8000
open Go.RowKit
open Lx (Bytes)

def zeroCmd : Value := .agg #[.string ⟨#[]⟩, .slice none 0 0, .slice none 0 0, .int .i64 0]
abbrev zeroCs : Array Value := #[.string ⟨#[]⟩, .slice none 0 0, .slice none 0 0, .int .i64 0]
theorem load_cmd (w : World) (g : Nat) (v0 v1 v2 v3 : Value) (h : Blk w g 57 #[v0, v1, v2, v3]) : (loadVar 57 ⟨g, 0, none⟩).run Tryz.prog w = .ok (.agg #[v0, v1, v2, v3]) w := by
  have d0 := h.cell 0
  have d1 := h.cell 1
  have d2 := h.cell 2
  have d3 := h.cell 3
  clear h
  simp at d0 d1 d2 d3
  simp [go_sem, d0, d1, d2, d3]
theorem set_four {w wr : World} {a0 a1 a2 a3 : Value} {t : TypeId} (h : Blk wr w.heap.size t #[a0, a1, a2, a3]) (ht : Turns Nothing w wr) (v0 v1 v2 v3 : Value) :
    Blk ((((wr.setCell ⟨w.heap.size, 0, none⟩ v0).setCell ⟨w.heap.size, 1, none⟩ v1).setCell ⟨w.heap.size, 2, none⟩ v2).setCell ⟨w.heap.size, 3, none⟩ v3) w.heap.size t #[v0, v1, v2, v3] ∧
    Turns Nothing w ((((wr.setCell ⟨w.heap.size, 0, none⟩ v0).setCell ⟨w.heap.size, 1, none⟩ v1).setCell ⟨w.heap.size, 2, none⟩ v2).setCell ⟨w.heap.size, 3, none⟩ v3) :=
  ⟨(((h.set_ 0 v0).set_ 1 v1).set_ 2 v2).set_ 3 v3, (((ht.setCell (.inr (Nat.le_refl _)) v0).setCell (.inr (Nat.le_refl _)) v1).setCell (.inr (Nat.le_refl _)) v2).setCell (.inr (Nat.le_refl _)) v3⟩
theorem four_cells {w : World} {b : Nat} {t : TypeId} {v0 v1 v2 v3 : Value} (h : Blk w b t #[v0, v1, v2, v3]) :
    w.cell? ⟨b, 0, none⟩ = some v0 ∧ w.cell? ⟨b, 1, none⟩ = some v1 ∧ w.cell? ⟨b, 2, none⟩ = some v2 ∧ w.cell? ⟨b, 3, none⟩ = some v3 ∧
    w.frozen? ⟨b, 0, none⟩ = false ∧ w.frozen? ⟨b, 1, none⟩ = false ∧ w.frozen? ⟨b, 2, none⟩ = false ∧ w.frozen? ⟨b, 3, none⟩ = false :=
  ⟨h.cell 0, h.cell 1, h.cell 2, h.cell 3, h.frozen 0, h.frozen 1, h.frozen 2, h.frozen 3⟩
def WordsPost (w : World) (R : Except Int Px.Cmd) (e : Ending) (w' : World) : Prop := Turns Nothing w w' ∧ match R with
  | .error c => e = .returned (.tuple #[zeroCmd, .int .i64 c])
  | .ok c => ∃ cv, e = .returned (.tuple #[cv, .int .i64 0]) ∧ CmdAt w' w.heap.size cv c

theorem A.info_str : (Tryz.prog.info? 9).map (fun i => (i.zero, i.size, i.bytes)) = some (some (.string ⟨#[]⟩), 1, 16) := by kernel_rfl
/-- a command's arguments, some of them -/
structure ArgsRel (wc wr : World) (name : Bytes) (fv : Value) (line : Int) (rest : List Px.PW) (k : Nat) (av : Value) : Prop where
  le : k ≤ rest.length
  blk : Blk wr wc.heap.size 57 #[.string ⟨name.toArray⟩, fv, av, .int .i64 line]
  own : wr.ownsRow (wc.heap.size + 1) 9 1 av k ((rest.take k).map fun x => strV x.text)
  turns : Turns Nothing wc wr
theorem ArgsRel.step {wc wr : World} {name : Bytes} {fv : Value} {line : Int} {rest : List Px.PW} {k : Nat} {av : Value} (h : ArgsRel wc wr name fv line rest k av) (hlt : k < rest.length) {w2 w3 : World} {av' : Value} {tx : ByteArray} (htx : tx = ⟨rest[k].text.toArray⟩)
    (h2 : Turns Nothing wr w2) (hg : w2.grownBy w3 av.ownBlock) (ho : w3.ownsRow (wc.heap.size + 1) 9 1 av' (k + 1) (((rest.take k).map fun x => strV x.text) ++ [.string tx])) (hb : Blk w3 wc.heap.size 57 #[.string ⟨name.toArray⟩, fv, av, .int .i64 line]) :
    ArgsRel wc (w3.setCell ⟨wc.heap.size, 2, none⟩ av') name fv line rest (k + 1) av' := by
  have hT : Turns (Only wc.heap.size) w3 (w3.setCell ⟨wc.heap.size, 2, none⟩ av') := (Turns.refl (Only wc.heap.size) w3).setCell (p := ⟨wc.heap.size, 2, none⟩) (.inl rfl) av'
  refine ⟨hlt, hb.set_ 2 av', ?_, ?_⟩
  · have e : ((rest.take (k + 1)).map fun x => strV x.text) = ((rest.take k).map fun x => strV x.text) ++ [.string tx] := by
      rw [List.take_succ_eq_append_getElem hlt, List.map_append, htx]
      rfl
    rw [e]
    refine hT.own ho fun g hg2 e => ?_
    have := (ho.lt g hg2).1
    have e2 : g = wc.heap.size := e
    omega
  · refine ((h.turns.same h2).grown hg fun b hb2 e => ?_).setCell (p := ⟨wc.heap.size, 2, none⟩) (.inr (Nat.le_refl _)) av'
    have := (h.own.lt b e).1
    omega
theorem set_four_only {wr : World} {R : Nat} (v0 v1 v2 v3 : Value) : Turns (Only R) wr ((((wr.setCell ⟨R, 0, none⟩ v0).setCell ⟨R, 1, none⟩ v1).setCell ⟨R, 2, none⟩ v2).setCell ⟨R, 3, none⟩ v3) :=
  ((((Turns.refl (Only R) wr).setCell (p := ⟨R, 0, none⟩) (.inl rfl) v0).setCell (p := ⟨R, 1, none⟩) (.inl rfl) v1).setCell (p := ⟨R, 2, none⟩) (.inl rfl) v2).setCell (p := ⟨R, 3, none⟩) (.inl rfl) v3
theorem ArgsRel.cmd {w wc wr : World} {r : Px.Row} {m : List Px.Fl} {A6 A2 : Option Addr} {c6 cp2 : Nat} {line : Int} {rest : List Px.PW} (h : ArgsRel wc wr r.name (.slice A6 m.length c6) line rest rest.length (.slice A2 rest.length cp2)) (hres : Blk wc w.heap.size 57 zeroCs) (_ht : Turns Nothing w wc)
    (hf : wc.ownsRow w.heap.size 121 2 (.slice A6 m.length c6) m.length (flagCells m)) (v0 v1 v2 v3 : Value) :
    CmdAt ((((wr.setCell ⟨w.heap.size, 0, none⟩ v0).setCell ⟨w.heap.size, 1, none⟩ v1).setCell ⟨w.heap.size, 2, none⟩ v2).setCell ⟨w.heap.size, 3, none⟩ v3) w.heap.size
      (.agg #[.string ⟨r.name.toArray⟩, .slice A6 m.length c6, .slice A2 rest.length cp2, .int .i64 line]) ⟨r.name, m, rest.map (·.text), line⟩ := by
  have hs := set_four_only (wr := wr) (R := w.heap.size) v0 v1 v2 v3
  refine ⟨_, _, rfl, ?_, ?_⟩
  · refine hs.own (h.turns.own hf fun _ _ => id) fun g hg e => ?_
    exact own_blk_ne hf hres (by decide) (by rw [hg, e])
  · have ho := h.own
    rw [List.take_length] at ho
    rw [List.length_map, List.map_map]
    refine own_weak (hs.own ho fun g hg e => ?_) (by have := hres.lt; omega)
    have h1 := (ho.lt g hg).1
    have h2 := hres.lt
    have e2 : g = w.heap.size := e
    omega
theorem flagsN_len {r : Px.Row} : ∀ {n : Nat} {l : List Px.PW} {m : List Px.Fl} {l' : List Px.PW} {m' : List Px.Fl}, Px.flagsN r n l m = some (l', m') → l'.length ≤ l.length
  | 0, l, m, l', m', h => by simp [Px.flagsN] at h; rw [h.1]; exact Nat.le_refl _
  | n + 1, [], m, l', m', h => by simp [Px.flagsN] at h; rw [h.1]; exact Nat.le_refl _
  | n + 1, x :: l, m, l', m', h => by
    simp only [Px.flagsN] at h
    split at h
    · split at h
      · simp at h; rw [← h.1]; simp
      · split at h
        · cases h
        · rename_i e
          have h1 := flagsN_len h
          have h2 := Px.letters_len e
          rw [List.length_cons]
          omega
    · simp at h; rw [← h.1]; exact Nat.le_refl _
theorem flags_len {r : Px.Row} {l : List Px.PW} {l' : List Px.PW} {m' : List Px.Fl} (h : Px.flags r l = some (l', m')) : l'.length ≤ l.length := flagsN_len h
/-- a command of the flags and the rest -/
def cmdOf (r : Px.Row) (line : Int) : Option (List Px.PW × List Px.Fl) → Except Int Px.Cmd
  | none => .error 9
  | some (rest, m) => if (rest.length : Int) < r.few ∨ (0 ≤ r.most ∧ r.most < rest.length) then .error 9 else .ok ⟨r.name, m, rest.map (·.text), line⟩
theorem words_none {x : Px.PW} {l : List Px.PW} (hb : x.block = false) (hf : Px.found x.text = none) : Px.words (x :: l) = .error 10 := by
  simp only [Px.words, hb, hf]
  rfl
/-- what read gives -/
def ReadVals (w w' : World) (R : Option (List Px.PW × List Px.Fl)) (fv rv : Value) (b : Bool) : Prop := match R with
  | none => b = false
  | some (rest, m) => b = true ∧ w'.ownsRow w.heap.size 121 2 fv m.length (flagCells m) ∧ PWordsAt w' rv rest
theorem ReadVals.weak {w0 w w' : World} {R : Option (List Px.PW × List Px.Fl)} {fv rv : Value} {b : Bool} (h : ReadVals w w' R fv rv b) (hs : w0.heap.size ≤ w.heap.size) : ReadVals w0 w' R fv rv b := by
  match R, h with
  | none, h => exact h
  | some (rest, m), ⟨h0, h1, h2⟩ => exact ⟨h0, own_weak h1 hs, h2⟩
theorem PReadPost.vals {w w' : World} {R : Option (List Px.PW × List Px.Fl)} {e : Ending} (h : PReadPost w R e w') : ∃ fv rv b, e = .returned (.tuple #[fv, rv, .bool b]) ∧ Turns Nothing w w' ∧ ReadVals w w' R fv rv b := by
  obtain ⟨ht, h⟩ := h
  match R, h with
  | none, h => exact ⟨_, _, _, h, ht, rfl⟩
  | some (rest, m), ⟨fv, rv, he, h1, h2⟩ => exact ⟨fv, rv, true, he, ht, rfl, h1, h2⟩
theorem words_some {x : Px.PW} {l : List Px.PW} {r : Px.Row} (hb : x.block = false) (hf : Px.found x.text = some r) : Px.words (x :: l) = cmdOf r x.line (Px.flags r l) := by
  simp only [Px.words, hb, hf, cmdOf]
  cases Px.flags r l <;> rfl
theorem foundIn_mem {s : Bytes} {r : Px.Row} : ∀ (t l : List Px.Row), (∀ x ∈ l, x ∈ Px.table) → (∀ x ∈ t, x ∈ Px.table) → Px.foundIn s t l = some r → r ∈ Px.table
  | [], l, hl, _, h => by
    match l, h with
    | [x], h => simp [Px.foundIn] at h; exact h ▸ hl x List.mem_cons_self
  | x :: t, l, hl, ht, h => by
    simp only [Px.foundIn] at h
    split at h
    · injection h with h; exact h ▸ ht x List.mem_cons_self
    · refine foundIn_mem t _ (fun y hy => ?_) (fun y hy => ht y (List.mem_cons_of_mem _ hy)) h
      split at hy
      · rcases List.mem_append.1 hy with hy | hy
        · exact hl y hy
        · rw [List.mem_singleton.1 hy]; exact ht x List.mem_cons_self
      · exact hl y hy
theorem found_mem {s : Bytes} {r : Px.Row} (h : Px.found s = some r) : r ∈ Px.table := foundIn_mem _ _ (fun _ hx => (List.not_mem_nil hx).elim) (fun _ hx => hx) h
theorem found_flags {s : Bytes} {r : Px.Row} (h : Px.found s = some r) : r.flags.length ≤ 1000 := by
  have h1 := List.all_eq_true.1 Px.others_short r (found_mem h)
  simp only [Bool.and_eq_true, decide_eq_true_eq] at h1
  omega
set_option maxHeartbeats 2000000 in
theorem words_in {w : World} (hsp : Space w) (v : Value) (l0 : List Px.PW) (hl : PWordsAt w v l0) (hmax : l0.length ≤ 10000000000) :
    Calls Tryz.prog 34 #[v] w (WordsPost w (Px.words l0)) := by
  cases l0 with
  | nil =>
    obtain ⟨A, c, rfl⟩ := hl.nil
    clear hl hsp
    go_enter Tryz.func34, Tryz.ntmps34
    go_wp2_with fail
    refine bodyPost_ret (results_cell_tmp Tryz.results34 _ _ _ ⟨w.heap.size, 0, none⟩ _ rfl (load_cmd _ _ _ _ _ _ (Blk.new w _ _))) rfl ?_
    exact ⟨(Turns.refl _ w).alloc _, rfl⟩
  | cons x l =>
    obtain ⟨b, off, c, rfl, hc1, hc2, hb, x0, x1, x2, htl⟩ := hl.cons
    simp only [strV] at x0
    have HL := Lib.hid (And.intro hl htl)
    have SP := Lib.hid hsp
    clear hl htl hsp
    obtain ⟨X, hX⟩ : ∃ X : ByteArray, X = ⟨x.text.toArray⟩ := ⟨_, rfl⟩
    have HX := Lib.hid (show sl X = x.text by rw [hX]; rfl)
    rw [← hX] at x0
    clear hX
    cases hbl : x.block with
    | true =>
      rw [hbl] at x2
      have he : Px.words (x :: l) = .error 10 := by simp [Px.words, hbl]
      rw [he]
      clear he
      go_enter Tryz.func34, Tryz.ntmps34
      go_wp2_with fail
      refine bodyPost_ret (results_cell_tmp Tryz.results34 _ _ _ ⟨w.heap.size, 0, none⟩ _ rfl (load_cmd _ _ _ _ _ _ (Blk.new w _ _))) rfl ?_
      exact ⟨(Turns.refl _ w).alloc _, rfl⟩
    | false =>
      rw [hbl] at x2
      have HB := Lib.hid hbl
      clear hbl
      go_enter Tryz.func34, Tryz.ntmps34
      go_wp2_with fail
      refine (found_in (SP.out.still ((Turns.refl _ _).alloc _)) X).mono ?_
      rintro e w1 ⟨rfl, ht⟩
      have hres := ht.blk (Blk.new w 57 zeroCs) id
      have hT1 := ((Turns.refl Nothing w).alloc (.cells zeroCs 57)).same ht
      have HRes := Lib.hid hres
      have HT1 := Lib.hid hT1
      have hz := hres.lt
      obtain ⟨r0, r1, r2, r3, f0, f1, f2, f3⟩ := four_cells hres
      have x0 := (hT1.cell (p := ⟨b, off, none⟩) hb id).trans x0
      have HX1 := Lib.hid x1
      have x1 := (hT1.cell (p := ⟨b, off + 1, none⟩) hb id).trans x1
      have x2 := (hT1.cell (p := ⟨b, off + 2, none⟩) hb id).trans x2
      clear ht hT1 hres
      cases hf : Px.found (sl X) with
      | none =>
        have HFd := Lib.hid hf
        clear hf
        simp only [rowOr, Option.getD, Option.isSome, zeroRow, rowV, strV]
        go_wp2_with fail
        have S := set_four HRes.out HT1.out (.string ⟨#[]⟩) (.slice none 0 0) (.slice none 0 0) (.int .i64 0)
        refine bodyPost_ret (results_cell_tmp Tryz.results34 _ _ _ ⟨w.heap.size, 0, none⟩ _ rfl (load_cmd _ _ _ _ _ _ (S.1.alloc _))) rfl ?_
        exact ⟨S.2.alloc _, by rw [words_none HB.out (by rw [← HX.out]; exact HFd.out)]; rfl⟩
      | some r =>
        have HWd := Lib.hid (words_some (l := l) HB.out (by rw [← HX.out]; exact hf))
        have HFd := Lib.hid hf
        clear hf
        obtain ⟨A5, hA5⟩ : ∃ A5, (if c = 0 then some (⟨b, off, none⟩ : Addr) else some ⟨b, off + 3, none⟩) = A5 := ⟨_, rfl⟩
        have hwd := HL.out.2
        rw [hA5] at hwd
        have hfl : r.flags.length ≤ 1000 := found_flags HFd.out
        have HRD := Lib.hid (fun (W : World) (h : Turns Nothing w W) => (pread_in r hfl _ l (hwd.still h)).mono fun e w' h => PReadPost.vals h)
        clear hwd hfl
        simp only [rowOr, Option.getD, Option.isSome]
        simp only [rowV, strV]
        go_upto_region 6 with fail
        have HT2 := Lib.hid (HT1.out.alloc (.cells (rowCs r) 139))
        have HRow := Lib.hid (Blk.new w1 139 (rowCs r))
        have HRes2 := Lib.hid (HRes.out.alloc (.cells (rowCs r) 139))
        go_cut [5, 6, 7] (fun s5 s6 s7 wx => ∃ fv rv b, s5 = .bool b ∧ s6 = fv ∧ s7 = rv ∧ Turns Nothing w wx ∧ ReadVals w wx (Px.flags r l) fv rv b ∧ Blk wx w1.heap.size 139 (rowCs r) ∧ Blk wx w.heap.size 57 zeroCs)
        case first =>
          clear x0 x1 x2 r0 r1 r2 r3 f0 f1 f2 f3 hz
          go_region_with (go_at_call 58; refine (HRD.out _ (by first | exact HT2.out.drewN 1 | exact HT2.out)).mono ?_; rintro e w3 ⟨fv, rv, bb, rfl, ht3, hv3⟩; have H3 := Lib.hid (And.intro ht3 hv3); clear ht3 hv3)
          all_goals
            go_wp2_with fail
            go_meet
            exact ⟨fv, rv, bb, rfl, rfl, rfl, (HT2.out.drewN 1).same H3.out.1, H3.out.2.weak (by have := HT2.out.size; exact this), H3.out.1.blk HRow.out id, H3.out.1.blk HRes2.out id⟩
        case rest =>
          obtain ⟨s6, s7, bb, rfl, rfl, rfl, ht, hv, hrow, hres⟩ := hcut
          cases hfr : Px.flags r l with
          | none =>
            rw [hfr] at hv
            have HFr := Lib.hid hfr
            obtain rfl : bb = false := hv
            obtain ⟨r0, r1, r2, r3, f0, f1, f2, f3⟩ := four_cells hres
            have HX2 := Lib.hid (And.intro hres ht)
            clear ht hres hrow hfr
            go_wp2_with fail
            have S := set_four HX2.out.1 HX2.out.2 (.string ⟨#[]⟩) (.slice none 0 0) (.slice none 0 0) (.int .i64 0)
            refine bodyPost_ret (results_cell_tmp Tryz.results34 _ _ _ ⟨w.heap.size, 0, none⟩ _ rfl (load_cmd _ _ _ _ _ _ S.1)) rfl ?_
            exact ⟨S.2, by rw [HWd.out, HFr.out]; rfl⟩
          | some y =>
            obtain ⟨rest, m⟩ := y
            rw [hfr] at hv
            have HFr := Lib.hid hfr
            obtain ⟨rfl, hown, hwd⟩ := hv
            obtain ⟨A7, c7, e7, -⟩ := hwd.at_
            subst e7
            obtain ⟨A6, c6, rfl⟩ := own_slice hown
            obtain ⟨q0, q1, q2, q3, q4⟩ := five_cells hrow
            simp only [strV] at q0 q1 q2
            have hlen : (rest.length : Int) ≤ 10000000000 := by
              have h1 := flags_len hfr
              simp only [List.length_cons] at hmax
              omega
            have HX2 := Lib.hid (And.intro (And.intro hres ht) (And.intro hrow (And.intro hown hwd)))
            clear ht hres hrow hfr hown hwd
            go_upto_region 7 with fail
            go_cut [60] (fun s60 wx => s60 = .bool (decide ((rest.length : Int) < r.few ∨ (0 ≤ r.most ∧ r.most < rest.length))) ∧ wx = wc)
            case first =>
              by_cases h1 : (rest.length : Int) < r.few
              · go_wp2_with fail
                go_meet
                exact ⟨by rw [decide_eq_true (.inl h1)], rfl⟩
              · by_cases h2 : 0 ≤ r.most
                · by_cases h3 : r.most < rest.length
                  · go_wp2_with fail
                    go_meet
                    exact ⟨by rw [decide_eq_true (.inr ⟨h2, h3⟩)], rfl⟩
                  · go_wp2_with fail
                    go_meet
                    exact ⟨by rw [decide_eq_false (by omega)], rfl⟩
                · go_wp2_with fail
                  go_meet
                  exact ⟨by rw [decide_eq_false (by omega)], rfl⟩
            case rest =>
              obtain ⟨rfl, rfl⟩ := hcut
              by_cases hcond : (rest.length : Int) < r.few ∨ (0 ≤ r.most ∧ r.most < rest.length)
              · rw [decide_eq_true hcond]
                have HC := Lib.hid hcond
                obtain ⟨r0, r1, r2, r3, f0, f1, f2, f3⟩ := four_cells HX2.out.1.1
                clear hcond q0 q1 q2 q3 q4
                go_wp2_with fail
                have S := set_four HX2.out.1.1 HX2.out.1.2 (.string ⟨#[]⟩) (.slice none 0 0) (.slice none 0 0) (.int .i64 0)
                refine bodyPost_ret (results_cell_tmp Tryz.results34 _ _ _ ⟨w.heap.size, 0, none⟩ _ rfl (load_cmd _ _ _ _ _ _ S.1)) rfl ?_
                exact ⟨S.2, by rw [HWd.out, HFr.out, cmdOf, if_pos HC.out]; rfl⟩
              · rw [decide_eq_false hcond]
                have HC := Lib.hid hcond
                have x1 := (HX2.out.1.2.cell (p := ⟨b, off + 1, none⟩) hb id).trans HX1.out
                have hzb : b < wc.heap.size := Nat.lt_of_lt_of_le hb HX2.out.1.2.size
                have hz1 := HX2.out.2.1.lt
                have hz0 := HX2.out.1.1.lt
                clear hcond q1 q2 q3 q4
                go_wp2_with fail
                go_region
                have hA0 : ArgsRel wc (wc.alloc (.cells #[.string ⟨r.name.toArray⟩, .slice A6 m.length c6, .slice none 0 0, .int .i64 x.line] 57)).drew r.name (.slice A6 m.length c6) x.line rest 0 (.slice none 0 0) :=
                  ⟨Nat.zero_le _, (Blk.new wc _ _).drewN 1, World.ownsRow_nil _ _ _ _, ((Turns.refl _ _).alloc _).drewN 1⟩
                have HA0 := Lib.hid hA0
                obtain ⟨i0, hi0, hz0', hz1', hz2'⟩ := info_parts A.info_str
                clear hA0 q0 r0 r1 r2 r3 f0 f1 f2 f3 x0 x1 x2
                go_wp2_with fail
                go_loopw [72] (fun i wr => ∃ (k : Nat) (av : Value), i = .int .i64 k ∧ ArgsRel wc wr r.name (.slice A6 m.length c6) x.line rest k av) (fun i _ => rest.length - (intOf i).toNat)
                case atStart => exact ⟨0, _, rfl, HA0.out⟩
                case round =>
                  obtain ⟨k, av, rfl, hA⟩ := hrel
                  obtain ⟨A2, cp2, rfl⟩ := own_slice hA.own
                  have hk := hA.le
                  by_cases hlt : k < rest.length
                  · obtain ⟨bw, ow, rfl, hbw, y0, y1, y2⟩ := HX2.out.2.2.2.cells k hlt
                    have y0 := (hA.turns.cell (p := ⟨bw, ow + k * 3, none⟩) hbw id).trans y0
                    have y1 := (hA.turns.cell (p := ⟨bw, ow + k * 3 + 1, none⟩) hbw id).trans y1
                    have y2 := (hA.turns.cell (p := ⟨bw, ow + k * 3 + 2, none⟩) hbw id).trans y2
                    have hzw : bw < wr.heap.size := Nat.lt_of_lt_of_le hbw hA.turns.size
                    have hzc := hA.blk.lt
                    obtain ⟨d0, d1, d2, d3, g0, g1, g2, g3⟩ := four_cells hA.blk
                    simp only [strV] at y0
                    obtain ⟨tx, htx⟩ : ∃ tx : ByteArray, tx = ⟨rest[k].text.toArray⟩ := ⟨_, rfl⟩
                    rw [← htx] at y0
                    have HA := Lib.hid (And.intro hA htx)
                    have hO := ((Turns.refl Nothing wr).alloc (.cells #[.string tx, .int .i64 rest[k].line, .bool rest[k].block] 104)).alloc (.cells #[.string tx] 9) |>.own hA.own fun _ _ => id
                    have hSc := psrc_block (size := 1) Tryz.underlying55 (blk_new_at (w := wr.alloc (.cells #[.string tx, .int .i64 rest[k].line, .bool rest[k].block] 104)) (g := wr.heap.size + 1) (t := 9) (cs := #[.string tx]) (by simp [go_sem])) 1 1 rfl (by simp [Value.oneCell'])
                    have hm : k + 1 ≤ maxLen := by simp only [maxLen]; omega
                    have hy : ((k + 1) + (k + 1 + 768) / 4 + 512) * 16 ≤ 281474976710656 := by omega
                    have hb2 : wc.heap.size + 1 ≤ ((wr.alloc (.cells #[.string tx, .int .i64 rest[k].line, .bool rest[k].block] 104)).alloc (.cells #[.string tx] 9)).heap.size := by simp [go_sem]; omega
                    have hbk := (hA.blk.alloc (.cells #[.string tx, .int .i64 rest[k].line, .bool rest[k].block] 104)).alloc (.cells #[.string tx] 9)
                    have hne : some wc.heap.size ≠ (Value.slice A2 k cp2).ownBlock := fun e => by have := (hA.own.lt _ e.symm).1; omega
                    have HO := Lib.hid (And.intro (And.intro hO (And.intro hSc (And.intro hb2 (And.intro hm hy)))) (And.intro hbk hne))
                    clear hO hSc hb2 hm hy hbk hne hA htx
                    go_wp2_with (first
                      | (at_builtin
                         refine wpList_append_src _ rfl (.tmp 77) (.tmp 80) _ _ rfl (wc.heap.size + 1) 9 i0 _ 1 16 Tryz.underlying55 hi0 hz0' hz1' hz2' rfl (.slice A2 k cp2) k _ rfl HO.out.1.1 _ 1 _ rfl HO.out.1.2.1 HO.out.1.2.2.2.1 HO.out.1.2.2.2.2 HO.out.1.2.2.1 ?_
                         intro A3 cp3 w3 ho hg hat
                         have hb3 := HO.out.2.1.grown hg HO.out.2.2
                         obtain ⟨-, -, d2', -, -, -, g2', -⟩ := four_cells hb3
                         have HN := Lib.hid (And.intro hg (And.intro ho hb3))
                         clear ho hg hat hb3))
                    go_roundw
                    case rel => exact ⟨k + 1, _, by go_num, HA.out.1.step hlt HA.out.2 (((Turns.refl Nothing wr).alloc _).alloc _) HN.out.1 HN.out.2.1 HN.out.2.2⟩
                    case measure => simp [intOf]; omega
                  · obtain rfl : k = rest.length := by omega
                    obtain ⟨d0, d1, d2, d3, -, -, -, -⟩ := four_cells hA.blk
                    obtain ⟨r0, r1, r2, r3, f0, f1, f2, f3⟩ := four_cells (hA.turns.blk HX2.out.1.1 id)
                    have HA := Lib.hid hA
                    clear hA
                    go_wp2_with fail
                    have S := set_four (HA.out.turns.blk HX2.out.1.1 id) (HX2.out.1.2.same HA.out.turns) (.string ⟨r.name.toArray⟩) (.slice A6 m.length c6) (.slice A2 rest.length cp2) (.int .i64 x.line)
                    refine bodyPost_ret (results_cell_tmp Tryz.results34 _ _ _ ⟨w.heap.size, 0, none⟩ _ rfl (load_cmd _ _ _ _ _ _ S.1)) rfl ?_
                    exact ⟨S.2, by
                      rw [HWd.out, HFr.out, cmdOf, if_neg HC.out]
                      exact ⟨_, rfl, ArgsRel.cmd HA.out HX2.out.1.1 HX2.out.1.2 HX2.out.2.2.1 _ _ _ _⟩⟩
end Go.Proofs.YtiopaenonjhlnaaGreatDoor
