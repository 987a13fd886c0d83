/- Words for memory that the walks of package parse use: a row of the table, words, flags, a command, as they lie in memory. The walks of package parse: the table of commands. -/
import Derived.Test.YtiopaenonjhlnaaGreatDoorLexBase
import Derived.Test.YtiopaenonjhlnaaGreatDoorLexWalkA
import Derived.Test.YtiopaenonjhlnaaGreatDoorParseLines
import Derived.Lib.LaidTab
import Derived.Lib.Fields
import Derived.Great.BuildSlice
import Derived.Laws.Tables
import Derived.BigFrame
import Derived.Laws.NewBlocks
namespace Go.Proofs.YtiopaenonjhlnaaGreatDoor
set_option maxRecDepth 8000
open Go.RowKit
open Lx (Bytes)

theorem txt_inj {a b : ByteArray} (h : sl a = sl b) : a = b := ByteArray.ext (Array.toList_inj.1 h)
theorem txt_list (a : ByteArray) : a.toList = sl a := Lib.toList_data a
theorem txt_ne {a b : ByteArray} (h : ¬ sl a = sl b) : (a.toList == b.toList) = false := by
  rw [beq_eq_false_iff_ne, txt_list, txt_list]; exact h
theorem txt_bne {a b : ByteArray} (h : ¬ sl a = sl b) : (a.toList != b.toList) = true := by
  rw [bne, txt_ne h]; rfl
theorem blk_new_at {w : World} {g : Nat} {t : TypeId} {cs : Array Value} (h : w.heap.size = g) : Blk (w.alloc (.cells cs t)) g t cs := h ▸ Blk.new w t cs
theorem psrc_block {P : Program} {size : Nat} {tx e' : TypeId} (hk : P.underlying tx = some (.slice e')) {w w' : World} {g : Nat} {t : TypeId} {cs : Array Value} (hb : Blk w g t cs) (n c : Nat) (hl : cs.toList.length = n * size) (h1 : ∀ u ∈ cs.toList, u.oneCell' = true)
    (hw : w'.heap = w.heap := by rfl) : Src P size tx (.slice (some ⟨g, 0, none⟩) n c) n cs.toList w' := by
  refine Src.ofSlice w' hk ⟨g, 0, none⟩ n c cs.toList hl (fun j u hj => ?_) h1
  have hb' : Blk w' g t cs := by unfold Blk; rw [hw]; exact hb
  have ha : (⟨g, 0, none⟩ : Addr).add j = ⟨g, j, none⟩ := by unfold Addr.add; split <;> simp_all
  rw [ha, hb'.cell]
  simpa using hj
/-- the library's table of white space stands as it was laid -/
def Space (w : World) : Prop := Lib.TabIs Tryz.prog w "strings.asciiSpace" .u8 Lib.asciiSpaceTab
theorem Space.still {w w' : World} (h : Space w) (ht : Turns Nothing w w') : Space w' := by
  unfold Space Lib.TabIs World.var? at h ⊢
  cases hg : Tryz.prog.globalNamed "strings.asciiSpace" with
  | none => rw [hg] at h; cases h
  | some g =>
    rw [hg] at h
    simp only [Option.bind_some] at h ⊢
    cases hb : w.heap[g]? with
    | none => rw [hb] at h; cases h
    | some o =>
      rw [ht.block g (Array.getElem?_eq_some_iff.1 hb).1 id]
      exact h
abbrev strV (b : Bytes) : Value := .string ⟨b.toArray⟩
def rowCell (r : Px.Row) : List Value := [strV r.name, strV r.others, strV r.flags, .int .i64 r.few, .int .i64 r.most]
def rowV (r : Px.Row) : Value := .agg #[strV r.name, strV r.others, strV r.flags, .int .i64 r.few, .int .i64 r.most]
def rowCells (l : List Px.Row) : List Value := l.flatMap rowCell
theorem rowCells_at : ∀ (l : List Px.Row) (i : Nat) (h : i < l.length), (rowCells l)[i * 5]? = some (strV l[i].name) ∧ (rowCells l)[i * 5 + 1]? = some (strV l[i].others) ∧ (rowCells l)[i * 5 + 2]? = some (strV l[i].flags) ∧
    (rowCells l)[i * 5 + 3]? = some (.int .i64 l[i].few) ∧ (rowCells l)[i * 5 + 4]? = some (.int .i64 l[i].most)
  | x :: l, 0, _ => ⟨rfl, rfl, rfl, rfl, rfl⟩
  | x :: l, i + 1, h => by
    have := rowCells_at l i (by simpa using h)
    have e : rowCells (x :: l) = strV x.name :: strV x.others :: strV x.flags :: .int .i64 x.few :: .int .i64 x.most :: rowCells l := rfl
    rw [e, show (i + 1) * 5 = i * 5 + 5 by omega]
    simpa using this
theorem rowCells_len : ∀ l : List Px.Row, (rowCells l).length = l.length * 5
  | [] => rfl
  | x :: l => by
    have e : rowCells (x :: l) = rowCell x ++ rowCells l := rfl
    rw [e, List.length_append, rowCells_len l, List.length_cons]
    show 5 + _ = _
    omega
/-- a table's row in memory -/
structure RowAt (w : World) (b o : Nat) (r : Px.Row) : Prop where
  lt : b < w.heap.size
  c0 : w.cell? ⟨b, o, none⟩ = some (strV r.name)
  c1 : w.cell? ⟨b, o + 1, none⟩ = some (strV r.others)
  c2 : w.cell? ⟨b, o + 2, none⟩ = some (strV r.flags)
  c3 : w.cell? ⟨b, o + 3, none⟩ = some (.int .i64 r.few)
  c4 : w.cell? ⟨b, o + 4, none⟩ = some (.int .i64 r.most)
theorem RowAt.keep {w w' : World} {b o : Nat} {r : Px.Row} (h : RowAt w b o r) {S : Nat → Prop} (ht : Turns S w w') (hs : ¬ S b) : RowAt w' b o r :=
  have k : ∀ i, w'.cell? ⟨b, i, none⟩ = w.cell? ⟨b, i, none⟩ := fun _i => ht.cell h.lt hs
  ⟨Nat.lt_of_lt_of_le h.lt ht.size, (k _).trans h.c0, (k _).trans h.c1, (k _).trans h.c2, (k _).trans h.c3, (k _).trans h.c4⟩
theorem rows_at {w : World} {b : Nat} {t : TypeId} {l : List Px.Row} (h : Blk w b t (rowCells l).toArray) (i : Nat) (hi : i < l.length) : RowAt w b (i * 5) l[i] := by
  have c := rowCells_at l i hi
  simp only [← List.getElem?_toArray] at c
  exact ⟨h.lt, (h.cell _).trans c.1, (h.cell _).trans c.2.1, (h.cell _).trans c.2.2.1, (h.cell _).trans c.2.2.2.1, (h.cell _).trans c.2.2.2.2⟩

/-- words in memory -/
structure PWordsAt (w : World) (v : Value) (l : List Px.PW) : Prop where
  at_ : ∃ A c, v = .slice A l.length c ∧ l.length ≤ c ∧ c ≤ maxLen ∧ ∀ i, (h : i < l.length) → ∃ b off, A = some ⟨b, off, none⟩ ∧ b < w.heap.size ∧ w.cell? ⟨b, off + i * 3, none⟩ = some (strV l[i].text) ∧
    w.cell? ⟨b, off + i * 3 + 1, none⟩ = some (.int .i64 l[i].line) ∧ w.cell? ⟨b, off + i * 3 + 2, none⟩ = some (.bool l[i].block)
  small : ∀ x ∈ l, x.text.length ≤ maxLen
theorem PWordsAt.keep {w w' : World} {v : Value} {l : List Px.PW} (h : PWordsAt w v l) (hk : ∀ p : Addr, p.block < w.heap.size → w'.cell? p = w.cell? p) (hz : w.heap.size ≤ w'.heap.size) : PWordsAt w' v l := by
  obtain ⟨⟨A, c, rfl, h1, h2, h3⟩, h4⟩ := h
  refine ⟨⟨A, c, rfl, h1, h2, fun i hi => ?_⟩, h4⟩
  obtain ⟨b, off, hA, hb, x1, x2, x3⟩ := h3 i hi
  refine ⟨b, off, hA, by omega, ?_, ?_, ?_⟩
  · rw [hk _ hb]; exact x1
  · rw [hk _ hb]; exact x2
  · rw [hk _ hb]; exact x3
theorem PWordsAt.still {w w' : World} {v : Value} {l : List Px.PW} (h : PWordsAt w v l) (ht : Turns Nothing w w') : PWordsAt w' v l := h.keep (fun p hp => ht.cell (p := p) hp id) ht.size
/-- the first word, and the words behind it -/
theorem PWordsAt.cons {w : World} {v : Value} {x : Px.PW} {l : List Px.PW} (h : PWordsAt w v (x :: l)) : ∃ b off c, v = .slice (some ⟨b, off, none⟩) (l.length + 1) (c + 1) ∧ c + 1 ≤ maxLen ∧ l.length ≤ c ∧ b < w.heap.size ∧
    w.cell? ⟨b, off, none⟩ = some (strV x.text) ∧ w.cell? ⟨b, off + 1, none⟩ = some (.int .i64 x.line) ∧ w.cell? ⟨b, off + 2, none⟩ = some (.bool x.block) ∧ PWordsAt w (.slice (if c = 0 then some ⟨b, off, none⟩ else some ⟨b, off + 3, none⟩) l.length c) l := by
  obtain ⟨⟨A, c, rfl, h1, h2, h3⟩, h4⟩ := h
  obtain ⟨b, off, rfl, hb, x1, x2, x3⟩ := h3 0 (by simp)
  have hc : ∃ c', c = c' + 1 := ⟨c - 1, by simp at h1; omega⟩
  obtain ⟨c, rfl⟩ := hc
  simp at h1
  refine ⟨b, off, c, rfl, h2, h1, hb, by simpa using x1, by simpa using x2, by simpa using x3, ⟨_, _, rfl, h1, by omega, fun i hi => ⟨b, off + 3, if_neg (by omega), hb, ?_⟩⟩, fun y hy => h4 y (List.mem_cons_of_mem _ hy)⟩
  obtain ⟨b', off', e, -, y1, y2, y3⟩ := h3 (i + 1) (by simpa using hi)
  injection e with e
  injection e with e1 e2
  subst e1 e2
  rw [show off + (i + 1) * 3 = off + 3 + i * 3 by omega] at y1 y2 y3
  exact ⟨y1, y2, y3⟩
/-- .. in a later world -/
theorem PWordsAt.cons2 {w wr : World} {v : Value} {x : Px.PW} {l : List Px.PW} (h : PWordsAt w v (x :: l)) (ht : Turns Nothing w wr) : ∃ b off c, v = .slice (some ⟨b, off, none⟩) (l.length + 1) (c + 1) ∧ c + 1 ≤ maxLen ∧ l.length ≤ c ∧ b < w.heap.size ∧
    wr.cell? ⟨b, off, none⟩ = some (strV x.text) ∧ wr.cell? ⟨b, off + 1, none⟩ = some (.int .i64 x.line) ∧ wr.cell? ⟨b, off + 2, none⟩ = some (.bool x.block) ∧ PWordsAt w (.slice (if c = 0 then some ⟨b, off, none⟩ else some ⟨b, off + 3, none⟩) l.length c) l := by
  obtain ⟨b, off, c, e, h1, h2, hb, x0, x1, x2, hr⟩ := h.cons
  exact ⟨b, off, c, e, h1, h2, hb, (ht.cell (p := ⟨b, off, none⟩) hb id).trans x0, (ht.cell (p := ⟨b, off + 1, none⟩) hb id).trans x1, (ht.cell (p := ⟨b, off + 2, none⟩) hb id).trans x2, hr⟩
theorem PWordsAt.cells {w : World} {A : Option Addr} {n c : Nat} {l : List Px.PW} (h : PWordsAt w (.slice A n c) l) (i : Nat) (hi : i < l.length) : ∃ b off, A = some ⟨b, off, none⟩ ∧ b < w.heap.size ∧ w.cell? ⟨b, off + i * 3, none⟩ = some (strV l[i].text) ∧
    w.cell? ⟨b, off + i * 3 + 1, none⟩ = some (.int .i64 l[i].line) ∧ w.cell? ⟨b, off + i * 3 + 2, none⟩ = some (.bool l[i].block) := by
  obtain ⟨⟨A', c', e, -, -, h3⟩, -⟩ := h
  obtain ⟨b, off, hA, rest⟩ := h3 i hi
  injection e with e1
  exact ⟨b, off, e1.trans hA, rest⟩
theorem PWordsAt.nil {w : World} {v : Value} (h : PWordsAt w v []) : ∃ A c, v = .slice A 0 c := by
  obtain ⟨⟨A, c, rfl, -⟩, -⟩ := h
  exact ⟨A, c, rfl⟩

def flagCell (f : Px.Fl) : List Value := [.int .u8 f.1.toNat, strV f.2]
def flagCells (l : List Px.Fl) : List Value := l.flatMap flagCell
/-- a command in memory, its rows above B -/
structure CmdAt (w : World) (B : Nat) (v : Value) (c : Px.Cmd) : Prop where
  at_ : ∃ fv av, v = .agg #[strV c.name, fv, av, .int .i64 c.line] ∧ w.ownsRow B 121 2 fv c.flags.length (flagCells c.flags) ∧ w.ownsRow B 9 1 av c.args.length (c.args.map strV)
end Go.Proofs.YtiopaenonjhlnaaGreatDoor
namespace Go.Proofs.YtiopaenonjhlnaaGreatDoor
set_option maxRecDepth 8000
open Go.RowKit Go.Great
open Lx (Bytes)

theorem A.info_row : (Tryz.prog.info? 139).map (fun i => (i.zero, i.size, i.bytes)) = some (some (.agg #[.string ⟨#[]⟩, .string ⟨#[]⟩, .string ⟨#[]⟩, .int .i64 0, .int .i64 0]), 5, 64) := by kernel_rfl

/-- what an operation builds, if it builds of constants -/
def constPart : Nat × Operand → Option (Nat × Value)
  | (i, .const v) => some (i, v)
  | _ => none
def strip (t : TypeId) (o : Oper) : Option (Nat × List (Nat × Value)) := match o.guard, o.dst, o.op with
  | none, some k, .build t' parts => if t' = t then (parts.toList.mapM constPart).map fun l => (k, l) else none
  | _, _, _ => none
def rowParts (r : Px.Row) : List (Nat × Value) := [(0, strV r.name), (1, strV r.others), (2, strV r.flags), (3, .int .i64 r.few), (4, .int .i64 r.most)]
theorem built_row (r : Px.Row) : Tryz.prog.built 139 (rowParts r) = some (rowCell r).toArray := by
  obtain ⟨a, b, c, d, e⟩ := r
  kernel_rfl
theorem const_parts {a : Act} : ∀ {l : List (Nat × Operand)} {vs : List (Nat × Value)}, l.mapM constPart = some vs → l.map (fun x => (x.1, a.eval x.2)) = vs
  | [], vs, h => by simp at h; simp [h]
  | (i, x) :: l, vs, h => by
    rw [List.mapM_cons] at h
    cases x with
    | const v =>
      cases hr : l.mapM constPart with
      | none => simp [constPart, hr] at h
      | some u =>
        simp [constPart, hr] at h
        rw [List.map_cons, const_parts hr, ← h]
        rfl
    | _ => simp [constPart] at h
theorem strip_is {t : TypeId} {o : Oper} {k : Nat} {vs : List (Nat × Value)} (h : strip t o = some (k, vs)) : o.guard = none ∧ o.dst = some k ∧ ∃ parts, o.op = .build t parts ∧ ∀ a : Act, (parts.map fun (i, x) => (i, a.eval x)).toList = vs := by
  unfold strip at h
  split at h
  · rename_i k' t' parts hg hd ho
    split at h
    · rename_i ht
      subst ht
      cases hm : parts.toList.mapM constPart with
      | none => simp [hm] at h
      | some u =>
        simp [hm] at h
        obtain ⟨rfl, rfl⟩ := h
        refine ⟨hg, hd, parts, ho, fun a => ?_⟩
        rw [Array.toList_map]
        exact const_parts hm
    · cases h
  · cases h
def putRows : Nat → List Px.Row → Act → Act
  | _, [], a => a
  | k, r :: rs, a => putRows (k + 1) rs (a.put (some k) (rowV r))
def stripped : Nat → List Px.Row → List (Nat × List (Nat × Value))
  | _, [] => []
  | k, r :: rs => (k, rowParts r) :: stripped (k + 1) rs
theorem wpList_rows {ops : Array Oper} {rest : List Oper} {w : World} {Q : Exit → Act → World → Prop} : ∀ (rs : List Px.Row) (k : Nat) (l : List Oper) (a : Act), l.mapM (strip 139) = some (stripped k rs) →
    wpList Tryz.prog ops Q rest (putRows k rs a) w → wpList Tryz.prog ops Q (l ++ rest) a w
  | [], k, l, a, h, hw => by
    cases l with
    | nil => exact hw
    | cons o l =>
      rw [List.mapM_cons] at h
      cases ho : strip 139 o with
      | none => simp [ho] at h
      | some x => cases hr : l.mapM (strip 139) <;> simp [ho, hr, stripped] at h
  | r :: rs, k, l, a, h, hw => by
    cases l with
    | nil => simp [stripped] at h
    | cons o l =>
      rw [List.mapM_cons] at h
      cases ho : strip 139 o with
      | none => simp [ho] at h
      | some x =>
        cases hr : l.mapM (strip 139) with
        | none => simp [ho, hr] at h
        | some u =>
          simp [ho, hr, stripped] at h
          obtain ⟨rfl, rfl⟩ := h
          obtain ⟨hg, hd, parts, hop, hv⟩ := strip_is ho
          rw [List.cons_append]
          refine wpList_build hg 139 parts hop ?_ ?_
          · rw [hv, built_row]; rfl
          · rw [hv, built_row, hd]
            exact wpList_rows rs (k + 1) l _ hr hw
theorem wpList_table {ops : Array Oper} {w : World} {Q : Exit → Act → World → Prop} (rs : List Px.Row) (n : Nat) (L rest : List Oper) (a : Act) (hl : (L.take n).mapM (strip 139) = some (stripped 1 rs)) (hr : L.drop n = rest)
    (hw : wpList Tryz.prog ops Q rest (putRows 1 rs a) w) : wpList Tryz.prog ops Q L a w := by
  rw [← List.take_append_drop n L, hr]
  exact wpList_rows rs 1 _ a hl hw
set_option maxHeartbeats 1000000 in
set_option maxRecDepth 100000 in
theorem table_in (w : World) : Calls Tryz.prog 94 #[] w fun e w' => e = .returned (.slice (some ⟨w.heap.size, 0, none⟩) 65 65) ∧ w' = w.alloc (.cells (rowCells Px.table).toArray 139) := by
  obtain ⟨i0, hi0, hz0, hz1, hz2⟩ := info_parts A.info_row
  go_enter Tryz.func94, Tryz.ntmps94
  refine wp_seq ?_
  apply wp_region_lit
  refine wpList_plain rfl fun K hK => BigFrame.wp_assign _ rfl (hK _ _ (wpList_nil ?_))
  refine wp_seq ?_
  apply wp_region_lit
  refine wpList_table Px.table 65 _ _ _ (by kernel_rfl) (by rfl) ?_
  refine wpList_buildSlice rfl 179 139 65 _ rfl (rowCells Px.table).toArray i0 _ Tryz.underlying179 hi0 hz0 (by rw [hz1]; decide) (by rw [hz1]; decide) (by rw [hz1]; kernel_rfl) ?_
  refine wpList_plain rfl fun K hK => BigFrame.wp_assign _ rfl (hK _ _ (wpList_nil ?_))
  clear hK K
  refine wp_ret ?_
  apply bodyPost_ret_by (v := .slice (some ⟨w.heap.size, 0, none⟩) 65 65)
  · kernel_rfl
  · kernel_rfl
  · exact ⟨rfl, rfl⟩
end Go.Proofs.YtiopaenonjhlnaaGreatDoor
