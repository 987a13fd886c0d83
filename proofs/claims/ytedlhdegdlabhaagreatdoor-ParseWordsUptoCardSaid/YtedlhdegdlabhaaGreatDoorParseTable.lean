/- The walks of package parse: the table of commands. -/
import Derived.Test.YtedlhdegdlabhaaGreatDoorLexWalkB
import Derived.Test.YtedlhdegdlabhaaGreatDoorParseMem
import Derived.Great.BuildSlice
import Derived.Laws.Tables
import Derived.BigFrame
import Derived.Laws.NewBlocks
namespace Go.Proofs.YtedlhdegdlabhaaGreatDoor
set_option maxRecDepth 8000
open Go.RowKit Go.Great
open Lx (Bytes)

theorem A.info_row : (Tryz.prog.info? 55).map (fun i => (i.zero, i.size, i.bytes)) = some (some (.agg #[.string ⟨#[]⟩, .string ⟨#[]⟩, .string ⟨#[]⟩, .int .i64 0, .int .i64 0]), 5, 64) := by kernel_rfl

/-- what an operation builds, if it builds of constants -/
def constPart : Nat × Operand → Option (Nat × Value)
  | (i, .const v) => some (i, v)
  | _ => none
def strip (t : TypeId) (o : Oper) : Option (Nat × List (Nat × Value)) := match o.guard, o.dst, o.op with
  | none, some k, .build t' parts => if t' = t then (parts.toList.mapM constPart).map fun l => (k, l) else none
  | _, _, _ => none
def rowParts (r : Px.Row) : List (Nat × Value) := [(0, strV r.name), (1, strV r.others), (2, strV r.flags), (3, .int .i64 r.few), (4, .int .i64 r.most)]
theorem built_row (r : Px.Row) : Tryz.prog.built 55 (rowParts r) = some (rowCell r).toArray := by
  obtain ⟨a, b, c, d, e⟩ := r
  kernel_rfl
theorem const_parts {a : Act} : ∀ {l : List (Nat × Operand)} {vs : List (Nat × Value)}, l.mapM constPart = some vs → l.map (fun x => (x.1, a.eval x.2)) = vs
  | [], vs, h => by simp at h; simp [h]
  | (i, x) :: l, vs, h => by
    rw [List.mapM_cons] at h
    cases x with
    | const v =>
      cases hr : l.mapM constPart with
      | none => simp [constPart, hr] at h
      | some u =>
        simp [constPart, hr] at h
        rw [List.map_cons, const_parts hr, ← h]
        rfl
    | _ => simp [constPart] at h
theorem strip_is {t : TypeId} {o : Oper} {k : Nat} {vs : List (Nat × Value)} (h : strip t o = some (k, vs)) : o.guard = none ∧ o.dst = some k ∧ ∃ parts, o.op = .build t parts ∧ ∀ a : Act, (parts.map fun (i, x) => (i, a.eval x)).toList = vs := by
  unfold strip at h
  split at h
  · rename_i k' t' parts hg hd ho
    split at h
    · rename_i ht
      subst ht
      cases hm : parts.toList.mapM constPart with
      | none => simp [hm] at h
      | some u =>
        simp [hm] at h
        obtain ⟨rfl, rfl⟩ := h
        refine ⟨hg, hd, parts, ho, fun a => ?_⟩
        rw [Array.toList_map]
        exact const_parts hm
    · cases h
  · cases h
def putRows : Nat → List Px.Row → Act → Act
  | _, [], a => a
  | k, r :: rs, a => putRows (k + 1) rs (a.put (some k) (rowV r))
def stripped : Nat → List Px.Row → List (Nat × List (Nat × Value))
  | _, [] => []
  | k, r :: rs => (k, rowParts r) :: stripped (k + 1) rs
theorem wpList_rows {ops : Array Oper} {rest : List Oper} {w : World} {Q : Exit → Act → World → Prop} : ∀ (rs : List Px.Row) (k : Nat) (l : List Oper) (a : Act), l.mapM (strip 55) = some (stripped k rs) →
    wpList Tryz.prog ops Q rest (putRows k rs a) w → wpList Tryz.prog ops Q (l ++ rest) a w
  | [], k, l, a, h, hw => by
    cases l with
    | nil => exact hw
    | cons o l =>
      rw [List.mapM_cons] at h
      cases ho : strip 55 o with
      | none => simp [ho] at h
      | some x => cases hr : l.mapM (strip 55) <;> simp [ho, hr, stripped] at h
  | r :: rs, k, l, a, h, hw => by
    cases l with
    | nil => simp [stripped] at h
    | cons o l =>
      rw [List.mapM_cons] at h
      cases ho : strip 55 o with
      | none => simp [ho] at h
      | some x =>
        cases hr : l.mapM (strip 55) with
        | none => simp [ho, hr] at h
        | some u =>
          simp [ho, hr, stripped] at h
          obtain ⟨rfl, rfl⟩ := h
          obtain ⟨hg, hd, parts, hop, hv⟩ := strip_is ho
          rw [List.cons_append]
          refine wpList_build hg 55 parts hop ?_ ?_
          · rw [hv, built_row]; rfl
          · rw [hv, built_row, hd]
            exact wpList_rows rs (k + 1) l _ hr hw
theorem wpList_table {ops : Array Oper} {w : World} {Q : Exit → Act → World → Prop} (rs : List Px.Row) (n : Nat) (L rest : List Oper) (a : Act) (hl : (L.take n).mapM (strip 55) = some (stripped 1 rs)) (hr : L.drop n = rest)
    (hw : wpList Tryz.prog ops Q rest (putRows 1 rs a) w) : wpList Tryz.prog ops Q L a w := by
  rw [← List.take_append_drop n L, hr]
  exact wpList_rows rs 1 _ a hl hw
set_option maxHeartbeats 1000000 in
set_option maxRecDepth 100000 in
theorem table_in (w : World) : Calls Tryz.prog 40 #[] w fun e w' => e = .returned (.slice (some ⟨w.heap.size, 0, none⟩) 65 65) ∧ w' = w.alloc (.cells (rowCells Px.table).toArray 55) := by
  obtain ⟨i0, hi0, hz0, hz1, hz2⟩ := info_parts A.info_row
  go_enter Tryz.func40, Tryz.ntmps40
  refine wp_seq ?_
  apply wp_region_lit
  refine wpList_plain rfl fun K hK => BigFrame.wp_assign _ rfl (hK _ _ (wpList_nil ?_))
  refine wp_seq ?_
  apply wp_region_lit
  refine wpList_table Px.table 65 _ _ _ (by kernel_rfl) (by rfl) ?_
  refine wpList_buildSlice rfl 102 55 65 _ rfl (rowCells Px.table).toArray i0 _ Tryz.underlying102 hi0 hz0 (by rw [hz1]; decide) (by rw [hz1]; decide) (by rw [hz1]; kernel_rfl) ?_
  refine wpList_plain rfl fun K hK => BigFrame.wp_assign _ rfl (hK _ _ (wpList_nil ?_))
  clear hK K
  refine wp_ret ?_
  apply bodyPost_ret_by (v := .slice (some ⟨w.heap.size, 0, none⟩) 65 65)
  · kernel_rfl
  · kernel_rfl
  · exact ⟨rfl, rfl⟩
end Go.Proofs.YtedlhdegdlabhaaGreatDoor
