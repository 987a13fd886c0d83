/- The walk of package parse: Print. -/
import Derived.Test.YtiopaenonjhlnaaGreatDoorParseOne
import Derived.Test.YtiopaenonjhlnaaGreatDoorParseDoor
import Derived.Test.YtiopaenonjhlnaaGreatDoorParseBackLaw
namespace Go.Proofs.YtiopaenonjhlnaaGreatDoor
set_option maxRecDepth 8000
open Go.RowKit
open Lx (Bytes)

/-! ### what a command's text may come to -/
structure Fine (c : Px.Cmd) : Prop where
  fl : c.flags.length ≤ 256 ∧ ∀ f ∈ c.flags, f.2.length ≤ 8192
  ar : c.args.length ≤ 256 ∧ ∀ a ∈ c.args, a.length ≤ 8192
theorem oneF_len2 (r : Px.Row) (f : Px.Fl) (h : f.2.length ≤ 8192) : (Px.oneF r f).length ≤ 20000 := by
  have := wquote_len f.2
  unfold Px.oneF
  rw [List.length_append]
  split
  · simp only [List.length_cons, List.length_nil]; omega
  · simp only [List.length_cons, List.length_nil]; omega
theorem oneA_len2 (a : Bytes) (h : a.length ≤ 8192) : (Px.oneA a).length ≤ 20000 := by
  have := wquote_len a
  simp only [Px.oneA, List.length_cons]
  omega
theorem Fine.len {c : Px.Cmd} (h : Fine c) : (Px.one c).length ≤ 20000000 := by
  unfold Px.one
  split
  · rename_i hr
    obtain ⟨r, -, hm, hn, -⟩ := Px.right_row hr
    have h1 := (Px.table_flags r hm).2.1
    rw [hn] at h1
    have h2 := flat_len (Px.oneF ((Px.whole c.name).getD ⟨[], [], [], 0, 0⟩)) 20000 c.flags fun f hf => oneF_len2 _ f (h.fl.2 f hf)
    have h3 := flat_len Px.oneA 20000 c.args fun a ha => oneA_len2 a (h.ar.2 a ha)
    have h4 := dashes_len c.args
    have h5 := Nat.mul_le_mul_right 20000 h.fl.1
    have h6 := Nat.mul_le_mul_right 20000 h.ar.1
    rw [List.length_append, List.length_append, List.length_append]
    omega
  · exact Nat.zero_le _
theorem joined_join : ∀ (l : List Bytes), Px.joined l = Lib.join l [32, 59, 32]
  | [] => rfl
  | [a] => (Lib.join_one a _).symm
  | a :: b :: l => by
    have ih := joined_join (b :: l)
    rw [Lib.join_cons] at ih ⊢
    show a ++ 32 :: 59 :: 32 :: Px.joined (b :: l) = _
    rw [ih]
    simp [Lib.joinTail]
theorem joined_len (M : Nat) : ∀ (l : List Bytes), (∀ s ∈ l, s.length ≤ M) → (Px.joined l).length ≤ l.length * (M + 3)
  | [], _ => Nat.zero_le _
  | [a], h => by
    have := h a (by simp)
    show a.length ≤ _
    simp
    omega
  | a :: b :: l, h => by
    have ih := joined_len M (b :: l) fun s hs => h s (List.mem_cons_of_mem _ hs)
    have := h a (by simp)
    show (a ++ 32 :: 59 :: 32 :: Px.joined (b :: l)).length ≤ _
    rw [List.length_append, List.length_cons, List.length_cons, List.length_cons, List.length_cons, Nat.succ_mul]
    omega
/-- the texts of the first k commands that are written at all -/
def onesOf (cs : List Px.Cmd) (k : Nat) : List Bytes := ((cs.take k).map Px.one).filter (· ≠ [])
theorem ones_succ (cs : List Px.Cmd) (k : Nat) (h : k < cs.length) : onesOf cs (k + 1) = if Px.one cs[k] = [] then onesOf cs k else onesOf cs k ++ [Px.one cs[k]] := by
  unfold onesOf
  rw [List.take_succ_eq_append_getElem h, List.map_append, List.filter_append]
  split
  · rename_i e
    simp [e]
  · rename_i e
    simp [e]
theorem ones_all (cs : List Px.Cmd) : onesOf cs cs.length = (cs.map Px.one).filter (· ≠ []) := by rw [onesOf, List.take_length]
theorem ones_len (cs : List Px.Cmd) (k : Nat) (hk : k ≤ cs.length) : (onesOf cs k).length ≤ k := by
  unfold onesOf
  refine Nat.le_trans (List.length_filter_le _ _) ?_
  rw [List.length_map, List.length_take]
  omega
/-- the group's texts, in memory -/
structure OnRel (w : World) (L : List Bytes) (v : Value) (wr : World) : Prop where
  own : wr.ownsRow w.heap.size 9 1 v L.length (L.map strV)
  turns : Turns Nothing w wr
theorem OnRel.still {w wr w1 : World} {L : List Bytes} {v : Value} (h : OnRel w L v wr) (ht : Turns Nothing wr w1) : OnRel w L v w1 := ⟨ht.own h.own fun _ _ => id, h.turns.same ht⟩
theorem OnRel.next {w wr w1 : World} {L : List Bytes} {v v' : Value} {u : ByteArray} {s : Bytes} (h : OnRel w L v wr) (hu : sl u = s) (hg : wr.grownBy w1 v.ownBlock) (ho : w1.ownsRow w.heap.size 9 1 v' (L.length + 1) (L.map strV ++ [.string u])) : OnRel w (L ++ [s]) v' w1 := by
  have hu2 : Value.string u = strV s := by rw [← hu]; rfl
  refine ⟨by rw [List.length_append, List.map_append, List.map_singleton, ← hu2]; exact ho, h.turns.grown hg fun b hb e => ?_⟩
  have := h.own.lt b e
  omega
theorem pjoin_any {w wr : World} {L : List Bytes} {v : Value} (h : OnRel w L v wr) (hlen : (Px.joined L).length ≤ 140737488355328) (hl : L.length ≤ 1600000) :
    Calls Tryz.prog 42 #[v, .string ⟨#[32, 59, 32]⟩] wr fun e w' => e = .returned (strV (Px.joined L)) ∧ Turns Nothing wr w' := by
  rw [joined_join] at hlen ⊢
  have hm : ∀ M : List Bytes, (M.map fun s => (⟨s.toArray⟩ : ByteArray)).map (·.data.toList) = M := fun M => by rw [List.map_map]; exact List.map_id'' (fun s => rfl) M
  rcases h.own.2 with ⟨rfl, h0⟩ | ⟨g, cap, cur, rfl, hb, hg, hcap, _⟩
  · have : L = [] := List.eq_nil_of_length_eq_zero h0
    subst this
    refine (Tryz.strings_Join_none none 0 ⟨#[32, 59, 32]⟩ wr).mono ?_
    rintro e w' ⟨rfl, rfl⟩
    exact ⟨rfl, Turns.refl _ _⟩
  · have hj := Tryz.strings_Join g 0 cap (L.map fun s => ⟨s.toArray⟩) ⟨#[32, 59, 32]⟩ wr (fun j x hj => by
      rw [List.getElem?_map] at hj
      obtain ⟨s, hs, rfl⟩ := Option.map_eq_some_iff.1 hj
      have hlt : j < L.length := (List.getElem?_eq_some_iff.1 hs).1
      rw [Nat.zero_add, h.own.cellAt _ (by omega), List.getElem?_map, hs]
      rfl) (Array.getElem?_eq_some_iff.1 hg).1 (by rw [List.length_map]; omega) (by rw [List.length_map]; exact hcap) (by rw [hm]; exact hlen)
    rw [List.length_map, hm] at hj
    refine hj.mono ?_
    rintro e w' ⟨rfl, hb⟩
    exact ⟨rfl, Turns.of_below hb fun b h1 h2 => absurd h2 (by omega)⟩
/-- where the groups lie -/
theorem GroupsAt.at_ {w : World} {B : Nat} {gv : Value} {Z : List (Value × List CQ)} (h : GroupsAt w B gv Z) : ∃ A c, gv = .slice A Z.length c ∧ ∀ i (hi : i < Z.length), ∃ g, A = some ⟨g, 0, none⟩ ∧ g < w.heap.size ∧ w.cell? ⟨g, i, none⟩ = some Z[i].1 := by
  rcases h.outer.2 with ⟨rfl, h0⟩ | ⟨g, cap, cur, rfl, hb, hg, _⟩
  · exact ⟨none, 0, by rw [h0], fun i hi => by omega⟩
  · refine ⟨_, cap, rfl, fun i hi => ⟨g, rfl, (Array.getElem?_eq_some_iff.1 hg).1, ?_⟩⟩
    rw [h.outer.cellAt _ (by omega), List.getElem?_map, List.getElem?_eq_getElem hi]
    rfl
theorem cqCells_at : ∀ (l : List CQ) (i : Nat) (h : i < l.length), (cqCells l)[i * 4]? = some (strV l[i].1.name) ∧ (cqCells l)[i * 4 + 1]? = some l[i].2.1 ∧ (cqCells l)[i * 4 + 2]? = some l[i].2.2 ∧ (cqCells l)[i * 4 + 3]? = some (.int .i64 l[i].1.line)
  | x :: l, 0, _ => ⟨rfl, rfl, rfl, rfl⟩
  | x :: l, i + 1, h => by
    have := cqCells_at l i (by simpa using h)
    have e : cqCells (x :: l) = strV x.1.name :: x.2.1 :: x.2.2 :: .int .i64 x.1.line :: cqCells l := rfl
    rw [e, show (i + 1) * 4 = i * 4 + 4 by omega]
    simpa using this
/-- where a group's commands lie -/
theorem GroupsAt.cmds {w : World} {B : Nat} {gv : Value} {Z : List (Value × List CQ)} (h : GroupsAt w B gv Z) {z : Value × List CQ} (hz : z ∈ Z) : ∃ A c, z.1 = .slice A z.2.length c ∧ ∀ i (hi : i < z.2.length), ∃ g, A = some ⟨g, 0, none⟩ ∧ g < w.heap.size ∧
    w.cell? ⟨g, i * 4, none⟩ = some (strV z.2[i].1.name) ∧ w.cell? ⟨g, i * 4 + 1, none⟩ = some z.2[i].2.1 ∧ w.cell? ⟨g, i * 4 + 2, none⟩ = some z.2[i].2.2 ∧ w.cell? ⟨g, i * 4 + 3, none⟩ = some (.int .i64 z.2[i].1.line) ∧ FlagsAt w z.2[i].2.1 z.2[i].1.flags ∧ TextsAt w z.2[i].2.2 z.2[i].1.args := by
  have ho := h.inner z hz
  rcases ho.2 with ⟨e, h0⟩ | ⟨g, cap, cur, e, hb, hg, _⟩
  · exact ⟨none, 0, by rw [e, h0], fun i hi => by omega⟩
  · refine ⟨_, cap, e, fun i hi => ⟨g, rfl, (Array.getElem?_eq_some_iff.1 hg).1, ?_⟩⟩
    have c := cqCells_at z.2 i hi
    have hr := h.rows z hz z.2[i] (List.getElem_mem hi)
    rw [e] at ho
    rw [ho.cellAt _ (by omega), ho.cellAt _ (by omega), ho.cellAt _ (by omega), ho.cellAt _ (by omega)]
    exact ⟨c.1, c.2.1, c.2.2.1, c.2.2.2, own_flags hr.flags, own_texts hr.args⟩
/-- groups, to be read, wherever they lie -/
structure RowRd (w : World) (v : Value) (l : List CQ) : Prop where
  at_ : ∃ A c, v = .slice A l.length c ∧ (0 < l.length → ∃ b off, A = some ⟨b, off, none⟩ ∧ b < w.heap.size ∧ ∀ i, (hi : i < l.length) →
    w.cell? ⟨b, off + i * 4, none⟩ = some (strV l[i].1.name) ∧ w.cell? ⟨b, off + i * 4 + 1, none⟩ = some l[i].2.1 ∧ w.cell? ⟨b, off + i * 4 + 2, none⟩ = some l[i].2.2 ∧ w.cell? ⟨b, off + i * 4 + 3, none⟩ = some (.int .i64 l[i].1.line))
  each : ∀ q ∈ l, FlagsAt w q.2.1 q.1.flags ∧ TextsAt w q.2.2 q.1.args
structure GroupsRd (w : World) (v : Value) (Z : List (Value × List CQ)) : Prop where
  at_ : ∃ A c, v = .slice A Z.length c ∧ (0 < Z.length → ∃ b off, A = some ⟨b, off, none⟩ ∧ b < w.heap.size ∧ ∀ i, (hi : i < Z.length) → w.cell? ⟨b, off + i, none⟩ = some Z[i].1)
  each : ∀ z ∈ Z, RowRd w z.1 z.2
theorem RowRd.still {w w' : World} {v : Value} {l : List CQ} (h : RowRd w v l) (ht : Turns Nothing w w') : RowRd w' v l := by
  obtain ⟨⟨A, c, rfl, h1⟩, h2⟩ := h
  refine ⟨⟨A, c, rfl, fun h0 => ?_⟩, fun q hq => ⟨(h2 q hq).1.still ht, (h2 q hq).2.still ht⟩⟩
  obtain ⟨b, off, hA, hb, hc⟩ := h1 h0
  exact ⟨b, off, hA, Nat.lt_of_lt_of_le hb ht.size, fun i hi => ⟨(ht.cell (p := ⟨b, _, none⟩) hb id).trans (hc i hi).1, (ht.cell (p := ⟨b, _, none⟩) hb id).trans (hc i hi).2.1, (ht.cell (p := ⟨b, _, none⟩) hb id).trans (hc i hi).2.2.1, (ht.cell (p := ⟨b, _, none⟩) hb id).trans (hc i hi).2.2.2⟩⟩
theorem GroupsRd.still {w w' : World} {v : Value} {Z : List (Value × List CQ)} (h : GroupsRd w v Z) (ht : Turns Nothing w w') : GroupsRd w' v Z := by
  obtain ⟨⟨A, c, rfl, h1⟩, h2⟩ := h
  refine ⟨⟨A, c, rfl, fun h0 => ?_⟩, fun z hz => (h2 z hz).still ht⟩
  obtain ⟨b, off, hA, hb, hc⟩ := h1 h0
  exact ⟨b, off, hA, Nat.lt_of_lt_of_le hb ht.size, fun i hi => (ht.cell (p := ⟨b, _, none⟩) hb id).trans (hc i hi)⟩
theorem GroupsAt.rd {w : World} {B : Nat} {gv : Value} {Z : List (Value × List CQ)} (h : GroupsAt w B gv Z) : GroupsRd w gv Z := by
  obtain ⟨A, c, rfl, hat⟩ := h.at_
  refine ⟨⟨A, c, rfl, fun h0 => ?_⟩, fun z hz => ?_⟩
  · obtain ⟨g, hA, hg, -⟩ := hat 0 h0
    refine ⟨g, 0, hA, hg, fun i hi => ?_⟩
    obtain ⟨g', hA', -, hc⟩ := hat i hi
    rw [hA] at hA'
    injection hA' with e
    injection e with e
    subst e
    rw [Nat.zero_add]
    exact hc
  · obtain ⟨A, c, e, hat⟩ := h.cmds hz
    refine ⟨⟨A, c, e, fun h0 => ?_⟩, fun q hq => ⟨own_flags (h.rows z hz q hq).flags, own_texts (h.rows z hz q hq).args⟩⟩
    obtain ⟨g, hA, hg, -⟩ := hat 0 h0
    refine ⟨g, 0, hA, hg, fun i hi => ?_⟩
    obtain ⟨g', hA', -, c0, c1, c2, c3, -⟩ := hat i hi
    rw [hA] at hA'
    injection hA' with e
    injection e with e
    subst e
    rw [Nat.zero_add]
    exact ⟨c0, c1, c2, c3⟩
/-- what One may be given -/
structure OneFit (c : Px.Cmd) : Prop where
  fl : c.flags.length ≤ 1050000 ∧ ∀ f ∈ c.flags, f.2.length ≤ 1600000
  ar : c.args.length ≤ 1050000 ∧ ∀ a ∈ c.args, a.length ≤ 1600000
theorem Fine.fit {c : Px.Cmd} (h : Fine c) : OneFit c :=
  ⟨⟨Nat.le_trans h.fl.1 (by decide), fun f hf => Nat.le_trans (h.fl.2 f hf) (by decide)⟩, ⟨Nat.le_trans h.ar.1 (by decide), fun a ha => Nat.le_trans (h.ar.2 a ha) (by decide)⟩⟩
theorem take_len {α : Type} (f : α → Bytes) (l : List α) (k : Nat) : ((l.take k).flatMap f).length ≤ (l.flatMap f).length := by
  have h := congrArg List.length (congrArg (List.flatMap f) (List.take_append_drop k l))
  rw [List.flatMap_append, List.length_append] at h
  omega
/-- the text so far -/
structure PrRel (w : World) (B : Nat) (T : Bytes) (wr : World) : Prop where
  isB : IsB B T wr
  turns : Turns Nothing w wr
  low : w.heap.size ≤ B
theorem PrRel.still {w wr w' : World} {B : Nat} {T : Bytes} (h : PrRel w B T wr) (ht : Turns Nothing wr w') : PrRel w B T w' := ⟨h.isB.still ht, h.turns.same ht, h.low⟩
theorem PrRel.wrote {w wr w' : World} {B : Nat} {T T' : Bytes} (h : PrRel w B T wr) (hI : IsB B T' w') (hb : Below B wr w') : PrRel w B T' w' :=
  ⟨hI, h.turns.trans (Turns.of_below (S := fun b => B ≤ b) hb fun b h1 h2 => h1) fun b hb e => by have := h.low; omega, h.low⟩
theorem A.info_pstr : (Tryz.prog.info? 9).map (fun i => (i.zero, i.size, i.bytes)) = some (some (.string ⟨#[]⟩), 1, 16) := by kernel_rfl
theorem printG_len (cs : List Px.Cmd) (hf : ∀ c ∈ cs, Fine c) (hn : cs.length ≤ 1000) : (Px.printG cs).length ≤ 20000010000 := by
  have key : ∀ F : List Bytes, (∀ s ∈ F, s.length ≤ 20000000) → F.length ≤ 1000 → (if F = [] then ([] : Bytes) else Px.joined F ++ [10]).length ≤ 20000010000 := fun F h1 h2 => by
    have h3 := joined_len 20000000 F h1
    have h4 := Nat.mul_le_mul_right (20000000 + 3) h2
    split
    · simp
    · rw [List.length_append, List.length_singleton]
      omega
  exact key _ (fun s hs => by
    obtain ⟨c, hc, rfl⟩ := List.mem_map.1 (List.mem_filter.1 hs).1
    exact (hf c hc).len) (Nat.le_trans (List.length_filter_le _ _) (by rw [List.length_map]; exact hn))
theorem print_take (G : List (List Px.Cmd)) (k : Nat) (h : k < G.length) : (G.take (k + 1)).flatMap Px.printG = (G.take k).flatMap Px.printG ++ Px.printG G[k] := flat_succ Px.printG G k h
theorem psrc_str (w : World) (u : ByteArray) : Src Tryz.prog 1 55 (.slice (some ⟨w.heap.size, 0, none⟩) 1 1) 1 [.string u] (w.alloc (.cells #[.string u] 9)) :=
  psrc_block (size := 1) Tryz.underlying55 (Blk.new w 9 #[.string u]) 1 1 rfl (by simp [Value.oneCell'])

set_option maxHeartbeats 4000000 in
theorem print_rd {w : World} {gv : Value} {Z : List (Value × List CQ)} (h : GroupsRd w gv Z) (hf : ∀ z ∈ Z, ∀ q ∈ z.2, OneFit q.1) (hn : Z.length ≤ 1050000 ∧ ∀ z ∈ Z, z.2.length ≤ 1050000) (hz : (Px.print (plainG Z)).length ≤ 100000000000000) :
    Calls Tryz.prog 18 #[.agg #[gv]] w fun e w' => ∃ u : ByteArray, e = .returned (.string u) ∧ sl u = Px.print (plainG Z) ∧ Turns Nothing w w' := by
  have HG := Lib.hid h
  obtain ⟨A, c, rfl, hat⟩ := h.at_
  have HAT := Lib.hid hat
  have HF := Lib.hid (And.intro hf hn)
  have hzl : (Z.length : Int) ≤ 1050000 := by have := hn.1; omega
  have hpl : (plainG Z).length = Z.length := by simp [plainG]
  have HT := Lib.hid (fun k => Nat.le_trans (take_len Px.printG (plainG Z) k) hz)
  have HPL := Lib.hid hpl
  clear h hat hf hn hpl hz
  have hfresh := Lib.fresh_isBuilder 66 5 (w.alloc (.cells #[.slice A Z.length c] 32))
  rw [show (w.alloc (.cells #[.slice A Z.length c] 32)).heap.size = w.heap.size + 1 by simp [go_sem]] at hfresh
  have HP := Lib.hid (show PrRel w (w.heap.size + 1) [] ((w.alloc (.cells #[.slice A Z.length c] 32)).alloc (.cells #[.pointer none, .slice none 0 0] 66)) from ⟨Lib.IsBuilderF.of hfresh, ((Turns.refl _ w).alloc _).alloc _, Nat.le_succ _⟩)
  clear hfresh
  go_enter Tryz.func18, Tryz.ntmps18
  go_wp2_with fail
  go_loopw [13] (fun i wr => ∃ k : Nat, i = .int .i64 k ∧ k ≤ Z.length ∧ PrRel w (w.heap.size + 1) (((plainG Z).take k).flatMap Px.printG) wr) (fun i _ => Z.length - (intOf i).toNat)
  case atStart => exact ⟨0, rfl, Nat.zero_le _, by simpa using HP.out⟩
  case round =>
    obtain ⟨k, rfl, hk, hR⟩ := hrel
    by_cases hlt : k < Z.length
    · obtain ⟨g, off, rfl, hg, hc⟩ := HAT.out (by omega)
      have p0 := (hR.turns.cell (p := ⟨g, _, none⟩) hg id).trans (hc k hlt)
      have hgr : g < wr.heap.size := Nat.lt_of_lt_of_le hg hR.turns.size
      have hrow := (HG.out.still hR.turns).each _ (List.getElem_mem hlt)
      have hZ2 := HF.out.2.2 _ (List.getElem_mem hlt)
      have hfine := HF.out.1 _ (List.getElem_mem hlt)
      have hstep := print_take (plainG Z) k (by rw [HPL.out]; exact hlt)
      rw [show (plainG Z)[k]'(by rw [HPL.out]; exact hlt) = Z[k].2.map (·.1) by simp [plainG]] at hstep
      have HST := Lib.hid hstep
      generalize Z[k] = z at p0 hrow hZ2 hfine HST
      obtain ⟨z1, l⟩ := z
      dsimp only at p0 hrow hZ2 hfine HST
      obtain ⟨⟨A2, c2, rfl, hcm⟩, hft⟩ := hrow
      have hts := HT.out (k + 1)
      rw [HST.out, List.length_append] at hts
      have HTS := Lib.hid hts
      have HCM := Lib.hid (And.intro hcm hft)
      have HFI := Lib.hid hfine
      have hll : (l.length : Int) ≤ 1050000 := by omega
      have HZ2 := Lib.hid hZ2
      have HR := Lib.hid hR
      clear hR hc hg hcm hft hts hfine hstep hZ2
      generalize hw1 : wr = w1 at *
      clear hw1
      go_wp2_with fail
      have hcl : (l.map (·.1)).length = l.length := List.length_map _
      go_loopw [19, 6] (fun j v wr => ∃ n : Nat, j = .int .i64 n ∧ n ≤ l.length ∧ OnRel w1 (onesOf (l.map (·.1)) n) v wr) (fun j _ _ => l.length - (intOf j).toNat)
      case atStart => exact ⟨0, rfl, Nat.zero_le _, ⟨World.ownsRow_nil _ _ _ _, Turns.refl _ _⟩⟩
      case round =>
        obtain ⟨n, rfl, hn, hO⟩ := hrel
        have hLl := ones_len (l.map (·.1)) n (by rw [hcl]; exact hn)
        obtain ⟨A0, c0, rfl⟩ := own_slice hO.own
        by_cases hn2 : n < l.length
        · obtain ⟨b, off2, rfl, hb, hcells⟩ := HCM.out.1 (by omega)
          obtain ⟨q0, q1, q2, q3⟩ := hcells n hn2
          obtain ⟨hFl, hTx⟩ := HCM.out.2 _ (List.getElem_mem hn2)
          have hs := ones_succ (l.map (·.1)) n (by rw [hcl]; exact hn2)
          rw [show (l.map (·.1))[n]'(by rw [hcl]; exact hn2) = l[n].1 by simp] at hs
          have hfq := HFI.out _ (List.getElem_mem hn2)
          generalize l[n] = q at q0 q1 q2 q3 hFl hTx hs hfq
          obtain ⟨cq, fv, av⟩ := q
          dsimp only at q0 q1 q2 q3 hFl hTx hs hfq
          obtain ⟨fA, fc, rfl, -⟩ := hFl.at_
          obtain ⟨rA, rc, rfl, -⟩ := hTx.at_
          have q0 := (hO.turns.cell (p := ⟨b, _, none⟩) hb id).trans q0
          have q1 := (hO.turns.cell (p := ⟨b, _, none⟩) hb id).trans q1
          have q2 := (hO.turns.cell (p := ⟨b, _, none⟩) hb id).trans q2
          have q3 := (hO.turns.cell (p := ⟨b, _, none⟩) hb id).trans q3
          have hbr : b < wr.heap.size := Nat.lt_of_lt_of_le hb hO.turns.size
          simp only [strV] at q0
          generalize hL : onesOf (l.map (·.1)) n = L at hs hO hLl ⊢
          have HS := Lib.hid hs
          have HO := Lib.hid hO
          have HC1 := Lib.hid (And.intro hFl (And.intro hTx hfq))
          have hLn : (L.length : Int) ≤ 1050000 := by omega
          clear hs hO hFl hTx hfq hb hL hcells
          have T4 := Lib.hid ((Turns.refl Nothing wr).alloc (.cells #[.string ⟨cq.name.toArray⟩, .slice fA cq.flags.length fc, .slice rA cq.args.length rc, .int .i64 cq.line] 57))
          go_wp2_with fail
          refine (one_in (HC1.out.1.still (HO.out.turns.same T4.out)) (HC1.out.2.1.still (HO.out.turns.same T4.out)) HC1.out.2.2.fl HC1.out.2.2.ar).mono ?_
          rintro e w3 ⟨u, rfl, hu, ht⟩
          have hu : sl u = Px.one cq := hu
          have HO3 := Lib.hid (HO.out.still (T4.out.same ht))
          clear ht HO T4 q0 q1 q2 q3
          by_cases hne : Px.one cq = []
          · have hu0 : u = ⟨#[]⟩ := sl_inj (hu.trans hne)
            subst hu0
            have HE := Lib.hid (HS.out.trans (if_pos hne))
            clear hu hne
            go_wp2_with fail
            go_roundw
            case rel => exact ⟨n + 1, by go_num, hn2, by rw [HE.out]; exact HO3.out⟩
            case measure => simp [intOf]; omega
          · have HE := Lib.hid (HS.out.trans (if_neg hne))
            have d0 : (u.toList == ([] : List UInt8)) = false := by
              rw [beq_eq_false_iff_ne, str_list, hu]
              exact hne
            have HU := Lib.hid hu
            clear hu hne
            obtain ⟨i0, hi0, hz0, hz1, hz2⟩ := info_parts A.info_pstr
            have hO := ((HO3.out.still ((Turns.refl Nothing w3).alloc (.cells #[.string u] 9))))
            have hS := psrc_str w3 u
            have hB := hO.turns.size
            have hm : L.length + 1 ≤ maxLen := by simp only [maxLen]; omega
            have hy : ((L.length + 1) + (L.length + 1 + 768) / 4 + 512) * 16 ≤ 281474976710656 := by omega
            have HO4 := Lib.hid (And.intro hO (And.intro hS (And.intro hB (And.intro hm hy))))
            clear hO hS hB hm hy
            go_wp2_with (first
              | (at_builtin
                 refine wpList_append_src _ rfl (.tmp 27) (.tmp 29) _ _ rfl w1.heap.size 9 i0 _ 1 16 Tryz.underlying55 hi0 hz0 hz1 hz2 rfl (.slice A0 L.length c0) L.length _ rfl HO4.out.1.own _ 1 [.string u] rfl HO4.out.2.1 HO4.out.2.2.2.1 HO4.out.2.2.2.2 HO4.out.2.2.1 ?_
                 intro A1 cp1 w4 ho hg hat
                 have HN := Lib.hid (HO4.out.1.next HU.out hg ho)
                 clear ho hg hat))
            go_roundw
            case rel => exact ⟨n + 1, by go_num, hn2, by rw [HE.out]; exact HN.out⟩
            case measure => simp [intOf]; omega
        · obtain rfl : n = l.length := by omega
          have hall := ones_all (l.map (·.1))
          rw [hcl] at hall
          have hpg : Px.printG (l.map (·.1)) = if onesOf (l.map (·.1)) l.length = [] then [] else Px.joined (onesOf (l.map (·.1)) l.length) ++ [10] := by rw [hall]; rfl
          have hjl : (Px.joined (onesOf (l.map (·.1)) l.length)).length ≤ (Px.printG (l.map (·.1))).length := by
            rw [hpg]
            split
            · rename_i e
              rw [e]
              exact Nat.le_refl _
            · rw [List.length_append]
              exact Nat.le_add_right _ _
          generalize onesOf (l.map (·.1)) l.length = L at hpg hjl hO hLl ⊢
          have HR3 := Lib.hid (HR.out.still hO.turns)
          have HO := Lib.hid hO
          have HPG := Lib.hid hpg
          have HJL := Lib.hid hjl
          have hLn : (L.length : Int) ≤ 1050000 := by omega
          clear hO hpg hjl hall
          by_cases hL0 : L = []
          · subst hL0
            have HE := Lib.hid (HPG.out.trans (if_pos rfl))
            simp only [List.length_nil]
            go_wp2_with fail
            go_roundw
            case rel => exact ⟨k + 1, by go_num, hlt, by rw [HST.out, HE.out, List.append_nil]; exact HR3.out⟩
            case measure => simp [intOf]; omega
          · have HE := Lib.hid (HPG.out.trans (if_neg hL0))
            have hL1 : (0 : Int) < (L.length : Int) := by
              have := List.length_pos_iff.2 hL0
              omega
            have HL1 := Lib.hid (And.intro hL0 hLl)
            clear hL0
            go_wp2_with fail
            refine (pjoin_any HO.out (by have := HJL.out; have := HTS.out; omega) (by have := HL1.out.2; omega)).mono ?_
            rintro e w5 ⟨rfl, ht⟩
            have HR5 := Lib.hid (HR3.out.still ht)
            have hus : (⟨(Px.joined L).toArray⟩ : ByteArray).size ≤ 100000000000000 := by
              show (List.toArray _).size ≤ _
              rw [List.size_toArray]
              have := HJL.out
              have := HTS.out
              omega
            have hu : sl ⟨(Px.joined L).toArray⟩ = Px.joined L := rfl
            simp only [strV]
            generalize (⟨(Px.joined L).toArray⟩ : ByteArray) = u at hus hu ⊢
            have hus2 : (u.size : Int) ≤ 140737488355000 := by omega
            have HU := Lib.hid (And.intro hu hus)
            clear ht hu hus
            go_wp2_with fail
            have hwl := HTS.out
            rw [HE.out, List.length_append, List.length_singleton, ← HU.out.1, sl_size] at hwl
            refine (ws_in HR5.out.isB _ (by rw [cat_len]; show _ + (_ + 1) ≤ _; omega)).mono ?_
            clear hwl
            rintro e w6 ⟨rfl, hI, hb6, -⟩
            have HR6 := Lib.hid (HR5.out.wrote hI hb6)
            clear hI hb6 HR5
            go_wp2_with fail
            go_roundw
            case rel =>
              refine ⟨k + 1, by go_num, hlt, ?_⟩
              have h6 := HR6.out
              rw [sl_append, HU.out.1] at h6
              rw [HST.out, HE.out]
              exact h6
            case measure => simp [intOf]; omega
    · obtain rfl : k = Z.length := by omega
      have hall : (plainG Z).take Z.length = plainG Z := List.take_of_length_le (by rw [HPL.out]; exact Nat.le_refl _)
      rw [hall] at hR
      have HR := Lib.hid hR
      clear hR hall
      go_wp2_with fail
      refine (bs_in HR.out.isB).mono ?_
      rintro e w8 ⟨rfl, hb8⟩
      have HB8 := Lib.hid hb8
      clear hb8
      go_wp2_with fail
      go_ret
      exact ⟨_, rfl, rfl, HR.out.turns.trans (Turns.of_below (S := fun b => w.heap.size + 1 ≤ b) HB8.out fun b h1 h2 => h1) fun b hb e => by omega⟩
theorem print_in {w : World} {B : Nat} {gv : Value} {Z : List (Value × List CQ)} (h : GroupsAt w B gv Z) (hf : ∀ z ∈ Z, ∀ q ∈ z.2, Fine q.1) (hn : Z.length ≤ 1000 ∧ ∀ z ∈ Z, z.2.length ≤ 1000) :
    Calls Tryz.prog 18 #[.agg #[gv]] w fun e w' => ∃ u : ByteArray, e = .returned (.string u) ∧ sl u = Px.print (plainG Z) ∧ Turns Nothing w w' := by
  refine print_rd h.rd (fun z hz q hq => (hf z hz q hq).fit) ⟨by omega, fun z hz => by have := hn.2 z hz; omega⟩ ?_
  have h1 := flat_len Px.printG 20000010000 (plainG Z) fun cs hcs => by
    obtain ⟨z, hz, rfl⟩ := List.mem_map.1 hcs
    exact printG_len _ (fun c hc => by
      obtain ⟨q, hq, rfl⟩ := List.mem_map.1 hc
      exact hf z hz q hq) (by rw [List.length_map]; exact hn.2 z hz)
  have h2 : (plainG Z).length = Z.length := by simp [plainG]
  rw [h2] at h1
  have h3 := Nat.mul_le_mul_right 20000010000 hn.1
  show (List.flatMap _ _).length ≤ _
  omega
end Go.Proofs.YtiopaenonjhlnaaGreatDoor
