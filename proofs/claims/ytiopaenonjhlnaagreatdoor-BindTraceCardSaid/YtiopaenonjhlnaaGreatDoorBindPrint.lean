/- Package bind: Print, walked. -/
import Derived.Test.YtiopaenonjhlnaaGreatDoorBindAll
import Derived.Test.YtiopaenonjhlnaaGreatDoorLexJoins
namespace Go.Proofs.YtiopaenonjhlnaaGreatDoor
set_option maxRecDepth 8000
open Go.RowKit
open Lx (Bytes)

theorem cat_jn : ∀ l : List Bytes, Lx.cat l = Lx.jn l
  | [] => rfl
  | x :: r => by
    have h : Lx.tails r = Lib.joinTail [32] (r.map Lx.wquote) := by
      induction r with
      | nil => rfl
      | cons y r ih => simp [Lx.tails, Lib.joinTail] <;> rfl
    rw [Lx.jn, List.map_cons, Lib.join_cons, Lx.cat, h]
/-- what Print may be given -/
structure PFit (b : Bx.Bd) : Prop where
  good : GoodB b
  size : (Px.print b.list).length ≤ 100000
  each : ∀ g ∈ b.list, ∀ c ∈ g, OneFit c
theorem A.enter_name : ∀ args w, (callFunc 17 args).run Tryz.prog w = .ok (.enter 17 args) w := enters_of Tryz.func17 (by kernel_rfl) rfl
theorem own_made (w : World) (l : List Bytes) (hl : l.length ≤ maxLen) : (w.alloc (.cells (l.map strV).toArray 9)).ownsRow w.heap.size 9 1 (.slice (some ⟨w.heap.size, 0, none⟩) l.length l.length) l.length (l.map strV) :=
  ⟨by simp, .inr ⟨w.heap.size, l.length, (l.map strV).toArray, rfl, Nat.le_refl _, Blk.new w _ _, Nat.le_refl _, hl, by simp, by rw [Nat.mul_one]; exact List.take_of_length_le (by simp)⟩⟩
theorem OnRel.made (w : World) (l : List Bytes) (hl : l.length ≤ maxLen) : OnRel w l (.slice (some ⟨w.heap.size, 0, none⟩) l.length l.length) (w.alloc (.cells (l.map strV).toArray 9)) := ⟨own_made w l hl, (Turns.refl _ w).alloc _⟩
theorem OnRel.more {w wr w1 : World} {L l : List Bytes} {v v' : Value} (h : OnRel w L v wr) (hg : wr.grownBy w1 v.ownBlock) (ho : w1.ownsRow w.heap.size 9 1 v' (L.length + l.length) (L.map strV ++ l.map strV)) : OnRel w (L ++ l) v' w1 := by
  refine ⟨by rw [List.length_append, List.map_append]; exact ho, h.turns.grown hg fun b hb e => ?_⟩
  have := h.own.lt b e
  omega
theorem src_strs (w : World) (l : List Bytes) : Src Tryz.prog 1 55 (.slice (some ⟨w.heap.size, 0, none⟩) l.length l.length) l.length (l.map strV) (w.alloc (.cells (l.map strV).toArray 9)) :=
  psrc_block (size := 1) Tryz.underlying55 (Blk.new w 9 (l.map strV).toArray) l.length l.length (by simp) (by intro u hu; simp at hu; obtain ⟨s, -, rfl⟩ := hu; rfl)
theorem OnRel.strs {w wr : World} {L : List Bytes} {v : Value} (h : OnRel w L v wr) (hs : Lx.cost L ≤ 3200000) : ∃ ls : List ByteArray, StrsAt wr wr.heap.size v ls ∧ ls.map sl = L := by
  refine ⟨L.map fun s => ⟨s.toArray⟩, ⟨?_, by rw [List.map_map]; simpa [Function.comp_def, sl] using hs⟩, by rw [List.map_map]; exact List.map_id'' (fun s => rfl) L⟩
  rcases h.own.2 with ⟨rfl, h0⟩ | ⟨g, cap, cur, rfl, hb, hg, _⟩
  · exact ⟨none, 0, by rw [List.length_map, h0], fun hn => by rw [List.length_map] at hn; omega⟩
  · refine ⟨_, cap, by rw [List.length_map], fun _ => ⟨g, 0, rfl, (Array.getElem?_eq_some_iff.1 hg).1, fun i hi => ?_⟩⟩
    rw [Nat.zero_add, h.own.cellAt _ (by simpa using hi)]
    have hi2 : i < L.length := by simpa using hi
    simp [hi2]
theorem print_end : ∀ G : List (List Px.Cmd), Px.print G = [] ∨ ∃ t, Px.print G = t ++ [10]
  | [] => .inl rfl
  | g :: G => by
    have e : Px.print (g :: G) = Px.printG g ++ Px.print G := rfl
    rcases print_end G with h | ⟨t, h⟩
    · rw [e, h, List.append_nil]
      have key : ∀ F : List Bytes, (if F = [] then ([] : Bytes) else Px.joined F ++ [10]) = [] ∨ ∃ t, (if F = [] then ([] : Bytes) else Px.joined F ++ [10]) = t ++ [10] := by
        intro F
        split
        · exact .inl rfl
        · exact .inr ⟨_, rfl⟩
      exact key _
    · right
      exact ⟨Px.printG g ++ t, by rw [e, h, List.append_assoc]⟩
theorem trim_end (G : List (List Px.Cmd)) (h : Px.print G ≠ []) : Lib.trimSuffix (Px.print G) [10] = (Px.print G).dropLast := by
  rcases print_end G with h2 | ⟨t, h2⟩
  · exact absurd h2 h
  · rw [h2]
    unfold Lib.trimSuffix
    have hs : Lib.hasSuffix (t ++ [10]) [10] = true := by simp [Lib.hasSuffix]
    rw [if_pos hs]
    simp
theorem line_cost {b : Bx.Bd} (h : PFit b) : Lx.cost (Bx.lineW b) ≤ 300000 := by
  have h1 := name_len h.good.name
  have h2 := h.good.note
  have h3 := h.size
  have h4 : (Bx.keyName b.key).length ≤ 30 := by
    unfold Bx.keyName
    have := named_len b.key.code
    split
    · simp only [List.length_append]
      have a1 : (if b.key.mods / 4 % 2 = 1 then ([67, 45] : Bytes) else []).length ≤ 2 := by split <;> simp
      have a2 : (if b.key.mods / 2 % 2 = 1 then ([77, 45] : Bytes) else []).length ≤ 2 := by split <;> simp
      have a3 : (if b.key.mods % 2 = 1 then ([83, 45] : Bytes) else []).length ≤ 2 := by split <;> simp
      omega
    · simp
  have c1 : Lx.cost (if b.rep = true then ([[45, 114]] : List Bytes) else []) ≤ 7 := by split <;> simp [Lx.cost]
  have c2 : Lx.cost (if b.note ≠ [] then ([[45, 78], b.note] : List Bytes) else []) ≤ 200 := by
    split
    · simp [Lx.cost]; omega
    · simp [Lx.cost]
  have c3 : Lx.cost (if Px.print b.list ≠ [] then ([(Px.print b.list).dropLast] : List Bytes) else []) ≤ 200010 := by
    split
    · simp [Lx.cost]; omega
    · simp [Lx.cost]
  unfold Bx.lineW
  rw [Lx.cost_append, Lx.cost_append, Lx.cost_append, Lx.cost_append]
  have c4 : Lx.cost ([[98, 105, 110, 100, 45, 107, 101, 121]] : List Bytes) = 19 := rfl
  have c5 : Lx.cost ([[45, 84], b.table, Bx.keyName b.key] : List Bytes) ≤ 300 := by simp [Lx.cost]; omega
  omega
theorem print_line (L : List Bx.Bd) (k : Nat) (h : k < L.length) (hr : Bx.right L[k].key = true) : Bx.print (L.take (k + 1)) = Bx.print (L.take k) ++ (Lx.jn (Bx.lineW L[k]) ++ [10]) := by
  rw [List.take_succ_eq_append_getElem h, Bx.print, Bx.print, List.flatMap_append, List.flatMap_cons, List.flatMap_nil, List.append_nil, if_pos hr, cat_jn]
theorem print_le (L : List Bx.Bd) (hf : ∀ b ∈ L, PFit b) : ∀ k, (Bx.print (L.take k)).length ≤ k * 300001
  | 0 => by simp [Bx.print]
  | k + 1 => by
    have ih := print_le L hf k
    by_cases h : k < L.length
    · have hb := hf L[k] (List.getElem_mem h)
      have h1 := line_cost hb
      have h2 := Lx.jn_cost (Bx.lineW L[k])
      rw [print_line L k h hb.good.key, List.length_append, List.length_append, List.length_singleton]
      omega
    · rw [List.take_of_length_le (by omega)] at ih ⊢
      exact Nat.le_trans ih (Nat.mul_le_mul_right _ (Nat.le_succ k))
def optR (r : Bool) : List Bytes := if r = true then [[45, 114]] else []
def optN (n : Bytes) : List Bytes := if n ≠ [] then [[45, 78], n] else []
def optS (G : List (List Px.Cmd)) : List Bytes := if Px.print G ≠ [] then [(Px.print G).dropLast] else []
theorem optN_len (n : Bytes) : (optN n).length ≤ 2 := by unfold optN; split <;> simp
theorem optS_len (G : List (List Px.Cmd)) : (optS G).length ≤ 1 := by unfold optS; split <;> simp
set_option maxHeartbeats 8000000 in
theorem tprint_in {w : World} (hsp : Space w) {B cp : Nat} {Ag : Option Addr} {L : List BG} (h : RowB w B (.slice Ag L.length cp) L) (hf : ∀ b ∈ L.map (·.1), PFit b) (hL : L.length ≤ 1000) :
    Calls Tryz.prog 6 #[.slice Ag L.length cp] w fun e w' => ∃ u : ByteArray, e = .returned (.string u) ∧ sl u = Bx.print (L.map (·.1)) ∧ Turns Nothing w w' := by
  have HSP := Lib.hid (fun W (ht : Turns Nothing w W) => hsp.still ht)
  have HR0 := Lib.hid h
  have HF := Lib.hid hf
  have hLl : (L.length : Int) ≤ 1000 := by omega
  have hml : (L.map (·.1)).length = L.length := List.length_map _
  have HML := Lib.hid hml
  have HLE := Lib.hid (print_le (L.map (·.1)) hf)
  have hfresh := Lib.fresh_isBuilder 66 5 w
  have HP := Lib.hid (show PrRel w w.heap.size [] (w.alloc (.cells #[.pointer none, .slice none 0 0] 66)) from ⟨Lib.IsBuilderF.of hfresh, (Turns.refl _ w).alloc _, Nat.le_refl _⟩)
  have hcells : 0 < L.length → ∃ g, Ag = some ⟨g, 0, none⟩ ∧ g < w.heap.size ∧ ∀ k, (hk : k < L.length) → ∀ j, j < 6 → w.cell? ⟨g, k * 6 + j, none⟩ = (bdCell L[k])[j]? := by
    intro h0
    rcases h.own.2 with ⟨e, h1⟩ | ⟨g, cap, cur, e, hb, hg, _⟩
    · omega
    · injection e with e1 e2 e3
      subst e1 e3
      refine ⟨g, rfl, (Array.getElem?_eq_some_iff.1 hg).1, fun k hk j hj => ?_⟩
      rw [h.own.cellAt _ (by omega), bdRow_at L k j hk hj]
  have HC := Lib.hid hcells
  clear h hf hml hfresh hcells hsp
  go_enter Tryz.func6, Tryz.ntmps6
  go_wp2_with fail
  go_loopw [10] (fun i wr => ∃ k : Nat, i = .int .i64 k ∧ k ≤ L.length ∧ PrRel w w.heap.size (Bx.print ((L.map (·.1)).take k)) wr) (fun i _ => L.length - (intOf i).toNat)
  case atStart => exact ⟨0, rfl, Nat.zero_le _, HP.out⟩
  case round =>
    obtain ⟨k, rfl, hk, hR⟩ := hrel
    clear HP
    by_cases hlt : k < L.length
    · obtain ⟨g, rfl, hg, hc⟩ := HC.out (by omega)
      have hmem : L[k].1 ∈ L.map (·.1) := List.mem_map.2 ⟨L[k], List.getElem_mem hlt, rfl⟩
      have hfb := HF.out _ hmem
      obtain ⟨Z, hgz, hpz⟩ := HR0.out.each _ (List.getElem_mem hlt)
      have hst := print_line (L.map (·.1)) k (by rw [HML.out]; exact hlt) (by rw [List.getElem_map]; exact hfb.good.key)
      rw [List.getElem_map] at hst
      have hle := HLE.out (k + 1)
      rw [hst, List.length_append] at hle
      have c0 := (hR.turns.cell (p := ⟨g, k * 6 + 0, none⟩) hg id).trans (hc k hlt 0 (by decide))
      have c1 := (hR.turns.cell (p := ⟨g, k * 6 + 1, none⟩) hg id).trans (hc k hlt 1 (by decide))
      have c2 := (hR.turns.cell (p := ⟨g, k * 6 + 2, none⟩) hg id).trans (hc k hlt 2 (by decide))
      have c3 := (hR.turns.cell (p := ⟨g, k * 6 + 3, none⟩) hg id).trans (hc k hlt 3 (by decide))
      have c4 := (hR.turns.cell (p := ⟨g, k * 6 + 4, none⟩) hg id).trans (hc k hlt 4 (by decide))
      have c5 := (hR.turns.cell (p := ⟨g, k * 6 + 5, none⟩) hg id).trans (hc k hlt 5 (by decide))
      have hgr : g < wr.heap.size := Nat.lt_of_lt_of_le hg hR.turns.size
      generalize L[k] = x at hfb hgz hpz hst hle c0 c1 c2 c3 c4 c5
      obtain ⟨b, vA, vk, vp⟩ := x
      simp only [bdCell, gvOf, List.getElem?_cons_zero, List.getElem?_cons_succ, strV, Nat.add_zero] at c0 c1 c2 c3 c4 c5 hgz hpz hst hle hfb
      have HX := Lib.hid (And.intro hfb (And.intro hgz (And.intro hpz (And.intro hst hle))))
      have HR := Lib.hid hR
      have HTB := Lib.hid (show strV b.table = .string ⟨b.table.toArray⟩ from rfl)
      have HNT := Lib.hid (show sl ⟨b.note.toArray⟩ = b.note from rfl)
      have HNT2 := Lib.hid (show strV b.note = .string ⟨b.note.toArray⟩ from rfl)
      generalize (⟨b.table.toArray⟩ : ByteArray) = tb at c0 HTB
      generalize (⟨b.note.toArray⟩ : ByteArray) = nt at c4 HNT HNT2
      have HKN := Lib.hid (fun W (ht : Turns Nothing w W) => kname_in (HSP.out W ht) b.key.code b.key.mods)
      have HKR := Lib.hid (fun W (ht : Turns Nothing w W) => kright_in (HSP.out W ht) b.key.code b.key.mods)
      rw [show Bx.right ⟨b.key.code, b.key.mods⟩ = true from hfb.good.key] at HKR
      rw [show Bx.keyName ⟨b.key.code, b.key.mods⟩ = Bx.keyName b.key from rfl] at HKN
      have HLW := Lib.hid (show Bx.lineW b = [[98, 105, 110, 100, 45, 107, 101, 121]] ++ optR b.rep ++ optN b.note ++ [[45, 84], b.table, Bx.keyName b.key] ++ optS b.list from rfl)
      have HCO := Lib.hid (line_cost hfb)
      generalize b.rep = rp at c3 HLW
      generalize b.key.code = kc at c1 HKN HKR
      generalize b.key.mods = km at c2 HKN HKR
      clear hR hc hg hmem hfb hgz hpz hst hle
      have B5 := Lib.hid (Blk.new wr 34 #[.string tb, .int .i64 kc, .int .i64 km, .bool rp, .string nt, .slice vA vk vp])
      have T5 := Lib.hid ((Turns.refl Nothing wr).alloc (.cells #[.string tb, .int .i64 kc, .int .i64 km, .bool rp, .string nt, .slice vA vk vp] 34))
      go_wp2_with fail
      refine (HKR.out _ (HR.out.turns.same T5.out)).mono ?_
      rintro e w6 ⟨rfl, ht⟩
      have B6 := Lib.hid (ht.blk B5.out id)
      have T6 := Lib.hid (T5.out.same ht)
      clear ht c0 c1 c2 c3 c4 c5 B5 T5 HKR
      obtain ⟨x0, x1, x2, x3, x4, x5, xf, xz⟩ := bd_cells B6.out
      clear xf
      go_upto_if 20 with fail
      obtain ⟨i0, hi0, hz0, hz1, hz2⟩ := info_parts A.info_pstr
      have O7 := Lib.hid (show OnRel w6 [[98, 105, 110, 100, 45, 107, 101, 121]] (.slice (some ⟨w6.heap.size, 0, none⟩) 1 1) (w6.alloc (.cells #[.string ⟨#[98, 105, 110, 100, 45, 107, 101, 121]⟩] 9)) from OnRel.made w6 [[98, 105, 110, 100, 45, 107, 101, 121]] (by decide))
      clear x0 x1 x2 x3 x4 x5 xz
      generalize w6.alloc (.cells #[.string ⟨#[98, 105, 110, 100, 45, 107, 101, 121]⟩] 9) = w7 at O7 ⊢
      go_cut [6] from 20 to 23 (fun s6 wx => OnRel w6 ([[98, 105, 110, 100, 45, 107, 101, 121]] ++ optR rp) s6 wx)
      case first =>
        cases rp with
        | false =>
          go_wp2_with fail
          go_meet
          exact O7.out
        | true =>
          have hO := O7.out.still ((Turns.refl Nothing w7).alloc (.cells #[.string ⟨#[45, 114]⟩] 9))
          have hS : Src Tryz.prog 1 55 (.slice (some ⟨w7.heap.size, 0, none⟩) 1 1) 1 [.string ⟨#[45, 114]⟩] (w7.alloc (.cells #[.string ⟨#[45, 114]⟩] 9)) := src_strs w7 [[45, 114]]
          have hz : w6.heap.size ≤ (w7.alloc (.cells #[.string ⟨#[45, 114]⟩] 9)).heap.size := hO.turns.size
          have HO := Lib.hid (And.intro hO (And.intro hS (And.intro (show 1 + 1 ≤ maxLen by decide) (And.intro (show ((1 + 1) + (1 + 1 + 768) / 4 + 512) * 16 ≤ 281474976710656 by decide) hz))))
          clear hO hS hz
          go_wp2_with (first
            | (at_builtin
               refine wpList_append_src _ rfl (.tmp 21) (.tmp 22) _ _ rfl w6.heap.size 9 i0 _ 1 16 Tryz.underlying55 hi0 hz0 hz1 hz2 rfl (.slice (some ⟨w6.heap.size, 0, none⟩) 1 1) 1 _ rfl HO.out.1.own _ 1 [.string ⟨#[45, 114]⟩] rfl HO.out.2.1 HO.out.2.2.1 HO.out.2.2.2.1 HO.out.2.2.2.2 ?_
               intro A1 cp1 w8 ho hg hat
               have HN := Lib.hid (And.intro hg ho)
               clear ho hg hat))
          go_meet
          exact HO.out.1.more (l := [[45, 114]]) HN.out.1 HN.out.2
      case rest =>
        have hO2 := hcut
        have hl2 : ([[98, 105, 110, 100, 45, 107, 101, 121]] ++ optR rp).length ≤ 2 := by cases rp <;> decide
        clear hcut O7
        generalize ([[98, 105, 110, 100, 45, 107, 101, 121]] ++ optR rp) = l2 at hO2 hl2 HLW
        obtain ⟨A2, c2, rfl⟩ := own_slice hO2.own
        obtain ⟨x0, x1, x2, x3, x4, x5, xf, xz⟩ := bd_cells (hO2.turns.blk B6.out id)
        have O2 := Lib.hid hO2
        clear xf hO2
        generalize wc = w8 at O2 x0 x1 x2 x3 x4 x5 xz ⊢
        go_upto_if 26 with fail
        generalize hq : (!nt.toList.isEmpty) = q
        have HQ := Lib.hid hq
        clear hq
        go_cut [6] from 26 to 31 (fun s6 wx => OnRel w6 (l2 ++ optN b.note) s6 wx)
        case first =>
          cases q with
          | false =>
            have hnn : b.note = [] := by
              have h := HQ.out
              rw [txt_list, HNT.out] at h
              simpa using h
            have HON := Lib.hid (show optN b.note = [] from if_neg (fun h => h hnn))
            clear hnn
            go_wp2_with fail
            go_meet
            rw [HON.out, List.append_nil]
            exact O2.out
          | true =>
            have hnn : b.note ≠ [] := by
              intro e
              have h := HQ.out
              rw [txt_list, HNT.out, e] at h
              cases h
            have HON := Lib.hid (show optN b.note = [[45, 78], b.note] from if_pos hnn)
            clear hnn
            have hO := O2.out.still ((Turns.refl Nothing w8).alloc (.cells #[.string ⟨#[45, 78]⟩, .string nt] 9))
            have hS := psrc_block (size := 1) Tryz.underlying55 (Blk.new w8 9 #[.string ⟨#[45, 78]⟩, .string nt]) 2 2 rfl (by intro u hu; simp at hu; rcases hu with rfl | rfl <;> rfl)
            have hz : w6.heap.size ≤ (w8.alloc (.cells #[.string ⟨#[45, 78]⟩, .string nt] 9)).heap.size := hO.turns.size
            have HO := Lib.hid (And.intro hO (And.intro hS (And.intro (show l2.length + 2 ≤ maxLen by unfold maxLen; omega) (And.intro (show ((l2.length + 2) + (l2.length + 2 + 768) / 4 + 512) * 16 ≤ 281474976710656 by omega) hz))))
            clear hO hS hz
            go_wp2_with (first
              | (at_builtin
                 refine wpList_append_src _ rfl (.tmp 27) (.tmp 30) _ _ rfl w6.heap.size 9 i0 _ 1 16 Tryz.underlying55 hi0 hz0 hz1 hz2 rfl (.slice A2 l2.length c2) l2.length _ rfl HO.out.1.own _ 2 [.string ⟨#[45, 78]⟩, .string nt] rfl HO.out.2.1 HO.out.2.2.1 HO.out.2.2.2.1 HO.out.2.2.2.2 ?_
                 intro A1 cp1 w9 ho hg hat
                 have HN := Lib.hid (And.intro hg ho)
                 clear ho hg hat))
            go_meet
            rw [HON.out]
            refine HO.out.1.more (l := [[45, 78], b.note]) HN.out.1 ?_
            have e : ([[45, 78], b.note] : List Bytes).map strV = [.string ⟨#[45, 78]⟩, .string nt] := by rw [← HNT2.out]; rfl
            rw [e]
            exact HN.out.2
        case rest =>
          have hO3 := hcut
          have hl3 : (l2 ++ optN b.note).length ≤ 4 := by
            rw [List.length_append]
            have := optN_len b.note
            omega
          clear hcut O2 x0 x1 x2 x3 x4 x5 xz hl2
          generalize (l2 ++ optN b.note) = l3 at hO3 hl3 HLW
          obtain ⟨A3, c3, rfl⟩ := own_slice hO3.own
          obtain ⟨x0, x1, x2, x3, x4, x5, xf, xz⟩ := bd_cells (hO3.turns.blk B6.out id)
          have O3 := Lib.hid hO3
          have HTT := Lib.hid (HR.out.turns.same (T6.out.same hO3.turns))
          have HB9 := Lib.hid (hO3.turns.blk B6.out id)
          clear xf hO3
          generalize wc = w9 at O3 x0 x1 x2 x3 x4 x5 xz HTT HB9 ⊢
          go_upto_region 11 with fail
          go_cut [6] (fun s6 wx => OnRel w6 (l3 ++ [[45, 84], b.table, Bx.keyName b.key]) s6 wx)
          case first =>
            clear x3 x4 x5
            go_region_law (first
              | (refine step_call_one (by rfl) 17 _ _ (by rfl) (.agg #[.int .i64 kc, .int .i64 km]) (by rfl) A.enter_name _ (HKN.out _ (by first | exact HTT.out.drewN 1 | exact HTT.out)) ?_; rintro e w10 ⟨u, rfl, hu, ht⟩; have H10 := Lib.hid (And.intro hu ht); have x0 := (ht.blk (HB9.out.drewN 1) id).cell 0; have xz := (ht.blk (HB9.out.drewN 1) id).lt; clear hu ht; refine ⟨_, rfl, ?_⟩)
              | (refine step_append_src _ (by rfl) _ _ _ _ (by rfl) w6.heap.size 9 i0 _ 1 16 Tryz.underlying55 hi0 hz0 hz1 hz2 (by rfl) (.slice A3 l3.length c3) l3.length (l3.map strV) (by rfl) (by exact ((O3.out.still (((Turns.refl Nothing w9).drewN 1).same H10.out.2)).still ((Turns.refl Nothing w10).alloc _)).own) _ 3 [.string ⟨#[45, 84]⟩, .string tb, .string u] (by rfl) (by exact psrc_block (size := 1) Tryz.underlying55 (Blk.new w10 _ _) 3 3 rfl (by intro u hu; simp at hu; rcases hu with rfl | rfl | rfl <;> rfl)) (by simp only [maxLen]; omega) (by omega) (by exact ((O3.out.still (((Turns.refl Nothing w9).drewN 1).same H10.out.2)).still ((Turns.refl Nothing w10).alloc _)).turns.size) ?_; intro A1 cp1 w11 ho hg hat; have HN := Lib.hid (And.intro hg ho); clear ho hg hat))
            all_goals
              go_wp2_with fail
              go_meet
              refine ((O3.out.still (((Turns.refl Nothing w9).drewN 1).same H10.out.2)).still ((Turns.refl Nothing w10).alloc _)).more (l := [[45, 84], b.table, Bx.keyName b.key]) HN.out.1 ?_
              have e : ([[45, 84], b.table, Bx.keyName b.key] : List Bytes).map strV = [.string ⟨#[45, 84]⟩, .string tb, .string u] := by
                have h1 : strV (Bx.keyName b.key) = .string u := by rw [← H10.out.1]; rfl
                show [strV [45, 84], strV b.table, strV (Bx.keyName b.key)] = _
                rw [HTB.out, h1]
              rw [e]
              exact HN.out.2
          case rest =>
            have hO4 := hcut
            have hl4 : (l3 ++ [[45, 84], b.table, Bx.keyName b.key]).length ≤ 7 := by rw [List.length_append]; simp only [List.length_cons, List.length_nil]; omega
            clear hcut O3 x0 x1 x2 x3 x4 x5 xz hl3 HTT HB9
            generalize (l3 ++ [[45, 84], b.table, Bx.keyName b.key]) = l4 at hO4 hl4 HLW
            obtain ⟨A4, c4, rfl⟩ := own_slice hO4.own
            obtain ⟨x0, x1, x2, x3, x4, x5, xf, xz⟩ := bd_cells (hO4.turns.blk B6.out id)
            have O4 := Lib.hid hO4
            have HTT := Lib.hid (HR.out.turns.same (T6.out.same hO4.turns))
            clear xf hO4
            generalize wc = w9 at O4 x0 x1 x2 x3 x4 x5 xz HTT ⊢
            go_wp2_with fail
            refine (print_rd (Z := Z) (HX.out.2.1.rd.still HTT.out) (fun z hz q hq => HX.out.1.each (z.2.map (·.1)) (by rw [← HX.out.2.2.1]; exact List.mem_map.2 ⟨z, hz, rfl⟩) q.1 (List.mem_map.2 ⟨q, hq, rfl⟩)) ⟨(FitL.bare (Z := Z) (by rw [HX.out.2.2.1]; exact HX.out.1.good.list)).n, fun z hz => ((FitL.bare (Z := Z) (by rw [HX.out.2.2.1]; exact HX.out.1.good.list)).each z hz).1⟩ (by rw [HX.out.2.2.1]; have := HX.out.1.size; omega)).mono ?_
            rintro e w10 ⟨u, rfl, hu, ht⟩
            rw [HX.out.2.2.1] at hu
            have HU := Lib.hid hu
            have O5 := Lib.hid (O4.out.still ht)
            have HTT2 := Lib.hid (HTT.out.same ht)
            clear hu ht O4 HTT x0 x1 x2 x3 x4 x5 xz
            go_upto_if 44 with fail
            generalize hq : (!u.toList.isEmpty) = q4
            have HQ4 := Lib.hid hq
            clear hq
            have hus : u.size ≤ 100000 := by rw [← sl_size, HU.out]; exact HX.out.1.size
            go_cut [6] from 44 to 49 (fun s6 wx => OnRel w6 (l4 ++ optS b.list) s6 wx)
            case first =>
              cases q4 with
              | false =>
                have hnn : Px.print b.list = [] := by
                  have h := HQ4.out
                  rw [txt_list, HU.out] at h
                  simpa using h
                have HON := Lib.hid (show optS b.list = [] from if_neg (fun h => h hnn))
                clear hnn
                go_wp2_with fail
                go_meet
                rw [HON.out, List.append_nil]
                exact O5.out
              | true =>
                have hnn : Px.print b.list ≠ [] := by
                  intro e
                  have h := HQ4.out
                  rw [txt_list, HU.out, e] at h
                  cases h
                have HON := Lib.hid (show optS b.list = [(Px.print b.list).dropLast] from if_pos hnn)
                have hts := trim_end b.list hnn
                rw [← HU.out] at hts
                have HTS := Lib.hid (show (⟨(Lib.trimSuffix u.data.toList (⟨#[10]⟩ : ByteArray).data.toList).toArray⟩ : ByteArray) = ⟨((Px.print b.list).dropLast).toArray⟩ from by
                  have : Lib.trimSuffix u.data.toList (⟨#[10]⟩ : ByteArray).data.toList = (sl u).dropLast := hts
                  rw [this, HU.out])
                clear hnn hts
                have HTM := Lib.hid (fun W => Tryz.strings_TrimSuffix u ⟨#[10]⟩ W (by omega))
                rw [HTS.out] at HTM
                generalize hut : (⟨((Px.print b.list).dropLast).toArray⟩ : ByteArray) = ut at HTM
                have HUT := Lib.hid hut
                clear hut
                have hO := O5.out.still ((Turns.refl Nothing w10).alloc (.cells #[.string ut] 9))
                have hS := psrc_block (size := 1) Tryz.underlying55 (Blk.new w10 9 #[.string ut]) 1 1 rfl (by intro u hu; simp at hu; subst hu; rfl)
                have hz : w6.heap.size ≤ (w10.alloc (.cells #[.string ut] 9)).heap.size := hO.turns.size
                have HO := Lib.hid (And.intro hO (And.intro hS (And.intro (show l4.length + 1 ≤ maxLen by unfold maxLen; omega) (And.intro (show ((l4.length + 1) + (l4.length + 1 + 768) / 4 + 512) * 16 ≤ 281474976710656 by omega) hz))))
                clear hO hS hz
                go_wp2_with fail
                refine (HTM.out _).mono ?_
                rintro e w11 ⟨rfl, hw⟩
                rw [hw]
                clear hw
                go_wp2_with (first
                  | (at_builtin
                     refine wpList_append_src _ rfl (.tmp 45) (.tmp 48) _ _ rfl w6.heap.size 9 i0 _ 1 16 Tryz.underlying55 hi0 hz0 hz1 hz2 rfl (.slice A4 l4.length c4) l4.length _ rfl HO.out.1.own _ 1 [.string ut] rfl HO.out.2.1 HO.out.2.2.1 HO.out.2.2.2.1 HO.out.2.2.2.2 ?_
                     intro A1 cp1 w12 ho hg hat
                     have HN := Lib.hid (And.intro hg ho)
                     clear ho hg hat))
                go_meet
                rw [HON.out]
                refine HO.out.1.more (l := [(Px.print b.list).dropLast]) HN.out.1 ?_
                have e : ([(Px.print b.list).dropLast] : List Bytes).map strV = [.string ut] := by rw [← HUT.out]; rfl
                rw [e]
                exact HN.out.2
            case rest =>
              have hO6 := hcut
              clear hcut O5
              rw [← HLW.out] at hO6
              obtain ⟨ls, hls, hlm⟩ := hO6.strs (Nat.le_trans HCO.out (by decide))
              obtain ⟨A6, c6, rfl⟩ := own_slice hO6.own
              have HJ := Lib.hid (join_any hls)
              rw [hlm] at HJ
              have hjs : (⟨(Lx.jn (Bx.lineW b)).toArray⟩ : ByteArray).size ≤ 300000 := by
                show (List.toArray _).size ≤ _
                rw [List.size_toArray]
                exact Nat.le_trans (Lx.jn_cost _) HCO.out
              have HJU := Lib.hid (show sl ⟨(Lx.jn (Bx.lineW b)).toArray⟩ = Lx.jn (Bx.lineW b) from rfl)
              generalize (⟨(Lx.jn (Bx.lineW b)).toArray⟩ : ByteArray) = ju at HJ hjs HJU
              have HPR := Lib.hid (HR.out.still (T6.out.same hO6.turns))
              clear hls hlm hO6
              generalize wc = w13 at HJ HPR ⊢
              go_wp2_with fail
              refine HJ.out.mono ?_
              rintro e w14 ⟨rfl, ht⟩
              have HP2 := Lib.hid (HPR.out.still ht)
              clear ht HPR HJ
              go_wp2_with fail
              have hle := HX.out.2.2.2.2
              have hlr := HLE.out k
              refine (ws_in HP2.out.isB _ (by rw [cat_len]; show _ + (_ + 1) ≤ _; omega)).mono ?_
              clear hle hlr
              rintro e w15 ⟨rfl, hI, hb6, -⟩
              have HP3 := Lib.hid (HP2.out.wrote hI hb6)
              clear hI hb6 HP2
              go_wp2_with fail
              go_roundw
              case rel =>
                refine ⟨k + 1, by go_num, hlt, ?_⟩
                have h6 := HP3.out
                rw [sl_append, HJU.out] at h6
                rw [HX.out.2.2.2.1]
                exact h6
              case measure => simp [intOf]; omega
    · obtain rfl : k = L.length := by omega
      rw [List.take_of_length_le (by rw [HML.out]; exact Nat.le_refl _)] at hR
      have HR := Lib.hid hR
      clear hR
      go_wp2_with fail
      refine (bs_in HR.out.isB).mono ?_
      rintro e w8 ⟨rfl, hb8⟩
      have T8 := Lib.hid (HR.out.turns.trans (Turns.of_below (S := fun b => w.heap.size ≤ b) hb8 fun b h1 h2 => h1) fun b hb e => by omega)
      clear hb8
      go_wp2_with fail
      go_ret
      exact ⟨_, rfl, rfl, T8.out⟩
end Go.Proofs.YtiopaenonjhlnaaGreatDoor
