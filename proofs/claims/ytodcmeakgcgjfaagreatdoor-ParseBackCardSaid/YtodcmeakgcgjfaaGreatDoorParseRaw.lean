/- The walks of mullionlaw12's small functions: pick, cut. The walk of Names. The walk of mullionlaw12.right: a raw command becomes some right command, and a small one. -/
import Derived.Test.YtodcmeakgcgjfaaGreatDoorLexBase
import Derived.Test.YtodcmeakgcgjfaaGreatDoorLexWalkA
import Derived.Test.YtodcmeakgcgjfaaGreatDoorParseTakes
import Derived.Test.YtodcmeakgcgjfaaGreatDoorParseRef
import Derived.Test.YtodcmeakgcgjfaaGreatDoorParseTable
import Derived.Test.YtodcmeakgcgjfaaGreatDoorShelf
import Derived.Sort.OwnSorted
import Derived.Test.YtodcmeakgcgjfaaGreatDoorParseValue
import Derived.Test.YtodcmeakgcgjfaaGreatDoorParseElse
import Derived.Test.YtodcmeakgcgjfaaGreatDoorParseWords
import Derived.Test.YtodcmeakgcgjfaaGreatDoorParseBackLaw
namespace Go.Proofs.YtodcmeakgcgjfaaGreatDoor
set_option maxRecDepth 8000
open Go.RowKit
open Lx (Bytes)

set_option maxHeartbeats 1000000 in
theorem pick_in (w : World) (c n : Int) (hc : -9223372036854775808 ≤ c ∧ c ≤ 9223372036854775807) (hn : 0 < n ∧ n ≤ 9223372036854775807) :
    Calls Tryz.prog 14 #[.int .i64 c, .int .i64 n] w fun e w' => ∃ k : Nat, e = .returned (.int .i64 k) ∧ (k : Int) < n ∧ w = w' := by
  obtain ⟨hc1, hc2⟩ := hc
  obtain ⟨hn1, hn2⟩ := hn
  have hrem : ∀ x : Int, 0 ≤ x → ∃ k : Nat, Int.tmod x n = k ∧ (k : Int) < n := fun x hx => by
    have h0 : 0 ≤ Int.tmod x n := Int.tmod_nonneg _ hx
    have h1 : Int.tmod x n < n := Int.tmod_lt_of_pos _ hn1
    exact ⟨(Int.tmod x n).toNat, by omega, by omega⟩
  have hn0 : ¬ n = 0 := by omega
  have HRM := Lib.hid hrem
  clear hrem
  go_enter Tryz.func14, Tryz.ntmps14
  by_cases h : c < 0
  · obtain ⟨k, hk, hk2⟩ := HRM.out (-(c + 1)) (by omega)
    go_wp2_with fail
    go_ret
    exact ⟨k, rfl, hk2, rfl⟩
  · obtain ⟨k, hk, hk2⟩ := HRM.out c (by omega)
    go_wp2_with fail
    go_ret
    exact ⟨k, rfl, hk2, rfl⟩
set_option maxHeartbeats 1000000 in
theorem cut_in (w : World) (s : ByteArray) : Calls Tryz.prog 16 #[.string s] w fun e w' => ∃ u : ByteArray, e = .returned (.string u) ∧ u.size ≤ 500 ∧ w = w' := by
  go_enter Tryz.func16, Tryz.ntmps16
  by_cases h : 500 < s.size
  · go_wp2_with fail
    go_ret
    exact ⟨_, rfl, by rw [ByteArray.size_extract]; omega, rfl⟩
  · go_wp2_with fail
    go_ret
    exact ⟨_, rfl, by omega, rfl⟩
end Go.Proofs.YtodcmeakgcgjfaaGreatDoor
namespace Go.Proofs.YtodcmeakgcgjfaaGreatDoor
set_option maxRecDepth 8000
open Go.RowKit Go.Sort
open Lx (Bytes)

theorem A.info_nstr : (Tryz.prog.info? 9).map (fun i => (i.zero, i.size, i.bytes)) = some (some (.string ⟨#[]⟩), 1, 16) := by kernel_rfl
theorem names_take (k : Nat) (h : k < 65) : Px.names.take (k + 1) = Px.names.take k ++ [Px.table[k].name] := by
  rw [List.take_succ_eq_append_getElem (by rw [Px.names_len]; exact h)]
  congr 2
  exact List.getElem_map _
theorem names_all : Px.names.take 65 = Px.names := rfl
theorem names_merge : Px.names.mergeSort (fun x y => decide (x ≤ y)) = Px.names :=
  List.mergeSort_of_pairwise (by decide +kernel)
theorem own_weak2 {w : World} {B B' : Nat} {e : TypeId} {size n : Nat} {v : Value} {xs : List Value} (h : w.ownsRow B e size v n xs) (hB : B' ≤ B) : w.ownsRow B' e size v n xs := by
  refine ⟨h.1, h.2.imp id ?_⟩
  rintro ⟨g, cap, cur, e1, hb, rest⟩
  exact ⟨g, cap, cur, e1, Nat.le_trans hB hb, rest⟩
/-- the names met so far -/
structure NmRel (w wr : World) (T : TypeId) (t k : Nat) (v : Value) : Prop where
  le : k ≤ 65
  tab : Blk wr t T (rowCells Px.table).toArray
  own : wr.ownsRow (t + 1) 9 1 v k ((Px.names.take k).map strV)
  turns : Turns Nothing w wr
  low : w.heap.size ≤ t
theorem NmRel.drew {w wr : World} {T : TypeId} {t k : Nat} {v : Value} (h : NmRel w wr T t k v) (n : Nat) : NmRel w (wr.drewN n) T t k v :=
  ⟨h.le, h.tab.drewN n, ((Turns.refl Nothing wr).drewN n).own h.own fun _ _ => id, h.turns.drewN n, h.low⟩
theorem NmRel.push {w wr w2 w3 : World} {T : TypeId} {t k : Nat} {v v' : Value} {nm : ByteArray} (h : NmRel w wr T t k v) (hk : k < 65) (hnm : nm = ⟨Px.table[k].name.toArray⟩) (h2 : Turns Nothing wr w2) (hg : w2.grownBy w3 v.ownBlock)
    (ho : w3.ownsRow (t + 1) 9 1 v' (k + 1) ((Px.names.take k).map strV ++ [.string nm])) : NmRel w w3 T t (k + 1) v' := by
  refine ⟨hk, (h2.blk h.tab id).grown hg fun e => ?_, ?_, (h.turns.same h2).grown hg fun b hb e => ?_, h.low⟩
  · have := (h.own.lt _ e.symm).1; omega
  · rw [names_take k hk, List.map_append, List.map_singleton, strV, ← hnm]
    exact ho
  · have := (h.own.lt b e).1; have := h.low; omega
set_option maxHeartbeats 1000000 in
theorem names_in (w : World) : Calls Tryz.prog 13 #[] w fun e w' => ∃ A cp, e = .returned (.slice A 65 cp) ∧ w'.ownsRow w.heap.size 9 1 (.slice A 65 cp) 65 (Px.names.map strV) ∧ Turns Nothing w w' := by
  obtain ⟨i0, hi0, hz0, hz1, hz2⟩ := info_parts A.info_nstr
  go_enter Tryz.func13, Tryz.ntmps13
  go_wp2_with fail
  refine (table_in _).mono ?_
  rintro e w1 ⟨rfl, rfl⟩
  go_wp2_with fail
  go_loopw [6, 1] (fun i v wr => ∃ k : Nat, i = .int .i64 k ∧ NmRel w wr 94 w.heap.size k v) (fun i _ _ => 65 - (intOf i).toNat)
  case atStart => exact ⟨0, rfl, Nat.zero_le _, Blk.new _ _ _, World.ownsRow_nil _ _ _ _, (Turns.refl _ w).alloc _, Nat.le_refl _⟩
  case round =>
    obtain ⟨k, rfl, hR⟩ := hrel
    obtain ⟨A0, cp0, rfl⟩ := own_slice hR.own
    have hk := hR.le
    have hz := hR.tab.lt
    by_cases hlt : k < 65
    · obtain ⟨-, c0, c1, c2, c3, c4⟩ := rows_at hR.tab k hlt
      simp only [strV] at c0 c1 c2
      have HR := Lib.hid hR
      clear hR
      have HE := Lib.hid (fun (nm : ByteArray) (h : nm = ⟨Px.table[k].name.toArray⟩) => h)
      obtain ⟨nm, hnm⟩ : ∃ nm : ByteArray, nm = ⟨Px.table[k].name.toArray⟩ := ⟨_, rfl⟩
      rw [← hnm] at c0
      have HNm := Lib.hid hnm
      clear hnm HE
      generalize (⟨Px.table[k].others.toArray⟩ : ByteArray) = oth at c1
      generalize (⟨Px.table[k].flags.toArray⟩ : ByteArray) = fls at c2
      generalize Px.table[k].few = fe at c3
      generalize Px.table[k].most = mo at c4
      have hO := (((Turns.refl Nothing wr).alloc (.cells #[.string nm, .string oth, .string fls, .int .i64 fe, .int .i64 mo] 94)).alloc (.cells #[.string nm] 9)).own HR.out.own fun _ _ => id
      have hSc := psrc_block (size := 1) Tryz.underlying28 (blk_new_at (w := wr.alloc (.cells #[.string nm, .string oth, .string fls, .int .i64 fe, .int .i64 mo] 94)) (g := wr.heap.size + 1) (t := 9) (cs := #[.string nm]) (by simp [go_sem])) 1 1 rfl (by simp [Value.oneCell'])
      have hm : k + 1 ≤ maxLen := by simp only [maxLen]; omega
      have hy : ((k + 1) + (k + 1 + 768) / 4 + 512) * 16 ≤ 281474976710656 := by omega
      have hb2 : w.heap.size + 1 ≤ ((wr.alloc (.cells #[.string nm, .string oth, .string fls, .int .i64 fe, .int .i64 mo] 94)).alloc (.cells #[.string nm] 9)).heap.size := by simp [go_sem]; omega
      have HO := Lib.hid (And.intro hO (And.intro hSc (And.intro hb2 (And.intro hm hy))))
      clear hO hSc hb2 hm hy
      go_wp2_with (first
        | (at_builtin
           refine wpList_append_src _ rfl (.tmp 10) (.tmp 13) _ _ rfl (w.heap.size + 1) 9 i0 _ 1 16 Tryz.underlying28 hi0 hz0 hz1 hz2 rfl (.slice A0 k cp0) k _ rfl HO.out.1 _ 1 _ rfl HO.out.2.1 HO.out.2.2.2.1 HO.out.2.2.2.2 HO.out.2.2.1 ?_
           intro A1 cp1 w3 ho hg hat
           have HN := Lib.hid (And.intro hg ho)
           clear ho hg hat))
      go_roundw
      case rel => exact ⟨k + 1, by go_num, HR.out.push hlt HNm.out (((Turns.refl Nothing wr).alloc _).alloc _) HN.out.1 HN.out.2⟩
      case measure => simp [intOf]; omega
    · obtain rfl : k = 65 := by omega
      have HR := Lib.hid hR
      have ho := hR.own
      rw [names_all] at ho
      rcases ho.2 with ⟨_, h0⟩ | ⟨g, cap, cur, e, hbase, hb, h1, h2, h3, h4⟩
      · exact absurd h0 (by decide)
      · injection e with e1 e2 e3
        subst e1 e3
        have hH : Holds encStr wr g 0 Px.names.toArray := holds_of_block hb (by rw [Px.names_len]; exact h4)
        have hc := Tryz.slices_Sort_string g 0 cp0 Px.names wr hH (Array.getElem?_eq_some_iff.1 hb).1 (by rw [Px.names_len]; decide)
        rw [names_merge, Px.names_len] at hc
        have HC := Lib.hid hc
        have HB := Lib.hid (And.intro hb (And.intro h1 (And.intro h2 h3)))
        clear hR ho hc hH hb h1 h2 h3 h4
        go_wp2_with fail
        refine HC.out.mono ?_
        rintro e w' ⟨rfl, n, os, rfl⟩
        go_wp2_with fail
        go_ret
        refine ⟨_, _, rfl, ?_, ?_⟩
        · have := ownsRow_sorted (os := os) (n := n) (ss := Px.names) (ts := Px.names) rfl hbase HB.out.1 (by rw [Px.names_len]; exact HB.out.2.1) HB.out.2.2.1 HB.out.2.2.2
          rw [Px.names_len] at this
          exact own_weak2 this (Nat.le_succ _)
        · exact HR.out.turns.grown (grownBy_sorted _) fun b hb e => by injection e with e; omega
end Go.Proofs.YtodcmeakgcgjfaaGreatDoor
namespace Go.Proofs.YtodcmeakgcgjfaaGreatDoor
set_option maxRecDepth 8000
open Go.RowKit
open Lx (Bytes)

/-- strings in memory, to be read -/
structure StrsIn (w : World) (v : Value) (l : List ByteArray) : Prop where
  at_ : ∃ A c, v = .slice A l.length c ∧ (0 < l.length → ∃ b off, A = some ⟨b, off, none⟩ ∧ b < w.heap.size ∧ ∀ i, (h : i < l.length) → w.cell? ⟨b, off + i, none⟩ = some (.string l[i]))
  few : l.length ≤ 9223372036854775807
theorem StrsIn.still {w w' : World} {v : Value} {l : List ByteArray} (h : StrsIn w v l) (ht : Turns Nothing w w') : StrsIn w' v l := by
  obtain ⟨⟨A, c, rfl, h1⟩, h2⟩ := h
  refine ⟨⟨A, c, rfl, fun h0 => ?_⟩, h2⟩
  obtain ⟨b, off, hA, hb, hc⟩ := h1 h0
  exact ⟨b, off, hA, Nat.lt_of_lt_of_le hb ht.size, fun i hi => (ht.cell (p := ⟨b, _, none⟩) hb id).trans (hc i hi)⟩
/-- a command that a raw one becomes -/
structure RawOk (c : Px.Cmd) : Prop where
  right : Px.right c = true
  fl : ∀ f ∈ c.flags, f.2.length ≤ 500
  ar : c.args.length ≤ 200 ∧ ∀ a ∈ c.args, a.length ≤ 500
/-- while the flags are put together -/
structure RwRel (w : World) (K : Nat) (bx : Array Value) (r : Px.Row) (b i : Nat) (fv : Value) (acc : List Px.Fl) (wr : World) : Prop where
  box : Blk wr w.heap.size 33 bx
  res : Blk wr (w.heap.size + 1) 30 #[.string ⟨#[]⟩, .slice none 0 0, .slice none 0 0, .int .i64 0]
  cmd : Blk wr K 30 #[strV r.name, fv, .slice none 0 0, .int .i64 0]
  own : wr.ownsRow (K + 1) 57 2 fv acc.length (flagCells acc)
  ok : Px.RawFl r b i acc
  turns : Turns Nothing w wr
  low : w.heap.size + 1 < K
theorem RwRel.still {w wr w' : World} {K : Nat} {bx : Array Value} {r : Px.Row} {b i : Nat} {fv : Value} {acc : List Px.Fl} (h : RwRel w K bx r b i fv acc wr) (ht : Turns Nothing wr w') : RwRel w K bx r b i fv acc w' :=
  ⟨ht.blk h.box id, ht.blk h.res id, ht.blk h.cmd id, ht.own h.own fun _ _ => id, h.ok, h.turns.same ht, h.low⟩
theorem A.info_rflag : (Tryz.prog.info? 57).map (fun i => (i.zero, i.size, i.bytes)) = some (some (.agg #[.int .u8 0, .string ⟨#[]⟩]), 2, 24) := by kernel_rfl
theorem flagCells_snoc (acc : List Px.Fl) (f : Px.Fl) : flagCells (acc ++ [f]) = flagCells acc ++ [.int .u8 f.1.toNat, strV f.2] := by simp [flagCells, flagCell]
theorem RwRel.push {w w4 w6 : World} {K : Nat} {bx : Array Value} {r : Px.Row} {b i i' : Nat} {fv fv' : Value} {acc : List Px.Fl} {c : UInt8} {tx : ByteArray} (h : RwRel w K bx r b i fv acc w4) (hg : w4.grownBy w6 fv.ownBlock)
    (ho : w6.ownsRow (K + 1) 57 2 fv' (acc.length + 1) (flagCells acc ++ [.int .u8 c.toNat, .string tx])) (hok : Px.RawFl r b i' (acc ++ [(c, sl tx)])) : RwRel w K bx r b i' fv' (acc ++ [(c, sl tx)]) (w6.setCell ⟨K, 1, none⟩ fv') := by
  have ht : Turns (fun b => fv.ownBlock = some b) w4 w6 := (Turns.refl _ w4).grown hg fun _ _ e => e
  have hfK : ∀ b, fv.ownBlock = some b → K + 1 ≤ b := fun b e => (h.own.lt b e).1
  have hl := h.low
  have hs : Turns (Only K) w6 (w6.setCell ⟨K, 1, none⟩ fv') := (Turns.refl (Only K) w6).setCell (p := ⟨K, 1, none⟩) (.inl rfl) _
  refine ⟨?_, ?_, ?_, ?_, hok, ?_, hl⟩
  · exact hs.blk (ht.blk h.box fun e => by have := hfK _ e; omega) fun e => by have : w.heap.size = K := e; omega
  · exact hs.blk (ht.blk h.res fun e => by have := hfK _ e; omega) fun e => by have : w.heap.size + 1 = K := e; omega
  · exact (ht.blk h.cmd fun e => by have := hfK _ e; omega).set_ 1 fv'
  · refine hs.own (by rw [List.length_append, List.length_singleton, flagCells_snoc]; exact ho) fun g hg e => ?_
    have e : g = K := e
    have := (ho.lt g hg).1
    omega
  · refine (h.turns.trans ht fun b hb e => ?_).trans hs fun b hb e => ?_
    · have := hfK b e
      omega
    · have e : b = K := e
      omega
theorem raw_frozen {w w4 w6 : World} {K : Nat} {bx : Array Value} {r : Px.Row} {b i : Nat} {fv : Value} {acc : List Px.Fl} {o : Obj} (h : RwRel w K bx r b i fv acc w4) (hg : (w4.alloc o).grownBy w6 fv.ownBlock) : w6.frozen? ⟨K, 1, none⟩ = false ∧ K < w6.heap.size ∧ w6.cell? ⟨K, 1, none⟩ = some fv := by
  have hb := (h.cmd.alloc o).grown hg fun e => by have := (h.own.lt K e.symm).1; omega
  exact ⟨hb.frozen 1, hb.lt, hb.cell 1⟩
theorem RwRel.with {w wr : World} {K : Nat} {bx : Array Value} {r : Px.Row} {b i b' i' : Nat} {fv : Value} {acc : List Px.Fl} (h : RwRel w K bx r b i fv acc wr) (hk : Px.RawFl r b' i' acc) : RwRel w K bx r b' i' fv acc wr :=
  ⟨h.box, h.res, h.cmd, h.own, hk, h.turns, h.low⟩
theorem shr_in (k n : Nat) (hk : k < 1073741824) : ∃ q : Nat, (k : Int) / 2 ^ n = q ∧ q < 1073741824 := ⟨k / 2 ^ n, by simp, Nat.lt_of_le_of_lt (Nat.div_le_self _ _) hk⟩
theorem whole_name : ∀ r ∈ Px.table, Px.whole r.name = some r := by decide +kernel
theorem names_cell {w : World} {B c i : Nat} {A : Option Addr} (h : w.ownsRow B 9 1 (.slice A 65 c) 65 (Px.names.map strV)) (hi : i < 65) :
    ∃ b r, A = some ⟨b, 0, none⟩ ∧ b < w.heap.size ∧ r ∈ Px.table ∧ w.cell? ⟨b, i, none⟩ = some (strV r.name) := by
  have hl : i < Px.table.length := by rw [Px.table_len]; exact hi
  rcases h.2 with ⟨e, h0⟩ | ⟨g, cap, cur, e, hb, hg, _⟩
  · omega
  · injection e with e1
    subst e1
    refine ⟨g, Px.table[i], rfl, (Array.getElem?_eq_some_iff.1 hg).1, List.getElem_mem hl, ?_⟩
    rw [h.cellAt _ (by omega), List.getElem?_map, Px.names, List.getElem?_map, List.getElem?_eq_getElem hl]
    rfl
/-- while the arguments are put together -/
structure RaRel (w : World) (K : Nat) (bx : Array Value) (r : Px.Row) (fv av : Value) (acc : List Px.Fl) (args : List Bytes) (wr : World) : Prop where
  box : Blk wr w.heap.size 33 bx
  res : Blk wr (w.heap.size + 1) 30 #[.string ⟨#[]⟩, .slice none 0 0, .slice none 0 0, .int .i64 0]
  cmd : Blk wr K 30 #[strV r.name, fv, av, .int .i64 0]
  own : wr.ownsRow (K + 1) 57 2 fv acc.length (flagCells acc)
  arg : wr.ownsRow (K + 1) 9 1 av args.length (args.map strV)
  ok : Px.RawFl r 256 0 acc
  each : ∀ a ∈ args, a.length ≤ 500
  turns : Turns Nothing w wr
  low : w.heap.size + 1 < K
theorem RaRel.still {w wr w' : World} {K : Nat} {bx : Array Value} {r : Px.Row} {fv av : Value} {acc : List Px.Fl} {args : List Bytes} (h : RaRel w K bx r fv av acc args wr) (ht : Turns Nothing wr w') : RaRel w K bx r fv av acc args w' :=
  ⟨ht.blk h.box id, ht.blk h.res id, ht.blk h.cmd id, ht.own h.own fun _ _ => id, ht.own h.arg fun _ _ => id, h.ok, h.each, h.turns.same ht, h.low⟩
theorem RaRel.push {w w4 w6 : World} {K : Nat} {bx : Array Value} {r : Px.Row} {fv av av' : Value} {acc : List Px.Fl} {args : List Bytes} {u : ByteArray} (h : RaRel w K bx r fv av acc args w4) (hg : w4.grownBy w6 av.ownBlock)
    (ho : w6.ownsRow (K + 1) 9 1 av' (args.length + 1) (args.map strV ++ [.string u])) (hu : u.size ≤ 500) : RaRel w K bx r fv av' acc (args ++ [sl u]) (w6.setCell ⟨K, 2, none⟩ av') := by
  have ht : Turns (fun b => av.ownBlock = some b) w4 w6 := (Turns.refl _ w4).grown hg fun _ _ e => e
  have hfK : ∀ b, av.ownBlock = some b → K + 1 ≤ b := fun b e => (h.arg.lt b e).1
  have hl := h.low
  have hs : Turns (Only K) w6 (w6.setCell ⟨K, 2, none⟩ av') := (Turns.refl (Only K) w6).setCell (p := ⟨K, 2, none⟩) (.inl rfl) _
  refine ⟨?_, ?_, ?_, ?_, ?_, h.ok, fun a ha => ?_, ?_, hl⟩
  · exact hs.blk (ht.blk h.box fun e => by have := hfK _ e; omega) fun e => by have : w.heap.size = K := e; omega
  · exact hs.blk (ht.blk h.res fun e => by have := hfK _ e; omega) fun e => by have : w.heap.size + 1 = K := e; omega
  · exact (ht.blk h.cmd fun e => by have := hfK _ e; omega).set_ 2 av'
  · refine hs.own (ht.own h.own fun g hg e => own_ne h.own h.arg (by decide) g hg e) fun g hg e => ?_
    have e : g = K := e
    have := (h.own.lt g hg).1
    omega
  · refine hs.own (by rw [List.length_append, List.length_singleton, List.map_append]; exact ho) fun g hg e => ?_
    have e : g = K := e
    have := (ho.lt g hg).1
    omega
  · rcases List.mem_append.1 ha with ha | ha
    · exact h.each a ha
    · rw [List.mem_singleton.1 ha, sl_size]
      exact hu
  · refine (h.turns.trans ht fun b hb e => ?_).trans hs fun b hb e => ?_
    · have := hfK b e
      omega
    · have e : b = K := e
      omega
theorem ra_frozen {w w4 w6 : World} {K : Nat} {bx : Array Value} {r : Px.Row} {fv av : Value} {acc : List Px.Fl} {args : List Bytes} (h : RaRel w K bx r fv av acc args w4) (hg : w4.grownBy w6 av.ownBlock) : w6.frozen? ⟨K, 2, none⟩ = false ∧ K < w6.heap.size ∧ w6.cell? ⟨K, 2, none⟩ = some av := by
  have hb := h.cmd.grown hg fun e => by have := (h.arg.lt K e.symm).1; omega
  exact ⟨hb.frozen 2, hb.lt, hb.cell 2⟩
theorem A.info_rstr : (Tryz.prog.info? 9).map (fun i => (i.zero, i.size, i.bytes)) = some (some (.string ⟨#[]⟩), 1, 16) := by kernel_rfl
theorem psrc_rstr (w : World) (u : ByteArray) : Src Tryz.prog 1 28 (.slice (some ⟨w.heap.size, 0, none⟩) 1 1) 1 [.string u] (w.alloc (.cells #[.string u] 9)) :=
  psrc_block (size := 1) Tryz.underlying28 (Blk.new w 9 #[.string u]) 1 1 rfl (by simp [Value.oneCell'])
/-- at the end: the command lies in the result's cell -/
theorem RaRel.post {w wr : World} {K : Nat} {bx : Array Value} {r : Px.Row} {fv av : Value} {acc : List Px.Fl} {args : List Bytes} (h : RaRel w K bx r fv av acc args wr) (hw : Px.whole r.name = some r) (hn : args.length ≤ 200 ∧ r.few ≤ (args.length : Int) ∧ (0 ≤ r.most → (args.length : Int) ≤ r.most)) :
    (loadVar 30 ⟨w.heap.size + 1, 0, none⟩).run Tryz.prog ((((wr.setCell ⟨w.heap.size + 1, 0, none⟩ (strV r.name)).setCell ⟨w.heap.size + 1, 1, none⟩ fv).setCell ⟨w.heap.size + 1, 2, none⟩ av).setCell ⟨w.heap.size + 1, 3, none⟩ (.int .i64 0)) = .ok (.agg #[strV r.name, fv, av, .int .i64 0]) ((((wr.setCell ⟨w.heap.size + 1, 0, none⟩ (strV r.name)).setCell ⟨w.heap.size + 1, 1, none⟩ fv).setCell ⟨w.heap.size + 1, 2, none⟩ av).setCell ⟨w.heap.size + 1, 3, none⟩ (.int .i64 0)) ∧
    CmdAt ((((wr.setCell ⟨w.heap.size + 1, 0, none⟩ (strV r.name)).setCell ⟨w.heap.size + 1, 1, none⟩ fv).setCell ⟨w.heap.size + 1, 2, none⟩ av).setCell ⟨w.heap.size + 1, 3, none⟩ (.int .i64 0)) w.heap.size (.agg #[strV r.name, fv, av, .int .i64 0]) ⟨r.name, acc, args, 0⟩ ∧
    Turns Nothing w ((((wr.setCell ⟨w.heap.size + 1, 0, none⟩ (strV r.name)).setCell ⟨w.heap.size + 1, 1, none⟩ fv).setCell ⟨w.heap.size + 1, 2, none⟩ av).setCell ⟨w.heap.size + 1, 3, none⟩ (.int .i64 0)) ∧ RawOk ⟨r.name, acc, args, 0⟩ := by
  have hl := h.low
  have hs := set_four_only (wr := wr) (R := w.heap.size + 1) (strV r.name) fv av (.int .i64 0)
  have hb : Blk ((((wr.setCell ⟨w.heap.size + 1, 0, none⟩ (strV r.name)).setCell ⟨w.heap.size + 1, 1, none⟩ fv).setCell ⟨w.heap.size + 1, 2, none⟩ av).setCell ⟨w.heap.size + 1, 3, none⟩ (.int .i64 0)) (w.heap.size + 1) 30 #[strV r.name, fv, av, .int .i64 0] := (((h.res.set_ 0 _).set_ 1 _).set_ 2 _).set_ 3 _
  refine ⟨load_cmd _ _ _ _ _ _ hb, ⟨fv, av, rfl, ?_, ?_⟩, h.turns.trans hs fun b hb e => ?_, ⟨h.ok.right hw hn.2, fun f hf => (h.ok.each f hf).2, hn.1, h.each⟩⟩
  · refine hs.own (own_weak h.own (by omega)) fun g hg e => ?_
    have e : g = w.heap.size + 1 := e
    have := (h.own.lt g hg).1
    omega
  · refine hs.own (own_weak h.arg (by omega)) fun g hg e => ?_
    have e : g = w.heap.size + 1 := e
    have := (h.arg.lt g hg).1
    omega
  · have e : b = w.heap.size + 1 := e
    omega
set_option maxHeartbeats 4000000 in
theorem raw_in {w : World} {of_ bits : Int} {vv av : Value} {vs as_ : List ByteArray} (hv : StrsIn w vv vs) (ha : StrsIn w av as_) (ho : -9223372036854775808 ≤ of_ ∧ of_ ≤ 9223372036854775807) (hb : -9223372036854775808 ≤ bits ∧ bits ≤ 9223372036854775807) :
    Calls Tryz.prog 5 #[.agg #[.int .i64 of_, .int .i64 bits, vv, av]] w fun e w' => ∃ v c, e = .returned v ∧ CmdAt w' w.heap.size v c ∧ Turns Nothing w w' ∧ RawOk c := by
  obtain ⟨vA, vc, rfl, hvc⟩ := hv.at_
  obtain ⟨aA, ac, rfl, hac⟩ := ha.at_
  have HV := Lib.hid (And.intro hv ha)
  have HVC := Lib.hid hvc
  have HAC := Lib.hid hac
  have hvl : (vs.length : Int) ≤ 9223372036854775807 := by have := hv.few; omega
  have hal : (as_.length : Int) ≤ 9223372036854775807 := by have := ha.few; omega
  clear hv ha hvc hac
  go_enter Tryz.func5, Tryz.ntmps5
  go_wp2_with fail
  refine (names_in _).mono ?_
  rintro e w1 ⟨nA, nc, rfl, hn, ht⟩
  have B0 := ht.blk ((Blk.new w 33 #[.int .i64 of_, .int .i64 bits, .slice vA vs.length vc, .slice aA as_.length ac]).alloc (.cells #[.string ⟨#[]⟩, .slice none 0 0, .slice none 0 0, .int .i64 0] 30)) id
  have B1 := ht.blk (blk_new_at (w := w.alloc (.cells #[.int .i64 of_, .int .i64 bits, .slice vA vs.length vc, .slice aA as_.length ac] 33)) (g := w.heap.size + 1) (t := 30) (cs := #[.string ⟨#[]⟩, .slice none 0 0, .slice none 0 0, .int .i64 0]) (by simp [go_sem])) id
  have T1 := (((Turns.refl Nothing w).alloc (.cells #[.int .i64 of_, .int .i64 bits, .slice vA vs.length vc, .slice aA as_.length ac] 33)).alloc (.cells #[.string ⟨#[]⟩, .slice none 0 0, .slice none 0 0, .int .i64 0] 30)).same ht
  have b0 := B0.cell 0
  simp at b0
  have b0l := B0.lt
  have hlow := B1.lt
  have HB := Lib.hid (And.intro B0 (And.intro B1 T1))
  have HN := Lib.hid (fun i (hi : i < 65) => names_cell hn hi)
  clear B0 B1 T1 hn ht
  go_wp2_with fail
  refine (pick_in _ of_ 65 ho (by decide)).mono ?_
  rintro e w3 ⟨k, rfl, hk, rfl⟩
  obtain ⟨g, r, rfl, hg, hr, p0⟩ := HN.out k (by omega)
  simp only [strV] at p0
  have hwn := whole_name r hr
  have hsl : sl ⟨r.name.toArray⟩ = r.name := rfl
  have HTB := Lib.hid (fun W => table_of W ⟨r.name.toArray⟩)
  rw [hsl, hwn] at HTB
  simp only [rowOr, Option.getD, strV] at HTB
  have HR := Lib.hid (And.intro hr hwn)
  have hfl := (Px.table_flags r hr).1
  obtain ⟨hn1, hn2, hn3, hn4, hn5⟩ := Px.few_most r hr
  clear hr hwn hsl HN
  have R0 : RwRel w w1.heap.size #[.int .i64 of_, .int .i64 bits, .slice vA vs.length vc, .slice aA as_.length ac] r 0 0 (.slice none 0 0) [] (w1.alloc (.cells #[strV r.name, .slice none 0 0, .slice none 0 0, .int .i64 0] 30)) :=
    ⟨HB.out.1.alloc _, HB.out.2.1.alloc _, Blk.new _ _ _, World.ownsRow_nil _ _ _ _, .nil r, HB.out.2.2.alloc _, hlow⟩
  have HR0 := Lib.hid R0
  clear R0
  go_wp2_with fail
  refine (HTB.out _).mono ?_
  rintro e w2 ⟨rfl, ht⟩
  have HR2 := Lib.hid (HR0.out.still ht)
  clear ht HR0 HTB HB b0 b0l hlow
  generalize hK : w1.heap.size = K at *
  clear hK
  obtain ⟨fs, hfs⟩ : ∃ fs : ByteArray, fs = ⟨r.flags.toArray⟩ := ⟨_, rfl⟩
  rw [← hfs]
  have hfz : fs.size = r.flags.length := by rw [hfs]; rfl
  have hfx : ∀ i (h : i < fs.size), ∃ h' : i < r.flags.length, fs[i] = r.flags[i] := fun i h => by subst hfs; exact ⟨by rw [← hfz]; exact h, rfl⟩
  have HFX := Lib.hid hfx
  have HFZ := Lib.hid hfz
  have hf20 : (fs.size : Int) ≤ 20 := by omega
  clear hfs hfx hfz
  go_wp2_with fail
  go_loopw [8, 9] (fun nv bv wr => ∃ (n b : Nat) (fv : Value) (acc : List Px.Fl), nv = .int .i64 n ∧ bv = .int .i64 b ∧ n < 30 ∧ b ≤ 256 ∧ RwRel w K #[.int .i64 of_, .int .i64 bits, .slice vA vs.length vc, .slice aA as_.length ac] r b 0 fv acc wr) (fun _ bv _ => 256 - (intOf bv).toNat)
  case atStart => exact ⟨0, 0, _, _, rfl, rfl, by decide, by decide, HR2.out⟩
  case round =>
    obtain ⟨n, b, fv, acc, rfl, rfl, hn30, hb256, hrel⟩ := hrel
    by_cases hlt : b < 256
    · have HRb := Lib.hid hrel
      have hbd : decide ((b : Int) < 256) = true := decide_eq_true (by omega)
      clear hrel
      go_wp2_with fail
      go_loopw [10] (fun iv wr => ∃ (i : Nat) (fv : Value) (acc : List Px.Fl), iv = .int .i64 i ∧ i ≤ fs.size ∧ RwRel w K #[.int .i64 of_, .int .i64 bits, .slice vA vs.length vc, .slice aA as_.length ac] r b i fv acc wr) (fun iv _ => fs.size - (intOf iv).toNat)
      case atStart => exact ⟨0, _, _, rfl, Nat.zero_le _, HRb.out⟩
      case round =>
        obtain ⟨i, fv, acc, rfl, hi, hrel⟩ := hrel
        by_cases hlt2 : i < fs.size
        · obtain ⟨hlf, hx⟩ := HFX.out i hlt2
          have HLF := Lib.hid hlf
          have hbox := hrel.box.cell 1
          simp at hbox
          have hbl := hrel.box.lt
          have HRi := Lib.hid hrel
          clear hrel
          have h58 : fs[i].toNat < 256 := UInt8.toNat_lt _
          by_cases h1 : fs[i].toNat = b
          · subst h1
            by_cases h2 : fs[i].toNat = 58
            · have e2 : ((fs[i].toNat : Int) == 58) = true := by simp [h2]
              have e3 : (fs[i].toNat : Int) = 58 := by omega
              clear hx h2
              go_wp2_with fail
              go_roundw
              case rel => exact ⟨i + 1, _, _, by go_num, hlt2, HRi.out.with HRi.out.ok.skip⟩
              case measure => simp [intOf]; omega
            · have e2 : ((fs[i].toNat : Int) == 58) = false := by
                rw [beq_eq_false_iff_ne]
                omega
              have e3 : ¬ (fs[i].toNat : Int) = 58 := by omega
              have HX := Lib.hid (And.intro hx h2)
              clear hx h2
              go_wp2_with fail
              refine (pick_in _ bits 1073741824 hb (by decide)).mono ?_
              rintro e w5 ⟨k5, rfl, hk5, rfl⟩
              have hsh := Lib.hid (shr_in k5 n (by omega))
              clear hk5
              obtain ⟨q, hq, hq2⟩ := hsh.out
              by_cases hodd : q % 2 = 0
              · have ht2 : Int.tmod (q : Int) 2 = 0 := by rw [Int.tmod_eq_emod_of_nonneg (by omega)]; omega
                go_wp2_with fail
                go_roundw
                case rel => exact ⟨i + 1, _, _, by go_num, hlt2, HRi.out.with HRi.out.ok.skip⟩
                case measure => simp [intOf]; omega
              · have ht2 : Int.tmod (q : Int) 2 = 1 := by rw [Int.tmod_eq_emod_of_nonneg (by omega)]; omega
                obtain ⟨x0, x1, x2, x3, -⟩ : wr.cell? ⟨w.heap.size, 0, none⟩ = some (.int .i64 of_) ∧ wr.cell? ⟨w.heap.size, 1, none⟩ = some (.int .i64 bits) ∧ wr.cell? ⟨w.heap.size, 2, none⟩ = some (.slice vA vs.length vc) ∧ wr.cell? ⟨w.heap.size, 3, none⟩ = some (.slice aA as_.length ac) ∧ True := ⟨HRi.out.box.cell 0, HRi.out.box.cell 1, HRi.out.box.cell 2, HRi.out.box.cell 3, trivial⟩
                have k1 := HRi.out.cmd.cell 1
                simp at k1
                have kl := HRi.out.cmd.lt
                have kf := HRi.out.cmd.frozen 1
                obtain ⟨fA, fc, rfl⟩ := own_slice HRi.out.own
                have hac := Px.sorted_len HRi.out.ok.sorted
                have hne58 : r.flags[i]'HLF.out ≠ 58 := fun e => HX.out.2 (by rw [HX.out.1, e]; rfl)
                have HPUT := Lib.hid (show ∀ s : Bytes, s.length ≤ 500 → ((r.flags[i + 1]? == some 58) = true ∨ s = []) → Px.RawFl r fs[i].toNat (i + 1) (acc ++ [(fs[i], s)]) from fun s h1 h2 => by
                  have := HRi.out.ok.put HR.out.1 HLF.out (s := s) (by rw [← HX.out.1]) hne58 h1 h2
                  rw [← HX.out.1] at this
                  exact this)
                clear hne58 hodd hq2 hsh
                have hcase : (∃ h : i + 1 < fs.size, fs[i + 1].toNat = 58 ∧ 0 < vs.length) ∨ (¬ i + 1 < fs.size) ∨ (∃ h : i + 1 < fs.size, fs[i + 1].toNat ≠ 58) ∨ (∃ h : i + 1 < fs.size, fs[i + 1].toNat = 58 ∧ ¬ 0 < vs.length) := by
                  by_cases h1 : i + 1 < fs.size
                  · by_cases h2 : fs[i + 1].toNat = 58
                    · by_cases h3 : 0 < vs.length
                      · exact .inl ⟨h1, h2, h3⟩
                      · exact .inr (.inr (.inr ⟨h1, h2, h3⟩))
                    · exact .inr (.inr (.inl ⟨h1, h2⟩))
                  · exact .inr (.inl h1)
                rcases hcase with ⟨hnx, h58b, hvs⟩ | hcase
                · have a1 : (0 : Int) < vs.length := by omega
                  have a2 : ((fs[i + 1].toNat : Int) == 58) = true := by simp [h58b]
                  have HNX := Lib.hid (show (r.flags[i + 1]? == some 58) = true from by
                    obtain ⟨h', e⟩ := HFX.out (i + 1) hnx
                    rw [List.getElem?_eq_getElem h', ← e, show fs[i + 1] = 58 from UInt8.toNat_inj.1 h58b]
                    rfl)
                  obtain ⟨m, hm, hm2⟩ : ∃ m : Nat, Int.tmod (n : Int) (vs.length : Int) = m ∧ m < vs.length := ⟨n % vs.length, by rw [Int.tmod_eq_emod_of_nonneg (by omega)]; rfl, Nat.mod_lt _ hvs⟩
                  obtain ⟨vb, voff, rfl, hvb, hvcell⟩ := HVC.out hvs
                  have v0 := (HRi.out.turns.cell (p := ⟨vb, _, none⟩) hvb id).trans (hvcell m hm2)
                  have hvbr : vb < wr.heap.size := Nat.lt_of_lt_of_le hvb HRi.out.turns.size
                  have hv0 : ¬ (vs.length : Int) = 0 := by omega
                  have hv1 : ((vs.length : Int) == 0) = false := beq_eq_false_iff_ne.2 hv0
                  have hv2 : ¬ vs.length = 0 := by omega
                  have hv3 : ¬ vs = [] := fun e => by rw [e] at hvs; exact absurd hvs (by decide)
                  generalize vs[m] = vstr at v0
                  clear hvcell
                  go_upto_region 14 with fail
                  go_region_with (go_at_call 16; refine (cut_in _ _).mono ?_; rintro e w5 ⟨u, rfl, hu, rfl⟩; have HU := Lib.hid hu; clear hu)
                  all_goals
                    obtain ⟨i0, hi0, hz0, hz1, hz2⟩ := info_parts A.info_rflag
                    have hR1 : RwRel w K #[.int .i64 of_, .int .i64 bits, .slice (some ⟨vb, voff, none⟩) vs.length vc, .slice aA as_.length ac] r fs[i].toNat i (.slice fA acc.length fc) acc (wr.alloc (.cells #[.int .u8 fs[i].toNat, .string u] 57)).drew := HRi.out.still (((Turns.refl Nothing wr).alloc (.cells #[.int .u8 fs[i].toNat, .string u] 57)).drewN 1)
                    have hO := ((Turns.refl Nothing (wr.alloc (.cells #[.int .u8 fs[i].toNat, .string u] 57)).drew).alloc (.cells #[.int .u8 fs[i].toNat, .string u] 57)).own hR1.own fun _ _ => id
                    have hSc := psrc_block (size := 2) Tryz.underlying27 (blk_new_at (w := (wr.alloc (.cells #[.int .u8 fs[i].toNat, .string u] 57)).drew) (g := wr.heap.size + 1) (t := 57) (cs := #[.int .u8 fs[i].toNat, .string u]) (by simp [go_sem])) 1 1 rfl (by simp [Value.oneCell'])
                    have hm' : acc.length + 1 ≤ maxLen := by simp only [maxLen]; omega
                    have hy : ((acc.length + 1) + (acc.length + 1 + 768) / 4 + 512) * 24 ≤ 281474976710656 := by omega
                    have hb2 : K + 1 ≤ ((wr.alloc (.cells #[.int .u8 fs[i].toNat, .string u] 57)).drew.alloc (.cells #[.int .u8 fs[i].toNat, .string u] 57)).heap.size := by simp [go_sem]; omega
                    have HO := Lib.hid (And.intro hO (And.intro hSc (And.intro hb2 (And.intro hm' hy))))
                    have HR1 := Lib.hid hR1
                    have HU2 := Lib.hid (HPUT.out (sl u) (by rw [sl_size]; exact HU.out) (.inl HNX.out))
                    clear hO hSc hb2 hm' hy hR1
                    go_wp2_with (first
                      | (at_builtin
                         refine wpList_append_src _ rfl (.tmp 97) (.tmp 99) _ _ rfl (K + 1) 57 i0 _ 2 24 Tryz.underlying27 hi0 hz0 hz1 hz2 rfl (.slice fA acc.length fc) acc.length (flagCells acc) rfl HO.out.1 _ 1 _ rfl HO.out.2.1 HO.out.2.2.2.1 HO.out.2.2.2.2 HO.out.2.2.1 ?_
                         intro A1 cp1 w6 ho6 hg6 hat6
                         have hk6 := raw_frozen HR1.out hg6
                         obtain ⟨kf6, kl6, kc6⟩ := hk6
                         have HNN := Lib.hid ((HR1.out.still ((Turns.refl Nothing _).alloc _)).push hg6 ho6 HU2.out)
                         clear ho6 hg6 hat6))
                    go_roundw
                    case rel => exact ⟨i + 1, _, _, by go_num, hlt2, HNN.out⟩
                    case measure => simp [intOf]; omega
                · have hnil : sl (⟨#[]⟩ : ByteArray) = [] := rfl
                  obtain ⟨i0, hi0, hz0, hz1, hz2⟩ := info_parts A.info_rflag
                  have hR1 := HRi.out.still ((Turns.refl Nothing wr).alloc (.cells #[.int .u8 fs[i].toNat, .string ⟨#[]⟩] 57))
                  have hO := (((Turns.refl Nothing (wr.alloc (.cells #[.int .u8 fs[i].toNat, .string ⟨#[]⟩] 57))).alloc (.cells #[.int .u8 fs[i].toNat, .string ⟨#[]⟩] 57))).own hR1.own fun _ _ => id
                  have hSc := psrc_block (size := 2) Tryz.underlying27 (blk_new_at (w := wr.alloc (.cells #[.int .u8 fs[i].toNat, .string ⟨#[]⟩] 57)) (g := wr.heap.size + 1) (t := 57) (cs := #[.int .u8 fs[i].toNat, .string ⟨#[]⟩]) (by simp [go_sem])) 1 1 rfl (by simp [Value.oneCell'])
                  have hm : acc.length + 1 ≤ maxLen := by simp only [maxLen]; omega
                  have hy : ((acc.length + 1) + (acc.length + 1 + 768) / 4 + 512) * 24 ≤ 281474976710656 := by omega
                  have hb2 : K + 1 ≤ ((wr.alloc (.cells #[.int .u8 fs[i].toNat, .string ⟨#[]⟩] 57)).alloc (.cells #[.int .u8 fs[i].toNat, .string ⟨#[]⟩] 57)).heap.size := by simp [go_sem]; omega
                  have HO := Lib.hid (And.intro hO (And.intro hSc (And.intro hb2 (And.intro hm hy))))
                  have HR1 := Lib.hid hR1
                  clear hO hSc hb2 hm hy hR1
                  have hcase2 : (¬ i + 1 < fs.size) ∨ (∃ h : i + 1 < fs.size, ((fs[i + 1].toNat : Int) == 58) = false ∧ ¬ (fs[i + 1].toNat : Int) = 58) ∨ (∃ h : i + 1 < fs.size, ((fs[i + 1].toNat : Int) == 58) = true ∧ ¬ (0 : Int) < vs.length) := by
                    rcases hcase with hn | ⟨hn, hn2⟩ | ⟨hn, hn2, hn3⟩
                    · exact .inl hn
                    · exact .inr (.inl ⟨hn, beq_eq_false_iff_ne.2 (by omega), by omega⟩)
                    · exact .inr (.inr ⟨hn, by simp [hn2], by omega⟩)
                  clear hcase
                  rcases hcase2 with hn | ⟨hn, a2, a3⟩ | ⟨hn, a2, a3⟩
                  all_goals
                    go_wp2_with (first
                      | (at_builtin
                         refine wpList_append_src _ rfl (.tmp 97) (.tmp 99) _ _ rfl (K + 1) 57 i0 _ 2 24 Tryz.underlying27 hi0 hz0 hz1 hz2 rfl (.slice fA acc.length fc) acc.length (flagCells acc) rfl HO.out.1 _ 1 _ rfl HO.out.2.1 HO.out.2.2.2.1 HO.out.2.2.2.2 HO.out.2.2.1 ?_
                         intro A1 cp1 w6 ho6 hg6 hat6
                         have hk6 := raw_frozen HR1.out hg6
                         obtain ⟨kf6, kl6, kc6⟩ := hk6
                         have HNN := Lib.hid ((HR1.out.still ((Turns.refl Nothing _).alloc _)).push hg6 ho6 (HPUT.out [] (by decide) (.inr rfl)))
                         clear ho6 hg6 hat6))
                    go_roundw
                    case rel => exact ⟨i + 1, _, _, by go_num, hlt2, HNN.out⟩
                    case measure => simp [intOf]; omega
          · have e0 : ¬ (fs[i].toNat : Int) = (b : Int) := by omega
            have e1 : ((fs[i].toNat : Int) == (b : Int)) = false := beq_eq_false_iff_ne.2 e0
            have e2 : ((fs[i].toNat : Int) != (b : Int)) = true := by rw [bne, e1]; rfl
            clear hx
            have H1 := Lib.hid h1
            clear h1
            go_wp2_with fail
            go_roundw
            case rel => exact ⟨i + 1, _, _, by go_num, hlt2, HRi.out.with HRi.out.ok.skip⟩
            case measure => simp [intOf]; omega
        · have HRi := Lib.hid (hrel.with hrel.ok.byte)
          clear hrel
          by_cases c1 : 65 ≤ b
          · by_cases c2 : b ≤ 122
            · have d1 : (65 : Int) ≤ (b : Int) := by omega
              have d2 : (b : Int) ≤ 122 := by omega
              obtain ⟨m, hm, hm2⟩ : ∃ m : Nat, Int.tmod ((n : Int) + 1) 30 = m ∧ m < 30 := ⟨(n + 1) % 30, by rw [Int.tmod_eq_emod_of_nonneg (by omega)]; omega, by omega⟩
              go_wp2_with fail
              go_roundw
              case rel => exact ⟨m, b + 1, _, _, rfl, by go_num, hm2, by omega, HRi.out⟩
              case measure => simp [intOf]; omega
            · have d1 : (65 : Int) ≤ (b : Int) := by omega
              have d2 : ¬ (b : Int) ≤ 122 := by omega
              go_wp2_with fail
              go_roundw
              case rel => exact ⟨n, b + 1, _, _, rfl, by go_num, hn30, by omega, HRi.out⟩
              case measure => simp [intOf]; omega
          · have d1 : ¬ (65 : Int) ≤ (b : Int) := by omega
            go_wp2_with fail
            go_roundw
            case rel => exact ⟨n, b + 1, _, _, rfl, by go_num, hn30, by omega, HRi.out⟩
            case measure => simp [intOf]; omega
    · obtain ⟨fA, fc, rfl⟩ := own_slice hrel.own
      have hbd : ¬ (b : Int) < 256 := by omega
      have hok : Px.RawFl r 256 0 acc := by
        obtain rfl : b = 256 := by omega
        exact hrel.ok
      have x3 := hrel.box.cell 3
      simp at x3
      have hbl := hrel.box.lt
      have HRA := Lib.hid (show RaRel w K #[.int .i64 of_, .int .i64 bits, .slice vA vs.length vc, .slice aA as_.length ac] r (.slice fA acc.length fc) (.slice none 0 0) acc [] wr from ⟨hrel.box, hrel.res, hrel.cmd, hrel.own, World.ownsRow_nil _ _ _ _, hok, fun a ha => (List.not_mem_nil ha).elim, hrel.turns, hrel.low⟩)
      clear hrel hlt hok
      go_upto_if 115 with fail
      go_cut [12] from 115 (fun s12 wx => ∃ N : Nat, s12 = .int .i64 N ∧ (N : Int) ≤ as_.length ∧ (0 ≤ r.most → (N : Int) ≤ r.most) ∧ wx = wr)
      case first =>
        by_cases hm : 0 ≤ r.most
        · go_wp2_with fail
          go_meet
          exact ⟨(min (as_.length : Int) r.most).toNat, by rw [Int.toNat_of_nonneg (by omega)], by omega, fun _ => by omega, rfl⟩
        · go_wp2_with fail
          go_meet
          exact ⟨as_.length, rfl, Int.le_refl _, fun h => by omega, rfl⟩
      case rest =>
        obtain ⟨N, rfl, hN, hNm, e⟩ := hcut
        rw [e]
        clear e
        have HNM := Lib.hid hNm
        clear hNm x3 hbl
        go_wp2_with fail
        go_loopw [13] (fun iv wr' => ∃ (av : Value) (args : List Bytes), iv = .int .i64 args.length ∧ args.length ≤ 200 ∧ ((args.length : Int) ≤ N ∨ (args.length : Int) ≤ r.few) ∧ RaRel w K #[.int .i64 of_, .int .i64 bits, .slice vA vs.length vc, .slice aA as_.length ac] r (.slice fA acc.length fc) av acc args wr') (fun iv _ => 200 - (intOf iv).toNat)
        case atStart => exact ⟨_, [], rfl, by decide, .inl (by simp), HRA.out⟩
        case round =>
          obtain ⟨av, args, rfl, hi200, hile, hR⟩ := hrel
          obtain ⟨gA, gc, rfl⟩ := own_slice hR.arg
          have HLE := Lib.hid hile
          have HRR := Lib.hid hR
          have x3 := hR.box.cell 3
          simp at x3
          have hbl := hR.box.lt
          obtain ⟨k0, k1, k2, k3, -, -, -, -⟩ := four_cells hR.cmd
          obtain ⟨s0, s1, s2, s3, f0, f1, f2, f3⟩ := four_cells hR.res
          have kl := hR.cmd.lt
          have sl_ := hR.res.lt
          simp only [strV] at k0
          have hcase : ((args.length : Int) < max (N : Int) r.few ∧ (args.length : Int) < 200) ∨ ((¬ (args.length : Int) < max (N : Int) r.few ∧ (0 : Int) ≤ 0) ∨ ((args.length : Int) < max (N : Int) r.few ∧ ¬ (args.length : Int) < 200)) := by
            omega
          clear hR hile
          rcases hcase with ⟨c1, c2⟩ | hend
          · have HC := Lib.hid (show (args.length : Int) + 1 ≤ N ∨ (args.length : Int) + 1 ≤ r.few by omega)
            by_cases hia : args.length < as_.length
            · have hia2 : (args.length : Int) < (as_.length : Int) := by omega
              obtain ⟨ab, aoff, rfl, hab, hacell⟩ := HAC.out (by omega)
              have v0 := (HRR.out.turns.cell (p := ⟨ab, _, none⟩) hab id).trans (hacell args.length hia)
              have habr : ab < wr.heap.size := Nat.lt_of_lt_of_le hab HRR.out.turns.size
              generalize as_[args.length] = astr at v0
              clear hacell
              go_wp2_with fail
              refine (cut_in _ _).mono ?_
              rintro e w5 ⟨u, rfl, hu, rfl⟩
              have HU := Lib.hid hu
              clear hu
              obtain ⟨i0, hi0, hz0, hz1, hz2⟩ := info_parts A.info_rstr
              have hO := HRR.out.still ((Turns.refl Nothing wr).alloc (.cells #[.string u] 9))
              have hS := psrc_rstr wr u
              have hBs : K + 1 ≤ (wr.alloc (.cells #[.string u] 9)).heap.size := by simp [go_sem]; omega
              have hm : args.length + 1 ≤ maxLen := by simp only [maxLen]; omega
              have hy : ((args.length + 1) + (args.length + 1 + 768) / 4 + 512) * 16 ≤ 281474976710656 := by omega
              have HO := Lib.hid (And.intro hO (And.intro hS (And.intro hBs (And.intro hm hy))))
              clear hO hS hBs hm hy
              go_wp2_with (first
                | (at_builtin
                   refine wpList_append_src _ rfl (.tmp 142) (.tmp 144) _ _ rfl (K + 1) 9 i0 _ 1 16 Tryz.underlying28 hi0 hz0 hz1 hz2 rfl (.slice gA args.length gc) args.length (args.map strV) rfl HO.out.1.arg _ 1 [.string u] rfl HO.out.2.1 HO.out.2.2.2.1 HO.out.2.2.2.2 HO.out.2.2.1 ?_
                   intro A1 cp1 w6 ho6 hg6 hat6
                   have hk6 := ra_frozen HO.out.1 hg6
                   obtain ⟨kf6, kl6, kc6⟩ := hk6
                   have HNN := Lib.hid (HO.out.1.push hg6 ho6 HU.out)
                   clear ho6 hg6 hat6))
              go_roundw
              case rel => exact ⟨_, args ++ [sl u], by rw [List.length_append, List.length_singleton]; go_num, by rw [List.length_append, List.length_singleton]; omega, by rw [List.length_append, List.length_singleton]; have := HC.out; omega, HNN.out⟩
              case measure => simp [intOf]; omega
            · have hia2 : ¬ (args.length : Int) < (as_.length : Int) := by omega
              have HU := Lib.hid (show (⟨#[]⟩ : ByteArray).size ≤ 500 by decide)
              obtain ⟨i0, hi0, hz0, hz1, hz2⟩ := info_parts A.info_rstr
              have hO := HRR.out.still ((Turns.refl Nothing wr).alloc (.cells #[.string ⟨#[]⟩] 9))
              have hS := psrc_rstr wr ⟨#[]⟩
              have hBs : K + 1 ≤ (wr.alloc (.cells #[.string ⟨#[]⟩] 9)).heap.size := by simp [go_sem]; omega
              have hm : args.length + 1 ≤ maxLen := by simp only [maxLen]; omega
              have hy : ((args.length + 1) + (args.length + 1 + 768) / 4 + 512) * 16 ≤ 281474976710656 := by omega
              have HO := Lib.hid (And.intro hO (And.intro hS (And.intro hBs (And.intro hm hy))))
              clear hO hS hBs hm hy
              go_wp2_with (first
                | (at_builtin
                   refine wpList_append_src _ rfl (.tmp 142) (.tmp 144) _ _ rfl (K + 1) 9 i0 _ 1 16 Tryz.underlying28 hi0 hz0 hz1 hz2 rfl (.slice gA args.length gc) args.length (args.map strV) rfl HO.out.1.arg _ 1 [.string ⟨#[]⟩] rfl HO.out.2.1 HO.out.2.2.2.1 HO.out.2.2.2.2 HO.out.2.2.1 ?_
                   intro A1 cp1 w6 ho6 hg6 hat6
                   have hk6 := ra_frozen HO.out.1 hg6
                   obtain ⟨kf6, kl6, kc6⟩ := hk6
                   have HNN := Lib.hid (HO.out.1.push hg6 ho6 HU.out)
                   clear ho6 hg6 hat6))
              go_roundw
              case rel => exact ⟨_, args ++ [sl ⟨#[]⟩], by rw [List.length_append, List.length_singleton]; go_num, by rw [List.length_append, List.length_singleton]; omega, by rw [List.length_append, List.length_singleton]; have := HC.out; omega, HNN.out⟩
              case measure => simp [intOf]; omega
          · rcases hend with ⟨c1, c2⟩ | ⟨c1, c2⟩
            all_goals
              have HC := Lib.hid (show r.few ≤ (args.length : Int) ∧ (0 ≤ r.most → (args.length : Int) ≤ r.most) by
                have := HLE.out
                exact ⟨by omega, fun h => by have := HNM.out h; have := hn5 h; omega⟩)
              go_wp2_with fail
              obtain ⟨P1, P2, P3, P4⟩ := HRR.out.post HR.out.2 ⟨hi200, HC.out⟩
              refine bodyPost_ret ((results_cell Tryz.results5 _ _ _ ⟨w.heap.size + 1, 0, none⟩ rfl).trans P1) rfl ?_
              exact ⟨_, rfl, _, P2, P3, P4⟩
end Go.Proofs.YtodcmeakgcgjfaaGreatDoor
