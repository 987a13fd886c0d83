/- Package parse: flags are sorted by their letters: slices.SortFunc, with the closure of read. A store into a map in two steps (the entry is found or made; its value is stored): what it comes to, for keys of any kind. No program. -/
import Derived.Test.YtiopaenonjhlnaaGreatDoorParseTakes
import Derived.Test.YtiopaenonjhlnaaGreatDoorParseLines
import Derived.Test.YtiopaenonjhlnaaGreatDoorShelfSort
import Derived.Shelf.SlSortCmp.NoneTotal
import Derived.Test.YtiopaenonjhlnaaGreatDoorLexBase
import Derived.Maps.Own
import Derived.WideKeyEntry
namespace Go.Proofs.YtiopaenonjhlnaaGreatDoor
set_option maxRecDepth 8000
open Go.RowKit Go.Lib Go.Sort
open Lx (Bytes)

def byLetter (x y : Px.Fl) : Int := (x.1.toNat : Int) - y.1.toNat
theorem byLetter_lt (x y : Px.Fl) : ltOf byLetter x y = decide (x.1 < y.1) := by
  unfold ltOf byLetter
  rw [Bool.eq_iff_iff, decide_eq_true_eq, decide_eq_true_eq, Px.u8_lt]
  omega
theorem byLetter_swo : SWO (ltOf byLetter) where
  irrefl x := by rw [byLetter_lt]; simp
  trans x y z h1 h2 := by rw [byLetter_lt] at *; simp only [decide_eq_true_eq, Px.u8_lt] at *; omega
  ntrans x y z h1 h2 := by rw [byLetter_lt] at *; simp only [decide_eq_false_iff_not, Px.u8_lt] at *; omega
set_option maxHeartbeats 1000000 in
theorem closure_in (x y : Px.Fl) (w : World) : Calls Tryz.prog 97 #[.agg #[.int .u8 x.1.toNat, strV x.2], .agg #[.int .u8 y.1.toNat, strV y.2]] w fun e w' => e = .returned (.int .i64 (byLetter x y)) ∧ ∃ q os', w' = grow (w.drewN q) os' := by
  have hx : (x.1.toNat : Int) < 256 := by have := x.1.toNat_lt; omega
  have hy : (y.1.toNat : Int) < 256 := by have := y.1.toNat_lt; omega
  have hx0 : 0 ≤ (x.1.toNat : Int) := by omega
  have hy0 : 0 ≤ (y.1.toNat : Int) := by omega
  unfold byLetter
  simp only [strV]
  generalize (x.1.toNat : Int) = a at hx hx0 ⊢
  generalize (y.1.toNat : Int) = b at hy hy0 ⊢
  go_enter Tryz.func97, Tryz.ntmps97
  go_wp2_with fail
  go_ret
  exact ⟨rfl, 0, _, by rw [alloc_eq_grow, alloc_eq_grow, grow_grow]; rfl⟩

theorem flagCells_at : ∀ (l : List Px.Fl) (i : Nat) (h : i < l.length), (flagCells l)[i * 2]? = some (.int .u8 l[i].1.toNat) ∧ (flagCells l)[i * 2 + 1]? = some (strV l[i].2)
  | x :: l, 0, _ => ⟨rfl, rfl⟩
  | x :: l, i + 1, h => by
    have := flagCells_at l i (by simpa using h)
    have e : flagCells (x :: l) = .int .u8 x.1.toNat :: strV x.2 :: flagCells l := rfl
    rw [e, show (i + 1) * 2 = i * 2 + 2 by omega]
    simpa using this
theorem flagCells_len : ∀ l : List Px.Fl, (flagCells l).length = l.length * 2
  | [] => rfl
  | x :: l => by
    have e : flagCells (x :: l) = flagCell x ++ flagCells l := rfl
    rw [e, List.length_append, flagCells_len l, List.length_cons]
    show 2 + _ = _
    omega
theorem flat_flags (l : List Px.Fl) : flatK flagCell 2 l.toArray = (flagCells l).toArray := by
  apply Array.ext
  · simp [flagCells_len]
  · intro t h1 h2
    have hs : t < l.length * 2 := by simpa using h1
    have hi : t / 2 < l.length := by omega
    have hg := get_flatK flagCell 2 l.toArray t (by simpa using hs)
    rw [getElem!_pos _ t h1] at hg
    rw [hg]
    have c := flagCells_at l (t / 2) hi
    have hget : l.toArray[t / 2]! = l[t / 2] := by rw [getElem!_pos _ _ (by simpa using hi)]; simp
    rw [hget]
    have hm : t % 2 = 0 ∨ t % 2 = 1 := by omega
    apply Option.some.inj
    rw [← Array.getElem?_eq_getElem h2, List.getElem?_toArray]
    rcases hm with hm | hm
    · have c1 := c.1
      rw [show t / 2 * 2 = t by omega] at c1
      rw [hm, c1]; rfl
    · have c2 := c.2
      rw [show t / 2 * 2 + 1 = t by omega] at c2
      rw [hm, c2]; rfl
theorem heap_sorted_id {w : World} {g n : Nat} {os : Array Obj} {cur : Array Value} {e : TypeId} {fr : Nat × Nat} (F : Array Value) (hb : w.heap[g]? = some (.cells cur e fr)) :
    (grow (putRow id (Sort.ahead w n) g 0 F) os).heap[g]? = some (.cells (putCells id 0 F cur) e fr) := by
  have hg : g < w.heap.size := (Array.getElem?_eq_some_iff.1 hb).1
  rw [heap_grow_old _ _ (by simpa using hg)]
  simp [putRow, mapBlock, Sort.ahead, Array.getElem?_modify, hb, onCells]
theorem grownBy_sorted_id {w : World} {g n : Nat} {os : Array Obj} (F : Array Value) : w.grownBy (grow (putRow id (Sort.ahead w n) g 0 F) os) (some g) := by
  refine ⟨rfl, rfl, rfl, by simp, fun k hk hne => ?_⟩
  rw [heap_grow_old _ _ (by simpa using hk)]
  have : g ≠ k := fun e => hne (by rw [e])
  simp [putRow, mapBlock, Sort.ahead, Array.getElem?_modify, this]
theorem take_putCells_id (cur : Array Value) (F : List Value) (h : F.length ≤ cur.size) : (putCells id 0 F.toArray cur).toList.take F.length = F := by
  apply List.ext_getElem?
  intro j
  by_cases hj : j < F.length
  · rw [List.getElem?_take_of_lt hj, Array.getElem?_toList]
    simp [putCells, hj, show j < cur.size by omega]
  · rw [List.getElem?_take_eq_none (by omega), List.getElem?_eq_none (by omega)]
theorem holds_flags {w : World} {g : Nat} {cur : Array Value} {e : TypeId} {l : List Px.Fl} (hb : w.heap[g]? = some (.cells cur e (0, 0))) (ht : cur.toList.take (l.length * 2) = flagCells l) : HoldsK flagCell 2 w g 0 l.toArray := by
  unfold HoldsK
  rw [flat_flags]
  intro j hj
  have hj' : j < l.length * 2 := by rw [← flagCells_len]; simpa using hj
  refine ⟨?_, by simp [World.frozen?, hb]⟩
  have h1 : (cur.toList.take (l.length * 2))[j]? = (flagCells l)[j]? := by rw [ht]
  rw [List.getElem?_take_of_lt hj'] at h1
  simp only [World.cell?, hb, Nat.zero_add]
  simp only [Option.isSome_none, Bool.false_eq_true, if_false]
  rw [← Array.getElem?_toList, h1]
  have hj2 : j < (flagCells l).length := by rw [flagCells_len]; exact hj'
  simp [hj2]
/-- the flags are sorted: m, those in order -/
theorem sort_flags {w : World} {B cp : Nat} {A : Option Addr} {acc m : List Px.Fl} (ho : w.ownsRow B 121 2 (.slice A acc.length cp) acc.length (flagCells acc)) (hp : acc.Perm m) (hm : Px.Sorted m) (hl : acc.length < 4611686018427387904) :
    Calls Tryz.prog 96 #[.slice A acc.length cp, .func (.func 97) #[] #[]] w fun e w' => e = .returned (.tuple #[]) ∧ w'.ownsRow B 121 2 (.slice A m.length cp) m.length (flagCells m) ∧
      w.grownBy w' (Value.slice A acc.length cp).ownBlock := by
  have hlen := hp.length_eq
  rcases ho.2 with ⟨e, h0⟩ | ⟨g, cap, cur, e, hbase, hb, h1, h2, h3, h4⟩
  · injection e with e1 e2 e3
    subst e1 e3
    obtain rfl : acc = [] := List.length_eq_zero_iff.1 h0
    obtain rfl : m = [] := List.length_eq_zero_iff.1 (by rw [← hlen]; rfl)
    refine (show Calls Tryz.prog 96 _ _ _ from AnyF.slices_SortFunc_none Tryz.sortFl none 0 _ w).mono ?_
    rintro e w' ⟨rfl, rfl⟩
    exact ⟨rfl, ho, ⟨rfl, rfl, rfl, Nat.le_refl _, fun _ _ _ => rfl⟩⟩
  · injection e with e1 e2 e3
    subst e1 e3
    have eg : ∀ args w, (callFunc 97 args).run Tryz.prog w = .ok (.enter 97 args) w := enters_of Tryz.func97 (by kernel_rfl) rfl
    have hH := holds_flags hb h4
    have hcon := AnyQ.slices_SortFunc Tryz.sortFl 2 Tryz.isAgg121 Tryz.sizeOf121 flagCell (fun _ => rfl) (fun x v hv => by simp [flagCell] at hv; rcases hv with rfl | rfl <;> rfl) byLetter byLetter_swo 97 #[] g 0 cp acc.toArray w eg
      (fun _ _ _ _ x y => closure_in x y _) hH (Array.getElem?_eq_some_iff.1 hb).1 (by simpa using hl)
    change Calls Tryz.prog 96 _ _ _ at hcon
    refine hcon.mono ?_
    rintro e w' ⟨rfl, d', n, os, hperm, hsort, rfl⟩
    have hsz : d'.size = acc.length := by simpa using hperm.1
    have hd : d'.toList = m := by
      refine Px.sorted_of_perm ?_ hm ?_
      · have hp2 := hperm.2.2
        simp only [Array.toList_extract, List.size_toArray] at hp2
        refine List.Perm.trans ?_ hp
        rw [List.extract_eq_take_drop, List.extract_eq_take_drop] at hp2
        simp only [List.drop_zero, Nat.sub_zero] at hp2
        rwa [List.take_of_length_le (by simp [hsz]), List.take_of_length_le (Nat.le_refl _)] at hp2
      · rw [List.pairwise_iff_getElem]
        intro i j hi hj hij
        have := hsort i j (Nat.zero_le _) hij (by rw [List.size_toArray, ← hsz]; simpa using hj)
        rw [byLetter_lt, decide_eq_false_iff_not] at this
        simp at hi hj
        rw [getElem!_pos d' j hj, getElem!_pos d' i hi] at this
        simpa using this
    obtain rfl : d' = m.toArray := by rw [← hd]
    refine ⟨rfl, ?_, ?_⟩
    · unfold sortWorldK putRowK
      rw [flat_flags]
      refine ⟨by rw [flagCells_len], .inr ⟨g, cp, _, rfl, hbase, heap_sorted_id _ hb, by omega, h2, by simp [putCells, h3], ?_⟩⟩
      rw [← flagCells_len]
      exact take_putCells_id cur _ (by rw [flagCells_len, h3, ← hlen]; omega)
    · unfold sortWorldK putRowK
      exact grownBy_sorted_id _
end Go.Proofs.YtiopaenonjhlnaaGreatDoor
namespace Go.Proofs.YtiopaenonjhlnaaGreatDoor
open Go.Maps Go.WideElems Go.ChangeShapes Go.WideShapes Go.MapKept Go.ChangeMaps

theorem entry_store {H : Type} {P : Program} {t k e : TypeId} {w : World} {b n : Nat} {D : DataW H} {R : Value → Option (DataW H × List MemPlace)} (K : Keyed P k) (ht : P.underlying t = some (.map k e)) (h : w.ownsMap P k R b n D) (hn : n < maxLen)
    {key val : Value} {kl : Lit} {d : DataW H} {ps : List MemPlace} (hkey : keyOf P k key = some kl) (hv : R val = some (d, ps)) {z : Value} (hz : ∀ u : World, (zeroValue e).run P u = .ok z u) :
    ∃ (v0 : Value) (st : Nat) (w1 w2 : World), (Instr.mapEntry t (.map (some b)) key).run P w = .ok (.tuple #[v0, goInt st]) w1 ∧ (Instr.entryStore t (.map (some b)) (goInt st) val).run P w1 = .ok () w2 ∧
      w.grownBy w1 (some b) ∧ w1.heap.size = w.heap.size ∧ w2.ownsMap P k R b (n + 1) (D.put kl d) ∧ w.grownBy w2 (some b) := by
  obtain ⟨w', hrun, ho, hg⟩ := h.update K ht hn hkey hv
  obtain ⟨es, clock, hb, F, hs, rfl⟩ := h
  have hgr : ∀ o, w.grownBy (setBlock w b o) (some b) := fun o => ⟨rfl, rfl, rfl, by simp [setBlock], fun i _ hi => heap_setBlock_other hb _ (fun e => hi (by rw [e]))⟩
  have hsz : ∀ o, (setBlock w b o).heap.size = w.heap.size := fun o => by simp [setBlock]
  obtain ⟨s1, s2, _⟩ := F.stamped
  rcases K.find w hkey es.toList F.keys with ⟨h1, h2⟩ | ⟨j, e0, h1, h2, h3⟩
  · have hru : (Instr.mapUpdate t (.map (some b)) key val).run P w = .ok () (setBlock w b (.map (es.push ⟨key, val, clock⟩) (clock + 1))) := by
      simp [Instr.mapUpdate, run_underlying ht, MapKept.run_getObj_map hb, K.check w false hkey, h1, MapKept.run_setObj_map _ hb, Result.andThen, setBlock]
    rw [hru] at hrun
    obtain rfl : setBlock w b (.map (es.push ⟨key, val, clock⟩) (clock + 1)) = w' := by injection hrun
    refine ⟨z, clock, setBlock w b (.map (es.push ⟨key, z, clock⟩) (clock + 1)), _, ?_, ?_, hgr _, hsz _, ho, hg⟩
    · simp [Instr.mapEntry, run_underlying ht, MapKept.run_getObj_map hb, K.check w false hkey, h1, hz, MapKept.run_setObj_map _ hb, Result.andThen, setBlock]
    · have hw2 : (setBlock w b (.map (es.push ⟨key, z, clock⟩) (clock + 1))).heap[b]? = some (.map (es.push ⟨key, z, clock⟩) (clock + 1)) := heap_setBlock_same hb _
      have hidx : (es.push ⟨key, z, clock⟩).findIdx? (fun e => ((e.born : Nat) : Int) == ((clock : Nat) : Int)) = some es.size := by
        rw [findIdx_arr]
        refine findIdx_born (l := (es.push ⟨key, z, clock⟩).toList) (j := es.size) (e0 := ⟨key, z, clock⟩) ?_ (by simp)
        simp only [Array.toList_push, List.map_append, List.map_cons, List.map_nil]
        refine List.nodup_append.2 ⟨s2, by simp, fun a ha c hc e1 => ?_⟩
        simp only [List.mem_singleton] at hc
        obtain ⟨x, hx, rfl⟩ := List.mem_map.1 ha
        have := s1 x hx
        omega
      have hmod : (es.push ⟨key, z, clock⟩).modify es.size (fun e => { e with val := val }) = es.push ⟨key, val, clock⟩ := by
        apply Array.ext'
        rw [Array.toList_modify, Array.toList_push, Array.toList_push, ← Array.length_toList, modify_last]
      have hss : setBlock (setBlock w b (.map (es.push ⟨key, z, clock⟩) (clock + 1))) b (.map (es.push ⟨key, val, clock⟩) (clock + 1)) = setBlock w b (.map (es.push ⟨key, val, clock⟩) (clock + 1)) := by simp [setBlock]
      simp only [Instr.entryStore, Sem.run_bind, MapKept.run_getObj_map hw2, Result.andThen_ok]
      simp [asInt, asIntOf, goInt, hidx, hmod, MapKept.run_setObj_map _ hw2, Result.andThen]
      exact hss
  · have hj : es[j]? = some e0 := by simpa using h2
    have hsame : es.modify j (fun e => { e with key := key }) = es := by
      apply Array.ext'
      rw [Array.toList_modify, modify_eq_set _ _ _ _ h2]
      have : ({ e0 with key := key } : MapEntry) = e0 := by rw [← h3]
      rw [this]
      exact set_self _ _ _ h2
    have hru : (Instr.mapUpdate t (.map (some b)) key val).run P w = .ok () (setBlock w b (.map (es.modify j (fun e' => { e' with key := key, val := val })) clock)) := by
      simp [Instr.mapUpdate, run_underlying ht, MapKept.run_getObj_map hb, K.check w false hkey, h1, hj, h3, K.stays w hkey, MapKept.run_setObj_map _ hb, Result.andThen, setBlock]
    rw [hru] at hrun
    obtain rfl : setBlock w b (.map (es.modify j (fun e' => { e' with key := key, val := val })) clock) = w' := by injection hrun
    refine ⟨e0.val, e0.born, setBlock w b (.map es clock), _, ?_, ?_, hgr _, hsz _, ho, hg⟩
    · simp [Instr.mapEntry, run_underlying ht, MapKept.run_getObj_map hb, K.check w false hkey, h1, hj, h3, K.stays w hkey, hsame, MapKept.run_setObj_map _ hb, Result.andThen, setBlock]
    · have hw2 : (setBlock w b (.map es clock)).heap[b]? = some (.map es clock) := heap_setBlock_same hb _
      have hidx : es.findIdx? (fun e => ((e.born : Nat) : Int) == ((e0.born : Nat) : Int)) = some j := by
        rw [findIdx_arr]
        exact findIdx_born s2 h2
      have hmod : es.modify j (fun e => { e with val := val }) = es.modify j (fun e' => { e' with key := key, val := val }) := by
        apply Array.ext'
        rw [Array.toList_modify, Array.toList_modify, modify_eq_set _ _ _ _ h2, modify_eq_set _ _ _ _ h2, ← h3]
      have hss : setBlock (setBlock w b (.map es clock)) b (.map (es.modify j (fun e' => { e' with key := key, val := val })) clock) = setBlock w b (.map (es.modify j (fun e' => { e' with key := key, val := val })) clock) := by simp [setBlock]
      simp only [Instr.entryStore, Sem.run_bind, MapKept.run_getObj_map hw2, Result.andThen_ok]
      simp [asInt, asIntOf, goInt, hidx, hmod, MapKept.run_setObj_map _ hw2, Result.andThen]
      exact hss
end Go.Proofs.YtiopaenonjhlnaaGreatDoor
