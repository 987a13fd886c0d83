/- The walks of package lex's reader: value. -/
import Derived.Test.YtedlhdegdlabhaaGreatDoorLexName
namespace Go.Proofs.YtedlhdegdlabhaaGreatDoor
set_option maxRecDepth 8000
open Go.RowKit
open Lx (Bytes)

theorem Ctx.turned {w w' : World} {c : Cfg} {k : Nat} {tx : Value} {t : Bytes} (h : Ctx w c k tx t) (ht : Turns Nothing w w') : Step w c tx k t w' tx :=
  ⟨⟨ht.blk h.blk id, h.hB, h.size, h.le, ht.own h.own fun _ _ => id, h.long, h.env.keep fun p hp => ht.cell (by have := h.hB; have := h.ltR; omega) id⟩, ht.mono fun _ _ e => e.elim, fun _ hb => .inl hb⟩

def ValueRel (w : World) (es : List (ByteArray × ByteArray)) (nm : ByteArray) (i : Nat) (v : Value) (wr : World) : Prop :=
  ∃ u : ByteArray, v = .string u ∧ sl u = Lx.value (envOf (es.take i)) (sl nm) ∧ u.size ≤ strMost ∧ Turns Nothing w wr
def ValueLoop (w : World) (es : List (ByteArray × ByteArray)) (nm : ByteArray) (v i : Value) (wr : World) : Prop :=
  ∃ n : Nat, i = .int .i64 n ∧ n ≤ es.length ∧ ValueRel w es nm n v wr
theorem env_addr_low {w : World} {B : Nat} {ev : Value} {es : List (ByteArray × ByteArray)} (h : EnvAt w B ev es) : ∃ A cp, ev = .slice A es.length cp ∧
    ∀ i, (hi : i < es.length) → ∃ b off, A = some ⟨b, off, none⟩ ∧ b < B ∧ w.cell? ⟨b, off + i * 2, none⟩ = some (.string es[i].1) ∧ w.cell? ⟨b, off + i * 2 + 1, none⟩ = some (.string es[i].2) := by
  obtain ⟨⟨A, cp, hv, hc⟩, _, _⟩ := h
  refine ⟨A, cp, hv, fun i hi => ?_⟩
  obtain ⟨b, off, hA, hb, hx⟩ := hc (by omega)
  exact ⟨b, off, hA, hb, hx i hi⟩
theorem value_yes {es : List (ByteArray × ByteArray)} {nm : ByteArray} {n : Nat} (h : n < es.length) (he : sl es[n].1 = sl nm) : Lx.value (envOf (es.take (n + 1))) (sl nm) = sl es[n].2 := by
  rw [List.take_succ_eq_append_getElem h]
  unfold envOf Lx.value
  rw [List.map_append, List.foldl_append]
  simp only [List.map_cons, List.map_nil, List.foldl_cons, List.foldl_nil, he, if_true]
theorem value_no {es : List (ByteArray × ByteArray)} {nm : ByteArray} {n : Nat} (h : n < es.length) (he : ¬ sl es[n].1 = sl nm) : Lx.value (envOf (es.take (n + 1))) (sl nm) = Lx.value (envOf (es.take n)) (sl nm) := by
  rw [List.take_succ_eq_append_getElem h]
  unfold envOf Lx.value
  rw [List.map_append, List.foldl_append]
  simp only [List.map_cons, List.map_nil, List.foldl_cons, List.foldl_nil, he, if_false]

theorem sl_inj {a b : ByteArray} (h : sl a = sl b) : a = b := ByteArray.ext (Array.toList_inj.1 h)
theorem str_list (a : ByteArray) : a.toList = sl a := Lib.toList_data a
theorem str_ne {a b : ByteArray} (h : ¬ a = b) : (a.toList == b.toList) = false := by
  rw [beq_eq_false_iff_ne, str_list, str_list]; exact fun e => h (sl_inj e)
set_option maxHeartbeats 1000000 in
theorem value_any {w : World} {c : Cfg} {k : Nat} {tx : Value} {t : Bytes} (h : Ctx w c k tx t) (nm : ByteArray) :
    Calls Tryz.prog 106 #[.pointer (some ⟨c.R, 0, none⟩), .string nm] w fun e w' => ∃ v, e = .returned v ∧ ValueRel w c.es nm c.es.length v w' := by
  have h1 := h.c1
  have hlow := h.env.few
  have hsm := Lib.hid h.env.small
  unfold maxLen at hlow
  obtain ⟨A, cp, hev, hcell⟩ := env_addr_low h.env
  rw [hev] at h1
  have H := Lib.hid h
  have HC := Lib.hid hcell
  clear h hcell hev
  go_enter Tryz.func106, Tryz.ntmps106
  go_wp2_with fail
  go_loopw [5, 13] (fun v i wr => ValueLoop w c.es nm v i wr) (fun _ i _ => c.es.length - (intOf i).toNat)
  case atStart => exact ⟨0, rfl, Nat.zero_le _, ⟨#[]⟩, rfl, rfl, Nat.zero_le _, Turns.refl _ _⟩
  case round =>
    clear h1
    obtain ⟨n, rfl, hn, u, rfl, hu, hsz, ht⟩ := hrel
    have HU := Lib.hid (And.intro hu (And.intro hsz ht))
    clear hu hsz
    by_cases hlt : n < c.es.length
    · obtain ⟨b, off, hA, hb, e1, e2⟩ := HC.out n hlt
      subst hA
      have hB : c.B ≤ w.heap.size := by have := H.out.hB; have := H.out.ltR; omega
      have e1 := (ht.cell (p := ⟨b, off + n * 2, none⟩) (show b < _ by omega) id).trans e1
      have e2 := (ht.cell (p := ⟨b, off + n * 2 + 1, none⟩) (show b < _ by omega) id).trans e2
      have hy := Lib.hid (value_yes (nm := nm) hlt)
      have hno := Lib.hid (value_no (nm := nm) hlt)
      have hs2 := Lib.hid (hsm.out _ (List.getElem_mem hlt)).2
      generalize c.es[n].1 = key at e1 hy hno
      generalize c.es[n].2 = val at e2 hy hs2
      clear ht
      by_cases he : key = nm
      · subst he
        go_wp2_with fail
        go_roundw
        case rel => exact ⟨n + 1, by go_num, by omega, val, rfl, (hy.out rfl).symm, hs2.out, HU.out.2.2.alloc _⟩
        case measure => simp [intOf]; omega
      · have hb : (key.toList == nm.toList) = false := str_ne he
        have he2 := Lib.hid he
        clear he
        go_wp2_with fail
        go_roundw
        case rel => exact ⟨n + 1, by go_num, by omega, u, rfl, HU.out.1.trans (hno.out fun e => he2.out (sl_inj e)).symm, HU.out.2.1, HU.out.2.2.alloc _⟩
        case measure => simp [intOf]; omega
    · clear ht
      go_wp2_with fail
      go_ret
      obtain ⟨hu, hsz, ht⟩ := HU.out
      obtain rfl : n = c.es.length := by omega
      exact ⟨_, rfl, u, rfl, hu, hsz, ht⟩
end Go.Proofs.YtedlhdegdlabhaaGreatDoor
