/- The walk of the document's put (package mullionref12): a flag is put into its place. -/
import Derived.Test.YtedlhdegdlabhaaGreatDoorParseRead
import Derived.Test.YtedlhdegdlabhaaGreatDoorParseValue
import Derived.Test.YtedlhdegdlabhaaGreatDoorParsePutLaw
import Derived.BigQuiet
namespace Go.Proofs.YtedlhdegdlabhaaGreatDoor
set_option maxRecDepth 8000
open Go.RowKit
open Lx (Bytes)

theorem flag_cells2 {w : World} {b : Nat} {v0 v1 : Value} (h : Blk w b 67 #[v0, v1]) : w.cell? ⟨b, 0, none⟩ = some v0 ∧ w.cell? ⟨b, 1, none⟩ = some v1 ∧ b < w.heap.size := ⟨h.cell 0, h.cell 1, h.lt⟩
theorem flagCells_put (acc : List Px.Fl) (f : Px.Fl) : flagCells (acc ++ [f]) = flagCells acc ++ [.int .u8 f.1.toNat, strV f.2] := by simp [flagCells, flagCell]
/-- the flags so far, in memory -/
structure PutMem (w wr : World) (c : Int) (t : ByteArray) (n : Nat) (acc : List Px.Fl) (v : Value) : Prop where
  num : acc.length = n
  box : Blk wr w.heap.size 67 #[.int .u8 c, .string t]
  own : wr.ownsRow (w.heap.size + 1) 67 2 v n (flagCells acc)
  turns : Turns Nothing w wr
theorem PutMem.still {w wr w1 : World} {c : Int} {t : ByteArray} {n : Nat} {acc : List Px.Fl} {v : Value} (h : PutMem w wr c t n acc v) (ht : Turns Nothing wr w1) : PutMem w w1 c t n acc v :=
  ⟨h.num, ht.blk h.box id, ht.own h.own fun _ _ => id, h.turns.same ht⟩
theorem PutMem.push {w wr w2 w3 : World} {c : Int} {t : ByteArray} {n : Nat} {acc : List Px.Fl} {v v' : Value} (h : PutMem w wr c t n acc v) (h2 : Turns Nothing wr w2) (hg : w2.grownBy w3 v.ownBlock) {x : Px.Fl} {u : ByteArray} (hu : .string u = strV x.2) {cx : Int} (hcx : (x.1.toNat : Int) = cx)
    (ho : w3.ownsRow (w.heap.size + 1) 67 2 v' (n + 1) (flagCells acc ++ [.int .u8 cx, .string u])) : PutMem w w3 c t (n + 1) (acc ++ [x]) v' := by
  have h' := h.still h2
  refine ⟨by rw [List.length_append, List.length_singleton, h.num], h'.box.grown hg fun e => ?_, by rw [flagCells_put, ← hu, hcx]; exact ho, h'.turns.grown hg fun b hb e => ?_⟩
  · have := (h'.own.lt _ e.symm).1
    omega
  · have := (h'.own.lt b e).1
    omega
theorem PutMem.ready {w wr : World} {c : Int} {t : ByteArray} {n : Nat} {acc : List Px.Fl} {v : Value} (h : PutMem w wr c t n acc v) (hn : n ≤ 3000) (cx : Int) (u : ByteArray) :
    (wr.alloc (.cells #[.int .u8 cx, .string u] 67)).ownsRow (w.heap.size + 1) 67 2 v n (flagCells acc) ∧
    Src Tryz.prog 2 24 (.slice (some ⟨wr.heap.size, 0, none⟩) 1 1) 1 [.int .u8 cx, .string u] (wr.alloc (.cells #[.int .u8 cx, .string u] 67)) ∧
    w.heap.size + 1 ≤ (wr.alloc (.cells #[.int .u8 cx, .string u] 67)).heap.size ∧ n + 1 ≤ maxLen ∧ ((n + 1) + (n + 1 + 768) / 4 + 512) * 24 ≤ 281474976710656 := by
  refine ⟨((Turns.refl Nothing wr).alloc _).own h.own fun _ _ => id, psrc_block (size := 2) Tryz.underlying24 (Blk.new wr 67 #[.int .u8 cx, .string u]) 1 1 rfl (by simp [Value.oneCell']), ?_, by simp only [maxLen]; omega, by omega⟩
  have := h.box.lt
  simp [go_sem]
  omega
structure PutRel (w wr : World) (c : Int) (t : ByteArray) (f : Px.Fl) (l : List Px.Fl) (i n : Nat) (done : Bool) (v : Value) : Prop where
  le : i ≤ l.length
  mem : ∃ acc, PutMem w wr c t n acc v ∧ acc ++ Px.rput f done (l.drop i) = Px.rput f false l
  few : n ≤ 2 * i
set_option maxHeartbeats 4000000 in
theorem rput_in {w : World} {lv : Value} {l : List Px.Fl} (hl : FlagsAt w lv l) (hlen : l.length ≤ 1000) (f : Px.Fl) :
    Calls Tryz.prog 22 #[lv, .agg #[.int .u8 f.1.toNat, strV f.2]] w fun e w' => ∃ v, e = .returned v ∧ w'.ownsRow w.heap.size 67 2 v (Px.rput f false l).length (flagCells (Px.rput f false l)) ∧ Turns Nothing w w' := by
  obtain ⟨i0, hi0, hz0, hz1, hz2⟩ := info_parts A.info_flag
  obtain ⟨⟨A, cp, rfl, hc⟩, hff⟩ := hl
  have HC := Lib.hid hc
  have hln : (l.length : Int) ≤ 1000 := by omega
  obtain ⟨t, ht⟩ : ∃ t : ByteArray, t = ⟨f.2.toArray⟩ := ⟨_, rfl⟩
  have HF := Lib.hid (show Value.string t = strV f.2 by rw [ht])
  obtain ⟨c, hcc⟩ : ∃ c : Int, (f.1.toNat : Int) = c := ⟨_, rfl⟩
  have HCC := Lib.hid hcc
  simp only [strV]
  rw [← ht, hcc]
  have H0 := Lib.hid (show PutRel w (w.alloc (.cells #[.int .u8 c, .string t] 67)) c t f l 0 0 false (.slice none 0 0) from ⟨Nat.zero_le _, ⟨[], ⟨rfl, Blk.new w _ _, World.ownsRow_nil _ _ _ _, (Turns.refl _ w).alloc _⟩, rfl⟩, Nat.le_refl _⟩)
  clear hc hff ht hcc
  go_enter Tryz.func22, Tryz.ntmps22
  go_wp2_with fail
  go_loopw [5, 6, 7] (fun v d iv wr => ∃ (i n : Nat) (done : Bool), iv = .int .i64 i ∧ d = .bool done ∧ PutRel w wr c t f l i n done v) (fun _ _ iv _ => l.length - (intOf iv).toNat)
  case atStart => exact ⟨0, 0, false, rfl, rfl, H0.out⟩
  case round =>
    obtain ⟨i, n, done, rfl, rfl, hR⟩ := hrel
    obtain ⟨acc, hM, hsp⟩ := hR.mem
    obtain ⟨A0, c0, rfl⟩ := own_slice hM.own
    have hi := hR.le
    have hfew := hR.few
    have HM := Lib.hid hM
    have HSP := Lib.hid hsp
    clear hR hM hsp H0
    by_cases hlt : i < l.length
    · obtain ⟨b, off, rfl, hb, hcs⟩ := HC.out (by omega)
      obtain ⟨f0, f1⟩ := hcs i hlt
      have hdr := List.drop_eq_getElem_cons hlt
      have hs := HSP.out
      rw [hdr, Px.rput] at hs
      generalize l[i] = x at f0 f1 hs
      simp only [strV] at f1
      obtain ⟨tx, htx⟩ : ∃ tx : ByteArray, tx = ⟨x.2.toArray⟩ := ⟨_, rfl⟩
      rw [← htx] at f1
      have HX := Lib.hid (show Value.string tx = strV x.2 by rw [htx])
      obtain ⟨cx, hcx⟩ : ∃ cx : Int, (x.1.toNat : Int) = cx := ⟨_, rfl⟩
      rw [hcx] at f0
      have HCX := Lib.hid hcx
      have HLE := Lib.hid (show f.1 ≤ x.1 ↔ c ≤ cx by rw [Px.u8_le, ← HCC.out, ← hcx]; omega)
      have HEQ := Lib.hid (show x.1 = f.1 ↔ cx = c by rw [Px.u8_eq, ← HCC.out, ← hcx]; omega)
      have HB := Lib.hid (fun W (h : Turns Nothing w W) => And.intro ((h.cell (p := ⟨b, _, none⟩) hb id).trans f0) (And.intro ((h.cell (p := ⟨b, _, none⟩) hb id).trans f1) (Nat.lt_of_lt_of_le hb h.size)))
      have HS := Lib.hid hs
      clear hcx htx hs hdr hcs hb f0 f1
      obtain ⟨z0, z1, z2⟩ := flag_cells2 HM.out.box
      obtain ⟨f0, f1, hbr⟩ := HB.out _ HM.out.turns
      have hall : (done = true ∧ cx = c) ∨ (done = true ∧ ¬ cx = c) ∨ (done = false ∧ c ≤ cx ∧ cx = c) ∨ (done = false ∧ c ≤ cx ∧ ¬ cx = c) ∨ (done = false ∧ ¬ c ≤ cx ∧ ¬ cx = c) := by
        cases done
        · by_cases h1 : c ≤ cx
          · by_cases h2 : cx = c
            · exact .inr (.inr (.inl ⟨rfl, h1, h2⟩))
            · exact .inr (.inr (.inr (.inl ⟨rfl, h1, h2⟩)))
          · exact .inr (.inr (.inr (.inr ⟨rfl, h1, by omega⟩)))
        · by_cases h2 : cx = c
          · exact .inl ⟨rfl, h2⟩
          · exact .inr (.inl ⟨rfl, h2⟩)
      rcases hall with ⟨rfl, hx⟩ | ⟨rfl, hx⟩ | ⟨rfl, hle, hx⟩ | ⟨rfl, hle, hx⟩ | ⟨rfl, hle, hx⟩
      · have e1 : (cx == c) = true := by simpa using hx
        have e2 : (cx != c) = false := by simpa using hx
        have HN := Lib.hid (show acc ++ Px.rput f true (l.drop (i + 1)) = Px.rput f false l by
          rw [← HS.out]
          simp [HEQ.out.2 hx])
        clear HS
        go_wp2_with fail
        go_quiet (fail)
        have hd : Turns Nothing wr (wr.drewN nq) := (Turns.refl _ wr).drewN nq
        generalize wr.drewN nq = w5 at hd ⊢
        have HM5 := Lib.hid (HM.out.still hd)
        obtain ⟨z0, z1, z2⟩ := flag_cells2 HM5.out.box
        obtain ⟨f0, f1, hbr⟩ := HB.out _ HM5.out.turns
        clear hd
        go_wp2_with fail
        go_quiet (fail)
        go_wp2_with fail
        go_roundw
        case rel => exact ⟨i + 1, n, true, by go_num, rfl, hlt, ⟨acc, HM5.out.still ((Turns.refl _ w5).drewN nq), HN.out⟩, by omega⟩
        case measure => simp [intOf]; omega
      · have e1 : (cx == c) = false := by simpa using hx
        have e2 : (cx != c) = true := by simpa using hx
        have HN := Lib.hid (show (acc ++ [x]) ++ Px.rput f true (l.drop (i + 1)) = Px.rput f false l by
          rw [← HS.out]
          simp [show ¬ x.1 = f.1 from fun e => hx (HEQ.out.1 e)])
        clear HS
        go_wp2_with fail
        go_quiet (fail)
        have hd : Turns Nothing wr (wr.drewN nq) := (Turns.refl _ wr).drewN nq
        generalize wr.drewN nq = w5 at hd ⊢
        have HM5 := Lib.hid (HM.out.still hd)
        obtain ⟨z0, z1, z2⟩ := flag_cells2 HM5.out.box
        obtain ⟨f0, f1, hbr⟩ := HB.out _ HM5.out.turns
        clear hd
        go_wp2_with fail
        go_quiet (fail)
        have hd : Turns Nothing w5 (w5.drewN nq) := (Turns.refl _ w5).drewN nq
        generalize w5.drewN nq = w6 at hd ⊢
        have HM6 := Lib.hid (HM5.out.still hd)
        obtain ⟨z0, z1, z2⟩ := flag_cells2 HM6.out.box
        obtain ⟨f0, f1, hbr⟩ := HB.out _ HM6.out.turns
        clear hd
        have HO := Lib.hid (HM6.out.ready (by omega) cx tx)
        go_wp2_with (first
          | (at_builtin
             refine wpList_append_src _ rfl (.tmp 38) (.tmp 43) _ _ rfl (w.heap.size + 1) 67 i0 _ 2 24 Tryz.underlying24 hi0 hz0 hz1 hz2 rfl (.slice A0 n c0) n (flagCells acc) rfl HO.out.1 _ 1 [.int .u8 cx, .string tx] rfl HO.out.2.1 HO.out.2.2.2.1 HO.out.2.2.2.2 HO.out.2.2.1 ?_
             intro Aw7 cpw7 w7 ho hg hat
             have HM7 := Lib.hid (HM6.out.push ((Turns.refl Nothing w6).alloc _) hg HX.out HCX.out ho)
             obtain ⟨z0, z1, z2⟩ := flag_cells2 HM7.out.box
             obtain ⟨f0, f1, hbr⟩ := HB.out _ HM7.out.turns
             clear ho hg hat))
        go_roundw
        case rel => exact ⟨i + 1, n + 1, true, by go_num, rfl, hlt, ⟨_, HM7.out, HN.out⟩, by omega⟩
        case measure => simp [intOf]; omega
      · have e1 : (cx == c) = true := by simpa using hx
        have e2 : (cx != c) = false := by simpa using hx
        have d1 : decide (c ≤ cx) = true := decide_eq_true hle
        have HN := Lib.hid (show (acc ++ [f]) ++ Px.rput f true (l.drop (i + 1)) = Px.rput f false l by
          rw [← HS.out]
          simp [HEQ.out.2 hx])
        clear HS
        go_wp2_with fail
        go_quiet (fail)
        have hd : Turns Nothing wr (wr.drewN nq) := (Turns.refl _ wr).drewN nq
        generalize wr.drewN nq = w5 at hd ⊢
        have HM5 := Lib.hid (HM.out.still hd)
        obtain ⟨z0, z1, z2⟩ := flag_cells2 HM5.out.box
        obtain ⟨f0, f1, hbr⟩ := HB.out _ HM5.out.turns
        clear hd
        have HO := Lib.hid (HM5.out.ready (by omega) c t)
        go_wp2_with (first
          | (at_builtin
             refine wpList_append_src _ rfl (.tmp 26) (.tmp 28) _ _ rfl (w.heap.size + 1) 67 i0 _ 2 24 Tryz.underlying24 hi0 hz0 hz1 hz2 rfl (.slice A0 n c0) n (flagCells acc) rfl HO.out.1 _ 1 [.int .u8 c, .string t] rfl HO.out.2.1 HO.out.2.2.2.1 HO.out.2.2.2.2 HO.out.2.2.1 ?_
             intro Aw6 cpw6 w6 ho hg hat
             have HM6 := Lib.hid (HM5.out.push ((Turns.refl Nothing w5).alloc _) hg HF.out HCC.out ho)
             obtain ⟨z0, z1, z2⟩ := flag_cells2 HM6.out.box
             obtain ⟨f0, f1, hbr⟩ := HB.out _ HM6.out.turns
             clear ho hg hat))
        go_quiet (fail)
        go_wp2_with fail
        go_roundw
        case rel => exact ⟨i + 1, n + 1, true, by go_num, rfl, hlt, ⟨_, HM6.out.still ((Turns.refl _ w6).drewN nq), HN.out⟩, by omega⟩
        case measure => simp [intOf]; omega
      · have e1 : (cx == c) = false := by simpa using hx
        have e2 : (cx != c) = true := by simpa using hx
        have d1 : decide (c ≤ cx) = true := decide_eq_true hle
        have HN := Lib.hid (show (acc ++ [f] ++ [x]) ++ Px.rput f true (l.drop (i + 1)) = Px.rput f false l by
          rw [← HS.out]
          simp [HLE.out.2 hle, show ¬ x.1 = f.1 from fun e => hx (HEQ.out.1 e)])
        clear HS
        go_wp2_with fail
        go_quiet (fail)
        have hd : Turns Nothing wr (wr.drewN nq) := (Turns.refl _ wr).drewN nq
        generalize wr.drewN nq = w5 at hd ⊢
        have HM5 := Lib.hid (HM.out.still hd)
        obtain ⟨z0, z1, z2⟩ := flag_cells2 HM5.out.box
        obtain ⟨f0, f1, hbr⟩ := HB.out _ HM5.out.turns
        clear hd
        have HO := Lib.hid (HM5.out.ready (by omega) c t)
        go_wp2_with (first
          | (at_builtin
             refine wpList_append_src _ rfl (.tmp 26) (.tmp 28) _ _ rfl (w.heap.size + 1) 67 i0 _ 2 24 Tryz.underlying24 hi0 hz0 hz1 hz2 rfl (.slice A0 n c0) n (flagCells acc) rfl HO.out.1 _ 1 [.int .u8 c, .string t] rfl HO.out.2.1 HO.out.2.2.2.1 HO.out.2.2.2.2 HO.out.2.2.1 ?_
             intro Aw6 cpw6 w6 ho hg hat
             have HM6 := Lib.hid (HM5.out.push ((Turns.refl Nothing w5).alloc _) hg HF.out HCC.out ho)
             obtain ⟨z0, z1, z2⟩ := flag_cells2 HM6.out.box
             obtain ⟨f0, f1, hbr⟩ := HB.out _ HM6.out.turns
             clear ho hg hat))
        go_quiet (fail)
        have hd : Turns Nothing w6 (w6.drewN nq) := (Turns.refl _ w6).drewN nq
        generalize w6.drewN nq = w7 at hd ⊢
        have HM7 := Lib.hid (HM6.out.still hd)
        obtain ⟨z0, z1, z2⟩ := flag_cells2 HM7.out.box
        obtain ⟨f0, f1, hbr⟩ := HB.out _ HM7.out.turns
        clear hd
        have HO := Lib.hid (HM7.out.ready (by omega) cx tx)
        go_wp2_with (first
          | (at_builtin
             refine wpList_append_src _ rfl (.tmp 38) (.tmp 43) _ _ rfl (w.heap.size + 1) 67 i0 _ 2 24 Tryz.underlying24 hi0 hz0 hz1 hz2 rfl (.slice Aw6 (n + 1) cpw6) (n + 1) (flagCells (acc ++ [f])) rfl HO.out.1 _ 1 [.int .u8 cx, .string tx] rfl HO.out.2.1 HO.out.2.2.2.1 HO.out.2.2.2.2 HO.out.2.2.1 ?_
             intro Aw8 cpw8 w8 ho hg hat
             have HM8 := Lib.hid (HM7.out.push ((Turns.refl Nothing w7).alloc _) hg HX.out HCX.out ho)
             obtain ⟨z0, z1, z2⟩ := flag_cells2 HM8.out.box
             obtain ⟨f0, f1, hbr⟩ := HB.out _ HM8.out.turns
             clear ho hg hat))
        go_roundw
        case rel => exact ⟨i + 1, n + 1 + 1, true, by go_num, rfl, hlt, ⟨_, HM8.out, HN.out⟩, by omega⟩
        case measure => simp [intOf]; omega
      · have e1 : (cx == c) = false := by simpa using hx
        have e2 : (cx != c) = true := by simpa using hx
        have d1 : decide (c ≤ cx) = false := decide_eq_false hle
        have HN := Lib.hid (show (acc ++ [x]) ++ Px.rput f false (l.drop (i + 1)) = Px.rput f false l by
          rw [← HS.out]
          simp [show ¬ f.1 ≤ x.1 from fun e => hle (HLE.out.1 e), show ¬ x.1 = f.1 from fun e => hx (HEQ.out.1 e)])
        clear HS
        go_wp2_with fail
        go_quiet (fail)
        have hd : Turns Nothing wr (wr.drewN nq) := (Turns.refl _ wr).drewN nq
        generalize wr.drewN nq = w5 at hd ⊢
        have HM5 := Lib.hid (HM.out.still hd)
        obtain ⟨z0, z1, z2⟩ := flag_cells2 HM5.out.box
        obtain ⟨f0, f1, hbr⟩ := HB.out _ HM5.out.turns
        clear hd
        go_wp2_with fail
        go_quiet (fail)
        have hd : Turns Nothing w5 (w5.drewN nq) := (Turns.refl _ w5).drewN nq
        generalize w5.drewN nq = w6 at hd ⊢
        have HM6 := Lib.hid (HM5.out.still hd)
        obtain ⟨z0, z1, z2⟩ := flag_cells2 HM6.out.box
        obtain ⟨f0, f1, hbr⟩ := HB.out _ HM6.out.turns
        clear hd
        have HO := Lib.hid (HM6.out.ready (by omega) cx tx)
        go_wp2_with (first
          | (at_builtin
             refine wpList_append_src _ rfl (.tmp 38) (.tmp 43) _ _ rfl (w.heap.size + 1) 67 i0 _ 2 24 Tryz.underlying24 hi0 hz0 hz1 hz2 rfl (.slice A0 n c0) n (flagCells acc) rfl HO.out.1 _ 1 [.int .u8 cx, .string tx] rfl HO.out.2.1 HO.out.2.2.2.1 HO.out.2.2.2.2 HO.out.2.2.1 ?_
             intro Aw7 cpw7 w7 ho hg hat
             have HM7 := Lib.hid (HM6.out.push ((Turns.refl Nothing w6).alloc _) hg HX.out HCX.out ho)
             obtain ⟨z0, z1, z2⟩ := flag_cells2 HM7.out.box
             obtain ⟨f0, f1, hbr⟩ := HB.out _ HM7.out.turns
             clear ho hg hat))
        go_roundw
        case rel => exact ⟨i + 1, n + 1, false, by go_num, rfl, hlt, ⟨_, HM7.out, HN.out⟩, by omega⟩
        case measure => simp [intOf]; omega
    · obtain rfl : i = l.length := by omega
      have hs := HSP.out
      rw [List.drop_eq_nil_of_le (Nat.le_refl _)] at hs
      obtain ⟨z0, z1, z2⟩ := flag_cells2 HM.out.box
      cases done with
      | true =>
        have HS := Lib.hid (show acc = Px.rput f false l by rw [← hs]; simp [Px.rput])
        have hnum := HM.out.num
        clear hs
        go_wp2_with fail
        go_ret
        refine ⟨_, rfl, ?_, HM.out.turns⟩
        rw [← HS.out, hnum]
        exact own_weak HM.out.own (Nat.le_succ _)
      | false =>
        have HS := Lib.hid (show acc ++ [f] = Px.rput f false l by rw [← hs]; simp [Px.rput])
        clear hs
        have HO := Lib.hid (HM.out.ready (by omega) c t)
        go_wp2_with (first
          | (at_builtin
             refine wpList_append_src _ rfl (.tmp 47) (.tmp 49) _ _ rfl (w.heap.size + 1) 67 i0 _ 2 24 Tryz.underlying24 hi0 hz0 hz1 hz2 rfl (.slice A0 n c0) n (flagCells acc) rfl HO.out.1 _ 1 [.int .u8 c, .string t] rfl HO.out.2.1 HO.out.2.2.2.1 HO.out.2.2.2.2 HO.out.2.2.1 ?_
             intro A6 cp6 w6 ho hg hat
             have HM6 := Lib.hid (HM.out.push ((Turns.refl Nothing wr).alloc _) hg HF.out HCC.out ho)
             clear ho hg hat))
        go_ret
        refine ⟨_, rfl, ?_, HM6.out.turns⟩
        rw [← HS.out, HM6.out.num]
        exact own_weak HM6.out.own (Nat.le_succ _)
theorem rput_str {w : World} {lv : Value} {l : List Px.Fl} (hl : FlagsAt w lv l) (hlen : l.length ≤ 1000) (c : UInt8) (u : ByteArray) :
    Calls Tryz.prog 22 #[lv, .agg #[.int .u8 c.toNat, .string u]] w fun e w' => ∃ v, e = .returned v ∧ w'.ownsRow w.heap.size 67 2 v (Px.rput (c, sl u) false l).length (flagCells (Px.rput (c, sl u) false l)) ∧ Turns Nothing w w' := by
  have h := rput_in hl hlen (c, sl u)
  have e : strV (sl u) = .string u := by simp [strV, sl]
  rw [e] at h
  exact h
end Go.Proofs.YtedlhdegdlabhaaGreatDoor
