/- Package bind: All, walked (of all tables). Package bind: All, walked (of all tables). -/
import Derived.Test.YtiopaenonjhlnaaGreatDoorBindSort
import Derived.Test.YtiopaenonjhlnaaGreatDoorBindTabP
namespace Go.Proofs.YtiopaenonjhlnaaGreatDoor
set_option maxRecDepth 8000
open Go.RowKit
open Lx (Bytes)

/-- bindings in a row, their commands above B -/
structure RowB (w : World) (B : Nat) (v : Value) (L : List BG) : Prop where
  own : w.ownsRow B 34 6 v L.length (bdRow L)
  each : ∀ x ∈ L, ∃ Z, GAt w B (gvOf x) Z ∧ plainG Z = x.1.list
theorem GAt.other {w w' : World} {B B2 : Nat} {gv v : Value} {Z : List (Value × List CQ)} {size n : Nat} {xs : List Value} (h : GAt w B gv Z) (ho : w.ownsRow B2 34 size v n xs) (hg : w.grownBy w' v.ownBlock) : GAt w' B gv Z := by
  have ht : Turns (fun b => v.ownBlock = some b) w w' := (Turns.refl _ w).grown hg fun _ _ e => e
  exact ⟨ht.own h.outer fun g hg e => own_ne h.outer ho (by decide) g hg e, fun z hz => ht.own (h.inner z hz) fun g hg e => own_ne (h.inner z hz) ho (by decide) g hg e,
    fun z hz q hq => ⟨ht.own (h.rows z hz q hq).flags fun g hg e => own_ne (h.rows z hz q hq).flags ho (by decide) g hg e, ht.own (h.rows z hz q hq).args fun g hg e => own_ne (h.rows z hz q hq).args ho (by decide) g hg e⟩⟩
theorem RowB.still {w w' : World} {B : Nat} {v : Value} {L : List BG} (h : RowB w B v L) (ht : Turns Nothing w w') : RowB w' B v L :=
  ⟨ht.own h.own fun _ _ => id, fun x hx => by
    obtain ⟨Z, h1, h2⟩ := h.each x hx
    exact ⟨Z, h1.still ht, h2⟩⟩
theorem RowB.weak {w : World} {B B' : Nat} {v : Value} {L : List BG} (h : RowB w B v L) (hB : B' ≤ B) : RowB w B' v L :=
  ⟨own_weak h.own hB, fun x hx => by
    obtain ⟨Z, h1, h2⟩ := h.each x hx
    exact ⟨Z, h1.weak hB, h2⟩⟩
theorem RowB.push {w w2 : World} {B : Nat} {v v' : Value} {L : List BG} {x : BG} (h : RowB w B v L) {Z : List (Value × List CQ)} (hx : GAt w B (gvOf x) Z) (hp : plainG Z = x.1.list)
    (ho : w2.ownsRow B 34 6 v' (L.length + 1) (bdRow L ++ bdCell x)) (hg : w.grownBy w2 v.ownBlock) : RowB w2 B v' (L ++ [x]) := by
  refine ⟨by rw [List.length_append, List.length_singleton, show bdRow (L ++ [x]) = bdRow L ++ bdCell x by simp [bdRow]]; exact ho, fun y hy => ?_⟩
  rcases List.mem_append.1 hy with hy | hy
  · obtain ⟨Z', h1, h2⟩ := h.each y hy
    exact ⟨Z', h1.other h.own hg, h2⟩
  · rw [List.mem_singleton.1 hy]
    exact ⟨Z, hx.other h.own hg, hp⟩
theorem grown_of {w w' : World} (h : Turns Nothing w w') : w.grownBy w' none := ⟨h.os, h.tape, h.output, h.size, fun i hi _ => h.block i hi id⟩
/-- the bindings that a range over the map has met -/
structure AllRel (w wr : World) (M it : Nat) (m : List Bx.BV) (D : DataW Value) (left : Lit → Bool) (cnt : Nat) (acc : List Bx.BV) (L : List BG) (v : Value) : Prop where
  iter : wr.ranges Tryz.prog 78 elemR M it m.length D left cnt
  coll : Bx.Coll okP keyP D m left acc
  row : RowB wr (it + 1) v L
  same : L.map (·.1) = acc.map (·.1)
  few : acc.length + cnt ≤ m.length
  turns : Turns Nothing w wr
  low : w.heap.size ≤ it
  size : it + 1 ≤ wr.heap.size
theorem wpList_next_tab {P' : Program} (hP' : P' = Tryz.prog) (w : World) {ops : Array Oper} {rest : List Oper} {o : Oper} {a : Act} {Q : Exit → Act → World → Prop} (hg : o.guard = none) (it : Operand) (hop : o.op = Op.next it false) (b r n : Nat) (D : DataW Value) (left : Lit → Bool) (cnt : Nat)
    (hit : a.eval it = .pointer (some ⟨r, 0, none⟩)) (h : w.ranges P' 78 elemR b r n D left cnt)
    (hDone : cnt = 0 → (∀ kl, left kl = false) → wpList P' ops Q rest (a.put o.dst (.tuple #[.bool false])) w)
    (hMore : ∀ (t : ByteArray) (c m : Int) (x : BdC) (w' : World) (cnt' : Nat), okP (sl t, ⟨c, m⟩) → left (keyP (sl t, ⟨c, m⟩)) = true →
      (∀ zd, D.atKey (keyP (sl t, ⟨c, m⟩)) zd = .held (.agg #[.string x.t, .int .i64 x.c, .int .i64 x.m, .bool x.r, .string x.n, .slice x.A x.k x.p])) → w'.ranges P' 78 elemR b r n D (fun z => left z && !z.sameKey (keyP (sl t, ⟨c, m⟩))) cnt' → cnt' < cnt →
      w.grownBy w' (some r) → w'.heap.size = w.heap.size → (Instr.entry (.pointer (some ⟨r, 0, none⟩))).run P' w' = .ok (.tuple #[.agg #[.string t, .int .i64 c, .int .i64 m], .agg #[.string x.t, .int .i64 x.c, .int .i64 x.m, .bool x.r, .string x.n, .slice x.A x.k x.p]]) w' →
      wpList P' ops Q rest (a.put o.dst (.tuple #[.bool true, .agg #[.string t, .int .i64 c, .int .i64 m], .agg #[.string x.t, .int .i64 x.c, .int .i64 x.m, .bool x.r, .string x.n, .slice x.A x.k x.p]])) w') :
    wpList P' ops Q (o :: rest) a w := by
  subst hP'
  refine wpList_next_ranges w hg it hop 78 A.place_law elemR (fun x : ByteArray × Int × Int => .agg #[.string x.1, .int .i64 x.2.1, .int .i64 x.2.2]) bdcV (fun key kl hk => by
    obtain ⟨t, c, m, rfl, -⟩ := place_inv hk
    exact ⟨(t, c, m), rfl⟩) (fun v y hv => (elemR_inv hv).1) b r n D left cnt hit h hDone ?_
  intro x c kl y w' cnt' hk hl hv hat hrg hlt hgr hsz hen
  obtain ⟨t, cc, mm⟩ := x
  obtain ⟨t2, c2, m2, e, hok⟩ := place_inv hk
  simp only [Value.agg.injEq, Array.mk.injEq, List.cons.injEq, Value.string.injEq, Value.int.injEq, true_and, and_true] at e
  obtain ⟨rfl, rfl, rfl⟩ := e
  have hkk : kl = keyP (sl t, ⟨cc, mm⟩) := by
    have h2 := keyP_of hok
    have h3 : keyOf Tryz.prog 78 (Bx.placeV (sl t, ⟨cc, mm⟩)) = some kl := hk
    rw [h2] at h3
    injection h3 with h3
    exact h3.symm
  subst hkk
  have hy : y.1 = .held (bdcV c) := by
    rw [elemR_mk] at hv
    injection hv with hv
    rw [← hv]
  exact hMore t cc mm c w' cnt' hok hl (fun zd => (hat zd).trans hy) hrg hlt hgr hsz hen
end Go.Proofs.YtiopaenonjhlnaaGreatDoor
namespace Go.Proofs.YtiopaenonjhlnaaGreatDoor
set_option maxRecDepth 8000
open Go.RowKit
open Lx (Bytes)

theorem A.info_bind : (Tryz.prog.info? 34).map (fun i => (i.zero, i.size, i.bytes)) = some (some zeroB, 6, 80) := by kernel_rfl
theorem AllRel.still {w wr w' : World} {M it : Nat} {m : List Bx.BV} {D : DataW Value} {left : Lit → Bool} {cnt : Nat} {acc : List Bx.BV} {L : List BG} {v : Value} (h : AllRel w wr M it m D left cnt acc L v) (ht : Turns Nothing wr w') : AllRel w w' M it m D left cnt acc L v :=
  ⟨h.iter.kept (grown_of ht) (by simp) (by simp), h.coll, h.row.still ht, h.same, h.few, h.turns.same ht, h.low, Nat.le_trans h.size ht.size⟩
set_option maxHeartbeats 8000000 in
theorem all_in {w : World} {P M : Nat} {T : List Bx.Bd} (h : TabAt w P M T) : Calls Tryz.prog 7 #[.pointer (some ⟨P, 0, none⟩), .string ⟨#[]⟩] w fun e w' =>
    ∃ Ag cp L, e = .returned (.slice Ag L.length cp) ∧ RowB w' w.heap.size (.slice Ag L.length cp) L ∧ L.map (·.1) = T ∧ Turns Nothing w w' := by
  obtain ⟨m, D, hm⟩ := h.tab
  have HM := Lib.hid hm
  have hown := hm.map.own
  have p0 : w.cell? ⟨P, 0, none⟩ = some (.map (some M)) := h.ptr.cell 0
  have pz := h.ptr.lt
  have hml : m.length ≤ 500 := by rw [hm.len]; exact hm.few
  obtain ⟨i0, hi0, hz0, hz1, hz2⟩ := info_parts A.info_bind
  clear h hm
  go_enter Tryz.func7, Tryz.ntmps7
  go_wp2_with (first
    | (at_range
       refine wpList_range_own _ rfl _ 58 rfl 78 34 A.place_law Tryz.underlying58 _ M m.length D rfl hown ?_
       intro w0 hrg0 hg0 hs0
       clear hown))
  go_frame
  have hS : AllRel w w0 M w.heap.size m D (Maps.has D) (Maps.size D) [] [] (.slice none 0 0) :=
    ⟨hrg0, Bx.Coll.start HM.out.map.agree HM.out.map.apart fun x hx => HM.out.ok hx, ⟨World.ownsRow_nil _ _ _ _, fun _ hx => (List.not_mem_nil hx).elim⟩, rfl, by rw [HM.out.map.size]; simp, (Turns.refl _ w).grown hg0 (fun b _ e => by cases e), Nat.le_refl _, by omega⟩
  have HS0 := Lib.hid hS
  clear hS hs0 hrg0 hg0 p0 pz
  go_loopw [5] (fun v wr => ∃ left cnt acc L, AllRel w wr M w.heap.size m D left cnt acc L v) (fun _ wr => wr.rangeLeft M w.heap.size)
  case atStart => exact ⟨_, _, _, _, HS0.out⟩
  case round =>
    obtain ⟨left, cnt, acc, L, hR⟩ := hrel
    obtain ⟨A0, cp0, rfl⟩ := own_slice hR.row.own
    have HR := Lib.hid hR
    have hrg := hR.iter
    clear hR HS0
    go_wp2_with (first
      | (at_next
         refine wpList_next_tab rfl _ rfl _ rfl M w.heap.size m.length D left cnt rfl hrg ?_ ?_))
    · intro hc0 hl0
      have hp := HR.out.coll.perm HM.out.map.apart hl0
      have hpl : (L.map (·.1)).Perm T := by rw [HR.out.same]; exact (hp.map _).trans HM.out.perm
      have hLl : L.length ≤ 500 := by
        have h1 := congrArg List.length HR.out.same
        rw [List.length_map, List.length_map] at h1
        have := HR.out.few
        omega
      have HSO := Lib.hid (sort_bds HR.out.row.own hpl HM.out.sorted (by omega))
      clear hp hpl hl0 hrg hc0
      go_wp2_with fail
      refine HSO.out.mono ?_
      rintro e w' ⟨rfl, L2, hLp, hLT, ho, hg⟩
      have HO := Lib.hid (And.intro hLp (And.intro hLT (And.intro ho hg)))
      have hlen := hLp.length_eq
      clear hLp hLT ho hg HSO
      go_wp2_with fail
      go_ret
      refine ⟨A0, cp0, L2, by rw [hlen]; rfl, ?_, HO.out.2.1, HR.out.turns.grown HO.out.2.2.2 fun b hb e => ?_⟩
      · refine RowB.weak ⟨by rw [hlen]; rw [hlen] at HO; exact HO.out.2.2.1, fun x hx => ?_⟩ (show w.heap.size ≤ w.heap.size + 1 by omega)
        obtain ⟨Z, h1, h2⟩ := HR.out.row.each x (HO.out.1.mem_iff.1 hx)
        exact ⟨Z, h1.other HR.out.row.own HO.out.2.2.2, h2⟩
      · have := (HR.out.row.own.lt b e).1
        omega
    · intro t c k x w1 cnt1 hok hlx hat hrg1 hlt hg1 hs1 hen
      obtain ⟨y, hy, hby, hyv, hcoll⟩ := HR.out.coll.step A.keyFn HM.out.map.agree HM.out.map.apart (fun x hx => HM.out.ok hx) hok hlx hat
      obtain ⟨gv, Z, hyg, hgz, hpz⟩ := HM.out.each y hy
      rw [hyg] at hyv
      obtain ⟨vt, vc, vm, vr, vn, vA, vk, vp⟩ := x
      simp only [bdV, strV, Value.agg.injEq, Array.mk.injEq, List.cons.injEq, Value.string.injEq, Value.int.injEq, Value.bool.injEq, true_and, and_true] at hyv
      obtain ⟨e1, e2, e3, e4, e5, rfl⟩ := hyv
      have hT1 : Turns Nothing w w1 := HR.out.turns.grown hg1 fun b hb e => by injection e with e; omega
      have hvk : vk = Z.length := by
        obtain ⟨Ax, cx, ex⟩ := own_slice hgz.outer
        injection ex
      have hrow : RowB w1 (w.heap.size + 1) (.slice A0 L.length cp0) L := by
        have ht1 : Turns (fun b => b = w.heap.size) wr w1 := (Turns.refl _ wr).grown hg1 fun b _ e => by injection e with e; exact e.symm
        refine ⟨ht1.own HR.out.row.own fun g hg e => by have := (HR.out.row.own.lt g hg).1; omega, fun x hx => ?_⟩
        obtain ⟨Z', h1, h2⟩ := HR.out.row.each x hx
        exact ⟨Z', h1.keep ht1 fun b e => by omega, h2⟩
      have hgood := HM.out.good _ (HM.out.mem hy)
      have HY := Lib.hid (And.intro hgz (And.intro hpz (And.intro hgood hvk)))
      have HC := Lib.hid (And.intro hcoll (And.intro hrg1 (And.intro hT1 (And.intro hrow (And.intro hlt hs1)))))
      have HE := Lib.hid (show ∀ z, bdV y.1 z = .agg #[.string vt, .int .i64 vc, .int .i64 vm, .bool vr, .string vn, z] from fun z => by simp only [bdV, strV, e1, e2, e3, e4, e5])
      have hsz1 : w.heap.size < w1.heap.size := by have := HR.out.size; omega
      clear hrg hcoll hok hlx hat hrg1 hlt hg1 hs1 e1 e2 e3 e4 e5 hby hyg hgz hpz hT1 hrow hgood hvk
      have B7 := Lib.hid (Blk.new (w1.alloc (.cells #[.string t, .int .i64 c, .int .i64 k] 78)) 34 #[.string vt, .int .i64 vc, .int .i64 vm, .bool vr, .string vn, .slice vA vk vp])
      rw [show (w1.alloc (.cells #[.string t, .int .i64 c, .int .i64 k] 78)).heap.size = w1.heap.size + 1 by simp [go_sem]] at B7
      have T7 := Lib.hid (((Turns.refl Nothing w1).alloc (.cells #[.string t, .int .i64 c, .int .i64 k] 78)).alloc (.cells #[.string vt, .int .i64 vc, .int .i64 vm, .bool vr, .string vn, .slice vA vk vp] 34))
      dsimp only at hen ⊢
      go_wp2_with fail
      generalize (w1.alloc (.cells #[.string t, .int .i64 c, .int .i64 k] 78)).alloc (.cells #[.string vt, .int .i64 vc, .int .i64 vm, .bool vr, .string vn, .slice vA vk vp] 34) = w7 at B7 T7 ⊢
      refine (bare_in (w := w7) (Z := Z) (HY.out.1.still (HC.out.2.2.1.same T7.out)).rd (FitL.bare (by rw [HY.out.2.1]; exact HY.out.2.2.1.list))).mono ?_
      rintro e w8 ⟨gv', Z', rfl, hg', hp', ht⟩
      obtain ⟨A', c', rfl⟩ := own_slice hg'.outer
      have T8 := Lib.hid (T7.out.same ht)
      have B8 := Lib.hid (ht.blk B7.out id)
      have HG8 := Lib.hid (And.intro hg' hp')
      obtain ⟨x0, x1, x2, x3, x4, x5, xf, xz⟩ := bd_cells B8.out
      have f5 := xf 5
      clear xf ht hg' hp'
      go_upto_region 7 with fail
      have B9 := Lib.hid (B8.out.set_ 5 (.slice A' Z'.length c'))
      have T9 := Lib.hid (T8.out.setCell (p := ⟨w1.heap.size + 1, 5, none⟩) (.inr (Nat.le_succ _)) (.slice A' Z'.length c'))
      have hG9 := HG8.out.1.keep ((Turns.refl (Only (w1.heap.size + 1)) w8).setCell (p := ⟨w1.heap.size + 1, 5, none⟩) (.inl rfl) (.slice A' Z'.length c')) fun b e => by have e : b = w1.heap.size + 1 := e; have := B7.out.lt; omega
      have HG9 := Lib.hid (And.intro hG9 HG8.out.2)
      clear x0 x1 x2 x3 x4 x5 f5 xz hG9
      generalize w8.setCell ⟨w1.heap.size + 1, 5, none⟩ (.slice A' Z'.length c') = w9 at *
      obtain ⟨x0, x1, x2, x3, x4, x5, xf, xz⟩ := bd_cells B9.out
      have hLl : L.length + 1 ≤ 501 := by
        have h1 := congrArg List.length HR.out.same
        rw [List.length_map, List.length_map] at h1
        have := HR.out.few
        omega
      have hTA := (Turns.refl Nothing w9).alloc (.cells #[.string vt, .int .i64 vc, .int .i64 vm, .bool vr, .string vn, .slice A' Z'.length c'] 34)
      have hR9 := (HC.out.2.2.2.1.still T9.out).still hTA
      have hSc := psrc_block (size := 6) Tryz.underlying28 (Blk.new w9 34 #[.string vt, .int .i64 vc, .int .i64 vm, .bool vr, .string vn, .slice A' Z'.length c']) 1 1 rfl (by simp [Value.oneCell'])
      have hm2 : L.length + 1 ≤ maxLen := by simp only [maxLen]; omega
      have hy2 : ((L.length + 1) + (L.length + 1 + 768) / 4 + 512) * 80 ≤ 281474976710656 := by omega
      have hb2 : w.heap.size + 1 ≤ (w9.alloc (.cells #[.string vt, .int .i64 vc, .int .i64 vm, .bool vr, .string vn, .slice A' Z'.length c'] 34)).heap.size := by have := T9.out.size; have := hTA.size; omega
      have HO := Lib.hid (And.intro hR9 (And.intro hSc (And.intro hm2 (And.intro hy2 hb2))))
      have HTA := Lib.hid hTA
      clear xf hTA hR9 hSc hm2 hy2 hb2
      go_wp2_with (first
        | (at_builtin
           refine wpList_append_src _ rfl (.tmp 30) (.tmp 32) _ _ rfl (w.heap.size + 1) 34 i0 _ 6 80 Tryz.underlying28 hi0 hz0 hz1 hz2 rfl (.slice A0 L.length cp0) L.length (bdRow L) rfl HO.out.1.own _ 1 _ rfl HO.out.2.1 HO.out.2.2.1 HO.out.2.2.2.1 HO.out.2.2.2.2 ?_
           intro A1 cp1 w10 ho hg hat
           have HN := Lib.hid (And.intro hg ho)
           clear ho hg hat))
      have hlow : ∀ b, b ≤ w.heap.size → some b ≠ (Value.slice A0 L.length cp0).ownBlock := fun b hb e => by have := (HO.out.1.own.lt b e.symm).1; omega
      have hM : M ≤ w.heap.size := Nat.le_of_lt HM.out.map.lt
      have hiter := (HC.out.2.1.kept (grown_of (T9.out.same HTA.out)) (by simp) (by simp)).kept HN.out.1 (hlow _ hM) (hlow _ (Nat.le_refl _))
      have HI := Lib.hid hiter
      clear hiter hlow hM
      go_roundw
      case rel =>
        refine ⟨_, cnt1, acc ++ [y], L ++ [(y.1, A', Z'.length, c')], ⟨HI.out, HC.out.1, ?_, ?_, ?_, ?_, Nat.le_refl _, ?_⟩⟩
        · refine HO.out.1.push (x := (y.1, A', Z'.length, c')) (Z := Z') ((HG9.out.1.weak ?_).still HTA.out) ?_ ?_ HN.out.1
          · have h1 := HC.out.2.2.2.2.2
            have h2 := HR.out.size
            have h3 := T7.out.size
            omega
          · show plainG Z' = y.1.list
            rw [HG9.out.2, HY.out.2.1, HY.out.2.2.1.bare]
          · have e : bdCell (y.1, A', Z'.length, c') = [.string vt, .int .i64 vc, .int .i64 vm, .bool vr, .string vn, .slice A' Z'.length c'] := by
              have h := HE.out (.slice A' Z'.length c')
              simp only [bdV] at h
              injection h with h
              exact congrArg Array.toList h
            rw [e]
            exact HN.out.2
        · rw [List.map_append, List.map_append, HR.out.same]
          rfl
        · have h1 := HR.out.few
          have h2 := HC.out.2.2.2.2.1
          rw [List.length_append, List.length_singleton]
          omega
        · refine (HC.out.2.2.1.same (T9.out.same HTA.out)).grown HN.out.1 fun b hb e => ?_
          have := (HO.out.1.own.lt b e).1
          omega
        · have h1 := HO.out.2.2.2.2
          have h2 := HN.out.1.size
          omega
      case measure =>
        rw [HI.out.left_eq, HR.out.iter.left_eq]
        exact HC.out.2.2.2.2.1
end Go.Proofs.YtiopaenonjhlnaaGreatDoor
