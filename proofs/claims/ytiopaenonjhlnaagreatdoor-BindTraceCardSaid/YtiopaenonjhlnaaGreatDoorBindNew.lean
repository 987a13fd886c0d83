/- Package bind: what New's walk takes from the texts of the beginning. Package bind: New, walked: the table of the beginning. -/
import Derived.Test.YtiopaenonjhlnaaGreatDoorBindRead
import Derived.Test.YtiopaenonjhlnaaGreatDoorBindBind
namespace Go.Proofs.YtiopaenonjhlnaaGreatDoor
set_option maxRecDepth 8000
open Go.RowKit
open Lx (Bytes)

/-- a line that Read reads and Bind binds -/
def readOk (t : List Bytes) : Bool :=
  let c := Px.cmdT t
  decide (c.name = bkName) && (decide (2 ≤ c.args.length) && (decide (c.args.length ≤ 256) && ((Bx.parseKey (c.args.headD [])).isSome && (!(c.args.headD []).isEmpty && ((c.args.headD []).all (fun x => decide (x.toNat < 128)) && (decide ((c.args.headD []).length ≤ 8192) && ((Px.at_ c.flags 110).isNone && ((Px.at_ c.flags 84).isSome && ((Px.at_ c.flags 78).isNone && (c.args.tail.all (fun x => decide (x.length ≤ 8192)) && (decide ((Lx.cat c.args.tail).length ≤ 65536) && (decide (Lx.cost c.args.tail ≤ 3200000) && (Px.goodT c.args.tail && (decide ((Px.cmdT c.args.tail).flags.length ≤ 1000000) && (decide ((Px.cmdT c.args.tail).args.length ≤ 1000000) && (decide ((Px.cmdT c.args.tail).line = 0) && ((decide (c.args.length ≠ 2) || decide (Lx.cat c.args.tail = c.args.tail.headD [])) && (Bx.nameOk (Bx.bdOf t).table && Bx.right (Bx.bdOf t).key))))))))))))))))))
set_option maxRecDepth 100000 in
theorem first_readOk : Bx.firstW.all readOk = true := by decide +kernel
theorem first_fit {t : List Bytes} (h : readOk t = true) {c : Px.Cmd} (hc : Px.strip c = Px.cmdT t) : ∃ a0 rest tb k, ReadFit c a0 rest tb k ∧ readB c rest tb k = Bx.bdOf t ∧ GoodB (Bx.bdOf t) ∧ Bx.bareB (Bx.bdOf t) = Bx.bdOf t := by
  have e1 : (Px.cmdT t).name = c.name := by rw [← hc]; rfl
  have e2 : (Px.cmdT t).flags = c.flags := by rw [← hc]; rfl
  have e3 : (Px.cmdT t).args = c.args := by rw [← hc]; rfl
  simp only [readOk, Bool.and_eq_true] at h
  have hbd : Bx.bdOf t = ⟨(Px.at_ c.flags 84).getD [112, 114, 101, 102, 105, 120], (Bx.parseKey (c.args.headD [])).getD ⟨0, 0⟩, (Px.at_ c.flags 114).isSome, (Px.at_ c.flags 78).getD [], [[Px.cmdT c.args.tail]]⟩ := by
    rw [← e2, ← e3]; rfl
  rw [e1, e2, e3, hbd] at h
  rw [hbd]
  obtain ⟨q1, q2, q3, q4, q5, q6, q7, q8, q9, q10, q11, q12, q13, q14, q15, q16, q17, q18, q19, q20⟩ := h
  simp only [decide_eq_true_eq] at q1 q2 q3 q7 q12 q13 q15 q16 q17
  simp only [Bool.or_eq_true, decide_eq_true_eq] at q18
  match hargs : c.args, q2 with
  | a0 :: rest, q2 =>
    rw [hargs] at q3 q4 q5 q6 q7 q11 q12 q13 q14 q15 q16 q17 q18 q19 q20
    simp only [List.headD_cons, List.tail_cons, List.length_cons] at q2 q3 q4 q5 q6 q7 q11 q12 q13 q14 q15 q16 q17 q18 q19 q20
    obtain ⟨k, hk⟩ := Option.isSome_iff_exists.1 q4
    obtain ⟨tb, ht⟩ := Option.isSome_iff_exists.1 q9
    have hn := Option.isNone_iff_eq_none.1 q8
    have ho := Option.isNone_iff_eq_none.1 q10
    have hne : rest ≠ [] := by intro e; rw [e] at q2; simp at q2
    have hfit : FitL [[Px.cmdT rest]] := ⟨by simp, fun g hg => by
      rw [List.mem_singleton.1 hg]
      exact ⟨by simp, fun c hc => by rw [List.mem_singleton.1 hc]; exact ⟨q15, q16⟩⟩⟩
    have hst : Px.stripG [[Px.cmdT rest]] = [[Px.cmdT rest]] := by
      show [[Px.strip (Px.cmdT rest)]] = _
      have : Px.strip (Px.cmdT rest) = Px.cmdT rest := by
        rw [Px.strip, ← q17]
      rw [this]
    simp only [List.headD_cons, List.tail_cons]
    rw [ht] at q19
    rw [hk] at q20
    rw [hk, ht, ho]
    simp only [Option.getD_some, Option.getD_none] at q19 q20 ⊢
    refine ⟨a0, rest, tb, k, ⟨q1, hargs, hne, by rw [hargs]; exact q3, hk, ⟨by intro e; rw [e] at q5; simp at q5, fun x hx => of_decide_eq_true (List.all_eq_true.1 q6 x hx)⟩, q7, hn, ht, ho, ⟨hne, fun x hx => of_decide_eq_true (List.all_eq_true.1 q11 x hx), by omega⟩, q12, q13, q14, hfit, fun h1 => ?_⟩, rfl, ⟨q19, q20, by simp, hfit, hst⟩, ?_⟩
    · rcases q18 with h | h
      · exact absurd (by omega) h
      · exact h.symm
    · unfold Bx.bareB
      rw [hst]
theorem ins_length (b : Bx.Bd) : ∀ T : List Bx.Bd, (Bx.ins b T).length = T.length + 1
  | [] => rfl
  | x :: l => by
    unfold Bx.ins
    split
    · rfl
    · rw [List.length_cons, ins_length b l, List.length_cons]
theorem put_length (T : List Bx.Bd) (b : Bx.Bd) : (Bx.put T b).length ≤ T.length + 1 := by
  rw [Bx.put, ins_length]
  have : (Bx.drop T b.table b.key).length ≤ T.length := List.length_filter_le _ _
  omega
/-- the table behind the first k lines -/
def firstK (k : Nat) : List Bx.Bd := ((Bx.firstW.take k).map Bx.bdOf).foldl Bx.put []
theorem firstK_succ {k : Nat} (hk : k < Bx.firstW.length) : firstK (k + 1) = Bx.put (firstK k) (Bx.bdOf Bx.firstW[k]) := by
  unfold firstK
  rw [List.take_succ_eq_append_getElem hk, List.map_append, List.foldl_append]
  rfl
theorem firstK_len : ∀ k, (firstK k).length ≤ k
  | 0 => Nat.le_refl _
  | k + 1 => by
    by_cases hk : k < Bx.firstW.length
    · rw [firstK_succ hk]
      have h1 := put_length (firstK k) (Bx.bdOf Bx.firstW[k])
      have h2 := firstK_len k
      omega
    · have : firstK (k + 1) = firstK k := by
        unfold firstK
        rw [List.take_of_length_le (by omega), List.take_of_length_le (by omega)]
      rw [this]
      have := firstK_len k
      omega
theorem firstK_all : firstK Bx.firstW.length = Bx.start := by
  unfold firstK
  rw [List.take_of_length_le (Nat.le_refl _)]
  rfl
theorem bindE_ok {T : List Bx.Bd} {b : Bx.Bd} (h : GoodB b) (hT : T.length < 500) : Bx.bindE T b = 0 := by
  have h1 := h.name
  have h2 := h.key
  have h3 := h.note
  unfold Bx.bindE
  rw [h1, h2, if_neg (by decide), if_neg (by decide), if_neg (by omega), if_neg (by rw [decide_eq_false (by omega)]; simp)]
theorem rows_one {Z : List (Value × List CQ)} (h : Px.stripG (plainG Z) = Bx.firstW.map fun t => [Px.cmdT t]) : Z.length = Bx.firstW.length ∧ ∀ k (hk : k < Z.length) (hk2 : k < Bx.firstW.length), ∃ q, Z[k].2 = [q] ∧ Px.strip q.1 = Px.cmdT Bx.firstW[k] := by
  have h1 : Z.length = Bx.firstW.length := by
    have := congrArg List.length h
    simpa [Px.stripG, plainG] using this
  refine ⟨h1, fun k hk hk2 => ?_⟩
  have h2 := congrArg (fun l => l[k]?) h
  simp only [Px.stripG, plainG, List.map_map, List.getElem?_map, List.getElem?_eq_getElem hk, List.getElem?_eq_getElem hk2, Option.map_some, Function.comp] at h2
  injection h2 with h2
  generalize Z[k].2 = l at h2
  cases l with
  | nil => simp at h2
  | cons q l =>
    simp only [List.map_cons, List.cons.injEq, List.map_eq_nil_iff] at h2
    exact ⟨q, by rw [h2.2], h2.1⟩
theorem first_72 : Bx.firstW.length = 72 := by decide +kernel
theorem GAt.row {w : World} {B cp : Nat} {A : Option Addr} {Z : List (Value × List CQ)} (h : GAt w B (.slice A Z.length cp) Z) {k : Nat} (hk : k < Z.length) {q : CQ} (hq : Z[k].2 = [q]) :
    ∃ g off, A = some ⟨g, off, none⟩ ∧ g < w.heap.size ∧ w.cell? ⟨g, off + k, none⟩ = some Z[k].1 ∧ ∃ b o c2, Z[k].1 = .slice (some ⟨b, o, none⟩) 1 c2 ∧ b < w.heap.size ∧
      w.cell? ⟨b, o, none⟩ = some (strV q.1.name) ∧ w.cell? ⟨b, o + 1, none⟩ = some q.2.1 ∧ w.cell? ⟨b, o + 2, none⟩ = some q.2.2 ∧ w.cell? ⟨b, o + 3, none⟩ = some (.int .i64 q.1.line) ∧ FlagsAt w q.2.1 q.1.flags ∧ w.ownsRow B 9 1 q.2.2 q.1.args.length (q.1.args.map strV) := by
  have hr := h.rd
  obtain ⟨A', c', e, h1⟩ := hr.at_
  injection e with e _ _
  obtain ⟨g, off, hA, hg, hc⟩ := h1 (by omega)
  obtain ⟨⟨A2, c2, e2, h2⟩, h3⟩ := hr.each _ (List.getElem_mem hk)
  rw [hq] at h2 h3 e2
  obtain ⟨b, o, hA2, hb, h4⟩ := h2 Nat.one_pos
  obtain ⟨p0, p1, p2, p3⟩ := h4 0 Nat.one_pos
  refine ⟨g, off, e.trans hA, hg, hc k hk, b, o, c2, by rw [e2, hA2]; rfl, hb, ?_, ?_, ?_, ?_, (h3 q (by simp)).1, (h.rows _ (List.getElem_mem hk) q (by rw [hq]; simp)).args⟩
  · simpa using p0
  · simpa using p1
  · simpa using p2
  · simpa using p3
end Go.Proofs.YtiopaenonjhlnaaGreatDoor
namespace Go.Proofs.YtiopaenonjhlnaaGreatDoor
set_option maxRecDepth 8000
open Go.RowKit
open Lx (Bytes)

theorem TabAt.made (w : World) : TabAt ((w.alloc (.map #[] 0)).alloc (.cells #[.map (some w.heap.size)] 60)) (w.heap.size + 1) w.heap.size [] := by
  have ho := World.ownsMap_made (H := Value) w Tryz.prog 78 elemR
  have hT : Turns Nothing (w.alloc (.map #[] 0)) ((w.alloc (.map #[] 0)).alloc (.cells #[.map (some w.heap.size)] 60)) := (Turns.refl _ _).alloc _
  have h : TabM (w.alloc (.map #[] 0)) w.heap.size [] [] (.map []) := ⟨⟨ho, Bx.Agree.start, List.Pairwise.nil, rfl⟩, .nil, List.Pairwise.nil, fun _ hb => (List.not_mem_nil hb).elim, fun _ hx => (List.not_mem_nil hx).elim, Nat.zero_le _⟩
  exact ⟨blk_new_at (by simp [go_sem]), [], _, h.still hT⟩
/-- what New answers -/
def NewOut (w : World) (e : Ending) (w' : World) : Prop := ∃ P M, e = .returned (.pointer (some ⟨P, 0, none⟩)) ∧ TabAt w' P M Bx.start ∧ w.heap.size ≤ P ∧ w.heap.size ≤ M ∧ Turns Nothing w w'
set_option maxHeartbeats 4000000 in
theorem tnew_in {w : World} (hsp : Space w) : Calls Tryz.prog 5 #[.bool true] w (NewOut w) := by
  obtain ⟨L, G', h1, h2, h3, h4, h5⟩ := first_parse
  have HF := Lib.hid (And.intro h1 (And.intro h2 (And.intro h3 h4)))
  have HG5 := Lib.hid h5
  have HSP := Lib.hid (fun W (ht : Turns Nothing w W) => hsp.still ht)
  have TB := Lib.hid (TabAt.made w)
  have T2 := Lib.hid (((Turns.refl Nothing w).alloc (.map #[] 0)).alloc (.cells #[.map (some w.heap.size)] 60))
  have hmm := @run_makeMap Tryz.prog
  clear h1 h2 h3 h4 h5 hsp
  go_enter Tryz.func5, Tryz.ntmps5
  go_upto_region 3 with fail
  clear hmm
  generalize hM : w.heap.size = M at *
  have HM := Lib.hid hM
  clear hM
  generalize (w.alloc (.map #[] 0)).alloc (.cells #[.map (some M)] 60) = w2 at *
  go_wp2_with fail
  refine (parse_text (u := ⟨Bx.firstT.toArray⟩) (HSP.out _ T2.out) rfl HF.out.1 HF.out.2.1 HF.out.2.2.1 HF.out.2.2.2).mono ?_
  rintro e w3 ⟨Ag, cp, Z, rfl, hg, hp, ht⟩
  have TA := (Turns.refl Nothing w3).alloc (.cells #[.slice Ag Z.length cp] 32)
  have T4 := Lib.hid ((T2.out.same ht).same TA)
  have TB4 := Lib.hid ((TB.out.still ht).still TA)
  have HG := Lib.hid ((GAt.of hg).still TA)
  have L4 := Lib.hid (Blk.new w3 32 #[.slice Ag Z.length cp])
  have HR := Lib.hid (rows_one (by rw [hp]; exact HG5.out))
  have HMB := Lib.hid (show M < w2.heap.size by
    obtain ⟨m, D, hm⟩ := TB.out.tab
    exact hm.map.lt)
  clear ht hg hp TA
  go_upto_region 4 with fail
  clear TB T2 HF HG5
  generalize w3.alloc (.cells #[.slice Ag Z.length cp] 32) = w4 at *
  generalize w3.heap.size = l at *
  have l0 : w4.cell? ⟨l, 0, none⟩ = some (.slice Ag Z.length cp) := L4.out.cell 0
  have lz := L4.out.lt
  generalize w2.heap.size = B at *
  have hzl : Z.length = 72 := by rw [HR.out.1, first_72]
  have HZL := Lib.hid hzl
  clear hzl
  go_wp2_with fail
  have hw4 : Turns (Only M) w4 w4 := Turns.refl _ _
  have HN := Lib.hid (fun (W : World) (ht : Turns (Only M) w4 W) => show Turns Nothing w W from T4.out.trans ht fun b hb e => by
    have e : b = M := e
    have := HM.out
    omega)
  have HGW := Lib.hid (fun (W : World) (ht : Turns (Only M) w4 W) => HG.out.keep ht fun b e => by
    have e : b = M := e
    have := HMB.out
    omega)
  clear hw4 l0 lz
  have hz72 : (Z.length : Int) ≤ 72 := by have := HZL.out; omega
  go_loopw [26] (fun i wr => ∃ k, i = .int .i64 (k : Nat) ∧ k ≤ Z.length ∧ TabAt wr (M + 1) M (firstK k) ∧ Turns (Only M) w4 wr) (fun i _ => Z.length - (intOf i).toNat)
  case atStart => exact ⟨0, rfl, Nat.zero_le _, TB4.out, Turns.refl _ _⟩
  case round =>
    obtain ⟨k, rfl, hk, hT, ht⟩ := hrel
    have HT := Lib.hid (And.intro hT ht)
    clear hT ht
    by_cases hlt : k < Z.length
    · have hk2 : k < Bx.firstW.length := by rw [← HR.out.1]; exact hlt
      obtain ⟨q, hq, hstr⟩ := HR.out.2 k hlt hk2
      have HST := Lib.hid hstr
      have HKS := Lib.hid (firstK_succ hk2)
      have HFR := Lib.hid (List.all_eq_true.1 first_readOk _ (List.getElem_mem hk2))
      have HRW := Lib.hid (fun (W : World) (ht : Turns (Only M) w4 W) => (HGW.out W ht).row hlt hq)
      generalize Bx.firstW[k] = t at HST HKS HFR
      generalize Z[k] = z at HRW
      obtain ⟨z1, z2⟩ := z
      dsimp only at HRW
      obtain ⟨g, off, rfl, hg, p0, b, o, c2, rfl, -⟩ := HRW.out _ HT.out.2
      have hki : (k : Int) < Z.length := by omega
      clear hstr hq hk2
      go_wp2_with fail
      go_loopw [32] (fun j wr => ∃ n, j = .int .i64 (n : Nat) ∧ n ≤ 1 ∧ TabAt wr (M + 1) M (firstK (k + n)) ∧ Turns (Only M) w4 wr) (fun j _ => 1 - (intOf j).toNat)
      case atStart => exact ⟨0, rfl, Nat.zero_le _, HT.out.1, HT.out.2⟩
      case round =>
        obtain ⟨n, rfl, hn, hT, ht⟩ := hrel
        clear HT p0 hg
        have HT := Lib.hid (And.intro hT ht)
        clear hT ht
        rcases (show n = 0 ∨ n = 1 by omega) with rfl | rfl
        · obtain ⟨g', off', e1, hg, p0, b', o', c2', e2, hb, q0, q1, q2, q3, hfl, har⟩ := HRW.out _ HT.out.2
          injection e2 with e2 _ e5
          injection e2 with e2
          injection e2 with e3 e4 _
          subst e3 e4 e5
          clear e1 p0 hg
          obtain ⟨fA, fc, hfv, -⟩ := hfl.at_
          obtain ⟨rA, rc, hav⟩ := own_slice har
          rw [hfv] at q1 hfl
          rw [hav] at q2 har
          obtain ⟨a0, rest, tb, ky, hrf, hrd, hgb, hbb⟩ := first_fit HFR.out HST.out
          have TA := (Turns.refl Nothing wr).alloc (.cells #[strV q.1.name, .slice fA q.1.flags.length fc, .slice rA q.1.args.length rc, .int .i64 q.1.line] 57)
          have T5 := Lib.hid (HT.out.2.trans TA fun _ _ e => e.elim)
          have HT5 := Lib.hid (HT.out.1.still TA)
          have HRD := Lib.hid (tread_in (HSP.out _ (HN.out _ T5.out)) hrf (hfl.still TA) (TA.own har fun _ _ => id))
          rw [hrd] at HRD
          have HGB := Lib.hid (And.intro hgb (And.intro hbb (congrArg Bx.Bd.list hrd)))
          simp only [strV] at q0 HRD TA T5 HT5
          clear hrf hrd hgb hbb TA hfl har hfv hav
          generalize (⟨q.1.name.toArray⟩ : ByteArray) = nm at *
          generalize q.1.line = ln at *
          generalize q.1.flags.length = fl at *
          generalize q.1.args.length = al at *
          obtain ⟨t0, c0, m0, r0, n0, hbd⟩ : ∃ (t0 : ByteArray) (c0 m0 : Int) (r0 : Bool) (n0 : ByteArray), ∀ x, bdV (Bx.bdOf t) x = .agg #[.string t0, .int .i64 c0, .int .i64 m0, .bool r0, .string n0, x] := ⟨_, _, _, _, _, fun _ => rfl⟩
          have HBD := Lib.hid hbd
          clear hbd
          have hn0 : (0 : Int) < 1 := by decide
          have B5 := Lib.hid (Blk.new wr 57 #[.string nm, .slice fA fl fc, .slice rA al rc, .int .i64 ln])
          go_upto_region 10 with fail
          clear q0 q1 q2 q3 hb
          generalize wr.alloc (.cells #[.string nm, .slice fA fl fc, .slice rA al rc, .int .i64 ln] 57) = w5 at *
          generalize wr.heap.size = bb at *
          obtain ⟨x0, x1, x2, x3, xz⟩ := rbox_cells B5.out
          go_wp2_with fail
          refine HRD.out.mono ?_
          rintro e w6 ⟨gv, Z2, rfl, hg2, hp2, ht⟩
          obtain ⟨A2, c3, rfl⟩ := own_slice hg2.outer
          rw [HBD.out]
          have TB6 := (Turns.refl Nothing w6).alloc (.cells #[.string t0, .int .i64 c0, .int .i64 m0, .bool r0, .string n0, .slice A2 Z2.length c3] 34)
          have B7 := Lib.hid (Blk.new w6 34 #[.string t0, .int .i64 c0, .int .i64 m0, .bool r0, .string n0, .slice A2 Z2.length c3])
          have T7 := Lib.hid (T5.out.trans (ht.same TB6) fun _ _ e => e.elim)
          have HBI := Lib.hid (bind_in ((HT5.out.still ht).still TB6) (HSP.out _ (HN.out _ T7.out)) (Bx.bdOf t) ((hg2.still TB6).rd) (by rw [hp2]; exact HGB.out.2.2) HGB.out.1.list HGB.out.1.ok (by have := HGB.out.1.note; omega))
          rw [HBD.out, bindE_ok HGB.out.1 (by have := firstK_len (k + 0); have := HZL.out; omega), afterB_yes, HGB.out.2.1, show firstK (k + 0) = firstK k from rfl, ← HKS.out] at HBI
          clear ht hg2 hp2 TB6 x0 x1 x2 x3 xz HRD B5 HT5 T5
          go_upto_region 11 with fail
          generalize w6.alloc (.cells #[.string t0, .int .i64 c0, .int .i64 m0, .bool r0, .string n0, .slice A2 Z2.length c3] 34) = w7 at *
          generalize w6.heap.size = b7 at *
          obtain ⟨x0, x1, x2, x3, x4, x5, xf, xz⟩ := bd_cells B7.out
          clear xf
          go_wp2_with fail
          refine HBI.out.mono ?_
          rintro e w8 ⟨rfl, hT8, ht8⟩
          have H8 := Lib.hid (And.intro hT8 (T7.out.same ht8))
          clear hT8 ht8 x0 x1 x2 x3 x4 x5 xz HBI
          go_wp2_with fail
          go_roundw
          case rel => exact ⟨1, rfl, Nat.le_refl _, H8.out.1, H8.out.2⟩
          case measure => simp [intOf]
        · go_wp2_with fail
          go_roundw
          case rel => exact ⟨k + 1, by go_num, hlt, HT.out.1, HT.out.2⟩
          case measure => simp [intOf]; omega
    · have hkl : k = Bx.firstW.length := by rw [← HR.out.1]; omega
      have hki : ¬ ((k : Int) < Z.length) := by omega
      have HE := Lib.hid (show firstK k = Bx.start by rw [hkl]; exact firstK_all)
      clear hkl
      go_wp2_with fail
      go_ret
      rw [HE.out] at HT
      have h1 := HM.out
      exact ⟨M + 1, M, rfl, HT.out.1, by omega, by omega, HN.out _ HT.out.2⟩
end Go.Proofs.YtiopaenonjhlnaaGreatDoor
