/- The walks of mullionlaw12's same and groups, where they agree. The walk of ParseBack: commands that are written are read as they were. -/
import Derived.Test.YtodcmeakgcgjfaaGreatDoorParsePrint
import Derived.Test.YtodcmeakgcgjfaaGreatDoorParseArgs
namespace Go.Proofs.YtodcmeakgcgjfaaGreatDoor
set_option maxRecDepth 8000
open Go.RowKit
open Lx (Bytes)

set_option maxHeartbeats 2000000 in
theorem csame_in {w : World} {nm : ByteArray} {fv av fv' av' : Value} {l1 l2 : Int} {fl : List Px.Fl} {args : List Bytes} (hf : FlagsAt w fv fl) (ha : TextsAt w av args) (hf' : FlagsAt w fv' fl) (ha' : TextsAt w av' args) (hfl : fl.length ≤ 1000) (hal : args.length ≤ 1000) :
    Calls Tryz.prog 26 #[.agg #[.string nm, fv, av, .int .i64 l1], .agg #[.string nm, fv', av', .int .i64 l2], .bool false] w fun e w' => e = .returned (.bool true) ∧ Turns Nothing w w' := by
  obtain ⟨fA, fc, rfl, hfc⟩ := hf.at_
  obtain ⟨fA', fc', rfl, hfc'⟩ := hf'.at_
  obtain ⟨rA, rc, rfl, hrc⟩ := ha.at_
  obtain ⟨rA', rc', rfl, hrc'⟩ := ha'.at_
  have HF := Lib.hid (And.intro hfc hfc')
  have HR := Lib.hid (And.intro hrc hrc')
  have hf1 : (fl.length : Int) ≤ 1000 := by omega
  have ha1 : (args.length : Int) ≤ 1000 := by omega
  have HB := Lib.hid (And.intro ((Blk.new w 30 #[.string nm, .slice fA fl.length fc, .slice rA args.length rc, .int .i64 l1]).alloc (.cells #[.string nm, .slice fA' fl.length fc', .slice rA' args.length rc', .int .i64 l2] 30))
    (blk_new_at (w := w.alloc (.cells #[.string nm, .slice fA fl.length fc, .slice rA args.length rc, .int .i64 l1] 30)) (g := w.heap.size + 1) (t := 30) (cs := #[.string nm, .slice fA' fl.length fc', .slice rA' args.length rc', .int .i64 l2]) (by simp [go_sem])))
  have HT := Lib.hid (((Turns.refl Nothing w).alloc (.cells #[.string nm, .slice fA fl.length fc, .slice rA args.length rc, .int .i64 l1] 30)).alloc (.cells #[.string nm, .slice fA' fl.length fc', .slice rA' args.length rc', .int .i64 l2] 30))
  clear hf ha hf' ha' hfc hfc' hrc hrc' hfl hal
  go_enter Tryz.func26, Tryz.ntmps26
  go_wp2_with fail
  generalize hw1 : ((w.alloc (.cells #[.string nm, .slice fA fl.length fc, .slice rA args.length rc, .int .i64 l1] 30)).alloc (.cells #[.string nm, .slice fA' fl.length fc', .slice rA' args.length rc', .int .i64 l2] 30)) = w1 at HB HT ⊢
  clear hw1
  go_loopw [7] (fun i wr => ∃ k : Nat, i = .int .i64 k ∧ k ≤ fl.length ∧ Turns Nothing w1 wr) (fun i _ => fl.length - (intOf i).toNat)
  case atStart => exact ⟨0, rfl, Nat.zero_le _, Turns.refl _ _⟩
  case round =>
    obtain ⟨k, rfl, hk, ht⟩ := hrel
    obtain ⟨x0, x1, x2, x3, x4⟩ := box_cells (ht.blk HB.out.1 id)
    obtain ⟨y0, y1, y2, y3, y4⟩ := box_cells (ht.blk HB.out.2 id)
    by_cases hlt : k < fl.length
    · obtain ⟨b, off, rfl, hb, hc⟩ := HF.out.1 (by omega)
      obtain ⟨d, off', rfl, hd, hc'⟩ := HF.out.2 (by omega)
      have T := HT.out.same ht
      have p0 := (T.cell (p := ⟨b, _, none⟩) hb id).trans (hc k hlt).1
      have p1 := (T.cell (p := ⟨b, _, none⟩) hb id).trans (hc k hlt).2
      have r0 := (T.cell (p := ⟨d, _, none⟩) hd id).trans (hc' k hlt).1
      have r1 := (T.cell (p := ⟨d, _, none⟩) hd id).trans (hc' k hlt).2
      have hbr : b < wr.heap.size := Nat.lt_of_lt_of_le hb T.size
      have hdr : d < wr.heap.size := Nat.lt_of_lt_of_le hd T.size
      simp only [strV] at p1 r1
      generalize (fl[k].1.toNat : Int) = ci at p0 r0
      generalize (⟨fl[k].2.toArray⟩ : ByteArray) = tx at p1 r1
      have H1 := Lib.hid ht
      clear ht T hc hc' hb hd
      go_wp2_with fail
      go_quiet (fail)
      go_wp2_with fail
      go_roundw
      case rel => exact ⟨k + 1, by go_num, hlt, H1.out.drewN _⟩
      case measure => simp [intOf]; omega
    · have H1 := Lib.hid ht
      clear ht
      go_wp2_with fail
      generalize hw2 : wr = w2 at *
      clear hw2
      go_loopw [8] (fun i wr => ∃ k : Nat, i = .int .i64 k ∧ k ≤ args.length ∧ Turns Nothing w1 wr) (fun i _ => args.length - (intOf i).toNat)
      case atStart => exact ⟨0, rfl, Nat.zero_le _, H1.out⟩
      case round =>
        obtain ⟨n, rfl, hn, ht⟩ := hrel
        obtain ⟨x0, x1, x2, x3, x4⟩ := box_cells (ht.blk HB.out.1 id)
        obtain ⟨y0, y1, y2, y3, y4⟩ := box_cells (ht.blk HB.out.2 id)
        by_cases hlt2 : n < args.length
        · obtain ⟨b, off, rfl, hb, hc⟩ := HR.out.1 (by omega)
          obtain ⟨d, off', rfl, hd, hc'⟩ := HR.out.2 (by omega)
          have T := HT.out.same ht
          have p0 := (T.cell (p := ⟨b, _, none⟩) hb id).trans (hc n hlt2)
          have r0 := (T.cell (p := ⟨d, _, none⟩) hd id).trans (hc' n hlt2)
          have hbr : b < wr.heap.size := Nat.lt_of_lt_of_le hb T.size
          have hdr : d < wr.heap.size := Nat.lt_of_lt_of_le hd T.size
          simp only [strV] at p0 r0
          generalize (⟨args[n].toArray⟩ : ByteArray) = tx at p0 r0
          have H2 := Lib.hid ht
          clear ht T hc hc' hb hd
          go_wp2_with fail
          go_quiet (fail)
          go_wp2_with fail
          go_roundw
          case rel => exact ⟨n + 1, by go_num, hlt2, H2.out.drewN _⟩
          case measure => simp [intOf]; omega
        · have H2 := Lib.hid ht
          clear ht
          go_wp2_with fail
          go_ret
          exact ⟨rfl, HT.out.same H2.out⟩
theorem strip_at {Z Z' : List (Value × List CQ)} (h : Px.stripG (plainG Z) = Px.stripG (plainG Z')) : Z.length = Z'.length ∧ ∀ i (hi : i < Z.length) (hi' : i < Z'.length), Z[i].2.length = Z'[i].2.length ∧
    ∀ k (hk : k < Z[i].2.length) (hk' : k < Z'[i].2.length), Z[i].2[k].1.name = Z'[i].2[k].1.name ∧ Z[i].2[k].1.flags = Z'[i].2[k].1.flags ∧ Z[i].2[k].1.args = Z'[i].2[k].1.args := by
  have hl : Z.length = Z'.length := by
    have := congrArg List.length h
    simpa [Px.stripG, plainG] using this
  refine ⟨hl, fun i hi hi' => ?_⟩
  have hg := congrArg (·[i]?) h
  simp only [Px.stripG, plainG, List.getElem?_map, List.getElem?_eq_getElem hi, List.getElem?_eq_getElem hi', Option.map_some, Option.some.injEq] at hg
  refine ⟨by have := congrArg List.length hg; simpa using this, fun k hk hk' => ?_⟩
  have hc := congrArg (·[k]?) hg
  simp only [List.getElem?_map, List.getElem?_eq_getElem hk, List.getElem?_eq_getElem hk', Option.map_some, Option.some.injEq, Px.strip, Px.Cmd.mk.injEq] at hc
  exact ⟨hc.1, hc.2.1, hc.2.2.1⟩

set_option maxHeartbeats 4000000 in
theorem cgroups_in {w : World} {B B' : Nat} {gv gv' : Value} {Z Z' : List (Value × List CQ)} (h : GroupsAt w B gv Z) (h' : GroupsAt w B' gv' Z') (hs : Px.stripG (plainG Z) = Px.stripG (plainG Z')) (hf : ∀ z ∈ Z, ∀ q ∈ z.2, Fine q.1) (hn : Z.length ≤ 1000 ∧ ∀ z ∈ Z, z.2.length ≤ 1000) :
    Calls Tryz.prog 8 #[gv, gv', .bool false] w fun e w' => e = .returned (.bool true) ∧ Turns Nothing w w' := by
  obtain ⟨hzz, hall⟩ := strip_at hs
  have HG := Lib.hid (And.intro h h')
  obtain ⟨A, c, rfl, hat⟩ := h.at_
  obtain ⟨A', c', rfl, hat'⟩ := h'.at_
  rw [← hzz]
  have HAT := Lib.hid (And.intro hat hat')
  have HF := Lib.hid (And.intro hf hn)
  have HS := Lib.hid (And.intro hzz hall)
  have hzl : (Z.length : Int) ≤ 1000 := by have := hn.1; omega
  clear h h' hat hat' hf hn hs hzz hall
  go_enter Tryz.func8, Tryz.ntmps8
  go_wp2_with fail
  go_loopw [7] (fun i wr => ∃ k : Nat, i = .int .i64 k ∧ k ≤ Z.length ∧ Turns Nothing w wr) (fun i _ => Z.length - (intOf i).toNat)
  case atStart => exact ⟨0, rfl, Nat.zero_le _, Turns.refl _ _⟩
  case round =>
    obtain ⟨k, rfl, hk, ht⟩ := hrel
    by_cases hlt : k < Z.length
    · have hlt' : k < Z'.length := by rw [← HS.out.1]; exact hlt
      obtain ⟨g, rfl, hg, p0⟩ := HAT.out.1 k hlt
      obtain ⟨d, rfl, hd, r0⟩ := HAT.out.2 k hlt'
      obtain ⟨hll, hcm⟩ := HS.out.2 k hlt hlt'
      obtain ⟨A2, c2, e2, hc2⟩ := HG.out.1.cmds (List.getElem_mem hlt)
      obtain ⟨A3, c3, e3, hc3⟩ := HG.out.2.cmds (List.getElem_mem hlt')
      have hfz := HF.out.1 _ (List.getElem_mem hlt)
      have hnz := HF.out.2.2 _ (List.getElem_mem hlt)
      generalize Z[k] = z at p0 hll hcm e2 hc2 hfz hnz
      generalize Z'[k] = z' at r0 hll hcm e3 hc3
      obtain ⟨z1, l⟩ := z
      obtain ⟨z2, l'⟩ := z'
      dsimp only at p0 r0 hll hcm e2 hc2 e3 hc3 hfz hnz
      subst e2 e3
      rw [← hll] at r0
      have p0 := (ht.cell (p := ⟨g, _, none⟩) hg id).trans p0
      have r0 := (ht.cell (p := ⟨d, _, none⟩) hd id).trans r0
      have hgr : g < wr.heap.size := Nat.lt_of_lt_of_le hg ht.size
      have hdr : d < wr.heap.size := Nat.lt_of_lt_of_le hd ht.size
      have hl1 : (l.length : Int) ≤ 1000 := by omega
      have HC := Lib.hid (And.intro hc2 hc3)
      have HM := Lib.hid (And.intro hll (And.intro hcm hfz))
      have H1 := Lib.hid ht
      have HGD := Lib.hid (And.intro hg (And.intro hd (And.intro ((H1.out.cell (p := ⟨g, k, none⟩) hg id).symm.trans p0) ((H1.out.cell (p := ⟨d, k, none⟩) hd id).symm.trans r0))))
      clear ht hg hd hll hcm hc2 hc3 hfz hnz
      go_wp2_with fail
      go_quiet (fail)
      go_wp2_with fail
      have H2 := Lib.hid (H1.out.drewN nq)
      have p0 : (wr.drewN nq).cell? ⟨g, k, none⟩ = some (.slice A2 l.length c2) := p0
      have r0 : (wr.drewN nq).cell? ⟨d, k, none⟩ = some (.slice A3 l.length c3) := r0
      generalize hw1 : wr.drewN nq = w1 at *
      clear hw1
      go_loopw [8] (fun j wr => ∃ n : Nat, j = .int .i64 n ∧ n ≤ l.length ∧ Turns Nothing w wr) (fun j _ => l.length - (intOf j).toNat)
      case atStart => exact ⟨0, rfl, Nat.zero_le _, H2.out⟩
      case round =>
        obtain ⟨n, rfl, hn, ht⟩ := hrel
        have p0 := (ht.cell (p := ⟨g, _, none⟩) HGD.out.1 id).trans HGD.out.2.2.1
        have r0 := (ht.cell (p := ⟨d, _, none⟩) HGD.out.2.1 id).trans HGD.out.2.2.2
        have hgr : g < wr.heap.size := Nat.lt_of_lt_of_le HGD.out.1 ht.size
        have hdr : d < wr.heap.size := Nat.lt_of_lt_of_le HGD.out.2.1 ht.size
        by_cases hn2 : n < l.length
        · have hn3 : n < l'.length := by rw [← HM.out.1]; exact hn2
          obtain ⟨b, rfl, hb, q0, q1, q2, q3, hFl, hTx⟩ := HC.out.1 n hn2
          obtain ⟨b', rfl, hb', s0, s1, s2, s3, hFl', hTx'⟩ := HC.out.2 n hn3
          obtain ⟨m1, m2, m3⟩ := HM.out.2.1 n hn2 hn3
          have hfq := HM.out.2.2 _ (List.getElem_mem hn2)
          generalize l[n] = q at q0 q1 q2 q3 hFl hTx m1 m2 m3 hfq
          generalize l'[n] = q' at s0 s1 s2 s3 hFl' hTx' m1 m2 m3
          obtain ⟨cq, fv, av⟩ := q
          obtain ⟨cq', fv', av'⟩ := q'
          dsimp only at q0 q1 q2 q3 hFl hTx m1 m2 m3 hfq s0 s1 s2 s3 hFl' hTx'
          rw [← m1] at s0
          rw [← m2] at hFl'
          rw [← m3] at hTx'
          obtain ⟨fA, fc, rfl, -⟩ := hFl.at_
          obtain ⟨rA, rc, rfl, -⟩ := hTx.at_
          obtain ⟨fA', fc', rfl, -⟩ := hFl'.at_
          obtain ⟨rA', rc', rfl, -⟩ := hTx'.at_
          have q0 := (ht.cell (p := ⟨b, _, none⟩) hb id).trans q0
          have q1 := (ht.cell (p := ⟨b, _, none⟩) hb id).trans q1
          have q2 := (ht.cell (p := ⟨b, _, none⟩) hb id).trans q2
          have q3 := (ht.cell (p := ⟨b, _, none⟩) hb id).trans q3
          have s0 := (ht.cell (p := ⟨b', _, none⟩) hb' id).trans s0
          have s1 := (ht.cell (p := ⟨b', _, none⟩) hb' id).trans s1
          have s2 := (ht.cell (p := ⟨b', _, none⟩) hb' id).trans s2
          have s3 := (ht.cell (p := ⟨b', _, none⟩) hb' id).trans s3
          have hbr : b < wr.heap.size := Nat.lt_of_lt_of_le hb ht.size
          have hbr' : b' < wr.heap.size := Nat.lt_of_lt_of_le hb' ht.size
          simp only [strV] at q0 s0
          have HSM := Lib.hid (fun (W : World) (hW : Turns Nothing wr W) => csame_in (nm := ⟨cq.name.toArray⟩) (l1 := cq.line) (l2 := cq'.line) (hFl.still (ht.same hW)) (hTx.still (ht.same hW)) (hFl'.still (ht.same hW)) (hTx'.still (ht.same hW)) (Nat.le_trans hfq.fl.1 (by decide)) (Nat.le_trans hfq.ar.1 (by decide)))
          have H3 := Lib.hid ht
          clear ht hFl hTx hFl' hTx' hb hb' hfq m1 m2 m3
          go_upto_region 11 with fail
          go_region_with (go_at_call 26; refine (HSM.out _ (by first | exact Turns.refl _ _ | exact (Turns.refl _ _).drewN 1)).mono ?_; rintro e w5 ⟨rfl, ht5⟩; have H5 := Lib.hid ht5; clear ht5)
          all_goals
            go_wp2_with fail
            go_roundw
            case rel => exact ⟨n + 1, by go_num, hn2, (H3.out.drewN 1).same H5.out⟩
            case measure => simp [intOf]; omega
        · have H3 := Lib.hid ht
          clear ht
          go_wp2_with fail
          go_roundw
          case rel => exact ⟨k + 1, by go_num, hlt, H3.out⟩
          case measure => simp [intOf]; omega
    · have H1 := Lib.hid ht
      clear ht
      go_wp2_with fail
      go_ret
      exact ⟨rfl, H1.out⟩
end Go.Proofs.YtodcmeakgcgjfaaGreatDoor
namespace Go.Proofs.YtodcmeakgcgjfaaGreatDoor
set_option maxRecDepth 8000
open Go.RowKit
open Lx (Bytes)

theorem parse_back {w : World} (hsp : Space w) {u : ByteArray} {G G' : List (List Px.Cmd)} {L : List Lx.Ln} (hu : sl u = Px.print G) (h1 : Lx.split [] (Px.print G) = .ok L) (h2 : Fit L) (h3 : NoDir (L.map Px.ofLn) []) (h4 : Px.parse nilX [] (Px.print G) = .ok G') :
    Calls Tryz.prog 7 #[.string u, .agg #[.slice none 0 0, .slice none 0 0], .slice none 0 0] w fun e w' => ∃ A c Z, e = .returned (.tuple #[.agg #[.slice A Z.length c], .int .i64 0, .int .i64 0]) ∧ GroupsAt w' w.heap.size (.slice A Z.length c) Z ∧ plainG Z = G' ∧ Turns Nothing w w' := by
  have h := parse_in (s := u) hsp (no_env w _) nilX NoDir (nodir_inv (.slice none 0 0) (.slice none 0 0) nilX) (fun L' hL => by
    have e : Lx.split [] (sl u) = .ok L' := hL
    rw [hu, h1] at e
    injection e with e
    subst e
    exact ⟨h2, h3⟩)
  rw [hu, show envOf [] = [] from rfl, h4] at h
  refine h.mono ?_
  rintro e w' ⟨ht, gv, Z, rfl, hg, hp⟩
  obtain ⟨A, c, rfl⟩ := own_slice hg.outer
  exact ⟨A, c, Z, rfl, hg, hp, ht⟩
theorem psrc_cmd (w : World) (v0 v1 v2 v3 : Value) (h0 : v0.oneCell' = true) (h1 : v1.oneCell' = true) (h2 : v2.oneCell' = true) (h3 : v3.oneCell' = true) : Src Tryz.prog 4 25 (.slice (some ⟨w.heap.size, 0, none⟩) 1 1) 1 [v0, v1, v2, v3] (w.alloc (.cells #[v0, v1, v2, v3] 30)) :=
  psrc_block (size := 4) Tryz.underlying25 (Blk.new w 30 #[v0, v1, v2, v3]) 1 1 rfl (by intro u hu; simp at hu; rcases hu with rfl | rfl | rfl | rfl <;> assumption)
theorem psrc_group (w : World) (v : Value) (h : v.oneCell' = true) : Src Tryz.prog 1 24 (.slice (some ⟨w.heap.size, 0, none⟩) 1 1) 1 [v] (w.alloc (.cells #[v] 25)) :=
  psrc_block (size := 1) Tryz.underlying24 (Blk.new w 25 #[v]) 1 1 rfl (by intro u hu; simp at hu; subst hu; exact h)
set_option maxHeartbeats 4000000 in
theorem pback_true {w : World} (hsp : Space w) {v : Value} {ll : List (Value × List RawQ)} (h : RawsAt w v ll) :
    Calls Tryz.prog 3 #[v] w fun e w' => e = .returned (.bool true) ∧ Turns Nothing w w' := by
  obtain ⟨A, c, rfl, hat⟩ := h.at_
  have HL := Lib.hid (And.intro hsp h)
  have HAT := Lib.hid hat
  have hll : (ll.length : Int) ≤ 9223372036854775807 := by have := h.few; omega
  clear h hat hsp
  go_enter Tryz.func3, Tryz.ntmps3
  go_wp2_with fail
  refine (pshown_true HL.out.1).mono ?_
  rintro e w1 ⟨rfl, ht⟩
  have H0 := Lib.hid (show BkOut w [] (.slice none 0 0) 0 w1 from ⟨GroupsAt.nil _ _, ht, fun z hz => (List.not_mem_nil hz).elim, rfl, by decide⟩)
  clear ht
  go_wp2_with fail
  go_loopw [4, 5, 6] (fun ov nv iv wr => ∃ (i n : Nat) (Z : List (Value × List CQ)), nv = .int .i64 n ∧ iv = .int .i64 i ∧ i ≤ ll.length ∧ BkOut w Z ov n wr) (fun _ _ iv _ => ll.length - (intOf iv).toNat)
  case atStart => exact ⟨0, 0, [], rfl, rfl, Nat.zero_le _, H0.out⟩
  case round =>
    obtain ⟨i, n, Z, rfl, rfl, hi, hB⟩ := hrel
    obtain ⟨oA, oc, rfl⟩ := own_slice hB.groups.outer
    have HB := Lib.hid hB
    clear hB
    by_cases hc : i < ll.length ∧ n < 40
    · obtain ⟨hlt, hn⟩ := hc
      obtain ⟨b, off, rfl, hb, hcell⟩ := HAT.out (by omega)
      have hrow := HL.out.2.each _ (List.getElem_mem hlt)
      have hcell0 := hcell i hlt
      generalize ll[i] = z at hrow hcell0
      obtain ⟨z1, l0⟩ := z
      obtain ⟨A2, c2, e2, hat2⟩ := hrow.at_
      dsimp only at hrow hcell0 e2 hat2
      subst e2
      have hl0 : (l0.length : Int) ≤ 9223372036854775807 := by have := hrow.few; omega
      have HROW := Lib.hid (And.intro hrow (And.intro hat2 (And.intro hcell0 hb)))
      clear hrow hat2 hcell0 hcell hb
      have HI0 := Lib.hid HB.out.begin_
      have hlt2 : (i : Int) < (ll.length : Int) := by omega
      have hn2 : (n : Int) < 40 := by omega
      go_wp2_with fail
      generalize hw1 : wr = w2 at *
      clear hw1
      go_loopw [5, 7, 8] (fun nv gv kv wr => ∃ (k n : Nat) (l : List CQ), nv = .int .i64 n ∧ kv = .int .i64 k ∧ k ≤ l0.length ∧ BkIn w Z (.slice oA Z.length oc) gv l n wr) (fun _ _ kv _ => l0.length - (intOf kv).toNat)
      case atStart => exact ⟨0, n, [], rfl, rfl, Nat.zero_le _, HI0.out⟩
      case round =>
        obtain ⟨k, n, l, rfl, rfl, hk, hB⟩ := hrel
        obtain ⟨gA, gc, rfl⟩ := own_slice hB.pend.last
        have hlle : (l.length : Int) ≤ 40 := by have := hB.num; have := hB.le; omega
        have hzle : (Z.length : Int) ≤ 40 := by have := hB.num; have := hB.le; have := (total_le fun z hz => (hB.ok z hz).1).1; omega
        have p0 := (hB.turns.cell (p := ⟨b, _, none⟩) HROW.out.2.2.2 id).trans HROW.out.2.2.1
        have hbr : b < wr.heap.size := Nat.lt_of_lt_of_le HROW.out.2.2.2 hB.turns.size
        have HBI := Lib.hid hB
        clear hB
        by_cases hc : k < l0.length ∧ n < 40
        · obtain ⟨hk2, hn3⟩ := hc
          obtain ⟨b2, off2, rfl, hb2, hcell2⟩ := HROW.out.2.1 (by omega)
          obtain ⟨r0, r1, r2, r3⟩ := hcell2 k hk2
          have r0 := (HBI.out.turns.cell (p := ⟨b2, _, none⟩) hb2 id).trans r0
          have r1 := (HBI.out.turns.cell (p := ⟨b2, _, none⟩) hb2 id).trans r1
          have r2 := (HBI.out.turns.cell (p := ⟨b2, _, none⟩) hb2 id).trans r2
          have r3 := (HBI.out.turns.cell (p := ⟨b2, _, none⟩) hb2 id).trans r3
          have hbr2 : b2 < wr.heap.size := Nat.lt_of_lt_of_le hb2 HBI.out.turns.size
          have hq := HROW.out.1.each _ (List.getElem_mem hk2)
          generalize l0[k] = q at r0 r1 r2 r3 hq
          have HQ := Lib.hid hq
          have hk3 : (k : Int) < (l0.length : Int) := by omega
          have hn4 : (n : Int) < 40 := by omega
          clear hq hcell2 hb2
          go_wp2_with fail
          refine (raw_in (HQ.out.vv.still HBI.out.turns) (HQ.out.av.still HBI.out.turns) HQ.out.of_ HQ.out.bits).mono ?_
          rintro e w3 ⟨v, c, rfl, hcm, ht, hok⟩
          obtain ⟨fA, fc, aA, ac, rfl, hq⟩ := cmd_cq2 hcm
          obtain ⟨i0, hi0, hz0, hz1, hz2⟩ := info_parts A.info_cmd
          have hT := ht.alloc (.cells #[strV c.name, .slice fA c.flags.length fc, .slice aA c.args.length ac, .int .i64 c.line] 30)
          have hT3 := (Turns.refl Nothing w3).alloc (.cells #[strV c.name, .slice fA c.flags.length fc, .slice aA c.args.length ac, .int .i64 c.line] 30)
          have hO := hT.own HBI.out.pend.last fun _ _ => id
          have hS := psrc_cmd w3 (strV c.name) (.slice fA c.flags.length fc) (.slice aA c.args.length ac) (.int .i64 c.line) rfl rfl rfl rfl
          have hBs := Nat.le_trans HBI.out.turns.size hT.size
          have hm : l.length + 1 ≤ maxLen := by simp only [maxLen]; omega
          have hy : ((l.length + 1) + (l.length + 1 + 768) / 4 + 512) * 72 ≤ 281474976710656 := by omega
          have hq3 : CQAt (w3.alloc (.cells #[strV c.name, .slice fA c.flags.length fc, .slice aA c.args.length ac, .int .i64 c.line] 30)) w.heap.size (c, .slice fA c.flags.length fc, .slice aA c.args.length ac) :=
            ⟨own_weak (hT3.own hq.flags fun _ _ => id) HBI.out.turns.size, own_weak (hT3.own hq.args fun _ _ => id) HBI.out.turns.size⟩
          have HO := Lib.hid (And.intro hO (And.intro hS (And.intro hBs (And.intro hm hy))))
          have HK := Lib.hid (And.intro hT (And.intro hq3 hok))
          clear hO hS hBs hm hy hq3 hok hq hT hT3 ht hcm
          simp only [strV] at HO HK ⊢
          go_wp2_with (first
            | (at_builtin
               refine wpList_append_src _ rfl (.tmp 40) (.tmp 49) _ _ rfl w.heap.size 30 i0 _ 4 72 Tryz.underlying25 hi0 hz0 hz1 hz2 rfl (.slice gA l.length gc) l.length (cqCells l) rfl HO.out.1 _ 1 _ rfl HO.out.2.1 HO.out.2.2.2.1 HO.out.2.2.2.2 HO.out.2.2.1 ?_
               intro A1 cp1 w6 ho hg hat
               have HN := Lib.hid (HBI.out.push hn3 HK.out.1 HK.out.2.1 HK.out.2.2 ho hg (hat.imp id fun e => ⟨_, e, HK.out.1.size⟩))
               clear ho hg hat))
          go_roundw
          case rel => exact ⟨k + 1, n + 1, _, by go_num, by go_num, hk2, HN.out⟩
          case measure => simp [intOf]; omega
        · have hx : (¬ (k : Int) < (l0.length : Int) ∧ (0 : Int) ≤ 0) ∨ ((k : Int) < (l0.length : Int) ∧ ¬ (n : Int) < 40) := by omega
          clear hc
          by_cases hl : l = []
          · subst hl
            have HBO := Lib.hid HBI.out.drop
            simp only [List.length_nil]
            rcases hx with ⟨hx1, hx2⟩ | ⟨hx1, hx2⟩
            all_goals
              go_wp2_with fail
              go_roundw
              case rel => exact ⟨i + 1, n, Z, rfl, by go_num, hlt, HBO.out⟩
              case measure => simp [intOf]; omega
          · have hl1 : (0 : Int) < (l.length : Int) := by
              have := List.length_pos_iff.2 hl
              omega
            have HLN := Lib.hid hl
            clear hl
            obtain ⟨i0, hi0, hz0, hz1, hz2⟩ := info_parts A.info_groups
            have hT := (Turns.refl Nothing wr).alloc (.cells #[.slice gA l.length gc] 25)
            have hO := HBI.out.still hT
            have hS := psrc_group wr (.slice gA l.length gc) rfl
            have hBs := Nat.le_trans HBI.out.turns.size hT.size
            have hm : Z.length + 1 ≤ maxLen := by simp only [maxLen]; omega
            have hy : ((Z.length + 1) + (Z.length + 1 + 768) / 4 + 512) * 24 ≤ 281474976710656 := by omega
            have HO := Lib.hid (And.intro hO (And.intro hS (And.intro hBs (And.intro hm hy))))
            clear hO hS hBs hm hy hT
            rcases hx with ⟨hx1, hx2⟩ | ⟨hx1, hx2⟩
            all_goals
              go_wp2_with (first
                | (at_builtin
                   refine wpList_append_src _ rfl (.tmp 56) (.tmp 58) _ _ rfl w.heap.size 25 i0 _ 1 24 Tryz.underlying24 hi0 hz0 hz1 hz2 rfl (.slice oA Z.length oc) Z.length (Z.map (·.1)) rfl HO.out.1.pend.outer _ 1 _ rfl HO.out.2.1 HO.out.2.2.2.1 HO.out.2.2.2.2 HO.out.2.2.1 ?_
                   intro A1 cp1 w6 ho hg hat
                   have HN := Lib.hid (HO.out.1.done HLN.out ho hg)
                   clear ho hg hat))
              go_roundw
              case rel => exact ⟨i + 1, n, _, rfl, by go_num, hlt, HN.out⟩
              case measure => simp [intOf]; omega
    · have hx : (¬ (i : Int) < (ll.length : Int) ∧ (0 : Int) ≤ 0) ∨ ((i : Int) < (ll.length : Int) ∧ ¬ (n : Int) < 40) := by omega
      have HFEW := Lib.hid HB.out.few
      have hnum := HB.out.num
      have hle := HB.out.le
      have HTP := Lib.hid (show ((plainG Z).map (·.length)).sum ≤ 40 by rw [total_plain]; omega)
      clear hc hnum hle
      rcases hx with ⟨hx1, hx2⟩ | ⟨hx1, hx2⟩
      all_goals
        go_wp2_with fail
        refine (print_in HB.out.groups HFEW.out.1 HFEW.out.2).mono ?_
        rintro e w2 ⟨u, rfl, hu, ht⟩
        have HB2 := Lib.hid (HB.out.still ht)
        clear ht
        by_cases hbig : (65536 : Int) < u.size
        · go_wp2_with fail
          go_ret
          exact ⟨rfl, HB2.out.turns⟩
        · have HBF := Lib.hid (back_facts HB.out.plain HTP.out (by rw [← hu, sl_size]; omega))
          have HU := Lib.hid hu
          clear hu
          obtain ⟨L, G', h⟩ := HBF.out
          have HX := Lib.hid h
          clear h
          go_wp2_with fail
          refine (parse_back (HL.out.1.still HB2.out.turns) HU.out HX.out.1 HX.out.2.1 HX.out.2.2.1 HX.out.2.2.2.1).mono ?_
          rintro e w3 ⟨mA, mc, Z', rfl, hg, hp, ht⟩
          have hst : Px.stripG (plainG Z') = Px.stripG (plainG Z) := by rw [hp]; exact HX.out.2.2.2.2.1
          have HG := Lib.hid (And.intro hg (And.intro hst (And.intro (strip_fine hst HFEW.out) (hp ▸ HX.out.2.2.2.2.2))))
          have HB3 := Lib.hid (HB2.out.still ht)
          clear hg hp ht hst
          have B10 := Blk.new w3 36 #[.slice mA Z'.length mc]
          have T10 := Lib.hid ((Turns.refl Nothing w3).alloc (.cells #[.slice mA Z'.length mc] 36))
          go_wp2_with fail
          refine (cgroups_in (HB3.out.groups.still T10.out) (HG.out.1.still T10.out) HG.out.2.1.symm HFEW.out.1 HFEW.out.2).mono ?_
          rintro e w4 ⟨rfl, ht⟩
          have b10 := (ht.blk B10 id).cell 0
          have b10l := (ht.blk B10 id).lt
          simp at b10
          have T4 := Lib.hid (T10.out.same ht)
          clear ht B10
          go_wp2_with fail
          refine (print_in (HG.out.1.still T4.out) HG.out.2.2.1.1 HG.out.2.2.1.2).mono ?_
          rintro e w5 ⟨u', rfl, hu', ht⟩
          obtain rfl : u' = u := sl_inj (hu'.trans (HG.out.2.2.2.trans HU.out.symm))
          have T5 := Lib.hid (T4.out.same ht)
          clear ht hu'
          go_wp2_with fail
          go_ret
          exact ⟨rfl, HB3.out.turns.same T5.out⟩
end Go.Proofs.YtodcmeakgcgjfaaGreatDoor
