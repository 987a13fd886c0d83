/- Package bind: the table in memory, when a binding is put into it or dropped. Package bind: Unbind, walked. Package bind: named, walked. -/
import Derived.Test.YtiopaenonjhlnaaGreatDoorBindFind
import Derived.StillTailTactics
import Derived.Test.YtiopaenonjhlnaaGreatDoorLexQuote
import Derived.Test.YtiopaenonjhlnaaGreatDoorBindPure
import Derived.Test.YtiopaenonjhlnaaGreatDoorParseMem
namespace Go.Proofs.YtiopaenonjhlnaaGreatDoor
set_option maxRecDepth 8000
open Go.RowKit
open Lx (Bytes)
open Go.Maps (Keyed)

namespace Bx
def others (m : List BV) (p : Pl) : List BV := m.filter fun y => !decide (bvP y = p)
theorem others_len : ∀ {m : List BV}, Apart m → ∀ p, (others m p).length + (if (getV m p).isSome then 1 else 0) = m.length
  | [], _, p => rfl
  | y :: m, h, p => by
    obtain ⟨h1, h2⟩ := List.pairwise_cons.1 h
    have ih := others_len h2 p
    by_cases e : bvP y = p
    · have hn : getV m p = none := getV_none.2 fun x hx q => h1 x hx (e.trans q.symm)
      rw [hn] at ih
      have e1 : others (y :: m) p = others m p := by simp [others, e]
      have e2 : getV (y :: m) p = some y := by simp [getV, e]
      rw [e1, e2]
      simp at ih ⊢
      omega
    · have e1 : others (y :: m) p = y :: others m p := by simp [others, e]
      have e2 : getV (y :: m) p = getV m p := by simp [getV, e]
      rw [e1, e2, List.length_cons, List.length_cons]
      omega
theorem others_mem {m : List BV} {p : Pl} {y : BV} : y ∈ others m p ↔ y ∈ m ∧ bvP y ≠ p := by simp [others]
theorem others_apart {m : List BV} (h : Apart m) (p : Pl) : Apart (others m p) := h.filter _
theorem others_get {m : List BV} (h : Apart m) (p q : Pl) : getV (others m p) q = if q = p then none else getV m q := by
  by_cases e : q = p
  · rw [if_pos e, getV_none]
    intro x hx
    rw [e]
    exact (others_mem.1 hx).2
  · rw [if_neg e]
    cases hg : getV m q with
    | none =>
      rw [getV_none] at hg ⊢
      exact fun x hx => hg x (others_mem.1 hx).1
    | some x =>
      obtain ⟨h1, h2⟩ := (getV_mem h).1 hg
      exact (getV_mem (others_apart h p)).2 ⟨others_mem.2 ⟨h1, by rw [h2]; exact e⟩, h2⟩
theorem others_map (m : List BV) (t : Bytes) (k : Ky) : (others m (t, k)).map (·.1) = drop (m.map (·.1)) t k := by
  rw [drop, List.filter_map]
  congr 1
  refine List.filter_congr fun y _ => ?_
  have : decide (bvP y = (t, k)) = same t k y.1 := by
    rw [Bool.eq_iff_iff, decide_eq_true_eq, same_iff]
  simp [this]
theorem ins_perm (b : Bd) : ∀ T : List Bd, (ins b T).Perm (b :: T)
  | [] => .refl _
  | y :: T => by
    unfold ins
    split
    · exact .refl _
    · exact ((ins_perm b T).cons y).trans (.swap b y T)
section
variable {H : Type}
theorem Agree.del {ok : Pl → Prop} {key : Pl → Lit} (F : KeyFn ok key) {D : DataW Value} {m m' : List BV} (h : Agree ok key D m) {q : Pl} (hq : ok q) (hm : ∀ p, getV m' p = if p = q then none else getV m p) : Agree ok key (D.del (key q)) m' := by
  intro p hp
  rw [hm]
  by_cases e : p = q
  · subst e
    rw [if_pos rfl]
    exact ⟨Maps.has_del_same, fun u hu => by cases hu⟩
  · have hne : key p ≠ key q := fun r => e (F.inj hp hq r)
    rw [if_neg e, Maps.has_del_other hne]
    exact ⟨(h p hp).1, fun u hu z => by rw [Maps.atKey_del_other hne]; exact (h p hp).2 u hu z⟩
end
/-- a binding, its commands without lines -/
def bareB (b : Bd) : Bd := { b with list := Px.stripG b.list }
end Bx
theorem strip_strip (G : List (List Px.Cmd)) : Px.stripG (Px.stripG G) = Px.stripG G := by
  simp [Px.stripG, Px.strip, List.map_map, Function.comp_def]
section
variable {w w' : World} {P M : Nat} {T : List Bx.Bd} {m : List Bx.BV} {D : DataW Value}
theorem TabM.len (h : TabM w M T m D) : m.length = T.length := by
  have := h.perm.length_eq
  rwa [List.length_map] at this
theorem TabM.put (h : TabM w M T m D) {b : Bx.Bd} (hb : GoodB b) (hfew : (Bx.find T b.table b.key).isSome = true ∨ T.length < 500) {v : Value} (ho : w'.ownsMap Tryz.prog 78 elemR M (m.length + 1) (D.put (keyP (Bx.place b)) (.held v))) (ht : Turns (Only M) w w') (hv : BdAt w' (M + 1) v b) :
    TabM w' M (Bx.put T b) ((b, v) :: Bx.others m (Bx.place b)) (D.put (keyP (Bx.place b)) (.held v)) := by
  have hok := hb.ok
  have hT : Maps.Tidy D := h.map.own.tidy A.place_law
  have hgm : ∀ p, Bx.getV ((b, v) :: Bx.others m (Bx.place b)) p = if p = Bx.place b then some (b, v) else Bx.getV m p := by
    intro p
    have hog := Bx.others_get h.map.apart (Bx.place b) p
    by_cases e : p = Bx.place b
    · rw [if_pos e]
      simp [Bx.getV, Bx.bvP, e]
    · rw [if_neg e] at hog ⊢
      rw [← hog]
      have e2 : ¬ Bx.place b = p := fun q => e q.symm
      simp [Bx.getV, Bx.bvP, e2]
  have hsz : Maps.size (D.put (keyP (Bx.place b)) (.held v)) = ((b, v) :: Bx.others m (Bx.place b)).length := by
    have h1 := Bx.others_len h.map.apart (Bx.place b)
    rw [Maps.size_put hT, (h.map.agree _ hok).1, h.map.size, List.length_cons]
    split
    · rename_i hs; rw [if_pos hs] at h1; omega
    · rename_i hs; rw [if_neg hs] at h1; omega
  have hperm : (((b, v) :: Bx.others m (Bx.place b)).map (·.1)).Perm (Bx.put T b) := by
    rw [List.map_cons]
    have e : (Bx.others m (Bx.place b)).map (·.1) = Bx.drop (m.map (·.1)) b.table b.key := Bx.others_map m b.table b.key
    rw [e]
    refine List.Perm.trans ?_ (Bx.ins_perm b (Bx.drop T b.table b.key)).symm
    exact (h.perm.filter _).cons b
  refine ⟨⟨hsz ▸ Px.tight ho, h.map.agree.put A.keyFn hT.isMap (x := (b, v)) hok hgm, ?_, hsz⟩, hperm, Bx.put_sorted b h.sorted, ?_, ?_, ?_⟩
  · refine List.pairwise_cons.2 ⟨fun y hy e => (Bx.others_mem.1 hy).2 e.symm, Bx.others_apart h.map.apart _⟩
  · intro x hx
    rcases Bx.ins_mem.1 hx with rfl | hx
    · exact hb
    · exact h.good x (List.mem_filter.1 hx).1
  · intro x hx
    rcases List.mem_cons.1 hx with rfl | hx
    · exact hv
    · obtain ⟨gv, Z, h1, h2, h3⟩ := h.each x (Bx.others_mem.1 hx).1
      exact ⟨gv, Z, h1, h2.keep ht fun c e => by have e : c = M := e; omega, h3⟩
  · have h1 := Bx.others_len h.map.apart (Bx.place b)
    have h2 := hperm.length_eq
    rw [List.length_map, List.length_cons] at h2
    have h3 := h.len
    have h4 := h.few
    rcases hfew with hf | hf
    · rw [h.get, Option.isSome_map] at hf
      have hf : (Bx.getV m (Bx.place b)).isSome = true := hf
      rw [if_pos hf] at h1
      omega
    · omega
theorem TabM.del (h : TabM w M T m D) {t : Bytes} {k : Bx.Ky} (hp : okP (t, k)) (ho : w'.ownsMap Tryz.prog 78 elemR M m.length (D.del (keyP (t, k)))) (ht : Turns (Only M) w w') :
    TabM w' M (Bx.drop T t k) (Bx.others m (t, k)) (D.del (keyP (t, k))) := by
  have hle : (Bx.drop T t k).length ≤ T.length := List.length_filter_le _ _
  have hT : Maps.Tidy D := h.map.own.tidy A.place_law
  have hsz : Maps.size (D.del (keyP (t, k))) = (Bx.others m (t, k)).length := by
    have h1 := Bx.others_len h.map.apart (t, k)
    have h2 := Maps.size_del (k := keyP (t, k)) hT
    rw [(h.map.agree _ hp).1, h.map.size] at h2
    omega
  refine ⟨⟨hsz ▸ Px.tight ho, h.map.agree.del A.keyFn hp (Bx.others_get h.map.apart (t, k)), Bx.others_apart h.map.apart _, hsz⟩, ?_, Bx.drop_sorted h.sorted, fun x hx => h.good x (List.mem_filter.1 hx).1, fun x hx => ?_, ?_⟩
  · rw [Bx.others_map]
    exact h.perm.filter _
  · obtain ⟨gv, Z, h1, h2, h3⟩ := h.each x (Bx.others_mem.1 hx).1
    exact ⟨gv, Z, h1, h2.keep ht fun c e => by have e : c = M := e; omega, h3⟩
  · have := h.few; omega
theorem turned (h : w.mapTurned w' M) : Turns (Only M) w w' := (Turns.refl (Only M) w).grown h.grown fun b _ e => by injection e with e; exact e.symm
end
end Go.Proofs.YtiopaenonjhlnaaGreatDoor
namespace Go.Proofs.YtiopaenonjhlnaaGreatDoor
set_option maxRecDepth 8000
open Go.RowKit
open Lx (Bytes)

theorem TabAt.ne {w : World} {P M : Nat} {T : List Bx.Bd} (h : TabAt w P M T) : P ≠ M := by
  rintro rfl
  obtain ⟨m, D, hm⟩ := h.tab
  obtain ⟨es, clock, h1, -⟩ := hm.map.own
  have h2 := h.ptr
  unfold Blk at h2
  rw [h1] at h2
  cases h2
theorem key_cells2 {w : World} {b : Nat} {c m : Int} (h : Blk w b 23 #[.int .i64 c, .int .i64 m]) : w.cell? ⟨b, 0, none⟩ = some (.int .i64 c) ∧ w.cell? ⟨b, 1, none⟩ = some (.int .i64 m) := ⟨h.cell 0, h.cell 1⟩
/-- how the bytes of what was found stand in memory: one aggregate of six -/
theorem look_form {w : World} {M : Nat} {T : List Bx.Bd} {t : Bytes} {k : Bx.Ky} {v : Value} (h : Looked w M T t k v) : ∃ vt vc vm vr vn vA vN vC, v = .agg #[.string vt, .int .i64 vc, .int .i64 vm, .bool vr, .string vn, .slice vA vN vC] := by
  obtain ⟨gv, Z, rfl, hg, -⟩ := h.at_
  obtain ⟨A, cp, rfl⟩ := own_slice hg.outer
  exact ⟨_, _, _, _, _, _, _, _, rfl⟩
set_option maxHeartbeats 4000000 in
theorem unbind_in {w : World} {P M : Nat} {T : List Bx.Bd} (h : TabAt w P M T) (t : ByteArray) (k : Bx.Ky) (hp : okP (sl t, k)) :
    Calls Tryz.prog 14 #[.pointer (some ⟨P, 0, none⟩), .string t, .agg #[.int .i64 k.code, .int .i64 k.mods]] w fun e w' =>
      e = .returned (.int .i64 (if (Bx.find T (sl t) k).isSome then 0 else 8)) ∧ TabAt w' P M (if (Bx.find T (sl t) k).isSome then Bx.drop T (sl t) k else T) ∧ Turns (Only M) w w' := by
  obtain ⟨c, m⟩ := k
  have HNE := Lib.hid h.ne
  obtain ⟨mm, D, hm⟩ := h.tab
  have HM := Lib.hid hm
  have hlk := fun W (ht : Turns Nothing w W) => (hm.still ht).look hp
  have hpv : Bx.placeV (sl t, ⟨c, m⟩) = .agg #[.string t, .int .i64 c, .int .i64 m] := rfl
  simp only [hpv] at hlk
  have HPT := Lib.hid h.ptr
  have HP := Lib.hid hp
  obtain ⟨vt, vc, vm, vr, vn, vA, vN, vC, hv0⟩ := look_form (hm.looked (sl t) ⟨c, m⟩)
  rw [hv0] at hlk
  dsimp only
  have HKO := Lib.hid (keyP_of hp)
  generalize hfb : (Bx.find T (sl t) ⟨c, m⟩).isSome = fb at hlk ⊢
  have B1 := Lib.hid (Blk.new w 23 #[.int .i64 c, .int .i64 m])
  have T2 := Lib.hid ((Turns.refl Nothing w).alloc (.cells #[.int .i64 c, .int .i64 m] 23))
  clear h hm hp hpv hv0 hfb
  have HLK2 := Lib.hid hlk
  clear hlk
  go_enter Tryz.func14, Tryz.ntmps14
  go_wp2_with fail
  generalize w.alloc (.cells #[.int .i64 c, .int .i64 m] 23) = w2 at *
  have HS := Lib.hid (fun W (ht : Turns Nothing w2 W) => show W.cell? ⟨P, 0, none⟩ = some (.map (some M)) ∧ W.cell? ⟨w.heap.size, 0, none⟩ = some (.int .i64 c) ∧ W.cell? ⟨w.heap.size, 1, none⟩ = some (.int .i64 m) ∧ (Instr.lookup 58 (.map (some M)) (.agg #[.string t, .int .i64 c, .int .i64 m]) true).run Tryz.prog W = .ok (.tuple #[.agg #[.string vt, .int .i64 vc, .int .i64 vm, .bool vr, .string vn, .slice vA vN vC], .bool fb]) W ∧ Turns Nothing w2 W from
    ⟨((T2.out.same ht).blk HPT.out id).cell 0, (ht.blk B1.out id).cell 0, (ht.blk B1.out id).cell 1, HLK2.out W (T2.out.same ht), ht⟩)
  go_cut [8] (fun s8 wx => s8 = .bool fb ∧ Turns Nothing w2 wx)
  case first =>
    obtain ⟨x0, x1, x2, x3, x4⟩ := HS.out w2.drew ((Turns.refl _ w2).drewN 1)
    go_region_held3 (fun W => W.cell? ⟨P, 0, none⟩ = some (.map (some M)) ∧ W.cell? ⟨w.heap.size, 0, none⟩ = some (.int .i64 c) ∧ W.cell? ⟨w.heap.size, 1, none⟩ = some (.int .i64 m) ∧ (Instr.lookup 58 (.map (some M)) (.agg #[.string t, .int .i64 c, .int .i64 m]) true).run Tryz.prog W = .ok (.tuple #[.agg #[.string vt, .int .i64 vc, .int .i64 vm, .bool vr, .string vn, .slice vA vN vC], .bool fb]) W ∧ Turns Nothing w2 W)
      (first
        | (go_split_ands; exact HS.out _ (Turns.alloc (by assumption) _))
        | exact HS.out _ (by assumption)
        | exact HS.out _ (((Turns.refl _ w2).alloc _).drewN 1)
        | go_keep)
      (fail)
    all_goals
      go_wp2_with fail
      go_meet
      exact ⟨rfl, ((Turns.refl Nothing w2).alloc _).drewN 1⟩
  case rest =>
    obtain ⟨rfl, hT3⟩ := hcut
    have T3 := Lib.hid (T2.out.same hT3)
    have B3 := Lib.hid (hT3.blk B1.out id)
    clear hT3 HS HLK2
    cases fb with
    | false =>
      go_wp2_with fail
      go_ret
      refine ⟨rfl, ⟨T3.out.blk HPT.out id, mm, D, HM.out.still T3.out⟩, T3.out.mono fun _ _ e => e.elim⟩
    | true =>
      generalize wc = w3 at B3 T3 ⊢
      have HM3 := Lib.hid (HM.out.still (T3.out.drewN 1))
      have hP3 := (T3.out.drewN 1).blk HPT.out id
      have x0 : w3.cell? ⟨P, 0, none⟩ = some (.map (some M)) := hP3.cell 0
      obtain ⟨x1, x2⟩ := key_cells2 B3.out
      clear hP3
      go_wp2_with fail
      go_still_tail 7, (by kernel_rfl)
      change wpList _ _ _ _ _ w3.drew
      have T4 := Lib.hid (T3.out.drewN 1)
      change Hid (Turns Nothing w w3.drew) at T4
      change Hid (TabM w3.drew M T mm D) at HM3
      clear x0 x1 x2 B3 T3
      generalize w3.drew = w4 at T4 HM3 ⊢
      go_wp2_with (first
        | (at_delete
           refine wpList_delete_own _ rfl _ _ 58 78 rfl 34 A.place_law Tryz.underlying58 elemR M mm.length D rfl HM3.out.map.own _ (keyP (sl t, ⟨c, m⟩)) rfl HKO.out ?_
           intro w5 hown hturn
           have H5 := Lib.hid (And.intro hown (turned hturn))
           clear hown hturn))
      go_ret
      have hTT : Turns (Only M) w w5 := (T4.out.mono fun _ _ e => e.elim).trans H5.out.2 fun b _ e => e
      refine ⟨rfl, ⟨hTT.blk HPT.out (fun e => HNE.out e), _, _, HM3.out.del HP.out H5.out.1 H5.out.2⟩, hTT⟩
end Go.Proofs.YtiopaenonjhlnaaGreatDoor
namespace Go.Proofs.YtiopaenonjhlnaaGreatDoor
set_option maxRecDepth 8000
open Go.RowKit
open Lx (Bytes)

theorem ntrim_in (s : ByteArray) (w : World) (hs : s.size ≤ 9223372036854775807) :
    Calls Tryz.prog 59 #[.string s, .string ⟨Bx.nameSet.toArray⟩] w fun e w' => e = .returned (.string ⟨(Lib.trimS (sl s) Bx.nameSet).toArray⟩) ∧ Turns Nothing w w' :=
  (Any.strings_Trim_ascii Tryz.lays160 A.zero69 (by kernel_rfl) s ⟨Bx.nameSet.toArray⟩ w hs (by simp [ByteArray.size, Bx.nameSet]) (by
    intro j b hb
    have : b ∈ Bx.nameSet := List.mem_of_getElem? hb
    have h : ∀ b ∈ Bx.nameSet, b.toNat < 128 := by decide
    exact h b this)).mono fun _ _ ⟨h1, h2⟩ => ⟨h1, Turns.of_below h2 fun b h1 h2 => absurd h2 (by omega)⟩
set_option maxHeartbeats 1000000 in
theorem tname_in (s : ByteArray) (w : World) (hs : s.size ≤ 9223372036854775807) : Calls Tryz.prog 35 #[.string s] w fun e w' => e = .returned (.bool (Bx.nameOk (sl s))) ∧ Turns Nothing w w' := by
  have hN : Bx.nameOk (sl s) = (!(sl s).isEmpty && decide ((sl s).length ≤ 64) && (sl s).all (Bx.nameSet.contains ·)) := rfl
  by_cases he : sl s = []
  · have hE : Bx.nameOk (sl s) = false := by rw [hN, he]; rfl
    rw [hE]
    have d0 : s.toList.isEmpty = true := by rw [txt_list, he]; rfl
    clear hN hE he
    go_enter Tryz.func35, Tryz.ntmps35
    go_wp2_with fail
    go_ret
    exact ⟨rfl, Turns.refl _ _⟩
  have d0 : s.toList.isEmpty = false := by rw [txt_list, List.isEmpty_eq_false_iff]; exact he
  by_cases hl : s.size ≤ 64
  · have d1 : decide ((s.size : Int) ≤ 64) = true := decide_eq_true (by omega)
    have hE : Bx.nameOk (sl s) = (sl s).all (Bx.nameSet.contains ·) := by
      rw [hN, ← txt_list, d0, txt_list, sl_size, decide_eq_true hl]
      rfl
    rw [hE]
    have HT := Lib.hid (ntrim_in s w hs)
    have htn := trimS_nil (sl s) Bx.nameSet
    generalize (sl s).all (Bx.nameSet.contains ·) = b at htn ⊢
    generalize hu : (⟨(Lib.trimS (sl s) Bx.nameSet).toArray⟩ : ByteArray) = u at HT
    have hsu : sl u = Lib.trimS (sl s) Bx.nameSet := by rw [← hu]; rfl
    have hb : (u.toList == ([] : List UInt8)) = b := by
      rw [Bool.eq_iff_iff, beq_iff_eq, txt_list, hsu]
      exact htn
    clear hN hE he htn hu hsu
    go_enter Tryz.func35, Tryz.ntmps35
    go_wp2_with fail
    refine HT.out.mono ?_
    rintro e w1 ⟨rfl, ht⟩
    have H1 := Lib.hid ht
    clear ht
    go_wp2_with fail
    go_ret
    exact ⟨rfl, H1.out⟩
  · have d1 : decide ((s.size : Int) ≤ 64) = false := decide_eq_false (by omega)
    have hE : Bx.nameOk (sl s) = false := by rw [hN, sl_size, decide_eq_false hl]; simp
    rw [hE]
    clear hN hE he hl
    go_enter Tryz.func35, Tryz.ntmps35
    go_wp2_with fail
    go_ret
    exact ⟨rfl, Turns.refl _ _⟩
end Go.Proofs.YtiopaenonjhlnaaGreatDoor
