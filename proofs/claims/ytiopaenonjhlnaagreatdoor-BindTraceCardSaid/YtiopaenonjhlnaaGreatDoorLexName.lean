/- The walks of package lex's reader, third part: over, name, value. The walks of package lex's reader: name. The walks of package lex's reader: value. -/
import Derived.Test.YtiopaenonjhlnaaGreatDoorLexWalkA
import Derived.Test.YtiopaenonjhlnaaGreatDoorShelf
import Derived.Deep.LoopGhost
namespace Go.Proofs.YtiopaenonjhlnaaGreatDoor
set_option maxRecDepth 8000
open Go.RowKit
open Lx (Bytes)

/-! a byte among the bytes of a constant -/
theorem ib_one (x c : UInt8) (l : Bytes) : decide (0 ≤ Lib.indexByte (x :: l) c) = (x == c || decide (0 ≤ Lib.indexByte l c)) := by
  have h := Lib.indexByte_ge l c
  simp only [Lib.indexByte]
  by_cases e : x == c
  · simp [e]
  · simp only [e]
    by_cases e2 : Lib.indexByte l c == -1
    · simp only [e2]; have := eq_of_beq e2; simp [this]
    · simp only [e2]
      have : ¬ Lib.indexByte l c = -1 := fun q => e2 (by simp [q])
      have h0 : 0 ≤ Lib.indexByte l c := by omega
      simp [h0]; omega
theorem ib_none (c : UInt8) : decide (0 ≤ Lib.indexByte [] c) = false := by simp [Lib.indexByte]
theorem over_is (b : UInt8) (r : Bytes) : Lx.over (b :: r) = decide (0 ≤ Lib.indexByte [32, 9, 10, 59] b) := by
  rw [ib_one, ib_one, ib_one, ib_one, ib_none]
  simp only [Lx.over, Bool.or_false, BEq.comm (a := b)]
  simp only [Bool.or_assoc]
theorem toU8 (b : UInt8) : ((b.toNat : Int)).toNat.toUInt8 = b := by simp

theorem ibc (s : ByteArray) (l : Bytes) (hl : s.data.toList = l) (b : UInt8) (w : World) : Calls Tryz.prog 75 #[.string s, .int .u8 b.toNat] w fun e w' => e = .returned (.int .i64 (Lib.indexByte l b)) ∧ w = w' :=
  (Tryz.strings_IndexByte s b.toNat w).mono fun e w' ⟨he, hw⟩ => ⟨by rw [he, toU8, hl], hw.symm⟩

set_option maxHeartbeats 400000 in
theorem over_any {w : World} {c : Cfg} {k : Nat} {tx : Value} {t : Bytes} (h : Ctx w c k tx t) :
    Calls Tryz.prog 119 #[.pointer (some ⟨c.R, 0, none⟩)] w fun e w' => e = .returned (.bool (Lx.over ((sl c.s).drop k))) ∧ ∃ n, w' = w.drewN n := by
  rcases hd : (sl c.s).drop k with _ | ⟨b, r⟩
  · have hp := Lib.hid (peek_none h hd)
    clear h hd
    go_enter Tryz.func119, Tryz.ntmps119
    go_wp2_with fail
    refine hp.out.mono ?_
    rintro e w1 ⟨rfl, n, rfl⟩
    go_wp2_with fail
    go_ret
    exact ⟨rfl, n, rfl⟩
  · have hp := Lib.hid (peek_some h hd)
    have ho := Lib.hid (over_is b r)
    clear h hd
    go_enter Tryz.func119, Tryz.ntmps119
    go_wp2_with fail
    refine hp.out.mono ?_
    rintro e w1 ⟨rfl, n, rfl⟩
    go_wp2_with fail
    refine (ibc _ _ rfl b _).mono ?_
    rintro e w1 ⟨rfl, rfl⟩
    go_wp2_with fail
    go_ret
    refine ⟨?_, n, rfl⟩
    rw [ho.out]
    rfl
end Go.Proofs.YtiopaenonjhlnaaGreatDoor
namespace Go.Proofs.YtiopaenonjhlnaaGreatDoor
set_option maxRecDepth 8000
open Go.RowKit
open Lx (Bytes)

abbrev lettersB : ByteArray := ⟨#[97, 98, 99, 100, 101, 102, 103, 104, 105, 106, 107, 108, 109, 110, 111, 112, 113, 114, 115, 116, 117, 118, 119, 120, 121, 122, 65, 66, 67, 68, 69, 70, 71, 72, 73, 74, 75, 76, 77, 78, 79, 80, 81, 82, 83, 84, 85, 86, 87, 88, 89, 90, 95]⟩
theorem letter_all : ∀ n : Fin 256, Lx.letter (UInt8.ofNat n) = decide (0 ≤ Lib.indexByte lettersB.data.toList (UInt8.ofNat n)) := by decide +kernel
theorem letter_is (b : UInt8) : Lx.letter b = decide (0 ≤ Lib.indexByte lettersB.data.toList b) := by
  have := letter_all ⟨b.toNat, b.toNat_lt⟩
  simpa using this
theorem ib_letter {b : UInt8} (hb : Lx.letter b = true) (w : World) :
    Calls Tryz.prog 75 #[.string ⟨#[97, 98, 99, 100, 101, 102, 103, 104, 105, 106, 107, 108, 109, 110, 111, 112, 113, 114, 115, 116, 117, 118, 119, 120, 121, 122, 65, 66, 67, 68, 69, 70, 71, 72, 73, 74, 75, 76, 77, 78, 79, 80, 81, 82, 83, 84, 85, 86, 87, 88, 89, 90, 95]⟩, .int .u8 b.toNat] w fun e w' => ∃ q : Int, 0 ≤ q ∧ e = .returned (.int .i64 q) ∧ w = w' := by
  rw [letter_is] at hb
  exact (ibc _ _ rfl b w).mono fun e w' ⟨he, hw⟩ => ⟨_, of_decide_eq_true hb, he, hw⟩
theorem ib_other {b : UInt8} (hb : Lx.letter b = false) (w : World) :
    Calls Tryz.prog 75 #[.string ⟨#[97, 98, 99, 100, 101, 102, 103, 104, 105, 106, 107, 108, 109, 110, 111, 112, 113, 114, 115, 116, 117, 118, 119, 120, 121, 122, 65, 66, 67, 68, 69, 70, 71, 72, 73, 74, 75, 76, 77, 78, 79, 80, 81, 82, 83, 84, 85, 86, 87, 88, 89, 90, 95]⟩, .int .u8 b.toNat] w fun e w' => ∃ q : Int, q < 0 ∧ e = .returned (.int .i64 q) ∧ w = w' := by
  rw [letter_is] at hb
  exact (ibc _ _ rfl b w).mono fun e w' ⟨he, hw⟩ => ⟨_, Int.not_le.1 (of_decide_eq_false hb), he, hw⟩

def scan (first : Bool) (l : Bytes) : Bytes × Bytes := if first then Lx.name l else Lx.more l
theorem more_split (l : Bytes) : (Lx.more l).1 ++ (Lx.more l).2 = l := by
  induction l with
  | nil => rfl
  | cons b r ih => simp only [Lx.more]; split <;> simp [ih]
theorem name_split (l : Bytes) : (Lx.name l).1 ++ (Lx.name l).2 = l := by
  cases l with
  | nil => rfl
  | cons b r => simp only [Lx.name]; split <;> simp [more_split]
theorem scan_stop_nil (f : Bool) : (scan f []).2 = [] := by cases f <;> rfl
theorem scan_letter {f : Bool} {b : UInt8} {r : Bytes} (hb : Lx.letter b = true) : (scan f (b :: r)).2 = (scan false r).2 := by
  cases f <;> simp [scan, Lx.name, Lx.more, hb]
theorem scan_digit {b : UInt8} {r : Bytes} (hd : Lx.digit b = true) : (scan false (b :: r)).2 = (scan false r).2 := by
  simp [scan, Lx.more, hd]
theorem scan_first {b : UInt8} {r : Bytes} (hb : Lx.letter b = false) : (scan true (b :: r)).2 = b :: r := by
  simp [scan, Lx.name, hb]
theorem scan_more {b : UInt8} {r : Bytes} (hb : Lx.letter b = false) (hd : Lx.digit b = false) : (scan false (b :: r)).2 = b :: r := by
  simp [scan, Lx.more, hb, hd]
theorem digit_le (b : UInt8) : Lx.digit b = (decide (48 ≤ (b.toNat : Int)) && decide ((b.toNat : Int) ≤ 57)) := by
  simp only [Lx.digit]
  rw [Bool.eq_iff_iff]
  simp [UInt8.le_iff_toNat_le]
  omega

/-- what stands in the slots of the byte at hand, at place j -/
def PeekIs (l : Bytes) (b ok : Value) : Prop := match l with
  | [] => b = .int .u8 0 ∧ ok = .bool false
  | x :: _ => b = .int .u8 x.toNat ∧ ok = .bool true
theorem peek_is {w : World} {c : Cfg} {k : Nat} {tx : Value} {t : Bytes} (h : Ctx w c k tx t) :
    Calls Tryz.prog 86 #[.pointer (some ⟨c.R, 0, none⟩)] w fun e w' => ∃ b ok, PeekIs ((sl c.s).drop k) b ok ∧ e = .returned (.tuple #[b, ok]) ∧ ∃ n, w' = w.drewN n := by
  rcases hd : (sl c.s).drop k with _ | ⟨b, r⟩
  · exact (peek_none h hd).mono fun e w' ⟨he, hn⟩ => ⟨_, _, ⟨rfl, rfl⟩, he, hn⟩
  · exact (peek_some h hd).mono fun e w' ⟨he, hn⟩ => ⟨_, _, ⟨rfl, rfl⟩, he, hn⟩

/-- what holds at the loop's head -/
def NameRel (w : World) (c : Cfg) (k : Nat) (tx : Value) (t : Bytes) (j : Nat) (wr : World) : Prop :=
  k ≤ j ∧ Step w c tx j t wr tx ∧ (Lx.name ((sl c.s).drop k)).2 = (scan (decide (j = k)) ((sl c.s).drop j)).2
def NamePost (w : World) (c : Cfg) (k : Nat) (tx : Value) (t : Bytes) (u : ByteArray) (k' : Nat) (w' : World) : Prop :=
  sl u = (Lx.name ((sl c.s).drop k)).1 ∧ (sl c.s).drop k' = (Lx.name ((sl c.s).drop k)).2 ∧ k ≤ k' ∧ Step w c tx k' t w' tx

theorem name_post {w : World} {c : Cfg} {k : Nat} {tx : Value} {t : Bytes} {j : Nat} {wr : World} (h : NameRel w c k tx t j wr) (hs : (scan (decide (j = k)) ((sl c.s).drop j)).2 = (sl c.s).drop j) :
    NamePost w c k tx t (c.s.extract k j) j wr := by
  obtain ⟨hk, hst, he⟩ := h
  rw [hs] at he
  refine ⟨?_, he.symm, hk, hst⟩
  have hsp := name_split ((sl c.s).drop k)
  rw [he] at hsp
  have e1 : (sl c.s).drop k = ((sl c.s).drop k).take (j - k) ++ (sl c.s).drop j := by
    have := List.take_append_drop (j - k) ((sl c.s).drop k)
    rw [List.drop_drop, show k + (j - k) = j from by omega] at this
    exact this.symm
  have e2 : (Lx.name ((sl c.s).drop k)).1 = ((sl c.s).drop k).take (j - k) := List.append_cancel_right (hsp.trans e1)
  rw [e2]
  simp [sl, ByteArray.data_extract, List.extract_eq_take_drop]

def NameLoop (w : World) (c : Cfg) (k : Nat) (tx : Value) (t : Bytes) (g : Nat) (b ok : Value) (wr : World) : Prop :=
  ∃ j, c.s.size - j = g ∧ PeekIs ((sl c.s).drop j) b ok ∧ NameRel w c k tx t j wr
theorem NameRel.drewN {w : World} {c : Cfg} {k : Nat} {tx : Value} {t : Bytes} {j : Nat} {wr : World} (h : NameRel w c k tx t j wr) (n : Nat) : NameRel w c k tx t j (wr.drewN n) := ⟨h.1, h.2.1.drewN n, h.2.2⟩
theorem name_next {w : World} {c : Cfg} {k : Nat} {tx : Value} {t : Bytes} {j : Nat} {wr w2 : World} (h : NameRel w c k tx t j wr) {x : UInt8} {r : Bytes} (hd : (sl c.s).drop j = x :: r)
    (hx : (scan (decide (j = k)) (x :: r)).2 = (scan false r).2) (h10 : ¬ x = 10) (he : w2 = wr.setCell ⟨c.R, 2, none⟩ (.int .i64 (j + 1))) : NameRel w c k tx t (j + 1) w2 := by
  obtain ⟨hk, hst, hs⟩ := h
  subst he
  refine ⟨by omega, hst.trans (hst.ctx.at_ (j + 1) (by have := drop_lt hd; omega) (by rw [lineAt_succ hd, if_neg h10]; rfl)), ?_⟩
  rw [hs, hd, hx, show decide (j + 1 = k) = false from by simp; omega, (drop_head hd).2]

set_option maxHeartbeats 1000000 in
theorem name_any {w : World} {c : Cfg} {k : Nat} {tx : Value} {t : Bytes} (h : Ctx w c k tx t) :
    Calls Tryz.prog 136 #[.pointer (some ⟨c.R, 0, none⟩)] w fun e w' => ∃ u k', e = .returned (.string u) ∧ NamePost w c k tx t u k' w' := by
  have h2 := h.c2
  have hp := Lib.hid (peek_is h)
  have H := Lib.hid h
  clear h
  go_enter Tryz.func136, Tryz.ntmps136
  go_wp2_with fail
  refine hp.out.mono ?_
  rintro e w1 ⟨b, ok, hb, rfl, n, rfl⟩
  clear hp
  have hb := Lib.hid hb
  go_wp2_with fail
  go_loopg [4, 5] (c.s.size - k) (fun g b ok wr => NameLoop w c k tx t g b ok wr)
  case atStart => exact ⟨k, rfl, hb.out, Nat.le_refl _, (Step.refl H.out).drewN n, by simp [scan]⟩
  case round =>
    clear hb h2
    obtain ⟨j, hg, hpk, hrel⟩ := hrel
    have hst := hrel.2.1
    have h2 := hst.ctx.c2
    have f2 := hst.ctx.f 2
    have h0 := hst.ctx.c0
    have hle := hst.ctx.le
    have hsz := hst.ctx.size
    have hk := hrel.1
    have HR := Lib.hid (And.intro hg hrel)
    clear hst hrel hg
    rcases hd : (sl c.s).drop j with _ | ⟨x, r⟩
    · rw [hd] at hpk
      obtain ⟨rfl, rfl⟩ := hpk
      have HD := Lib.hid hd
      clear hd
      go_wp2_with fail
      go_quiet (fail)
      go_wp2_with fail
      go_ret
      exact ⟨_, j, rfl, name_post (HR.out.2.drewN _) (by rw [HD.out, scan_stop_nil])⟩
    · rw [hd] at hpk
      obtain ⟨rfl, rfl⟩ := hpk
      have HD := Lib.hid hd
      have hlt := drop_lt hd
      clear hd
      by_cases hl : Lx.letter x = true
      · have hc := fun w => ib_letter hl w
        have HL := Lib.hid hl
        clear hl
        go_wp2_with fail
        refine (hc _).mono ?_
        rintro e w1 ⟨q, hq, rfl, rfl⟩
        clear hc
        go_wp2_with fail
        obtain ⟨hg, hrel⟩ := HR.out
        have hn := name_next hrel HD.out (by rw [scan_letter HL.out]) (by intro e; subst e; have := HL.out; simp [Lx.letter] at this) rfl
        have hp := Lib.hid (peek_is hn.2.1.ctx)
        have HN := Lib.hid (And.intro hg hn)
        clear hg hrel hn
        refine hp.out.mono ?_
        rintro e w1 ⟨b, ok, hb, rfl, n, rfl⟩
        clear hp
        have hb := Lib.hid hb
        go_wp2_with fail
        go_roundg (c.s.size - (j + 1))
        case measure => have := HN.out.1; omega
        case rel => exact ⟨j + 1, rfl, hb.out, HN.out.2.drewN n⟩
      · have hl : Lx.letter x = false := by simpa using hl
        have hc := fun w => ib_other hl w
        by_cases hjk : j = k
        · have HL := Lib.hid (And.intro hl hjk)
          have hnot : ¬ ((k : Int) < (j : Int)) := by omega
          clear hl hjk
          go_wp2_with fail
          refine (hc _).mono ?_
          rintro e w1 ⟨q, hq, rfl, rfl⟩
          clear hc
          go_wp2_with fail
          go_quiet (fail)
          go_wp2_with fail
          go_ret
          exact ⟨_, j, rfl, name_post (HR.out.2.drewN _) (by rw [HD.out, HL.out.2, decide_eq_true rfl, scan_first HL.out.1])⟩
        · have hgt : (k : Int) < (j : Int) := by omega
          have hf : decide (j = k) = false := by simp [hjk]
          have hx := digit_le x
          by_cases hdg : 48 ≤ (x.toNat : Int)
          · by_cases hdh : (x.toNat : Int) ≤ 57
            · have HL := Lib.hid (And.intro hl (And.intro hf (show Lx.digit x = true from by rw [hx]; simp [hdg, hdh])))
              clear hl hf hx hjk
              go_wp2_with fail
              refine (hc _).mono ?_
              rintro e w1 ⟨q, hq, rfl, rfl⟩
              clear hc
              go_wp2_with fail
              obtain ⟨hg, hrel⟩ := HR.out
              have hn := name_next hrel HD.out (by rw [HL.out.2.1]; exact scan_digit HL.out.2.2) (by intro e; subst e; simp at hdg) rfl
              have hp := Lib.hid (peek_is hn.2.1.ctx)
              have HN := Lib.hid (And.intro hg hn)
              clear hg hrel hn
              refine hp.out.mono ?_
              rintro e w1 ⟨b, ok, hb, rfl, n, rfl⟩
              clear hp
              have hb := Lib.hid hb
              go_wp2_with fail
              go_roundg (c.s.size - (j + 1))
              case measure => have := HN.out.1; omega
              case rel => exact ⟨j + 1, rfl, hb.out, HN.out.2.drewN n⟩
            · have HL := Lib.hid (And.intro hl (And.intro hf (show Lx.digit x = false from by rw [hx]; simp [hdh])))
              clear hl hf hx hjk
              go_wp2_with fail
              refine (hc _).mono ?_
              rintro e w1 ⟨q, hq, rfl, rfl⟩
              clear hc
              go_wp2_with fail
              go_quiet (fail)
              go_wp2_with fail
              go_ret
              exact ⟨_, j, rfl, name_post (HR.out.2.drewN _) (by rw [HD.out, HL.out.2.1, scan_more HL.out.1 HL.out.2.2])⟩
          · have HL := Lib.hid (And.intro hl (And.intro hf (show Lx.digit x = false from by rw [hx]; simp [hdg])))
            clear hl hf hx hjk
            go_wp2_with fail
            refine (hc _).mono ?_
            rintro e w1 ⟨q, hq, rfl, rfl⟩
            clear hc
            go_wp2_with fail
            go_quiet (fail)
            go_wp2_with fail
            go_ret
            exact ⟨_, j, rfl, name_post (HR.out.2.drewN _) (by rw [HD.out, HL.out.2.1, scan_more HL.out.1 HL.out.2.2])⟩
end Go.Proofs.YtiopaenonjhlnaaGreatDoor
namespace Go.Proofs.YtiopaenonjhlnaaGreatDoor
set_option maxRecDepth 8000
open Go.RowKit
open Lx (Bytes)

theorem Ctx.turned {w w' : World} {c : Cfg} {k : Nat} {tx : Value} {t : Bytes} (h : Ctx w c k tx t) (ht : Turns Nothing w w') : Step w c tx k t w' tx :=
  ⟨⟨ht.blk h.blk id, h.hB, h.size, h.le, ht.own h.own fun _ _ => id, h.long, h.env.keep fun p hp => ht.cell (by have := h.hB; have := h.ltR; omega) id⟩, ht.mono fun _ _ e => e.elim, fun _ hb => .inl hb⟩

def ValueRel (w : World) (es : List (ByteArray × ByteArray)) (nm : ByteArray) (i : Nat) (v : Value) (wr : World) : Prop :=
  ∃ u : ByteArray, v = .string u ∧ sl u = Lx.value (envOf (es.take i)) (sl nm) ∧ u.size ≤ strMost ∧ Turns Nothing w wr
def ValueLoop (w : World) (es : List (ByteArray × ByteArray)) (nm : ByteArray) (v i : Value) (wr : World) : Prop :=
  ∃ n : Nat, i = .int .i64 n ∧ n ≤ es.length ∧ ValueRel w es nm n v wr
theorem env_addr_low {w : World} {B : Nat} {ev : Value} {es : List (ByteArray × ByteArray)} (h : EnvAt w B ev es) : ∃ A cp, ev = .slice A es.length cp ∧
    ∀ i, (hi : i < es.length) → ∃ b off, A = some ⟨b, off, none⟩ ∧ b < B ∧ w.cell? ⟨b, off + i * 2, none⟩ = some (.string es[i].1) ∧ w.cell? ⟨b, off + i * 2 + 1, none⟩ = some (.string es[i].2) := by
  obtain ⟨⟨A, cp, hv, hc⟩, _, _⟩ := h
  refine ⟨A, cp, hv, fun i hi => ?_⟩
  obtain ⟨b, off, hA, hb, hx⟩ := hc (by omega)
  exact ⟨b, off, hA, hb, hx i hi⟩
theorem value_yes {es : List (ByteArray × ByteArray)} {nm : ByteArray} {n : Nat} (h : n < es.length) (he : sl es[n].1 = sl nm) : Lx.value (envOf (es.take (n + 1))) (sl nm) = sl es[n].2 := by
  rw [List.take_succ_eq_append_getElem h]
  unfold envOf Lx.value
  rw [List.map_append, List.foldl_append]
  simp only [List.map_cons, List.map_nil, List.foldl_cons, List.foldl_nil, he, if_true]
theorem value_no {es : List (ByteArray × ByteArray)} {nm : ByteArray} {n : Nat} (h : n < es.length) (he : ¬ sl es[n].1 = sl nm) : Lx.value (envOf (es.take (n + 1))) (sl nm) = Lx.value (envOf (es.take n)) (sl nm) := by
  rw [List.take_succ_eq_append_getElem h]
  unfold envOf Lx.value
  rw [List.map_append, List.foldl_append]
  simp only [List.map_cons, List.map_nil, List.foldl_cons, List.foldl_nil, he, if_false]

theorem sl_inj {a b : ByteArray} (h : sl a = sl b) : a = b := ByteArray.ext (Array.toList_inj.1 h)
theorem str_list (a : ByteArray) : a.toList = sl a := Lib.toList_data a
theorem str_ne {a b : ByteArray} (h : ¬ a = b) : (a.toList == b.toList) = false := by
  rw [beq_eq_false_iff_ne, str_list, str_list]; exact fun e => h (sl_inj e)
set_option maxHeartbeats 1000000 in
theorem value_any {w : World} {c : Cfg} {k : Nat} {tx : Value} {t : Bytes} (h : Ctx w c k tx t) (nm : ByteArray) :
    Calls Tryz.prog 123 #[.pointer (some ⟨c.R, 0, none⟩), .string nm] w fun e w' => ∃ v, e = .returned v ∧ ValueRel w c.es nm c.es.length v w' := by
  have h1 := h.c1
  have hlow := h.env.few
  have hsm := Lib.hid h.env.small
  unfold maxLen at hlow
  obtain ⟨A, cp, hev, hcell⟩ := env_addr_low h.env
  rw [hev] at h1
  have H := Lib.hid h
  have HC := Lib.hid hcell
  clear h hcell hev
  go_enter Tryz.func123, Tryz.ntmps123
  go_wp2_with fail
  go_loopw [5, 13] (fun v i wr => ValueLoop w c.es nm v i wr) (fun _ i _ => c.es.length - (intOf i).toNat)
  case atStart => exact ⟨0, rfl, Nat.zero_le _, ⟨#[]⟩, rfl, rfl, Nat.zero_le _, Turns.refl _ _⟩
  case round =>
    clear h1
    obtain ⟨n, rfl, hn, u, rfl, hu, hsz, ht⟩ := hrel
    have HU := Lib.hid (And.intro hu (And.intro hsz ht))
    clear hu hsz
    by_cases hlt : n < c.es.length
    · obtain ⟨b, off, hA, hb, e1, e2⟩ := HC.out n hlt
      subst hA
      have hB : c.B ≤ w.heap.size := by have := H.out.hB; have := H.out.ltR; omega
      have e1 := (ht.cell (p := ⟨b, off + n * 2, none⟩) (show b < _ by omega) id).trans e1
      have e2 := (ht.cell (p := ⟨b, off + n * 2 + 1, none⟩) (show b < _ by omega) id).trans e2
      have hy := Lib.hid (value_yes (nm := nm) hlt)
      have hno := Lib.hid (value_no (nm := nm) hlt)
      have hs2 := Lib.hid (hsm.out _ (List.getElem_mem hlt)).2
      generalize c.es[n].1 = key at e1 hy hno
      generalize c.es[n].2 = val at e2 hy hs2
      clear ht
      by_cases he : key = nm
      · subst he
        go_wp2_with fail
        go_roundw
        case rel => exact ⟨n + 1, by go_num, by omega, val, rfl, (hy.out rfl).symm, hs2.out, HU.out.2.2.alloc _⟩
        case measure => simp [intOf]; omega
      · have hb : (key.toList == nm.toList) = false := str_ne he
        have he2 := Lib.hid he
        clear he
        go_wp2_with fail
        go_roundw
        case rel => exact ⟨n + 1, by go_num, by omega, u, rfl, HU.out.1.trans (hno.out fun e => he2.out (sl_inj e)).symm, HU.out.2.1, HU.out.2.2.alloc _⟩
        case measure => simp [intOf]; omega
    · clear ht
      go_wp2_with fail
      go_ret
      obtain ⟨hu, hsz, ht⟩ := HU.out
      obtain rfl : n = c.es.length := by omega
      exact ⟨_, rfl, u, rfl, hu, hsz, ht⟩
end Go.Proofs.YtiopaenonjhlnaaGreatDoor
