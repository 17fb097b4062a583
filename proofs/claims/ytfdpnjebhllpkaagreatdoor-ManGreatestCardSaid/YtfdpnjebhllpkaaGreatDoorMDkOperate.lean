/- An operation: its refusal, what it does in part, and what it does. -/
import Derived.Test.YtfdpnjebhllpkaaGreatDoorMMnDel
import Derived.Shelf.Lay
import Derived.Ground.NamesProg
import Derived.Shelf.Strings.SlTrimAscii
import Derived.Shelf.Bytes.SlClone
import Derived.Ground.SlbCloneProg
import Derived.BigQuiet
import Derived.BigRegion
import Derived.Deep.QuietTactic
import Derived.Deep.LoopGhost
import Derived.WalkLawsBesides
import Derived.Laws.ResultCell
import Derived.Laws.Rows
import Derived.Deep.Heap
section
namespace Go.Proofs
open Go.Shelf Go.RowKit

shelf_lay Lays.n160 Nm 160 at Tryz as Tryz.lays160
shelf_lay SlLaysK.n4 Slk 4 at Tryz as Tryz.laysClone

end Go.Proofs
namespace Go.Proofs.YtfdpnjebhllpkaaGreatDoor.Dk
open Go.RowKit Go.Shelf

/-! ### may -/
def lets : List UInt8 := [97, 98, 99, 100, 101, 102, 103, 104, 105, 106, 107, 108, 109, 110, 111, 112, 113, 114, 115, 116, 117, 118, 119, 120, 121, 122, 48, 49, 50, 51, 52, 53, 54, 55, 56, 57, 46, 45]
theorem lets_letter : ∀ c : UInt8, lets.contains c = letter c := by
  have : ((List.range 256).all fun n => lets.contains (UInt8.ofNat n) == letter (UInt8.ofNat n)) = true := by kernel_rfl
  intro c
  have h := List.all_eq_true.1 this c.toNat (List.mem_range.2 c.toNat_lt)
  simpa using h
theorem dropWhile_nil {p : UInt8 → Bool} {l : List UInt8} : l.dropWhile p = [] ↔ l.all p = true := by
  induction l with
  | nil => simp
  | cons c l ih =>
    rw [List.dropWhile_cons, List.all_cons]
    cases h : p c
    · simp
    · simpa using ih
theorem trim_nil (l : List UInt8) : Lib.trimS l lets = [] ↔ l.all letter = true := by
  have e : (fun c => lets.contains c) = letter := funext lets_letter
  unfold Lib.trimS Lib.trimLeftS Lib.trimRightS
  rw [e, dropWhile_nil, List.all_reverse]
  constructor
  · intro h
    have h2 : (l.reverse.dropWhile letter) = [] := by
      cases hd : l.reverse.dropWhile letter with
      | nil => rfl
      | cons c r =>
        rw [hd] at h
        have h3 : letter c = true := by
          simp only [List.all_cons, Bool.and_eq_true] at h
          exact h.1
        have h4 := List.head?_dropWhile_not letter l.reverse
        rw [hd] at h4
        simp [h3] at h4
    rw [dropWhile_nil, List.all_reverse] at h2
    exact h2
  · intro h
    have h2 : l.reverse.dropWhile letter = [] := by rw [dropWhile_nil, List.all_reverse]; exact h
    rw [h2]
    rfl

theorem trim_any (s : ByteArray) (hs : s.size ≤ 9223372036854775807) (w : World) :
    Calls Tryz.prog 154 #[.string s, .string (strOf lets)] w fun e w' => e = .returned (.string (strOf (Lib.trimS s.data.toList lets))) ∧ Below w.heap.size w w' :=
  Any.strings_Trim_laid Tryz.lays160 (by kernel_rfl) s (strOf lets) w hs (by decide) (ascii_of_all (by kernel_rfl))

theorem may_cut (l : List UInt8) : may l = (decide (l ≠ []) && (decide (l.length ≤ 40) && decide (Lib.trimS l lets = []))) := by
  unfold may
  have : decide (Lib.trimS l lets = []) = l.all letter := by
    rw [Bool.eq_iff_iff, decide_eq_true_eq, trim_nil]
  rw [this]
  cases l <;> simp

set_option maxRecDepth 100000 in
theorem may_any (s : ByteArray) (hs : s.size ≤ 9223372036854775807) (w : World) :
    Calls Tryz.prog 88 #[.string s] w fun e w' => e = .returned (.bool (may s.data.toList)) ∧ Below w.heap.size w w' := by
  have hsz : s.size = s.data.toList.length := by rw [Array.length_toList]; rfl
  obtain ⟨R, hR⟩ : ∃ R, may s.data.toList = R := ⟨_, rfl⟩
  rw [hR]
  have hR2 := hR
  rw [may_cut] at hR2
  have hR' := Lib.hid hR2
  clear hR hR2
  have hempty : s.toList.isEmpty = s.data.toList.isEmpty := by rw [Lib.toList_data]
  by_cases h0 : s.data.toList = []
  · have e0 : s.toList.isEmpty = true := by rw [hempty, h0]; rfl
    have e1 : s.toList = [] := by simpa using e0
    have hr : R = false := by rw [← hR'.out, h0]; rfl
    subst hr
    clear h0 hempty
    go_enter Tryz.func88, Tryz.ntmps88
    go_wp2_with fail
    go_ret
    exact ⟨rfl, Below.refl _ _⟩
  · have e0 : s.toList.isEmpty = false := by rw [hempty]; simpa using h0
    by_cases h40 : s.size ≤ 40
    · have i0 : decide ((s.size : Int) ≤ 40) = true := by simp; omega
      have hr : R = decide (Lib.trimS s.data.toList lets = []) := by rw [← hR'.out, ← hsz]; simp [h0, h40]
      have hr' := Lib.hid hr
      clear h0 hempty hR' hr hsz
      go_enter Tryz.func88, Tryz.ntmps88
      go_wp2_with fail
      refine (trim_any s hs w).mono ?_
      rintro e w1 ⟨rfl, hb1⟩
      have hb1' := Lib.hid hb1
      have he := strOf_empty (Lib.trimS s.data.toList lets)
      obtain ⟨T, hT⟩ : ∃ T, Lib.trimS s.data.toList lets = T := ⟨_, rfl⟩
      rw [hT] at hr' he ⊢
      clear hb1 hT
      by_cases hn : T = []
      · have hr := hr'.out
        rw [hn] at hr he
        simp only [decide_true] at hr
        subst hr
        have e2 : (strOf ([] : List UInt8)).toList = [] := by simpa using he
        rw [hn]
        go_wp2_with fail
        go_ret
        exact ⟨rfl, hb1'.out⟩
      · have hr := hr'.out
        rw [show decide (T = []) = false by simpa using hn] at hr
        subst hr
        have e2 : (strOf T).toList.isEmpty = false := by rw [he]; simpa using hn
        clear hn he hr'
        go_wp2_with fail
        go_ret
        exact ⟨rfl, hb1'.out⟩
    · have i0 : decide ((s.size : Int) ≤ 40) = false := by simp; omega
      have hr : R = false := by rw [← hR'.out, ← hsz]; simp [h40]
      subst hr
      clear h0 hempty hR' hsz
      go_enter Tryz.func88, Tryz.ntmps88
      go_wp2_with fail
      go_ret
      exact ⟨rfl, Below.refl _ _⟩

/-! ### bytes.Clone -/
theorem clone_any (A : Option Addr) (n c : Nat) (l : List UInt8) (w : World) (h : Bs w A n c l) (hz : n ≤ 140737488355328) :
    Calls Tryz.prog 79 #[.slice A n c] w fun e w' => ∃ v, e = .returned v ∧ OwB w' w.heap.size 5 v l ∧ Below w.heap.size w w' := by
  have hl := h.len
  rcases A with _ | a
  · obtain ⟨rfl, rfl⟩ := Rd.nil h rfl
    have : l = [] := List.eq_nil_of_length_eq_zero hl
    subst this
    refine (Any.bytes_Clone_nil Tryz.laysClone 0 0 w).mono ?_
    rintro e w1 ⟨rfl, rfl⟩
    exact ⟨_, rfl, OwB.nil _ _ _, Below.refl _ _⟩
  · refine (Any.bytes_Clone_at Tryz.laysClone a n c (l.map fun x => (x.toNat : Int)) w (by simpa using hl) hz ?_).mono ?_
    · intro i hi
      obtain ⟨b, off, he, hb, hc⟩ := Rd.cell h (by omega)
      injection he with he
      subst he
      have hx : l[i]? = some l[i] := List.getElem?_eq_getElem (by omega)
      have := hc i (.int .u8 (l[i].toNat : Int)) (by simp [bv, hx])
      have e : (l.map fun x => (x.toNat : Int)).getD i 0 = (l[i].toNat : Int) := by simp [List.getD, hx]
      rw [e]
      unfold Addr.add
      split
      · rename_i h0; subst h0; simpa using this
      · exact this
    · rintro e w1 ⟨v, rfl, h1, _, h2⟩
      refine ⟨v, rfl, ?_, h2⟩
      have e : (l.map fun x => (x.toNat : Int)).map (Value.int .u8) = bv l := by simp [bv]
      rw [e] at h1
      unfold OwB
      rw [hl]
      exact h1

theorem OwB.slice {w : World} {B E : Nat} {v : Value} {l : List UInt8} (h : OwB w B E v l) : ∃ A c, v = .slice A l.length c ∧ Bs w A l.length c l := by
  obtain ⟨A, c, rfl⟩ := ownsRow_form h
  exact ⟨A, c, rfl, OwB.bs h⟩

/-! ### Read -/
/-- A fresh slice of bytes is handed back, and a code. -/
def ReadP (B : Nat) (d : D) (nm : Name) (w : World) (e : Ending) (w' : World) : Prop :=
  Below w.heap.size w w' ∧ ∃ v l, e = .returned (.tuple #[v, .int .i64 (if (Dk.get d.fs nm).isSome then 0 else 42)]) ∧ OwB w' w.heap.size 5 v l ∧ l = ((Dk.get d.fs nm).map (·.data)).getD []

set_option maxRecDepth 100000 in
theorem Read_any (w : World) (B a mb : Nat) (L : Al Nat) (F : Nat → Fl) (tv : Value) (d : D) (h : Da w B a mb L F tv d) (s : ByteArray) (hs : s.size ≤ 1000000) (hz : ∀ p ∈ d.fs, p.2.data.length ≤ 1000000) :
    Calls Tryz.prog 80 #[.pointer (some ⟨a, 0, none⟩), .string s] w (ReadP B d s.data.toList w) := by
  have hlk := h.look s (by unfold maxLen; omega)
  have c1 : w.cell? ⟨a, 1, none⟩ = some (.map (some mb)) := by simp [World.cell?, h.blk]
  have hg := h.get s.data.toList
  cases hgl : Dk.get L s.data.toList with
  | none =>
    rw [hgl] at hlk hg
    simp only [Option.map_none] at hlk hg
    have hg' := Lib.hid hg
    clear hg hgl
    go_enter Tryz.func80, Tryz.ntmps80
    go_wp2_with fail
    go_ret2
    refine ⟨Below.refl _ _, _, [], ?_, OwB.nil _ _ _, by rw [hg'.out]; rfl⟩
    rw [hg'.out]
    rfl
  | some b =>
    rw [hgl] at hlk hg
    simp only [Option.map_some] at hlk hg
    have hmem := get_mem hgl
    obtain ⟨hB, v, hb1, hb2⟩ := h.files _ hmem
    have hm2 := get_mem hg
    have hle := hz _ hm2
    simp only at hb1 hb2 hle
    obtain ⟨A, c, rfl, hbs⟩ := OwB.slice hb2
    have k0 : w.cell? ⟨b, 0, none⟩ = some (.slice A (F b).data.length c) := by simp [World.cell?, hb1]
    have hg' := Lib.hid hg
    obtain ⟨n, hn⟩ : ∃ n, (F b).data.length = n := ⟨_, rfl⟩
    rw [hn] at k0 hbs hle
    have hbs' := Lib.hid hbs
    clear hg hgl hb1 hb2 hbs hm2 hmem hn
    go_enter Tryz.func80, Tryz.ntmps80
    go_wp2_with fail
    refine (clone_any A n c (F b).data w hbs'.out (by omega)).mono ?_
    rintro e w1 ⟨v, rfl, ho, hb⟩
    have ho' := Lib.hid ho
    have hb' := Lib.hid hb
    clear ho hb
    go_wp2_with fail
    go_ret2
    refine ⟨hb'.out, v, (F b).data, ?_, ho'.out, by rw [hg'.out]; rfl⟩
    rw [hg'.out]
    rfl
end Go.Proofs.YtfdpnjebhllpkaaGreatDoor.Dk
end

section
namespace Go.Proofs.YtfdpnjebhllpkaaGreatDoor.Dk
open Go.RowKit

/-- The bytes of the files that are left. -/
def sumLeft (F : Nat → Fl) (left : Lit → Bool) (l : Al Nat) : Nat := (l.map fun p => if left (.string p.1) then (F p.2).data.length else 0).sum
theorem sumLeft_cons (F : Nat → Fl) (left : Lit → Bool) (p : Name × Nat) (l : Al Nat) : sumLeft F left (p :: l) = (if left (.string p.1) then (F p.2).data.length else 0) + sumLeft F left l := by simp [sumLeft]
theorem sumLeft_none {F : Nat → Fl} {left : Lit → Bool} (h : ∀ k, left k = false) (l : Al Nat) : sumLeft F left l = 0 := by
  induction l with
  | nil => rfl
  | cons p l ih => rw [sumLeft_cons, ih, h]; rfl
theorem sumLeft_off {F : Nat → Fl} {left : Lit → Bool} {nm : Name} {l : Al Nat} (h : ∀ p ∈ l, p.1 ≠ nm) : sumLeft F (fun z => left z && !z.sameKey (.string nm)) l = sumLeft F left l := by
  unfold sumLeft
  congr 1
  apply List.map_congr_left
  intro p hp
  have : ((Lit.string p.1).sameKey (.string nm)) = false := by simpa [Lit.sameKey] using h p hp
  simp [this]
theorem sumLeft_step {F : Nat → Fl} {left : Lit → Bool} {nm : Name} {b : Nat} {l : Al Nat} (hU : Up l) (hm : (nm, b) ∈ l) (hl : left (.string nm) = true) :
    sumLeft F left l = (F b).data.length + sumLeft F (fun z => left z && !z.sameKey (.string nm)) l := by
  induction l with
  | nil => cases hm
  | cons p l ih =>
    rw [sumLeft_cons, sumLeft_cons]
    rcases List.mem_cons.1 hm with e | hm'
    · subst e
      rw [sumLeft_off fun q hq => (before_ne (hU.head hq)).symm, hl]
      simp [Lit.sameKey]
    · have hne : p.1 ≠ nm := before_ne (hU.head hm')
      rw [ih hU.tail hm']
      have : ((Lit.string p.1).sameKey (.string nm)) = false := by simpa [Lit.sameKey] using hne
      simp only [this, Bool.not_false, Bool.and_true]
      omega
theorem sumLeft_all {F : Nat → Fl} (L : Al Nat) : sumLeft F (Maps.has (mp L)) L = used (L.map fun p => (p.1, F p.2)) := by
  have : ∀ p ∈ L, Maps.has (mp L) (.string p.1) = true := fun p hp => by
    unfold mp
    rw [Maps.has_eq, List.any_eq_true]
    exact ⟨_, List.mem_map.2 ⟨p, hp, rfl⟩, by simp [Lit.sameKey]⟩
  unfold sumLeft used
  rw [List.map_map]
  congr 1
  apply List.map_congr_left
  intro p hp
  rw [this p hp]
  rfl
theorem sumLeft_le {F : Nat → Fl} {left : Lit → Bool} (L : Al Nat) : sumLeft F left L ≤ used (L.map fun p => (p.1, F p.2)) := by
  induction L with
  | nil => exact Nat.le_refl _
  | cons p L ih =>
    rw [sumLeft_cons, List.map_cons, used_cons]
    simp only
    split <;> omega

theorem below_grown_none {w w' : World} (h : w.grownBy w' none) : Below w.heap.size w w' := ⟨h.os, h.tape, h.output, h.size, fun k hk => h.block k hk (by simp)⟩
theorem ptr_inv {v : Value} {y : DataW Unit × List MemPlace} (h : ptrElem v = some y) : ∃ c : Option Addr, v = .pointer c := by
  unfold ptrElem at h
  split at h
  · exact ⟨_, rfl⟩
  · exact ⟨_, rfl⟩
  · cases h

theorem str_key_inv {key : Value} {kl : Lit} (h : keyOf Tryz.prog 9 key = some kl) : ∃ x : ByteArray, key = .string x := by
  obtain ⟨s, h1, _⟩ := WideMaps.string_of_keyOf Tryz.underlying9 h
  exact ⟨s, h1⟩

set_option maxHeartbeats 1000000 in
set_option maxRecDepth 100000 in
theorem Used_any (w : World) (B a mb : Nat) (L : Al Nat) (F : Nat → Fl) (tv : Value) (d : D) (h : Da w B a mb L F tv d) (hu : used d.fs ≤ 1000000000) :
    Calls Tryz.prog 89 #[.pointer (some ⟨a, 0, none⟩)] w fun e w' => e = .returned (.int .i64 (used d.fs : Nat)) ∧ Below w.heap.size w w' := by
  have c1 : w.cell? ⟨a, 1, none⟩ = some (.map (some mb)) := by simp [World.cell?, h.blk]
  have hown := h.own
  have htot := sumLeft_all (F := F) L
  rw [← h.fs] at htot
  have hle : ∀ left, sumLeft F left L ≤ used d.fs := fun left => by rw [h.fs]; exact sumLeft_le L
  obtain ⟨U, hU⟩ : ∃ U, used d.fs = U := ⟨_, rfl⟩
  rw [hU] at htot hu hle ⊢
  have htot' := Lib.hid htot
  have hle' := Lib.hid hle
  have h' := Lib.hid h
  have hown' := Lib.hid hown
  clear htot hle h hown hU
  go_enter Tryz.func89, Tryz.ntmps89
  go_wp2_with (at_range; apply stop_here)
  refine Stop.go (wpList_range_own _ rfl _ 111 rfl 9 130 law_str Tryz.underlying111 ptrElem mb L.length (mp L) rfl hown'.out ?_)
  intro w1 hr1 hg1 hs1
  have hb1 := Lib.hid (below_grown_none hg1)
  have hr1' := Lib.hid hr1
  have hs1' := Lib.hid hs1
  clear hr1 hg1 hs1 c1
  go_wp2_with fail
  go_frame
  go_loopw [3] (fun v wr => ∃ (left : Lit → Bool) (cnt s : Nat), v = .int .i64 (s : Nat) ∧ Hid (wr.ranges Tryz.prog 9 ptrElem mb w.heap.size L.length (mp L) left cnt) ∧ Hid (s + sumLeft F left L = U) ∧ Hid (Below w.heap.size w wr)) (fun _ wr => wr.rangeLeft mb w.heap.size)
  case atStart => exact ⟨_, _, 0, rfl, hr1', Lib.hid (by rw [htot'.out]; omega), hb1⟩
  case round =>
    obtain ⟨left, cnt, s, rfl, hrg, hsum, hb⟩ := hrel
    have hcnt := hrg.out.left_eq
    go_wp2_with (at_next; apply stop_here)
    refine Stop.go (wpList_next_ranges _ rfl _ rfl 9 law_str ptrElem Value.string Value.pointer (fun key kl hk => str_key_inv hk) (fun v y hy => ptr_inv hy) mb w.heap.size L.length (mp L) left cnt rfl hrg.out ?_ ?_)
    · intro h0 hl
      have hU : s = U := by have := hsum.out; rw [sumLeft_none hl] at this; exact this
      go_wp2_with fail
      go_ret
      exact ⟨rfl, hb.out⟩
    · intro x c kl y w2 cnt2 hkey hlk hR hat hrg2 hlt hg2 hs2 hen
      obtain ⟨x', hx1, hx2, _⟩ := WideMaps.string_of_keyOf Tryz.underlying9 hkey
      injection hx1 with hx1
      subst hx1
      subst hx2
      have hb2 := Lib.hid (hb.out.trans (below_row hg2 (Nat.le_refl _) hb.out.size))
      cases hgl : get L x.data.toList with
      | none =>
        have e1 := hat .nil
        have e2 := hat (.lit (.bool true))
        rw [mp_at, hgl] at e1 e2
        simp only at e1 e2
        rw [← e1] at e2
        cases e2
      | some b =>
        have e1 := hat .nil
        rw [mp_at, hgl] at e1
        simp only at e1
        obtain ⟨y1, y2⟩ := y
        simp only at e1
        subst e1
        have hc := ptr_blk hR
        injection hc with hc
        subst hc
        have hmem := get_mem hgl
        obtain ⟨hB, v, k1, k2⟩ := (h'.out.below hb2.out).files _ hmem
        obtain ⟨A, c, rfl, hbs⟩ := OwB.slice k2
        have k0 : w2.cell? ⟨b, 0, none⟩ = some (.slice A (F b).data.length c) := by simp [World.cell?, k1]
        have hst := sumLeft_step (F := F) h'.out.up hmem hlk
        have hsu : s + (F b).data.length + sumLeft F (fun z => left z && !z.sameKey (.string x.data.toList)) L = U := by have := hsum.out; omega
        obtain ⟨n, hn⟩ : ∃ n, (F b).data.length = n := ⟨_, rfl⟩
        rw [hn] at k0 hsu
        have hsn : s + n ≤ U := by omega
        have hsu' := Lib.hid hsu
        have hrg2' := Lib.hid hrg2
        have hcnt2 := hrg2.left_eq
        have hlt' := Lib.hid hlt
        have hcnt' := Lib.hid hcnt
        have hcnt2' := Lib.hid hcnt2
        clear hsu hrg2 hst hmem hbs k1 k2 hn hat hR hkey hlk hg2 hs2 hlt hcnt hcnt2 hgl
        go_wp2_with fail
        go_roundw
        case rel => exact ⟨_, cnt2, s + n, by go_num, hrg2', hsu', hb2⟩
        case measure => rw [hcnt'.out, hcnt2'.out]; exact hlt'.out
end Go.Proofs.YtfdpnjebhllpkaaGreatDoor.Dk
end

section
namespace Go.Proofs.YtfdpnjebhllpkaaGreatDoor.Dk
open Go.RowKit

theorem trf_length (l : List Tr) : (trf l).length = l.length * 3 := by
  induction l with
  | nil => rfl
  | cons p l ih =>
    show (trC p ++ trf l).length = _
    rw [List.length_append, ih, List.length_cons]
    simp [trC]
    omega
theorem trf_get : ∀ {l : List Tr} {k : Nat} {t : Tr}, l[k]? = some t → (trf l)[k * 3]? = some (.int .i64 t.1) ∧ (trf l)[k * 3 + 1]? = some (.int .i64 t.2.1) ∧ (trf l)[k * 3 + 2]? = some (.int .i64 t.2.2)
  | [], _, _, h => by simp at h
  | q :: l, 0, t, h => by
    simp at h
    subst h
    exact ⟨rfl, rfl, rfl⟩
  | q :: l, k + 1, t, h => by
    simp at h
    have := trf_get h
    show (trC q ++ trf l)[(k + 1) * 3]? = _ ∧ (trC q ++ trf l)[(k + 1) * 3 + 1]? = _ ∧ (trC q ++ trf l)[(k + 1) * 3 + 2]? = _
    have h3 : (trC q).length = 3 := rfl
    rw [List.getElem?_append_right (by omega), List.getElem?_append_right (by omega), List.getElem?_append_right (by omega), h3, show (k + 1) * 3 - 3 = k * 3 by omega, show (k + 1) * 3 + 1 - 3 = k * 3 + 1 by omega, show (k + 1) * 3 + 2 - 3 = k * 3 + 2 by omega]
    exact this

/-- A row of three-celled things, read. -/
theorem row3_at {w : World} {B E n : Nat} {v : Value} {xs : List Value} (h : w.ownsRow B E 3 v n xs) : ∃ A c, v = .slice A n c ∧ n ≤ c ∧ c ≤ 9223372036854775807 ∧
    (xs ≠ [] → ∃ g, A = some ⟨g, 0, none⟩ ∧ g < w.heap.size ∧ ∀ j u, xs[j]? = some u → w.cell? ⟨g, j, none⟩ = some u) := by
  obtain ⟨hl, h⟩ := h
  rcases h with ⟨rfl, h0⟩ | ⟨g, cap, cur, rfl, hB, hh, hnc, hm, hs, ht⟩
  · subst h0
    refine ⟨none, 0, rfl, Nat.le_refl _, by omega, fun hne => ?_⟩
    exact absurd (List.eq_nil_of_length_eq_zero (by omega)) hne
  · refine ⟨_, cap, rfl, hnc, by unfold maxLen at hm; omega, fun _ => ⟨g, rfl, (Array.getElem?_eq_some_iff.1 hh).1, fun j u hu => ?_⟩⟩
    rw [← ht, List.getElem?_take] at hu
    split at hu
    · simp only [World.cell?, hh]
      simpa using hu
    · cases hu

theorem Da.trs {w : World} {B a mb : Nat} {L : Al Nat} {F : Nat → Fl} {tv : Value} {d : D} (h : Da w B a mb L F tv d) : ∃ A c, tv = .slice A d.tr.length c ∧ d.tr.length ≤ c ∧ c ≤ 9223372036854775807 ∧
    ∀ i t, d.tr[i]? = some t → ∃ g, A = some ⟨g, 0, none⟩ ∧ g < w.heap.size ∧ w.cell? ⟨g, i * 3, none⟩ = some (.int .i64 t.1) ∧ w.cell? ⟨g, i * 3 + 1, none⟩ = some (.int .i64 t.2.1) ∧ w.cell? ⟨g, i * 3 + 2, none⟩ = some (.int .i64 t.2.2) := by
  obtain ⟨A, c, h1, h2, h3, h4⟩ := row3_at h.tr
  refine ⟨A, c, h1, h2, h3, fun i t hi => ?_⟩
  have hg := trf_get hi
  obtain ⟨g, e, hlt, hc⟩ := h4 (by intro e; rw [e] at hg; simp at hg)
  exact ⟨g, e, hlt, hc _ _ hg.1, hc _ _ hg.2.1, hc _ _ hg.2.2⟩

theorem set_size (w : World) (p : Addr) (x : Value) : (w.setCell p x).heap.size = w.heap.size := by simp [World.setCell]
theorem below_swap {w : World} {a i : Nat} (ha : a < w.heap.size) (o : Obj) (x : Value) : Below w.heap.size (w.setCell ⟨a, i, none⟩ x) ((w.alloc o).setCell ⟨a, i, none⟩ x) := by
  refine ⟨rfl, rfl, rfl, by rw [set_size, set_size]; exact (below_alloc w o).size, fun k hk => ?_⟩
  have h1 : (w.alloc o).heap[k]? = w.heap[k]? := (below_alloc w o).block k hk
  simp only [World.setCell, Array.getElem?_modify, h1]

/-- A trouble's block. -/
def Tb (w : World) (b : Nat) (x y z : Int) : Prop := w.heap[b]? = some (.cells #[.int .i64 x, .int .i64 y, .int .i64 z] 121)
theorem tb_set {w : World} {b : Nat} {x y z : Int} (h : Tb w b x y z) (x' y' z' : Int) :
    Tb (((w.setCell ⟨b, 0, none⟩ (.int .i64 x')).setCell ⟨b, 1, none⟩ (.int .i64 y')).setCell ⟨b, 2, none⟩ (.int .i64 z')) b x' y' z' := by
  have h1 := setCell_blk h (i := 0) (.int .i64 x')
  have h2 := setCell_blk h1 (i := 1) (.int .i64 y')
  exact setCell_blk h2 (i := 2) (.int .i64 z')
theorem load_tb {w : World} {b : Nat} {x y z : Int} (h : Tb w b x y z) : (loadVar 121 ⟨b, 0, none⟩).run Tryz.prog w = .ok (.agg #[.int .i64 x, .int .i64 y, .int .i64 z]) w :=
  run_loadVar_row w b _ _ _ _ _ h Tryz.underlying121 rfl (by kernel_rfl)
theorem res_tb {fn : Func} {p u : Tmp} (hf : fn.results = #[.cell p 121, .tmp u]) {tmps : Array Value} {w : World} {b : Nat} {x y z : Int} {ok : Value}
    (h : Tb w b x y z) (hp : tmps.getD p undef = .pointer (some ⟨b, 0, none⟩)) (hu : tmps.getD u undef = ok) :
    (results fn tmps).run Tryz.prog w = .ok (.tuple #[.agg #[.int .i64 x, .int .i64 y, .int .i64 z], ok]) w := by
  rw [results_cell_tmp hf, hp, hu]
  simp [asAddr, Result.andThen, load_tb h]
theorem later_block {w : World} {R : Nat} (h : R < w.heap.size) (o : Obj) (k : Nat) : ((w.alloc o).drewN k).heap[R]? = w.heap[R]? :=
  ((Joins.below_draws _ (w.alloc o) k).block R (Nat.lt_of_lt_of_le h (below_alloc w o).size)).trans ((below_alloc w o).block R h)
theorem below_later {w0 w : World} (h : Below w0.heap.size w0 w) (o : Obj) (k : Nat) : Below w0.heap.size w0 ((w.alloc o).drewN k) :=
  h.trans (((below_alloc w o).trans ((Joins.below_draws _ (w.alloc o) k).mono (below_alloc w o).size)).mono h.size)
theorem below_set {B b i : Nat} {w0 w : World} (h : Below B w0 w) (hb : B ≤ b) (v : Value) : Below B w0 (w.setCell ⟨b, i, none⟩ v) :=
  h.setCell (p := ⟨b, i, none⟩) hb v

/-- What trouble gives. -/
def TrP (N : Nat) (w2 : World) (d : D) (e : Ending) (w' : World) : Prop :=
  Below N w2 w' ∧ ∃ at_ kd pt bef, e = .returned (.tuple #[.agg #[.int .i64 at_, .int .i64 kd, .int .i64 pt], .bool bef]) ∧
    match trouble d.tr (d.ops + 1) with
    | none => bef = false
    | some (k, p) => bef = true ∧ kd = k ∧ pt = p

theorem hits_first {tr : List Tr} {i n : Nat} {t : Tr} (hi : tr[i]? = some t) (hno : tr.find? (hits n) = (tr.drop i).find? (hits n)) (ht : hits n t = true) : trouble tr n = some t.2 := by
  have hlt := (List.getElem?_eq_some_iff.1 hi).1
  rw [List.getElem?_eq_getElem hlt] at hi
  injection hi with hi
  unfold trouble
  rw [hno, List.drop_eq_getElem_cons hlt, hi, List.find?_cons_of_pos ht]
  rfl
theorem hits_next {tr : List Tr} {i n : Nat} {t : Tr} (hi : tr[i]? = some t) (hno : tr.find? (hits n) = (tr.drop i).find? (hits n)) (ht : hits n t = false) : tr.find? (hits n) = (tr.drop (i + 1)).find? (hits n) := by
  have hlt := (List.getElem?_eq_some_iff.1 hi).1
  rw [List.getElem?_eq_getElem hlt] at hi
  injection hi with hi
  rw [hno, List.drop_eq_getElem_cons hlt, hi, List.find?_cons_of_neg (by rw [ht]; decide)]

set_option maxHeartbeats 1000000 in
set_option maxRecDepth 100000 in
theorem trouble_any (w : World) (B a mb : Nat) (L : Al Nat) (F : Nat → Fl) (tv : Value) (d : D) (h : Da w B a mb L F tv d) (hops : d.ops ≤ 1000000) (htl : d.tr.length ≤ 1000000) :
    Calls Tryz.prog 178 #[.pointer (some ⟨a, 0, none⟩)] w (TrP w.heap.size (w.setCell ⟨a, 3, none⟩ (.int .i64 ((d.ops + 1 : Nat)))) d) := by
  have halt := h.alt
  have c3 : ∀ o, (w.alloc o).cell? ⟨a, 3, none⟩ = some (.int .i64 (d.ops : Nat)) := fun o => ((below_alloc w o).cell (p := ⟨a, 3, none⟩) halt).trans (by simp [World.cell?, h.blk])
  have f3 : ∀ o, (w.alloc o).frozen? ⟨a, 3, none⟩ = false := fun o => frozen_of_row _ a 3 _ _ (((below_alloc w o).block a halt).trans h.blk)
  obtain ⟨hD, _⟩ := h.setOps (d.ops + 1)
  have hsw := below_swap (i := 3) halt (.cells #[.int .i64 0, .int .i64 0, .int .i64 0] 121) (.int .i64 ((d.ops + 1 : Nat)))
  obtain ⟨w2, hw2⟩ : ∃ w2, w.setCell ⟨a, 3, none⟩ (.int .i64 ((d.ops + 1 : Nat))) = w2 := ⟨_, rfl⟩
  have hsz2 : w2.heap.size = w.heap.size := by rw [← hw2]; exact set_size _ _ _
  rw [hw2] at hD hsw ⊢
  rw [show ((d.ops + 1 : Nat) : Int) = (d.ops : Int) + 1 from rfl] at hsw
  obtain ⟨w1, hw1⟩ : ∃ w1, (w.alloc (.cells #[.int .i64 0, .int .i64 0, .int .i64 0] 121)).setCell ⟨a, 3, none⟩ (.int .i64 ((d.ops : Int) + 1)) = w1 := ⟨_, rfl⟩
  rw [hw1] at hsw
  obtain ⟨R, hR⟩ : ∃ R, w.heap.size = R := ⟨_, rfl⟩
  rw [hR] at hsw hsz2 halt ⊢
  have hD' := Lib.hid hD
  have hsw' := Lib.hid hsw
  have hsz2' := Lib.hid hsz2
  obtain ⟨A, c, htv, hnc, hcm, hrow⟩ := hD.trs
  have htv' := Lib.hid htv
  obtain ⟨n, hn⟩ : ∃ n, d.tr.length = n := ⟨_, rfl⟩
  rw [hn] at htv hnc htl
  have hblk1 : ∀ w', Below R w1 w' → w'.heap[a]? = some (.cells #[.int .i64 (d.room : Nat), .map (some mb), .slice A n c, .int .i64 ((d.ops + 1 : Nat)), .bool d.down] 113) := fun w' hb => by
    rw [hb.block a halt, hsw.block a halt]
    have := hD.blk
    rw [htv] at this
    exact this
  have d2 : w1.cell? ⟨a, 2, none⟩ = some (.slice A n c) := by simp [World.cell?, hblk1 w1 (Below.refl _ _)]
  obtain ⟨R0, hR0⟩ : ∃ R0, trouble d.tr (d.ops + 1) = R0 := ⟨_, rfl⟩
  have hR0' := Lib.hid hR0
  have hblk' := Lib.hid hblk1
  have hrow' := Lib.hid hrow
  have hn' := Lib.hid hn
  have hsR : R ≤ w1.heap.size := by have := hsw.size; omega
  have hR1 : R < w1.heap.size := by rw [← hw1, set_size, ← hR]; simp
  have hRn : w1.heap[R]? = some (.cells #[.int .i64 0, .int .i64 0, .int .i64 0] 121) := by
    rw [← hw1]
    have hne : ¬ a = R := by omega
    simp only [World.setCell, Array.getElem?_modify, if_neg hne]
    rw [← hR]
    exact heap_alloc_new w _
  have hRn' := Lib.hid hRn
  clear hD hsw hsz2 hw2 h htv hblk1 hrow hR0 hn hRn
  go_enter Tryz.func178, Tryz.ntmps178
  go_wp2_with fail
  clear d2 hw1 c3 f3 hR
  go_loopw [18] (fun v wr => ∃ i : Nat, i ≤ n ∧ v = .int .i64 (i : Nat) ∧ Hid (d.tr.find? (hits (d.ops + 1)) = (d.tr.drop i).find? (hits (d.ops + 1))) ∧ Hid (Below w1.heap.size w1 wr)) (fun v _ => n - (intOf v).toNat)
  case atStart => exact ⟨0, by omega, rfl, Lib.hid rfl, Lib.hid (Below.refl _ _)⟩
  case round =>
    obtain ⟨i, hi, rfl, hno, hb⟩ := hrel
    have hbR := Lib.hid (hb.out.mono hsR)
    have hRr : R < wr.heap.size := by have := hb.out.size; omega
    by_cases hlt : i < n
    · have i0 : decide ((i : Int) < (n : Int)) = true := by simp; omega
      have hil : (i : Int) < (n : Int) := by omega
      have hti : d.tr[i]? = some (d.tr[i]'(by rw [hn'.out]; exact hlt)) := List.getElem?_eq_getElem _
      obtain ⟨t, ht⟩ : ∃ t, t = d.tr[i]'(by rw [hn'.out]; exact hlt) := ⟨_, rfl⟩
      rw [← ht] at hti
      clear ht
      obtain ⟨g, hA, hg, k0, k1, k2⟩ := hrow'.out i t hti
      subst hA
      have hg2 : g < R := by rw [hsz2'.out] at hg; exact hg
      have hup := hsw'.out.trans hbR.out
      rw [← hup.cell (p := ⟨g, _, none⟩) hg2] at k0 k1 k2
      have k0' : ∀ o, (wr.alloc o).cell? ⟨g, i * 3, none⟩ = some (.int .i64 t.1) := fun o => ((below_alloc wr o).cell (p := ⟨g, _, none⟩) (show g < _ by omega)).trans k0
      have hops3 : ∀ o, (wr.alloc o).cell? ⟨a, 3, none⟩ = some (.int .i64 ((d.ops : Int) + 1)) := fun o => ((below_alloc wr o).cell (p := ⟨a, 3, none⟩) (show a < _ by omega)).trans (by simp [World.cell?, hblk'.out wr hbR.out])
      obtain ⟨at_, kd, pt⟩ := t
      simp only at k0 k1 k2
      have hti' := Lib.hid hti
      clear hti hup hg hg2 k0'
      have hRb : ∀ o, (wr.alloc o).heap[R]? = some (.cells #[.int .i64 0, .int .i64 0, .int .i64 0] 121) := fun o => ((below_alloc wr o).block R hRr).trans ((hb.out.block R hR1).trans hRn'.out)
      have hRf : ∀ o j, (wr.alloc o).frozen? ⟨R, j, none⟩ = false := fun o j => frozen_of_row _ R j _ _ (hRb o)
      have hR0c : ∀ o, (wr.alloc o).cell? ⟨R, 0, none⟩ = some (.int .i64 0) := fun o => by simp [World.cell?, hRb o]
      have hR1c : ∀ o, (wr.alloc o).cell? ⟨R, 1, none⟩ = some (.int .i64 0) := fun o => by simp [World.cell?, hRb o]
      have hR2c : ∀ o, (wr.alloc o).cell? ⟨R, 2, none⟩ = some (.int .i64 0) := fun o => by simp [World.cell?, hRb o]
      have hba : Below R w1 (wr.alloc (.cells #[.int .i64 at_, .int .i64 kd, .int .i64 pt] 121)) := hbR.out.alloc (by omega) _
      have hba' := Lib.hid hba
      clear hRb hba
      by_cases e1 : at_ = (d.ops : Int) + 1
      · have j1 : (at_ == (d.ops : Int) + 1) = true := by rw [beq_iff_eq]; exact e1
        have e1' := Lib.hid e1
        clear e1
        by_cases e2 : 1 ≤ kd
        · have j2 : decide (1 ≤ kd) = true := by simpa using e2
          by_cases e3 : kd ≤ 3
          · have j3 : decide (kd ≤ 3) = true := by simpa using e3
            have hh : hits (d.ops + 1) (at_, kd, pt) = true := by
              unfold hits
              simp [e1'.out, e2, e3]
            have hR' : R0 = some (kd, pt) := by rw [← hR0'.out]; exact hits_first hti'.out hno.out hh
            have hR'' := Lib.hid hR'
            clear hh hR'
            go_wp2_with fail
            go_big_quiet (fail)
            go_wp2_with fail
            have hTb : Tb ((wr.alloc (.cells #[.int .i64 at_, .int .i64 kd, .int .i64 pt] 121)).drewN nq) R 0 0 0 := (later_block hRr _ _).trans ((hb.out.block R hR1).trans hRn'.out)
            refine bodyPost_ret (res_tb rfl (tb_set hTb at_ kd pt) rfl rfl) rfl ?_
            refine ⟨hsw'.out.trans (below_set (below_set (below_set ((below_later hb.out _ _).mono hsR) (Nat.le_refl _) _) (Nat.le_refl _) _) (Nat.le_refl _) _), at_, kd, pt, true, rfl, ?_⟩
            rw [hR0'.out, hR''.out]
            exact ⟨rfl, rfl, rfl⟩
          · have j3 : decide (kd ≤ 3) = false := by simpa using e3
            have hh : hits (d.ops + 1) (at_, kd, pt) = false := by
              unfold hits
              simp [e3]
            have hn2 := Lib.hid (hits_next hti'.out hno.out hh)
            clear hh
            go_wp2_with fail
            go_big_quiet (fail)
            go_wp2_with fail
            go_roundw
            case rel => exact ⟨i + 1, by omega, by go_num, hn2, Lib.hid (below_later hb.out _ _)⟩
            case measure => simp [intOf]; omega
        · have j2 : decide (1 ≤ kd) = false := by simpa using e2
          have hh : hits (d.ops + 1) (at_, kd, pt) = false := by
            unfold hits
            simp [e2]
          have hn2 := Lib.hid (hits_next hti'.out hno.out hh)
          clear hh
          go_wp2_with fail
          go_big_quiet (fail)
          go_wp2_with fail
          go_roundw
          case rel => exact ⟨i + 1, by omega, by go_num, hn2, Lib.hid (below_later hb.out _ _)⟩
          case measure => simp [intOf]; omega
      · have j1 : (at_ == (d.ops : Int) + 1) = false := by rw [beq_eq_false_iff_ne]; exact e1
        have hh : hits (d.ops + 1) (at_, kd, pt) = false := by
          unfold hits
          simp [e1]
        have hn2 := Lib.hid (hits_next hti'.out hno.out hh)
        clear hh
        go_wp2_with fail
        go_big_quiet (fail)
        go_wp2_with fail
        go_roundw
        case rel => exact ⟨i + 1, by omega, by go_num, hn2, Lib.hid (below_later hb.out _ _)⟩
        case measure => simp [intOf]; omega
    · have i0 : decide ((i : Int) < (n : Int)) = false := by simp; omega
      have hRb := (hb.out.block R hR1).trans hRn'.out
      have hRf : ∀ j, wr.frozen? ⟨R, j, none⟩ = false := fun j => frozen_of_row _ R j _ _ hRb
      have hR0c : wr.cell? ⟨R, 0, none⟩ = some (.int .i64 0) := by simp [World.cell?, hRb]
      have hR1c : wr.cell? ⟨R, 1, none⟩ = some (.int .i64 0) := by simp [World.cell?, hRb]
      have hR2c : wr.cell? ⟨R, 2, none⟩ = some (.int .i64 0) := by simp [World.cell?, hRb]
      have hR' : R0 = none := by
        rw [← hR0'.out]
        unfold trouble
        rw [hno.out, List.drop_eq_nil_of_le (by rw [hn'.out]; omega)]
        rfl
      have hR'' := Lib.hid hR'
      have hTb : Hid (Tb wr R 0 0 0) := Lib.hid hRb
      clear hRb hR'
      go_wp2_with fail
      refine bodyPost_ret (res_tb rfl (tb_set hTb.out 0 0 0) rfl rfl) rfl ?_
      refine ⟨hsw'.out.trans (below_set (below_set (below_set hbR.out (Nat.le_refl _) _) (Nat.le_refl _) _) (Nat.le_refl _) _), 0, 0, 0, false, rfl, ?_⟩
      rw [hR0'.out, hR''.out]
end Go.Proofs.YtfdpnjebhllpkaaGreatDoor.Dk
end

section
namespace Go.Proofs.YtfdpnjebhllpkaaGreatDoor.Dk
open Go.RowKit

/-- Nothing but disks, their files and maps has turned. -/
def Fm (w w' : World) : Prop := ∀ (k : Nat) (cs : Array Value) (E : TypeId) (fr : Nat × Nat), w.heap[k]? = some (Obj.cells cs E fr) → E ≠ 132 → E ≠ 113 → w'.heap[k]? = some (Obj.cells cs E fr)
theorem Fm.refl (w : World) : Fm w w := fun _ _ _ _ h _ _ => h
theorem Fm.trans {w w1 w2 : World} (h : Fm w w1) (h2 : Fm w1 w2) : Fm w w2 := fun k cs E fr hk h3 h4 => h2 k cs E fr (h k cs E fr hk h3 h4) h3 h4
theorem Fm.below {w w' : World} (h : Below w.heap.size w w') : Fm w w' := fun k _ _ _ hk _ _ => (h.block k (Array.getElem?_eq_some_iff.1 hk).1).trans hk
theorem Fm.grown {w w' : World} {r : Nat} (hg : w.grownBy w' (some r)) (hr : ∀ cs E fr, w.heap[r]? = some (.cells cs E fr) → E = 132 ∨ E = 113) : Fm w w' := fun k cs E fr hk h3 h4 => by
  refine (hg.block k (Array.getElem?_eq_some_iff.1 hk).1 ?_).trans hk
  intro e
  injection e with e
  subst e
  rcases hr _ _ _ hk with h | h
  · exact h3 h
  · exact h4 h
theorem Fm.row {w w' : World} (h : Fm w w') {B E s n : Nat} {v : Value} {xs : List Value} (ho : w.ownsRow B E s v n xs) (h3 : E ≠ 132) (h4 : E ≠ 113) : w'.ownsRow B E s v n xs := by
  obtain ⟨h1, h2⟩ := ho
  refine ⟨h1, h2.imp id ?_⟩
  rintro ⟨g, cap, cur, hv, hB, hh, hr⟩
  exact ⟨g, cap, cur, hv, hB, h g _ _ _ hh h3 h4, hr⟩
theorem Fm.owb {w w' : World} (h : Fm w w') {B : Nat} {v : Value} {l : List UInt8} (ho : OwB w B 5 v l) : OwB w' B 5 v l := h.row ho (by decide) (by decide)

/-- The disk is now so. -/
def St (B a mb : Nat) (tv : Value) (dd : D) (w w' : World) : Prop := Below B w w' ∧ Fm w w' ∧ ∃ L F, Da w' B a mb L F tv dd
theorem St.on {B a mb : Nat} {tv : Value} {dd : D} {w0 w w' : World} (h : St B a mb tv dd w w') (hb : Below B w0 w) (hf : Fm w0 w) : St B a mb tv dd w0 w' := ⟨hb.trans h.1, hf.trans h.2.1, h.2.2⟩

/-- What an operation gives, of its refusal, and of the disks behind it. -/
def opX (d : D) (code : Int) (dP : Int → D) (dD : D) : Int × D :=
  if d.down then (45, d) else
  if code ≠ 0 then (code, { d with ops := d.ops + 1 }) else
  match trouble d.tr (d.ops + 1) with
  | none => (0, dD)
  | some (tk, p) => if tk = 3 then (45, { dP p with down := true }) else (39 + tk, dP p)

def OpP (B a mb : Nat) (tv : Value) (X : Int × D) (w : World) (e : Ending) (w' : World) : Prop := e = .returned (.int .i64 X.1) ∧ St B a mb tv X.2 w w'

theorem trouble_kd {tr : List Tr} {n : Nat} {k p : Int} (h : trouble tr n = some (k, p)) : 1 ≤ k ∧ k ≤ 3 := by
  unfold trouble at h
  obtain ⟨t, h1, h2⟩ := Option.map_eq_some_iff.1 h
  have := List.find?_some h1
  unfold hits at this
  rw [h2] at this
  simp at this
  exact this.2

set_option maxHeartbeats 1000000 in
set_option maxRecDepth 100000 in
theorem operate_any (w : World) (B a mb : Nat) (L : Al Nat) (F : Nat → Fl) (tv : Value) (d : D) (h : Da w B a mb L F tv d) (hops : d.ops ≤ 1000000) (htl : d.tr.length ≤ 1000000)
    (nR nP nD : FuncId) (capR capP capD : Array Value) (code : Int) (dP : Int → D) (dD : D)
    (eR : ∀ args w, (callFunc nR args).run Tryz.prog w = .ok (.enter nR args) w) (eP : ∀ args w, (callFunc nP args).run Tryz.prog w = .ok (.enter nP args) w) (eD : ∀ args w, (callFunc nD args).run Tryz.prog w = .ok (.enter nD args) w)
    (hR : ∀ w1, Below w.heap.size (w.setCell ⟨a, 3, none⟩ (.int .i64 ((d.ops + 1 : Nat)))) w1 → Calls Tryz.prog nR capR w1 fun e w2 => e = .returned (.int .i64 code) ∧ Below w1.heap.size w1 w2)
    (hP : ∀ w1 p, Below w.heap.size (w.setCell ⟨a, 3, none⟩ (.int .i64 ((d.ops + 1 : Nat)))) w1 → code = 0 → Calls Tryz.prog nP (#[.int .i64 p] ++ capP) w1 fun e w2 => e = .returned (.tuple #[]) ∧ St B a mb tv (dP p) w1 w2)
    (hD : ∀ w1, Below w.heap.size (w.setCell ⟨a, 3, none⟩ (.int .i64 ((d.ops + 1 : Nat)))) w1 → code = 0 → Calls Tryz.prog nD capD w1 fun e w2 => e = .returned (.tuple #[]) ∧ St B a mb tv dD w1 w2) :
    Calls Tryz.prog 127 #[.pointer (some ⟨a, 0, none⟩), .func (.func nR) #[] capR, .func (.func nP) #[] capP, .func (.func nD) #[] capD] w (OpP B a mb tv (opX d code dP dD) w) := by
  have c4 : w.cell? ⟨a, 4, none⟩ = some (.bool d.down) := by simp [World.cell?, h.blk]
  have hB : B ≤ w.heap.size := Nat.le_trans h.base.1 (Nat.le_of_lt h.alt)
  cases hdn : d.down with
  | true =>
    rw [hdn] at c4
    have hX : opX d code dP dD = (45, d) := by unfold opX; rw [hdn]; rfl
    rw [hX]
    have h' := Lib.hid h
    clear h hX hdn hR hP hD
    go_enter Tryz.func127, Tryz.ntmps127
    go_wp2_with fail
    go_ret
    exact ⟨rfl, Below.refl _ _, Fm.refl _, L, F, h'.out⟩
  | false =>
    rw [hdn] at c4
    have ht := trouble_any w B a mb L F tv d h hops htl
    obtain ⟨hD2, hb2⟩ := h.setOps (d.ops + 1)
    have halt := h.alt
    obtain ⟨W, hW⟩ : ∃ W, w.setCell ⟨a, 3, none⟩ (.int .i64 ((d.ops + 1 : Nat))) = W := ⟨_, rfl⟩
    have hWs : W.heap.size = w.heap.size := by rw [← hW]; exact set_size _ _ _
    rw [hW] at ht hD2 hb2 hR hP hD
    have hX : opX d code dP dD = if code ≠ 0 then (code, { d with ops := d.ops + 1 }) else
      match trouble d.tr (d.ops + 1) with
      | none => (0, dD)
      | some (tk, p) => if tk = 3 then (45, { dP p with down := true }) else (39 + tk, dP p) := by
        unfold opX
        rw [hdn]
        rfl
    obtain ⟨X, hXe⟩ : ∃ X, opX d code dP dD = X := ⟨_, rfl⟩
    rw [hXe] at hX ⊢
    have hX' := Lib.hid hX
    have hR' := Lib.hid hR
    have hP' := Lib.hid hP
    have hD' := Lib.hid hD
    have hD2' := Lib.hid hD2
    have hb2' := Lib.hid hb2
    have hWs' := Lib.hid hWs
    have hWe : Hid (w.setCell ⟨a, 3, none⟩ (.int .i64 ((d.ops + 1 : Nat))) = W) := Lib.hid hW
    have hAfm : Hid (∀ cs E fr, w.heap[a]? = some (.cells cs E fr) → E = 132 ∨ E = 113) := Lib.hid (fun cs E fr he => by rw [h.blk] at he; injection he with he; injection he with _ he _; exact .inr he.symm)
    have heR := Lib.hid eR
    have heP := Lib.hid eP
    have heD := Lib.hid eD
    clear hX hXe hR hP hD hD2 hb2 hW hWs h hdn eR eP eD
    go_enter Tryz.func127, Tryz.ntmps127
    go_wp2_with fail
    refine ht.mono ?_
    rintro e w1 ⟨hb1, at_, kd, pt, bef, rfl, hm⟩
    have hb1' := Lib.hid hb1
    have hm' := Lib.hid hm
    have eR := heR.out
    clear ht hb1 hm c4
    go_wp2_with fail
    have hN : w.heap.size ≤ w1.heap.size := by have := hb1'.out.size; have := hWs'.out; omega
    have hba := Lib.hid (hb1'.out.trans ((below_alloc w1 (.cells #[.int .i64 at_, .int .i64 kd, .int .i64 pt] 121)).mono hN))
    have hnew := heap_alloc_new w1 (.cells #[.int .i64 at_, .int .i64 kd, .int .i64 pt] 121)
    obtain ⟨T, hT⟩ : ∃ T, w1.heap.size = T := ⟨_, rfl⟩
    rw [hT] at hnew hN ⊢
    obtain ⟨wa, hwa⟩ : ∃ wa, w1.alloc (.cells #[.int .i64 at_, .int .i64 kd, .int .i64 pt] 121) = wa := ⟨_, rfl⟩
    rw [hwa] at hba hnew ⊢
    have hTs : T < wa.heap.size := (Array.getElem?_eq_some_iff.1 hnew).1
    have hnew' := Lib.hid hnew
    clear hT hwa hnew
    refine (hR'.out wa hba.out).mono ?_
    rintro e w2 ⟨rfl, hb2⟩
    have hb2'' := Lib.hid (hba.out.trans (hb2.mono (by omega)))
    have hT2 := Lib.hid ((hb2.block T hTs).trans hnew'.out)
    have hfm1 : Fm w W := by rw [← hWe.out]; exact Fm.grown (grown_set w ⟨a, 3, none⟩ _) hAfm.out
    have hfm0 : Hid (Fm w w2) := Lib.hid (hfm1.trans (Fm.below (by rw [hWs'.out]; exact hb2''.out)))
    clear hfm1
    have hbw2 : Hid (Below B w w2) := Lib.hid (hb2'.out.trans (hb2''.out.mono hB))
    clear hb2 eR
    by_cases hc : code = 0
    · have i0 : (code != 0) = false := by rw [bne_eq_false_iff_eq]; exact hc
      have hc' := Lib.hid hc
      have hX2 : Hid (X = match trouble d.tr (d.ops + 1) with
        | none => (0, dD)
        | some (tk, p) => if tk = 3 then (45, { dP p with down := true }) else (39 + tk, dP p)) := Lib.hid (by rw [hX'.out, if_neg (by rw [hc]; simp)])
      clear hc
      cases htr : trouble d.tr (d.ops + 1) with
      | none =>
        rw [htr] at hm' hX2
        obtain rfl : bef = false := hm'.out
        have hX3 : Hid (X = (0, dD)) := Lib.hid hX2.out
        have eD := heD.out
        clear htr hm' hX2 hX'
        go_wp2_with fail
        refine (hD'.out w2 hb2''.out hc'.out).mono ?_
        rintro e w3 ⟨rfl, hst⟩
        have hst' := Lib.hid (hst.on hbw2.out hfm0.out)
        clear hst eD
        go_wp2_with fail
        go_ret
        rw [hX3.out]
        exact ⟨rfl, hst'.out⟩
      | some z =>
        obtain ⟨tk, p⟩ := z
        have hk := trouble_kd htr
        rw [htr] at hm' hX2
        obtain ⟨rfl, rfl, rfl⟩ : bef = true ∧ kd = tk ∧ pt = p := hm'.out
        have hX3 : Hid (X = if kd = 3 then (45, { dP pt with down := true }) else (39 + kd, dP pt)) := Lib.hid hX2.out
        have eP := heP.out
        have k2 : w2.cell? ⟨T, 2, none⟩ = some (.int .i64 pt) := by simp [World.cell?, hT2.out]
        clear htr hm' hX2 hX'
        go_wp2_with fail
        refine (hP'.out w2 pt hb2''.out hc'.out).mono ?_
        rintro e w3 ⟨rfl, hst⟩
        have hT3 := Lib.hid (hst.2.1 T _ _ _ hT2.out (by decide) (by decide))
        have hst' := Lib.hid (hst.on hbw2.out hfm0.out)
        have k1 : w3.cell? ⟨T, 1, none⟩ = some (.int .i64 kd) := by simp [World.cell?, hT3.out]
        clear hst eP k2
        by_cases h1 : kd = 1
        · have j1 : (kd == 1) = true := by rw [beq_iff_eq]; exact h1
          have hX4 : Hid (X = (40, dP pt)) := Lib.hid (by rw [hX3.out, if_neg (by omega), h1]; rfl)
          clear h1
          go_wp2_with fail
          go_ret
          rw [hX4.out]
          exact ⟨rfl, hst'.out⟩
        · have j1 : (kd == 1) = false := by rw [beq_eq_false_iff_ne]; exact h1
          by_cases h2 : kd = 2
          · have j2 : (kd == 2) = true := by rw [beq_iff_eq]; exact h2
            have hX4 : Hid (X = (41, dP pt)) := Lib.hid (by rw [hX3.out, if_neg (by omega), h2]; rfl)
            clear h1 h2
            go_wp2_with fail
            go_ret
            rw [hX4.out]
            exact ⟨rfl, hst'.out⟩
          · have j2 : (kd == 2) = false := by rw [beq_eq_false_iff_ne]; exact h2
            have hX4 : Hid (X = (45, { dP pt with down := true })) := Lib.hid (by rw [hX3.out, if_pos (by omega)])
            obtain ⟨g1, g2, L3, F3, hD3⟩ := hst'.out
            have c4 : w3.cell? ⟨a, 4, none⟩ = some (.bool (dP pt).down) := by simp [World.cell?, hD3.blk]
            have f4 : w3.frozen? ⟨a, 4, none⟩ = false := frozen_of_row w3 a 4 _ _ hD3.blk
            obtain ⟨hD4, hb4⟩ := hD3.setDown true
            have hfa : Fm w3 (w3.setCell ⟨a, 4, none⟩ (.bool true)) := Fm.grown (grown_set w3 ⟨a, 4, none⟩ _) (fun cs E fr he => by rw [hD3.blk] at he; injection he with he; injection he with _ he _; exact .inr he.symm)
            have hfin : Hid (St B a mb tv { dP pt with down := true } w (w3.setCell ⟨a, 4, none⟩ (.bool true))) := Lib.hid ⟨g1.trans hb4, g2.trans hfa, L3, F3, hD4⟩
            clear h1 h2 g1 g2 hD3 hD4 hb4 hfa
            go_wp2_with fail
            go_ret
            rw [hX4.out]
            exact ⟨rfl, hfin.out⟩
    · have i0 : (code != 0) = true := by rw [bne_iff_ne]; exact hc
      have hX2 : Hid (X = (code, { d with ops := d.ops + 1 })) := Lib.hid (by rw [hX'.out, if_pos hc])
      clear hc hX'
      go_wp2_with fail
      go_ret
      rw [hX2.out]
      exact ⟨rfl, hbw2.out, hfm0.out, L, F, hD2'.out.below (by rw [hWs'.out]; exact hb2''.out)⟩
end Go.Proofs.YtfdpnjebhllpkaaGreatDoor.Dk
end
