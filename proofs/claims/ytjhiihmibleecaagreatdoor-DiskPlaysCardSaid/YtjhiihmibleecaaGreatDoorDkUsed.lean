/- Used. -/
import Derived.Test.YtjhiihmibleecaaGreatDoorDkHeap
import Derived.Shelf.Lay
import Derived.Ground.NamesProg
import Derived.Shelf.Strings.SlTrimAscii
import Derived.Shelf.Bytes.SlClone
import Derived.Ground.SlbCloneProg
import Derived.BigQuiet
import Derived.BigRegion
import Derived.Deep.QuietTactic
import Derived.Deep.LoopGhost
import Derived.WalkLawsBesides
section
namespace Go.Proofs
open Go.Shelf Go.RowKit

shelf_lay Lays.n160 Nm 160 at Tryz as Tryz.lays160
shelf_lay SlLaysK.n4 Slk 4 at Tryz as Tryz.laysClone

end Go.Proofs
namespace Go.Proofs.YtjhiihmibleecaaGreatDoor.Dk
open Go.RowKit Go.Shelf

/-! ### may -/
def lets : List UInt8 := [97, 98, 99, 100, 101, 102, 103, 104, 105, 106, 107, 108, 109, 110, 111, 112, 113, 114, 115, 116, 117, 118, 119, 120, 121, 122, 48, 49, 50, 51, 52, 53, 54, 55, 56, 57, 46, 45]
theorem lets_letter : ∀ c : UInt8, lets.contains c = letter c := by
  have : ((List.range 256).all fun n => lets.contains (UInt8.ofNat n) == letter (UInt8.ofNat n)) = true := by kernel_rfl
  intro c
  have h := List.all_eq_true.1 this c.toNat (List.mem_range.2 c.toNat_lt)
  simpa using h
theorem dropWhile_nil {p : UInt8 → Bool} {l : List UInt8} : l.dropWhile p = [] ↔ l.all p = true := by
  induction l with
  | nil => simp
  | cons c l ih =>
    rw [List.dropWhile_cons, List.all_cons]
    cases h : p c
    · simp
    · simpa using ih
theorem trim_nil (l : List UInt8) : Lib.trimS l lets = [] ↔ l.all letter = true := by
  have e : (fun c => lets.contains c) = letter := funext lets_letter
  unfold Lib.trimS Lib.trimLeftS Lib.trimRightS
  rw [e, dropWhile_nil, List.all_reverse]
  constructor
  · intro h
    have h2 : (l.reverse.dropWhile letter) = [] := by
      cases hd : l.reverse.dropWhile letter with
      | nil => rfl
      | cons c r =>
        rw [hd] at h
        have h3 : letter c = true := by
          simp only [List.all_cons, Bool.and_eq_true] at h
          exact h.1
        have h4 := List.head?_dropWhile_not letter l.reverse
        rw [hd] at h4
        simp [h3] at h4
    rw [dropWhile_nil, List.all_reverse] at h2
    exact h2
  · intro h
    have h2 : l.reverse.dropWhile letter = [] := by rw [dropWhile_nil, List.all_reverse]; exact h
    rw [h2]
    rfl

theorem trim_any (s : ByteArray) (hs : s.size ≤ 9223372036854775807) (w : World) :
    Calls Tryz.prog 52 #[.string s, .string (strOf lets)] w fun e w' => e = .returned (.string (strOf (Lib.trimS s.data.toList lets))) ∧ Below w.heap.size w w' :=
  Any.strings_Trim_laid Tryz.lays160 (by kernel_rfl) s (strOf lets) w hs (by decide) (ascii_of_all (by kernel_rfl))

theorem may_cut (l : List UInt8) : may l = (decide (l ≠ []) && (decide (l.length ≤ 40) && decide (Lib.trimS l lets = []))) := by
  unfold may
  have : decide (Lib.trimS l lets = []) = l.all letter := by
    rw [Bool.eq_iff_iff, decide_eq_true_eq, trim_nil]
  rw [this]
  cases l <;> simp

set_option maxRecDepth 100000 in
theorem may_any (s : ByteArray) (hs : s.size ≤ 9223372036854775807) (w : World) :
    Calls Tryz.prog 26 #[.string s] w fun e w' => e = .returned (.bool (may s.data.toList)) ∧ Below w.heap.size w w' := by
  have hsz : s.size = s.data.toList.length := by rw [Array.length_toList]; rfl
  obtain ⟨R, hR⟩ : ∃ R, may s.data.toList = R := ⟨_, rfl⟩
  rw [hR]
  have hR2 := hR
  rw [may_cut] at hR2
  have hR' := Lib.hid hR2
  clear hR hR2
  have hempty : s.toList.isEmpty = s.data.toList.isEmpty := by rw [Lib.toList_data]
  by_cases h0 : s.data.toList = []
  · have e0 : s.toList.isEmpty = true := by rw [hempty, h0]; rfl
    have e1 : s.toList = [] := by simpa using e0
    have hr : R = false := by rw [← hR'.out, h0]; rfl
    subst hr
    clear h0 hempty
    go_enter Tryz.func26, Tryz.ntmps26
    go_wp2_with fail
    go_ret
    exact ⟨rfl, Below.refl _ _⟩
  · have e0 : s.toList.isEmpty = false := by rw [hempty]; simpa using h0
    by_cases h40 : s.size ≤ 40
    · have i0 : decide ((s.size : Int) ≤ 40) = true := by simp; omega
      have hr : R = decide (Lib.trimS s.data.toList lets = []) := by rw [← hR'.out, ← hsz]; simp [h0, h40]
      have hr' := Lib.hid hr
      clear h0 hempty hR' hr hsz
      go_enter Tryz.func26, Tryz.ntmps26
      go_wp2_with fail
      refine (trim_any s hs w).mono ?_
      rintro e w1 ⟨rfl, hb1⟩
      have hb1' := Lib.hid hb1
      have he := strOf_empty (Lib.trimS s.data.toList lets)
      obtain ⟨T, hT⟩ : ∃ T, Lib.trimS s.data.toList lets = T := ⟨_, rfl⟩
      rw [hT] at hr' he ⊢
      clear hb1 hT
      by_cases hn : T = []
      · have hr := hr'.out
        rw [hn] at hr he
        simp only [decide_true] at hr
        subst hr
        have e2 : (strOf ([] : List UInt8)).toList = [] := by simpa using he
        rw [hn]
        go_wp2_with fail
        go_ret
        exact ⟨rfl, hb1'.out⟩
      · have hr := hr'.out
        rw [show decide (T = []) = false by simpa using hn] at hr
        subst hr
        have e2 : (strOf T).toList.isEmpty = false := by rw [he]; simpa using hn
        clear hn he hr'
        go_wp2_with fail
        go_ret
        exact ⟨rfl, hb1'.out⟩
    · have i0 : decide ((s.size : Int) ≤ 40) = false := by simp; omega
      have hr : R = false := by rw [← hR'.out, ← hsz]; simp [h40]
      subst hr
      clear h0 hempty hR' hsz
      go_enter Tryz.func26, Tryz.ntmps26
      go_wp2_with fail
      go_ret
      exact ⟨rfl, Below.refl _ _⟩

/-! ### bytes.Clone -/
theorem clone_any (A : Option Addr) (n c : Nat) (l : List UInt8) (w : World) (h : Bs w A n c l) (hz : n ≤ 140737488355328) :
    Calls Tryz.prog 27 #[.slice A n c] w fun e w' => ∃ v, e = .returned v ∧ OwB w' w.heap.size 5 v l ∧ Below w.heap.size w w' := by
  have hl := h.len
  rcases A with _ | a
  · obtain ⟨rfl, rfl⟩ := Rd.nil h rfl
    have : l = [] := List.eq_nil_of_length_eq_zero hl
    subst this
    refine (Any.bytes_Clone_nil Tryz.laysClone 0 0 w).mono ?_
    rintro e w1 ⟨rfl, rfl⟩
    exact ⟨_, rfl, OwB.nil _ _ _, Below.refl _ _⟩
  · refine (Any.bytes_Clone_at Tryz.laysClone a n c (l.map fun x => (x.toNat : Int)) w (by simpa using hl) hz ?_).mono ?_
    · intro i hi
      obtain ⟨b, off, he, hb, hc⟩ := Rd.cell h (by omega)
      injection he with he
      subst he
      have hx : l[i]? = some l[i] := List.getElem?_eq_getElem (by omega)
      have := hc i (.int .u8 (l[i].toNat : Int)) (by simp [bv, hx])
      have e : (l.map fun x => (x.toNat : Int)).getD i 0 = (l[i].toNat : Int) := by simp [List.getD, hx]
      rw [e]
      unfold Addr.add
      split
      · rename_i h0; subst h0; simpa using this
      · exact this
    · rintro e w1 ⟨v, rfl, h1, _, h2⟩
      refine ⟨v, rfl, ?_, h2⟩
      have e : (l.map fun x => (x.toNat : Int)).map (Value.int .u8) = bv l := by simp [bv]
      rw [e] at h1
      unfold OwB
      rw [hl]
      exact h1

theorem OwB.slice {w : World} {B E : Nat} {v : Value} {l : List UInt8} (h : OwB w B E v l) : ∃ A c, v = .slice A l.length c ∧ Bs w A l.length c l := by
  obtain ⟨A, c, rfl⟩ := ownsRow_form h
  exact ⟨A, c, rfl, OwB.bs h⟩

/-! ### Read -/
/-- A fresh slice of bytes is handed back, and a code. -/
def ReadP (B : Nat) (d : D) (nm : Name) (w : World) (e : Ending) (w' : World) : Prop :=
  Below w.heap.size w w' ∧ ∃ v l, e = .returned (.tuple #[v, .int .i64 (if (Dk.get d.fs nm).isSome then 0 else 42)]) ∧ OwB w' w.heap.size 5 v l ∧ l = ((Dk.get d.fs nm).map (·.data)).getD []

set_option maxRecDepth 100000 in
theorem Read_any (w : World) (B a mb : Nat) (L : Al Nat) (F : Nat → Fl) (tv : Value) (d : D) (h : Da w B a mb L F tv d) (s : ByteArray) (hs : s.size ≤ 1000000) (hz : ∀ p ∈ d.fs, p.2.data.length ≤ 1000000) :
    Calls Tryz.prog 17 #[.pointer (some ⟨a, 0, none⟩), .string s] w (ReadP B d s.data.toList w) := by
  have hlk := h.look s (by unfold maxLen; omega)
  have c1 : w.cell? ⟨a, 1, none⟩ = some (.map (some mb)) := by simp [World.cell?, h.blk]
  have hg := h.get s.data.toList
  cases hgl : Dk.get L s.data.toList with
  | none =>
    rw [hgl] at hlk hg
    simp only [Option.map_none] at hlk hg
    have hg' := Lib.hid hg
    clear hg hgl
    go_enter Tryz.func17, Tryz.ntmps17
    go_wp2_with fail
    go_ret2
    refine ⟨Below.refl _ _, _, [], ?_, OwB.nil _ _ _, by rw [hg'.out]; rfl⟩
    rw [hg'.out]
    rfl
  | some b =>
    rw [hgl] at hlk hg
    simp only [Option.map_some] at hlk hg
    have hmem := get_mem hgl
    obtain ⟨hB, v, hb1, hb2⟩ := h.files _ hmem
    have hm2 := get_mem hg
    have hle := hz _ hm2
    simp only at hb1 hb2 hle
    obtain ⟨A, c, rfl, hbs⟩ := OwB.slice hb2
    have k0 : w.cell? ⟨b, 0, none⟩ = some (.slice A (F b).data.length c) := by simp [World.cell?, hb1]
    have hg' := Lib.hid hg
    obtain ⟨n, hn⟩ : ∃ n, (F b).data.length = n := ⟨_, rfl⟩
    rw [hn] at k0 hbs hle
    have hbs' := Lib.hid hbs
    clear hg hgl hb1 hb2 hbs hm2 hmem hn
    go_enter Tryz.func17, Tryz.ntmps17
    go_wp2_with fail
    refine (clone_any A n c (F b).data w hbs'.out (by omega)).mono ?_
    rintro e w1 ⟨v, rfl, ho, hb⟩
    have ho' := Lib.hid ho
    have hb' := Lib.hid hb
    clear ho hb
    go_wp2_with fail
    go_ret2
    refine ⟨hb'.out, v, (F b).data, ?_, ho'.out, by rw [hg'.out]; rfl⟩
    rw [hg'.out]
    rfl
end Go.Proofs.YtjhiihmibleecaaGreatDoor.Dk
end

section
namespace Go.Proofs.YtjhiihmibleecaaGreatDoor.Dk
open Go.RowKit

/-- The bytes of the files that are left. -/
def sumLeft (F : Nat → Fl) (left : Lit → Bool) (l : Al Nat) : Nat := (l.map fun p => if left (.string p.1) then (F p.2).data.length else 0).sum
theorem sumLeft_cons (F : Nat → Fl) (left : Lit → Bool) (p : Name × Nat) (l : Al Nat) : sumLeft F left (p :: l) = (if left (.string p.1) then (F p.2).data.length else 0) + sumLeft F left l := by simp [sumLeft]
theorem sumLeft_none {F : Nat → Fl} {left : Lit → Bool} (h : ∀ k, left k = false) (l : Al Nat) : sumLeft F left l = 0 := by
  induction l with
  | nil => rfl
  | cons p l ih => rw [sumLeft_cons, ih, h]; rfl
theorem sumLeft_off {F : Nat → Fl} {left : Lit → Bool} {nm : Name} {l : Al Nat} (h : ∀ p ∈ l, p.1 ≠ nm) : sumLeft F (fun z => left z && !z.sameKey (.string nm)) l = sumLeft F left l := by
  unfold sumLeft
  congr 1
  apply List.map_congr_left
  intro p hp
  have : ((Lit.string p.1).sameKey (.string nm)) = false := by simpa [Lit.sameKey] using h p hp
  simp [this]
theorem sumLeft_step {F : Nat → Fl} {left : Lit → Bool} {nm : Name} {b : Nat} {l : Al Nat} (hU : Up l) (hm : (nm, b) ∈ l) (hl : left (.string nm) = true) :
    sumLeft F left l = (F b).data.length + sumLeft F (fun z => left z && !z.sameKey (.string nm)) l := by
  induction l with
  | nil => cases hm
  | cons p l ih =>
    rw [sumLeft_cons, sumLeft_cons]
    rcases List.mem_cons.1 hm with e | hm'
    · subst e
      rw [sumLeft_off fun q hq => (before_ne (hU.head hq)).symm, hl]
      simp [Lit.sameKey]
    · have hne : p.1 ≠ nm := before_ne (hU.head hm')
      rw [ih hU.tail hm']
      have : ((Lit.string p.1).sameKey (.string nm)) = false := by simpa [Lit.sameKey] using hne
      simp only [this, Bool.not_false, Bool.and_true]
      omega
theorem sumLeft_all {F : Nat → Fl} (L : Al Nat) : sumLeft F (Maps.has (mp L)) L = used (L.map fun p => (p.1, F p.2)) := by
  have : ∀ p ∈ L, Maps.has (mp L) (.string p.1) = true := fun p hp => by
    unfold mp
    rw [Maps.has_eq, List.any_eq_true]
    exact ⟨_, List.mem_map.2 ⟨p, hp, rfl⟩, by simp [Lit.sameKey]⟩
  unfold sumLeft used
  rw [List.map_map]
  congr 1
  apply List.map_congr_left
  intro p hp
  rw [this p hp]
  rfl
theorem sumLeft_le {F : Nat → Fl} {left : Lit → Bool} (L : Al Nat) : sumLeft F left L ≤ used (L.map fun p => (p.1, F p.2)) := by
  induction L with
  | nil => exact Nat.le_refl _
  | cons p L ih =>
    rw [sumLeft_cons, List.map_cons, used_cons]
    simp only
    split <;> omega

theorem below_grown_none {w w' : World} (h : w.grownBy w' none) : Below w.heap.size w w' := ⟨h.os, h.tape, h.output, h.size, fun k hk => h.block k hk (by simp)⟩
theorem ptr_inv {v : Value} {y : DataW Unit × List MemPlace} (h : ptrElem v = some y) : ∃ c : Option Addr, v = .pointer c := by
  unfold ptrElem at h
  split at h
  · exact ⟨_, rfl⟩
  · exact ⟨_, rfl⟩
  · cases h

theorem str_key_inv {key : Value} {kl : Lit} (h : keyOf Tryz.prog 9 key = some kl) : ∃ x : ByteArray, key = .string x := by
  obtain ⟨s, h1, _⟩ := WideMaps.string_of_keyOf Tryz.underlying9 h
  exact ⟨s, h1⟩

set_option maxHeartbeats 1000000 in
set_option maxRecDepth 100000 in
theorem Used_any (w : World) (B a mb : Nat) (L : Al Nat) (F : Nat → Fl) (tv : Value) (d : D) (h : Da w B a mb L F tv d) (hu : used d.fs ≤ 1000000000) :
    Calls Tryz.prog 13 #[.pointer (some ⟨a, 0, none⟩)] w fun e w' => e = .returned (.int .i64 (used d.fs : Nat)) ∧ Below w.heap.size w w' := by
  have c1 : w.cell? ⟨a, 1, none⟩ = some (.map (some mb)) := by simp [World.cell?, h.blk]
  have hown := h.own
  have htot := sumLeft_all (F := F) L
  rw [← h.fs] at htot
  have hle : ∀ left, sumLeft F left L ≤ used d.fs := fun left => by rw [h.fs]; exact sumLeft_le L
  obtain ⟨U, hU⟩ : ∃ U, used d.fs = U := ⟨_, rfl⟩
  rw [hU] at htot hu hle ⊢
  have htot' := Lib.hid htot
  have hle' := Lib.hid hle
  have h' := Lib.hid h
  have hown' := Lib.hid hown
  clear htot hle h hown hU
  go_enter Tryz.func13, Tryz.ntmps13
  go_wp2_with (at_range; apply stop_here)
  refine Stop.go (wpList_range_own _ rfl _ 59 rfl 9 58 law_str Tryz.underlying59 ptrElem mb L.length (mp L) rfl hown'.out ?_)
  intro w1 hr1 hg1 hs1
  have hb1 := Lib.hid (below_grown_none hg1)
  have hr1' := Lib.hid hr1
  have hs1' := Lib.hid hs1
  clear hr1 hg1 hs1 c1
  go_wp2_with fail
  go_frame
  go_loopw [3] (fun v wr => ∃ (left : Lit → Bool) (cnt s : Nat), v = .int .i64 (s : Nat) ∧ Hid (wr.ranges Tryz.prog 9 ptrElem mb w.heap.size L.length (mp L) left cnt) ∧ Hid (s + sumLeft F left L = U) ∧ Hid (Below w.heap.size w wr)) (fun _ wr => wr.rangeLeft mb w.heap.size)
  case atStart => exact ⟨_, _, 0, rfl, hr1', Lib.hid (by rw [htot'.out]; omega), hb1⟩
  case round =>
    obtain ⟨left, cnt, s, rfl, hrg, hsum, hb⟩ := hrel
    have hcnt := hrg.out.left_eq
    go_wp2_with (at_next; apply stop_here)
    refine Stop.go (wpList_next_ranges _ rfl _ rfl 9 law_str ptrElem Value.string Value.pointer (fun key kl hk => str_key_inv hk) (fun v y hy => ptr_inv hy) mb w.heap.size L.length (mp L) left cnt rfl hrg.out ?_ ?_)
    · intro h0 hl
      have hU : s = U := by have := hsum.out; rw [sumLeft_none hl] at this; exact this
      go_wp2_with fail
      go_ret
      exact ⟨rfl, hb.out⟩
    · intro x c kl y w2 cnt2 hkey hlk hR hat hrg2 hlt hg2 hs2 hen
      obtain ⟨x', hx1, hx2, _⟩ := WideMaps.string_of_keyOf Tryz.underlying9 hkey
      injection hx1 with hx1
      subst hx1
      subst hx2
      have hb2 := Lib.hid (hb.out.trans (below_row hg2 (Nat.le_refl _) hb.out.size))
      cases hgl : get L x.data.toList with
      | none =>
        have e1 := hat .nil
        have e2 := hat (.lit (.bool true))
        rw [mp_at, hgl] at e1 e2
        simp only at e1 e2
        rw [← e1] at e2
        cases e2
      | some b =>
        have e1 := hat .nil
        rw [mp_at, hgl] at e1
        simp only at e1
        obtain ⟨y1, y2⟩ := y
        simp only at e1
        subst e1
        have hc := ptr_blk hR
        injection hc with hc
        subst hc
        have hmem := get_mem hgl
        obtain ⟨hB, v, k1, k2⟩ := (h'.out.below hb2.out).files _ hmem
        obtain ⟨A, c, rfl, hbs⟩ := OwB.slice k2
        have k0 : w2.cell? ⟨b, 0, none⟩ = some (.slice A (F b).data.length c) := by simp [World.cell?, k1]
        have hst := sumLeft_step (F := F) h'.out.up hmem hlk
        have hsu : s + (F b).data.length + sumLeft F (fun z => left z && !z.sameKey (.string x.data.toList)) L = U := by have := hsum.out; omega
        obtain ⟨n, hn⟩ : ∃ n, (F b).data.length = n := ⟨_, rfl⟩
        rw [hn] at k0 hsu
        have hsn : s + n ≤ U := by omega
        have hsu' := Lib.hid hsu
        have hrg2' := Lib.hid hrg2
        have hcnt2 := hrg2.left_eq
        have hlt' := Lib.hid hlt
        have hcnt' := Lib.hid hcnt
        have hcnt2' := Lib.hid hcnt2
        clear hsu hrg2 hst hmem hbs k1 k2 hn hat hR hkey hlk hg2 hs2 hlt hcnt hcnt2 hgl
        go_wp2_with fail
        go_roundw
        case rel => exact ⟨_, cnt2, s + n, by go_num, hrg2', hsu', hb2⟩
        case measure => rw [hcnt'.out, hcnt2'.out]; exact hlt'.out
end Go.Proofs.YtjhiihmibleecaaGreatDoor.Dk
end
