/- Append's part and whole; Cut. -/
import Derived.Test.YtfdpnjebhllpkaaGreatDoorMMnDel
import Derived.Shelf.Lay
import Derived.Ground.NamesProg
import Derived.Shelf.Strings.SlTrimAscii
import Derived.Shelf.Bytes.SlClone
import Derived.Ground.SlbCloneProg
import Derived.BigQuiet
import Derived.BigRegion
import Derived.Deep.QuietTactic
import Derived.Deep.LoopGhost
import Derived.WalkLawsBesides
import Derived.Laws.ResultCell
import Derived.Laws.Rows
import Derived.Deep.Heap
import Derived.StillTailTactics
import Derived.OwnWalk
import Derived.Deep.DeepCutAuto
import Derived.Deep.AppendLies
import Derived.Lib.AppendZeros
import Derived.Deep.RegionWith
import Derived.Deep.RegionHeld3
section
namespace Go.Proofs
open Go.Shelf Go.RowKit

shelf_lay Lays.n160 Nm 160 at Tryz as Tryz.lays160
shelf_lay SlLaysK.n4 Slk 4 at Tryz as Tryz.laysClone

end Go.Proofs
namespace Go.Proofs.YtfdpnjebhllpkaaGreatDoor.Dk
open Go.RowKit Go.Shelf

/-! ### may -/
def lets : List UInt8 := [97, 98, 99, 100, 101, 102, 103, 104, 105, 106, 107, 108, 109, 110, 111, 112, 113, 114, 115, 116, 117, 118, 119, 120, 121, 122, 48, 49, 50, 51, 52, 53, 54, 55, 56, 57, 46, 45]
theorem lets_letter : ∀ c : UInt8, lets.contains c = letter c := by
  have : ((List.range 256).all fun n => lets.contains (UInt8.ofNat n) == letter (UInt8.ofNat n)) = true := by kernel_rfl
  intro c
  have h := List.all_eq_true.1 this c.toNat (List.mem_range.2 c.toNat_lt)
  simpa using h
theorem dropWhile_nil {p : UInt8 → Bool} {l : List UInt8} : l.dropWhile p = [] ↔ l.all p = true := by
  induction l with
  | nil => simp
  | cons c l ih =>
    rw [List.dropWhile_cons, List.all_cons]
    cases h : p c
    · simp
    · simpa using ih
theorem trim_nil (l : List UInt8) : Lib.trimS l lets = [] ↔ l.all letter = true := by
  have e : (fun c => lets.contains c) = letter := funext lets_letter
  unfold Lib.trimS Lib.trimLeftS Lib.trimRightS
  rw [e, dropWhile_nil, List.all_reverse]
  constructor
  · intro h
    have h2 : (l.reverse.dropWhile letter) = [] := by
      cases hd : l.reverse.dropWhile letter with
      | nil => rfl
      | cons c r =>
        rw [hd] at h
        have h3 : letter c = true := by
          simp only [List.all_cons, Bool.and_eq_true] at h
          exact h.1
        have h4 := List.head?_dropWhile_not letter l.reverse
        rw [hd] at h4
        simp [h3] at h4
    rw [dropWhile_nil, List.all_reverse] at h2
    exact h2
  · intro h
    have h2 : l.reverse.dropWhile letter = [] := by rw [dropWhile_nil, List.all_reverse]; exact h
    rw [h2]
    rfl

theorem trim_any (s : ByteArray) (hs : s.size ≤ 9223372036854775807) (w : World) :
    Calls Tryz.prog 154 #[.string s, .string (strOf lets)] w fun e w' => e = .returned (.string (strOf (Lib.trimS s.data.toList lets))) ∧ Below w.heap.size w w' :=
  Any.strings_Trim_laid Tryz.lays160 (by kernel_rfl) s (strOf lets) w hs (by decide) (ascii_of_all (by kernel_rfl))

theorem may_cut (l : List UInt8) : may l = (decide (l ≠ []) && (decide (l.length ≤ 40) && decide (Lib.trimS l lets = []))) := by
  unfold may
  have : decide (Lib.trimS l lets = []) = l.all letter := by
    rw [Bool.eq_iff_iff, decide_eq_true_eq, trim_nil]
  rw [this]
  cases l <;> simp

set_option maxRecDepth 100000 in
theorem may_any (s : ByteArray) (hs : s.size ≤ 9223372036854775807) (w : World) :
    Calls Tryz.prog 88 #[.string s] w fun e w' => e = .returned (.bool (may s.data.toList)) ∧ Below w.heap.size w w' := by
  have hsz : s.size = s.data.toList.length := by rw [Array.length_toList]; rfl
  obtain ⟨R, hR⟩ : ∃ R, may s.data.toList = R := ⟨_, rfl⟩
  rw [hR]
  have hR2 := hR
  rw [may_cut] at hR2
  have hR' := Lib.hid hR2
  clear hR hR2
  have hempty : s.toList.isEmpty = s.data.toList.isEmpty := by rw [Lib.toList_data]
  by_cases h0 : s.data.toList = []
  · have e0 : s.toList.isEmpty = true := by rw [hempty, h0]; rfl
    have e1 : s.toList = [] := by simpa using e0
    have hr : R = false := by rw [← hR'.out, h0]; rfl
    subst hr
    clear h0 hempty
    go_enter Tryz.func88, Tryz.ntmps88
    go_wp2_with fail
    go_ret
    exact ⟨rfl, Below.refl _ _⟩
  · have e0 : s.toList.isEmpty = false := by rw [hempty]; simpa using h0
    by_cases h40 : s.size ≤ 40
    · have i0 : decide ((s.size : Int) ≤ 40) = true := by simp; omega
      have hr : R = decide (Lib.trimS s.data.toList lets = []) := by rw [← hR'.out, ← hsz]; simp [h0, h40]
      have hr' := Lib.hid hr
      clear h0 hempty hR' hr hsz
      go_enter Tryz.func88, Tryz.ntmps88
      go_wp2_with fail
      refine (trim_any s hs w).mono ?_
      rintro e w1 ⟨rfl, hb1⟩
      have hb1' := Lib.hid hb1
      have he := strOf_empty (Lib.trimS s.data.toList lets)
      obtain ⟨T, hT⟩ : ∃ T, Lib.trimS s.data.toList lets = T := ⟨_, rfl⟩
      rw [hT] at hr' he ⊢
      clear hb1 hT
      by_cases hn : T = []
      · have hr := hr'.out
        rw [hn] at hr he
        simp only [decide_true] at hr
        subst hr
        have e2 : (strOf ([] : List UInt8)).toList = [] := by simpa using he
        rw [hn]
        go_wp2_with fail
        go_ret
        exact ⟨rfl, hb1'.out⟩
      · have hr := hr'.out
        rw [show decide (T = []) = false by simpa using hn] at hr
        subst hr
        have e2 : (strOf T).toList.isEmpty = false := by rw [he]; simpa using hn
        clear hn he hr'
        go_wp2_with fail
        go_ret
        exact ⟨rfl, hb1'.out⟩
    · have i0 : decide ((s.size : Int) ≤ 40) = false := by simp; omega
      have hr : R = false := by rw [← hR'.out, ← hsz]; simp [h40]
      subst hr
      clear h0 hempty hR' hsz
      go_enter Tryz.func88, Tryz.ntmps88
      go_wp2_with fail
      go_ret
      exact ⟨rfl, Below.refl _ _⟩

/-! ### bytes.Clone -/
theorem clone_any (A : Option Addr) (n c : Nat) (l : List UInt8) (w : World) (h : Bs w A n c l) (hz : n ≤ 140737488355328) :
    Calls Tryz.prog 79 #[.slice A n c] w fun e w' => ∃ v, e = .returned v ∧ OwB w' w.heap.size 5 v l ∧ Below w.heap.size w w' := by
  have hl := h.len
  rcases A with _ | a
  · obtain ⟨rfl, rfl⟩ := Rd.nil h rfl
    have : l = [] := List.eq_nil_of_length_eq_zero hl
    subst this
    refine (Any.bytes_Clone_nil Tryz.laysClone 0 0 w).mono ?_
    rintro e w1 ⟨rfl, rfl⟩
    exact ⟨_, rfl, OwB.nil _ _ _, Below.refl _ _⟩
  · refine (Any.bytes_Clone_at Tryz.laysClone a n c (l.map fun x => (x.toNat : Int)) w (by simpa using hl) hz ?_).mono ?_
    · intro i hi
      obtain ⟨b, off, he, hb, hc⟩ := Rd.cell h (by omega)
      injection he with he
      subst he
      have hx : l[i]? = some l[i] := List.getElem?_eq_getElem (by omega)
      have := hc i (.int .u8 (l[i].toNat : Int)) (by simp [bv, hx])
      have e : (l.map fun x => (x.toNat : Int)).getD i 0 = (l[i].toNat : Int) := by simp [List.getD, hx]
      rw [e]
      unfold Addr.add
      split
      · rename_i h0; subst h0; simpa using this
      · exact this
    · rintro e w1 ⟨v, rfl, h1, _, h2⟩
      refine ⟨v, rfl, ?_, h2⟩
      have e : (l.map fun x => (x.toNat : Int)).map (Value.int .u8) = bv l := by simp [bv]
      rw [e] at h1
      unfold OwB
      rw [hl]
      exact h1

theorem OwB.slice {w : World} {B E : Nat} {v : Value} {l : List UInt8} (h : OwB w B E v l) : ∃ A c, v = .slice A l.length c ∧ Bs w A l.length c l := by
  obtain ⟨A, c, rfl⟩ := ownsRow_form h
  exact ⟨A, c, rfl, OwB.bs h⟩

/-! ### Read -/
/-- A fresh slice of bytes is handed back, and a code. -/
def ReadP (B : Nat) (d : D) (nm : Name) (w : World) (e : Ending) (w' : World) : Prop :=
  Below w.heap.size w w' ∧ ∃ v l, e = .returned (.tuple #[v, .int .i64 (if (Dk.get d.fs nm).isSome then 0 else 42)]) ∧ OwB w' w.heap.size 5 v l ∧ l = ((Dk.get d.fs nm).map (·.data)).getD []

set_option maxRecDepth 100000 in
theorem Read_any (w : World) (B a mb : Nat) (L : Al Nat) (F : Nat → Fl) (tv : Value) (d : D) (h : Da w B a mb L F tv d) (s : ByteArray) (hs : s.size ≤ 1000000) (hz : ∀ p ∈ d.fs, p.2.data.length ≤ 1000000) :
    Calls Tryz.prog 80 #[.pointer (some ⟨a, 0, none⟩), .string s] w (ReadP B d s.data.toList w) := by
  have hlk := h.look s (by unfold maxLen; omega)
  have c1 : w.cell? ⟨a, 1, none⟩ = some (.map (some mb)) := by simp [World.cell?, h.blk]
  have hg := h.get s.data.toList
  cases hgl : Dk.get L s.data.toList with
  | none =>
    rw [hgl] at hlk hg
    simp only [Option.map_none] at hlk hg
    have hg' := Lib.hid hg
    clear hg hgl
    go_enter Tryz.func80, Tryz.ntmps80
    go_wp2_with fail
    go_ret2
    refine ⟨Below.refl _ _, _, [], ?_, OwB.nil _ _ _, by rw [hg'.out]; rfl⟩
    rw [hg'.out]
    rfl
  | some b =>
    rw [hgl] at hlk hg
    simp only [Option.map_some] at hlk hg
    have hmem := get_mem hgl
    obtain ⟨hB, v, hb1, hb2⟩ := h.files _ hmem
    have hm2 := get_mem hg
    have hle := hz _ hm2
    simp only at hb1 hb2 hle
    obtain ⟨A, c, rfl, hbs⟩ := OwB.slice hb2
    have k0 : w.cell? ⟨b, 0, none⟩ = some (.slice A (F b).data.length c) := by simp [World.cell?, hb1]
    have hg' := Lib.hid hg
    obtain ⟨n, hn⟩ : ∃ n, (F b).data.length = n := ⟨_, rfl⟩
    rw [hn] at k0 hbs hle
    have hbs' := Lib.hid hbs
    clear hg hgl hb1 hb2 hbs hm2 hmem hn
    go_enter Tryz.func80, Tryz.ntmps80
    go_wp2_with fail
    refine (clone_any A n c (F b).data w hbs'.out (by omega)).mono ?_
    rintro e w1 ⟨v, rfl, ho, hb⟩
    have ho' := Lib.hid ho
    have hb' := Lib.hid hb
    clear ho hb
    go_wp2_with fail
    go_ret2
    refine ⟨hb'.out, v, (F b).data, ?_, ho'.out, by rw [hg'.out]; rfl⟩
    rw [hg'.out]
    rfl
end Go.Proofs.YtfdpnjebhllpkaaGreatDoor.Dk
end

section
namespace Go.Proofs.YtfdpnjebhllpkaaGreatDoor.Dk
open Go.RowKit

/-- The bytes of the files that are left. -/
def sumLeft (F : Nat → Fl) (left : Lit → Bool) (l : Al Nat) : Nat := (l.map fun p => if left (.string p.1) then (F p.2).data.length else 0).sum
theorem sumLeft_cons (F : Nat → Fl) (left : Lit → Bool) (p : Name × Nat) (l : Al Nat) : sumLeft F left (p :: l) = (if left (.string p.1) then (F p.2).data.length else 0) + sumLeft F left l := by simp [sumLeft]
theorem sumLeft_none {F : Nat → Fl} {left : Lit → Bool} (h : ∀ k, left k = false) (l : Al Nat) : sumLeft F left l = 0 := by
  induction l with
  | nil => rfl
  | cons p l ih => rw [sumLeft_cons, ih, h]; rfl
theorem sumLeft_off {F : Nat → Fl} {left : Lit → Bool} {nm : Name} {l : Al Nat} (h : ∀ p ∈ l, p.1 ≠ nm) : sumLeft F (fun z => left z && !z.sameKey (.string nm)) l = sumLeft F left l := by
  unfold sumLeft
  congr 1
  apply List.map_congr_left
  intro p hp
  have : ((Lit.string p.1).sameKey (.string nm)) = false := by simpa [Lit.sameKey] using h p hp
  simp [this]
theorem sumLeft_step {F : Nat → Fl} {left : Lit → Bool} {nm : Name} {b : Nat} {l : Al Nat} (hU : Up l) (hm : (nm, b) ∈ l) (hl : left (.string nm) = true) :
    sumLeft F left l = (F b).data.length + sumLeft F (fun z => left z && !z.sameKey (.string nm)) l := by
  induction l with
  | nil => cases hm
  | cons p l ih =>
    rw [sumLeft_cons, sumLeft_cons]
    rcases List.mem_cons.1 hm with e | hm'
    · subst e
      rw [sumLeft_off fun q hq => (before_ne (hU.head hq)).symm, hl]
      simp [Lit.sameKey]
    · have hne : p.1 ≠ nm := before_ne (hU.head hm')
      rw [ih hU.tail hm']
      have : ((Lit.string p.1).sameKey (.string nm)) = false := by simpa [Lit.sameKey] using hne
      simp only [this, Bool.not_false, Bool.and_true]
      omega
theorem sumLeft_all {F : Nat → Fl} (L : Al Nat) : sumLeft F (Maps.has (mp L)) L = used (L.map fun p => (p.1, F p.2)) := by
  have : ∀ p ∈ L, Maps.has (mp L) (.string p.1) = true := fun p hp => by
    unfold mp
    rw [Maps.has_eq, List.any_eq_true]
    exact ⟨_, List.mem_map.2 ⟨p, hp, rfl⟩, by simp [Lit.sameKey]⟩
  unfold sumLeft used
  rw [List.map_map]
  congr 1
  apply List.map_congr_left
  intro p hp
  rw [this p hp]
  rfl
theorem sumLeft_le {F : Nat → Fl} {left : Lit → Bool} (L : Al Nat) : sumLeft F left L ≤ used (L.map fun p => (p.1, F p.2)) := by
  induction L with
  | nil => exact Nat.le_refl _
  | cons p L ih =>
    rw [sumLeft_cons, List.map_cons, used_cons]
    simp only
    split <;> omega

theorem below_grown_none {w w' : World} (h : w.grownBy w' none) : Below w.heap.size w w' := ⟨h.os, h.tape, h.output, h.size, fun k hk => h.block k hk (by simp)⟩
theorem ptr_inv {v : Value} {y : DataW Unit × List MemPlace} (h : ptrElem v = some y) : ∃ c : Option Addr, v = .pointer c := by
  unfold ptrElem at h
  split at h
  · exact ⟨_, rfl⟩
  · exact ⟨_, rfl⟩
  · cases h

theorem str_key_inv {key : Value} {kl : Lit} (h : keyOf Tryz.prog 9 key = some kl) : ∃ x : ByteArray, key = .string x := by
  obtain ⟨s, h1, _⟩ := WideMaps.string_of_keyOf Tryz.underlying9 h
  exact ⟨s, h1⟩

set_option maxHeartbeats 1000000 in
set_option maxRecDepth 100000 in
theorem Used_any (w : World) (B a mb : Nat) (L : Al Nat) (F : Nat → Fl) (tv : Value) (d : D) (h : Da w B a mb L F tv d) (hu : used d.fs ≤ 1000000000) :
    Calls Tryz.prog 89 #[.pointer (some ⟨a, 0, none⟩)] w fun e w' => e = .returned (.int .i64 (used d.fs : Nat)) ∧ Below w.heap.size w w' := by
  have c1 : w.cell? ⟨a, 1, none⟩ = some (.map (some mb)) := by simp [World.cell?, h.blk]
  have hown := h.own
  have htot := sumLeft_all (F := F) L
  rw [← h.fs] at htot
  have hle : ∀ left, sumLeft F left L ≤ used d.fs := fun left => by rw [h.fs]; exact sumLeft_le L
  obtain ⟨U, hU⟩ : ∃ U, used d.fs = U := ⟨_, rfl⟩
  rw [hU] at htot hu hle ⊢
  have htot' := Lib.hid htot
  have hle' := Lib.hid hle
  have h' := Lib.hid h
  have hown' := Lib.hid hown
  clear htot hle h hown hU
  go_enter Tryz.func89, Tryz.ntmps89
  go_wp2_with (at_range; apply stop_here)
  refine Stop.go (wpList_range_own _ rfl _ 111 rfl 9 130 law_str Tryz.underlying111 ptrElem mb L.length (mp L) rfl hown'.out ?_)
  intro w1 hr1 hg1 hs1
  have hb1 := Lib.hid (below_grown_none hg1)
  have hr1' := Lib.hid hr1
  have hs1' := Lib.hid hs1
  clear hr1 hg1 hs1 c1
  go_wp2_with fail
  go_frame
  go_loopw [3] (fun v wr => ∃ (left : Lit → Bool) (cnt s : Nat), v = .int .i64 (s : Nat) ∧ Hid (wr.ranges Tryz.prog 9 ptrElem mb w.heap.size L.length (mp L) left cnt) ∧ Hid (s + sumLeft F left L = U) ∧ Hid (Below w.heap.size w wr)) (fun _ wr => wr.rangeLeft mb w.heap.size)
  case atStart => exact ⟨_, _, 0, rfl, hr1', Lib.hid (by rw [htot'.out]; omega), hb1⟩
  case round =>
    obtain ⟨left, cnt, s, rfl, hrg, hsum, hb⟩ := hrel
    have hcnt := hrg.out.left_eq
    go_wp2_with (at_next; apply stop_here)
    refine Stop.go (wpList_next_ranges _ rfl _ rfl 9 law_str ptrElem Value.string Value.pointer (fun key kl hk => str_key_inv hk) (fun v y hy => ptr_inv hy) mb w.heap.size L.length (mp L) left cnt rfl hrg.out ?_ ?_)
    · intro h0 hl
      have hU : s = U := by have := hsum.out; rw [sumLeft_none hl] at this; exact this
      go_wp2_with fail
      go_ret
      exact ⟨rfl, hb.out⟩
    · intro x c kl y w2 cnt2 hkey hlk hR hat hrg2 hlt hg2 hs2 hen
      obtain ⟨x', hx1, hx2, _⟩ := WideMaps.string_of_keyOf Tryz.underlying9 hkey
      injection hx1 with hx1
      subst hx1
      subst hx2
      have hb2 := Lib.hid (hb.out.trans (below_row hg2 (Nat.le_refl _) hb.out.size))
      cases hgl : get L x.data.toList with
      | none =>
        have e1 := hat .nil
        have e2 := hat (.lit (.bool true))
        rw [mp_at, hgl] at e1 e2
        simp only at e1 e2
        rw [← e1] at e2
        cases e2
      | some b =>
        have e1 := hat .nil
        rw [mp_at, hgl] at e1
        simp only at e1
        obtain ⟨y1, y2⟩ := y
        simp only at e1
        subst e1
        have hc := ptr_blk hR
        injection hc with hc
        subst hc
        have hmem := get_mem hgl
        obtain ⟨hB, v, k1, k2⟩ := (h'.out.below hb2.out).files _ hmem
        obtain ⟨A, c, rfl, hbs⟩ := OwB.slice k2
        have k0 : w2.cell? ⟨b, 0, none⟩ = some (.slice A (F b).data.length c) := by simp [World.cell?, k1]
        have hst := sumLeft_step (F := F) h'.out.up hmem hlk
        have hsu : s + (F b).data.length + sumLeft F (fun z => left z && !z.sameKey (.string x.data.toList)) L = U := by have := hsum.out; omega
        obtain ⟨n, hn⟩ : ∃ n, (F b).data.length = n := ⟨_, rfl⟩
        rw [hn] at k0 hsu
        have hsn : s + n ≤ U := by omega
        have hsu' := Lib.hid hsu
        have hrg2' := Lib.hid hrg2
        have hcnt2 := hrg2.left_eq
        have hlt' := Lib.hid hlt
        have hcnt' := Lib.hid hcnt
        have hcnt2' := Lib.hid hcnt2
        clear hsu hrg2 hst hmem hbs k1 k2 hn hat hR hkey hlk hg2 hs2 hlt hcnt hcnt2 hgl
        go_wp2_with fail
        go_roundw
        case rel => exact ⟨_, cnt2, s + n, by go_num, hrg2', hsu', hb2⟩
        case measure => rw [hcnt'.out, hcnt2'.out]; exact hlt'.out
end Go.Proofs.YtfdpnjebhllpkaaGreatDoor.Dk
end

section
namespace Go.Proofs.YtfdpnjebhllpkaaGreatDoor.Dk
open Go.RowKit

theorem trf_length (l : List Tr) : (trf l).length = l.length * 3 := by
  induction l with
  | nil => rfl
  | cons p l ih =>
    show (trC p ++ trf l).length = _
    rw [List.length_append, ih, List.length_cons]
    simp [trC]
    omega
theorem trf_get : ∀ {l : List Tr} {k : Nat} {t : Tr}, l[k]? = some t → (trf l)[k * 3]? = some (.int .i64 t.1) ∧ (trf l)[k * 3 + 1]? = some (.int .i64 t.2.1) ∧ (trf l)[k * 3 + 2]? = some (.int .i64 t.2.2)
  | [], _, _, h => by simp at h
  | q :: l, 0, t, h => by
    simp at h
    subst h
    exact ⟨rfl, rfl, rfl⟩
  | q :: l, k + 1, t, h => by
    simp at h
    have := trf_get h
    show (trC q ++ trf l)[(k + 1) * 3]? = _ ∧ (trC q ++ trf l)[(k + 1) * 3 + 1]? = _ ∧ (trC q ++ trf l)[(k + 1) * 3 + 2]? = _
    have h3 : (trC q).length = 3 := rfl
    rw [List.getElem?_append_right (by omega), List.getElem?_append_right (by omega), List.getElem?_append_right (by omega), h3, show (k + 1) * 3 - 3 = k * 3 by omega, show (k + 1) * 3 + 1 - 3 = k * 3 + 1 by omega, show (k + 1) * 3 + 2 - 3 = k * 3 + 2 by omega]
    exact this

/-- A row of three-celled things, read. -/
theorem row3_at {w : World} {B E n : Nat} {v : Value} {xs : List Value} (h : w.ownsRow B E 3 v n xs) : ∃ A c, v = .slice A n c ∧ n ≤ c ∧ c ≤ 9223372036854775807 ∧
    (xs ≠ [] → ∃ g, A = some ⟨g, 0, none⟩ ∧ g < w.heap.size ∧ ∀ j u, xs[j]? = some u → w.cell? ⟨g, j, none⟩ = some u) := by
  obtain ⟨hl, h⟩ := h
  rcases h with ⟨rfl, h0⟩ | ⟨g, cap, cur, rfl, hB, hh, hnc, hm, hs, ht⟩
  · subst h0
    refine ⟨none, 0, rfl, Nat.le_refl _, by omega, fun hne => ?_⟩
    exact absurd (List.eq_nil_of_length_eq_zero (by omega)) hne
  · refine ⟨_, cap, rfl, hnc, by unfold maxLen at hm; omega, fun _ => ⟨g, rfl, (Array.getElem?_eq_some_iff.1 hh).1, fun j u hu => ?_⟩⟩
    rw [← ht, List.getElem?_take] at hu
    split at hu
    · simp only [World.cell?, hh]
      simpa using hu
    · cases hu

theorem Da.trs {w : World} {B a mb : Nat} {L : Al Nat} {F : Nat → Fl} {tv : Value} {d : D} (h : Da w B a mb L F tv d) : ∃ A c, tv = .slice A d.tr.length c ∧ d.tr.length ≤ c ∧ c ≤ 9223372036854775807 ∧
    ∀ i t, d.tr[i]? = some t → ∃ g, A = some ⟨g, 0, none⟩ ∧ g < w.heap.size ∧ w.cell? ⟨g, i * 3, none⟩ = some (.int .i64 t.1) ∧ w.cell? ⟨g, i * 3 + 1, none⟩ = some (.int .i64 t.2.1) ∧ w.cell? ⟨g, i * 3 + 2, none⟩ = some (.int .i64 t.2.2) := by
  obtain ⟨A, c, h1, h2, h3, h4⟩ := row3_at h.tr
  refine ⟨A, c, h1, h2, h3, fun i t hi => ?_⟩
  have hg := trf_get hi
  obtain ⟨g, e, hlt, hc⟩ := h4 (by intro e; rw [e] at hg; simp at hg)
  exact ⟨g, e, hlt, hc _ _ hg.1, hc _ _ hg.2.1, hc _ _ hg.2.2⟩

theorem set_size (w : World) (p : Addr) (x : Value) : (w.setCell p x).heap.size = w.heap.size := by simp [World.setCell]
theorem below_swap {w : World} {a i : Nat} (ha : a < w.heap.size) (o : Obj) (x : Value) : Below w.heap.size (w.setCell ⟨a, i, none⟩ x) ((w.alloc o).setCell ⟨a, i, none⟩ x) := by
  refine ⟨rfl, rfl, rfl, by rw [set_size, set_size]; exact (below_alloc w o).size, fun k hk => ?_⟩
  have h1 : (w.alloc o).heap[k]? = w.heap[k]? := (below_alloc w o).block k hk
  simp only [World.setCell, Array.getElem?_modify, h1]

/-- A trouble's block. -/
def Tb (w : World) (b : Nat) (x y z : Int) : Prop := w.heap[b]? = some (.cells #[.int .i64 x, .int .i64 y, .int .i64 z] 121)
theorem tb_set {w : World} {b : Nat} {x y z : Int} (h : Tb w b x y z) (x' y' z' : Int) :
    Tb (((w.setCell ⟨b, 0, none⟩ (.int .i64 x')).setCell ⟨b, 1, none⟩ (.int .i64 y')).setCell ⟨b, 2, none⟩ (.int .i64 z')) b x' y' z' := by
  have h1 := setCell_blk h (i := 0) (.int .i64 x')
  have h2 := setCell_blk h1 (i := 1) (.int .i64 y')
  exact setCell_blk h2 (i := 2) (.int .i64 z')
theorem load_tb {w : World} {b : Nat} {x y z : Int} (h : Tb w b x y z) : (loadVar 121 ⟨b, 0, none⟩).run Tryz.prog w = .ok (.agg #[.int .i64 x, .int .i64 y, .int .i64 z]) w :=
  run_loadVar_row w b _ _ _ _ _ h Tryz.underlying121 rfl (by kernel_rfl)
theorem res_tb {fn : Func} {p u : Tmp} (hf : fn.results = #[.cell p 121, .tmp u]) {tmps : Array Value} {w : World} {b : Nat} {x y z : Int} {ok : Value}
    (h : Tb w b x y z) (hp : tmps.getD p undef = .pointer (some ⟨b, 0, none⟩)) (hu : tmps.getD u undef = ok) :
    (results fn tmps).run Tryz.prog w = .ok (.tuple #[.agg #[.int .i64 x, .int .i64 y, .int .i64 z], ok]) w := by
  rw [results_cell_tmp hf, hp, hu]
  simp [asAddr, Result.andThen, load_tb h]
theorem later_block {w : World} {R : Nat} (h : R < w.heap.size) (o : Obj) (k : Nat) : ((w.alloc o).drewN k).heap[R]? = w.heap[R]? :=
  ((Joins.below_draws _ (w.alloc o) k).block R (Nat.lt_of_lt_of_le h (below_alloc w o).size)).trans ((below_alloc w o).block R h)
theorem below_later {w0 w : World} (h : Below w0.heap.size w0 w) (o : Obj) (k : Nat) : Below w0.heap.size w0 ((w.alloc o).drewN k) :=
  h.trans (((below_alloc w o).trans ((Joins.below_draws _ (w.alloc o) k).mono (below_alloc w o).size)).mono h.size)
theorem below_set {B b i : Nat} {w0 w : World} (h : Below B w0 w) (hb : B ≤ b) (v : Value) : Below B w0 (w.setCell ⟨b, i, none⟩ v) :=
  h.setCell (p := ⟨b, i, none⟩) hb v

/-- What trouble gives. -/
def TrP (N : Nat) (w2 : World) (d : D) (e : Ending) (w' : World) : Prop :=
  Below N w2 w' ∧ ∃ at_ kd pt bef, e = .returned (.tuple #[.agg #[.int .i64 at_, .int .i64 kd, .int .i64 pt], .bool bef]) ∧
    match trouble d.tr (d.ops + 1) with
    | none => bef = false
    | some (k, p) => bef = true ∧ kd = k ∧ pt = p

theorem hits_first {tr : List Tr} {i n : Nat} {t : Tr} (hi : tr[i]? = some t) (hno : tr.find? (hits n) = (tr.drop i).find? (hits n)) (ht : hits n t = true) : trouble tr n = some t.2 := by
  have hlt := (List.getElem?_eq_some_iff.1 hi).1
  rw [List.getElem?_eq_getElem hlt] at hi
  injection hi with hi
  unfold trouble
  rw [hno, List.drop_eq_getElem_cons hlt, hi, List.find?_cons_of_pos ht]
  rfl
theorem hits_next {tr : List Tr} {i n : Nat} {t : Tr} (hi : tr[i]? = some t) (hno : tr.find? (hits n) = (tr.drop i).find? (hits n)) (ht : hits n t = false) : tr.find? (hits n) = (tr.drop (i + 1)).find? (hits n) := by
  have hlt := (List.getElem?_eq_some_iff.1 hi).1
  rw [List.getElem?_eq_getElem hlt] at hi
  injection hi with hi
  rw [hno, List.drop_eq_getElem_cons hlt, hi, List.find?_cons_of_neg (by rw [ht]; decide)]

set_option maxHeartbeats 1000000 in
set_option maxRecDepth 100000 in
theorem trouble_any (w : World) (B a mb : Nat) (L : Al Nat) (F : Nat → Fl) (tv : Value) (d : D) (h : Da w B a mb L F tv d) (hops : d.ops ≤ 1000000) (htl : d.tr.length ≤ 1000000) :
    Calls Tryz.prog 178 #[.pointer (some ⟨a, 0, none⟩)] w (TrP w.heap.size (w.setCell ⟨a, 3, none⟩ (.int .i64 ((d.ops + 1 : Nat)))) d) := by
  have halt := h.alt
  have c3 : ∀ o, (w.alloc o).cell? ⟨a, 3, none⟩ = some (.int .i64 (d.ops : Nat)) := fun o => ((below_alloc w o).cell (p := ⟨a, 3, none⟩) halt).trans (by simp [World.cell?, h.blk])
  have f3 : ∀ o, (w.alloc o).frozen? ⟨a, 3, none⟩ = false := fun o => frozen_of_row _ a 3 _ _ (((below_alloc w o).block a halt).trans h.blk)
  obtain ⟨hD, _⟩ := h.setOps (d.ops + 1)
  have hsw := below_swap (i := 3) halt (.cells #[.int .i64 0, .int .i64 0, .int .i64 0] 121) (.int .i64 ((d.ops + 1 : Nat)))
  obtain ⟨w2, hw2⟩ : ∃ w2, w.setCell ⟨a, 3, none⟩ (.int .i64 ((d.ops + 1 : Nat))) = w2 := ⟨_, rfl⟩
  have hsz2 : w2.heap.size = w.heap.size := by rw [← hw2]; exact set_size _ _ _
  rw [hw2] at hD hsw ⊢
  rw [show ((d.ops + 1 : Nat) : Int) = (d.ops : Int) + 1 from rfl] at hsw
  obtain ⟨w1, hw1⟩ : ∃ w1, (w.alloc (.cells #[.int .i64 0, .int .i64 0, .int .i64 0] 121)).setCell ⟨a, 3, none⟩ (.int .i64 ((d.ops : Int) + 1)) = w1 := ⟨_, rfl⟩
  rw [hw1] at hsw
  obtain ⟨R, hR⟩ : ∃ R, w.heap.size = R := ⟨_, rfl⟩
  rw [hR] at hsw hsz2 halt ⊢
  have hD' := Lib.hid hD
  have hsw' := Lib.hid hsw
  have hsz2' := Lib.hid hsz2
  obtain ⟨A, c, htv, hnc, hcm, hrow⟩ := hD.trs
  have htv' := Lib.hid htv
  obtain ⟨n, hn⟩ : ∃ n, d.tr.length = n := ⟨_, rfl⟩
  rw [hn] at htv hnc htl
  have hblk1 : ∀ w', Below R w1 w' → w'.heap[a]? = some (.cells #[.int .i64 (d.room : Nat), .map (some mb), .slice A n c, .int .i64 ((d.ops + 1 : Nat)), .bool d.down] 113) := fun w' hb => by
    rw [hb.block a halt, hsw.block a halt]
    have := hD.blk
    rw [htv] at this
    exact this
  have d2 : w1.cell? ⟨a, 2, none⟩ = some (.slice A n c) := by simp [World.cell?, hblk1 w1 (Below.refl _ _)]
  obtain ⟨R0, hR0⟩ : ∃ R0, trouble d.tr (d.ops + 1) = R0 := ⟨_, rfl⟩
  have hR0' := Lib.hid hR0
  have hblk' := Lib.hid hblk1
  have hrow' := Lib.hid hrow
  have hn' := Lib.hid hn
  have hsR : R ≤ w1.heap.size := by have := hsw.size; omega
  have hR1 : R < w1.heap.size := by rw [← hw1, set_size, ← hR]; simp
  have hRn : w1.heap[R]? = some (.cells #[.int .i64 0, .int .i64 0, .int .i64 0] 121) := by
    rw [← hw1]
    have hne : ¬ a = R := by omega
    simp only [World.setCell, Array.getElem?_modify, if_neg hne]
    rw [← hR]
    exact heap_alloc_new w _
  have hRn' := Lib.hid hRn
  clear hD hsw hsz2 hw2 h htv hblk1 hrow hR0 hn hRn
  go_enter Tryz.func178, Tryz.ntmps178
  go_wp2_with fail
  clear d2 hw1 c3 f3 hR
  go_loopw [18] (fun v wr => ∃ i : Nat, i ≤ n ∧ v = .int .i64 (i : Nat) ∧ Hid (d.tr.find? (hits (d.ops + 1)) = (d.tr.drop i).find? (hits (d.ops + 1))) ∧ Hid (Below w1.heap.size w1 wr)) (fun v _ => n - (intOf v).toNat)
  case atStart => exact ⟨0, by omega, rfl, Lib.hid rfl, Lib.hid (Below.refl _ _)⟩
  case round =>
    obtain ⟨i, hi, rfl, hno, hb⟩ := hrel
    have hbR := Lib.hid (hb.out.mono hsR)
    have hRr : R < wr.heap.size := by have := hb.out.size; omega
    by_cases hlt : i < n
    · have i0 : decide ((i : Int) < (n : Int)) = true := by simp; omega
      have hil : (i : Int) < (n : Int) := by omega
      have hti : d.tr[i]? = some (d.tr[i]'(by rw [hn'.out]; exact hlt)) := List.getElem?_eq_getElem _
      obtain ⟨t, ht⟩ : ∃ t, t = d.tr[i]'(by rw [hn'.out]; exact hlt) := ⟨_, rfl⟩
      rw [← ht] at hti
      clear ht
      obtain ⟨g, hA, hg, k0, k1, k2⟩ := hrow'.out i t hti
      subst hA
      have hg2 : g < R := by rw [hsz2'.out] at hg; exact hg
      have hup := hsw'.out.trans hbR.out
      rw [← hup.cell (p := ⟨g, _, none⟩) hg2] at k0 k1 k2
      have k0' : ∀ o, (wr.alloc o).cell? ⟨g, i * 3, none⟩ = some (.int .i64 t.1) := fun o => ((below_alloc wr o).cell (p := ⟨g, _, none⟩) (show g < _ by omega)).trans k0
      have hops3 : ∀ o, (wr.alloc o).cell? ⟨a, 3, none⟩ = some (.int .i64 ((d.ops : Int) + 1)) := fun o => ((below_alloc wr o).cell (p := ⟨a, 3, none⟩) (show a < _ by omega)).trans (by simp [World.cell?, hblk'.out wr hbR.out])
      obtain ⟨at_, kd, pt⟩ := t
      simp only at k0 k1 k2
      have hti' := Lib.hid hti
      clear hti hup hg hg2 k0'
      have hRb : ∀ o, (wr.alloc o).heap[R]? = some (.cells #[.int .i64 0, .int .i64 0, .int .i64 0] 121) := fun o => ((below_alloc wr o).block R hRr).trans ((hb.out.block R hR1).trans hRn'.out)
      have hRf : ∀ o j, (wr.alloc o).frozen? ⟨R, j, none⟩ = false := fun o j => frozen_of_row _ R j _ _ (hRb o)
      have hR0c : ∀ o, (wr.alloc o).cell? ⟨R, 0, none⟩ = some (.int .i64 0) := fun o => by simp [World.cell?, hRb o]
      have hR1c : ∀ o, (wr.alloc o).cell? ⟨R, 1, none⟩ = some (.int .i64 0) := fun o => by simp [World.cell?, hRb o]
      have hR2c : ∀ o, (wr.alloc o).cell? ⟨R, 2, none⟩ = some (.int .i64 0) := fun o => by simp [World.cell?, hRb o]
      have hba : Below R w1 (wr.alloc (.cells #[.int .i64 at_, .int .i64 kd, .int .i64 pt] 121)) := hbR.out.alloc (by omega) _
      have hba' := Lib.hid hba
      clear hRb hba
      by_cases e1 : at_ = (d.ops : Int) + 1
      · have j1 : (at_ == (d.ops : Int) + 1) = true := by rw [beq_iff_eq]; exact e1
        have e1' := Lib.hid e1
        clear e1
        by_cases e2 : 1 ≤ kd
        · have j2 : decide (1 ≤ kd) = true := by simpa using e2
          by_cases e3 : kd ≤ 3
          · have j3 : decide (kd ≤ 3) = true := by simpa using e3
            have hh : hits (d.ops + 1) (at_, kd, pt) = true := by
              unfold hits
              simp [e1'.out, e2, e3]
            have hR' : R0 = some (kd, pt) := by rw [← hR0'.out]; exact hits_first hti'.out hno.out hh
            have hR'' := Lib.hid hR'
            clear hh hR'
            go_wp2_with fail
            go_big_quiet (fail)
            go_wp2_with fail
            have hTb : Tb ((wr.alloc (.cells #[.int .i64 at_, .int .i64 kd, .int .i64 pt] 121)).drewN nq) R 0 0 0 := (later_block hRr _ _).trans ((hb.out.block R hR1).trans hRn'.out)
            refine bodyPost_ret (res_tb rfl (tb_set hTb at_ kd pt) rfl rfl) rfl ?_
            refine ⟨hsw'.out.trans (below_set (below_set (below_set ((below_later hb.out _ _).mono hsR) (Nat.le_refl _) _) (Nat.le_refl _) _) (Nat.le_refl _) _), at_, kd, pt, true, rfl, ?_⟩
            rw [hR0'.out, hR''.out]
            exact ⟨rfl, rfl, rfl⟩
          · have j3 : decide (kd ≤ 3) = false := by simpa using e3
            have hh : hits (d.ops + 1) (at_, kd, pt) = false := by
              unfold hits
              simp [e3]
            have hn2 := Lib.hid (hits_next hti'.out hno.out hh)
            clear hh
            go_wp2_with fail
            go_big_quiet (fail)
            go_wp2_with fail
            go_roundw
            case rel => exact ⟨i + 1, by omega, by go_num, hn2, Lib.hid (below_later hb.out _ _)⟩
            case measure => simp [intOf]; omega
        · have j2 : decide (1 ≤ kd) = false := by simpa using e2
          have hh : hits (d.ops + 1) (at_, kd, pt) = false := by
            unfold hits
            simp [e2]
          have hn2 := Lib.hid (hits_next hti'.out hno.out hh)
          clear hh
          go_wp2_with fail
          go_big_quiet (fail)
          go_wp2_with fail
          go_roundw
          case rel => exact ⟨i + 1, by omega, by go_num, hn2, Lib.hid (below_later hb.out _ _)⟩
          case measure => simp [intOf]; omega
      · have j1 : (at_ == (d.ops : Int) + 1) = false := by rw [beq_eq_false_iff_ne]; exact e1
        have hh : hits (d.ops + 1) (at_, kd, pt) = false := by
          unfold hits
          simp [e1]
        have hn2 := Lib.hid (hits_next hti'.out hno.out hh)
        clear hh
        go_wp2_with fail
        go_big_quiet (fail)
        go_wp2_with fail
        go_roundw
        case rel => exact ⟨i + 1, by omega, by go_num, hn2, Lib.hid (below_later hb.out _ _)⟩
        case measure => simp [intOf]; omega
    · have i0 : decide ((i : Int) < (n : Int)) = false := by simp; omega
      have hRb := (hb.out.block R hR1).trans hRn'.out
      have hRf : ∀ j, wr.frozen? ⟨R, j, none⟩ = false := fun j => frozen_of_row _ R j _ _ hRb
      have hR0c : wr.cell? ⟨R, 0, none⟩ = some (.int .i64 0) := by simp [World.cell?, hRb]
      have hR1c : wr.cell? ⟨R, 1, none⟩ = some (.int .i64 0) := by simp [World.cell?, hRb]
      have hR2c : wr.cell? ⟨R, 2, none⟩ = some (.int .i64 0) := by simp [World.cell?, hRb]
      have hR' : R0 = none := by
        rw [← hR0'.out]
        unfold trouble
        rw [hno.out, List.drop_eq_nil_of_le (by rw [hn'.out]; omega)]
        rfl
      have hR'' := Lib.hid hR'
      have hTb : Hid (Tb wr R 0 0 0) := Lib.hid hRb
      clear hRb hR'
      go_wp2_with fail
      refine bodyPost_ret (res_tb rfl (tb_set hTb.out 0 0 0) rfl rfl) rfl ?_
      refine ⟨hsw'.out.trans (below_set (below_set (below_set hbR.out (Nat.le_refl _) _) (Nat.le_refl _) _) (Nat.le_refl _) _), 0, 0, 0, false, rfl, ?_⟩
      rw [hR0'.out, hR''.out]
end Go.Proofs.YtfdpnjebhllpkaaGreatDoor.Dk
end

section
namespace Go.Proofs.YtfdpnjebhllpkaaGreatDoor.Dk
open Go.RowKit

/-- Nothing but disks, their files and maps has turned. -/
def Fm (w w' : World) : Prop := ∀ (k : Nat) (cs : Array Value) (E : TypeId) (fr : Nat × Nat), w.heap[k]? = some (Obj.cells cs E fr) → E ≠ 132 → E ≠ 113 → w'.heap[k]? = some (Obj.cells cs E fr)
theorem Fm.refl (w : World) : Fm w w := fun _ _ _ _ h _ _ => h
theorem Fm.trans {w w1 w2 : World} (h : Fm w w1) (h2 : Fm w1 w2) : Fm w w2 := fun k cs E fr hk h3 h4 => h2 k cs E fr (h k cs E fr hk h3 h4) h3 h4
theorem Fm.below {w w' : World} (h : Below w.heap.size w w') : Fm w w' := fun k _ _ _ hk _ _ => (h.block k (Array.getElem?_eq_some_iff.1 hk).1).trans hk
theorem Fm.grown {w w' : World} {r : Nat} (hg : w.grownBy w' (some r)) (hr : ∀ cs E fr, w.heap[r]? = some (.cells cs E fr) → E = 132 ∨ E = 113) : Fm w w' := fun k cs E fr hk h3 h4 => by
  refine (hg.block k (Array.getElem?_eq_some_iff.1 hk).1 ?_).trans hk
  intro e
  injection e with e
  subst e
  rcases hr _ _ _ hk with h | h
  · exact h3 h
  · exact h4 h
theorem Fm.row {w w' : World} (h : Fm w w') {B E s n : Nat} {v : Value} {xs : List Value} (ho : w.ownsRow B E s v n xs) (h3 : E ≠ 132) (h4 : E ≠ 113) : w'.ownsRow B E s v n xs := by
  obtain ⟨h1, h2⟩ := ho
  refine ⟨h1, h2.imp id ?_⟩
  rintro ⟨g, cap, cur, hv, hB, hh, hr⟩
  exact ⟨g, cap, cur, hv, hB, h g _ _ _ hh h3 h4, hr⟩
theorem Fm.owb {w w' : World} (h : Fm w w') {B : Nat} {v : Value} {l : List UInt8} (ho : OwB w B 5 v l) : OwB w' B 5 v l := h.row ho (by decide) (by decide)

/-- The disk is now so. -/
def St (B a mb : Nat) (tv : Value) (dd : D) (w w' : World) : Prop := Below B w w' ∧ Fm w w' ∧ ∃ L F, Da w' B a mb L F tv dd
theorem St.on {B a mb : Nat} {tv : Value} {dd : D} {w0 w w' : World} (h : St B a mb tv dd w w') (hb : Below B w0 w) (hf : Fm w0 w) : St B a mb tv dd w0 w' := ⟨hb.trans h.1, hf.trans h.2.1, h.2.2⟩

/-- What an operation gives, of its refusal, and of the disks behind it. -/
def opX (d : D) (code : Int) (dP : Int → D) (dD : D) : Int × D :=
  if d.down then (45, d) else
  if code ≠ 0 then (code, { d with ops := d.ops + 1 }) else
  match trouble d.tr (d.ops + 1) with
  | none => (0, dD)
  | some (tk, p) => if tk = 3 then (45, { dP p with down := true }) else (39 + tk, dP p)

def OpP (B a mb : Nat) (tv : Value) (X : Int × D) (w : World) (e : Ending) (w' : World) : Prop := e = .returned (.int .i64 X.1) ∧ St B a mb tv X.2 w w'

theorem trouble_kd {tr : List Tr} {n : Nat} {k p : Int} (h : trouble tr n = some (k, p)) : 1 ≤ k ∧ k ≤ 3 := by
  unfold trouble at h
  obtain ⟨t, h1, h2⟩ := Option.map_eq_some_iff.1 h
  have := List.find?_some h1
  unfold hits at this
  rw [h2] at this
  simp at this
  exact this.2

set_option maxHeartbeats 1000000 in
set_option maxRecDepth 100000 in
theorem operate_any (w : World) (B a mb : Nat) (L : Al Nat) (F : Nat → Fl) (tv : Value) (d : D) (h : Da w B a mb L F tv d) (hops : d.ops ≤ 1000000) (htl : d.tr.length ≤ 1000000)
    (nR nP nD : FuncId) (capR capP capD : Array Value) (code : Int) (dP : Int → D) (dD : D)
    (eR : ∀ args w, (callFunc nR args).run Tryz.prog w = .ok (.enter nR args) w) (eP : ∀ args w, (callFunc nP args).run Tryz.prog w = .ok (.enter nP args) w) (eD : ∀ args w, (callFunc nD args).run Tryz.prog w = .ok (.enter nD args) w)
    (hR : ∀ w1, Below w.heap.size (w.setCell ⟨a, 3, none⟩ (.int .i64 ((d.ops + 1 : Nat)))) w1 → Calls Tryz.prog nR capR w1 fun e w2 => e = .returned (.int .i64 code) ∧ Below w1.heap.size w1 w2)
    (hP : ∀ w1 p, Below w.heap.size (w.setCell ⟨a, 3, none⟩ (.int .i64 ((d.ops + 1 : Nat)))) w1 → code = 0 → Calls Tryz.prog nP (#[.int .i64 p] ++ capP) w1 fun e w2 => e = .returned (.tuple #[]) ∧ St B a mb tv (dP p) w1 w2)
    (hD : ∀ w1, Below w.heap.size (w.setCell ⟨a, 3, none⟩ (.int .i64 ((d.ops + 1 : Nat)))) w1 → code = 0 → Calls Tryz.prog nD capD w1 fun e w2 => e = .returned (.tuple #[]) ∧ St B a mb tv dD w1 w2) :
    Calls Tryz.prog 127 #[.pointer (some ⟨a, 0, none⟩), .func (.func nR) #[] capR, .func (.func nP) #[] capP, .func (.func nD) #[] capD] w (OpP B a mb tv (opX d code dP dD) w) := by
  have c4 : w.cell? ⟨a, 4, none⟩ = some (.bool d.down) := by simp [World.cell?, h.blk]
  have hB : B ≤ w.heap.size := Nat.le_trans h.base.1 (Nat.le_of_lt h.alt)
  cases hdn : d.down with
  | true =>
    rw [hdn] at c4
    have hX : opX d code dP dD = (45, d) := by unfold opX; rw [hdn]; rfl
    rw [hX]
    have h' := Lib.hid h
    clear h hX hdn hR hP hD
    go_enter Tryz.func127, Tryz.ntmps127
    go_wp2_with fail
    go_ret
    exact ⟨rfl, Below.refl _ _, Fm.refl _, L, F, h'.out⟩
  | false =>
    rw [hdn] at c4
    have ht := trouble_any w B a mb L F tv d h hops htl
    obtain ⟨hD2, hb2⟩ := h.setOps (d.ops + 1)
    have halt := h.alt
    obtain ⟨W, hW⟩ : ∃ W, w.setCell ⟨a, 3, none⟩ (.int .i64 ((d.ops + 1 : Nat))) = W := ⟨_, rfl⟩
    have hWs : W.heap.size = w.heap.size := by rw [← hW]; exact set_size _ _ _
    rw [hW] at ht hD2 hb2 hR hP hD
    have hX : opX d code dP dD = if code ≠ 0 then (code, { d with ops := d.ops + 1 }) else
      match trouble d.tr (d.ops + 1) with
      | none => (0, dD)
      | some (tk, p) => if tk = 3 then (45, { dP p with down := true }) else (39 + tk, dP p) := by
        unfold opX
        rw [hdn]
        rfl
    obtain ⟨X, hXe⟩ : ∃ X, opX d code dP dD = X := ⟨_, rfl⟩
    rw [hXe] at hX ⊢
    have hX' := Lib.hid hX
    have hR' := Lib.hid hR
    have hP' := Lib.hid hP
    have hD' := Lib.hid hD
    have hD2' := Lib.hid hD2
    have hb2' := Lib.hid hb2
    have hWs' := Lib.hid hWs
    have hWe : Hid (w.setCell ⟨a, 3, none⟩ (.int .i64 ((d.ops + 1 : Nat))) = W) := Lib.hid hW
    have hAfm : Hid (∀ cs E fr, w.heap[a]? = some (.cells cs E fr) → E = 132 ∨ E = 113) := Lib.hid (fun cs E fr he => by rw [h.blk] at he; injection he with he; injection he with _ he _; exact .inr he.symm)
    have heR := Lib.hid eR
    have heP := Lib.hid eP
    have heD := Lib.hid eD
    clear hX hXe hR hP hD hD2 hb2 hW hWs h hdn eR eP eD
    go_enter Tryz.func127, Tryz.ntmps127
    go_wp2_with fail
    refine ht.mono ?_
    rintro e w1 ⟨hb1, at_, kd, pt, bef, rfl, hm⟩
    have hb1' := Lib.hid hb1
    have hm' := Lib.hid hm
    have eR := heR.out
    clear ht hb1 hm c4
    go_wp2_with fail
    have hN : w.heap.size ≤ w1.heap.size := by have := hb1'.out.size; have := hWs'.out; omega
    have hba := Lib.hid (hb1'.out.trans ((below_alloc w1 (.cells #[.int .i64 at_, .int .i64 kd, .int .i64 pt] 121)).mono hN))
    have hnew := heap_alloc_new w1 (.cells #[.int .i64 at_, .int .i64 kd, .int .i64 pt] 121)
    obtain ⟨T, hT⟩ : ∃ T, w1.heap.size = T := ⟨_, rfl⟩
    rw [hT] at hnew hN ⊢
    obtain ⟨wa, hwa⟩ : ∃ wa, w1.alloc (.cells #[.int .i64 at_, .int .i64 kd, .int .i64 pt] 121) = wa := ⟨_, rfl⟩
    rw [hwa] at hba hnew ⊢
    have hTs : T < wa.heap.size := (Array.getElem?_eq_some_iff.1 hnew).1
    have hnew' := Lib.hid hnew
    clear hT hwa hnew
    refine (hR'.out wa hba.out).mono ?_
    rintro e w2 ⟨rfl, hb2⟩
    have hb2'' := Lib.hid (hba.out.trans (hb2.mono (by omega)))
    have hT2 := Lib.hid ((hb2.block T hTs).trans hnew'.out)
    have hfm1 : Fm w W := by rw [← hWe.out]; exact Fm.grown (grown_set w ⟨a, 3, none⟩ _) hAfm.out
    have hfm0 : Hid (Fm w w2) := Lib.hid (hfm1.trans (Fm.below (by rw [hWs'.out]; exact hb2''.out)))
    clear hfm1
    have hbw2 : Hid (Below B w w2) := Lib.hid (hb2'.out.trans (hb2''.out.mono hB))
    clear hb2 eR
    by_cases hc : code = 0
    · have i0 : (code != 0) = false := by rw [bne_eq_false_iff_eq]; exact hc
      have hc' := Lib.hid hc
      have hX2 : Hid (X = match trouble d.tr (d.ops + 1) with
        | none => (0, dD)
        | some (tk, p) => if tk = 3 then (45, { dP p with down := true }) else (39 + tk, dP p)) := Lib.hid (by rw [hX'.out, if_neg (by rw [hc]; simp)])
      clear hc
      cases htr : trouble d.tr (d.ops + 1) with
      | none =>
        rw [htr] at hm' hX2
        obtain rfl : bef = false := hm'.out
        have hX3 : Hid (X = (0, dD)) := Lib.hid hX2.out
        have eD := heD.out
        clear htr hm' hX2 hX'
        go_wp2_with fail
        refine (hD'.out w2 hb2''.out hc'.out).mono ?_
        rintro e w3 ⟨rfl, hst⟩
        have hst' := Lib.hid (hst.on hbw2.out hfm0.out)
        clear hst eD
        go_wp2_with fail
        go_ret
        rw [hX3.out]
        exact ⟨rfl, hst'.out⟩
      | some z =>
        obtain ⟨tk, p⟩ := z
        have hk := trouble_kd htr
        rw [htr] at hm' hX2
        obtain ⟨rfl, rfl, rfl⟩ : bef = true ∧ kd = tk ∧ pt = p := hm'.out
        have hX3 : Hid (X = if kd = 3 then (45, { dP pt with down := true }) else (39 + kd, dP pt)) := Lib.hid hX2.out
        have eP := heP.out
        have k2 : w2.cell? ⟨T, 2, none⟩ = some (.int .i64 pt) := by simp [World.cell?, hT2.out]
        clear htr hm' hX2 hX'
        go_wp2_with fail
        refine (hP'.out w2 pt hb2''.out hc'.out).mono ?_
        rintro e w3 ⟨rfl, hst⟩
        have hT3 := Lib.hid (hst.2.1 T _ _ _ hT2.out (by decide) (by decide))
        have hst' := Lib.hid (hst.on hbw2.out hfm0.out)
        have k1 : w3.cell? ⟨T, 1, none⟩ = some (.int .i64 kd) := by simp [World.cell?, hT3.out]
        clear hst eP k2
        by_cases h1 : kd = 1
        · have j1 : (kd == 1) = true := by rw [beq_iff_eq]; exact h1
          have hX4 : Hid (X = (40, dP pt)) := Lib.hid (by rw [hX3.out, if_neg (by omega), h1]; rfl)
          clear h1
          go_wp2_with fail
          go_ret
          rw [hX4.out]
          exact ⟨rfl, hst'.out⟩
        · have j1 : (kd == 1) = false := by rw [beq_eq_false_iff_ne]; exact h1
          by_cases h2 : kd = 2
          · have j2 : (kd == 2) = true := by rw [beq_iff_eq]; exact h2
            have hX4 : Hid (X = (41, dP pt)) := Lib.hid (by rw [hX3.out, if_neg (by omega), h2]; rfl)
            clear h1 h2
            go_wp2_with fail
            go_ret
            rw [hX4.out]
            exact ⟨rfl, hst'.out⟩
          · have j2 : (kd == 2) = false := by rw [beq_eq_false_iff_ne]; exact h2
            have hX4 : Hid (X = (45, { dP pt with down := true })) := Lib.hid (by rw [hX3.out, if_pos (by omega)])
            obtain ⟨g1, g2, L3, F3, hD3⟩ := hst'.out
            have c4 : w3.cell? ⟨a, 4, none⟩ = some (.bool (dP pt).down) := by simp [World.cell?, hD3.blk]
            have f4 : w3.frozen? ⟨a, 4, none⟩ = false := frozen_of_row w3 a 4 _ _ hD3.blk
            obtain ⟨hD4, hb4⟩ := hD3.setDown true
            have hfa : Fm w3 (w3.setCell ⟨a, 4, none⟩ (.bool true)) := Fm.grown (grown_set w3 ⟨a, 4, none⟩ _) (fun cs E fr he => by rw [hD3.blk] at he; injection he with he; injection he with _ he _; exact .inr he.symm)
            have hfin : Hid (St B a mb tv { dP pt with down := true } w (w3.setCell ⟨a, 4, none⟩ (.bool true))) := Lib.hid ⟨g1.trans hb4, g2.trans hfa, L3, F3, hD4⟩
            clear h1 h2 g1 g2 hD3 hD4 hb4 hfa
            go_wp2_with fail
            go_ret
            rw [hX4.out]
            exact ⟨rfl, hfin.out⟩
    · have i0 : (code != 0) = true := by rw [bne_iff_ne]; exact hc
      have hX2 : Hid (X = (code, { d with ops := d.ops + 1 })) := Lib.hid (by rw [hX'.out, if_pos hc])
      clear hc hX'
      go_wp2_with fail
      go_ret
      rw [hX2.out]
      exact ⟨rfl, hbw2.out, hfm0.out, L, F, hD2'.out.below (by rw [hWs'.out]; exact hb2''.out)⟩
end Go.Proofs.YtfdpnjebhllpkaaGreatDoor.Dk
end

section
namespace Go.Proofs.YtfdpnjebhllpkaaGreatDoor.Dk
open Go.RowKit

/-- What the closures of an operation captured: the disk, a name. -/
structure Cp (w : World) (bd bn a : Nat) (s : ByteArray) : Prop where
  bd : w.cell? ⟨bd, 0, none⟩ = some (.pointer (some ⟨a, 0, none⟩))
  bn : w.cell? ⟨bn, 0, none⟩ = some (.string s)

theorem Da.len_eq {w : World} {B a mb : Nat} {L : Al Nat} {F : Nat → Fl} {tv : Value} {d : D} (h : Da w B a mb L F tv d) : d.fs.length = L.length := by rw [h.fs, List.length_map]
theorem Da.c1 {w : World} {B a mb : Nat} {L : Al Nat} {F : Nat → Fl} {tv : Value} {d : D} (h : Da w B a mb L F tv d) : w.cell? ⟨a, 1, none⟩ = some (.map (some mb)) := by simp [World.cell?, h.blk]

theorem len_run {w : World} {B a mb : Nat} {L : Al Nat} {F : Nat → Fl} {tv : Value} {d : D} (h : Da w B a mb L F tv d) (ty : TypeId) : (Builtin.len_ #[111] ty #[.map (some mb)]).run Tryz.prog w = .ok (.int .i64 (d.fs.length : Nat)) w := by
  rw [h.own.len Tryz.underlying111 ty, mp_size, h.len_eq]

set_option maxHeartbeats 1000000 in
set_option maxRecDepth 100000 in
theorem create1 (w : World) (B a mb : Nat) (L : Al Nat) (F : Nat → Fl) (tv : Value) (d : D) (h : Da w B a mb L F tv d) (s : ByteArray) (hs : s.size ≤ 1000000) (bd bn : Nat) (hc : Cp w bd bn a s) (hbd : bd < w.heap.size) (hfl : d.fs.length ≤ 1000) :
    Calls Tryz.prog 126 #[.pointer (some ⟨bn, 0, none⟩), .pointer (some ⟨bd, 0, none⟩)] w fun e w' => e = .returned (.int .i64 (refuse d 1 s.data.toList [] 0 [])) ∧ Below w.heap.size w w' := by
  obtain ⟨k1, k2⟩ := hc
  have hr : refuse d 1 s.data.toList [] 0 [] = if may s.data.toList = false then 44 else if (Dk.get d.fs s.data.toList).isSome then 43 else if 64 ≤ d.fs.length then 40 else 0 := rfl
  obtain ⟨X, hX⟩ : ∃ X, refuse d 1 s.data.toList [] 0 [] = X := ⟨_, rfl⟩
  rw [hX] at hr ⊢
  have hr' := Lib.hid hr
  have hm := may_any s (by omega) w
  obtain ⟨M, hM⟩ : ∃ M, may s.data.toList = M := ⟨_, rfl⟩
  rw [hM] at hm
  have hM' := Lib.hid hM
  have h' := Lib.hid h
  clear hr hX hM h
  go_enter Tryz.func126, Tryz.ntmps126
  go_wp2_with fail
  refine hm.mono ?_
  rintro e w1 ⟨rfl, hb1⟩
  have hb1' := Lib.hid hb1
  cases M with
  | false =>
    have hX2 : Hid (X = 44) := Lib.hid (by rw [hr'.out, if_pos hM'.out])
    clear hb1 hr'
    go_wp2_with fail
    go_ret
    exact ⟨ret_int hX2.out.symm, hb1'.out⟩
  | true =>
    have h1 := h'.out.below hb1
    have g1 := (hb1.cell (p := ⟨bd, 0, none⟩) hbd).trans k1
    have g2 : w1.cell? ⟨bn, 0, none⟩ = some (.string s) := (hb1.cell (p := ⟨bn, 0, none⟩) (by
      rcases Nat.lt_or_ge bn w.heap.size with h | h
      · exact h
      · simp [World.cell?, Array.getElem?_eq_none h] at k2)).trans k2
    have c1 := h1.c1
    have hlk := fun q => (h1.below (Joins.below_draws _ w1 q)).look s (by unfold maxLen; omega)
    have hln := fun q => len_run (h1.below (Joins.below_draws _ w1 q)) 3
    have hg := h1.get s.data.toList
    obtain ⟨G, hG⟩ : ∃ G, Dk.get L s.data.toList = G := ⟨_, rfl⟩
    rw [hG] at hg hlk
    have hg' := Lib.hid hg
    clear hb1 hG hg h1 k1 k2
    cases G with
    | some b =>
      have hX2 : Hid (X = 43) := Lib.hid (by rw [hr'.out, if_neg (by rw [hM'.out]; decide), hg'.out]; rfl)
      simp only [Option.map_some] at hlk
      clear hr' hln
      go_wp2_with fail
      go_big_quiet (fail)
      go_wp2_with fail
      go_ret
      exact ⟨ret_int hX2.out.symm, hb1'.out.trans ((Joins.below_draws _ _ _).mono hb1'.out.size)⟩
    | none =>
      simp only [Option.map_none] at hlk
      have hX1 : Hid (X = if 64 ≤ d.fs.length then 40 else 0) := Lib.hid (by rw [hr'.out, if_neg (by rw [hM'.out]; decide), hg'.out]; rfl)
      obtain ⟨n, hn⟩ : ∃ n, d.fs.length = n := ⟨_, rfl⟩
      rw [hn] at hln hX1 hfl
      clear hr' hn
      by_cases h64 : 64 ≤ n
      · have j1 : decide ((64 : Int) ≤ (n : Int)) = true := by simp; omega
        have hX2 : Hid (X = 40) := Lib.hid (by rw [hX1.out, if_pos h64])
        go_wp2_with fail
        go_big_quiet (fail)
        go_wp2_with fail
        go_ret
        exact ⟨ret_int hX2.out.symm, hb1'.out.trans ((Joins.below_draws _ _ _).mono hb1'.out.size)⟩
      · have j1 : decide ((64 : Int) ≤ (n : Int)) = false := by simp; omega
        have hX2 : Hid (X = 0) := Lib.hid (by rw [hX1.out, if_neg h64])
        go_wp2_with fail
        go_big_quiet (fail)
        go_wp2_with fail
        go_ret
        exact ⟨ret_int hX2.out.symm, hb1'.out.trans ((Joins.below_draws _ _ _).mono hb1'.out.size)⟩

theorem not_mem_get {l : Al Nat} {nm : Name} (h : Dk.get l nm = none) : del nm l = l := by
  unfold del
  rw [List.filter_eq_self]
  intro p hp
  have := get_none.1 h p hp
  simpa using this

/-- A new file's block is laid, and its name. -/
theorem Da.addF {w w' : World} {B a mb : Nat} {L : Al Nat} {F : Nat → Fl} {tv : Value} {d : D} (h : Da w B a mb L F tv d) {nm : Name} {b n : Nat} {f : Fl} (hf : FileAt w B b f) (hfr : ∀ p ∈ L, p.2 ≠ b) (hno : Dk.get L nm = none)
    (hg : w.grownBy w' (some mb)) (hown : w'.ownsMap Tryz.prog 9 ptrElem mb n ((mp L).put (.string nm) (.lit (.int .i64 (b : Nat))))) :
    Da w' B a mb (ins nm b L) (fun x => if x = b then f else F x) tv { d with fs := ins nm f d.fs } := by
  rw [mp_put, not_mem_get hno] at hown
  have hn := get_none.1 hno
  have e : (ins nm b L).map (fun p => (p.1, if p.2 = b then f else F p.2)) = ins nm f d.fs := by
    rw [h.fs, ins_map (fun x => if x = b then f else F x), if_pos rfl]
    congr 1
    apply List.map_congr_left
    intro p hp
    rw [if_neg (hfr p hp)]
  have hm := h.setM hg (F' := fun x => if x = b then f else F x) hown (ins_up h.up hn) ?_ ?_
  · rw [e] at hm
    exact hm
  · have hp : ((ins nm b L).map (·.2)).Perm (b :: L.map (·.2)) := by
      clear hown hn e hno hfr h
      induction L with
      | nil => exact List.Perm.refl _
      | cons p l ih =>
        rw [ins]
        split
        · exact List.Perm.refl _
        · exact (List.Perm.cons _ ih).trans (List.Perm.swap _ _ _)
    refine hp.nodup_iff.2 (List.nodup_cons.2 ⟨fun hb => ?_, h.nd⟩)
    obtain ⟨p, h1, h2⟩ := List.mem_map.1 hb
    exact hfr p h1 h2
  · intro p hp
    rcases ins_mem.1 hp with rfl | hp
    · exact .inr (by rw [if_pos rfl]; exact hf)
    · exact .inl ⟨hp, by rw [if_neg (hfr p hp)]⟩

theorem bD {B : Nat} {a w : World} (h : Below B a w) : Below B a w.drew := h.trans (Joins.below_draws _ w 1)
theorem bN {B : Nat} {a w : World} (h : Below B a w) (k : Nat) : Below B a (w.drewN k) := h.trans (Joins.below_draws _ w k)
theorem bA {a w : World} (h : Below a.heap.size a w) (o : Obj) : Below a.heap.size a (w.alloc o) := h.alloc h.size o

/-- 'm[k] = v', as a step of a region that draws. -/
theorem step_mapUpdate {H : Type} {P : Program} {ops : Array Oper} {o : Oper} {a : Act} {K : Act → World → Prop} {Q : Exit → Act → World → Prop} {E0 : Prop} (w : World) (hgd : o.guard = none) (m x v : Operand) (t : TypeId) (hop : o.op = Op.mapUpdate t m x v)
    (k e : TypeId) (KK : Maps.Keyed P k) (ht : P.underlying t = some (.map k e)) (R : Value → Option (DataW H × List MemPlace)) (b n : Nat) (D : DataW H)
    (hm : a.eval m = .map (some b)) (hown : w.ownsMap P k R b n D) (hn : n < maxLen) (key val : Value) (kl : Lit) (hx : a.eval x = key) (hv : a.eval v = val) (hkey : keyOf P k key = some kl)
    (d : DataW H) (ps : List MemPlace) (hval : R val = some (d, ps))
    (h : ∀ w', w'.ownsMap P k R b (n + 1) (D.put kl d) → w.grownBy w' (some b) → K (a.put o.dst undef) w') :
    if Region.wanted o (yielded ops a.tmps) = true then Oper.wp P o a w K Q else E0 := by
  have hw : Region.wanted o (yielded ops a.tmps) = true := by simp [Region.wanted, hgd]
  rw [if_pos hw]
  obtain ⟨w', hrun, r1, r2⟩ := hown.update KK ht hn hkey hval
  unfold Oper.wp
  simp [execOp, hop, hm, hx, hv, hrun, Result.andThen]
  exact h w' r1 r2

theorem new_file {w : World} {V : Nat} (h : w.heap.size = V) : (w.alloc (.cells #[.slice none 0 0, .int .i64 0] 132)).heap[V]? = some (.cells #[.slice none 0 0, .int .i64 0] 132) := by
  subst h
  exact heap_alloc_new w _
theorem size_drewN (w : World) (k : Nat) : (w.drewN k).heap.size = w.heap.size := by simp

theorem create_end {w W w' : World} {B a mb n V : Nat} {L : Al Nat} {F : Nat → Fl} {tv : Value} {d : D} (h : Da w B a mb L F tv d) {nm : Name} (hno : Dk.get L nm = none) (hV : w.heap.size = V) (hW : Below w.heap.size w W)
    (hnew : W.heap[V]? = some (.cells #[.slice none 0 0, .int .i64 0] 132)) (hown : w'.ownsMap Tryz.prog 9 ptrElem mb n ((mp L).put (.string nm) (.lit (.int .i64 (V : Nat))))) (hg : W.grownBy w' (some mb)) :
    St B a mb tv { d with fs := act d.fs 1 nm [] 0 [] } w w' := by
  have hB := h.base
  have h1 := h.below hW
  have hm := h.mlt
  have hf : FileAt W B V ⟨[], 0⟩ := ⟨by rw [← hV]; omega, _, hnew, OwB.nil _ _ _⟩
  have h2 := h1.addF (n := n) hf (fun p hp => by have := (h.files p hp).lt; omega) hno hg hown
  refine ⟨(hW.mono (by omega)).trans (below_row hg hB.2 (by have := hW.size; omega)), (Fm.below hW).trans (Fm.grown hg fun cs E fr he => ?_), _, _, h2⟩
  obtain ⟨es, cl, hmb⟩ := h1.mblk
  rw [hmb] at he
  cases he

set_option maxHeartbeats 1000000 in
set_option maxRecDepth 100000 in
theorem create2 (w : World) (B a mb : Nat) (L : Al Nat) (F : Nat → Fl) (tv : Value) (d : D) (h : Da w B a mb L F tv d) (s : ByteArray) (hs : s.size ≤ 1000000) (bd bn : Nat) (hc : Cp w bd bn a s) (hno : Dk.get L s.data.toList = none) (hfl : d.fs.length ≤ 1000) :
    Calls Tryz.prog 129 #[.pointer (some ⟨bd, 0, none⟩), .pointer (some ⟨bn, 0, none⟩)] w fun e w' => e = .returned (.tuple #[]) ∧ St B a mb tv { d with fs := act d.fs 1 s.data.toList [] 0 [] } w w' := by
  obtain ⟨k1, k2⟩ := hc
  have c1 := h.c1
  have hmlt := h.mlt
  have halt := h.alt
  have lt1 : bd < w.heap.size := by
    rcases Nat.lt_or_ge bd w.heap.size with h | h
    · exact h
    · simp [World.cell?, Array.getElem?_eq_none h] at k1
  have lt2 : bn < w.heap.size := by
    rcases Nat.lt_or_ge bn w.heap.size with h | h
    · exact h
    · simp [World.cell?, Array.getElem?_eq_none h] at k2
  have d1 : ∀ o, (w.alloc o).cell? ⟨bd, 0, none⟩ = some (.pointer (some ⟨a, 0, none⟩)) := fun o => ((below_alloc w o).cell (p := ⟨bd, 0, none⟩) lt1).trans k1
  have d2 : ∀ o, (w.alloc o).cell? ⟨bn, 0, none⟩ = some (.string s) := fun o => ((below_alloc w o).cell (p := ⟨bn, 0, none⟩) lt2).trans k2
  have d3 : ∀ o, (w.alloc o).cell? ⟨a, 1, none⟩ = some (.map (some mb)) := fun o => ((below_alloc w o).cell (p := ⟨a, 1, none⟩) halt).trans c1
  have hl := h.len_eq
  have hlm : L.length < maxLen := by unfold maxLen; omega
  have hkey := WideMaps.keyOf_string_mk (P := Tryz.prog) Tryz.underlying9 (s := s) (by unfold maxLen; omega)
  have hbW : Below w.heap.size w (w.alloc (.cells #[.slice none 0 0, .int .i64 0] 132)).drew := bD (below_alloc w _)
  obtain ⟨w', hrun, h1, h2⟩ := (h.below hbW).own.update law_str Tryz.underlying111 hlm hkey (val := .pointer (some ⟨w.heap.size, 0, none⟩)) (d := .lit (.int .i64 (w.heap.size : Nat))) (ps := []) rfl
  have hst := Lib.hid (create_end h hno rfl hbW (heap_alloc_new w _) h1 h2)
  clear h hno hl hkey lt1 lt2 halt hmlt h1 h2 hbW
  go_enter Tryz.func129, Tryz.ntmps129
  go_wp2_with fail
  go_region
  all_goals clear d1 d2 d3 k1 k2 c1 hrun
  all_goals go_wp2_with fail
  all_goals go_end0
  all_goals exact ⟨rfl, hst.out⟩
end Go.Proofs.YtfdpnjebhllpkaaGreatDoor.Dk
end

section
namespace Go.Proofs.YtfdpnjebhllpkaaGreatDoor.Dk
open Go.RowKit

theorem op_eq (d : D) (k : Nat) (nm nt : Name) (n : Int) (b : List UInt8) : op d k nm nt n b = opX d (refuse d k nm nt n b) (fun p => { d with ops := d.ops + 1, fs := part d.fs k nm p b }) { d with ops := d.ops + 1, fs := act d.fs k nm nt n b } := rfl

theorem make_func : ∀ (fn : Fn) (first cap : Array Value) (w : World), (Instr.makeFunc fn first cap).run Tryz.prog w = .ok (.func fn first cap) w := fun _ _ _ _ => rfl

theorem nothing_any (p : Int) (w : World) : Calls Tryz.prog 128 #[.int .i64 p] w fun e w' => e = .returned (.tuple #[]) ∧ w' = w := by
  go_enter Tryz.func128, Tryz.ntmps128
  go_wp2_with fail
  go_end0
  exact ⟨rfl, rfl⟩

theorem St.same {w : World} {B a mb : Nat} {L : Al Nat} {F : Nat → Fl} {tv : Value} {d : D} (h : Da w B a mb L F tv d) : St B a mb tv d w w := ⟨Below.refl _ _, Fm.refl _, L, F, h⟩

theorem Cp.below {w w' : World} {bd bn a : Nat} {s : ByteArray} {N : Nat} (h : Cp w bd bn a s) (h1 : bd < N) (h2 : bn < N) (hb : Below N w w') : Cp w' bd bn a s := ⟨(hb.cell (p := ⟨bd, 0, none⟩) h1).trans h.bd, (hb.cell (p := ⟨bn, 0, none⟩) h2).trans h.bn⟩
theorem Cp.set {w : World} {bd bn a i c : Nat} {s : ByteArray} (h : Cp w bd bn a s) (h1 : bd ≠ c) (h2 : bn ≠ c) (x : Value) : Cp (w.setCell ⟨c, i, none⟩ x) bd bn a s := by
  have hg := grown_set w ⟨c, i, none⟩ x
  exact ⟨hg.cell h.bd (by simp; exact h1), hg.cell h.bn (by simp; exact h2)⟩

/-- The two boxes are laid. -/
theorem boxes (w : World) (a : Nat) (s : ByteArray) : Cp ((w.alloc (.cells #[.pointer (some ⟨a, 0, none⟩)] 39)).alloc (.cells #[.string s] 9)) w.heap.size (w.heap.size + 1) a s ∧
    Below w.heap.size w ((w.alloc (.cells #[.pointer (some ⟨a, 0, none⟩)] 39)).alloc (.cells #[.string s] 9)) ∧
    ((w.alloc (.cells #[.pointer (some ⟨a, 0, none⟩)] 39)).alloc (.cells #[.string s] 9)).heap.size = w.heap.size + 2 := by
  refine ⟨⟨?_, ?_⟩, bA (below_alloc _ _) _, by simp⟩
  · simp
  · simp

set_option maxHeartbeats 1000000 in
set_option maxRecDepth 100000 in
theorem Create_any (w : World) (B a mb : Nat) (L : Al Nat) (F : Nat → Fl) (tv : Value) (d : D) (h : Da w B a mb L F tv d) (hops : d.ops ≤ 1000000) (htl : d.tr.length ≤ 1000000) (hfl : d.fs.length ≤ 1000) (s : ByteArray) (hs : s.size ≤ 1000000) :
    Calls Tryz.prog 70 #[.pointer (some ⟨a, 0, none⟩), .string s] w (OpP B a mb tv (op d 1 s.data.toList [] 0 []) w) := by
  obtain ⟨hcp, hb2, hsz⟩ := boxes w a s
  have hmf := make_func
  have halt := h.alt
  have hB := h.base
  obtain ⟨b0, hb0⟩ : ∃ b0, w.heap.size = b0 := ⟨_, rfl⟩
  rw [hb0] at hcp hsz halt
  have h2 := h.below hb2
  have kd : ((w.alloc (.cells #[.pointer (some ⟨a, 0, none⟩)] 39)).alloc (.cells #[.string s] 9)).cell? ⟨b0, 0, none⟩ = some (.pointer (some ⟨a, 0, none⟩)) := hcp.bd
  obtain ⟨w2, hw2⟩ : ∃ w2, (w.alloc (.cells #[.pointer (some ⟨a, 0, none⟩)] 39)).alloc (.cells #[.string s] 9) = w2 := ⟨_, rfl⟩
  rw [hw2] at hcp hb2 hsz h2 kd
  have hcp' := hcp.set (i := 3) (c := a) (by omega) (by omega) (.int .i64 ((d.ops + 1 : Nat)))
  obtain ⟨hD2, _⟩ := h2.setOps (d.ops + 1)
  have hcode : ∀ n, refuse { d with ops := n } 1 s.data.toList [] 0 [] = refuse d 1 s.data.toList [] 0 [] := fun _ => rfl
  have hop := operate_any w2 B a mb L F tv d h2 hops htl 126 128 129 #[.pointer (some ⟨b0 + 1, 0, none⟩), .pointer (some ⟨b0, 0, none⟩)] #[] #[.pointer (some ⟨b0, 0, none⟩), .pointer (some ⟨b0 + 1, 0, none⟩)]
    (refuse d 1 s.data.toList [] 0 []) (fun p => { d with ops := d.ops + 1, fs := part d.fs 1 s.data.toList p [] }) { d with ops := d.ops + 1, fs := act d.fs 1 s.data.toList [] 0 [] }
    (enters_of Tryz.func126 (by kernel_rfl) rfl) (enters_of Tryz.func128 (by kernel_rfl) rfl) (enters_of Tryz.func129 (by kernel_rfl) rfl)
    (fun w1 hb1 => by
      have hD1 := hD2.below (by rw [set_size]; exact hb1)
      have := create1 w1 B a mb L F tv _ hD1 s hs b0 (b0 + 1) (hcp'.below (by omega) (by omega) hb1) (by have := hb1.size; rw [set_size] at this; omega) hfl
      rw [hcode] at this
      exact this)
    (fun w1 p hb1 _ => (nothing_any p w1).mono (by
      rintro e w3 ⟨rfl, rfl⟩
      exact ⟨rfl, St.same (hD2.below (by rw [set_size]; exact hb1))⟩))
    (fun w1 hb1 hc0 => by
      have hD1 := hD2.below (by rw [set_size]; exact hb1)
      have hno : Dk.get L s.data.toList = none := by
        unfold refuse at hc0
        rw [if_pos rfl] at hc0
        split at hc0
        · omega
        split at hc0
        · omega
        rename_i hns
        rw [h.get] at hns
        cases hg : Dk.get L s.data.toList with
        | none => rfl
        | some b => rw [hg] at hns; exact absurd rfl hns
      exact create2 w1 B a mb L F tv _ hD1 s hs b0 (b0 + 1) (hcp'.below (by omega) (by omega) hb1) hno hfl)
  rw [← op_eq] at hop
  have hop' := Lib.hid hop
  have hb2' := Lib.hid hb2
  have hB' := Lib.hid hB
  clear hop hcp hcp' hD2 h2 h hcode hsz hb2 hB
  go_enter Tryz.func70, Tryz.ntmps70
  go_wp2_with fail
  refine hop'.out.mono ?_
  rintro e w3 ⟨rfl, hst⟩
  have hst' := Lib.hid hst
  clear hst hmf
  go_wp2_with fail
  go_ret
  exact ⟨rfl, hst'.out.on (hb2'.out.mono (by have := hB'.out; omega)) (Fm.below hb2'.out)⟩
end Go.Proofs.YtfdpnjebhllpkaaGreatDoor.Dk
end

section
namespace Go.Proofs.YtfdpnjebhllpkaaGreatDoor.Dk
open Go.RowKit

theorem info_u8 : (Tryz.prog.info? 5).map (fun i => (i.zero, i.size, i.bytes)) = some (some (.int .u8 0), 1, 1) := by kernel_rfl

theorem bsl_lit2 (w : World) (E : TypeId) (A0 A1 : Option Addr) (n0 n1 c0 c1 : Nat) (l0 l1 : List UInt8) (h0 : Bs w A0 n0 c0 l0) (h1 : Bs w A1 n1 c1 l1) :
    BsL (w.alloc (.cells #[.slice A0 n0 c0, .slice A1 n1 c1] E)) (some ⟨w.heap.size, 0, none⟩) 2 2 [l0, l1] := by
  have hb := below_alloc w (.cells #[.slice A0 n0 c0, .slice A1 n1 c1] E)
  refine ⟨[.slice A0 n0 c0, .slice A1 n1 c1], ⟨rfl, by omega, by omega, fun h => by simp at h, fun _ => ⟨_, _, rfl, by simp, fun j u hu => ?_⟩⟩, rfl, fun j u hu => ?_⟩
  · have hh : (w.alloc (.cells #[.slice A0 n0 c0, .slice A1 n1 c1] E)).heap[w.heap.size]? = some (.cells #[.slice A0 n0 c0, .slice A1 n1 c1] E) := heap_alloc_new w _
    simp only [World.cell?, hh, Nat.zero_add]
    simpa using hu
  · match j, hu with
    | 0, hu => simp at hu; subst hu; exact ⟨l0, rfl, El.of_bs (h0.below hb)⟩
    | 1, hu => simp at hu; subst hu; exact ⟨l1, rfl, El.of_bs (h1.below hb)⟩

set_option maxHeartbeats 1000000 in
theorem grow_any (m : Nat) (hm : m ≤ 140737488355328) (w : World) :
    Calls Tryz.prog 179 #[.slice none 0 0, .int .i64 m] w fun e w' => ∃ A' c', e = .returned (.slice A' 0 c') ∧ OwB w' w.heap.size 5 (.slice A' 0 c') [] ∧ Below w.heap.size w w' := by
  by_cases h0 : m = 0
  · subst h0
    go_enter Tryz.func179, Tryz.ntmps179
    go_wp2_with fail
    go_ret
    exact ⟨_, _, rfl, OwB.nil _ _ _, Below.refl _ _⟩
  · have hp : 0 < m := by omega
    go_enter Tryz.func179, Tryz.ntmps179
    go_wp2_with (at_builtin; apply stop_here)
    obtain ⟨i, hi, hz, hsz, hby⟩ := info_parts info_u8
    have hcap := grownCap_ge w m 0 5
    have hcm := grownCap_le_maxLen w m 0 5 (by unfold maxLen; omega)
    have hcm2 : grownCap w m 0 5 ≤ 9223372036854775807 := by unfold maxLen at hcm; omega
    refine Stop.go (Lib.wpList_append_run _ rfl _ _ 22 3 rfl _ _ rfl rfl _ _ (Lib.run_append_nil_zeros w 22 3 _ 5 i (.int .u8 0) .i64 .i64 Tryz.underlying22 Tryz.underlying3 hi hz m hp (by omega) (by omega) (by rw [hby]; omega)) ?_)
    have ho := World.ownsRow_made (base := w.heap.size) (e := 5) (size := 1) w.drew (Builtin.zeroCells (Value.int .u8 0).cells m ++ Builtin.zeroCells (Value.int .u8 0).cells (grownCap w m 0 5 - m)) (grownCap w m 0 5) (Nat.le_refl _) hcm (by
      rw [Array.size_append, size_zeroCells, size_zeroCells]
      simp [Value.cells]
      omega)
    have hb : Below w.heap.size w (w.drew.alloc (.cells (Builtin.zeroCells (Value.int .u8 0).cells m ++ Builtin.zeroCells (Value.int .u8 0).cells (grownCap w m 0 5 - m)) 5)) :=
      (Below.refl _ _).drew.alloc (Nat.le_refl _) _
    generalize w.drew.alloc (.cells (Builtin.zeroCells (Value.int .u8 0).cells m ++ Builtin.zeroCells (Value.int .u8 0).cells (grownCap w m 0 5 - m)) 5) = w1 at *
    go_wp2_with fail
    go_ret
    exact ⟨_, _, rfl, ho, hb⟩

set_option maxHeartbeats 1000000 in
theorem concat_any (A : Option Addr) (n c : Nat) (ls : List (List UInt8)) (w : World) (hBs : BsL w A n c ls) (hsz : (cat ls).length ≤ 140737488355328) :
    Calls Tryz.prog 131 #[.slice A n c] w fun e w' => ∃ A' c', e = .returned (.slice A' (cat ls).length c') ∧ OwB w' w.heap.size 5 (.slice A' (cat ls).length c') (cat ls) ∧ Below w.heap.size w w' := by
  have hn := hBs.le
  have hm := hBs.max
  have HN : Hid (ls.length = n) := hBs.len
  have HF : Hid (cat (ls.take n) = cat ls) := by unfold Hid; rw [List.take_of_length_le (by rw [HN.out]; omega)]
  go_enter Tryz.func131, Tryz.ntmps131
  go_wp2
  go_loop [3, 11] (fun v i => ∃ k : Nat, k ≤ n ∧ i = .int .i64 k ∧ v = .int .i64 ((cat (ls.take k)).length : Nat)) (fun _ i => n - (intOf i).toNat)
  case atStart => exact ⟨0, by omega, rfl, rfl⟩
  case round =>
    obtain ⟨k, hk, rfl, rfl⟩ := hrel
    have hb := cat_take_le ls k
    by_cases hlt : k < n
    · obtain ⟨b, off, A1, n1, c1, l1, rfl, _, hl, hc, hbs⟩ := hBs.at_ hlt
      have hb1 := cat_take_le ls (k + 1)
      have HL : Hid ((cat (ls.take (k + 1))).length = (cat (ls.take k)).length + n1) := by unfold Hid; rw [cat_take hl, List.length_append, hbs.len]
      have hb2 : (cat (ls.take k)).length + n1 ≤ 140737488355328 := by rw [← HL.out]; omega
      clear hl hb1
      generalize (cat (ls.take k)).length = t at *
      have hneg : decide (((t : Int) + (n1 : Int)) < 0) = false := by simp; omega
      go_wp2
      go_round
      case rel => exact ⟨k + 1, by omega, by go_num, val_int (by rw [HL.out]; omega)⟩
      case measure => simp [intOf]; omega
    · obtain rfl : k = n := by omega
      rw [HF.out]
      generalize hT : (cat ls).length = t at *
      have HT := Lib.hid hT
      clear hT
      go_wp2_with fail
      refine (grow_any t hsz _).mono ?_
      rintro e w1 ⟨A1, c1, rfl, ho1, hb1⟩
      go_wp2_with fail
      go_loopw [6, 27] (fun v i wr => ∃ k' A' c', k' ≤ k ∧ i = .int .i64 k' ∧ v = .slice A' (cat (ls.take k')).length c' ∧ OwB wr w.heap.size 5 (.slice A' (cat (ls.take k')).length c') (cat (ls.take k')) ∧ Below w.heap.size w wr) (fun _ i _ => k - (intOf i).toNat)
      case atStart => exact ⟨0, A1, c1, by omega, rfl, rfl, ho1, hb1⟩
      case round =>
        obtain ⟨k', A', c', hk', rfl, rfl, ho, hbw⟩ := hrel
        by_cases hlt : k' < k
        · obtain ⟨b, off, A2, n2, c2, l2, rfl, _, hl, hc, hbs⟩ := (hBs.below hbw).at_ hlt
          have hle := cat_take_le ls (k' + 1)
          have HL : Hid (cat (ls.take (k' + 1)) = cat (ls.take k') ++ l2) := cat_take hl
          have HLn : Hid (l2.length = n2) := hbs.len
          clear hl
          have hwsz := hbw.size
          go_wp2_with (at_builtin; apply stop_here)
          refine Stop.go (append_bytes _ 22 5 Tryz.underlying22 info_u8 rfl _ _ rfl w.heap.size _ _ rfl ho _ _ _ l2 rfl hbs ((cat (ls.take (k' + 1))).length) (by rw [HL.out, List.length_append, HLn.out]) (by have := HT.out; omega) hwsz ?_)
          intro A3 c3 w3 ho3 hg3 hb3
          rw [← HL.out] at ho3
          clear hg3
          go_wp2_with fail
          go_roundw
          case rel => exact ⟨k' + 1, A3, c3, by omega, by go_num, rfl, ho3, hbw.trans hb3⟩
          case measure => simp [intOf]; omega
        · obtain rfl : k' = k := by omega
          rw [HF.out] at ho ⊢
          have ht := HT.out
          subst ht
          go_wp2_with fail
          go_ret
          exact ⟨A', c', rfl, ho, hbw⟩
end Go.Proofs.YtfdpnjebhllpkaaGreatDoor.Dk
end

section
namespace Go.Proofs.YtfdpnjebhllpkaaGreatDoor.Dk
open Go.RowKit

theorem Cp.lt1 {w : World} {bd bn a : Nat} {s : ByteArray} (h : Cp w bd bn a s) : bd < w.heap.size := by
  rcases Nat.lt_or_ge bd w.heap.size with h1 | h1
  · exact h1
  · have := h.bd
    simp [World.cell?, Array.getElem?_eq_none h1] at this
theorem Cp.lt2 {w : World} {bd bn a : Nat} {s : ByteArray} (h : Cp w bd bn a s) : bn < w.heap.size := by
  rcases Nat.lt_or_ge bn w.heap.size with h1 | h1
  · exact h1
  · have := h.bn
    simp [World.cell?, Array.getElem?_eq_none h1] at this
theorem cell_lt {w : World} {p : Addr} {v : Value} (h : w.cell? p = some v) : p.block < w.heap.size := by
  rcases Nat.lt_or_ge p.block w.heap.size with h1 | h1
  · exact h1
  · simp [World.cell?, Array.getElem?_eq_none h1] at h

/-- The file of a name, its slice. -/
theorem Da.file {w : World} {B a mb : Nat} {L : Al Nat} {F : Nat → Fl} {tv : Value} {d : D} (h : Da w B a mb L F tv d) {nm : Name} {b : Nat} (hg : Dk.get L nm = some b) :
    B ≤ b ∧ b < w.heap.size ∧ ∃ A c, w.heap[b]? = some (.cells #[.slice A (F b).data.length c, .int .i64 ((F b).safe : Nat)] 132) ∧ Bs w A (F b).data.length c (F b).data := by
  have hm := get_mem hg
  have hlt := (h.files _ hm).lt
  obtain ⟨hB, v, h1, h2⟩ := h.files _ hm
  obtain ⟨A, c, rfl, hbs⟩ := OwB.slice h2
  exact ⟨hB, hlt, A, c, h1, hbs⟩

theorem file_noE {w : World} {b : Nat} {cs : Array Value} {E : TypeId} (h : w.heap[b]? = some (.cells cs 132)) (hE : E ≠ 132) : NoE E w (some b) :=
  NoE.of h (by intro cs fr e; injection e with _ e2 _; exact hE e2.symm)
theorem file_fm {w : World} {b i : Nat} {cs : Array Value} (h : w.heap[b]? = some (.cells cs 132)) (x : Value) : Fm w (w.setCell ⟨b, i, none⟩ x) :=
  Fm.grown (grown_set w ⟨b, i, none⟩ x) (fun cs E fr he => by rw [h] at he; injection he with he; injection he with _ he _; exact .inl he.symm)

/-- A file's bytes are others. -/
theorem store_data {W : World} {B a mb : Nat} {L : Al Nat} {F : Nat → Fl} {tv : Value} {d : D} (h : Da W B a mb L F tv d) {nm : Name} {b : Nat} (hg : Dk.get L nm = some b) {v2 : Value} {new : List UInt8} (ho : OwB W B 5 v2 new) {g : Fl → Fl} (hgf : g (F b) = ⟨new, (F b).safe⟩) :
    St B a mb tv { d with fs := upd nm g d.fs } W (W.setCell ⟨b, 0, none⟩ v2) := by
  obtain ⟨hB, hlt, A, c, hb, _⟩ := h.file hg
  refine ⟨below_row (grown_set W ⟨b, 0, none⟩ v2) hB (by omega), file_fm hb v2, L, _, h.setF (get_mem hg) (grown_set W ⟨b, 0, none⟩ v2) (v' := v2) ?_ ?_⟩
  · rw [hgf]
    exact setCell_blk hb v2
  · rw [hgf]
    exact row_kept ho (grown_set W ⟨b, 0, none⟩ v2) (file_noE hb (by decide))
theorem store_safe {W : World} {B a mb : Nat} {L : Al Nat} {F : Nat → Fl} {tv : Value} {d : D} (h : Da W B a mb L F tv d) {nm : Name} {b : Nat} (hg : Dk.get L nm = some b) (n : Nat) {g : Fl → Fl} (hgf : g (F b) = ⟨(F b).data, n⟩) :
    St B a mb tv { d with fs := upd nm g d.fs } W (W.setCell ⟨b, 1, none⟩ (.int .i64 (n : Nat))) := by
  obtain ⟨hB, v, hb, ho⟩ := h.files _ (get_mem hg)
  have hlt := (h.files _ (get_mem hg)).lt
  refine ⟨below_row (grown_set W ⟨b, 1, none⟩ _) hB (by omega), file_fm hb _, L, _, h.setF (get_mem hg) (grown_set W ⟨b, 1, none⟩ _) (v' := v) ?_ ?_⟩
  · rw [hgf]
    exact setCell_blk hb _
  · rw [hgf]
    exact row_kept ho (grown_set W ⟨b, 1, none⟩ _) (file_noE hb (by decide))

set_option maxHeartbeats 1000000 in
set_option maxRecDepth 100000 in
theorem append1 (w : World) (B a mb : Nat) (L : Al Nat) (F : Nat → Fl) (tv : Value) (d : D) (h : Da w B a mb L F tv d) (s : ByteArray) (hs : s.size ≤ 1000000) (bd bn bb : Nat) (hc : Cp w bd bn a s)
    (A : Option Addr) (n c : Nat) (l : List UInt8) (kb : w.cell? ⟨bb, 0, none⟩ = some (.slice A n c)) (hBs : Bs w A n c l) (hn : n ≤ 1000000) (m : Nat) (hm : m ≤ n) (b : Nat) (hg : Dk.get L s.data.toList = some b) (hfl : (F b).data.length ≤ 1000000000) :
    Calls Tryz.prog 130 #[.int .i64 (m : Nat), .pointer (some ⟨bd, 0, none⟩), .pointer (some ⟨bn, 0, none⟩), .pointer (some ⟨bb, 0, none⟩)] w
      fun e w' => e = .returned (.tuple #[]) ∧ St B a mb tv { d with fs := upd s.data.toList (fun f => ⟨f.data ++ l.take m, f.safe⟩) d.fs } w w' := by
  obtain ⟨k1, k2⟩ := hc
  have c1 := h.c1
  have hlk := fun q => (h.below (Joins.below_draws _ w q)).look s (by unfold maxLen; omega)
  rw [hg] at hlk
  simp only [Option.map_some] at hlk
  obtain ⟨hBb, hblt, A0, c0, hfb, hfs⟩ := h.file hg
  have lt3 := cell_lt kb
  have h' := Lib.hid h
  have hg' := Lib.hid hg
  have hfb' := Lib.hid hfb
  have hfs' := Lib.hid hfs
  have hBs' := Lib.hid hBs
  obtain ⟨N, hN⟩ : ∃ N, (F b).data.length = N := ⟨_, rfl⟩
  rw [hN] at hfl hfb' hfs'
  have kf : w.cell? ⟨b, 0, none⟩ = some (.slice A0 N c0) := by simp [World.cell?, hfb'.out]
  clear h hg hfb hfs hBs
  go_enter Tryz.func130, Tryz.ntmps130
  go_wp2_with fail
  go_big_quiet (fail)
  have hbq : Below w.heap.size w (w.drewN nq) := Joins.below_draws _ w nq
  have hD1 := Lib.hid (h'.out.below hbq)
  have hfb1 := Lib.hid ((hbq.block b hblt).trans hfb'.out)
  have hfs1 := Lib.hid (hfs'.out.below hbq)
  have hBs1 := Lib.hid (hBs'.out.below hbq)
  have hbq' := Lib.hid hbq
  have kf1 := (hbq.cell (p := ⟨b, 0, none⟩) hblt).trans kf
  have kb1 := (hbq.cell (p := ⟨bb, 0, none⟩) lt3).trans kb
  have hs1 : (w.drewN nq).heap.size = w.heap.size := by simp
  generalize w.drewN nq = w1 at hbq hD1 hfb1 hfs1 hBs1 hbq' kf1 kb1 hs1 ⊢
  clear hbq kf kb k1 k2 c1 hlk
  have hnc := Rd.le hBs1.out
  have q1 : 0 ≤ (m : Int) ∧ (m : Int) ≤ (c : Int) := ⟨by omega, by omega⟩
  have q2 : (m : Int) ≤ (c : Int) := by omega
  have q3 : m ≤ c := by omega
  have hcut := hBs1.out.cut 0 m (by omega) hm A (by intro b off e _; rw [e]; rfl) (fun e => e) (fun e => e)
  rw [Nat.sub_zero, Nat.sub_zero, List.drop_zero] at hcut
  have hcut' := Lib.hid hcut
  clear hcut
  have hcl : (cat [(F b).data, l.take m]).length ≤ 140737488355328 := by simp [cat]; omega
  have hcat : cat [(F b).data, l.take m] = (F b).data ++ l.take m := by simp [cat]
  have hcl' := Lib.hid hcl
  have hcat' := Lib.hid hcat
  have hblt1 : b < w1.heap.size := by omega
  clear hcl hcat
  have hal := bD (below_alloc w1 (.cells #[.slice A0 N c0, .slice A m c] 22))
  have hcon : Calls Tryz.prog 131 #[.slice (some ⟨w1.heap.size, 0, none⟩) 2 2] (w1.alloc (.cells #[.slice A0 N c0, .slice A m c] 22)).drew fun e w2 => ∃ A2 c2, e = .returned (.slice A2 (cat [(F b).data, l.take m]).length c2) ∧
      Hid (OwB w2 w1.heap.size 5 (.slice A2 (cat [(F b).data, l.take m]).length c2) (cat [(F b).data, l.take m])) ∧ Hid (Below w1.heap.size w1 w2) ∧ w2.cell? ⟨b, 0, none⟩ = some (.slice A0 N c0) ∧ w2.frozen? ⟨b, 0, none⟩ = false := by
    refine (concat_any _ 2 2 [(F b).data, l.take m] _ ((bsl_lit2 w1 22 _ _ _ _ _ _ _ _ hfs1.out hcut'.out).below (Joins.below_draws _ _ 1)) hcl'.out).mono ?_
    rintro e w2 ⟨A2, c2, rfl, ho, hb2⟩
    have hb3 := hal.trans (hb2.mono hal.size)
    have hfb2 := (hb3.block b hblt1).trans hfb1.out
    exact ⟨A2, c2, rfl, Lib.hid (OwB.base ho hal.size), Lib.hid hb3, (hb3.cell (p := ⟨b, 0, none⟩) hblt1).trans kf1, frozen_of_row w2 b 0 _ _ hfb2⟩
  have hcon' := Lib.hid hcon
  clear hal hcon hs1
  go_wp2_with fail
  go_region_with (go_at_call 131; ((with_reducible refine hcon'.out.mono ?_)); rintro e w2 ⟨A2, c2, rfl, ho2, hb3, kf2, f2⟩)
  all_goals
    have hst := Lib.hid ((store_data (hD1.out.below hb3.out) hg'.out (OwB.base ho2.out (by omega)) (g := fun f => ⟨f.data ++ l.take m, f.safe⟩) (by rw [hcat'.out])).on ((hbq'.out.trans (hb3.out.mono hbq'.out.size)).mono (by omega)) (Fm.below (hbq'.out.trans (hb3.out.mono hbq'.out.size))))
    clear kf2 f2
    go_wp2_with fail
    go_end0
    exact ⟨rfl, hst.out⟩
end Go.Proofs.YtfdpnjebhllpkaaGreatDoor.Dk
end

section
namespace Go.Proofs.YtfdpnjebhllpkaaGreatDoor.Dk
open Go.RowKit

/-- NoFile, if there is no such file. -/
def thereC (d : D) (nm : Name) : Int := if (Dk.get d.fs nm).isSome then 0 else 42

set_option maxRecDepth 100000 in
theorem there1 (w : World) (B a mb : Nat) (L : Al Nat) (F : Nat → Fl) (tv : Value) (d : D) (h : Da w B a mb L F tv d) (s : ByteArray) (hs : s.size ≤ 1000000) (bd bn : Nat) (hc : Cp w bd bn a s) :
    Calls Tryz.prog 180 #[.pointer (some ⟨bd, 0, none⟩), .pointer (some ⟨bn, 0, none⟩)] w fun e w' => e = .returned (.int .i64 (thereC d s.data.toList)) ∧ Below w.heap.size w w' := by
  obtain ⟨k1, k2⟩ := hc
  have c1 := h.c1
  have hlk := fun q => (h.below (Joins.below_draws _ w q)).look s (by unfold maxLen; omega)
  have hg := h.get s.data.toList
  obtain ⟨G, hG⟩ : ∃ G, Dk.get L s.data.toList = G := ⟨_, rfl⟩
  rw [hG] at hg hlk
  obtain ⟨X, hX⟩ : ∃ X, thereC d s.data.toList = X := ⟨_, rfl⟩
  rw [hX]
  unfold thereC at hX
  rw [hg] at hX
  have hX' := Lib.hid hX
  clear hg hG h hX
  cases G with
  | none =>
    have hX2 : Hid (X = 42) := Lib.hid hX'.out.symm
    simp only [Option.map_none] at hlk
    clear hX'
    go_enter Tryz.func180, Tryz.ntmps180
    go_wp2_with fail
    go_big_quiet (fail)
    go_wp2_with fail
    go_ret
    exact ⟨ret_int hX2.out.symm, Joins.below_draws _ _ _⟩
  | some b =>
    have hX2 : Hid (X = 0) := Lib.hid hX'.out.symm
    simp only [Option.map_some] at hlk
    clear hX'
    go_enter Tryz.func180, Tryz.ntmps180
    go_wp2_with fail
    go_big_quiet (fail)
    go_wp2_with fail
    go_ret
    exact ⟨ret_int hX2.out.symm, Joins.below_draws _ _ _⟩

theorem there_any (a : Nat) (s : ByteArray) (w : World) :
    Calls Tryz.prog 135 #[.pointer (some ⟨a, 0, none⟩), .string s] w fun e w' =>
      e = .returned (.func (.func 180) #[] #[.pointer (some ⟨w.heap.size, 0, none⟩), .pointer (some ⟨w.heap.size + 1, 0, none⟩)]) ∧
      w' = (w.alloc (.cells #[.pointer (some ⟨a, 0, none⟩)] 39)).alloc (.cells #[.string s] 9) := by
  have hmf := make_func
  go_enter Tryz.func135, Tryz.ntmps135
  go_wp2_with fail
  go_ret
  exact ⟨rfl, rfl⟩

set_option maxHeartbeats 1000000 in
set_option maxRecDepth 100000 in
theorem sync1 (w : World) (B a mb : Nat) (L : Al Nat) (F : Nat → Fl) (tv : Value) (d : D) (h : Da w B a mb L F tv d) (s : ByteArray) (hs : s.size ≤ 1000000) (bd bn : Nat) (hc : Cp w bd bn a s) (b : Nat) (hg : Dk.get L s.data.toList = some b) :
    Calls Tryz.prog 136 #[.pointer (some ⟨bd, 0, none⟩), .pointer (some ⟨bn, 0, none⟩)] w fun e w' => e = .returned (.tuple #[]) ∧ St B a mb tv { d with fs := upd s.data.toList (fun f => ⟨f.data, f.data.length⟩) d.fs } w w' := by
  obtain ⟨k1, k2⟩ := hc
  have c1 := h.c1
  have hlk := (h.below (bD (Below.refl _ w))).look s (by unfold maxLen; omega)
  rw [hg] at hlk
  simp only [Option.map_some] at hlk
  obtain ⟨hBb, hblt, A0, c0, hfb, hfs⟩ := h.file hg
  have hst := Lib.hid ((store_safe (h.below (bD (Below.refl _ w))) hg (F b).data.length (g := fun f => ⟨f.data, f.data.length⟩) rfl).on ((bD (Below.refl _ w)).mono (by have := h.alt; have := h.base; omega)) (Fm.below (bD (Below.refl _ w))))
  have ks : w.cell? ⟨b, 1, none⟩ = some (.int .i64 ((F b).safe : Nat)) := by simp [World.cell?, hfb]
  have kf : w.cell? ⟨b, 0, none⟩ = some (.slice A0 (F b).data.length c0) := by simp [World.cell?, hfb]
  have f1 : w.frozen? ⟨b, 1, none⟩ = false := frozen_of_row w b 1 _ _ hfb
  obtain ⟨N, hN⟩ : ∃ N, (F b).data.length = N := ⟨_, rfl⟩
  rw [hN] at kf hst
  clear h hg hfb hfs hN
  go_enter Tryz.func136, Tryz.ntmps136
  go_wp2_with fail
  go_still_tail 18, (by kernel_rfl)
  change wpList _ _ _ _ _ w.drew
  clear hlk
  go_wp2_with fail
  go_end0
  exact ⟨rfl, hst.out⟩

theorem Cp.keptM {w w' : World} {bd bn a mb : Nat} {s : ByteArray} (h : Cp w bd bn a s) (hg : w.grownBy w' (some mb)) {es : Array MapEntry} {cl : Nat} (hm : w.heap[mb]? = some (.map es cl)) : Cp w' bd bn a s := by
  have h1 : bd ≠ mb := by
    rintro rfl
    have := h.bd
    simp [World.cell?, hm] at this
  have h2 : bn ≠ mb := by
    rintro rfl
    have := h.bn
    simp [World.cell?, hm] at this
  exact ⟨hg.cell h.bd (by simpa using h1), hg.cell h.bn (by simpa using h2)⟩

/-- A name is gone. -/
theorem Da.delF {w w' : World} {B a mb : Nat} {L : Al Nat} {F : Nat → Fl} {tv : Value} {d : D} (h : Da w B a mb L F tv d) {nm : Name} {n : Nat}
    (hg : w.grownBy w' (some mb)) (hown : w'.ownsMap Tryz.prog 9 ptrElem mb n ((mp L).del (.string nm))) : Da w' B a mb (del nm L) F tv { d with fs := del nm d.fs } ∧ St B a mb tv { d with fs := del nm d.fs } w w' := by
  rw [mp_del] at hown
  have hm := h.setM hg (F' := F) hown (del_up h.up) (h.nd.sublist ((List.filter_sublist (l := L) (p := fun p => !(p.1 == nm))).map _)) (fun p hp => .inl ⟨(del_mem.1 hp).1, rfl⟩)
  have e : (del nm L).map (fun p => (p.1, F p.2)) = del nm d.fs := by rw [del_map, h.fs]
  rw [e] at hm
  refine ⟨hm, below_row hg h.base.2 (by have := h.base; have := h.mlt; omega), Fm.grown hg fun cs E fr he => ?_, _, _, hm⟩
  obtain ⟨es, cl, hmb⟩ := h.mblk
  rw [hmb] at he
  cases he

set_option maxHeartbeats 1000000 in
set_option maxRecDepth 100000 in
theorem delete1 (w : World) (B a mb : Nat) (L : Al Nat) (F : Nat → Fl) (tv : Value) (d : D) (h : Da w B a mb L F tv d) (s : ByteArray) (hs : s.size ≤ 1000000) (bd bn : Nat) (hc : Cp w bd bn a s) :
    Calls Tryz.prog 137 #[.pointer (some ⟨bd, 0, none⟩), .pointer (some ⟨bn, 0, none⟩)] w fun e w' => e = .returned (.tuple #[]) ∧ St B a mb tv { d with fs := del s.data.toList d.fs } w w' := by
  obtain ⟨k1, k2⟩ := hc
  have c1 := h.c1
  have hkey := WideMaps.keyOf_string_mk (P := Tryz.prog) Tryz.underlying9 (s := s) (by unfold maxLen; omega)
  have hd := h.below (bD (Below.refl _ w))
  have hst : ∀ w', w'.ownsMap Tryz.prog 9 ptrElem mb L.length ((mp L).del (.string s.data.toList)) → w.drew.mapTurned w' mb → St B a mb tv { d with fs := del s.data.toList d.fs } w w' := fun w' h1 h2 =>
    (hd.delF h2.grown h1).2.on ((bD (Below.refl w.heap.size w)).mono (by have := h.alt; have := h.base; omega)) (Fm.below (bD (Below.refl _ w)))
  have hst' := Lib.hid hst
  have hkey' := Lib.hid hkey
  have hown := Lib.hid hd.own
  clear h hd hst hkey
  go_enter Tryz.func137, Tryz.ntmps137
  go_wp2_with fail
  go_still_tail 5, (by kernel_rfl)
  change wpList _ _ _ _ _ w.drew
  refine wpList_delete_own _ rfl _ _ 111 9 rfl 130 law_str Tryz.underlying111 ptrElem mb L.length (mp L) rfl hown.out _ _ rfl hkey'.out ?_
  intro w' h1 h2
  have hs2 := Lib.hid (hst'.out w' h1 h2)
  clear h1 h2
  go_wp2_with fail
  go_end0
  exact ⟨rfl, hs2.out⟩

/-- A block's name is another. -/
theorem Da.putF {w w' : World} {B a mb : Nat} {L : Al Nat} {F : Nat → Fl} {tv : Value} {d : D} (h : Da w B a mb L F tv d) {nm : Name} {b n : Nat} {f : Fl} (hf : FileAt w B b f) (hF : F b = f) (hfr : ∀ p ∈ L, p.2 ≠ b)
    (hg : w.grownBy w' (some mb)) (hown : w'.ownsMap Tryz.prog 9 ptrElem mb n ((mp L).put (.string nm) (.lit (.int .i64 (b : Nat))))) :
    St B a mb tv { d with fs := ins nm f (del nm d.fs) } w w' := by
  rw [mp_put] at hown
  have hn : ∀ p ∈ del nm L, p.1 ≠ nm := fun p hp => (del_mem.1 hp).2
  have e : (ins nm b (del nm L)).map (fun p => (p.1, F p.2)) = ins nm f (del nm d.fs) := by
    rw [ins_map F, hF, del_map, ← h.fs]
  have hm := h.setM hg (F' := F) hown (ins_up (del_up h.up) hn) ?_ ?_
  · rw [e] at hm
    refine ⟨below_row hg h.base.2 (by have := h.base; have := h.mlt; omega), Fm.grown hg fun cs E fr he => ?_, _, _, hm⟩
    obtain ⟨es, cl, hmb⟩ := h.mblk
    rw [hmb] at he
    cases he
  · have hp : ∀ (l : Al Nat), ((ins nm b l).map (·.2)).Perm (b :: l.map (·.2)) := by
      intro l
      induction l with
      | nil => exact List.Perm.refl _
      | cons p l ih =>
        rw [ins]
        split
        · exact List.Perm.refl _
        · exact (List.Perm.cons _ ih).trans (List.Perm.swap _ _ _)
    refine (hp _).nodup_iff.2 (List.nodup_cons.2 ⟨fun hb => ?_, h.nd.sublist ((List.filter_sublist (l := L) (p := fun p => !(p.1 == nm))).map _)⟩)
    obtain ⟨p, h1, h2⟩ := List.mem_map.1 hb
    exact hfr p (del_mem.1 h1).1 h2
  · intro p hp
    rcases ins_mem.1 hp with rfl | hp
    · exact .inr (by rw [hF]; exact hf)
    · exact .inl ⟨(del_mem.1 hp).1, rfl⟩

theorem nodup_inj : ∀ (l : Al Nat), (l.map (·.2)).Nodup → ∀ p ∈ l, ∀ q ∈ l, p.2 = q.2 → p = q := by
  intro l
  induction l with
  | nil => intro _ p hp; cases hp
  | cons x l ih =>
    intro hn p hp q hq e
    obtain ⟨hx, hn⟩ := List.nodup_cons.1 hn
    rcases List.mem_cons.1 hp with hp1 | hp1 <;> rcases List.mem_cons.1 hq with hq1 | hq1
    · rw [hp1, hq1]
    · exact absurd (List.mem_map.2 ⟨q, hq1, by rw [← e, hp1]⟩) hx
    · exact absurd (List.mem_map.2 ⟨p, hp1, by rw [e, hq1]⟩) hx
    · exact ih hn p hp1 q hq1 e

set_option maxHeartbeats 2000000 in
set_option maxRecDepth 100000 in
theorem rename2 (w : World) (B a mb : Nat) (L : Al Nat) (F : Nat → Fl) (tv : Value) (d : D) (h : Da w B a mb L F tv d) (s s2 : ByteArray) (hs : s.size ≤ 1000000) (hs2 : s2.size ≤ 1000000) (bd bn b2 : Nat) (hc : Cp w bd bn a s) (hc2 : Cp w bd b2 a s2)
    (b : Nat) (hg : Dk.get L s.data.toList = some b) (hfl : d.fs.length ≤ 1000) :
    Calls Tryz.prog 158 #[.pointer (some ⟨bd, 0, none⟩), .pointer (some ⟨bn, 0, none⟩), .pointer (some ⟨b2, 0, none⟩)] w
      fun e w' => e = .returned (.tuple #[]) ∧ St B a mb tv { d with fs := ins s2.data.toList (F b) (del s2.data.toList (del s.data.toList d.fs)) } w w' := by
  obtain ⟨k1, k2⟩ := id hc
  have k3 := hc2.bn
  have c1 := h.c1
  have hB : B ≤ w.heap.size := by have := h.alt; have := h.base; omega
  have hkey := WideMaps.keyOf_string_mk (P := Tryz.prog) Tryz.underlying9 (s := s) (by unfold maxLen; omega)
  have hkey2 := WideMaps.keyOf_string_mk (P := Tryz.prog) Tryz.underlying9 (s := s2) (by unfold maxLen; omega)
  have hlk := fun q => (h.below (Joins.below_draws _ w q)).look s (by unfold maxLen; omega)
  rw [hg] at hlk
  simp only [Option.map_some] at hlk
  have hl := h.len_eq
  have h' := Lib.hid h
  have hg' := Lib.hid hg
  have hcc := Lib.hid hc
  have hcc2 := Lib.hid hc2
  have hkey' := Lib.hid hkey
  have hkey2' := Lib.hid hkey2
  have hll : L.length ≤ 1000 := by omega
  clear h hg hkey hkey2 hl hc hc2
  go_enter Tryz.func158, Tryz.ntmps158
  go_wp2_with fail
  go_big_quiet (fail)
  have hb1 := Lib.hid (Joins.below_draws w.heap.size w nq)
  have hD1 := Lib.hid (h'.out.below hb1.out)
  have hc1 := Lib.hid (hcc.out.below hcc.out.lt1 hcc.out.lt2 hb1.out)
  have hc12 := Lib.hid (hcc2.out.below hcc2.out.lt1 hcc2.out.lt2 hb1.out)
  generalize w.drewN nq = w1 at hb1 hD1 hc1 hc12 ⊢
  clear k1 k2 k3 c1 hlk
  have k1 := hc1.out.bd
  have k2 := hc1.out.bn
  have c1 := hD1.out.c1
  go_wp2_with fail
  go_still_tail 5, (by kernel_rfl)
  change wpList _ _ _ _ _ w1.drew
  have hb2 := Lib.hid (bD hb1.out)
  have hD2 := Lib.hid (hD1.out.below (bD (Below.refl _ w1)))
  have hc2 := Lib.hid (hc1.out.below hc1.out.lt1 hc1.out.lt2 (bD (Below.refl w1.heap.size w1)))
  have hc22 := Lib.hid (hc12.out.below hc12.out.lt1 hc12.out.lt2 (bD (Below.refl w1.heap.size w1)))
  generalize w1.drew = w2 at hb2 hD2 hc2 hc22 ⊢
  clear k1 k2 c1
  refine wpList_delete_own _ rfl _ _ 111 9 rfl 130 law_str Tryz.underlying111 ptrElem mb L.length (mp L) rfl hD2.out.own _ _ rfl hkey'.out ?_
  intro w3 h1 h2
  obtain ⟨hD3, hst3⟩ := hD2.out.delF h2.grown h1
  obtain ⟨es, cl, hmb⟩ := hD2.out.mblk
  have hc3 := Lib.hid (hc2.out.keptM h2.grown hmb)
  have hc32 := Lib.hid (hc22.out.keptM h2.grown hmb)
  have hD3' := Lib.hid hD3
  have hst3' := Lib.hid (hst3.on (hb2.out.mono hB) (Fm.below hb2.out))
  have hfb : FileAt w3 B b (F b) := by
    have hmem := get_mem hg'.out
    have hf := hD2.out.files _ hmem
    exact hf.kept h2.grown (by simp; exact hD2.out.fm hmem) (NoE.of hmb (by intro cs fr e; cases e))
  have hfb' := Lib.hid hfb
  clear h1 h2 hD3 hst3 hmb hfb
  have k1 := hc3.out.bd
  have k3 := hc32.out.bn
  have c1 := hD3'.out.c1
  have hdl : (del s.data.toList L).length < maxLen := by have := List.length_filter_le (fun p : Name × Nat => !(p.1 == s.data.toList)) L; unfold del maxLen; omega
  go_wp2_with fail
  go_still_tail 6, (by kernel_rfl)
  change wpList _ _ _ _ _ w3.drew
  have hD4 := Lib.hid (hD3'.out.below (bD (Below.refl _ w3)))
  have hfb4 := Lib.hid (hfb'.out.kept (grown_of_below (bD (Below.refl w3.heap.size w3))) (by simp) NoE.none)
  have hst4 := Lib.hid ((St.on (tv := tv) (dd := { d with fs := del s.data.toList d.fs }) ⟨bD (Below.refl B w3), Fm.below (bD (Below.refl w3.heap.size w3)), _, _, hD4.out⟩ hst3'.out.1 hst3'.out.2.1))
  generalize w3.drew = w4 at hD4 hfb4 hst4 ⊢
  clear k1 k3 c1
  refine wpList_mapUpdate_own _ rfl _ _ _ 111 rfl 9 130 law_str Tryz.underlying111 ptrElem mb (del s.data.toList L).length (mp (del s.data.toList L)) rfl hD4.out.own hdl _ _ _ rfl rfl hkey2'.out (.lit (.int .i64 (b : Nat))) [] rfl ?_
  intro w5 h1 h2
  have hfr : ∀ p ∈ del s.data.toList L, p.2 ≠ b := fun p hp e => by
    obtain ⟨h3, h4⟩ := del_mem.1 hp
    have := nodup_inj L h'.out.nd p h3 (s.data.toList, b) (get_mem hg'.out) e
    rw [this] at h4
    exact h4 rfl
  have hfin := Lib.hid ((hD4.out.putF hfb4.out rfl hfr h2 h1).on hst4.out.1 hst4.out.2.1)
  clear h1 h2 hfr
  go_wp2_with fail
  go_end0
  exact ⟨rfl, hfin.out⟩
end Go.Proofs.YtfdpnjebhllpkaaGreatDoor.Dk
end

section
namespace Go.Proofs.YtfdpnjebhllpkaaGreatDoor.Dk
open Go.RowKit

set_option maxHeartbeats 1000000 in
set_option maxRecDepth 100000 in
theorem rename1 (w : World) (B a mb : Nat) (L : Al Nat) (F : Nat → Fl) (tv : Value) (d : D) (h : Da w B a mb L F tv d) (s s2 : ByteArray) (hs : s.size ≤ 1000000) (hs2 : s2.size ≤ 1000000) (bd bn b2 : Nat) (hc : Cp w bd bn a s) (hc2 : Cp w bd b2 a s2) (z : Int) (y : List UInt8) :
    Calls Tryz.prog 157 #[.pointer (some ⟨bd, 0, none⟩), .pointer (some ⟨bn, 0, none⟩), .pointer (some ⟨b2, 0, none⟩)] w
      fun e w' => e = .returned (.int .i64 (refuse d 5 s.data.toList s2.data.toList z y)) ∧ Below w.heap.size w w' := by
  obtain ⟨k1, k2⟩ := hc
  have k3 := hc2.bn
  have c1 := h.c1
  have hlk := fun q => (h.below (Joins.below_draws _ w q)).look s (by unfold maxLen; omega)
  have hg := h.get s.data.toList
  cases hG : Dk.get L s.data.toList with
  | none =>
    rw [hG] at hg hlk
    have hX2 : Hid (refuse d 5 s.data.toList s2.data.toList z y = 42) := Lib.hid (by unfold refuse; rw [if_neg (by decide), hg]; rfl)
    obtain ⟨X, hX⟩ : ∃ X, refuse d 5 s.data.toList s2.data.toList z y = X := ⟨_, rfl⟩
    rw [hX] at hX2 ⊢
    clear hg hG h hX hc2
    simp only [Option.map_none] at hlk
    go_enter Tryz.func157, Tryz.ntmps157
    go_wp2_with fail
    go_big_quiet (fail)
    go_wp2_with fail
    go_ret
    exact ⟨ret_int hX2.out.symm, Joins.below_draws _ _ _⟩
  | some b =>
    rw [hG] at hg hlk
    have hX1 : Hid (refuse d 5 s.data.toList s2.data.toList z y = if may s2.data.toList = false then 44 else 0) := Lib.hid (by unfold refuse; rw [if_neg (by decide), hg]; rfl)
    obtain ⟨X, hX⟩ : ∃ X, refuse d 5 s.data.toList s2.data.toList z y = X := ⟨_, rfl⟩
    rw [hX] at hX1 ⊢
    simp only [Option.map_some] at hlk
    clear hg hG h hX hc2
    have hm := fun q => may_any s2 (by omega) (w.drewN q)
    obtain ⟨M, hM⟩ : ∃ M, may s2.data.toList = M := ⟨_, rfl⟩
    rw [hM] at hX1 hm
    clear hM
    go_enter Tryz.func157, Tryz.ntmps157
    go_wp2_with fail
    go_big_quiet (fail)
    go_wp2_with fail
    refine (hm nq).mono ?_
    rintro e w2 ⟨rfl, hb2⟩
    have hb := Lib.hid ((Joins.below_draws w.heap.size w nq).trans (hb2.mono (by simp)))
    clear hb2 hm hlk
    cases M with
    | false =>
      have hX2 : Hid (X = 44) := Lib.hid hX1.out
      clear hX1
      go_wp2_with fail
      go_ret
      exact ⟨ret_int hX2.out.symm, hb.out⟩
    | true =>
      have hX2 : Hid (X = 0) := Lib.hid hX1.out
      clear hX1
      go_wp2_with fail
      go_ret
      exact ⟨ret_int hX2.out.symm, hb.out⟩

set_option maxHeartbeats 1000000 in
set_option maxRecDepth 100000 in
theorem cut1 (w : World) (B a mb : Nat) (L : Al Nat) (F : Nat → Fl) (tv : Value) (d : D) (h : Da w B a mb L F tv d) (s : ByteArray) (hs : s.size ≤ 1000000) (bd bn b2 : Nat) (hc : Cp w bd bn a s) (z : Int) (kz : w.cell? ⟨b2, 0, none⟩ = some (.int .i64 z)) (nt : Name) (y : List UInt8) :
    Calls Tryz.prog 146 #[.pointer (some ⟨bd, 0, none⟩), .pointer (some ⟨bn, 0, none⟩), .pointer (some ⟨b2, 0, none⟩)] w
      fun e w' => e = .returned (.int .i64 (refuse d 3 s.data.toList nt z y)) ∧ Below w.heap.size w w' := by
  obtain ⟨k1, k2⟩ := hc
  have c1 := h.c1
  have hlk := fun q => (h.below (Joins.below_draws _ w q)).look s (by unfold maxLen; omega)
  have hg := h.get s.data.toList
  cases hG : Dk.get L s.data.toList with
  | none =>
    rw [hG] at hg hlk
    have hX2 : Hid (refuse d 3 s.data.toList nt z y = 42) := Lib.hid (by unfold refuse; rw [if_neg (by decide), hg]; rfl)
    obtain ⟨X, hX⟩ : ∃ X, refuse d 3 s.data.toList nt z y = X := ⟨_, rfl⟩
    rw [hX] at hX2 ⊢
    simp only [Option.map_none] at hlk
    clear hg hG h hX
    go_enter Tryz.func146, Tryz.ntmps146
    go_wp2_with fail
    go_big_quiet (fail)
    go_wp2_with fail
    go_ret
    exact ⟨ret_int hX2.out.symm, Joins.below_draws _ _ _⟩
  | some b =>
    obtain ⟨hBb, hblt, A0, c0, hfb, hfs⟩ := h.file hG
    rw [hG] at hg hlk
    have hX1 : refuse d 3 s.data.toList nt z y = if z < 0 ∨ ((F b).data.length : Int) < z then 80 else 0 := by unfold refuse; rw [if_neg (by decide), hg]; rfl
    obtain ⟨X, hX⟩ : ∃ X, refuse d 3 s.data.toList nt z y = X := ⟨_, rfl⟩
    rw [hX] at hX1 ⊢
    simp only [Option.map_some] at hlk
    have kf : w.cell? ⟨b, 0, none⟩ = some (.slice A0 (F b).data.length c0) := by simp [World.cell?, hfb]
    obtain ⟨N, hN⟩ : ∃ N, (F b).data.length = N := ⟨_, rfl⟩
    rw [hN] at kf hX1
    have hX1' := Lib.hid hX1
    clear hg hG h hX hfb hfs hN hX1
    by_cases h0 : z < 0
    · have j0 : decide (z < 0) = true := by simpa using h0
      have hX2 : Hid (X = 80) := Lib.hid (by rw [hX1'.out, if_pos (.inl h0)])
      go_enter Tryz.func146, Tryz.ntmps146
      go_wp2_with fail
      go_big_quiet (fail)
      go_wp2_with fail
      go_big_quiet (fail)
      go_wp2_with fail
      go_ret
      exact ⟨ret_int hX2.out.symm, (Joins.below_draws _ _ _).trans (Joins.below_draws _ _ _)⟩
    · have j0 : decide (z < 0) = false := by simpa using h0
      by_cases h1 : (N : Int) < z
      · have j1 : decide ((N : Int) < z) = true := by simpa using h1
        have hX2 : Hid (X = 80) := Lib.hid (by rw [hX1'.out, if_pos (.inr h1)])
        go_enter Tryz.func146, Tryz.ntmps146
        go_wp2_with fail
        go_big_quiet (fail)
        go_wp2_with fail
        go_big_quiet (fail)
        go_wp2_with fail
        go_ret
        exact ⟨ret_int hX2.out.symm, (Joins.below_draws _ _ _).trans (Joins.below_draws _ _ _)⟩
      · have j1 : decide ((N : Int) < z) = false := by simpa using h1
        have hX2 : Hid (X = 0) := Lib.hid (by rw [hX1'.out, if_neg (by rintro (h | h); exact h0 h; exact h1 h)])
        go_enter Tryz.func146, Tryz.ntmps146
        go_wp2_with fail
        go_big_quiet (fail)
        go_wp2_with fail
        go_big_quiet (fail)
        go_wp2_with fail
        go_ret
        exact ⟨ret_int hX2.out.symm, (Joins.below_draws _ _ _).trans (Joins.below_draws _ _ _)⟩
end Go.Proofs.YtfdpnjebhllpkaaGreatDoor.Dk
end

section
namespace Go.Proofs.YtfdpnjebhllpkaaGreatDoor.Dk
open Go.RowKit

set_option maxHeartbeats 2000000 in
set_option maxRecDepth 100000 in
theorem append2 (w : World) (B a mb : Nat) (L : Al Nat) (F : Nat → Fl) (tv : Value) (d : D) (h : Da w B a mb L F tv d) (s : ByteArray) (hs : s.size ≤ 1000000) (bd bn bb : Nat) (hc : Cp w bd bn a s)
    (A : Option Addr) (n c : Nat) (l : List UInt8) (hl : l.length = n) (kb : w.cell? ⟨bb, 0, none⟩ = some (.slice A n c)) (hn : n ≤ 1000000) (hu : used d.fs ≤ 1000000000) (hroom : d.room ≤ 9223372036854775807) (z : Int) (nt : Name) :
    Calls Tryz.prog 132 #[.pointer (some ⟨bd, 0, none⟩), .pointer (some ⟨bn, 0, none⟩), .pointer (some ⟨bb, 0, none⟩)] w
      fun e w' => e = .returned (.int .i64 (refuse d 2 s.data.toList nt z l)) ∧ Below w.heap.size w w' := by
  obtain ⟨k1, k2⟩ := id hc
  have lt1 := hc.lt1
  have lt3 := cell_lt kb
  have halt := h.alt
  have c1 := h.c1
  have hlk := fun q => (h.below (Joins.below_draws _ w q)).look s (by unfold maxLen; omega)
  have hg := h.get s.data.toList
  cases hG : Dk.get L s.data.toList with
  | none =>
    rw [hG] at hg hlk
    have hX2 : Hid (refuse d 2 s.data.toList nt z l = 42) := Lib.hid (by unfold refuse; rw [if_neg (by decide), hg]; rfl)
    obtain ⟨X, hX⟩ : ∃ X, refuse d 2 s.data.toList nt z l = X := ⟨_, rfl⟩
    rw [hX] at hX2 ⊢
    simp only [Option.map_none] at hlk
    clear hg hG h hX lt1 lt3 halt
    go_enter Tryz.func132, Tryz.ntmps132
    go_wp2_with fail
    go_big_quiet (fail)
    go_wp2_with fail
    go_ret
    exact ⟨ret_int hX2.out.symm, Joins.below_draws _ _ _⟩
  | some b =>
    rw [hG] at hg hlk
    have hX1 : refuse d 2 s.data.toList nt z l = if (d.room : Int) - used d.fs < l.length then 40 else 0 := by unfold refuse; rw [if_neg (by decide), hg]; rfl
    obtain ⟨X, hX⟩ : ∃ X, refuse d 2 s.data.toList nt z l = X := ⟨_, rfl⟩
    rw [hX] at hX1 ⊢
    simp only [Option.map_some] at hlk
    have kr : w.cell? ⟨a, 0, none⟩ = some (.int .i64 (d.room : Nat)) := by simp [World.cell?, h.blk]
    have hX1' := Lib.hid hX1
    have h' := Lib.hid h
    have hbd' := Lib.hid lt1
    obtain ⟨U, hU⟩ : ∃ U, used d.fs = U := ⟨_, rfl⟩
    have hus : ∀ w1, Below w.heap.size w w1 → Calls Tryz.prog 89 #[.pointer (some ⟨a, 0, none⟩)] w1 fun e w2 => e = .returned (.int .i64 (U : Nat)) ∧ Hid (Below w.heap.size w w2) ∧ w2.cell? ⟨bd, 0, none⟩ = some (.pointer (some ⟨a, 0, none⟩)) ∧ w2.cell? ⟨bb, 0, none⟩ = some (.slice A n c) ∧ w2.cell? ⟨a, 0, none⟩ = some (.int .i64 (d.room : Nat)) := fun w1 hb1 => by
      refine (Used_any w1 B a mb L F tv d (h'.out.below hb1) hu).mono ?_
      rintro e w2 ⟨rfl, hb2⟩
      have hb := hb1.trans (hb2.mono hb1.size)
      exact ⟨by rw [hU], Lib.hid hb, (hb.cell (p := ⟨bd, 0, none⟩) lt1).trans k1, (hb.cell (p := ⟨bb, 0, none⟩) lt3).trans kb, (hb.cell (p := ⟨a, 0, none⟩) halt).trans kr⟩
    have hus' := Lib.hid hus
    rw [hU, hl] at hX1
    have hX1' := Lib.hid hX1
    obtain ⟨R, hR⟩ : ∃ R, d.room = R := ⟨_, rfl⟩
    rw [hR] at kr hX1' hroom hus'
    rw [hU] at hu
    have sall : ∀ w', Below w.heap.size w w' → (Below w.heap.size w w' ∧ w'.cell? ⟨bd, 0, none⟩ = some (.pointer (some ⟨a, 0, none⟩)) ∧ w'.cell? ⟨bb, 0, none⟩ = some (.slice A n c) ∧ w'.cell? ⟨a, 0, none⟩ = some (.int .i64 (R : Nat))) := fun w' hb =>
      ⟨hb, (hb.cell (p := ⟨bd, 0, none⟩) lt1).trans k1, (hb.cell (p := ⟨bb, 0, none⟩) lt3).trans kb, (hb.cell (p := ⟨a, 0, none⟩) halt).trans kr⟩
    have sall' := Lib.hid sall
    clear hg hG h hX hX1 hus hbd' lt1 lt3 halt hl hR hU sall
    go_enter Tryz.func132, Tryz.ntmps132
    go_wp2_with fail
    go_big_quiet (fail)
    have hb1 : Below w.heap.size w (w.drewN nq) := Joins.below_draws _ w nq
    obtain ⟨_, g1, g2, g3⟩ := sall'.out _ hb1
    generalize w.drewN nq = w1 at hb1 g1 g2 g3 ⊢
    have wr : IntKind.i64.wrap ((R : Int) - (U : Int)) = (R : Int) - (U : Int) := IntWalk.i64_in _ (by omega)
    clear k1 k2 kb kr c1 hlk
    by_cases hlt : (R : Int) - (U : Int) < (n : Int)
    · have j1 : decide ((R : Int) - (U : Int) < (n : Int)) = true := by simpa using hlt
      have hX2 : Hid (X = 40) := Lib.hid (by rw [hX1'.out, if_pos hlt])
      go_wp2_with fail
      go_region_held3 (fun w' => Below w.heap.size w w' ∧ w'.cell? ⟨bd, 0, none⟩ = some (.pointer (some ⟨a, 0, none⟩)) ∧ w'.cell? ⟨bb, 0, none⟩ = some (.slice A n c) ∧ w'.cell? ⟨a, 0, none⟩ = some (.int .i64 (R : Nat)))
        (first | exact sall'.out _ (by assumption) | exact sall'.out _ hb1 | exact sall'.out _ (Below.drew hb1))
        (first | (go_at_call 89; refine (hus'.out _ (And.left ‹Below w.heap.size w _ ∧ _›)).mono ?_; rintro e w2 ⟨rfl, hb2, _, _, _⟩; have hB' := hb2.out))
      have hh := Lib.hid (And.left ‹Below w.heap.size w _ ∧ _›)
      go_wp2_with fail
      go_ret
      exact ⟨ret_int hX2.out.symm, hh.out⟩
    · have j1 : decide ((R : Int) - (U : Int) < (n : Int)) = false := by simpa using hlt
      have hX2 : Hid (X = 0) := Lib.hid (by rw [hX1'.out, if_neg hlt])
      go_wp2_with fail
      go_region_held3 (fun w' => Below w.heap.size w w' ∧ w'.cell? ⟨bd, 0, none⟩ = some (.pointer (some ⟨a, 0, none⟩)) ∧ w'.cell? ⟨bb, 0, none⟩ = some (.slice A n c) ∧ w'.cell? ⟨a, 0, none⟩ = some (.int .i64 (R : Nat)))
        (first | exact sall'.out _ (by assumption) | exact sall'.out _ hb1 | exact sall'.out _ (Below.drew hb1))
        (first | (go_at_call 89; refine (hus'.out _ (And.left ‹Below w.heap.size w _ ∧ _›)).mono ?_; rintro e w2 ⟨rfl, hb2, _, _, _⟩; have hB' := hb2.out))
      have hh := Lib.hid (And.left ‹Below w.heap.size w _ ∧ _›)
      go_wp2_with fail
      go_ret
      exact ⟨ret_int hX2.out.symm, hh.out⟩
end Go.Proofs.YtfdpnjebhllpkaaGreatDoor.Dk
end

section
namespace Go.Proofs.YtfdpnjebhllpkaaGreatDoor.Dk
open Go.RowKit

/-- What the closures of Append captured: the variable put, the bytes. -/
def PutV (w : World) (bp bd bn bb : Nat) : Prop := w.cell? ⟨bp, 0, none⟩ = some (.func (.func 130) #[] #[.pointer (some ⟨bd, 0, none⟩), .pointer (some ⟨bn, 0, none⟩), .pointer (some ⟨bb, 0, none⟩)])

set_option maxHeartbeats 1000000 in
set_option maxRecDepth 100000 in
theorem append4 (w : World) (B a mb : Nat) (L : Al Nat) (F : Nat → Fl) (tv : Value) (d : D) (h : Da w B a mb L F tv d) (s : ByteArray) (hs : s.size ≤ 1000000) (bd bn bb bp : Nat) (hc : Cp w bd bn a s) (hp : PutV w bp bd bn bb)
    (A : Option Addr) (n c : Nat) (l : List UInt8) (kb : w.cell? ⟨bb, 0, none⟩ = some (.slice A n c)) (hBs : Bs w A n c l) (hn : n ≤ 1000000) (b : Nat) (hg : Dk.get L s.data.toList = some b) (hfl : (F b).data.length ≤ 1000000000) :
    Calls Tryz.prog 134 #[.pointer (some ⟨bp, 0, none⟩), .pointer (some ⟨bb, 0, none⟩)] w
      fun e w' => e = .returned (.tuple #[]) ∧ St B a mb tv { d with fs := upd s.data.toList (fun f => ⟨f.data ++ l, f.safe⟩) d.fs } w w' := by
  have hcon := append1 w B a mb L F tv d h s hs bd bn bb hc A n c l kb hBs hn n (Nat.le_refl _) b hg hfl
  rw [List.take_of_length_le (by rw [hBs.len]; exact Nat.le_refl _)] at hcon
  have hcon' := Lib.hid hcon
  have kp : w.cell? ⟨bp, 0, none⟩ = _ := hp
  have e1 : ∀ args w, (callFunc 130 args).run Tryz.prog w = .ok (.enter 130 args) w := enters_of Tryz.func130 (by kernel_rfl) rfl
  clear hcon h hc hp hBs hg
  go_enter Tryz.func134, Tryz.ntmps134
  go_wp2_with fail
  refine hcon'.out.mono ?_
  rintro e w1 ⟨rfl, hst⟩
  have hst' := Lib.hid hst
  clear hst kp kb
  go_wp2_with fail
  go_end0
  exact ⟨rfl, hst'.out⟩

set_option maxHeartbeats 1000000 in
set_option maxRecDepth 100000 in
theorem append3 (w : World) (B a mb : Nat) (L : Al Nat) (F : Nat → Fl) (tv : Value) (d : D) (h : Da w B a mb L F tv d) (s : ByteArray) (hs : s.size ≤ 1000000) (bd bn bb bp : Nat) (hc : Cp w bd bn a s) (hp : PutV w bp bd bn bb)
    (A : Option Addr) (n c : Nat) (l : List UInt8) (kb : w.cell? ⟨bb, 0, none⟩ = some (.slice A n c)) (hBs : Bs w A n c l) (hn : n ≤ 1000000) (b : Nat) (hg : Dk.get L s.data.toList = some b) (hfl : (F b).data.length ≤ 1000000000) (z : Int) :
    Calls Tryz.prog 133 #[.int .i64 z, .pointer (some ⟨bp, 0, none⟩), .pointer (some ⟨bb, 0, none⟩)] w
      fun e w' => e = .returned (.tuple #[]) ∧ St B a mb tv { d with fs := upd s.data.toList (fun f => ⟨f.data ++ l.take z.toNat, f.safe⟩) d.fs } w w' := by
  obtain ⟨m, hm⟩ : ∃ m : Nat, min (max z 0) (n : Int) = (m : Int) := ⟨(min (max z 0) (n : Int)).toNat, by omega⟩
  have hcon := append1 w B a mb L F tv d h s hs bd bn bb hc A n c l kb hBs hn m (by omega) b hg hfl
  have htk : l.take m = l.take z.toNat := by
    have hl := hBs.len
    rcases Nat.le_total z.toNat n with h1 | h1
    · rw [show m = z.toNat by omega]
    · rw [show m = n by omega, List.take_of_length_le (by omega), List.take_of_length_le (by omega)]
  rw [htk] at hcon
  have hcon' := Lib.hid hcon
  have kp : w.cell? ⟨bp, 0, none⟩ = _ := hp
  have e1 : ∀ args w, (callFunc 130 args).run Tryz.prog w = .ok (.enter 130 args) w := enters_of Tryz.func130 (by kernel_rfl) rfl
  clear hcon h hc hp hBs hg htk
  go_enter Tryz.func133, Tryz.ntmps133
  go_wp2_with fail
  refine hcon'.out.mono ?_
  rintro e w1 ⟨rfl, hst⟩
  have hst' := Lib.hid hst
  clear hst kp kb
  go_wp2_with fail
  go_end0
  exact ⟨rfl, hst'.out⟩
end Go.Proofs.YtfdpnjebhllpkaaGreatDoor.Dk
end
