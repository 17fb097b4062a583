/- Used. -/
import Derived.Test.YtjhiihmibleecaaDoorDkOps1
namespace Go.Proofs.YtjhiihmibleecaaDoor.Dk
open Go.RowKit

/-- The bytes of the files that are left. -/
def sumLeft (F : Nat → Fl) (left : Lit → Bool) (l : Al Nat) : Nat := (l.map fun p => if left (.string p.1) then (F p.2).data.length else 0).sum
theorem sumLeft_cons (F : Nat → Fl) (left : Lit → Bool) (p : Name × Nat) (l : Al Nat) : sumLeft F left (p :: l) = (if left (.string p.1) then (F p.2).data.length else 0) + sumLeft F left l := by simp [sumLeft]
theorem sumLeft_none {F : Nat → Fl} {left : Lit → Bool} (h : ∀ k, left k = false) (l : Al Nat) : sumLeft F left l = 0 := by
  induction l with
  | nil => rfl
  | cons p l ih => rw [sumLeft_cons, ih, h]; rfl
theorem sumLeft_off {F : Nat → Fl} {left : Lit → Bool} {nm : Name} {l : Al Nat} (h : ∀ p ∈ l, p.1 ≠ nm) : sumLeft F (fun z => left z && !z.sameKey (.string nm)) l = sumLeft F left l := by
  unfold sumLeft
  congr 1
  apply List.map_congr_left
  intro p hp
  have : ((Lit.string p.1).sameKey (.string nm)) = false := by simpa [Lit.sameKey] using h p hp
  simp [this]
theorem sumLeft_step {F : Nat → Fl} {left : Lit → Bool} {nm : Name} {b : Nat} {l : Al Nat} (hU : Up l) (hm : (nm, b) ∈ l) (hl : left (.string nm) = true) :
    sumLeft F left l = (F b).data.length + sumLeft F (fun z => left z && !z.sameKey (.string nm)) l := by
  induction l with
  | nil => cases hm
  | cons p l ih =>
    rw [sumLeft_cons, sumLeft_cons]
    rcases List.mem_cons.1 hm with e | hm'
    · subst e
      rw [sumLeft_off fun q hq => (before_ne (hU.head hq)).symm, hl]
      simp [Lit.sameKey]
    · have hne : p.1 ≠ nm := before_ne (hU.head hm')
      rw [ih hU.tail hm']
      have : ((Lit.string p.1).sameKey (.string nm)) = false := by simpa [Lit.sameKey] using hne
      simp only [this, Bool.not_false, Bool.and_true]
      omega
theorem sumLeft_all {F : Nat → Fl} (L : Al Nat) : sumLeft F (Maps.has (mp L)) L = used (L.map fun p => (p.1, F p.2)) := by
  have : ∀ p ∈ L, Maps.has (mp L) (.string p.1) = true := fun p hp => by
    unfold mp
    rw [Maps.has_eq, List.any_eq_true]
    exact ⟨_, List.mem_map.2 ⟨p, hp, rfl⟩, by simp [Lit.sameKey]⟩
  unfold sumLeft used
  rw [List.map_map]
  congr 1
  apply List.map_congr_left
  intro p hp
  rw [this p hp]
  rfl
theorem sumLeft_le {F : Nat → Fl} {left : Lit → Bool} (L : Al Nat) : sumLeft F left L ≤ used (L.map fun p => (p.1, F p.2)) := by
  induction L with
  | nil => exact Nat.le_refl _
  | cons p L ih =>
    rw [sumLeft_cons, List.map_cons, used_cons]
    simp only
    split <;> omega

theorem below_grown_none {w w' : World} (h : w.grownBy w' none) : Below w.heap.size w w' := ⟨h.os, h.tape, h.output, h.size, fun k hk => h.block k hk (by simp)⟩
theorem ptr_inv {v : Value} {y : DataW Unit × List MemPlace} (h : ptrElem v = some y) : ∃ c : Option Addr, v = .pointer c := by
  unfold ptrElem at h
  split at h
  · exact ⟨_, rfl⟩
  · exact ⟨_, rfl⟩
  · cases h

theorem str_key_inv {key : Value} {kl : Lit} (h : keyOf Tryd.prog 9 key = some kl) : ∃ x : ByteArray, key = .string x := by
  obtain ⟨s, h1, _⟩ := WideMaps.string_of_keyOf Tryd.underlying9 h
  exact ⟨s, h1⟩

set_option maxHeartbeats 1000000 in
set_option maxRecDepth 100000 in
theorem Used_any (w : World) (B a mb : Nat) (L : Al Nat) (F : Nat → Fl) (tv : Value) (d : D) (h : Da w B a mb L F tv d) (hu : used d.fs ≤ 1000000000) :
    Calls Tryd.prog 11 #[.pointer (some ⟨a, 0, none⟩)] w fun e w' => e = .returned (.int .i64 (used d.fs : Nat)) ∧ Below w.heap.size w w' := by
  have c1 : w.cell? ⟨a, 1, none⟩ = some (.map (some mb)) := by simp [World.cell?, h.blk]
  have hown := h.own
  have htot := sumLeft_all (F := F) L
  rw [← h.fs] at htot
  have hle : ∀ left, sumLeft F left L ≤ used d.fs := fun left => by rw [h.fs]; exact sumLeft_le L
  obtain ⟨U, hU⟩ : ∃ U, used d.fs = U := ⟨_, rfl⟩
  rw [hU] at htot hu hle ⊢
  have htot' := Lib.hid htot
  have hle' := Lib.hid hle
  have h' := Lib.hid h
  have hown' := Lib.hid hown
  clear htot hle h hown hU
  go_enter Tryd.func11, Tryd.ntmps11
  go_wp2_with (at_range; apply stop_here)
  refine Stop.go (wpList_range_own _ rfl _ 56 rfl 9 55 law_str Tryd.underlying56 ptrElem mb L.length (mp L) rfl hown'.out ?_)
  intro w1 hr1 hg1 hs1
  have hb1 := Lib.hid (below_grown_none hg1)
  have hr1' := Lib.hid hr1
  have hs1' := Lib.hid hs1
  clear hr1 hg1 hs1 c1
  go_wp2_with fail
  go_frame
  go_loopw [3] (fun v wr => ∃ (left : Lit → Bool) (cnt s : Nat), v = .int .i64 (s : Nat) ∧ Hid (wr.ranges Tryd.prog 9 ptrElem mb w.heap.size L.length (mp L) left cnt) ∧ Hid (s + sumLeft F left L = U) ∧ Hid (Below w.heap.size w wr)) (fun _ wr => wr.rangeLeft mb w.heap.size)
  case atStart => exact ⟨_, _, 0, rfl, hr1', Lib.hid (by rw [htot'.out]; omega), hb1⟩
  case round =>
    obtain ⟨left, cnt, s, rfl, hrg, hsum, hb⟩ := hrel
    have hcnt := hrg.out.left_eq
    go_wp2_with (at_next; apply stop_here)
    refine Stop.go (wpList_next_ranges _ rfl _ rfl 9 law_str ptrElem Value.string Value.pointer (fun key kl hk => str_key_inv hk) (fun v y hy => ptr_inv hy) mb w.heap.size L.length (mp L) left cnt rfl hrg.out ?_ ?_)
    · intro h0 hl
      have hU : s = U := by have := hsum.out; rw [sumLeft_none hl] at this; exact this
      go_wp2_with fail
      go_ret
      exact ⟨rfl, hb.out⟩
    · intro x c kl y w2 cnt2 hkey hlk hR hat hrg2 hlt hg2 hs2 hen
      obtain ⟨x', hx1, hx2, _⟩ := WideMaps.string_of_keyOf Tryd.underlying9 hkey
      injection hx1 with hx1
      subst hx1
      subst hx2
      have hb2 := Lib.hid (hb.out.trans (below_row hg2 (Nat.le_refl _) hb.out.size))
      cases hgl : get L x.data.toList with
      | none =>
        have e1 := hat .nil
        have e2 := hat (.lit (.bool true))
        rw [mp_at, hgl] at e1 e2
        simp only at e1 e2
        rw [← e1] at e2
        cases e2
      | some b =>
        have e1 := hat .nil
        rw [mp_at, hgl] at e1
        simp only at e1
        obtain ⟨y1, y2⟩ := y
        simp only at e1
        subst e1
        have hc := ptr_blk hR
        injection hc with hc
        subst hc
        have hmem := get_mem hgl
        obtain ⟨hB, v, k1, k2⟩ := (h'.out.below hb2.out).files _ hmem
        obtain ⟨A, c, rfl, hbs⟩ := OwB.slice k2
        have k0 : w2.cell? ⟨b, 0, none⟩ = some (.slice A (F b).data.length c) := by simp [World.cell?, k1]
        have hst := sumLeft_step (F := F) h'.out.up hmem hlk
        have hsu : s + (F b).data.length + sumLeft F (fun z => left z && !z.sameKey (.string x.data.toList)) L = U := by have := hsum.out; omega
        obtain ⟨n, hn⟩ : ∃ n, (F b).data.length = n := ⟨_, rfl⟩
        rw [hn] at k0 hsu
        have hsn : s + n ≤ U := by omega
        have hsu' := Lib.hid hsu
        have hrg2' := Lib.hid hrg2
        have hcnt2 := hrg2.left_eq
        have hlt' := Lib.hid hlt
        have hcnt' := Lib.hid hcnt
        have hcnt2' := Lib.hid hcnt2
        clear hsu hrg2 hst hmem hbs k1 k2 hn hat hR hkey hlk hg2 hs2 hlt hcnt hcnt2 hgl
        go_wp2_with fail
        go_roundw
        case rel => exact ⟨_, cnt2, s + n, by go_num, hrg2', hsu', hb2⟩
        case measure => rw [hcnt'.out, hcnt2'.out]; exact hlt'.out
end Go.Proofs.YtjhiihmibleecaaDoor.Dk
