/- The document's disk in memory; its small functions. -/
import Derived.Test.YtfdpnjebhllpkaaGreatDoorMSgGd
import Derived.Test.YtfdpnjebhllpkaaGreatDoorMDkLaw2
section
namespace Go.Proofs.YtfdpnjebhllpkaaGreatDoor.Dk
open Go.RowKit

theorem letter_yes {c : UInt8} (h : c.toNat = 45 ∨ c.toNat = 46 ∨ (48 ≤ c.toNat ∧ c.toNat ≤ 57) ∨ (97 ≤ c.toNat ∧ c.toNat ≤ 122)) : letter c = true := by
  unfold letter
  simp only [Bool.or_eq_true, decide_eq_true_eq, beq_iff_eq]
  rcases h with h | h | h | h
  · exact .inr (UInt8.toNat_inj.1 h)
  · exact .inl (.inr (UInt8.toNat_inj.1 h))
  · exact .inl (.inl (.inr h))
  · exact .inl (.inl (.inl h))
theorem letter_no {c : UInt8} (h : ¬ (c.toNat = 45 ∨ c.toNat = 46 ∨ (48 ≤ c.toNat ∧ c.toNat ≤ 57) ∨ (97 ≤ c.toNat ∧ c.toNat ≤ 122))) : letter c = false := by
  cases e : letter c with
  | false => rfl
  | true =>
    unfold letter at e
    simp only [Bool.or_eq_true, decide_eq_true_eq, beq_iff_eq] at e
    refine absurd ?_ h
    rcases e with ((e | e) | e) | e
    · exact .inr (.inr (.inr e))
    · exact .inr (.inr (.inl e))
    · exact .inr (.inl (by rw [e]; rfl))
    · exact .inl (by rw [e]; rfl)
theorem may_take {l : List UInt8} {k : Nat} {c : UInt8} (h : l[k]? = some c) : (l.take (k + 1)).all letter = ((l.take k).all letter && letter c) := by
  rw [take_snoc h]; simp

set_option maxHeartbeats 1000000 in
set_option maxRecDepth 100000 in
theorem May_any (s : ByteArray) (hs : s.size ≤ 1000000) (w : World) :
    Calls Tryz.prog 105 #[.string s] w fun e w' => e = .returned (.bool (may s.data.toList)) ∧ w = w' := by
  have hsz : Hid (s.data.toList.length = s.size) := Lib.hid (Array.length_toList ..)
  obtain ⟨M, hM⟩ : ∃ M, may s.data.toList = M := ⟨_, rfl⟩
  rw [hM]
  have hM' := Lib.hid hM
  clear hM
  go_enter Tryz.func105, Tryz.ntmps105
  go_wp2_with fail
  go_loop [3] (fun i => ∃ (k : Nat), k ≤ s.size ∧ i = .int .i64 k ∧ Hid ((s.data.toList.take k).all letter = true)) (fun i => s.size - (intOf i).toNat)
  case atStart => exact ⟨0, by omega, rfl, Lib.hid rfl⟩
  case round =>
    obtain ⟨k, hk, rfl, hrel⟩ := hrel
    by_cases hlt : k < s.size
    · have hg : s.data.toList[k]? = some s[k] := by
        rw [List.getElem?_eq_getElem (by rw [Array.length_toList]; exact hlt)]
        rfl
      obtain ⟨x, hx⟩ : ∃ x : UInt8, s[k] = x := ⟨_, rfl⟩
      rw [hx] at hg
      have hg' := Lib.hid hg
      clear hg
      have hx8 := x.toNat_lt
      have hcs : (x.toNat < 45) ∨ (x.toNat = 45) ∨ (x.toNat = 46) ∨ (x.toNat = 47) ∨ (48 ≤ x.toNat ∧ x.toNat ≤ 57) ∨ (58 ≤ x.toNat ∧ x.toNat < 97) ∨ (97 ≤ x.toNat ∧ x.toNat ≤ 122) ∨ (122 < x.toNat) := by omega
      rcases hcs with hc | hc | hc | hc | hc | hc | hc | hc
      · have hL : Hid (letter x = false) := Lib.hid (letter_no (by omega))
        have f1 : decide ((x.toNat : Int) < 97) = true := by (rw [decide_eq_true_eq]; omega)
        have f2 : decide ((122 : Int) < (x.toNat : Int)) = false := by (rw [decide_eq_false_iff_not]; omega)
        have f3 : decide ((x.toNat : Int) < 48) = true := by (rw [decide_eq_true_eq]; omega)
        have f4 : decide ((57 : Int) < (x.toNat : Int)) = false := by (rw [decide_eq_false_iff_not]; omega)
        have f5 : ((x.toNat : Int) != 46) = true := by (rw [bne_iff_ne]; omega)
        have f6 : ((x.toNat : Int) != 45) = true := by (rw [bne_iff_ne]; omega)
        clear hc
        go_wp2_with fail
        go_ret
        refine ⟨ret_bool ?_, rfl⟩
        have h1 := hM'.out
        unfold may at h1
        have hno : s.data.toList.all letter = false := by
          rw [List.all_eq_false]
          exact ⟨x, List.mem_of_getElem? hg'.out, by rw [hL.out]; decide⟩
        rw [hno, Bool.and_false] at h1
        exact h1
      · have hL : Hid (letter x = true) := Lib.hid (letter_yes (by omega))
        have f1 : decide ((x.toNat : Int) < 97) = true := by (rw [decide_eq_true_eq]; omega)
        have f2 : decide ((122 : Int) < (x.toNat : Int)) = false := by (rw [decide_eq_false_iff_not]; omega)
        have f3 : decide ((x.toNat : Int) < 48) = true := by (rw [decide_eq_true_eq]; omega)
        have f4 : decide ((57 : Int) < (x.toNat : Int)) = false := by (rw [decide_eq_false_iff_not]; omega)
        have f5 : ((x.toNat : Int) != 46) = true := by (rw [bne_iff_ne]; omega)
        have f6 : ((x.toNat : Int) != 45) = false := by (rw [bne_eq_false_iff_eq]; omega)
        clear hc
        go_wp2_with fail
        go_round
        case rel => exact ⟨k + 1, by omega, by go_num, Lib.hid (by rw [may_take hg'.out, hrel.out, hL.out]; rfl)⟩
        case measure => simp [intOf]; omega
      · have hL : Hid (letter x = true) := Lib.hid (letter_yes (by omega))
        have f1 : decide ((x.toNat : Int) < 97) = true := by (rw [decide_eq_true_eq]; omega)
        have f2 : decide ((122 : Int) < (x.toNat : Int)) = false := by (rw [decide_eq_false_iff_not]; omega)
        have f3 : decide ((x.toNat : Int) < 48) = true := by (rw [decide_eq_true_eq]; omega)
        have f4 : decide ((57 : Int) < (x.toNat : Int)) = false := by (rw [decide_eq_false_iff_not]; omega)
        have f5 : ((x.toNat : Int) != 46) = false := by (rw [bne_eq_false_iff_eq]; omega)
        have f6 : ((x.toNat : Int) != 45) = true := by (rw [bne_iff_ne]; omega)
        clear hc
        go_wp2_with fail
        go_round
        case rel => exact ⟨k + 1, by omega, by go_num, Lib.hid (by rw [may_take hg'.out, hrel.out, hL.out]; rfl)⟩
        case measure => simp [intOf]; omega
      · have hL : Hid (letter x = false) := Lib.hid (letter_no (by omega))
        have f1 : decide ((x.toNat : Int) < 97) = true := by (rw [decide_eq_true_eq]; omega)
        have f2 : decide ((122 : Int) < (x.toNat : Int)) = false := by (rw [decide_eq_false_iff_not]; omega)
        have f3 : decide ((x.toNat : Int) < 48) = true := by (rw [decide_eq_true_eq]; omega)
        have f4 : decide ((57 : Int) < (x.toNat : Int)) = false := by (rw [decide_eq_false_iff_not]; omega)
        have f5 : ((x.toNat : Int) != 46) = true := by (rw [bne_iff_ne]; omega)
        have f6 : ((x.toNat : Int) != 45) = true := by (rw [bne_iff_ne]; omega)
        clear hc
        go_wp2_with fail
        go_ret
        refine ⟨ret_bool ?_, rfl⟩
        have h1 := hM'.out
        unfold may at h1
        have hno : s.data.toList.all letter = false := by
          rw [List.all_eq_false]
          exact ⟨x, List.mem_of_getElem? hg'.out, by rw [hL.out]; decide⟩
        rw [hno, Bool.and_false] at h1
        exact h1
      · have hL : Hid (letter x = true) := Lib.hid (letter_yes (by omega))
        have f1 : decide ((x.toNat : Int) < 97) = true := by (rw [decide_eq_true_eq]; omega)
        have f2 : decide ((122 : Int) < (x.toNat : Int)) = false := by (rw [decide_eq_false_iff_not]; omega)
        have f3 : decide ((x.toNat : Int) < 48) = false := by (rw [decide_eq_false_iff_not]; omega)
        have f4 : decide ((57 : Int) < (x.toNat : Int)) = false := by (rw [decide_eq_false_iff_not]; omega)
        have f5 : ((x.toNat : Int) != 46) = true := by (rw [bne_iff_ne]; omega)
        have f6 : ((x.toNat : Int) != 45) = true := by (rw [bne_iff_ne]; omega)
        clear hc
        go_wp2_with fail
        go_round
        case rel => exact ⟨k + 1, by omega, by go_num, Lib.hid (by rw [may_take hg'.out, hrel.out, hL.out]; rfl)⟩
        case measure => simp [intOf]; omega
      · have hL : Hid (letter x = false) := Lib.hid (letter_no (by omega))
        have f1 : decide ((x.toNat : Int) < 97) = true := by (rw [decide_eq_true_eq]; omega)
        have f2 : decide ((122 : Int) < (x.toNat : Int)) = false := by (rw [decide_eq_false_iff_not]; omega)
        have f3 : decide ((x.toNat : Int) < 48) = false := by (rw [decide_eq_false_iff_not]; omega)
        have f4 : decide ((57 : Int) < (x.toNat : Int)) = true := by (rw [decide_eq_true_eq]; omega)
        have f5 : ((x.toNat : Int) != 46) = true := by (rw [bne_iff_ne]; omega)
        have f6 : ((x.toNat : Int) != 45) = true := by (rw [bne_iff_ne]; omega)
        clear hc
        go_wp2_with fail
        go_ret
        refine ⟨ret_bool ?_, rfl⟩
        have h1 := hM'.out
        unfold may at h1
        have hno : s.data.toList.all letter = false := by
          rw [List.all_eq_false]
          exact ⟨x, List.mem_of_getElem? hg'.out, by rw [hL.out]; decide⟩
        rw [hno, Bool.and_false] at h1
        exact h1
      · have hL : Hid (letter x = true) := Lib.hid (letter_yes (by omega))
        have f1 : decide ((x.toNat : Int) < 97) = false := by (rw [decide_eq_false_iff_not]; omega)
        have f2 : decide ((122 : Int) < (x.toNat : Int)) = false := by (rw [decide_eq_false_iff_not]; omega)
        have f3 : decide ((x.toNat : Int) < 48) = false := by (rw [decide_eq_false_iff_not]; omega)
        have f4 : decide ((57 : Int) < (x.toNat : Int)) = true := by (rw [decide_eq_true_eq]; omega)
        have f5 : ((x.toNat : Int) != 46) = true := by (rw [bne_iff_ne]; omega)
        have f6 : ((x.toNat : Int) != 45) = true := by (rw [bne_iff_ne]; omega)
        clear hc
        go_wp2_with fail
        go_round
        case rel => exact ⟨k + 1, by omega, by go_num, Lib.hid (by rw [may_take hg'.out, hrel.out, hL.out]; rfl)⟩
        case measure => simp [intOf]; omega
      · have hL : Hid (letter x = false) := Lib.hid (letter_no (by omega))
        have f1 : decide ((x.toNat : Int) < 97) = false := by (rw [decide_eq_false_iff_not]; omega)
        have f2 : decide ((122 : Int) < (x.toNat : Int)) = true := by (rw [decide_eq_true_eq]; omega)
        have f3 : decide ((x.toNat : Int) < 48) = false := by (rw [decide_eq_false_iff_not]; omega)
        have f4 : decide ((57 : Int) < (x.toNat : Int)) = true := by (rw [decide_eq_true_eq]; omega)
        have f5 : ((x.toNat : Int) != 46) = true := by (rw [bne_iff_ne]; omega)
        have f6 : ((x.toNat : Int) != 45) = true := by (rw [bne_iff_ne]; omega)
        clear hc
        go_wp2_with fail
        go_ret
        refine ⟨ret_bool ?_, rfl⟩
        have h1 := hM'.out
        unfold may at h1
        have hno : s.data.toList.all letter = false := by
          rw [List.all_eq_false]
          exact ⟨x, List.mem_of_getElem? hg'.out, by rw [hL.out]; decide⟩
        rw [hno, Bool.and_false] at h1
        exact h1
    · have hkn : k = s.size := by omega
      subst hkn
      have hall : Hid (s.data.toList.all letter = true) := Lib.hid (by have := hrel.out; rwa [List.take_of_length_le (by rw [hsz.out]; omega)] at this)
      have hMv : Hid (M = (decide (1 ≤ s.size) && decide (s.size ≤ 40))) := Lib.hid (by
        rw [← hM'.out]
        unfold may
        rw [hall.out, hsz.out, Bool.and_true]
        cases hz : s.data.toList with
        | nil => have := hsz.out; rw [hz] at this; simp at this; simp [← this]
        | cons c r => have := hsz.out; rw [hz] at this; simp at this; simp [← this])
      by_cases h1 : 1 ≤ s.size
      · have g1 : decide ((1 : Int) ≤ (s.size : Int)) = true := by rw [decide_eq_true_eq]; omega
        have g2 : decide (1 ≤ s.size) = true := by rw [decide_eq_true_eq]; omega
        go_wp2_with fail
        go_ret
        refine ⟨ret_bool ?_, rfl⟩
        rw [hMv.out, g2, Bool.true_and]
        first | rfl | (simp; omega)
      · have g1 : decide ((1 : Int) ≤ (s.size : Int)) = false := by rw [decide_eq_false_iff_not]; omega
        have g2 : decide (1 ≤ s.size) = false := by rw [decide_eq_false_iff_not]; omega
        go_wp2_with fail
        go_ret
        refine ⟨ret_bool ?_, rfl⟩
        rw [hMv.out, g2, Bool.false_and]
end Go.Proofs.YtfdpnjebhllpkaaGreatDoor.Dk
end

section
namespace Go.Proofs.YtfdpnjebhllpkaaGreatDoor.Dk
open Go.RowKit

theorem le_sum_of_mem : ∀ {l : List In} {f : In}, f ∈ l → f.data.length ≤ (l.map (·.data.length)).sum
  | [], _, h => by cases h
  | g :: l, f, h => by
    rw [List.map_cons, List.sum_cons]
    rcases List.mem_cons.1 h with rfl | h
    · omega
    · have := le_sum_of_mem h; omega

theorem bytes_ext {a b : ByteArray} (h : a.data.toList = b.data.toList) : a = b := by
  cases a; cases b
  rw [Array.toList_inj] at h
  rw [ByteArray.mk.injEq]
  exact h
/-- Rows of files, the rows and the bytes in memory from two places on. -/
abbrev OwG (w : World) (Bd Br : Nat) (v : Value) (l : List In) : Prop := OwS (FoEl Bd) 3 w Br 84 v l
theorem OwG.below {w w' : World} {Bd Br : Nat} {v : Value} {l : List In} (h : OwG w Bd Br v l) (hb : Below w.heap.size w w') : OwG w' Bd Br v l := OwS.below h hb (FoEl.below hb)
theorem OwG.below_draws {w : World} {Bd Br : Nat} {v : Value} {l : List In} (h : OwG w Bd Br v l) (k : Nat) : OwG (w.drewN k) Bd Br v l := h.below (Joins.below_draws _ w k)

theorem Sq.imp {α : Type} {El El' : World → List Value → α → Prop} {k : Nat} {w : World} {A : Option Addr} {n c : Nat} {l : List α} (h : Sq El k w A n c l) (hE : ∀ vs x, El w vs x → El' w vs x) : Sq El' k w A n c l :=
  ⟨h.len, h.le, h.max, h.nil, fun hn => by
    obtain ⟨b, off, e, hlt, hc⟩ := h.cell hn
    refine ⟨b, off, e, hlt, fun i x hi => ?_⟩
    obtain ⟨vs, h1, h2, h3⟩ := hc i x hi
    exact ⟨vs, h1, hE _ _ h2, h3⟩⟩
theorem fe_of {B : Nat} {w : World} {A : Option Addr} {n c : Nat} {l : List In} (h : Sq (FoEl B) 3 w A n c l) : Sq FeEl 3 w A n c l := Sq.imp h fun _ _ h => h.fe
theorem DoEl.one (w : World) : ∀ (vs : List Value) (t : Dx), DoEl w vs t → ∀ u ∈ vs, u.oneCell' = true := by
  rintro vs t ⟨s, s2, Ab, nb, cb, At, nt, ct, Al, nl, cl, rfl, _⟩ u hu
  simp at hu
  rcases hu with rfl | rfl | rfl | rfl | rfl | rfl | rfl <;> rfl

end Go.Proofs.YtfdpnjebhllpkaaGreatDoor.Dk
end

section
namespace Go.Proofs.YtfdpnjebhllpkaaGreatDoor.Dk
open Go.RowKit

/-- The document's disk: its block rb, its files in a row by rising names, its troubles. -/
structure Ra (w : World) (B rb : Nat) (lv tv : Value) (d : D) : Prop where
  base : B ≤ rb
  blk : w.heap[rb]? = some (.cells #[.int .i64 (d.room : Nat), lv, tv, .int .i64 (d.ops : Nat), .bool d.down] 66)
  row : OwG w B B lv (d.fs.map toIn)
  tr : w.ownsRow B 121 3 tv d.tr.length (trf d.tr)

/-- Nothing but the document's disks and rows of files has turned. -/
def Rm (w w' : World) : Prop := ∀ (k : Nat) (o : Obj), w.heap[k]? = some o → (∀ cs fr, o ≠ .cells cs 66 fr) → (∀ cs fr, o ≠ .cells cs 84 fr) → w'.heap[k]? = some o
theorem Rm.refl (w : World) : Rm w w := fun _ _ h _ _ => h
theorem Rm.trans {w w1 w2 : World} (h : Rm w w1) (h2 : Rm w1 w2) : Rm w w2 := fun k o hk h3 h4 => h2 k o (h k o hk h3 h4) h3 h4
theorem Rm.below {w w' : World} (h : Below w.heap.size w w') : Rm w w' := fun k _ hk _ _ => (h.block k (Array.getElem?_eq_some_iff.1 hk).1).trans hk
theorem Rm.grown {w w' : World} {r : Nat} (hg : w.grownBy w' (some r)) (hr : ∀ o, w.heap[r]? = some o → (∃ cs fr, o = .cells cs 66 fr) ∨ (∃ cs fr, o = .cells cs 84 fr)) : Rm w w' := fun k o hk h3 h4 => by
  refine (hg.block k (Array.getElem?_eq_some_iff.1 hk).1 ?_).trans hk
  intro e
  injection e with e
  subst e
  rcases hr _ hk with ⟨cs, fr, e⟩ | ⟨cs, fr, e⟩
  · exact h3 cs fr e
  · exact h4 cs fr e
theorem Rm.row {w w' : World} (h : Rm w w') {B E s n : Nat} {v : Value} {xs : List Value} (ho : w.ownsRow B E s v n xs) (h3 : E ≠ 66) (h4 : E ≠ 84) : w'.ownsRow B E s v n xs := by
  obtain ⟨h1, h2⟩ := ho
  refine ⟨h1, h2.imp id ?_⟩
  rintro ⟨g, cap, cur, hv, hB, hh, hr⟩
  refine ⟨g, cap, cur, hv, hB, h g _ hh (fun cs fr e => ?_) (fun cs fr e => ?_), hr⟩
  · injection e with _ e _; exact h3 e
  · injection e with _ e _; exact h4 e

/-- The program's disk stays as it is. -/
theorem Da.rm {w w' : World} {B a mb : Nat} {L : Al Nat} {F : Nat → Fl} {tv : Value} {d : D} (h : Da w B a mb L F tv d) (hr : Rm w w') (hg : Below B w w') : Da w' B a mb L F tv d := by
  obtain ⟨es, cl, hmb⟩ := h.mblk
  have hm : w'.heap[mb]? = some (.map es cl) := hr mb _ hmb (fun cs fr e => by cases e) (fun cs fr e => by cases e)
  refine ⟨h.base, hr a _ h.blk (fun cs fr e => ?_) (fun cs fr e => ?_), ?_, h.fs, h.up, fun p hp => ?_, h.nd, hr.row h.tr (by decide) (by decide)⟩
  · injection e with _ e _; exact absurd e (by decide)
  · injection e with _ e _; exact absurd e (by decide)
  · obtain ⟨es', cl', h1, h2⟩ := h.own
    rw [hmb] at h1
    injection h1 with h1
    injection h1 with e1 e2
    subst e1; subst e2
    exact ⟨_, _, hm, h2⟩
  · obtain ⟨h1, v, h2, h3⟩ := h.files p hp
    refine ⟨h1, v, hr p.2 _ h2 (fun cs fr e => ?_) (fun cs fr e => ?_), hr.row h3 (by decide) (by decide)⟩
    · injection e with _ e _; exact absurd e (by decide)
    · injection e with _ e _; exact absurd e (by decide)

section
variable {w w' : World} {B rb : Nat} {lv tv : Value} {d : D}
theorem Ra.lt (h : Ra w B rb lv tv d) : rb < w.heap.size := (Array.getElem?_eq_some_iff.1 h.blk).1
theorem Ra.fm (h : Ra w B rb lv tv d) (hf : Fm w w') : Ra w' B rb lv tv d :=
  ⟨h.base, hf rb _ _ _ h.blk (by decide) (by decide), ows_fm h.row hf (by decide) (by decide) (FoEl.fm hf), hf.row h.tr (by decide) (by decide)⟩
theorem Ra.below (h : Ra w B rb lv tv d) (hb : Below w.heap.size w w') : Ra w' B rb lv tv d := h.fm (Fm.below hb)
theorem Ra.sq (h : Ra w B rb lv tv d) : ∃ A c, lv = .slice A d.fs.length c ∧ Sq (FoEl B) 3 w A d.fs.length c (d.fs.map toIn) := by
  obtain ⟨A, c, e, h1⟩ := h.row.sq (by omega)
  rw [List.length_map] at e h1
  exact ⟨A, c, e, h1⟩
theorem Ra.noB (h : Ra w B rb lv tv d) : NoE 5 w (some rb) := NoE.of h.blk (by intro cs fr e; injection e with _ e2 _; exact absurd e2 (by decide))
theorem Ra.noT (h : Ra w B rb lv tv d) : NoE 121 w (some rb) := NoE.of h.blk (by intro cs fr e; injection e with _ e2 _; exact absurd e2 (by decide))
theorem Ra.noF (h : Ra w B rb lv tv d) : NoE 84 w (some rb) := NoE.of h.blk (by intro cs fr e; injection e with _ e2 _; exact absurd e2 (by decide))
theorem ows_keptN {α : Type} {El : World → List Value → α → Prop} {k B E : Nat} {v : Value} {l : List α} {row : Option Nat} (h : OwS El k w B E v l) (hg : w.grownBy w' row) (hn : NoE E w row) (hE : ∀ vs x, El w vs x → El w' vs x) : OwS El k w' B E v l := by
  obtain ⟨xs, h1, h2⟩ := h
  exact ⟨xs, row_kept h1 hg hn, h2.mono hE⟩
/-- The disk's own block has turned. -/
theorem Ra.setA (h : Ra w B rb lv tv d) (hg : w.grownBy w' (some rb)) {lv' tv' : Value} {d' : D}
    (hblk : w'.heap[rb]? = some (.cells #[.int .i64 (d'.room : Nat), lv', tv', .int .i64 (d'.ops : Nat), .bool d'.down] 66))
    (hrow : OwG w' B B lv' (d'.fs.map toIn)) (htr : w'.ownsRow B 121 3 tv' d'.tr.length (trf d'.tr)) : Ra w' B rb lv' tv' d' ∧ Below B w w' ∧ Rm w w' :=
  ⟨⟨h.base, hblk, hrow, htr⟩, below_row hg h.base (Nat.le_trans h.base (Nat.le_of_lt h.lt)), Rm.grown hg fun o ho => by
    rw [h.blk] at ho
    injection ho with ho
    exact .inl ⟨_, _, ho.symm⟩⟩
theorem Ra.row_set (h : Ra w B rb lv tv d) (i : Nat) (x : Value) : OwG (w.setCell ⟨rb, i, none⟩ x) B B lv (d.fs.map toIn) := ows_keptN h.row (grown_set w ⟨rb, i, none⟩ x) h.noF (FoEl.kept (grown_set w ⟨rb, i, none⟩ x) h.noB)
theorem Ra.tr_set (h : Ra w B rb lv tv d) (i : Nat) (x : Value) : (w.setCell ⟨rb, i, none⟩ x).ownsRow B 121 3 tv d.tr.length (trf d.tr) := row_kept h.tr (grown_set w ⟨rb, i, none⟩ x) h.noT
end

theorem rNew_any (w : World) (room : Int) : Calls Tryz.prog 32 #[.int .i64 room] w fun e w' => ∃ b, e = .returned (.pointer (some ⟨b, 0, none⟩)) ∧ Hid (∀ B, B ≤ w.heap.size → Ra w' B b (.slice none 0 0) (.slice none 0 0) (new room)) ∧ Below w.heap.size w w' := by
  by_cases h0 : room < 0
  · have d0 : decide (room < 0) = true := by rw [decide_eq_true_eq]; exact h0
    go_enter Tryz.func32, Tryz.ntmps32
    go_wp2_with fail
    go_ret
    have hn := heap_alloc_new w (.cells #[.int .i64 0, .slice none 0 0, .slice none 0 0, .int .i64 0, .bool false] 66)
    refine ⟨_, rfl, Lib.hid fun B hB => ⟨hB, ?_, OwS.nil _ _ _, World.ownsRow_nil _ _ _ _⟩, below_alloc _ _⟩
    rw [hn]
    have e : (new room).room = 0 := by show room.toNat = 0; omega
    rw [e]
    rfl
  · have d0 : decide (room < 0) = false := by rw [decide_eq_false_iff_not]; exact h0
    go_enter Tryz.func32, Tryz.ntmps32
    go_wp2_with fail
    go_ret
    have hn := heap_alloc_new w (.cells #[.int .i64 room, .slice none 0 0, .slice none 0 0, .int .i64 0, .bool false] 66)
    refine ⟨_, rfl, Lib.hid fun B hB => ⟨hB, ?_, OwS.nil _ _ _, World.ownsRow_nil _ _ _ _⟩, below_alloc _ _⟩
    rw [hn]
    have e : (((new room).room : Nat) : Int) = room := by show ((room.toNat : Nat) : Int) = room; omega
    rw [e]
    rfl

/-- Where a file stands; -1: nowhere. -/
def atI (fs : Fs) (nm : Name) : Int := match fs.findIdx? (fun p => p.1 == nm) with | none => -1 | some i => (i : Nat)
theorem atI_step {fs : Fs} {k : Nat} {nm : Name} {p : Name × Fl} (h : fs[k]? = some p) (hno : ∀ (i : Nat) q, i < k → fs[i]? = some q → q.1 ≠ nm) (he : p.1 = nm) : atI fs nm = (k : Nat) := by
  have : fs.findIdx? (fun p => p.1 == nm) = some k := by
    rw [List.findIdx?_eq_some_iff_getElem]
    obtain ⟨hk, e⟩ := List.getElem?_eq_some_iff.1 h
    refine ⟨hk, by rw [e]; simpa using he, fun j hj => ?_⟩
    have := hno j fs[j] hj (List.getElem?_eq_getElem (by omega))
    simpa using this
  unfold atI
  rw [this]
theorem atI_none {fs : Fs} {nm : Name} (hno : ∀ (i : Nat) q, i < fs.length → fs[i]? = some q → q.1 ≠ nm) : atI fs nm = -1 := by
  have : fs.findIdx? (fun p => p.1 == nm) = none := by
    rw [List.findIdx?_eq_none_iff]
    intro q hq
    obtain ⟨i, hi⟩ := List.mem_iff_getElem?.1 hq
    have := hno i q (List.getElem?_eq_some_iff.1 hi).1 hi
    simpa using this
  unfold atI
  rw [this]
theorem atI_get {fs : Fs} {nm : Name} : (atI fs nm = -1 ∧ get fs nm = none) ∨ ∃ (i : Nat) (f : Fl), atI fs nm = (i : Nat) ∧ fs[i]? = some (nm, f) ∧ get fs nm = some f := by
  cases h : fs.findIdx? (fun p => p.1 == nm) with
  | none =>
    left
    refine ⟨by unfold atI; rw [h], get_none.2 fun p hp => ?_⟩
    rw [List.findIdx?_eq_none_iff] at h
    have := h p hp
    simpa using this
  | some i =>
    right
    rw [List.findIdx?_eq_some_iff_getElem] at h
    obtain ⟨hi, he, hno⟩ := id h
    have he' : fs[i].1 = nm := by simpa using he
    refine ⟨i, fs[i].2, by unfold atI; rw [List.findIdx?_eq_some_iff_getElem.2 h], by rw [List.getElem?_eq_getElem hi, ← he'], ?_⟩
    unfold get
    have : fs.find? (fun p => p.1 == nm) = some fs[i] := by
      rw [List.find?_eq_some_iff_getElem]
      exact ⟨he, i, hi, rfl, fun j hj => by simpa using hno j hj⟩
    rw [this]
    rfl

set_option maxHeartbeats 1000000 in
set_option maxRecDepth 100000 in
theorem rAt_any (w : World) (B rb : Nat) (lv tv : Value) (d : D) (h : Ra w B rb lv tv d) (s : ByteArray) :
    Calls Tryz.prog 104 #[.pointer (some ⟨rb, 0, none⟩), .string s] w fun e w' => e = .returned (.int .i64 (atI d.fs s.data.toList)) ∧ w = w' := by
  have k1 : w.cell? ⟨rb, 1, none⟩ = some lv := cell_blk h.blk rfl
  obtain ⟨A, c, rfl, hq⟩ := h.sq
  obtain ⟨X, hX⟩ : ∃ X, atI d.fs s.data.toList = X := ⟨_, rfl⟩
  obtain ⟨n, hn⟩ : ∃ n, d.fs.length = n := ⟨_, rfl⟩
  rw [hn] at hq k1
  rw [hX]
  have hle := hq.le
  have hmx := hq.max
  have hq' := Lib.hid hq
  have hX' := Lib.hid hX
  have hn' := Lib.hid hn
  clear h hq hX hn
  go_enter Tryz.func104, Tryz.ntmps104
  go_wp2_with fail
  go_loop [5] (fun i => ∃ k : Nat, k ≤ n ∧ i = .int .i64 k ∧ Hid (∀ (i : Nat) q, i < k → d.fs[i]? = some q → q.1 ≠ s.data.toList)) (fun i => n - (intOf i).toNat)
  case atStart => exact ⟨0, by omega, rfl, Lib.hid fun i q h => absurd h (by omega)⟩
  case round =>
    obtain ⟨k, hk, rfl, hno⟩ := hrel
    by_cases hlt : k < n
    · obtain ⟨b, off, f, vs, rfl, hb, hf, hvs, hel, hcs⟩ := hq'.out.at_ hlt
      obtain ⟨sk, dv, rfl, hsk, _⟩ := hel
      have m0 : w.cell? ⟨b, off + k * 3, none⟩ = some (.string sk) := hcs 0 _ rfl
      rw [List.getElem?_map, Option.map_eq_some_iff] at hf
      obtain ⟨p, hp, hpf⟩ := hf
      have hpn : Hid (p.1 = sk.data.toList) := Lib.hid (by rw [← hsk, ← hpf]; rfl)
      have hp' := Lib.hid hp
      have i0 : (k : Int) < (n : Int) := by omega
      clear hcs hvs hp hpf hsk
      by_cases e1 : sk = s
      · have t1 : (sk.toList == s.toList) = true := by rw [str_beq]; simpa using e1
        have hv : Hid (X = (k : Nat)) := Lib.hid (by rw [← hX'.out]; exact atI_step hp'.out hno.out (by rw [hpn.out, e1]))
        clear e1
        go_wp2_with fail
        go_ret
        exact ⟨ret_int hv.out.symm, rfl⟩
      · have t1 : (sk.toList == s.toList) = false := by rw [str_beq]; simpa using e1
        go_wp2_with fail
        go_round
        case rel =>
          refine ⟨k + 1, by omega, by go_num, Lib.hid fun i q hi hq => ?_⟩
          by_cases e : i = k
          · subst e
            rw [hp'.out] at hq
            injection hq with hq
            subst hq
            rw [hpn.out]
            exact fun h => e1 (bytes_ext h)
          · exact hno.out i q (by omega) hq
        case measure => simp [intOf]; omega
    · go_wp2_with fail
      go_ret
      exact ⟨ret_int (by rw [← hX'.out]; exact (atI_none fun i q hi hq => hno.out i q (by have := hn'.out; omega) hq).symm), rfl⟩
end Go.Proofs.YtfdpnjebhllpkaaGreatDoor.Dk
end
