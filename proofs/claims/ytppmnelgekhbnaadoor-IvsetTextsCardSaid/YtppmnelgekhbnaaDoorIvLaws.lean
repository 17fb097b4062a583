/- The laws of sets. -/
import Derived.Test.YtppmnelgekhbnaaDoorIvTwo
import Derived.Test.YtppmnelgekhbnaaDoorIvWithout
import Derived.Test.YtppmnelgekhbnaaDoorIvUnion
import Derived.Test.YtppmnelgekhbnaaDoorIvEqual
import Derived.Test.YtppmnelgekhbnaaDoorIvCount
namespace Go.Proofs.YtppmnelgekhbnaaDoor.IvW
open Go.RowKit Iv

theorem okB_sp (m : Nat → Bool) : okB 1 (sp m) = true := (okB_iff _ _).2 (sp_ok m)

/-- The flags of a set. -/
def fm (l : List Span) : Nat → Bool := fun x => mem l x
theorem sp_fm {l : List Span} (h : okB 1 l = true) : l = sp (fm l) := sp_self ((okB_iff _ _).1 h)
theorem mem_sp' (m : Nat → Bool) {x : Nat} (h1 : 1 ≤ x) (h2 : x ≤ 200) : mem (sp m) x = m x := by
  rw [sp_mem]; simp [h1, h2]

theorem union_sp (m m' : Nat → Bool) : union? (sp m) (sp m') = sp fun x => m x || m' x := by
  unfold union?
  rw [okB_sp, okB_sp, if_pos (show (true && true) = true from rfl)]
  exact sp_congr fun x h1 h2 => by rw [mem_sp' m h1 h2, mem_sp' m' h1 h2]

theorem both_ok' {a b : List Span} (ha : okB 1 a = true) (hb : okB 1 b = true) : both a b = sp fun x => mem a x && mem b x := by
  obtain ⟨h1, h2⟩ := both_ok a b 1 1 ((okB_iff _ _).1 ha) ((okB_iff _ _).1 hb)
  exact eq_sp h1 fun x _ _ => h2 x

theorem both_sp (m m' : Nat → Bool) : both? (sp m) (sp m') = sp fun x => m x && m' x := by
  unfold both?
  rw [okB_sp, okB_sp, if_pos (show (true && true) = true from rfl), both_ok' (okB_sp _) (okB_sp _)]
  exact sp_congr fun x h1 h2 => by rw [mem_sp' m h1 h2, mem_sp' m' h1 h2]

theorem without_ok {a b : List Span} (ha : okB 1 a = true) (hb : okB 1 b = true) : without? a b = sp fun x => mem a x && !mem b x := by
  unfold without?
  rw [ha, hb, if_pos (show (true && true) = true from rfl)]
  obtain ⟨h1, h2⟩ := comp_ok b 1 ((okB_iff _ _).1 hb)
  rw [both_ok' ha ((okB_iff _ _).2 h1)]
  exact sp_congr fun x g1 g2 => by
    rw [h2]
    have e1 : decide ((1 : Int) ≤ (x : Int)) = true := by simp; omega
    have e2 : decide ((x : Int) ≤ 200) = true := by simp; omega
    rw [e1, e2]
    simp

theorem without_sp (m m' : Nat → Bool) : without? (sp m) (sp m') = sp fun x => m x && !m' x := by
  rw [without_ok (okB_sp _) (okB_sp _)]
  exact sp_congr fun x h1 h2 => by rw [mem_sp' m h1 h2, mem_sp' m' h1 h2]

/-! The document's answers. -/
theorem union_two (a b : List Span) : union? a b = two? 0 a b := by
  unfold union? two?
  split
  · exact sp_congr fun x _ _ => by simp [twoB]
  · rfl
theorem both_two (a b : List Span) : both? a b = two? 1 a b := by
  unfold both? two?
  split
  · rename_i h
    simp only [Bool.and_eq_true] at h
    rw [both_ok' h.1 h.2]
    exact sp_congr fun x _ _ => by simp [twoB]
  · rfl
theorem without_two (a b : List Span) : without? a b = two? 2 a b := by
  by_cases h : (okB 1 a && okB 1 b) = true
  · have h' := h
    simp only [Bool.and_eq_true] at h
    rw [without_ok h.1 h.2]
    unfold two?
    rw [if_pos h']
    exact sp_congr fun x _ _ => by simp [twoB]
  · unfold without? two?
    rw [if_neg h, if_neg h]

def refwithin? (a b : List Span) : Bool := okB 1 a && okB 1 b && decide (two? 2 a b = [])
theorem within_ref (a b : List Span) : within? a b = refwithin? a b := by
  unfold within? refwithin?
  rw [without_two]

theorem sp_none : sp (fun _ => false) = [] := by
  have := eq_sp (s := []) (m := fun _ => false) trivial (fun x _ _ => rfl)
  exact this.symm

theorem cnt_sp (m : Nat → Bool) : cnt? (sp m) = card m 200 := by
  unfold cnt?
  rw [okB_sp, if_pos rfl, cnt_card (sp_ok m) (by omega)]
  have h : card (fun x => mem (sp m) x) 200 = card m 200 := card_congr (n := 200) fun x h1 h2 => mem_sp' m h1 h2
  rw [h]

set_option maxHeartbeats 1000000 in
set_option maxRecDepth 100000 in
theorem refwithin_any (A : Option Addr) (n c : Nat) (la : List Span) (B : Option Addr) (m d : Nat) (lb : List Span) (w : World) (hA : Rp w A n c la) (hB : Rp w B m d lb) :
    Calls Tryd.prog 21 #[.slice A n c, .slice B m d] w fun e w' => e = .returned (.bool (refwithin? la lb)) ∧ Below w.heap.size w w' := by
  have c1 := refmay_any A n c la w hA
  obtain ⟨R, hR⟩ : ∃ R, refwithin? la lb = R := ⟨_, rfl⟩
  rw [hR]
  unfold refwithin? at hR
  cases ha : okB 1 la
  · rw [ha] at c1 hR
    simp only [Bool.false_and] at hR
    subst hR
    go_enter Tryd.func21, Tryd.ntmps21
    go_wp2_with fail
    refine c1.mono ?_
    rintro e w1 ⟨rfl, q, rfl⟩
    have hx1 := Lib.hid (Joins.below_draws w.heap.size w q)
    go_wp2_with fail
    go_ret
    exact ⟨rfl, hx1.out⟩
  rw [ha] at c1 hR
  have hA' := Lib.hid hA
  have hB' := Lib.hid hB
  cases hb : okB 1 lb
  · rw [hb] at hR
    simp only [Bool.and_false, Bool.false_and] at hR
    subst hR
    go_enter Tryd.func21, Tryd.ntmps21
    go_wp2_with fail
    refine c1.mono ?_
    rintro e w1 ⟨rfl, q, rfl⟩
    have hx1 := Lib.hid (Joins.below_draws w.heap.size w q)
    have c2 := refmay_any B m d lb (w.drewN q) (hB'.out.below hx1.out)
    rw [hb] at c2
    go_wp2_with fail
    refine c2.mono ?_
    rintro e w2 ⟨rfl, q2, rfl⟩
    have hx2 := Lib.hid (hx1.out.trans ((Joins.below_draws (w.drewN q).heap.size (w.drewN q) q2).mono hx1.out.size))
    go_wp2_with fail
    go_ret
    exact ⟨rfl, by simpa using hx2.out⟩
  rw [hb] at hR
  simp only [Bool.true_and] at hR
  have hR' := Lib.hid hR
  clear hR ha hA hB
  go_enter Tryd.func21, Tryd.ntmps21
  go_wp2_with fail
  refine c1.mono ?_
  rintro e w1 ⟨rfl, q, hw1⟩
  have hx1 := Lib.hid (Joins.below_draws w.heap.size w q)
  rw [← hw1] at hx1
  have c2 := refmay_any B m d lb w1 (hB'.out.below hx1.out)
  rw [hb] at c2
  clear hw1
  go_wp2_with fail
  refine c2.mono ?_
  rintro e w2 ⟨rfl, q2, hw2⟩
  have hb2 : Below w1.heap.size w1 w2 := by rw [hw2]; exact Joins.below_draws _ _ _
  have hx2 := Lib.hid (hx1.out.trans (hb2.mono hx1.out.size))
  have c3 := two_any 2 A n c la B m d lb w2 (hA'.out.below hx2.out) (hB'.out.below hx2.out)
  obtain ⟨L, hL⟩ : ∃ L, two? 2 la lb = L := ⟨_, rfl⟩
  rw [hL] at c3
  clear c1 c2 hb hw2 hb2
  go_wp2_with fail
  refine c3.mono ?_
  rintro e w3 ⟨A3, c3', rfl, ho3, hb3⟩
  have hx3 := Lib.hid (hx2.out.trans (hb3.mono hx2.out.size))
  clear ho3 hb3 c3
  have e2 : ((L.length : Int) == 0) = R := by
    rw [← hR'.out, hL]
    cases L <;> simp
    omega
  go_wp2_with fail
  go_ret
  exact ⟨rfl, hx3.out⟩
end Go.Proofs.YtppmnelgekhbnaaDoor.IvW
