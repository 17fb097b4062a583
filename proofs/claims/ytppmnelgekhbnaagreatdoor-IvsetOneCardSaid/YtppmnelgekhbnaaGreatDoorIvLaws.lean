/- The laws of sets. -/
import Derived.Test.YtppmnelgekhbnaaGreatDoorIvTwo
import Derived.Test.YtppmnelgekhbnaaGreatDoorIvWithout
import Derived.Test.YtppmnelgekhbnaaGreatDoorIvUnion
import Derived.Test.YtppmnelgekhbnaaGreatDoorIvCount
namespace Go.Proofs.YtppmnelgekhbnaaGreatDoor.IvW
open Go.RowKit Iv

theorem okB_sp (m : Nat → Bool) : okB 1 (sp m) = true := (okB_iff _ _).2 (sp_ok m)

/-- The flags of a set. -/
def fm (l : List Span) : Nat → Bool := fun x => mem l x
theorem sp_fm {l : List Span} (h : okB 1 l = true) : l = sp (fm l) := sp_self ((okB_iff _ _).1 h)
theorem ok_ex {l : List Span} (h : okB 1 l = true) : ∃ m, l = sp m := ⟨_, sp_fm h⟩
theorem mem_sp' (m : Nat → Bool) {x : Nat} (h1 : 1 ≤ x) (h2 : x ≤ 200) : mem (sp m) x = m x := by
  rw [sp_mem]; simp [h1, h2]

theorem union_sp (m m' : Nat → Bool) : union? (sp m) (sp m') = sp fun x => m x || m' x := by
  unfold union?
  rw [okB_sp, okB_sp, if_pos (show (true && true) = true from rfl)]
  exact sp_congr fun x h1 h2 => by rw [mem_sp' m h1 h2, mem_sp' m' h1 h2]

theorem both_ok' {a b : List Span} (ha : okB 1 a = true) (hb : okB 1 b = true) : both a b = sp fun x => mem a x && mem b x := by
  obtain ⟨h1, h2⟩ := both_ok a b 1 1 ((okB_iff _ _).1 ha) ((okB_iff _ _).1 hb)
  exact eq_sp h1 fun x _ _ => h2 x

theorem both_sp (m m' : Nat → Bool) : both? (sp m) (sp m') = sp fun x => m x && m' x := by
  unfold both?
  rw [okB_sp, okB_sp, if_pos (show (true && true) = true from rfl), both_ok' (okB_sp _) (okB_sp _)]
  exact sp_congr fun x h1 h2 => by rw [mem_sp' m h1 h2, mem_sp' m' h1 h2]

theorem without_ok {a b : List Span} (ha : okB 1 a = true) (hb : okB 1 b = true) : without? a b = sp fun x => mem a x && !mem b x := by
  unfold without?
  rw [ha, hb, if_pos (show (true && true) = true from rfl)]
  obtain ⟨h1, h2⟩ := comp_ok b 1 ((okB_iff _ _).1 hb)
  rw [both_ok' ha ((okB_iff _ _).2 h1)]
  exact sp_congr fun x g1 g2 => by
    rw [h2]
    have e1 : decide ((1 : Int) ≤ (x : Int)) = true := by simp; omega
    have e2 : decide ((x : Int) ≤ 200) = true := by simp; omega
    rw [e1, e2]
    simp

theorem without_sp (m m' : Nat → Bool) : without? (sp m) (sp m') = sp fun x => m x && !m' x := by
  rw [without_ok (okB_sp _) (okB_sp _)]
  exact sp_congr fun x h1 h2 => by rw [mem_sp' m h1 h2, mem_sp' m' h1 h2]

/-! The document's answers. -/
theorem union_two (a b : List Span) : union? a b = two? 0 a b := by
  unfold union? two?
  split
  · exact sp_congr fun x _ _ => by simp [twoB]
  · rfl
theorem both_two (a b : List Span) : both? a b = two? 1 a b := by
  unfold both? two?
  split
  · rename_i h
    simp only [Bool.and_eq_true] at h
    rw [both_ok' h.1 h.2]
    exact sp_congr fun x _ _ => by simp [twoB]
  · rfl
theorem without_two (a b : List Span) : without? a b = two? 2 a b := by
  by_cases h : (okB 1 a && okB 1 b) = true
  · have h' := h
    simp only [Bool.and_eq_true] at h
    rw [without_ok h.1 h.2]
    unfold two?
    rw [if_pos h']
    exact sp_congr fun x _ _ => by simp [twoB]
  · unfold without? two?
    rw [if_neg h, if_neg h]

theorem sp_none : sp (fun _ => false) = [] := by
  have := eq_sp (s := []) (m := fun _ => false) trivial (fun x _ _ => rfl)
  exact this.symm

theorem cnt_sp (m : Nat → Bool) : cnt? (sp m) = card m 200 := by
  unfold cnt?
  rw [okB_sp, if_pos rfl, cnt_card (sp_ok m) (by omega)]
  have h : card (fun x => mem (sp m) x) 200 = card m 200 := card_congr (n := 200) fun x h1 h2 => mem_sp' m h1 h2
  rw [h]

end Go.Proofs.YtppmnelgekhbnaaGreatDoor.IvW
