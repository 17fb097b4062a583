/- The bytes of a rune: the document's. -/
import Derived.Test.YtokdnhdfmgfkeaaGreatDoorMUtfMath
import Derived.Test.YtokdnhdfmgfkeaaGreatDoorProg
import Derived.Test.YtokdnhdfmgfkeaaGreatDoorMRowS
import Derived.WalkKit
import Derived.Lib.Hide
section
namespace Go.Proofs.YtokdnhdfmgfkeaaGreatDoor.UtfW
open Go.RowKit

theorem char_any (r : Int) (w : World) :
    Calls Tryz.prog 146 #[.int .i32 r] w fun e w' => e = .returned (.bool (Utf.Char r)) ∧ w' = w := by
  go_enter Tryz.func146, Tryz.ntmps146
  go_wp2
  all_goals go_ret
  all_goals refine ⟨ret_bool ?_, rfl⟩
  all_goals (try simp only [Bool.or_eq_true, beq_iff_eq, Bool.or_eq_false_iff, beq_eq_false_iff_ne, ne_eq] at *)
  all_goals unfold Utf.Char
  all_goals rw [Bool.eq_iff_iff]
  all_goals (try simp only [Bool.or_eq_true, decide_eq_true_eq, beq_iff_eq, true_iff, iff_true, Bool.false_eq_true, false_iff])
  all_goals omega

def Blank (r : Int) : Bool := decide (r = 9 ∨ r = 10 ∨ r = 13 ∨ r = 32)

theorem blank_any (r : Int) (w : World) :
    Calls Tryz.prog 50 #[.int .i32 r] w fun e w' => e = .returned (.bool (Blank r)) ∧ w' = w := by
  go_enter Tryz.func50, Tryz.ntmps50
  go_wp2
  all_goals go_ret
  all_goals refine ⟨ret_bool ?_, rfl⟩
  all_goals (try simp only [Bool.or_eq_true, beq_iff_eq, Bool.or_eq_false_iff, beq_eq_false_iff_ne, ne_eq] at *)
  all_goals unfold Blank
  all_goals rw [Bool.eq_iff_iff]
  all_goals (try simp only [Bool.or_eq_true, decide_eq_true_eq, beq_iff_eq, true_iff, iff_true, Bool.false_eq_true, false_iff])
  all_goals omega

end Go.Proofs.YtokdnhdfmgfkeaaGreatDoor.UtfW
end

section
namespace Go.Proofs.YtokdnhdfmgfkeaaGreatDoor.UtfW
open Go.RowKit

def inb (a b r : Int) : Bool := decide (a ≤ r ∧ r ≤ b)
def Begins (r : Int) : Bool := inb 65 90 r || (r == 95) || inb 97 122 r || inb 192 214 r || inb 216 246 r || inb 248 767 r || inb 880 893 r || inb 895 8191 r || inb 8204 8205 r || inb 8304 8591 r || inb 11264 12271 r || inb 12289 55295 r || inb 63744 64975 r || inb 65008 65533 r || inb 65536 983039 r

def GoesOn (r : Int) : Bool := Begins r || (r == 45) || (r == 46) || inb 48 57 r || (r == 183) || inb 768 879 r || (r == 8255) || (r == 8256)

end Go.Proofs.YtokdnhdfmgfkeaaGreatDoor.UtfW
end

section
namespace Go.Proofs.YtokdnhdfmgfkeaaGreatDoor.UtfW
open Go.RowKit

def Prs (w : World) (b : Nat) (ps : List (Int × Int)) : Prop :=
  b < w.heap.size ∧ ∀ j p, ps[j]? = some p → w.cell? ⟨b, j * 2, none⟩ = some (.int .i32 p.1) ∧ w.cell? ⟨b, j * 2 + 1, none⟩ = some (.int .i32 p.2)

theorem Prs.below {w w' : World} {b : Nat} {ps : List (Int × Int)} (h : Prs w b ps) (hb : Below w.heap.size w w') : Prs w' b ps :=
  ⟨Nat.lt_of_lt_of_le h.1 hb.size, fun j p hj => by
    obtain ⟨h1, h2⟩ := h.2 j p hj
    exact ⟨by rw [hb.cell h.1]; exact h1, by rw [hb.cell h.1]; exact h2⟩⟩

def anyIn (ps : List (Int × Int)) (r : Int) : Bool := ps.any fun p => inb p.1 p.2 r

theorem anyIn_succ {ps : List (Int × Int)} {k : Nat} {p : Int × Int} (h : ps[k]? = some p) (r : Int) : anyIn (ps.take (k + 1)) r = (anyIn (ps.take k) r || inb p.1 p.2 r) := by
  rw [take_snoc h]
  simp [anyIn]

theorem within_any (r : Int) (b n : Nat) (ps : List (Int × Int)) (hn : ps.length = n) (hn2 : n ≤ 1000) (w : World) (hP : Prs w b ps) :
    Calls Tryz.prog 107 #[.int .i32 r, .slice (some ⟨b, 0, none⟩) n n] w fun e w' => e = .returned (.bool (anyIn ps r)) ∧ Below w.heap.size w w' := by
  go_enter Tryz.func107, Tryz.ntmps107
  go_wp2_with fail
  go_loopw [9] (fun i wr => ∃ k : Nat, k ≤ n ∧ i = .int .i64 (k : Nat) ∧ Hid (anyIn (ps.take k) r = false) ∧ Hid (Below w.heap.size w wr)) (fun i _ => n - (intOf i).toNat)
  case atStart => exact ⟨0, by omega, rfl, Lib.hid rfl, Lib.hid (Below.refl _ _)⟩
  case round =>
    obtain ⟨k, hk, rfl, ha, hb⟩ := hrel
    by_cases hlt : k < n
    · obtain ⟨p, hp⟩ : ∃ p, ps[k]? = some p := ⟨ps[k], List.getElem?_eq_getElem (by omega)⟩
      obtain ⟨c1, c2⟩ := (hP.below hb.out).2 k p hp
      have i0 : decide ((k : Int) < (n : Int)) = true := by simp; omega
      have hp' := Lib.hid hp
      clear hp
      go_wp2_with fail
      case roundEnd =>
        refine ⟨⟨k + 1, by omega, by go_num, Lib.hid ?_, Lib.hid (hb.out.alloc (hb.out.size) _)⟩, by simp [intOf]; omega⟩
        rw [anyIn_succ hp'.out, ha.out]
        simp [inb]
        omega
      case roundEnd =>
        refine ⟨⟨k + 1, by omega, by go_num, Lib.hid ?_, Lib.hid (hb.out.alloc (hb.out.size) _)⟩, by simp [intOf]; omega⟩
        rw [anyIn_succ hp'.out, ha.out]
        simp [inb]
        omega
      go_ret
      refine ⟨ret_bool ?_, hb.out.alloc (hb.out.size) _⟩
      have hm := List.mem_of_getElem? hp'.out
      have : anyIn ps r = true := List.any_eq_true.2 ⟨p, hm, by simp [inb]; omega⟩
      rw [this]
    · have i0 : decide ((k : Int) < (n : Int)) = false := by simp; omega
      obtain rfl : k = n := by omega
      go_wp2_with fail
      go_ret
      have := ha.out
      rw [List.take_of_length_le (by omega)] at this
      exact ⟨ret_bool this.symm, hb.out⟩

def beginsL : List (Int × Int) := [(65, 90), (95, 95), (97, 122), (192, 214), (216, 246), (248, 767), (880, 893), (895, 8191), (8204, 8205), (8304, 8591), (11264, 12271), (12289, 55295), (63744, 64975), (65008, 65533), (65536, 983039)]

theorem begins_any (w : World) :
    Calls Tryz.prog 108 #[] w fun e w' => ∃ b, e = .returned (.slice (some ⟨b, 0, none⟩) 15 15) ∧ Prs w' b beginsL ∧ Below w.heap.size w w' := by
  go_enter Tryz.func108, Tryz.ntmps108
  go_wp2
  go_ret
  refine ⟨_, rfl, ⟨by simp, ?_⟩, below_alloc _ _⟩
  intro j p hj
  have hj15 : j < 15 := (List.getElem?_eq_some_iff.1 hj).1
  rw [World.cell?_alloc_at _ _ _ _ rfl, World.cell?_alloc_at _ _ _ _ rfl]
  clear w
  obtain rfl | rfl | rfl | rfl | rfl | rfl | rfl | rfl | rfl | rfl | rfl | rfl | rfl | rfl | rfl : j = 0 ∨ j = 1 ∨ j = 2 ∨ j = 3 ∨ j = 4 ∨ j = 5 ∨ j = 6 ∨ j = 7 ∨ j = 8 ∨ j = 9 ∨ j = 10 ∨ j = 11 ∨ j = 12 ∨ j = 13 ∨ j = 14 := by omega
  all_goals (injection hj with hj; subst hj; exact ⟨rfl, rfl⟩)

def goesOnL : List (Int × Int) := [(45, 46), (48, 57), (183, 183), (768, 879), (8255, 8256)]

theorem goesOn_any (w : World) :
    Calls Tryz.prog 109 #[] w fun e w' => ∃ b, e = .returned (.slice (some ⟨b, 0, none⟩) 5 5) ∧ Prs w' b goesOnL ∧ Below w.heap.size w w' := by
  go_enter Tryz.func109, Tryz.ntmps109
  go_wp2
  go_ret
  refine ⟨_, rfl, ⟨by simp, ?_⟩, below_alloc _ _⟩
  intro j p hj
  have hj5 : j < 5 := (List.getElem?_eq_some_iff.1 hj).1
  rw [World.cell?_alloc_at _ _ _ _ rfl, World.cell?_alloc_at _ _ _ _ rfl]
  clear w
  obtain rfl | rfl | rfl | rfl | rfl : j = 0 ∨ j = 1 ∨ j = 2 ∨ j = 3 ∨ j = 4 := by omega
  all_goals (injection hj with hj; subst hj; exact ⟨rfl, rfl⟩)

theorem anyIn_begins (r : Int) : anyIn beginsL r = Begins r := by
  have e : (r == 95) = inb 95 95 r := by
    rw [Bool.eq_iff_iff]
    simp [inb]
    omega
  unfold Begins
  rw [e]
  simp [anyIn, beginsL, Bool.or_assoc]

theorem utfBegins_any (r : Int) (w : World) :
    Calls Tryz.prog 72 #[.int .i32 r] w fun e w' => e = .returned (.bool (Begins r)) ∧ Below w.heap.size w w' := by
  go_enter Tryz.func72, Tryz.ntmps72
  go_wp2_with fail
  refine (begins_any _).mono ?_
  rintro e w1 ⟨b, rfl, hP, hb⟩
  have hP' := Lib.hid hP
  have hb' := Lib.hid hb
  clear hP hb
  go_wp2_with fail
  refine (within_any r b 15 beginsL rfl (by omega) _ hP'.out).mono ?_
  rintro e w2 ⟨rfl, hb2⟩
  have hb2' := Lib.hid (hb'.out.trans (hb2.mono hb'.out.size))
  clear hb2 hb'
  rw [anyIn_begins]
  go_wp2_with fail
  go_ret
  exact ⟨rfl, hb2'⟩
end Go.Proofs.YtokdnhdfmgfkeaaGreatDoor.UtfW
end

section
namespace Go.Proofs.YtokdnhdfmgfkeaaGreatDoor.UtfW
open Go.RowKit

theorem anyIn_goesOn (r : Int) : (Begins r || anyIn goesOnL r) = GoesOn r := by
  have e1 : inb 45 46 r = (r == 45 || r == 46) := by
    rw [Bool.eq_iff_iff]
    simp [inb]
    omega
  have e2 : inb 183 183 r = (r == 183) := by
    rw [Bool.eq_iff_iff]
    simp [inb]
    omega
  have e3 : inb 8255 8256 r = (r == 8255 || r == 8256) := by
    rw [Bool.eq_iff_iff]
    simp [inb]
    omega
  unfold GoesOn
  simp [anyIn, goesOnL, e1, e2, e3, Bool.or_assoc]

theorem utfGoesOn_any (r : Int) (w : World) :
    Calls Tryz.prog 73 #[.int .i32 r] w fun e w' => e = .returned (.bool (GoesOn r)) ∧ Below w.heap.size w w' := by
  have hg := anyIn_goesOn r
  cases hB : Begins r with
  | true =>
    rw [hB, Bool.true_or] at hg
    rw [← hg]
    go_enter Tryz.func73, Tryz.ntmps73
    go_wp2_with fail
    refine (utfBegins_any _ _).mono ?_
    rw [hB]
    rintro e w1 ⟨rfl, hb⟩
    have hb' := Lib.hid hb
    clear hb hB hg
    go_wp2_with fail
    go_ret
    exact ⟨rfl, hb'⟩
  | false =>
    rw [hB, Bool.false_or] at hg
    have hg' := Lib.hid hg
    clear hg
    go_enter Tryz.func73, Tryz.ntmps73
    go_wp2_with fail
    refine (utfBegins_any _ _).mono ?_
    rw [hB]
    rintro e w1 ⟨rfl, hb⟩
    have hb' := Lib.hid hb
    clear hb hB
    go_wp2_with fail
    refine (goesOn_any _).mono ?_
    rintro e w2 ⟨b, rfl, hP, hb2⟩
    have hP' := Lib.hid hP
    have hb2' := Lib.hid (hb'.out.trans (hb2.mono hb'.out.size))
    clear hP hb2 hb'
    go_wp2_with fail
    refine (within_any r b 5 goesOnL rfl (by omega) _ hP'.out).mono ?_
    rintro e w3 ⟨rfl, hb3⟩
    have hb3' := Lib.hid (hb2'.out.trans (hb3.mono hb2'.out.size))
    clear hb3 hb2'
    rw [hg'.out]
    go_wp2_with fail
    go_ret
    exact ⟨rfl, hb3'⟩
end Go.Proofs.YtokdnhdfmgfkeaaGreatDoor.UtfW
end

section
namespace Go.Proofs.YtokdnhdfmgfkeaaGreatDoor.UtfW
open Go.RowKit

def encB (r : Int) : List UInt8 := if r < 0 then [] else (Utf.enc r.toNat).map UInt8.ofNat

theorem bv_ofNat (ns : List Nat) (h : ∀ n ∈ ns, n < 256) : bv (ns.map UInt8.ofNat) = ns.map fun n => Value.int .u8 (n : Nat) := by
  induction ns with
  | nil => rfl
  | cons a l ih =>
    have ha := h a (List.mem_cons_self ..)
    have e : (UInt8.ofNat a).toNat = a := by rw [UInt8.toNat_ofNat']; omega
    have := ih fun n hn => h n (List.mem_cons_of_mem _ hn)
    rw [List.map_cons, List.map_cons, ← this]
    show Value.int .u8 ((UInt8.ofNat a).toNat : Int) :: bv (l.map UInt8.ofNat) = _
    rw [e]

def isRune (r : Int) : Bool := decide ((0 ≤ r ∧ r < 0xD800) ∨ (0xDFFF < r ∧ r ≤ 0x10FFFF))

theorem encB_none {r : Int} (h : isRune r = false) : encB r = [] := by
  simp only [isRune, decide_eq_false_iff_not] at h
  unfold encB
  split
  · rfl
  · unfold Utf.enc
    rw [if_pos (by omega)]
    rfl

end Go.Proofs.YtokdnhdfmgfkeaaGreatDoor.UtfW
end
