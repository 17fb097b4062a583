/- The bytes of a rune: the document's and the code's, at every rune. -/
import Derived.Test.YtokdnhdfmgfkeaaGreatDoorMUtfEnc
import Derived.Shelf.Lay
import Derived.Ground.NamesProg
import Derived.Shelf.Small.Utf8
import Derived.Shelf.Utf8.AppendRunePlain
namespace Go.Proofs
open Go.Shelf Go.RowKit

shelf_lay Lays.n119 Nm 119 at Tryz as Tryz.lays119
shelf_lay Lays.n242 Nm 242 at Tryz as Tryz.lays242

end Go.Proofs
namespace Go.Proofs.YtokdnhdfmgfkeaaGreatDoor.UtfW
open Go.RowKit

theorem runeCells_encB {r : Int} (h : isRune r = true) : Lib.runeCells r = bv (encB r) := by
  simp only [isRune, decide_eq_true_eq] at h
  obtain ⟨v, rfl⟩ : ∃ v : Nat, r = v := ⟨r.toNat, by omega⟩
  have e : encB (v : Int) = (Utf.enc v).map UInt8.ofNat := by
    unfold encB
    rw [if_neg (by omega), Int.toNat_natCast]
  have key : ∀ ns : List Nat, Utf.enc v = ns → (∀ n ∈ ns, n < 256) → Lib.encodeRuneZ v = ns.map (fun n : Nat => (n : Int)) → Lib.runeCells v = bv (encB v) := by
    intro ns h1 h2 h3
    rw [e, h1, bv_ofNat _ h2, Lib.runeCells, h3, List.map_map]
    rfl
  rcases (show v < 128 ∨ (128 ≤ v ∧ v < 2048) ∨ (2048 ≤ v ∧ v < 65536) ∨ 65536 ≤ v from by omega) with h1 | h1 | h1 | h1
  · exact key [v] ((Utf.enc1 _ _).2 ⟨h1, rfl⟩) (by intro n hn; simp at hn; omega) (by rw [Lib.encodeRuneZ_one (by omega) (by omega)]; rfl)
  · exact key [192 + v / 64, 128 + v % 64] ((Utf.enc2 _ _ _).2 ⟨h1.1, h1.2, rfl, rfl⟩) (by intro n hn; simp at hn; omega) (by rw [Lib.encodeRuneZ_two (by omega) (by omega)]; rfl)
  · exact key [224 + v / 4096, 128 + v / 64 % 64, 128 + v % 64] ((Utf.enc3 _ _ _ _).2 ⟨h1.1, h1.2, by omega, rfl, rfl, rfl⟩) (by intro n hn; simp at hn; omega) (by rw [Lib.encodeRuneZ_three (by omega)]; rfl)
  · exact key [240 + v / 262144, 128 + v / 4096 % 64, 128 + v / 64 % 64, 128 + v % 64] ((Utf.enc4 _ _ _ _ _).2 ⟨h1, by omega, rfl, rfl, rfl, rfl⟩) (by intro n hn; simp at hn; omega) (by
      unfold Lib.encodeRuneZ
      rw [if_neg (by omega), if_neg (by omega), if_neg (by omega), if_pos (by omega)]
      rfl)

theorem validRune_any (r : Int) (w : World) :
    Calls Tryz.prog 214 #[.int .i32 r] w fun e w' => e = .returned (.bool (isRune r)) ∧ w' = w :=
  Any.utf8_ValidRune Tryz.lays119 r w

theorem appendRune_any (r : Int) (hr0 : -2147483648 ≤ r) (hr1 : r ≤ 2147483647) (hr : isRune r = true) (w : World) :
    Calls Tryz.prog 154 #[.slice none 0 0, .int .i32 r] w fun e w' => ∃ A c, e = .returned (.slice A (encB r).length c) ∧ OwB w' w.heap.size 5 (.slice A (encB r).length c) (encB r) ∧ Below w.heap.size w w' := by
  refine (Any.utf8_AppendRune_plain Tryz.lays242 (by kernel_rfl) w.heap.size (.slice none 0 0) 0 [] r hr0 hr1 w (World.ownsRow_nil w _ _ 1) (by omega) (Nat.le_refl _)).mono ?_
  rintro e w' ⟨v', rfl, h1, o, h2⟩
  rw [runeCells_encB hr, bv_length, List.nil_append, Nat.zero_add] at h1
  have h1' : w'.ownsRow w.heap.size 5 1 v' (encB r).length (bv (encB r)) := h1
  obtain ⟨A, c, rfl⟩ := ownsRow_form h1'
  have hb : Below w.heap.size w w' := by
    have h3 := below_of_grown (World.ownsRow_nil (w.alloc o) w.heap.size 5 1) (by simp) h2
    exact (below_alloc w o).trans h3
  refine ⟨A, c, rfl, h1', hb⟩

/-- The code's Encode. -/
theorem utfEncode_any (r : Int) (hr0 : -2147483648 ≤ r) (hr1 : r ≤ 2147483647) (w : World) :
    Calls Tryz.prog 203 #[.int .i32 r] w fun e w' => ∃ A c, e = .returned (.slice A (encB r).length c) ∧ OwB w' w.heap.size 5 (.slice A (encB r).length c) (encB r) ∧ Below w.heap.size w w' := by
  cases hr : isRune r
  · have en := encB_none hr
    rw [en]
    go_enter Tryz.func203, Tryz.ntmps203
    go_wp2_with fail
    refine (validRune_any r w).mono ?_
    rintro e w1 ⟨rfl, rfl⟩
    go_wp2_with fail
    go_ret
    exact ⟨none, 0, rfl, OwB.nil _ _ _, Below.refl _ _⟩
  · have c1 := appendRune_any r hr0 hr1 hr w
    obtain ⟨l, hl⟩ : ∃ l, encB r = l := ⟨_, rfl⟩
    rw [hl] at c1 ⊢
    clear hl hr0 hr1
    go_enter Tryz.func203, Tryz.ntmps203
    go_wp2_with fail
    refine (validRune_any r w).mono ?_
    rintro e w1 ⟨rfl, rfl⟩
    go_wp2_with fail
    refine c1.mono ?_
    rintro e w1 ⟨A, c, rfl, h1, h2⟩
    have h1' := Lib.hid h1
    have h2' := Lib.hid h2
    clear h1 h2 c1
    go_wp2_with fail
    go_ret
    exact ⟨A, c, rfl, h1'.out, h2'.out⟩
end Go.Proofs.YtokdnhdfmgfkeaaGreatDoor.UtfW
