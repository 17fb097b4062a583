/- The bytes of a rune: the document's. -/
import Derived.Test.YthiikldjngamaaaDoorUtfWalk4
import Derived.Lib.Hide
namespace Go.Proofs.YthiikldjngamaaaDoor.UtfW
open Go.RowKit

/-- A rune's bytes; none of what is no rune. -/
def encB (r : Int) : List UInt8 := if r < 0 then [] else (Utf.enc r.toNat).map UInt8.ofNat

theorem bv_ofNat (ns : List Nat) (h : ∀ n ∈ ns, n < 256) : bv (ns.map UInt8.ofNat) = ns.map fun n => Value.int .u8 (n : Nat) := by
  induction ns with
  | nil => rfl
  | cons a l ih =>
    have ha := h a (List.mem_cons_self ..)
    have e : (UInt8.ofNat a).toNat = a := by rw [UInt8.toNat_ofNat']; omega
    have := ih fun n hn => h n (List.mem_cons_of_mem _ hn)
    rw [List.map_cons, List.map_cons, ← this]
    show Value.int .u8 ((UInt8.ofNat a).toNat : Int) :: bv (l.map UInt8.ofNat) = _
    rw [e]

/-- A literal row of a rune's bytes. -/
theorem enc_lit (w : World) (v : Nat) (ns : List Nat) (he : Utf.enc v = ns) (hlt : ∀ n ∈ ns, n < 256) (C : Array Value) (E : TypeId) (hC : C.toList = ns.map fun n => Value.int .u8 (n : Nat)) (k : Nat) (hk : ns.length = k) (h4 : k ≤ 4) :
    ∃ A c, (Value.slice (some ⟨w.heap.size, 0, none⟩) k k) = .slice A (encB v).length c ∧ OwB (w.alloc (.cells C E)) w.heap.size E (.slice A (encB v).length c) (encB v) ∧ Below w.heap.size w (w.alloc (.cells C E)) := by
  have e : encB (v : Int) = ns.map UInt8.ofNat := by
    unfold encB
    rw [if_neg (by omega), Int.toNat_natCast, he]
  have hl : (encB (v : Int)).length = k := by rw [e, List.length_map, hk]
  rw [hl]
  exact ⟨_, _, rfl, owb_lit w _ (Nat.le_refl _) C E _ _ hl (by omega) (by rw [hC, e, bv_ofNat _ hlt]), below_alloc _ _⟩

theorem refEncode_2 (v : Nat) (h1 : 128 ≤ v) (h2 : v < 2048) (w : World) :
    Calls Tryd.prog 25 #[.int .i32 v] w fun e w' => ∃ A c, e = .returned (.slice A (encB v).length c) ∧ OwB w' w.heap.size 5 (.slice A (encB v).length c) (encB v) ∧ Below w.heap.size w w' := by
  have i1 : decide ((v : Int) < 0) = false := by simp
  have i2 : decide ((1114111 : Int) < (v : Int)) = false := by simp; omega
  have i3 : decide ((55296 : Int) ≤ (v : Int)) = false := by simp; omega
  have i4 : decide ((v : Int) < 128) = false := by simp; omega
  have i5 : decide ((v : Int) < 2048) = true := by simp; omega
  go_enter Tryd.func25, Tryd.ntmps25
  go_wp2
  go_ret
  obtain ⟨A, c, h3, h4, h5⟩ := enc_lit w v [192 + v / 64, 128 + v % 64] ((Utf.enc2 _ _ _).2 ⟨h1, h2, rfl, rfl⟩) (by intro n hn; simp at hn; omega) #[.int .u8 (192 + (v : Int) / 64), .int .u8 (128 + (v : Int) % 64)] 5 (by simp) 2 rfl (by omega)
  exact ⟨A, c, by rw [← h3]; rfl, h4, h5⟩

theorem refEncode_1 (v : Nat) (h1 : v < 128) (w : World) :
    Calls Tryd.prog 25 #[.int .i32 v] w fun e w' => ∃ A c, e = .returned (.slice A (encB v).length c) ∧ OwB w' w.heap.size 5 (.slice A (encB v).length c) (encB v) ∧ Below w.heap.size w w' := by
  have i0 : decide ((v : Int) < 0) = false := by simp
  have i1 : decide ((1114111 : Int) < (v : Int)) = false := by simp ; omega
  have i2 : decide ((55296 : Int) ≤ (v : Int)) = false := by simp ; omega
  have i3 : decide ((v : Int) < 128) = true := by simp ; omega
  go_enter Tryd.func25, Tryd.ntmps25
  go_wp2
  go_ret
  obtain ⟨A, c, h3, h4, h5⟩ := enc_lit w v [v] ((Utf.enc1 _ _).2 ⟨h1, rfl⟩) (by intro n hn; simp at hn; omega) #[.int .u8 (v : Int)] 5 (by simp) 1 rfl (by omega)
  exact ⟨A, c, by rw [← h3]; rfl, h4, h5⟩

set_option maxRecDepth 100000 in
theorem refEncode_3 (v : Nat) (h1 : 2048 ≤ v) (h2 : v < 65536) (hs : ¬ (55296 ≤ v ∧ v ≤ 57343)) (w : World) :
    Calls Tryd.prog 25 #[.int .i32 v] w fun e w' => ∃ A c, e = .returned (.slice A (encB v).length c) ∧ OwB w' w.heap.size 5 (.slice A (encB v).length c) (encB v) ∧ Below w.heap.size w w' := by
  have i0 : decide ((v : Int) < 0) = false := by simp
  have i1 : decide ((1114111 : Int) < (v : Int)) = false := by simp ; omega
  have i2 : decide ((v : Int) < 128) = false := by simp ; omega
  have i3 : decide ((v : Int) < 2048) = false := by simp ; omega
  have i4 : decide ((v : Int) < 65536) = true := by simp ; omega
  have t1 : ((v : Int) / 64).tmod 64 = (v : Int) / 64 % 64 := Int.tmod_eq_emod_of_nonneg (by omega)
  have q1 : (128 + (v : Int) / 64 % 64) % 256 = 128 + (v : Int) / 64 % 64 := by omega
  have q0 : (128 + (v : Int) % 64) % 256 = 128 + (v : Int) % 64 := by omega
  have q2 : (224 + (v : Int) / 4096) % 256 = 224 + (v : Int) / 4096 := by omega
  go_enter Tryd.func25, Tryd.ntmps25
  have hs' := Lib.hid hs
  clear hs
  rcases (show v < 55296 ∨ 57343 < v from by have := hs'.out; omega) with hq | hq
  case inl =>
    have i9 : decide ((55296 : Int) ≤ (v : Int)) = false := by simp ; omega
    go_wp2
    go_ret
    obtain ⟨A, c, h3, h4, h5⟩ := enc_lit w v [224 + v / 4096, 128 + v / 64 % 64, 128 + v % 64] ((Utf.enc3 _ _ _ _).2 ⟨h1, h2, hs'.out, rfl, rfl, rfl⟩) (by intro n hn; simp at hn; omega) #[.int .u8 (224 + (v : Int) / 4096), .int .u8 (128 + (v : Int) / 64 % 64), .int .u8 (128 + (v : Int) % 64)] 5 (by simp) 3 rfl (by omega)
    exact ⟨A, c, by rw [← h3]; rfl, h4, h5⟩
  case inr =>
    have i9 : decide ((55296 : Int) ≤ (v : Int)) = true := by simp ; omega
    have i10 : decide ((v : Int) ≤ 57343) = false := by simp ; omega
    go_wp2
    go_ret
    obtain ⟨A, c, h3, h4, h5⟩ := enc_lit w v [224 + v / 4096, 128 + v / 64 % 64, 128 + v % 64] ((Utf.enc3 _ _ _ _).2 ⟨h1, h2, hs'.out, rfl, rfl, rfl⟩) (by intro n hn; simp at hn; omega) #[.int .u8 (224 + (v : Int) / 4096), .int .u8 (128 + (v : Int) / 64 % 64), .int .u8 (128 + (v : Int) % 64)] 5 (by simp) 3 rfl (by omega)
    exact ⟨A, c, by rw [← h3]; rfl, h4, h5⟩

set_option maxRecDepth 100000 in
theorem refEncode_4 (v : Nat) (h1 : 65536 ≤ v) (h2 : v ≤ 1114111) (w : World) :
    Calls Tryd.prog 25 #[.int .i32 v] w fun e w' => ∃ A c, e = .returned (.slice A (encB v).length c) ∧ OwB w' w.heap.size 5 (.slice A (encB v).length c) (encB v) ∧ Below w.heap.size w w' := by
  have i0 : decide ((v : Int) < 0) = false := by simp
  have i1 : decide ((1114111 : Int) < (v : Int)) = false := by simp ; omega
  have i2 : decide ((v : Int) ≤ 57343) = false := by simp ; omega
  have i3 : decide ((v : Int) < 128) = false := by simp ; omega
  have i4 : decide ((v : Int) < 2048) = false := by simp ; omega
  have i5 : decide ((v : Int) < 65536) = false := by simp ; omega
  have i9 : decide ((55296 : Int) ≤ (v : Int)) = true := by simp ; omega
  have t1 : ((v : Int) / 64).tmod 64 = (v : Int) / 64 % 64 := Int.tmod_eq_emod_of_nonneg (by omega)
  have q1 : (128 + (v : Int) / 64 % 64) % 256 = 128 + (v : Int) / 64 % 64 := by omega
  have q0 : (128 + (v : Int) % 64) % 256 = 128 + (v : Int) % 64 := by omega
  have t2 : ((v : Int) / 4096).tmod 64 = (v : Int) / 4096 % 64 := Int.tmod_eq_emod_of_nonneg (by omega)
  have q2 : (128 + (v : Int) / 4096 % 64) % 256 = 128 + (v : Int) / 4096 % 64 := by omega
  have q3 : (240 + (v : Int) / 262144) % 256 = 240 + (v : Int) / 262144 := by omega
  go_enter Tryd.func25, Tryd.ntmps25
  go_wp2
  go_ret
  obtain ⟨A, c, h3, h4, h5⟩ := enc_lit w v [240 + v / 262144, 128 + v / 4096 % 64, 128 + v / 64 % 64, 128 + v % 64] ((Utf.enc4 _ _ _ _ _).2 ⟨h1, h2, rfl, rfl, rfl, rfl⟩) (by intro n hn; simp at hn; omega) #[.int .u8 (240 + (v : Int) / 262144), .int .u8 (128 + (v : Int) / 4096 % 64), .int .u8 (128 + (v : Int) / 64 % 64), .int .u8 (128 + (v : Int) % 64)] 5 (by simp) 4 rfl (by omega)
  exact ⟨A, c, by rw [← h3]; rfl, h4, h5⟩
/-- Whether a number is a rune. -/
def isRune (r : Int) : Bool := decide ((0 ≤ r ∧ r < 0xD800) ∨ (0xDFFF < r ∧ r ≤ 0x10FFFF))

theorem encB_none {r : Int} (h : isRune r = false) : encB r = [] := by
  simp only [isRune, decide_eq_false_iff_not] at h
  unfold encB
  split
  · rfl
  · unfold Utf.enc
    rw [if_pos (by omega)]
    rfl

theorem refEncode_none (r : Int) (hr0 : -2147483648 ≤ r) (hr1 : r ≤ 2147483647) (h : isRune r = false) (w : World) :
    Calls Tryd.prog 25 #[.int .i32 r] w fun e w' => e = .returned (.slice none 0 0) ∧ w' = w := by
  simp only [isRune, decide_eq_false_iff_not] at h
  have h' := Lib.hid h
  clear h
  by_cases h0 : r < 0
  · have i0 : decide (r < 0) = true := by simp [h0]
    go_enter Tryd.func25, Tryd.ntmps25
    go_wp2
    go_ret
    exact ⟨rfl, rfl⟩
  · have i0 : decide (r < 0) = false := by simp; omega
    by_cases h1 : 1114111 < r
    · have i1 : decide ((1114111 : Int) < r) = true := by simp [h1]
      go_enter Tryd.func25, Tryd.ntmps25
      go_wp2
      go_ret
      exact ⟨rfl, rfl⟩
    · have i1 : decide ((1114111 : Int) < r) = false := by simp; omega
      have i2 : decide ((55296 : Int) ≤ r) = true := by have := h'.out; simp; omega
      have i3 : decide (r ≤ 57343) = true := by have := h'.out; simp; omega
      go_enter Tryd.func25, Tryd.ntmps25
      go_wp2
      go_ret
      exact ⟨rfl, rfl⟩

/-- The document's Encode. -/
theorem refEncode_any (r : Int) (hr0 : -2147483648 ≤ r) (hr1 : r ≤ 2147483647) (w : World) :
    Calls Tryd.prog 25 #[.int .i32 r] w fun e w' => ∃ A c, e = .returned (.slice A (encB r).length c) ∧ OwB w' w.heap.size 5 (.slice A (encB r).length c) (encB r) ∧ Below w.heap.size w w' := by
  cases hr : isRune r
  · refine (refEncode_none r hr0 hr1 hr w).mono ?_
    rintro e w' ⟨rfl, rfl⟩
    rw [encB_none hr]
    exact ⟨none, 0, rfl, OwB.nil _ _ _, Below.refl _ _⟩
  · simp only [isRune, decide_eq_true_eq] at hr
    obtain ⟨v, rfl⟩ : ∃ v : Nat, r = v := ⟨r.toNat, by omega⟩
    rcases (show v < 128 ∨ (128 ≤ v ∧ v < 2048) ∨ (2048 ≤ v ∧ v < 65536) ∨ 65536 ≤ v from by omega) with h | h | h | h
    · exact refEncode_1 v h w
    · exact refEncode_2 v h.1 h.2 w
    · exact refEncode_3 v h.1 h.2 (by omega) w
    · exact refEncode_4 v h (by omega) w
end Go.Proofs.YthiikldjngamaaaDoor.UtfW
