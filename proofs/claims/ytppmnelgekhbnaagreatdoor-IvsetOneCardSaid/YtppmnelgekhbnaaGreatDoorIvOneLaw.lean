/- Plain laws for IvsetOne. -/
import Derived.Test.YtppmnelgekhbnaaGreatDoorIvLaws
import Derived.Test.YtppmnelgekhbnaaGreatDoorIvEnds
import Derived.Test.YtppmnelgekhbnaaGreatDoorIvHas
namespace Go.Proofs.YtppmnelgekhbnaaGreatDoor.IvW
open Go.RowKit Iv

theorem ok_one1 {v : Int} (h : ver v = true) : okB 1 [(v, v)] = true := by
  have := ver_true.1 h
  simp [okB]
  omega

theorem addg_sp (m : Nat → Bool) (v : Int) : add? (sp m) v = sp fun x => m x || decide ((x : Int) = v) := by
  unfold add?
  cases hv : ver v with
  | true =>
    simp only [if_true]
    unfold union?
    rw [okB_sp, ok_one1 hv, if_pos (show (true && true) = true from rfl)]
    exact sp_congr fun x g1 g2 => by
      rw [mem_sp' m g1 g2, mem_cons, mem_nil, Bool.or_false]
      congr 1
      rw [Bool.eq_iff_iff]
      simp
      omega
  | false =>
    have hv' := ver_false.1 hv
    simp only [Bool.false_eq_true, if_false]
    unfold union?
    rw [okB_sp, show okB 1 [] = true from rfl, if_pos (show (true && true) = true from rfl)]
    exact sp_congr fun x g1 g2 => by
      rw [mem_sp' m g1 g2, mem_nil]
      congr 1
      have : ¬ (x : Int) = v := by omega
      simp [this]

theorem ofg_sp : ∀ (L : List Int) (m : Nat → Bool), L.foldl add? (sp m) = sp fun x => m x || L.contains (x : Int)
  | [], m => by simp
  | v :: L, m => by
    rw [List.foldl_cons, addg_sp m v, ofg_sp L]
    exact sp_congr fun x _ _ => by
      rw [List.contains_cons, Bool.or_assoc]
      congr 2

theorem ofg_law (L : List Int) : of? L = sp fun x => L.contains (x : Int) := by
  unfold of?
  rw [show ([] : List Span) = sp (fun _ => false) from sp_none.symm, ofg_sp L]
  exact sp_congr fun x _ _ => by simp

theorem add_two (l : List Span) (v : Int) : add? l v = two? 0 l (of? [v]) := by
  rw [← union_two]
  cases h : okB 1 l with
  | true =>
    obtain ⟨m, rfl⟩ := ok_ex h
    rw [addg_sp, ofg_law, union_sp]
    exact sp_congr fun x _ _ => by
      congr 1
      rw [Bool.eq_iff_iff]
      simp
  | false =>
    unfold add? union?
    rw [h]
    simp

/-- The least and the greatest flag up to a version. -/
def fstTo (m : Nat → Bool) : Nat → Nat
  | 0 => 0
  | k + 1 => if fstTo m k = 0 then (if m (k + 1) then k + 1 else 0) else fstTo m k
def lstTo (m : Nat → Bool) : Nat → Nat
  | 0 => 0
  | k + 1 => if m (k + 1) then k + 1 else lstTo m k

theorem fstTo_none {m : Nat → Bool} : ∀ {k : Nat}, (∀ x, 1 ≤ x → x ≤ k → m x = false) → fstTo m k = 0
  | 0, _ => rfl
  | k + 1, h => by
    rw [fstTo, fstTo_none (fun x a b => h x a (by omega)), h (k + 1) (by omega) (by omega)]
    rfl
theorem lstTo_none {m : Nat → Bool} : ∀ {k : Nat}, (∀ x, 1 ≤ x → x ≤ k → m x = false) → lstTo m k = 0
  | 0, _ => rfl
  | k + 1, h => by
    rw [lstTo, h (k + 1) (by omega) (by omega), lstTo_none (fun x a b => h x a (by omega))]
    rfl
theorem fstTo_is {m : Nat → Bool} {f : Nat} (h1 : 1 ≤ f) (hf : m f = true) (hlt : ∀ x, 1 ≤ x → x < f → m x = false) : ∀ {k : Nat}, f ≤ k → fstTo m k = f
  | 0, h => by omega
  | k + 1, h => by
    rw [fstTo]
    by_cases hk : f ≤ k
    · rw [fstTo_is h1 hf hlt hk, if_neg (by omega)]
    · obtain rfl : f = k + 1 := by omega
      rw [fstTo_none (fun x a b => hlt x a (by omega)), if_pos rfl, if_pos hf]
theorem lstTo_is {m : Nat → Bool} {t : Nat} (h1 : 1 ≤ t) (ht : m t = true) : ∀ {k : Nat}, t ≤ k → (∀ x, t < x → x ≤ k → m x = false) → lstTo m k = t
  | 0, h, _ => by omega
  | k + 1, h, hgt => by
    rw [lstTo]
    by_cases hk : t ≤ k
    · rw [hgt (k + 1) (by omega) (by omega), lstTo_is h1 ht hk (fun x a b => hgt x a (by omega))]
      rfl
    · obtain rfl : t = k + 1 := by omega
      rw [if_pos ht]

/-- The flags that the document keeps of a list of spans. -/
def fl? (l : List Span) : Nat → Bool := fun i => okB 1 l && mem l i

theorem count_fl (l : List Span) : cnt? l = card (fl? l) 200 := by
  unfold cnt?
  cases h : okB 1 l with
  | true =>
    simp only [if_true]
    rw [cnt_card ((okB_iff _ _).1 h) (by omega)]
    have e : fl? l = fun x : Nat => mem l x := by funext x; unfold fl?; rw [h]; rfl
    rw [e]
  | false =>
    have e : fl? l = fun _ => false := by funext x; unfold fl?; rw [h]; rfl
    rw [e, card_none (fun _ _ _ => rfl)]
    rfl

theorem first_fl (l : List Span) : first? l = fstTo (fl? l) 200 := by
  unfold first?
  cases h : okB 1 l with
  | false =>
    have e : fl? l = fun _ => false := by funext x; unfold fl?; rw [h]; rfl
    rw [e, fstTo_none (fun _ _ _ => rfl)]
    rfl
  | true =>
    simp only [if_true]
    have hok := (okB_iff _ _).1 h
    have e : fl? l = fun x : Nat => mem l x := by funext x; unfold fl?; rw [h]; rfl
    rw [e]
    cases l with
    | nil => rw [fstTo_none (m := fun x : Nat => mem [] (x : Int)) (fun _ _ _ => rfl)]; rfl
    | cons p r =>
      obtain ⟨f, t⟩ := p
      obtain ⟨h1, h2, h3, h4⟩ := hok
      obtain ⟨f, rfl⟩ : ∃ k : Nat, f = k := ⟨f.toNat, by omega⟩
      rw [fstTo_is (f := f) (by omega) (by rw [mem_cons]; simp; left; omega) (fun x a b => by
        rw [mem_cons, mem_lt h4 (by omega)]
        simp
        omega) (by omega)]
      rfl

theorem last_fl (l : List Span) : last? l = lstTo (fl? l) 200 := by
  unfold last?
  cases h : okB 1 l with
  | false =>
    have e : fl? l = fun _ => false := by funext x; unfold fl?; rw [h]; rfl
    rw [e, lstTo_none (fun _ _ _ => rfl)]
    rfl
  | true =>
    simp only [if_true]
    have hok := (okB_iff _ _).1 h
    have e : fl? l = fun x : Nat => mem l x := by funext x; unfold fl?; rw [h]; rfl
    rw [e]
    have key : ∀ {l : List Span} {b : Int} {f t : Int}, ok b l → 1 ≤ b → l.getLast? = some (f, t) → f ≤ t ∧ 1 ≤ f ∧ t ≤ 200 ∧ mem l t = true ∧ ∀ v, t < v → mem l v = false := by
      intro l
      induction l with
      | nil => intro b f t _ _ h; cases h
      | cons p r ih =>
        intro b f t hok hb hl
        obtain ⟨f0, t0⟩ := p
        obtain ⟨h1, h2, h3, h4⟩ := hok
        cases r with
        | nil =>
          simp at hl
          obtain ⟨rfl, rfl⟩ := hl
          exact ⟨h2, by omega, h3, by rw [mem_cons]; simp; omega, fun v hv => by rw [mem_cons, mem_nil]; simp; omega⟩
        | cons q r =>
          rw [List.getLast?_cons_cons] at hl
          obtain ⟨g1, g2, g3, g4, g5⟩ := ih h4 (by omega) hl
          have g6 := (mem_bounds h4 g4).1
          exact ⟨g1, g2, g3, by rw [mem_cons, g4]; simp, fun v hv => by rw [mem_cons, g5 v hv]; simp; omega⟩
    cases hl : l.getLast? with
    | none =>
      have : l = [] := List.getLast?_eq_none_iff.1 hl
      subst this
      rw [lstTo_none (m := fun x : Nat => mem [] (x : Int)) (fun _ _ _ => rfl)]; rfl
    | some p =>
      obtain ⟨f, t⟩ := p
      obtain ⟨g1, g2, g3, g4, g5⟩ := key hok (by omega) hl
      obtain ⟨t, rfl⟩ : ∃ k : Nat, t = k := ⟨t.toNat, by omega⟩
      rw [lstTo_is (t := t) (by omega) g4 (by omega) (fun x a b => g5 x (by omega))]
      rfl

theorem has_fl (l : List Span) (v : Int) : has? l v = (okB 1 l && (ver v && mem l v)) := by
  unfold has?
  cases h : okB 1 l with
  | false => rfl
  | true =>
    simp only [Bool.true_and]
    cases hm : mem l v with
    | false => simp
    | true =>
      have := mem_bounds ((okB_iff _ _).1 h) hm
      rw [ver_true.2 this]
      rfl
end Go.Proofs.YtppmnelgekhbnaaGreatDoor.IvW
