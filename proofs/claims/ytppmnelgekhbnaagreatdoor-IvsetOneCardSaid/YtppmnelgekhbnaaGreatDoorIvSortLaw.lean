/- What is sorted rises; what is put together of it is a set. -/
import Derived.Test.YtppmnelgekhbnaaGreatDoorIvPut
namespace Go.Proofs.YtppmnelgekhbnaaGreatDoor.Iv

theorem rising_take : ∀ {l : List Span} {b : Int} (k : Nat), rising b l → rising b (l.take k)
  | [], _, _, _ => by simp [rising]
  | (f, t) :: r, b, 0, _ => by simp [rising]
  | (f, t) :: r, b, k + 1, h => by
    obtain ⟨h1, h2, h3, h4, h5⟩ := h
    exact ⟨h1, h2, h3, h4, rising_take k h5⟩

theorem okR_mem : ∀ {s : List Span}, okR s → ∀ q ∈ s, 1 ≤ q.2 ∧ q.2 ≤ 200
  | [], _, _, h => by cases h
  | (f, t) :: r, h, q, hq => by
    obtain ⟨h1, h2, h3, h4, _⟩ := h
    rcases List.mem_cons.1 hq with rfl | hq
    · exact ⟨by simp only; omega, h3⟩
    · exact okR_mem h4 q hq

/-- What is put together of a row that rises. -/
theorem puts_rising {l : List Span} (h : rising 1 l) : ok 1 (l.foldl putL []) ∧ (∀ v, mem (l.foldl putL []) v = mem l v) ∧ ∀ q ∈ l.foldl putL [], 1 ≤ q.2 ∧ q.2 ≤ 200 := by
  obtain ⟨h1, h2⟩ := puts_ok l [] 1 trivial (fun q hq => by cases hq) h
  have e := putL_foldl l []
  rw [List.reverse_nil] at e
  rw [← e]
  refine ⟨ok_of_okR h1, fun v => ?_, fun q hq => okR_mem h1 q (List.mem_reverse.1 hq)⟩
  rw [mem_reverse, h2, mem_nil, Bool.false_or]

/-- Sorted, and each span may be: it rises. -/
theorem rising_of : ∀ {l : List Span} {b : Int}, (∀ p ∈ l, b ≤ p.1 ∧ 1 ≤ p.1 ∧ p.1 ≤ p.2 ∧ p.2 ≤ 200) → l.Pairwise (fun p q => p.1 ≤ q.1) → rising b l
  | [], _, _, _ => trivial
  | (f, t) :: r, b, h, hs => by
    obtain ⟨h1, h2, h3, h4⟩ := h (f, t) (by simp)
    rw [List.pairwise_cons] at hs
    refine ⟨h1, h2, h3, h4, rising_of (fun p hp => ?_) hs.2⟩
    obtain ⟨_, g2, g3, g4⟩ := h p (by simp [hp])
    exact ⟨hs.1 p hp, g2, g3, g4⟩

theorem mem_perm {l l' : List Span} (h : l.Perm l') (v : Int) : mem l v = mem l' v := by
  unfold mem
  rw [Bool.eq_iff_iff]
  simp only [List.any_eq_true]
  exact ⟨fun ⟨x, hx, e⟩ => ⟨x, h.mem_iff.1 hx, e⟩, fun ⟨x, hx, e⟩ => ⟨x, h.mem_iff.2 hx, e⟩⟩

theorem ok_span : ∀ {l : List Span} {b : Int}, ok b l → ∀ p ∈ l, b ≤ p.1 ∧ p.1 ≤ p.2 ∧ p.2 ≤ 200
  | [], _, _, _, h => by cases h
  | (f, t) :: r, b, h, p, hp => by
    obtain ⟨h1, h2, h3, h4⟩ := h
    rcases List.mem_cons.1 hp with rfl | hp
    · exact ⟨h1, h2, h3⟩
    · have := ok_span h4 p hp
      omega

/-- The union of two sets. -/
def union? (a b : List Span) : List Span := if okB 1 a && okB 1 b then sp (fun v => mem a v || mem b v) else []

theorem union_law {la lb l : List Span} (ha : okB 1 la = true) (hb : okB 1 lb = true) (hp : l.Perm (la ++ lb)) (hs : l.Pairwise (fun p q => p.1 ≤ q.1)) :
    rising 1 l ∧ l.foldl putL [] = union? la lb := by
  have ha' := (okB_iff _ _).1 ha
  have hb' := (okB_iff _ _).1 hb
  have hr : rising 1 l := rising_of (fun p h => by
    have h := hp.mem_iff.1 h
    rcases List.mem_append.1 h with h | h
    · have := ok_span ha' p h; omega
    · have := ok_span hb' p h; omega) hs
  refine ⟨hr, ?_⟩
  obtain ⟨h1, h2, _⟩ := puts_rising hr
  unfold union?
  rw [ha, hb, if_pos (show (true && true) = true from rfl)]
  refine eq_sp h1 fun x _ _ => ?_
  rw [h2, mem_perm hp, mem_append]

theorem ok_len : ∀ {s : List Span} {b : Int}, ok b s → b ≤ 202 → (s.length : Int) ≤ 202 - b
  | [], b, _, h => by simp; omega
  | (f, t) :: r, b, h, hb => by
    obtain ⟨h1, h2, h3, h4⟩ := h
    have := ok_len h4 (by omega)
    simp only [List.length_cons]
    omega

theorem sp_len (m : Nat → Bool) : (sp m).length ≤ 300 := by
  have := ok_len (sp_ok m) (by omega)
  omega
end Go.Proofs.YtppmnelgekhbnaaGreatDoor.Iv
