/- Sets of versions: plain laws. -/
namespace Go.Proofs.YtppmnelgekhbnaaGreatDoor.Iv

abbrev Span := Int × Int

/-- Whether spans from a bound on are a set. -/
def ok : Int → List Span → Prop
  | _, [] => True
  | b, (f, t) :: r => b ≤ f ∧ f ≤ t ∧ t ≤ 200 ∧ ok (t + 2) r

def okB : Int → List Span → Bool
  | _, [] => true
  | b, (f, t) :: r => decide (b ≤ f) && decide (f ≤ t) && decide (t ≤ 200) && okB (t + 2) r

theorem okB_iff : ∀ (s : List Span) (b : Int), okB b s = true ↔ ok b s
  | [], _ => by simp [okB, ok]
  | (f, t) :: r, b => by simp [okB, ok, okB_iff r, and_assoc]

/-- Whether a version is in some span. -/
def mem (s : List Span) (v : Int) : Bool := s.any fun p => decide (p.1 ≤ v) && decide (v ≤ p.2)

theorem mem_nil (v : Int) : mem [] v = false := rfl
theorem mem_cons (p : Span) (s : List Span) (v : Int) : mem (p :: s) v = (decide (p.1 ≤ v) && decide (v ≤ p.2) || mem s v) := rfl
theorem mem_append (s t : List Span) (v : Int) : mem (s ++ t) v = (mem s v || mem t v) := by simp [mem]

theorem ok_mono : ∀ {s : List Span} {b b' : Int}, ok b s → b' ≤ b → ok b' s
  | [], _, _, _, _ => trivial
  | (f, t) :: r, _, _, h, hb => ⟨by have := h.1; omega, h.2⟩

theorem mem_lt : ∀ {s : List Span} {b v : Int}, ok b s → v < b → mem s v = false
  | [], _, _, _, _ => rfl
  | (f, t) :: r, b, v, h, hv => by
    obtain ⟨h1, h2, h3, h4⟩ := h
    rw [mem_cons, mem_lt h4 (by omega)]
    simp
    omega

theorem mem_gt : ∀ {s : List Span} {b v : Int}, ok b s → 200 < v → mem s v = false
  | [], _, _, _, _ => rfl
  | (f, t) :: r, b, v, h, hv => by
    obtain ⟨h1, h2, h3, h4⟩ := h
    rw [mem_cons, mem_gt h4 hv]
    simp
    omega

theorem mem_bounds {s : List Span} {b v : Int} (h : ok b s) (hm : mem s v = true) : b ≤ v ∧ v ≤ 200 := by
  constructor
  · rcases Int.lt_or_le v b with hv | hv
    · rw [mem_lt h hv] at hm; cases hm
    · exact hv
  · rcases Int.lt_or_le 200 v with hv | hv
    · rw [mem_gt h hv] at hm; cases hm
    · exact hv

/-- One set has one list. -/
theorem canon : ∀ {s s' : List Span} {b b' : Int}, ok b s → ok b' s' → (∀ v, mem s v = mem s' v) → s = s'
  | [], [], _, _, _, _, _ => rfl
  | [], (f, t) :: r, _, _, _, h', hm => by
    have h := hm f
    rw [mem_nil, mem_cons] at h
    obtain ⟨_, h2, _⟩ := h'
    simp [h2] at h
  | (f, t) :: r, [], _, _, h', _, hm => by
    have h := hm f
    rw [mem_nil, mem_cons] at h
    obtain ⟨_, h2, _⟩ := h'
    simp [h2] at h
  | (f, t) :: r, (f', t') :: r', b, b', h, h', hm => by
    obtain ⟨h1, h2, h3, h4⟩ := h
    obtain ⟨h1', h2', h3', h4'⟩ := h'
    have low : ∀ v, mem ((f, t) :: r) v = true → f ≤ v := fun v hv => by
      have : ok f ((f, t) :: r) := ⟨by omega, h2, h3, h4⟩
      exact (mem_bounds this hv).1
    have low' : ∀ v, mem ((f', t') :: r') v = true → f' ≤ v := fun v hv => by
      have : ok f' ((f', t') :: r') := ⟨by omega, h2', h3', h4'⟩
      exact (mem_bounds this hv).1
    have m1 : mem ((f, t) :: r) f = true := by rw [mem_cons]; simp [h2]
    have m1' : mem ((f', t') :: r') f' = true := by rw [mem_cons]; simp [h2']
    have e1 : f = f' := by
      have := low' f (by rw [← hm]; exact m1)
      have := low f' (by rw [hm]; exact m1')
      omega
    subst e1
    have n1 : mem ((f, t) :: r) (t + 1) = false := by rw [mem_cons, mem_lt h4 (by omega)]; simp; omega
    have n1' : mem ((f, t') :: r') (t' + 1) = false := by rw [mem_cons, mem_lt h4' (by omega)]; simp; omega
    have m2 : ∀ v, f ≤ v → v ≤ t → mem ((f, t) :: r) v = true := fun v a1 a2 => by rw [mem_cons]; simp [a1, a2]
    have m2' : ∀ v, f ≤ v → v ≤ t' → mem ((f, t') :: r') v = true := fun v a1 a2 => by rw [mem_cons]; simp [a1, a2]
    have e2 : t = t' := by
      rcases Int.lt_trichotomy t t' with hlt | heq | hgt
      · have := m2' (t + 1) (by omega) (by omega)
        rw [← hm, n1] at this
        cases this
      · exact heq
      · have := m2 (t' + 1) (by omega) (by omega)
        rw [hm, n1'] at this
        cases this
    subst e2
    have e3 : r = r' := canon h4 h4' fun v => by
      rcases Int.lt_or_le v (t + 2) with hv | hv
      · rw [mem_lt h4 hv, mem_lt h4' hv]
      · have := hm v
        rw [mem_cons, mem_cons] at this
        have hf : (decide (f ≤ v) && decide (v ≤ t)) = false := by simp; omega
        simpa [hf] using this
    rw [e3]

/-- A span comes behind others (the last one first), or goes on with the last of them. -/
def putR : List Span → Span → List Span
  | [], p => [p]
  | q :: r, p => if p.1 ≤ q.2 + 1 then (q.1, max q.2 p.2) :: r else p :: q :: r

/-- What is built is a set, and its last span begins where it says. -/
def okR : List Span → Prop
  | [] => True
  | (f, t) :: r => 1 ≤ f ∧ f ≤ t ∧ t ≤ 200 ∧ okR r ∧ ∀ q ∈ r.head?, q.2 + 2 ≤ f

theorem mem_reverse (s : List Span) (v : Int) : mem s.reverse v = mem s v := by simp [mem]

theorem ok_append : ∀ {s : List Span} {b f t : Int}, ok b s → b ≤ f → f ≤ t → t ≤ 200 → (∀ q ∈ s.getLast?, q.2 + 2 ≤ f) → ok b (s ++ [(f, t)])
  | [], _, _, _, _, h1, h2, h3, _ => ⟨h1, h2, h3, trivial⟩
  | [(f', t')], b, f, t, h, h1, h2, h3, hl => by
    obtain ⟨a1, a2, a3, _⟩ := h
    have := hl (f', t') rfl
    exact ⟨a1, a2, a3, this, h2, h3, trivial⟩
  | (f', t') :: q :: r, b, f, t, h, h1, h2, h3, hl => by
    obtain ⟨a1, a2, a3, a4⟩ := h
    have hq : ok (t' + 2) ((q :: r) ++ [(f, t)]) := by
      refine ok_append (s := q :: r) a4 ?_ h2 h3 (fun x hx => hl x ?_)
      · have hx : ∀ x ∈ (q :: r).getLast?, x.2 + 2 ≤ f := fun x hx => hl x (by rw [List.getLast?_cons_cons]; exact hx)
        have hge : ∀ {s : List Span} {b : Int}, ok b s → ∀ x ∈ s.getLast?, b ≤ x.2 := by
          intro s
          induction s with
          | nil => intro b _ x hx; cases hx
          | cons p s ih =>
            intro b hb x hx
            obtain ⟨f0, t0⟩ := p
            obtain ⟨c1, c2, c3, c4⟩ := hb
            cases s with
            | nil => simp at hx; subst hx; simp only; omega
            | cons p2 s2 =>
              rw [List.getLast?_cons_cons] at hx
              have := ih c4 x hx
              omega
        obtain ⟨x, hx'⟩ : ∃ x, (q :: r).getLast? = some x := by
          cases h : (q :: r).getLast? with
          | none => simp at h
          | some x => exact ⟨x, rfl⟩
        have h1 := hx x hx'
        have h2 := hge a4 x hx'
        omega
      · rw [List.getLast?_cons_cons]; exact hx
    exact ⟨a1, a2, a3, hq⟩

theorem ok_of_okR : ∀ {s : List Span}, okR s → ok 1 s.reverse
  | [], _ => trivial
  | (f, t) :: r, h => by
    obtain ⟨h1, h2, h3, h4, h5⟩ := h
    rw [List.reverse_cons]
    exact ok_append (ok_of_okR h4) h1 h2 h3 (fun q hq => h5 q (by rw [List.getLast?_reverse] at hq; exact hq))

/-- A row of spans that begin one behind the other. -/
def rising : Int → List Span → Prop
  | _, [] => True
  | b, (f, t) :: r => b ≤ f ∧ 1 ≤ f ∧ f ≤ t ∧ t ≤ 200 ∧ rising f r

theorem put_ok {s : List Span} {p : Span} (h : okR s) (h1 : 1 ≤ p.1) (h2 : p.1 ≤ p.2) (h3 : p.2 ≤ 200) (hb : ∀ q ∈ s.head?, q.1 ≤ p.1) :
    okR (putR s p) ∧ (∀ q ∈ (putR s p).head?, q.1 ≤ p.1) ∧ ∀ v, mem (putR s p) v = (mem s v || decide (p.1 ≤ v) && decide (v ≤ p.2)) := by
  obtain ⟨f, t⟩ := p
  cases s with
  | nil =>
    refine ⟨⟨h1, h2, h3, trivial, fun q hq => by cases hq⟩, fun q hq => ?_, fun v => ?_⟩
    · simp [putR] at hq; subst hq; exact Int.le_refl _
    · simp [putR, mem]
  | cons q r =>
    obtain ⟨f', t'⟩ := q
    have hq := hb (f', t') rfl
    simp only at hq h1 h2 h3
    obtain ⟨a1, a2, a3, a4, a5⟩ := h
    by_cases hlt : f ≤ t' + 1
    · have e : putR ((f', t') :: r) (f, t) = (f', max t' t) :: r := by simp [putR, hlt]
      rw [e]
      refine ⟨⟨a1, by omega, by omega, a4, a5⟩, fun q hq' => ?_, fun v => ?_⟩
      · simp at hq'; subst hq'; exact hq
      · rw [mem_cons, mem_cons]
        rw [Bool.eq_iff_iff]
        simp
        constructor
        · rintro (⟨x1, x2⟩ | x)
          · by_cases hv : v ≤ t'
            · exact .inl (.inl ⟨x1, hv⟩)
            · exact .inr ⟨by omega, by omega⟩
          · exact .inl (.inr x)
        · rintro ((⟨x1, x2⟩ | x) | ⟨x1, x2⟩)
          · exact .inl ⟨x1, by omega⟩
          · exact .inr x
          · exact .inl ⟨by omega, by omega⟩
    · have e : putR ((f', t') :: r) (f, t) = (f, t) :: (f', t') :: r := by simp [putR, hlt]
      rw [e]
      refine ⟨⟨h1, h2, h3, ⟨a1, a2, a3, a4, a5⟩, fun q hq' => ?_⟩, fun q hq' => ?_, fun v => ?_⟩
      · simp at hq'; subst hq'; simp only; omega
      · simp at hq'; subst hq'; exact Int.le_refl _
      · rw [mem_cons]
        cases mem ((f', t') :: r) v <;> simp

theorem puts_ok : ∀ (l : List Span) (s : List Span) (b : Int), okR s → (∀ q ∈ s.head?, q.1 ≤ b) → rising b l →
    okR (l.foldl putR s) ∧ ∀ v, mem (l.foldl putR s) v = (mem s v || mem l v)
  | [], s, _, h, _, _ => ⟨h, fun v => by simp [mem_nil]⟩
  | (f, t) :: r, s, b, h, hb, hr => by
    obtain ⟨r1, r2, r3, r4, r5⟩ := hr
    obtain ⟨p1, p2, p3⟩ := put_ok (p := (f, t)) h r2 r3 r4 (fun q hq => by have := hb q hq; simp only; omega)
    obtain ⟨k1, k2⟩ := puts_ok r (putR s (f, t)) f p1 p2 r5
    refine ⟨k1, fun v => ?_⟩
    rw [List.foldl_cons, k2, p3, mem_cons, Bool.or_assoc]

/-- What is in both. -/
def both : List Span → List Span → List Span
  | [], _ => []
  | _ :: _, [] => []
  | (f1, t1) :: ra, (f2, t2) :: rb =>
    (if max f1 f2 ≤ min t1 t2 then [(max f1 f2, min t1 t2)] else []) ++ (if t1 < t2 then both ra ((f2, t2) :: rb) else both ((f1, t1) :: ra) rb)
termination_by a b => a.length + b.length

theorem both_ok : ∀ (a b : List Span) (x y : Int), ok x a → ok y b → ok (max x y) (both a b) ∧ ∀ v, mem (both a b) v = (mem a v && mem b v)
  | [], b, x, y, _, _ => by rw [both]; exact ⟨trivial, fun v => by simp [mem_nil]⟩
  | p :: ra, [], x, y, _, _ => by rw [both]; exact ⟨trivial, fun v => by simp [mem_nil]⟩
  | (f1, t1) :: ra, (f2, t2) :: rb, x, y, ha, hb => by
    have ha0 := ha
    have hb0 := hb
    obtain ⟨a1, a2, a3, a4⟩ := ha
    obtain ⟨b1, b2, b3, b4⟩ := hb
    have key : ∀ (z : Int) (R : List Span), min t1 t2 + 2 ≤ z → max x y ≤ z → ok z R → (∀ v, min t1 t2 < v → mem R v = (mem ((f1, t1) :: ra) v && mem ((f2, t2) :: rb) v)) →
        ok (max x y) ((if max f1 f2 ≤ min t1 t2 then [(max f1 f2, min t1 t2)] else []) ++ R) ∧ ∀ v, mem ((if max f1 f2 ≤ min t1 t2 then [(max f1 f2, min t1 t2)] else []) ++ R) v = (mem ((f1, t1) :: ra) v && mem ((f2, t2) :: rb) v) := by
      intro z R hz hxz hR hm
      have lowR : ∀ v, v ≤ min t1 t2 → mem R v = false := fun v hv => mem_lt hR (by omega)
      have inA : ∀ v, v ≤ t1 → mem ((f1, t1) :: ra) v = decide (f1 ≤ v) := fun v hv => by
        rw [mem_cons, mem_lt a4 (by omega)]; simp [hv]
      have inB : ∀ v, v ≤ t2 → mem ((f2, t2) :: rb) v = decide (f2 ≤ v) := fun v hv => by
        rw [mem_cons, mem_lt b4 (by omega)]; simp [hv]
      constructor
      · by_cases h : max f1 f2 ≤ min t1 t2
        · rw [if_pos h]
          exact ⟨by omega, h, by omega, ok_mono hR hz⟩
        · rw [if_neg h]
          exact ok_mono hR hxz
      · intro v
        rw [mem_append]
        by_cases hv : min t1 t2 < v
        · rw [hm v hv]
          by_cases h : max f1 f2 ≤ min t1 t2
          · rw [if_pos h, mem_cons, mem_nil]
            have : decide (v ≤ min t1 t2) = false := by simp; omega
            simp only at this ⊢
            rw [this]
            simp
          · rw [if_neg h, mem_nil]
            simp
        · rw [lowR v (by omega), inA v (by omega), inB v (by omega)]
          by_cases h : max f1 f2 ≤ min t1 t2
          · rw [if_pos h, mem_cons, mem_nil, Bool.eq_iff_iff]
            simp
            omega
          · rw [if_neg h, mem_nil, Bool.eq_iff_iff]
            simp
            omega
    rw [both]
    by_cases ht : t1 < t2
    · rw [if_pos ht]
      obtain ⟨i1, i2⟩ := both_ok ra ((f2, t2) :: rb) (t1 + 2) y a4 hb0
      refine key (max (t1 + 2) y) _ (by omega) (by omega) i1 (fun v hv => ?_)
      rw [i2, mem_cons (f1, t1)]
      have : decide (v ≤ t1) = false := by simp; omega
      simp only [this, Bool.and_false, Bool.false_or]
    · rw [if_neg ht]
      obtain ⟨i1, i2⟩ := both_ok ((f1, t1) :: ra) rb x (t2 + 2) ha0 b4
      refine key (max x (t2 + 2)) _ (by omega) (by omega) i1 (fun v hv => ?_)
      rw [i2, mem_cons (f2, t2)]
      have : decide (v ≤ t2) = false := by simp; omega
      simp only [this, Bool.and_false, Bool.false_or]
termination_by a b => a.length + b.length

/-- What isn't in a set, from a version on. -/
def comp : Int → List Span → List Span
  | b, [] => if b ≤ 200 then [(b, 200)] else []
  | b, (f, t) :: r => if b < f then (b, f - 1) :: comp (t + 1) r else comp (t + 1) r

theorem comp_ok : ∀ (s : List Span) (b : Int), ok b s → ok b (comp b s) ∧ ∀ v, mem (comp b s) v = (decide (b ≤ v) && decide (v ≤ 200) && !mem s v)
  | [], b, _ => by
    by_cases h : b ≤ 200
    · rw [comp, if_pos h]
      refine ⟨⟨Int.le_refl _, h, Int.le_refl _, trivial⟩, fun v => ?_⟩
      simp [mem]
    · rw [comp, if_neg h]
      refine ⟨trivial, fun v => ?_⟩
      rw [mem_nil, Bool.eq_iff_iff]
      simp
      omega
  | (f, t) :: r, b, hs => by
    obtain ⟨h1, h2, h3, h4⟩ := hs
    obtain ⟨i1, i2⟩ := comp_ok r (t + 1) (ok_mono h4 (by omega))
    by_cases h : b < f
    · rw [comp, if_pos h]
      refine ⟨⟨Int.le_refl _, by omega, by omega, ok_mono i1 (by omega)⟩, fun v => ?_⟩
      rw [mem_cons, i2, mem_cons]
      rcases Int.lt_or_le v (t + 2) with hv | hv
      · rw [mem_lt h4 hv, Bool.eq_iff_iff]
        simp
        omega
      · cases mem r v
        · rw [Bool.eq_iff_iff]; simp; omega
        · rw [Bool.eq_iff_iff]; simp; omega
    · rw [comp, if_neg h]
      refine ⟨ok_mono i1 (by omega), fun v => ?_⟩
      rw [i2, mem_cons]
      rcases Int.lt_or_le v (t + 2) with hv | hv
      · rw [mem_lt h4 hv, Bool.eq_iff_iff]
        simp
        omega
      · cases mem r v
        · rw [Bool.eq_iff_iff]; simp; omega
        · rw [Bool.eq_iff_iff]; simp

/-- The end of the flags that stand one behind the other. -/
def runTo (m : Nat → Bool) : Nat → Nat → Nat
  | 0, v => v
  | k + 1, v => if v < 200 ∧ m (v + 1) = true then runTo m k (v + 1) else v

/-- Flags as spans. -/
def spf (m : Nat → Bool) : Nat → Nat → List Span
  | 0, _ => []
  | k + 1, v => if v ≤ 200 then (if m v = true then ((v : Int), (runTo m 200 v : Int)) :: spf m k (runTo m 200 v + 1) else spf m k (v + 1)) else []

def sp (m : Nat → Bool) : List Span := spf m 200 1

theorem runTo_spec (m : Nat → Bool) : ∀ (k v : Nat), v ≤ 200 → 200 ≤ v + k → m v = true → v ≤ runTo m k v ∧ runTo m k v ≤ 200 ∧ (∀ x, v ≤ x → x ≤ runTo m k v → m x = true) ∧ (runTo m k v < 200 → m (runTo m k v + 1) = false)
  | 0, v, h1, h2, hm => ⟨Nat.le_refl _, h1, fun x a b => (by have hx : x = v := (by simp only [runTo] at b; omega); rw [hx]; exact hm), fun h => by simp only [runTo] at h; omega⟩
  | k + 1, v, h1, h2, hm => by
    rw [runTo]
    by_cases h : v < 200 ∧ m (v + 1) = true
    · rw [if_pos h]
      obtain ⟨i1, i2, i3, i4⟩ := runTo_spec m k (v + 1) (by omega) (by omega) h.2
      refine ⟨by omega, i2, fun x a b => ?_, i4⟩
      by_cases hx : x = v
      · rw [hx]; exact hm
      · exact i3 x (by omega) b
    · rw [if_neg h]
      refine ⟨Nat.le_refl _, h1, fun x a b => (by have hx : x = v := (by omega); rw [hx]; exact hm), fun hlt => ?_⟩
      cases hc : m (v + 1) with
      | false => rfl
      | true => exact absurd ⟨hlt, hc⟩ h

theorem spf_ok (m : Nat → Bool) : ∀ (k v : Nat), 1 ≤ v → 201 ≤ v + k → ok v (spf m k v) ∧ ∀ x : Nat, mem (spf m k v) x = (decide (v ≤ x) && decide (x ≤ 200) && m x)
  | 0, v, h1, h2 => ⟨trivial, fun x => by rw [spf, mem_nil, Bool.eq_iff_iff]; simp; omega⟩
  | k + 1, v, h1, h2 => by
    rw [spf]
    by_cases hv : v ≤ 200
    · rw [if_pos hv]
      by_cases hm : m v = true
      · rw [if_pos hm]
        obtain ⟨i1, i2, i3, i4⟩ := runTo_spec m 200 v hv (by omega) hm
        generalize runTo m 200 v = T at i1 i2 i3 i4
        obtain ⟨j1, j2⟩ := spf_ok m k (T + 1) (by omega) (by omega)
        have j1' : ok ((T : Int) + 2) (spf m k (T + 1)) := by
          cases hs : spf m k (T + 1) with
          | nil => trivial
          | cons p r =>
            obtain ⟨f, t⟩ := p
            rw [hs] at j1 j2
            obtain ⟨c1, c2, c3, c4⟩ := j1
            refine ⟨?_, c2, c3, c4⟩
            rcases Int.lt_or_le f ((T : Int) + 2) with hf | hf
            · have hfe : f = ((T + 1 : Nat) : Int) := by omega
              have := j2 (T + 1)
              rw [mem_cons, i4 (by omega)] at this
              simp at this
              omega
            · exact hf
        refine ⟨⟨Int.le_refl _, by omega, by omega, j1'⟩, fun x => ?_⟩
        rw [mem_cons, j2]
        by_cases hx : v ≤ x ∧ x ≤ T
        · rw [i3 x hx.1 hx.2, Bool.eq_iff_iff]
          simp
          omega
        · cases m x
          · rw [Bool.eq_iff_iff]; simp; omega
          · rw [Bool.eq_iff_iff]; simp; omega
      · rw [if_neg hm]
        obtain ⟨j1, j2⟩ := spf_ok m k (v + 1) (by omega) (by omega)
        refine ⟨ok_mono j1 (by omega), fun x => ?_⟩
        rw [j2]
        by_cases hx : x = v
        · subst hx
          simp at hm
          rw [hm]
          simp
        · rw [Bool.eq_iff_iff]
          simp
          omega
    · rw [if_neg hv]
      exact ⟨trivial, fun x => by rw [mem_nil, Bool.eq_iff_iff]; simp; omega⟩

theorem sp_ok (m : Nat → Bool) : ok 1 (sp m) := (spf_ok m 200 1 (by omega) (by omega)).1
theorem sp_mem (m : Nat → Bool) (x : Nat) : mem (sp m) x = (decide (1 ≤ x) && decide (x ≤ 200) && m x) := (spf_ok m 200 1 (by omega) (by omega)).2 x

theorem eq_sp {s : List Span} {m : Nat → Bool} (h : ok 1 s) (hm : ∀ x : Nat, 1 ≤ x → x ≤ 200 → mem s x = m x) : s = sp m := by
  refine canon h (sp_ok m) fun v => ?_
  rcases Int.lt_or_le v 1 with hv | hv
  · rw [mem_lt h hv, mem_lt (sp_ok m) hv]
  rcases Int.lt_or_le 200 v with hv' | hv'
  · rw [mem_gt h hv', mem_gt (sp_ok m) hv']
  · obtain ⟨x, rfl⟩ : ∃ x : Nat, v = x := ⟨v.toNat, by omega⟩
    rw [sp_mem, hm x (by omega) (by omega)]
    have a1 : decide (1 ≤ x) = true := by simp; omega
    have a2 : decide (x ≤ 200) = true := by simp; omega
    rw [a1, a2]
    simp

theorem sp_congr {m m' : Nat → Bool} (h : ∀ x, 1 ≤ x → x ≤ 200 → m x = m' x) : sp m = sp m' :=
  eq_sp (sp_ok m) fun x h1 h2 => by
    rw [sp_mem, h x h1 h2]
    simp [h1, h2]

theorem sp_self {s : List Span} (h : ok 1 s) : s = sp (fun x => mem s x) := eq_sp h fun _ _ _ => rfl

/-- How many flags stand up to a version. -/
def card (m : Nat → Bool) : Nat → Nat
  | 0 => 0
  | n + 1 => card m n + (if m (n + 1) = true then 1 else 0)

theorem card_congr {m m' : Nat → Bool} : ∀ {n : Nat}, (∀ x, 1 ≤ x → x ≤ n → m x = m' x) → card m n = card m' n
  | 0, _ => rfl
  | n + 1, h => by rw [card, card, h (n + 1) (by omega) (by omega), card_congr (n := n) fun x a b => h x a (by omega)]

theorem card_or (m m' : Nat → Bool) : ∀ (n : Nat), card (fun x => m x || m' x) n + card (fun x => m x && m' x) n = card m n + card m' n
  | 0 => rfl
  | n + 1 => by
    have ih := card_or m m' n
    simp only [card]
    by_cases a : m (n + 1) = true <;> by_cases b : m' (n + 1) = true <;> simp [a, b] <;> omega

theorem card_none : ∀ {m : Nat → Bool} {n : Nat}, (∀ x, 1 ≤ x → x ≤ n → m x = false) → card m n = 0
  | _, 0, _ => rfl
  | m, n + 1, h => by rw [card, h (n + 1) (by omega) (by omega), card_none (n := n) fun x a b => h x a (by omega)]; simp

theorem card_span (f t : Int) (h1 : 1 ≤ f) (h2 : f ≤ t + 1) : ∀ (n : Nat), (card (fun x => decide (f ≤ (x : Int)) && decide ((x : Int) ≤ t)) n : Int) = if t ≤ n then t - f + 1 else if f ≤ n then n - f + 1 else 0
  | 0 => by
    simp only [card]
    split
    · omega
    · split <;> omega
  | n + 1 => by
    have ih := card_span f t h1 h2 n
    simp only [card]
    by_cases a : f ≤ ((n + 1 : Nat) : Int)
    · by_cases b : ((n + 1 : Nat) : Int) ≤ t
      · rw [if_pos (by simp; omega)]
        rw [Int.natCast_add, ih]
        repeat' split
        all_goals omega
      · rw [if_neg (by simp; omega)]
        rw [Int.natCast_add, ih]
        repeat' split
        all_goals omega
    · rw [if_neg (by simp; omega)]
      rw [Int.natCast_add, ih]
      repeat' split
      all_goals omega

/-- How many versions a list of spans tells. -/
def cnt : List Span → Int
  | [] => 0
  | (f, t) :: r => (t - f + 1) + cnt r

theorem cnt_card : ∀ {s : List Span} {b : Int}, ok b s → 1 ≤ b → cnt s = card (fun x => mem s x) 200
  | [], b, _, _ => by rw [cnt, card_none fun x _ _ => mem_nil _]; rfl
  | (f, t) :: r, b, h, hb => by
    obtain ⟨h1, h2, h3, h4⟩ := h
    have ih := cnt_card h4 (by omega)
    have hs := card_span f t (by omega) (by omega) 200
    have ho := card_or (fun x => decide (f ≤ (x : Int)) && decide ((x : Int) ≤ t)) (fun x => mem r x) 200
    have hz : card (fun x => (decide (f ≤ (x : Int)) && decide ((x : Int) ≤ t)) && mem r x) 200 = 0 := card_none fun x _ _ => by
      rcases Int.lt_or_le (x : Int) (t + 2) with hv | hv
      · rw [mem_lt h4 hv, Bool.and_false]
      · have : decide ((x : Int) ≤ t) = false := by simp; omega
        rw [this, Bool.and_false, Bool.false_and]
    have he : card (fun x => mem ((f, t) :: r) x) 200 = card (fun x => (decide (f ≤ (x : Int)) && decide ((x : Int) ≤ t)) || mem r x) 200 := rfl
    rw [cnt, ih, he]
    rw [if_pos (by omega)] at hs
    omega
end Go.Proofs.YtppmnelgekhbnaaGreatDoor.Iv
