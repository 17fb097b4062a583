/- The plain laws of manifests: of a Write that the power, or the disk, breaks off; of many that are written. No program stands here. -/
import Derived.Test.YtfdpnjebhllpkaaGreatDoorMDkLaw
import Derived.Test.YtfdpnjebhllpkaaGreatDoorMFrameMath
import Derived.Test.YtfdpnjebhllpkaaGreatDoorMDkLaw2
section
namespace Go.Proofs.YtfdpnjebhllpkaaGreatDoor.Sg
open Go Dk

/-- The records of a segment's bytes, its head being hd: the records, the good bytes, what stands behind. -/
def scan (hd b : List UInt8) : List (List UInt8) × Nat × Nat :=
  if b.take 12 ≠ hd.take b.length then ([], 0, 4)
  else if b.length < 12 then ([], 0, 3)
  else ((Fr.all (b.drop 12)).1, 12 + (Fr.all (b.drop 12)).2.1, (Fr.all (b.drop 12)).2.2)

structure S where
  size : Nat
  sick : Bool

/-- Bytes appended, and made safe. -/
def appB (d : D) (nm : Name) (b : List UInt8) : Int × D :=
  if (op d 2 nm [] 0 b).1 = 0 then op (op d 2 nm [] 0 b).2 4 nm [] 0 [] else op d 2 nm [] 0 b
/-- A segment is made: the code, and the disk behind it. -/
def createC (b : Int × D) (nm : Name) : Int × D := if b.1 ≠ 0 then (b.1, (op b.2 6 nm [] 0 []).2) else b
def create (d : D) (nm : Name) (hd : List UInt8) : Int × D :=
  if (op d 1 nm [] 0 []).1 ≠ 0 then op d 1 nm [] 0 [] else createC (appB (op d 1 nm [] 0 []).2 nm hd) nm

/-- A segment, the last one, is opened: code, records, size; the disk. -/
def openA (d : D) (nm : Name) (s : List (List UInt8) × Nat × Nat) : Int × D := if s.2.2 = 3 then op d 3 nm [] (s.2.1 : Int) [] else (0, d)
def openB (a : Int × D) (nm : Name) : Int × D := if a.1 = 0 then op a.2 4 nm [] 0 [] else a
def openC (b : Int × D) (s : List (List UInt8) × Nat × Nat) : (Int × List (List UInt8) × Nat) × D :=
  if b.1 ≠ 0 then ((b.1, [], 0), b.2) else ((0, s.1, s.2.1), b.2)
def openS (d : D) (nm : Name) (s : List (List UInt8) × Nat × Nat) : (Int × List (List UInt8) × Nat) × D :=
  if s.2.2 = 4 ∨ s.2.2 = 3 ∧ s.2.1 = 0 then ((50, [], 0), d) else openC (openB (openA d nm s) nm) s
def open_ (d : D) (nm : Name) (hd : List UInt8) : (Int × List (List UInt8) × Nat) × D :=
  match get d.fs nm with
  | none => ((42, [], 0), d)
  | some f => openS d nm (scan hd f.data)

/-- Records are appended: code, the segment, the disk. -/
def bad (r : List UInt8) : Bool := decide (r.length < 1 ∨ 1048576 < r.length)
def undo (a : Int × D) (nm : Name) (s : S) : (Int × S) × D :=
  ((a.1, ⟨s.size, decide ((op a.2 3 nm [] (s.size : Int) []).1 ≠ 0)⟩), (op a.2 3 nm [] (s.size : Int) []).2)
def appC (a : Int × D) (nm : Name) (s : S) (k : Nat) : (Int × S) × D :=
  if a.1 ≠ 0 then undo a nm s else ((0, ⟨s.size + k, false⟩), a.2)
def append (d : D) (nm : Name) (s : S) (l : List (List UInt8)) : (Int × S) × D :=
  if s.sick = true then ((51, s), d) else
  if (l.isEmpty || l.any bad) = true then ((80, s), d) else
  appC (appB d nm (Fr.puts l)) nm s (Fr.puts l).length

theorem bad_no {r : List UInt8} (h : bad r = false) : 1 ≤ r.length ∧ r.length ≤ 1048576 := by
  unfold bad at h
  rw [decide_eq_false_iff_not] at h
  omega
theorem whole_good {l : List (List UInt8)} (h : ∀ r ∈ l, bad r = false) : Fr.whole l = l := by
  unfold Fr.whole
  rw [List.filter_eq_self]
  intro r hr
  have := bad_no (h r hr)
  rw [decide_eq_true_eq]
  omega
theorem puts_cons (r : List UInt8) (l : List (List UInt8)) : Fr.puts (r :: l) = Fr.put r ++ Fr.puts l := by simp [Fr.puts]
theorem put_good {r : List UInt8} (h : bad r = false) : Fr.put r = Fr.frame r := by
  have := bad_no h
  unfold Fr.put
  rw [if_neg (by omega)]
/-- Of frames of which bytes are missing at the end the first records are read, and what is left is torn, or nothing. -/
theorem all_torn : ∀ (l : List (List UInt8)) (m : Nat), (∀ r ∈ l, bad r = false) → ∃ i, i ≤ l.length ∧ (Fr.all ((Fr.puts l).take m)).1 = l.take i ∧ ((Fr.all ((Fr.puts l).take m)).2.2 = 2 ∨ (Fr.all ((Fr.puts l).take m)).2.2 = 3)
  | [], m, _ => ⟨0, by simp, by simp [Fr.puts, Fr.all, Fr.allF], .inl (by rw [show (Fr.puts []).take m = [] by simp [Fr.puts]]; rfl)⟩
  | r :: l, m, h => by
    have hr := h r (List.mem_cons_self ..)
    obtain ⟨h1, h2⟩ := bad_no hr
    rw [puts_cons, put_good hr]
    by_cases hm : m < 8 + r.length
    · have hs := Fr.next_stop r (Fr.puts l) m h1 h2 hm
      have e := Fr.all_not ((Fr.frame r ++ Fr.puts l).take m) (by rw [hs]; simp only; split <;> omega)
      rw [e, hs]
      refine ⟨0, Nat.zero_le _, by simp, ?_⟩
      by_cases h0 : m = 0 <;> simp [h0]
    · obtain ⟨i, i1, i2, i3⟩ := all_torn l (m - (8 + r.length)) (fun x hx => h x (List.mem_cons_of_mem _ hx))
      have e : (Fr.frame r ++ Fr.puts l).take m = Fr.frame r ++ (Fr.puts l).take (m - (8 + r.length)) := by
        rw [List.take_append, List.take_of_length_le (by rw [Fr.frame_length]; omega), Fr.frame_length]
      rw [e, Fr.all_frame _ _ h1 h2]
      refine ⟨i + 1, by simp; omega, ?_, ?_⟩
      · simp [i2]
      · exact i3

/-! ### Operations at a file that there is -/
theorem trb_pos {tr : List Tr} {n : Nat} {k p : Int} (h : trouble tr n = some (k, p)) : 1 ≤ k ∧ k ≤ 3 := by
  unfold trouble at h
  cases hf : tr.find? (hits n) with
  | none => rw [hf] at h; cases h
  | some t =>
    rw [hf] at h
    have := List.find?_some hf
    simp only [hits, Bool.and_eq_true, decide_eq_true_eq] at this
    simp only [Option.map_some, Option.some.injEq] at h
    have e : t.2.1 = k := by rw [h]
    omega

/-- What an operation does: nothing at all, or all of it, or a part. -/
theorem op_ways (d : D) (k : Nat) (nm to : Name) (n : Int) (b : List UInt8) :
    ((op d k nm to n b).1 ≠ 0 ∧ (op d k nm to n b).2.fs = d.fs) ∨
    ((op d k nm to n b).1 = 0 ∧ refuse d k nm to n b = 0 ∧ (op d k nm to n b).2.fs = act d.fs k nm to n b) ∨
    ((op d k nm to n b).1 ≠ 0 ∧ refuse d k nm to n b = 0 ∧ ∃ p, (op d k nm to n b).2.fs = Dk.part d.fs k nm p b) := by
  unfold op
  split
  · exact .inl ⟨by simp, rfl⟩
  split
  · rename_i h
    exact .inl ⟨h, rfl⟩
  rename_i h
  have h' : refuse d k nm to n b = 0 := by omega
  split
  · exact .inr (.inl ⟨rfl, h', rfl⟩)
  · rename_i tk p ht
    have := trb_pos ht
    split
    · exact .inr (.inr ⟨by simp, h', p, rfl⟩)
    · exact .inr (.inr ⟨by simp only; omega, h', p, rfl⟩)

theorem app_get {d : D} {nm : Name} {f : Fl} (h : get d.fs nm = some f) (b : List UInt8) :
    ((op d 2 nm [] 0 b).1 = 0 ∧ get (op d 2 nm [] 0 b).2.fs nm = some ⟨f.data ++ b, f.safe⟩) ∨
    ((op d 2 nm [] 0 b).1 ≠ 0 ∧ ∃ m, get (op d 2 nm [] 0 b).2.fs nm = some ⟨f.data ++ b.take m, f.safe⟩) := by
  rcases op_ways d 2 nm [] 0 b with ⟨h1, h2⟩ | ⟨h1, _, h2⟩ | ⟨h1, _, p, h2⟩
  · exact .inr ⟨h1, 0, by rw [h2, h]; simp⟩
  · refine .inl ⟨h1, ?_⟩
    rw [h2]
    simp [act, get_upd, h]
  · refine .inr ⟨h1, p.toNat, ?_⟩
    rw [h2]
    simp [Dk.part, get_upd, h]
theorem sync_get {d : D} {nm : Name} {f : Fl} (h : get d.fs nm = some f) :
    ((op d 4 nm [] 0 []).1 = 0 ∧ get (op d 4 nm [] 0 []).2.fs nm = some ⟨f.data, f.data.length⟩) ∨
    ((op d 4 nm [] 0 []).1 ≠ 0 ∧ get (op d 4 nm [] 0 []).2.fs nm = some f) := by
  rcases op_ways d 4 nm [] 0 [] with ⟨h1, h2⟩ | ⟨h1, _, h2⟩ | ⟨h1, _, p, h2⟩
  · exact .inr ⟨h1, by rw [h2, h]⟩
  · refine .inl ⟨h1, ?_⟩
    rw [h2]
    simp [act, get_upd, h]
  · exact .inr ⟨h1, by rw [h2]; simp [Dk.part, h]⟩
theorem cut_get {d : D} {nm : Name} {f : Fl} (h : get d.fs nm = some f) (n : Nat) :
    ((op d 3 nm [] (n : Int) []).1 = 0 ∧ get (op d 3 nm [] (n : Int) []).2.fs nm = some ⟨f.data.take n, min f.safe n⟩) ∨
    ((op d 3 nm [] (n : Int) []).1 ≠ 0 ∧ get (op d 3 nm [] (n : Int) []).2.fs nm = some f) := by
  rcases op_ways d 3 nm [] (n : Int) [] with ⟨h1, h2⟩ | ⟨h1, _, h2⟩ | ⟨h1, _, p, h2⟩
  · exact .inr ⟨h1, by rw [h2, h]⟩
  · refine .inl ⟨h1, ?_⟩
    rw [h2]
    simp [act, get_upd, h]
  · exact .inr ⟨h1, by rw [h2]; simp [Dk.part, h]⟩

/-! ### What is kept -/

/-- A segment, behind some steps: its file's bytes are its head, the frames of the records kept, all safe, and something of others behind them. -/
structure Kp (d : D) (nm : Name) (hd : List UInt8) (s : S) (kept maybe : List (List UInt8)) : Prop where
  size : s.size = (hd ++ Fr.puts kept).length
  good : ∀ r ∈ kept, bad r = false
  goodm : ∀ r ∈ maybe, bad r = false
  file : ∃ f m, get d.fs nm = some f ∧ f.data = hd ++ Fr.puts kept ++ (Fr.puts maybe).take m ∧ (hd ++ Fr.puts kept).length ≤ f.safe ∧ f.safe ≤ f.data.length
  well : s.sick = false → maybe = []

theorem Kp.tr {d : D} {nm : Name} {hd : List UInt8} {s : S} {kept maybe : List (List UInt8)} (h : Kp d nm hd s kept maybe) (n : Nat) (dn : Bool) (tr : List Tr) : Kp { d with ops := n, down := dn, tr := tr } nm hd s kept maybe := ⟨h.size, h.good, h.goodm, h.file, h.well⟩

theorem appB_ways {d : D} {nm : Name} {f : Fl} (h : get d.fs nm = some f) (b : List UInt8) :
    ((appB d nm b).1 = 0 ∧ get (appB d nm b).2.fs nm = some ⟨f.data ++ b, (f.data ++ b).length⟩) ∨
    ((appB d nm b).1 ≠ 0 ∧ ∃ m, get (appB d nm b).2.fs nm = some ⟨f.data ++ b.take m, f.safe⟩) := by
  unfold appB
  rcases app_get h b with ⟨h1, h2⟩ | ⟨h1, m, h2⟩
  · rw [if_pos h1]
    rcases sync_get h2 with ⟨h3, h4⟩ | ⟨h3, h4⟩
    · exact .inl ⟨h3, h4⟩
    · exact .inr ⟨h3, b.length, by rw [h4, List.take_length]⟩
  · rw [if_neg h1]
    exact .inr ⟨h1, m, h2⟩

theorem Kp.append {d : D} {nm : Name} {hd : List UInt8} {s : S} {kept maybe : List (List UInt8)} (h : Kp d nm hd s kept maybe) (hs : s.sick = false) (l : List (List UInt8)) :
    ((append d nm s l).1.1 = 0 → Kp (append d nm s l).2 nm hd (append d nm s l).1.2 (kept ++ l) maybe) ∧
    ((append d nm s l).1.1 ≠ 0 → (append d nm s l).1.2.sick = true → Kp (append d nm s l).2 nm hd (append d nm s l).1.2 kept l) ∧
    ((append d nm s l).1.1 ≠ 0 → (append d nm s l).1.2.sick = false → Kp (append d nm s l).2 nm hd (append d nm s l).1.2 kept maybe) := by
  obtain rfl := h.well hs
  obtain ⟨f, m, hf, hdat, hsf, hle⟩ := h.file
  have hdat' : f.data = hd ++ Fr.puts kept := by rw [hdat]; simp [Fr.puts]
  have hsf' : f.safe = f.data.length := by rw [← hdat'] at hsf; omega
  unfold Sg.append
  rw [if_neg (by rw [hs]; decide)]
  by_cases hb : (l.isEmpty || l.any bad) = true
  · rw [if_pos hb]
    refine ⟨fun e => absurd (show (80 : Int) = 0 from e) (by decide), fun _ e => ?_, fun _ _ => h⟩
    rw [hs] at e
    cases e
  rw [if_neg hb]
  have hgood : ∀ r ∈ l, bad r = false := by
    intro r hr
    rw [Bool.or_eq_true, not_or] at hb
    have := hb.2
    rw [List.any_eq_true] at this
    cases hbr : bad r
    · rfl
    · exact absurd ⟨r, hr, hbr⟩ this
  unfold appC
  rcases appB_ways hf (Fr.puts l) with ⟨h1, h2⟩ | ⟨h1, m1, h2⟩
  · rw [if_neg (by omega)]
    refine ⟨fun _ => ⟨?_, ?_, fun r hr => (by cases hr), ⟨_, 0, h2, ?_, ?_, ?_⟩, fun _ => rfl⟩, fun e => absurd rfl e, fun e => absurd rfl e⟩
    · simp only
      rw [h.size, Fr.puts_append]
      simp only [List.length_append]
      omega
    · intro r hr
      rcases List.mem_append.1 hr with hr | hr
      · exact h.good r hr
      · exact hgood r hr
    · simp [hdat', Fr.puts_append]
    · rw [Fr.puts_append, hdat']
      simp [List.length_append]
    · exact Nat.le_refl _
  · rw [if_pos h1]
    unfold undo
    rcases cut_get h2 s.size with ⟨h3, h4⟩ | ⟨h3, h4⟩
    · refine ⟨fun e => absurd e h1, fun _ e => ?_, fun _ _ => ⟨h.size, h.good, fun r hr => (by cases hr), ⟨_, 0, h4, ?_, ?_, ?_⟩, fun _ => rfl⟩⟩
      · simp only at e
        rw [h3] at e
        cases e
      · simp only
        rw [h.size, ← hdat', List.take_append_of_le_length (Nat.le_refl _), List.take_length]
        simp
      · simp only
        rw [h.size, hsf', ← hdat']
        omega
      · simp only
        rw [h.size, ← hdat', List.length_take, List.length_append]
        omega
    · refine ⟨fun e => absurd e h1, fun _ _ => ⟨h.size, h.good, hgood, ⟨_, m1, h4, ?_, ?_, ?_⟩, fun e => ?_⟩, fun _ e => ?_⟩
      · simp only
        rw [hdat']
      · exact hsf
      · simp only
        rw [List.length_append]
        omega
      · simp only at e
        rw [decide_eq_false_iff_not] at e
        exact absurd h3 e
      · simp only at e
        rw [decide_eq_false_iff_not] at e
        exact absurd h3 e

/-- A disk on which all goes well. -/
theorem op_well {d : D} (hdn : d.down = false) (htr : d.tr = []) {k : Nat} {nm to : Name} {n : Int} {b : List UInt8} (hr : refuse d k nm to n b = 0) :
    op d k nm to n b = (0, { d with ops := d.ops + 1, fs := act d.fs k nm to n b }) := by
  unfold op
  rw [if_neg (by rw [hdn]; decide), if_neg (by omega), htr]
  rfl

theorem Kp.opened {d : D} {nm : Name} {hd : List UInt8} {s : S} {kept maybe : List (List UInt8)} (h : Kp d nm hd s kept maybe) (h12 : hd.length = 12) (tails : List Int) :
    (open_ (crash d tails) nm hd).1.1 = 0 ∧ ∃ i, i ≤ maybe.length ∧ (open_ (crash d tails) nm hd).1.2.1 = kept ++ maybe.take i := by
  obtain ⟨f, m, hf, hdat, hsf, hle⟩ := h.file
  obtain ⟨t, hg⟩ := get_crash tails 0 d.fs nm f hf
  have hg' : get (crash d tails).fs nm = some (keep f t) := hg
  unfold open_
  rw [hg']
  simp only
  obtain ⟨j, hj⟩ : ∃ j, (keep f t).data = hd ++ Fr.puts kept ++ (Fr.puts maybe).take j := by
    refine ⟨min (f.safe + keepN f t - (hd ++ Fr.puts kept).length) m, ?_⟩
    show f.data.take _ = _
    rw [hdat, List.take_append, List.take_of_length_le (by omega), List.take_take]
  have hall : (scan hd (keep f t).data).1 = kept ++ (Fr.all ((Fr.puts maybe).take j)).1 ∧ (scan hd (keep f t).data).2.1 = 12 + ((Fr.puts kept).length + (Fr.all ((Fr.puts maybe).take j)).2.1) ∧ (scan hd (keep f t).data).2.2 = (Fr.all ((Fr.puts maybe).take j)).2.2 := by
    have hlen : 12 ≤ (keep f t).data.length := by rw [hj]; simp only [List.length_append]; omega
    have e1 : (keep f t).data.take 12 = hd := by rw [hj, List.append_assoc, List.take_append_of_le_length (by omega), List.take_of_length_le (by omega)]
    have e2 : hd.take (keep f t).data.length = hd := List.take_of_length_le (by omega)
    have e3 : (keep f t).data.drop 12 = Fr.puts kept ++ (Fr.puts maybe).take j := by
      rw [hj, List.append_assoc, ← h12, List.drop_left]
    unfold scan
    rw [if_neg (by rw [e1, e2]; simp), if_neg (by omega), e3, Fr.all_puts _ _ (fun r hr => (bad_no (h.good r hr)).2), whole_good h.good]
    exact ⟨rfl, rfl, rfl⟩
  obtain ⟨i, i1, i2, i3⟩ := all_torn maybe j h.goodm
  obtain ⟨a1, a2, a3⟩ := hall
  have hst : (scan hd (keep f t).data).2.2 = 2 ∨ (scan hd (keep f t).data).2.2 = 3 := by rw [a3]; exact i3
  have hgl : (scan hd (keep f t).data).2.1 ≤ (keep f t).data.length := by
    rw [a2, hj]
    have := Fr.all_le ((Fr.puts maybe).take j)
    simp only [List.length_append]
    omega
  have hres : (openB (openA (crash d tails) nm (scan hd (keep f t).data)) nm).1 = 0 := by
    unfold openA
    split
    · have r3 : refuse (crash d tails) 3 nm [] ((scan hd (keep f t).data).2.1 : Int) [] = 0 := by
        unfold refuse
        rw [hg']
        simp
        omega
      rw [op_well rfl rfl r3]
      unfold openB
      rw [if_pos rfl]
      simp only
      rw [op_well rfl rfl]
      unfold refuse
      simp [act, get_upd, hg']
    · unfold openB
      rw [if_pos rfl]
      simp only
      rw [op_well rfl rfl]
      unfold refuse
      simp [hg']
  unfold openS openC
  rw [if_neg (by rw [a2]; omega), if_neg (by rw [hres]; simp)]
  exact ⟨rfl, i, i1, by rw [a1, i2]⟩
end Go.Proofs.YtfdpnjebhllpkaaGreatDoor.Sg
end

section
namespace Go.Proofs.YtfdpnjebhllpkaaGreatDoor.Mn
open Go Dk

/-- The temporary file's name. -/
def tmp : Name := [109, 97, 110, 46, 116, 109, 112]

/-- Steps, one behind the other, as long as all goes well. -/
def runW : List (D → Int × D) → D → Int × D
  | [], d => (0, d)
  | s :: r, d => if (s d).1 ≠ 0 then s d else runW r (s d).2
def wOps (b : List UInt8) (nm : Name) : List (D → Int × D) :=
  [fun d => op d 1 tmp [] 0 [], fun d => op d 2 tmp [] 0 b, fun d => op d 4 tmp [] 0 [], fun d => op d 5 tmp nm 0 []]
def dOps (there : Bool) : List (D → Int × D) := if there = true then [fun d => op d 6 tmp [] 0 []] else []
def write (d : D) (b : List UInt8) (nm : Name) : Int × D := runW (dOps (get d.fs tmp).isSome ++ wOps b nm) d

/-- Files are deleted, one behind the other, as long as all goes well. -/
def clean : List Name → D → Int × D
  | [], d => (0, d)
  | x :: r, d => if (op d 6 x [] 0 []).1 ≠ 0 then op d 6 x [] 0 [] else clean r (op d 6 x [] 0 []).2
def orphans (live : Name → Bool) (fs : Fs) : List Name := (fs.map (·.1)).filter fun x => !live x

/-! ### What the operations leave alone -/
theorem get_other (d : D) (k : Nat) (nm nt : Name) (n : Int) (b : List UInt8) {x : Name} (h1 : x ≠ nm) (h2 : k = 5 → x ≠ nt) : get (op d k nm nt n b).2.fs x = get d.fs x := by
  have h1' : nm ≠ x := fun e => h1 e.symm
  rcases Sg.op_ways d k nm nt n b with ⟨_, e⟩ | ⟨_, hr, e⟩ | ⟨_, _, p, e⟩
  · rw [e]
  · rw [e]
    unfold Dk.act
    split
    · rename_i k1
      unfold refuse at hr
      rw [if_pos k1] at hr
      have hn : ∀ p ∈ d.fs, p.1 ≠ nm := get_none' (by
        intro hs
        rw [if_pos hs] at hr
        split at hr <;> omega)
      rw [get_ins hn, if_neg h1']
    split
    · rw [get_upd, if_neg h1']
    split
    · rw [get_upd, if_neg h1']
    split
    · rw [get_upd, if_neg h1']
    split
    · rename_i k5
      have h2' : nt ≠ x := fun e => h2 k5 e.symm
      split
      · rfl
      · rw [get_ins (fun p hp => (del_mem.1 hp).2), if_neg h2', get_del, if_neg h2', get_del, if_neg h1']
    · rw [get_del, if_neg h1']
  · rw [e]
    unfold Dk.part
    split
    · rw [get_upd, if_neg h1']
    · rfl

/-- A Create, a Delete, a Rename: done, or nothing. -/
theorem create_get (d : D) (nm : Name) :
    ((op d 1 nm [] 0 []).1 = 0 ∧ get (op d 1 nm [] 0 []).2.fs nm = some ⟨[], 0⟩) ∨ ((op d 1 nm [] 0 []).1 ≠ 0 ∧ (op d 1 nm [] 0 []).2.fs = d.fs) := by
  rcases Sg.op_ways d 1 nm [] 0 [] with ⟨h, e⟩ | ⟨h, hr, e⟩ | ⟨h, _, p, e⟩
  · exact .inr ⟨h, e⟩
  · refine .inl ⟨h, ?_⟩
    rw [e]
    unfold Dk.act
    rw [if_pos rfl]
    unfold refuse at hr
    rw [if_pos rfl] at hr
    have hn : ∀ p ∈ d.fs, p.1 ≠ nm := get_none' (by
      intro hs
      rw [if_pos hs] at hr
      split at hr <;> omega)
    rw [get_ins hn, if_pos rfl]
  · exact .inr ⟨h, by rw [e]; rfl⟩
theorem delete_get (d : D) (nm : Name) :
    ((op d 6 nm [] 0 []).1 = 0 ∧ get (op d 6 nm [] 0 []).2.fs nm = none) ∨ ((op d 6 nm [] 0 []).1 ≠ 0 ∧ (op d 6 nm [] 0 []).2.fs = d.fs) := by
  rcases Sg.op_ways d 6 nm [] 0 [] with ⟨h, e⟩ | ⟨h, hr, e⟩ | ⟨h, _, p, e⟩
  · exact .inr ⟨h, e⟩
  · refine .inl ⟨h, ?_⟩
    rw [e]
    simp [Dk.act, get_del]
  · exact .inr ⟨h, by rw [e]; rfl⟩
theorem rename_ways {d : D} {nm nt : Name} {f : Fl} (hf : get d.fs nm = some f) (hne : nm ≠ nt) :
    ((op d 5 nm nt 0 []).1 = 0 ∧ get (op d 5 nm nt 0 []).2.fs nt = some f ∧ get (op d 5 nm nt 0 []).2.fs nm = none) ∨ ((op d 5 nm nt 0 []).1 ≠ 0 ∧ (op d 5 nm nt 0 []).2.fs = d.fs) := by
  rcases Sg.op_ways d 5 nm nt 0 [] with ⟨h, e⟩ | ⟨h, hr, e⟩ | ⟨h, _, p, e⟩
  · exact .inr ⟨h, e⟩
  · refine .inl ⟨h, ?_⟩
    rw [e]
    have ea : Dk.act d.fs 5 nm nt 0 [] = ins nt f (del nt (del nm d.fs)) := by simp [Dk.act, hf]
    rw [ea]
    exact ⟨rename_to, rename_from hne⟩
  · exact .inr ⟨h, by rw [e]; rfl⟩

/-- What a Write leaves: all of it is done, or no file but the temporary one has turned. -/
theorem wOps_ways (d : D) (b : List UInt8) {nm : Name} (hne : nm ≠ tmp) :
    ((runW (wOps b nm) d).1 = 0 ∧ get (runW (wOps b nm) d).2.fs nm = some ⟨b, b.length⟩ ∧ get (runW (wOps b nm) d).2.fs tmp = none ∧ ∀ x, x ≠ nm → x ≠ tmp → get (runW (wOps b nm) d).2.fs x = get d.fs x) ∨
    ((runW (wOps b nm) d).1 ≠ 0 ∧ ∀ x, x ≠ tmp → get (runW (wOps b nm) d).2.fs x = get d.fs x) := by
  have o1 : ∀ x, x ≠ tmp → get (op d 1 tmp [] 0 []).2.fs x = get d.fs x := fun x hx => get_other _ _ _ _ _ _ hx (fun e => absurd e (by decide))
  unfold wOps runW
  simp only
  rcases create_get d tmp with ⟨h1, g1⟩ | ⟨h1, g1⟩
  · rw [if_neg (by omega)]
    unfold runW
    simp only
    generalize (op d 1 tmp [] 0 []).2 = d1 at *
    have o2 : ∀ x, x ≠ tmp → get (op d1 2 tmp [] 0 b).2.fs x = get d.fs x := fun x hx => (get_other _ _ _ _ _ _ hx (fun e => absurd e (by decide))).trans (o1 x hx)
    rcases Sg.app_get g1 b with ⟨h2, g2⟩ | ⟨h2, _, g2⟩
    · rw [if_neg (by omega)]
      unfold runW
      simp only
      generalize (op d1 2 tmp [] 0 b).2 = d2 at *
      have o3 : ∀ x, x ≠ tmp → get (op d2 4 tmp [] 0 []).2.fs x = get d.fs x := fun x hx => (get_other _ _ _ _ _ _ hx (fun e => absurd e (by decide))).trans (o2 x hx)
      rcases Sg.sync_get g2 with ⟨h3, g3⟩ | ⟨h3, g3⟩
      · rw [if_neg (by omega)]
        unfold runW
        simp only
        generalize (op d2 4 tmp [] 0 []).2 = d3 at *
        rcases rename_ways g3 (fun e => hne e.symm) with ⟨h4, g4, g5⟩ | ⟨h4, g4⟩
        · rw [if_neg (by omega)]
          unfold runW
          refine .inl ⟨rfl, by rw [g4]; simp, g5, fun x hx hx2 => ?_⟩
          exact (get_other _ _ _ _ _ _ hx2 (fun _ => hx)).trans (o3 x hx2)
        · rw [if_pos h4]
          exact .inr ⟨h4, fun x hx => by rw [g4]; exact o3 x hx⟩
      · rw [if_pos h3]
        exact .inr ⟨h3, o3⟩
    · rw [if_pos h2]
      exact .inr ⟨h2, o2⟩
  · rw [if_pos h1]
    exact .inr ⟨h1, o1⟩
theorem write_ways (d : D) (b : List UInt8) {nm : Name} (hne : nm ≠ tmp) :
    ((write d b nm).1 = 0 ∧ get (write d b nm).2.fs nm = some ⟨b, b.length⟩ ∧ get (write d b nm).2.fs tmp = none ∧ ∀ x, x ≠ nm → x ≠ tmp → get (write d b nm).2.fs x = get d.fs x) ∨
    ((write d b nm).1 ≠ 0 ∧ ∀ x, x ≠ tmp → get (write d b nm).2.fs x = get d.fs x) := by
  unfold write dOps
  split
  · have o1 : ∀ x, x ≠ tmp → get (op d 6 tmp [] 0 []).2.fs x = get d.fs x := fun x hx => get_other _ _ _ _ _ _ hx (fun e => absurd e (by decide))
    show ((runW ((fun d => op d 6 tmp [] 0 []) :: wOps b nm) d).1 = 0 ∧ _) ∨ _
    rw [List.cons_append, List.nil_append]
    unfold runW
    simp only
    by_cases h : (op d 6 tmp [] 0 []).1 ≠ 0
    · rw [if_pos h]
      exact .inr ⟨h, o1⟩
    · rw [if_neg h]
      rcases wOps_ways (op d 6 tmp [] 0 []).2 b hne with ⟨a1, a2, a3, a4⟩ | ⟨a1, a2⟩
      · exact .inl ⟨a1, a2, a3, fun x hx hx2 => (a4 x hx hx2).trans (o1 x hx2)⟩
      · exact .inr ⟨a1, fun x hx => (a2 x hx).trans (o1 x hx)⟩
  · exact wOps_ways d b hne

/-! ### A disk on which all goes well -/
theorem run_step {s : D → Int × D} {r : List (D → Int × D)} {d d' : D} (h : s d = (0, d')) : runW (s :: r) d = runW r d' := by
  rw [runW, h]
  simp
theorem write_well {d : D} (hdn : d.down = false) (htr : d.tr = []) {b : List UInt8} {nm : Name} (hnm : may nm = true) (ht : get d.fs tmp = none) (hroom : used d.fs + b.length ≤ d.room) (hlen : d.fs.length < 64) :
    write d b nm = (0, { d with ops := d.ops + 4, fs := Dk.act (Dk.act (Dk.act (Dk.act d.fs 1 tmp [] 0 []) 2 tmp [] 0 b) 4 tmp [] 0 []) 5 tmp nm 0 [] }) := by
  have hn := get_none.1 ht
  unfold write dOps
  rw [ht]
  simp only [Option.isSome_none, Bool.false_eq_true, if_false, List.nil_append]
  have r1 : refuse d 1 tmp [] 0 [] = 0 := by
    unfold refuse
    rw [if_pos rfl, if_neg (by decide), ht, if_neg (by decide), if_neg (by omega)]
  have g1 : get (ins tmp ⟨[], 0⟩ d.fs) tmp = some ⟨[], 0⟩ := by rw [get_ins hn, if_pos rfl]
  have e1 : op d 1 tmp [] 0 [] = (0, { d with ops := d.ops + 1, fs := ins tmp ⟨[], 0⟩ d.fs }) := Sg.op_well hdn htr r1
  unfold wOps
  rw [run_step e1]
  have a2 : Dk.act (ins tmp ⟨[], 0⟩ d.fs) 2 tmp [] 0 b = upd tmp (fun f => ⟨f.data ++ b, f.safe⟩) (ins tmp ⟨[], 0⟩ d.fs) := rfl
  have g2 : get (Dk.act (ins tmp ⟨[], 0⟩ d.fs) 2 tmp [] 0 b) tmp = some ⟨b, 0⟩ := by rw [a2, get_upd, if_pos rfl, g1]; rfl
  have e2 : op { d with ops := d.ops + 1, fs := ins tmp ⟨[], 0⟩ d.fs } 2 tmp [] 0 b = (0, { d with ops := d.ops + 2, fs := Dk.act (ins tmp ⟨[], 0⟩ d.fs) 2 tmp [] 0 b }) :=
    Sg.op_well (d := { d with ops := d.ops + 1, fs := ins tmp ⟨[], 0⟩ d.fs }) hdn htr (by
      unfold refuse
      simp only
      rw [g1, used_ins]
      simp
      omega)
  rw [run_step e2]
  generalize hf2 : Dk.act (ins tmp ⟨[], 0⟩ d.fs) 2 tmp [] 0 b = f2 at g2
  have a3 : Dk.act f2 4 tmp [] 0 [] = upd tmp (fun f => ⟨f.data, f.data.length⟩) f2 := rfl
  have g3 : get (Dk.act f2 4 tmp [] 0 []) tmp = some ⟨b, b.length⟩ := by rw [a3, get_upd, if_pos rfl, g2]; rfl
  have e3 : op { d with ops := d.ops + 2, fs := f2 } 4 tmp [] 0 [] = (0, { d with ops := d.ops + 3, fs := Dk.act f2 4 tmp [] 0 [] }) :=
    Sg.op_well (d := { d with ops := d.ops + 2, fs := f2 }) hdn htr (by
      unfold refuse
      simp only
      rw [g2]
      simp)
  rw [run_step e3]
  generalize hf3 : Dk.act f2 4 tmp [] 0 [] = f3 at g3
  have e4 : op { d with ops := d.ops + 3, fs := f3 } 5 tmp nm 0 [] = (0, { d with ops := d.ops + 4, fs := Dk.act f3 5 tmp nm 0 [] }) :=
    Sg.op_well (d := { d with ops := d.ops + 3, fs := f3 }) hdn htr (by
      unfold refuse
      simp only
      rw [g3]
      simp [hnm])
  rw [run_step e4]
  have a1 : Dk.act d.fs 1 tmp [] 0 [] = ins tmp ⟨[], 0⟩ d.fs := rfl
  rw [a1, hf2, hf3]
  rfl

theorem filter_del_get (l : List Name) (fs : Fs) (x : Name) : (del x fs).filter (fun p => !(l.contains p.1)) = fs.filter (fun p => !((x :: l).contains p.1)) := by
  unfold del
  rw [List.filter_filter]
  apply List.filter_congr
  intro p _
  rw [List.contains_cons]
  cases (p.1 == x) <;> simp
theorem clean_well : ∀ (l : List Name) (d : D), d.down = false → d.tr = [] → l.Nodup → (∀ x ∈ l, (get d.fs x).isSome = true) →
    clean l d = (0, { d with ops := d.ops + l.length, fs := d.fs.filter fun p => !(l.contains p.1) })
  | [], d, _, _, _, _ => by
    unfold clean
    have : d.fs.filter (fun p => !(([] : List Name).contains p.1)) = d.fs := List.filter_eq_self.2 fun _ _ => by simp
    rw [this]
    rfl
  | x :: l, d, hdn, htr, hnd, hth => by
    obtain ⟨f, hf⟩ := Option.isSome_iff_exists.1 (hth x (List.mem_cons_self ..))
    have hr : refuse d 6 x [] 0 [] = 0 := by
      unfold refuse
      simp [hf]
    unfold clean
    rw [Sg.op_well hdn htr hr, if_neg (by simp)]
    have hac : Dk.act d.fs 6 x [] 0 [] = del x d.fs := rfl
    have hnd' := List.nodup_cons.1 hnd
    rw [clean_well l { d with ops := d.ops + 1, fs := Dk.act d.fs 6 x [] 0 [] } hdn htr hnd'.2 (fun y hy => by
      simp only
      rw [hac, get_del, if_neg (fun e : x = y => hnd'.1 (e ▸ hy))]
      exact hth y (List.mem_cons_of_mem _ hy))]
    simp only
    rw [hac, filter_del_get, List.length_cons]
    congr 2
    omega

/-! ### Orphans -/
theorem orph_contains {live : Name → Bool} {fs : Fs} {p : Name × Fl} (hp : p ∈ fs) : (orphans live fs).contains p.1 = !live p.1 := by
  rw [Bool.eq_iff_iff, List.contains_iff_mem]
  unfold orphans
  rw [List.mem_filter]
  exact ⟨fun h => h.2, fun h => ⟨List.mem_map.2 ⟨p, hp, rfl⟩, h⟩⟩
theorem clean_fs (live : Name → Bool) (fs : Fs) : fs.filter (fun p => !((orphans live fs).contains p.1)) = fs.filter fun p => live p.1 := by
  apply List.filter_congr
  intro p hp
  rw [orph_contains hp, Bool.not_not]
theorem orph_none (live : Name → Bool) (fs : Fs) : orphans live (fs.filter fun p => live p.1) = [] := by
  unfold orphans
  rw [List.filter_eq_nil_iff]
  intro x hx
  obtain ⟨p, hp, rfl⟩ := List.mem_map.1 hx
  have : live p.1 = true := (List.mem_filter.1 hp).2
  rw [this]
  decide
theorem orph_nodup {live : Name → Bool} {fs : Fs} (hU : Up fs) : (orphans live fs).Nodup := by
  have h : (fs.map (·.1)).Nodup := by
    unfold List.Nodup
    rw [List.pairwise_map]
    exact List.Pairwise.imp (fun h => before_ne h) hU
  exact List.Pairwise.filter _ h
theorem orph_there {live : Name → Bool} {fs : Fs} (hU : Up fs) : ∀ x ∈ orphans live fs, (get fs x).isSome = true := by
  intro x hx
  unfold orphans at hx
  obtain ⟨p, hp, rfl⟩ := List.mem_map.1 (List.mem_filter.1 hx).1
  rw [get_of_mem hU hp]
  rfl
end Go.Proofs.YtfdpnjebhllpkaaGreatDoor.Mn
end

section
namespace Go.Proofs.YtfdpnjebhllpkaaGreatDoor.Mn
open Go Dk

/-- What a manifest is, for a disk: its generation, its file's name, its bytes; which one a file holds, if any. -/
structure Cod (M : Type) where
  gen : M → Int
  name : M → Name
  enc : M → List UInt8
  cand : Name → List UInt8 → Option M
  ok : M → Prop

structure Cod.Good {M : Type} (C : Cod M) : Prop where
  enc_ : ∀ m, C.ok m → C.cand (C.name m) (C.enc m) = some m
  tmp_ : ∀ b, C.cand tmp b = none
  rise : ∀ x y b c m m', C.cand x b = some m → C.cand y c = some m' → bytesBefore x y = true → C.gen m < C.gen m'
  may_ : ∀ m, C.ok m → may (C.name m) = true
  ne : ∀ m, C.ok m → C.name m ≠ tmp
  same : ∀ m m', C.ok m → C.ok m' → (C.gen m = C.gen m' ↔ C.name m = C.name m')
  len : ∀ m, C.ok m → (C.enc m).length ≤ 300

section
variable {M : Type} {C : Cod M}

/-- The newest one. -/
def New (C : Cod M) (fs : Fs) : Option M → Prop
  | none => ∀ x f, get fs x = some f → C.cand x f.data = none
  | some m => ∃ x f, get fs x = some f ∧ C.cand x f.data = some m ∧ ∀ y g m', get fs y = some g → C.cand y g.data = some m' → C.gen m' ≤ C.gen m

theorem New.unique (hC : C.Good) {fs : Fs} : ∀ {r r' : Option M}, New C fs r → New C fs r' → r = r'
  | none, none, _, _ => rfl
  | none, some m, h, ⟨x, f, h1, h2, _⟩ => by rw [h x f h1] at h2; cases h2
  | some m, none, ⟨x, f, h1, h2, _⟩, h => by rw [h x f h1] at h2; cases h2
  | some m, some m', ⟨x, f, h1, h2, h3⟩, ⟨y, g, k1, k2, k3⟩ => by
    have a := h3 y g m' k1 k2
    have b := k3 x f m h1 h2
    by_cases e : x = y
    · subst e
      rw [h1] at k1
      injection k1 with k1
      subst k1
      rw [← h2, ← k2]
    · cases hb : bytesBefore x y
      · have := hC.rise _ _ _ _ _ _ k2 h2 (before_total hb e)
        omega
      · have := hC.rise _ _ _ _ _ _ h2 k2 hb
        omega

/-! ### A Write that is broken off -/
/-- The one is there, the other one perhaps; nothing else but the temporary file. -/
structure Sw (C : Cod M) (a b : M) (d : D) : Prop where
  only : ∀ x f, get d.fs x = some f → x = tmp ∨ x = C.name a ∨ x = C.name b
  one : get d.fs (C.name a) = some ⟨C.enc a, (C.enc a).length⟩
  two : get d.fs (C.name b) = none ∨ get d.fs (C.name b) = some ⟨C.enc b, (C.enc b).length⟩

theorem Sw.tr {a b : M} {d : D} (h : Sw C a b d) (n : Nat) (dn : Bool) (tr : List Tr) : Sw C a b { d with ops := n, down := dn, tr := tr } := ⟨h.only, h.one, h.two⟩

theorem Sw.write_ (hC : C.Good) {a b : M} {d : D} (h : Sw C a b d) (ha : C.ok a) (hb : C.ok b) (hab : C.gen a < C.gen b) :
    Sw C a b (write d (C.enc b) (C.name b)).2 ∧ ((write d (C.enc b) (C.name b)).1 = 0 → get (write d (C.enc b) (C.name b)).2.fs (C.name b) = some ⟨C.enc b, (C.enc b).length⟩) := by
  have hne : C.name a ≠ C.name b := fun e => by
    have := (hC.same a b ha hb).2 e
    omega
  rcases write_ways d (C.enc b) (hC.ne b hb) with ⟨h1, h2, h3, h4⟩ | ⟨h1, h2⟩
  · refine ⟨⟨fun x f hx => ?_, ?_, .inr h2⟩, fun _ => h2⟩
    · by_cases e1 : x = tmp
      · exact .inl e1
      · by_cases e2 : x = C.name b
        · exact .inr (.inr e2)
        · rw [h4 x e2 e1] at hx
          exact h.only x f hx
    · rw [h4 _ hne (hC.ne a ha)]
      exact h.one
  · refine ⟨⟨fun x f hx => ?_, ?_, ?_⟩, fun e => absurd e h1⟩
    · by_cases e1 : x = tmp
      · exact .inl e1
      · rw [h2 x e1] at hx
        exact h.only x f hx
    · rw [h2 _ (hC.ne a ha)]
      exact h.one
    · rw [h2 _ (hC.ne b hb)]
      exact h.two

theorem keep_all (b : List UInt8) (t : Option Int) : keep ⟨b, b.length⟩ t = ⟨b, b.length⟩ := by
  have h0 : keepN ⟨b, b.length⟩ t = 0 := by
    unfold keepN
    cases t with
    | none => rfl
    | some z => simp
  unfold keep
  rw [h0]
  simp
theorem get_crash_none (tails : List Int) : ∀ (i : Nat) (l : Fs) (nm : Name), get l nm = none → get (crashF tails i l) nm = none
  | _, [], _, _ => rfl
  | i, p :: l, nm, h => by
    rw [get_cons] at h
    rw [crashF, get_cons]
    split at h
    · cases h
    · rename_i hn
      rw [if_neg hn]
      exact get_crash_none tails (i + 1) l nm h
theorem Sw.crash_ {a b : M} {d : D} (h : Sw C a b d) (tails : List Int) : Sw C a b (crash d tails) ∧ (get d.fs (C.name b) = some ⟨C.enc b, (C.enc b).length⟩ → get (crash d tails).fs (C.name b) = some ⟨C.enc b, (C.enc b).length⟩) := by
  have hk : ∀ x b', get d.fs x = some ⟨b', b'.length⟩ → get (crash d tails).fs x = some ⟨b', b'.length⟩ := fun x b' hx => by
    obtain ⟨t, ht⟩ := get_crash tails 0 d.fs x _ hx
    rw [keep_all] at ht
    exact ht
  refine ⟨⟨fun x f hx => ?_, hk _ _ h.one, ?_⟩, hk _ _⟩
  · cases hg : get d.fs x with
    | none =>
      have := get_crash_none tails 0 d.fs x hg
      rw [show get (crashF tails 0 d.fs) x = get (crash d tails).fs x from rfl, hx] at this
      cases this
    | some g => exact h.only x g hg
  · rcases h.two with h2 | h2
    · exact .inl (get_crash_none tails 0 d.fs _ h2)
    · exact .inr (hk _ _ h2)

theorem Sw.newest (hC : C.Good) {a b : M} {d : D} (h : Sw C a b d) (ha : C.ok a) (hb : C.ok b) (hab : C.gen a < C.gen b) {r : Option M} (hr : New C d.fs r) :
    (get d.fs (C.name b) = some ⟨C.enc b, (C.enc b).length⟩ → r = some b) ∧ (r = some b ∨ r = some a) := by
  have hne : C.name a ≠ C.name b := fun e => by
    have := (hC.same a b ha hb).2 e
    omega
  have hle : ∀ y g m', get d.fs y = some g → C.cand y g.data = some m' → m' = a ∨ (m' = b ∧ get d.fs (C.name b) = some ⟨C.enc b, (C.enc b).length⟩) := fun y g m' hy hm => by
    rcases h.only y g hy with e | e | e
    · subst e
      rw [hC.tmp_] at hm
      cases hm
    · subst e
      rw [h.one] at hy
      injection hy with hy
      subst hy
      rw [hC.enc_ a ha] at hm
      injection hm with hm
      exact .inl hm.symm
    · subst e
      rcases h.two with h2 | h2
      · rw [h2] at hy
        cases hy
      · rw [h2] at hy
        injection hy with hy
        subst hy
        rw [hC.enc_ b hb] at hm
        injection hm with hm
        exact .inr ⟨hm.symm, h2⟩
  rcases h.two with h2 | h2
  · have : New C d.fs (some a) := ⟨_, _, h.one, hC.enc_ a ha, fun y g m' hy hm => by
      rcases hle y g m' hy hm with e | ⟨_, e⟩
      · rw [e]; exact Int.le_refl _
      · rw [h2] at e; cases e⟩
    have := hr.unique hC this
    exact ⟨fun e => (by rw [h2] at e; cases e), .inr this⟩
  · have : New C d.fs (some b) := ⟨_, _, h2, hC.enc_ b hb, fun y g m' hy hm => by
      rcases hle y g m' hy hm with e | ⟨e, _⟩
      · rw [e]; omega
      · rw [e]; exact Int.le_refl _⟩
    have := hr.unique hC this
    exact ⟨fun _ => this, .inl this⟩

/-! ### Many that are written -/
/-- Behind k Writes, best being the one of the greatest generation. -/
structure Gr (C : Cod M) (k : Nat) (best : Option M) (d : D) : Prop where
  inv : Dk.Inv d
  down : d.down = false
  tr : d.tr = []
  room : d.room = 65536
  tmp_ : get d.fs tmp = none
  len : d.fs.length ≤ k
  ops : d.ops ≤ 4 * k
  all : ∀ x f, get d.fs x = some f → ∃ m, C.ok m ∧ x = C.name m ∧ f.data = C.enc m ∧ ∃ m0, best = some m0 ∧ C.gen m ≤ C.gen m0
  best : ∀ m, best = some m → C.ok m ∧ get d.fs (C.name m) = some ⟨C.enc m, (C.enc m).length⟩

/-- The one of the greatest generation, the last one written of it. -/
def better (C : Cod M) (best : Option M) (m : M) : Option M := match best with
  | none => some m
  | some m0 => if C.gen m0 ≤ C.gen m then some m else some m0

theorem used_le {n : Nat} : ∀ (fs : Fs), (∀ p ∈ fs, p.2.data.length ≤ n) → used fs ≤ fs.length * n
  | [], _ => by simp [used]
  | p :: fs, h => by
    have h1 := h p (List.mem_cons_self ..)
    have h2 := used_le fs fun q hq => h q (List.mem_cons_of_mem _ hq)
    rw [used_cons, List.length_cons, Nat.succ_mul]
    omega

theorem Gr.newest (hC : C.Good) {k : Nat} {best : Option M} {d : D} (h : Gr C k best d) {r : Option M} (hr : New C d.fs r) : r = best := by
  refine hr.unique hC ?_
  cases hb : best with
  | none =>
    intro x f hx
    obtain ⟨_, _, _, _, m0, e, _⟩ := h.all x f hx
    rw [hb] at e
    cases e
  | some m =>
    obtain ⟨h1, h2⟩ := h.best m hb
    refine ⟨_, _, h2, hC.enc_ m h1, fun y g m' hy hm => ?_⟩
    obtain ⟨m2, k1, rfl, k2, m0, k3, k4⟩ := h.all y g hy
    rw [k2, hC.enc_ m2 k1] at hm
    injection hm with hm
    subst hm
    rw [hb] at k3
    injection k3 with k3
    subst k3
    exact k4

theorem act_len {d : D} {b : List UInt8} {nm : Name} (ht : get d.fs tmp = none) :
    (Dk.act (Dk.act (Dk.act (Dk.act d.fs 1 tmp [] 0 []) 2 tmp [] 0 b) 4 tmp [] 0 []) 5 tmp nm 0 []).length ≤ d.fs.length + 1 := by
  have hn := get_none.1 ht
  have a1 : Dk.act d.fs 1 tmp [] 0 [] = ins tmp ⟨[], 0⟩ d.fs := rfl
  have g1 : get (ins tmp ⟨[], 0⟩ d.fs) tmp = some ⟨[], 0⟩ := by rw [get_ins hn, if_pos rfl]
  rw [a1]
  have a2 : Dk.act (ins tmp ⟨[], 0⟩ d.fs) 2 tmp [] 0 b = upd tmp (fun f => ⟨f.data ++ b, f.safe⟩) (ins tmp ⟨[], 0⟩ d.fs) := rfl
  have g2 : get (Dk.act (ins tmp ⟨[], 0⟩ d.fs) 2 tmp [] 0 b) tmp = some ⟨b, 0⟩ := by rw [a2, get_upd, if_pos rfl, g1]; rfl
  have l2 : (Dk.act (ins tmp ⟨[], 0⟩ d.fs) 2 tmp [] 0 b).length = d.fs.length + 1 := by rw [a2, upd_len, ins_len]
  generalize Dk.act (ins tmp ⟨[], 0⟩ d.fs) 2 tmp [] 0 b = f2 at g2 l2
  have a3 : Dk.act f2 4 tmp [] 0 [] = upd tmp (fun f => ⟨f.data, f.data.length⟩) f2 := rfl
  have g3 : get (Dk.act f2 4 tmp [] 0 []) tmp = some ⟨b, b.length⟩ := by rw [a3, get_upd, if_pos rfl, g2]; rfl
  have l3 : (Dk.act f2 4 tmp [] 0 []).length = d.fs.length + 1 := by rw [a3, upd_len, l2]
  generalize Dk.act f2 4 tmp [] 0 [] = f3 at g3 l3
  have a4 : Dk.act f3 5 tmp nm 0 [] = ins nm ⟨b, b.length⟩ (del nm (del tmp f3)) := by simp [Dk.act, g3]
  rw [a4, ins_len]
  have h1 := del_len_lt g3
  have h2 := del_len nm (del tmp f3)
  omega

theorem inv_write {d : D} (h : Dk.Inv d) (b : List UInt8) (nm : Name) : Dk.Inv (write d b nm).2 := by
  have hr : ∀ (l : List (D → Int × D)) (d : D), (∀ s ∈ l, ∀ d, Dk.Inv d → Dk.Inv (s d).2) → Dk.Inv d → Dk.Inv (runW l d).2 := by
    intro l
    induction l with
    | nil => exact fun d _ h => h
    | cons s l ih =>
      intro d hs h
      unfold runW
      have := hs s (List.mem_cons_self ..) d h
      split
      · exact this
      · exact ih _ (fun s' h' => hs s' (List.mem_cons_of_mem _ h')) this
  refine hr _ d (fun s hs d hd => ?_) h
  rcases List.mem_append.1 hs with hs | hs
  · unfold dOps at hs
    split at hs
    · rw [List.mem_singleton] at hs
      rw [hs]
      exact inv_op hd ..
    · cases hs
  · unfold wOps at hs
    simp only [List.mem_cons, List.not_mem_nil, or_false] at hs
    rcases hs with rfl | rfl | rfl | rfl <;> exact inv_op hd ..

theorem Gr.write_ (hC : C.Good) {k : Nat} {best : Option M} {d : D} (h : Gr C k best d) (hk : k < 60) {m : M} (hm : C.ok m) :
    (write d (C.enc m) (C.name m)).1 = 0 ∧ Gr C (k + 1) (better C best m) (write d (C.enc m) (C.name m)).2 := by
  have hlen : ∀ p ∈ d.fs, p.2.data.length ≤ 300 := fun p hp => by
    obtain ⟨m', h1, _, h2, _⟩ := h.all p.1 p.2 (get_of_mem h.inv.up hp)
    rw [h2]
    exact hC.len m' h1
  have hus := used_le d.fs hlen
  have hl := h.len
  have hw := write_well h.down h.tr (hC.may_ m hm) h.tmp_ (b := C.enc m) (by rw [h.room]; have := hC.len m hm; omega) (by omega)
  have hc : (write d (C.enc m) (C.name m)).1 = 0 := by rw [hw]
  refine ⟨hc, ?_⟩
  rcases write_ways d (C.enc m) (hC.ne m hm) with ⟨_, h2, h3, h4⟩ | ⟨h1, _⟩
  · have hops := h.ops
    refine ⟨inv_write h.inv _ _, by rw [hw]; exact h.down, by rw [hw]; exact h.tr, by rw [hw]; exact h.room, h3, by rw [hw]; have := act_len (b := C.enc m) (nm := C.name m) h.tmp_; simp only; omega, by rw [hw]; simp only; omega, fun x f hx => ?_, fun m' hm' => ?_⟩
    · by_cases e : x = C.name m
      · subst e
        rw [h2] at hx
        injection hx with hx
        subst hx
        refine ⟨m, hm, rfl, rfl, ?_⟩
        cases hb : best with
        | none => exact ⟨m, rfl, Int.le_refl _⟩
        | some m0 =>
          by_cases hg : C.gen m0 ≤ C.gen m
          · exact ⟨m, by simp [better, hg], Int.le_refl _⟩
          · exact ⟨m0, by simp [better, hg], by omega⟩
      · have e2 : x ≠ tmp := fun e2 => by
          rw [e2, h3] at hx
          cases hx
        rw [h4 x e e2] at hx
        obtain ⟨m', k1, k2, k3, m0, k4, k5⟩ := h.all x f hx
        refine ⟨m', k1, k2, k3, ?_⟩
        rw [k4]
        by_cases hg : C.gen m0 ≤ C.gen m
        · exact ⟨m, by simp [better, hg], by omega⟩
        · exact ⟨m0, by simp [better, hg], k5⟩
    · cases hb : best with
      | none =>
        rw [hb] at hm'
        injection hm' with hm'
        subst hm'
        exact ⟨hm, h2⟩
      | some m0 =>
        rw [hb] at hm'
        unfold better at hm'
        simp only at hm'
        split at hm'
        · injection hm' with hm'
          subst hm'
          exact ⟨hm, h2⟩
        · rename_i hg
          injection hm' with hm'
          subst hm'
          obtain ⟨k1, k2⟩ := h.best m0 hb
          refine ⟨k1, ?_⟩
          rw [h4 _ (fun e => hg (by rw [(hC.same m0 m k1 hm).2 e]; exact Int.le_refl _)) (hC.ne m0 k1)]
          exact k2
  · exact absurd hc h1
end
end Go.Proofs.YtfdpnjebhllpkaaGreatDoor.Mn
end
