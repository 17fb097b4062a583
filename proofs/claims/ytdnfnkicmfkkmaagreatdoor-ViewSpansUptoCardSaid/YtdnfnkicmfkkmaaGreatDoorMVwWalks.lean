/- The walks of the laws over tables. -/
import Derived.Test.YtdnfnkicmfkkmaaGreatDoorMVwSl
import Derived.Test.YtdnfnkicmfkkmaaGreatDoorMKyRb
import Derived.Test.YtdnfnkicmfkkmaaGreatDoorMItoaS
import Derived.Test.YtdnfnkicmfkkmaaGreatDoorMKyRm
import Derived.Test.YtdnfnkicmfkkmaaGreatDoorMNoOrd
import Derived.Test.YtdnfnkicmfkkmaaGreatDoorMArParts
import Derived.Test.YtdnfnkicmfkkmaaGreatDoorMErrItoa
import Derived.Test.YtdnfnkicmfkkmaaGreatDoorRows
import Derived.Lib.LaidU8T
import Derived.LaidLaws
import Derived.LaidHandle
import Derived.LaidSub
import Derived.Lib.LaidTab
import Derived.Lib.LaidIn
import Derived.Shelf.Strings.SplitShaped
import Derived.Test.YtdnfnkicmfkkmaaGreatDoorMKyRd
import Derived.Test.YtdnfnkicmfkkmaaGreatDoorMStrLaws
import Derived.Lib.SmallJoins
import Derived.OpenShut
import Derived.SliceStrings
import Derived.Test.YtdnfnkicmfkkmaaGreatDoorMKyLine
set_option linter.unusedVariables false
set_option linter.unusedSimpArgs false
section
namespace Go.Proofs.YtdnfnkicmfkkmaaGreatDoor.Vw
open Go.RowKit UtfW Xl Xt Xo No
open Go.Proofs.YtdnfnkicmfkkmaaGreatDoor (Ky.frontB Ky.Rl Ky.join Ky.okb Ky.ok_ne Ky.names)

/-! ### Steps are told apart -/
def Tail (s : Tx) : Prop := s = [] ∨ ∃ u, s = 47 :: u
theorem cut_same {P : UInt8 → Prop} : ∀ {x y s r : Tx}, (∀ b ∈ x, ¬ P b) → (∀ b ∈ y, ¬ P b) → (∀ b, s.head? = some b → P b) → (∀ b, r.head? = some b → P b) → x ++ s = y ++ r → x = y ∧ s = r
 | [], [], s, r, _, _, _, _, e => ⟨rfl, e⟩
 | [], b :: y, s, r, _, hy, hs, _, e => by
  exfalso
  simp only [List.nil_append, List.cons_append] at e
  exact hy b (by simp) (hs b (by rw [e]; rfl))
 | a :: x, [], s, r, hx, _, _, hr, e => by
  exfalso
  simp only [List.nil_append, List.cons_append] at e
  exact hx a (by simp) (hr a (by rw [← e]; rfl))
 | a :: x, b :: y, s, r, hx, hy, hs, hr, e => by
  simp only [List.cons_append, List.cons.injEq] at e
  obtain ⟨h1, h2⟩ := cut_same (fun c hc => hx c (by simp [hc])) (fun c hc => hy c (by simp [hc])) hs hr e.2
  exact ⟨by rw [e.1, h1], h2⟩
theorem Tail.head {s : Tx} (h : Tail s) : ∀ b, s.head? = some b → b = 47 := by
 rcases h with rfl | ⟨u, rfl⟩
 ·intro b hb; simp at hb
 ·intro b hb; simpa using hb.symm
theorem tail_same {x y s r : Tx} (hx : 47 ∉ x) (hy : 47 ∉ y) (hs : Tail s) (hr : Tail r) (e : x ++ s = y ++ r) : x = y ∧ s = r :=
 cut_same (P := fun b => b = 47) (fun b hb he => hx (he ▸ hb)) (fun b hb he => hy (he ▸ hb)) hs.head hr.head e
def endB (b : UInt8) : Prop := b = 44 ∨ b = 125
theorem esc1_ways (c : UInt8) : (esc1 c = [92, c] ∧ (c = 92 ∨ c = 123 ∨ c = 125 ∨ c = 44 ∨ c = 47)) ∨ (esc1 c = [c] ∧ c ≠ 92 ∧ c ≠ 123 ∧ c ≠ 125 ∧ c ≠ 44 ∧ c ≠ 47) := by
 unfold esc1
 split
 ·rename_i h; exact .inl ⟨rfl, h⟩
 ·rename_i h
  simp only [not_or] at h
  exact .inr ⟨rfl, h⟩
theorem escV_same : ∀ {a b r s : Tx}, (∃ c r', r = c :: r' ∧ endB c) → (∃ c s', s = c :: s' ∧ endB c) → escV a ++ r = escV b ++ s → a = b ∧ r = s
 | [], [], r, s, _, _, e => ⟨rfl, e⟩
 | [], d :: b, r, s, hr, _, e => by
  exfalso
  obtain ⟨c, r', rfl, hc⟩ := hr
  simp only [escV, List.flatMap_nil, List.flatMap_cons, List.nil_append, List.append_assoc] at e
  rcases esc1_ways d with ⟨h, _⟩ | ⟨h, h1, h2, h3, h4, h5⟩
  ·rw [h] at e
   simp only [List.cons_append, List.cons.injEq] at e
   rw [e.1] at hc
   rcases hc with hc | hc <;> simp at hc
  ·rw [h] at e
   simp only [List.cons_append, List.cons.injEq] at e
   rw [e.1] at hc
   rcases hc with hc | hc
   ·exact h4 hc
   ·exact h3 hc
 | d :: a, [], r, s, hr, hs, e => by
  exfalso
  obtain ⟨c, s', rfl, hc⟩ := hs
  simp only [escV, List.flatMap_nil, List.flatMap_cons, List.nil_append, List.append_assoc] at e
  rcases esc1_ways d with ⟨h, _⟩ | ⟨h, h1, h2, h3, h4, h5⟩
  ·rw [h] at e
   simp only [List.cons_append, List.cons.injEq] at e
   rw [← e.1] at hc
   rcases hc with hc | hc <;> simp at hc
  ·rw [h] at e
   simp only [List.cons_append, List.cons.injEq] at e
   rw [← e.1] at hc
   rcases hc with hc | hc
   ·exact h4 hc
   ·exact h3 hc
 | c :: a, d :: b, r, s, hr, hs, e => by
  have e2 : esc1 c ++ (escV a ++ r) = esc1 d ++ (escV b ++ s) := by
   simpa only [escV, List.flatMap_cons, List.append_assoc] using e
  have hcd : c = d ∧ escV a ++ r = escV b ++ s := by
   rcases esc1_ways c with ⟨h, hc⟩ | ⟨h, h1, h2, h3, h4, h5⟩ <;> rcases esc1_ways d with ⟨g, hd⟩ | ⟨g, g1, g2, g3, g4, g5⟩ <;> rw [h, g] at e2 <;> simp only [List.cons_append, List.nil_append, List.cons.injEq] at e2
   ·exact e2.2
   ·exact absurd e2.1.symm g1
   ·exact absurd e2.1 h1
   ·exact e2
  obtain ⟨rfl, h2⟩ := hcd
  obtain ⟨rfl, h3⟩ := escV_same hr hs h2
  exact ⟨rfl, h3⟩
theorem joinV_same : ∀ {l m : List Tx} {r s : Tx}, l ≠ [] → m ≠ [] → Ky.join [44] (l.map escV) ++ 125 :: r = Ky.join [44] (m.map escV) ++ 125 :: s → l = m ∧ r = s
 | [], _, _, _, h, _, _ => absurd rfl h
 | _, [], _, _, _, h, _ => absurd rfl h
 | [a], [b], r, s, _, _, e => by
  obtain ⟨rfl, h⟩ := escV_same ⟨125, r, rfl, .inr rfl⟩ ⟨125, s, rfl, .inr rfl⟩ (by simpa [Ky.join] using e)
  exact ⟨rfl, by simpa using h⟩
 | [a], b :: b2 :: m, r, s, _, _, e => by
  exfalso
  obtain ⟨_, h⟩ := escV_same (r := 125 :: r) (s := 44 :: (Ky.join [44] ((b2 :: m).map escV) ++ 125 :: s)) ⟨125, r, rfl, .inr rfl⟩ ⟨44, _, rfl, .inl rfl⟩ (by simpa [Ky.join] using e)
  simp at h
 | a :: a2 :: l, [b], r, s, _, _, e => by
  exfalso
  obtain ⟨_, h⟩ := escV_same (r := 44 :: (Ky.join [44] ((a2 :: l).map escV) ++ 125 :: r)) (s := 125 :: s) ⟨44, _, rfl, .inl rfl⟩ ⟨125, s, rfl, .inr rfl⟩ (by simpa [Ky.join] using e)
  simp at h
 | a :: a2 :: l, b :: b2 :: m, r, s, _, _, e => by
  obtain ⟨rfl, h⟩ := escV_same (r := 44 :: (Ky.join [44] ((a2 :: l).map escV) ++ 125 :: r)) (s := 44 :: (Ky.join [44] ((b2 :: m).map escV) ++ 125 :: s)) ⟨44, _, rfl, .inl rfl⟩ ⟨44, _, rfl, .inl rfl⟩ (by simpa [Ky.join] using e)
  obtain ⟨h2, h3⟩ := joinV_same (l := a2 :: l) (m := b2 :: m) (by simp) (by simp) (by simpa using h)
  exact ⟨by rw [h2], h3⟩
def Nam (x : Tx) : Prop := x ≠ [] ∧ ∀ b ∈ x, b ≠ 47 ∧ b ≠ 123 ∧ b ≠ 35 ∧ b ≠ 64
theorem nam_of {x : Tx} (h : nameR x = true) : Nam x := by
 obtain ⟨h1, h2⟩ := Ky.names x h
 exact ⟨h1, fun b hb => by
  obtain ⟨g1, g2, _, _, _, g6, g7, _⟩ := Ky.ok_ne (h2 b hb)
  exact ⟨g1, g2, g6, g7⟩⟩
theorem endS_same {a b : Stp} {s r : Tx} (ha : Nam a.1) (hb : Nam b.1) (hs : Tail s) (hr : Tail r) (e : endS a ++ s = endS b ++ r) : a = b ∧ s = r := by
 obtain ⟨n, k⟩ := a
 obtain ⟨m, j⟩ := b
 have hx : ∃ x, endS (n, k) ++ s = n ++ x ∧ (k = [] → x = s) ∧ (k ≠ [] → x = 123 :: (Ky.join [44] (k.map escV) ++ 125 :: s)) := by
  unfold endS
  by_cases hk : k = []
  ·exact ⟨s, by simp [hk], fun _ => rfl, fun h => absurd hk h⟩
  ·exact ⟨_, by simp [hk], fun h => absurd h hk, fun _ => rfl⟩
 have hy : ∃ x, endS (m, j) ++ r = m ++ x ∧ (j = [] → x = r) ∧ (j ≠ [] → x = 123 :: (Ky.join [44] (j.map escV) ++ 125 :: r)) := by
  unfold endS
  by_cases hk : j = []
  ·exact ⟨r, by simp [hk], fun _ => rfl, fun h => absurd hk h⟩
  ·exact ⟨_, by simp [hk], fun h => absurd h hk, fun _ => rfl⟩
 obtain ⟨x, ex, x1, x2⟩ := hx
 obtain ⟨y, ey, y1, y2⟩ := hy
 rw [ex, ey] at e
 have hhx : ∀ c, x.head? = some c → c = 47 ∨ c = 123 := fun c hc => by
  by_cases hk : k = []
  ·rw [x1 hk] at hc; exact .inl (hs.head c hc)
  ·rw [x2 hk] at hc; right; simpa using hc.symm
 have hhy : ∀ c, y.head? = some c → c = 47 ∨ c = 123 := fun c hc => by
  by_cases hk : j = []
  ·rw [y1 hk] at hc; exact .inl (hr.head c hc)
  ·rw [y2 hk] at hc; right; simpa using hc.symm
 obtain ⟨rfl, rfl⟩ := cut_same (P := fun c => c = 47 ∨ c = 123) (fun c hc h => by have := ha.2 c hc; rcases h with h | h <;> simp [h] at this) (fun c hc h => by have := hb.2 c hc; rcases h with h | h <;> simp [h] at this) hhx hhy e
 by_cases hk : k = [] <;> by_cases hj : j = []
 ·subst hk hj
  exact ⟨rfl, by rw [← x1 rfl, y1 rfl]⟩
 ·exfalso
  have e1 := x1 hk
  rw [y2 hj] at e1
  have := hs.head 123 (by rw [← e1]; rfl)
  simp at this
 ·exfalso
  have e1 := y1 hj
  rw [x2 hk] at e1
  have := hr.head 123 (by rw [← e1]; rfl)
  simp at this
 ·have e1 := x2 hk
  rw [y2 hj] at e1
  obtain ⟨h1, h2⟩ := joinV_same hj hk (by simpa using e1)
  exact ⟨by rw [h1], h2.symm⟩
theorem dec_ne (n : Nat) : Lib.decDigits n ≠ [] := by
 rw [Lib.decDigits]
 split <;> simp
theorem dec_low : ∀ (n : Nat), ∀ b ∈ Lib.decDigits n, 48 ≤ b.toNat ∧ b.toNat ≤ 57 := by
 intro n
 induction n using Nat.strongRecOn with
 | ind n ih =>
  intro b hb
  rw [Lib.decDigits] at hb
  split at hb
  ·rename_i h
   obtain rfl : b = UInt8.ofNat (48 + n) := by simpa using hb
   rw [UInt8.toNat_ofNat']
   omega
  ·rename_i h
   rcases List.mem_append.1 hb with hb | hb
   ·exact ih (n / 10) (by omega) b hb
   ·obtain rfl : b = UInt8.ofNat (48 + n % 10) := by simpa using hb
    rw [UInt8.toNat_ofNat']
    omega
theorem dec_inj : ∀ {n m : Nat}, Lib.decDigits n = Lib.decDigits m → n = m := by
 intro n
 induction n using Nat.strongRecOn with
 | ind n ih =>
  intro m e
  rw [Lib.decDigits.eq_1 n, Lib.decDigits.eq_1 m] at e
  have hb : ∀ a b : Nat, a < 10 → b < 10 → UInt8.ofNat (48 + a) = UInt8.ofNat (48 + b) → a = b := fun a b ha hb e => by
   have := congrArg UInt8.toNat e
   rw [UInt8.toNat_ofNat', UInt8.toNat_ofNat'] at this
   omega
  split at e <;> split at e
  ·exact hb _ _ (by omega) (by omega) (by simpa using e)
  ·exfalso
   have := congrArg List.length e
   simp only [List.length_append, List.length_cons, List.length_nil] at this
   exact dec_ne (m / 10) (List.eq_nil_of_length_eq_zero (by omega))
  ·exfalso
   have := congrArg List.length e
   simp only [List.length_append, List.length_cons, List.length_nil] at this
   exact dec_ne (n / 10) (List.eq_nil_of_length_eq_zero (by omega))
  ·obtain ⟨h1, h2⟩ := List.append_inj' e rfl
   have := ih (n / 10) (by omega) h1
   have := hb (n % 10) (m % 10) (by omega) (by omega) (by simpa using h2)
   omega
theorem dec_no (n : Nat) : 47 ∉ Lib.decDigits n := fun h => by
 have := dec_low n 47 h
 simp at this

/-! ### Paths below a path -/
structure Pa (a p : Nat) (path : Tx) (rows : List Q) : Prop where
 up : ∀ (i : Nat) (x : Q), rows[i]? = some x → (x.parent = p ∧ ∃ u, u ≠ [] ∧ x.path = path ++ 47 :: u) ∨ ∃ (j : Nat) (y : Q), j < i ∧ rows[j]? = some y ∧ x.parent = ((a + j : Nat) : Int) ∧ ∃ u, x.path = y.path ++ 47 :: u
theorem Pa.append {a p : Nat} {path : Tx} {r1 r2 : List Q} (h1 : Pa a p path r1) (h2 : Pa (a + r1.length) p path r2) : Pa a p path (r1 ++ r2) := by
 refine ⟨fun i x hi => ?_⟩
 rcases Nat.lt_or_ge i r1.length with hl | hl
 ·rw [List.getElem?_append_left hl] at hi
  rcases h1.up i x hi with h | ⟨j, y, hj, hy, e, hu⟩
  ·exact .inl h
  ·exact .inr ⟨j, y, hj, by rw [List.getElem?_append_left (by omega)]; exact hy, e, hu⟩
 ·rw [List.getElem?_append_right hl] at hi
  rcases h2.up _ x hi with h | ⟨j, y, hj, hy, e, hu⟩
  ·exact .inl h
  ·refine .inr ⟨r1.length + j, y, by omega, ?_, by rw [e]; congr 1; omega, hu⟩
   rw [List.getElem?_append_right (by omega), show r1.length + j - r1.length = j by omega]
   exact hy
theorem Pa.cons {a p : Nat} {path : Tx} {x : Q} {rows : List Q} (hx : x.parent = p) (u : Tx) (hu : u ≠ []) (hpath : x.path = path ++ 47 :: u) (h : Pa (a + 1) a x.path rows) : Pa a p path (x :: rows) := by
 refine ⟨fun i y hi => ?_⟩
 cases i with
 | zero => simp at hi; subst hi; exact .inl ⟨hx, u, hu, hpath⟩
 | succ i =>
  rw [List.getElem?_cons_succ] at hi
  rcases h.up i y hi with ⟨e, v, _, hv⟩ | ⟨j, q, hj, hq, e, hv⟩
  ·exact .inr ⟨0, x, by omega, rfl, by rw [e]; simp, v, hv⟩
  ·exact .inr ⟨j + 1, q, by omega, by rw [List.getElem?_cons_succ]; exact hq, by rw [e]; congr 1; omega, hv⟩
def attrStep (a : At) : Tx := 64 :: a.1
theorem attr_path (p : Nat) (path : Tx) : ∀ (n : Nat) (l : List At) (q : Q), q ∈ attrRows p path n l → ∃ a ∈ l, q.path = path ++ 47 :: attrStep a
 | _, [], q, h => by simp [attrRows] at h
 | n, a :: l, q, h => by
  unfold attrRows at h
  rcases List.mem_cons.1 h with rfl | h
  ·exact ⟨a, by simp, rfl⟩
  ·obtain ⟨b, hb, e⟩ := attr_path p path (n + 1) l q h
   exact ⟨b, by simp [hb], e⟩
theorem attr_Pa (p : Nat) (path : Tx) : ∀ (n : Nat) (l : List At), (∀ a ∈ l, Nam a.1) → Pa n p path (attrRows p path n l)
 | _, [], _ => ⟨fun i x h => by simp [attrRows] at h⟩
 | n, a :: l, h => by
  unfold attrRows
  have h1 : Pa n p path [(⟨5, a.1, a.2, p, n + 1, path ++ 47 :: 64 :: a.1⟩ : Q)] := Pa.cons rfl (64 :: a.1) (by simp) rfl ⟨fun i x h => by simp at h⟩
  exact Pa.append (r1 := [(⟨5, a.1, a.2, p, n + 1, path ++ 47 :: 64 :: a.1⟩ : Q)]) h1 (attr_Pa p path (n + 1) l fun b hb => h b (by simp [hb]))
theorem attr_paths (p : Nat) (path : Tx) : ∀ (n : Nat) (l : List At), (attrRows p path n l).map (·.path) = l.map fun a => path ++ 47 :: attrStep a
 | _, [] => rfl
 | n, a :: l => by simp [attrRows, attr_paths p path (n + 1) l, attrStep]
def stepT (l : List Ky.Rl) (names : List Tx) (keyed : Bool) (i : Nat) (x : Nd) : Tx := if keyed then endS (stepK l names x) else 35 :: Lib.decDigits (i + 1)
def Told (l : List Ky.Rl) (names : List Tx) (keyed : Bool) (ks : List Nd) : Prop := keyed = true → (∀ x ∈ ks, Nam x.name) ∧ (ks.map (stepK l names)).Nodup
theorem endS_head {s : Stp} {c : UInt8} {r : Tx} (h : s.1 = c :: r) : ∃ z, endS s = c :: z := by
 unfold endS
 rw [h]
 split
 ·exact ⟨r, rfl⟩
 ·exact ⟨_, by rw [List.cons_append, List.cons_append]⟩
theorem step_head {l : List Ky.Rl} {names : List Tx} {keyed : Bool} {i : Nat} {x : Nd} (h : keyed = true → Nam x.name) : ∃ c r, stepT l names keyed i x = c :: r ∧ c ≠ 64 := by
 unfold stepT
 cases keyed with
 | false => exact ⟨35, _, rfl, by decide⟩
 | true =>
  have hn := h rfl
  rw [if_pos rfl]
  cases hx : x.name with
  | nil => exact absurd hx hn.1
  | cons c r =>
   have hc := (hn.2 c (by rw [hx]; simp)).2.2.2
   obtain ⟨z, hz⟩ := endS_head (s := stepK l names x) (c := c) (r := r) hx
   exact ⟨c, z, hz, hc⟩
theorem step_same {l : List Ky.Rl} {names : List Tx} {keyed : Bool} {i j : Nat} {x y : Nd} {s r : Tx} (hx : keyed = true → Nam x.name ∧ Nam y.name) (hs : Tail s) (hr : Tail r) (e : stepT l names keyed i x ++ s = stepT l names keyed j y ++ r) :
  (keyed = true → stepK l names x = stepK l names y) ∧ (keyed = false → i = j) := by
 unfold stepT at e
 cases keyed with
 | true =>
  rw [if_pos rfl, if_pos rfl] at e
  exact ⟨fun _ => (endS_same (hx rfl).1 (hx rfl).2 hs hr e).1, fun h => by simp at h⟩
 | false =>
  simp only [Bool.false_eq_true, if_false, List.cons_append, List.cons.injEq, true_and] at e
  have h1 := (tail_same (dec_no _) (dec_no _) hs hr e).1
  have := dec_inj h1
  exact ⟨fun h => by simp at h, fun _ => by omega⟩
theorem nodup_append_of {α : Type} {a b : List α} (ha : a.Nodup) (hb : b.Nodup) (h : ∀ x ∈ a, x ∉ b) : (a ++ b).Nodup := by
 rw [List.nodup_append]
 exact ⟨ha, hb, fun x hx y hy e => h x hx (e ▸ hy)⟩
theorem tail_cons (s : Tx) : Tail (47 :: s) := .inr ⟨s, rfl⟩
mutual
theorem tabN_paths (l : List Ky.Rl) : ∀ (n : Nd) (names : List Tx) (a p : Nat) (path : Tx), fairN n = true → (names ≠ [] → nfN l names n) →
  ∃ x rest, tabN l names a p path n = x :: rest ∧ x.parent = p ∧ x.path = path ∧ Pa (a + 1) a path rest ∧ (∀ q ∈ rest, ∃ s, q.path = path ++ 47 :: s) ∧ ((x :: rest).map (·.path)).Nodup
 | .mk k nm tx as_ ks, names, a, p, path, hf, hn => by
  have hfk := (fair_kids hf).2
  have has : (∀ b ∈ as_, Nam b.1) ∧ (as_.map (·.1)).Nodup := by
   by_cases hk : k = 1
   ·have := (attrsOk_iff.1 (fair_el hf hk).2.2.1)
    exact ⟨fun b hb => nam_of (this.1 b hb).1, this.2⟩
   ·have : as_ = [] := by
     unfold fairN at hf
     rw [if_neg hk] at hf
     split at hf
     ·simp only [Bool.and_eq_true, List.isEmpty_iff] at hf; exact hf.1.1.1.1
     ·split at hf
      ·simp only [Bool.and_eq_true, List.isEmpty_iff] at hf; exact hf.1.1.1.1.1
      ·split at hf
       ·simp only [Bool.and_eq_true, List.isEmpty_iff] at hf; exact hf.1.1.1.1.1.1
       ·simp at hf
    subst this
    simp
  have ht : Told l names (decide (names ≠ []) && !Ky.frontB l names) ks ∧ ((decide (names ≠ []) && !Ky.frontB l names) = true → nfL l names ks) := by
   constructor
   ·intro hk
    simp only [Bool.and_eq_true, decide_eq_true_eq, Bool.not_eq_true'] at hk
    have h1 := hn hk.1
    unfold nfN at h1
    obtain ⟨h2, h3⟩ := h1.2 hk.2
    refine ⟨fun x hx => ?_, h3⟩
    have h4 := (nfL_iff.1 h2 x hx).2
    cases x with
    | mk k2 nm2 tx2 as2 ks2 =>
     unfold nfN at h4
     exact nam_of (fair_el (hfk _ hx) h4.1).1
   ·intro hk
    simp only [Bool.and_eq_true, decide_eq_true_eq, Bool.not_eq_true'] at hk
    have h1 := hn hk.1
    unfold nfN at h1
    exact (h1.2 hk.2).1
  unfold tabN
  obtain ⟨k1, k2, k3⟩ := tabL_paths l ks names (decide (names ≠ []) && !Ky.frontB l names) (a + 1 + as_.length) a path 0 hfk ht.1 ht.2
  refine ⟨_, _, rfl, rfl, rfl, Pa.append (attr_Pa a path (a + 1) as_ has.1) (by rw [attrRows_len]; exact k1), fun q hq => ?_, ?_⟩
  ·rcases List.mem_append.1 hq with hq | hq
   ·obtain ⟨b, _, e⟩ := attr_path a path _ _ q hq
    exact ⟨_, e⟩
   ·obtain ⟨i, x, s, _, _, e, _⟩ := k2 q hq
    exact ⟨_, e⟩
  ·rw [List.map_cons, List.nodup_cons, List.map_append]
   have hne : ∀ s : Tx, path ≠ path ++ 47 :: s := fun s e => by
    have := congrArg List.length e
    simp at this
   refine ⟨fun hm => ?_, nodup_append_of ?_ k3 fun z hz hz2 => ?_⟩
   ·rcases List.mem_append.1 hm with hm | hm
    ·obtain ⟨q, hq, e⟩ := List.mem_map.1 hm
     obtain ⟨b, _, e2⟩ := attr_path a path _ _ q hq
     exact hne _ (e.symm.trans e2)
    ·obtain ⟨q, hq, e⟩ := List.mem_map.1 hm
     obtain ⟨i, x, s, _, _, e2, _⟩ := k2 q hq
     exact hne _ (e.symm.trans e2)
   ·rw [attr_paths]
    have hmm : as_.map (fun b => path ++ 47 :: attrStep b) = (as_.map (·.1)).map fun b => path ++ 47 :: 64 :: b := by rw [List.map_map]; rfl
    rw [hmm]
    unfold List.Nodup
    rw [List.pairwise_map]
    exact has.2.imp fun hne e => hne (by simpa using e)
   ·obtain ⟨q, hq, e⟩ := List.mem_map.1 hz
    obtain ⟨b, hb, e2⟩ := attr_path a path _ _ q hq
    obtain ⟨q2, hq2, e3⟩ := List.mem_map.1 hz2
    obtain ⟨i, x, s, hx, hs, e4, _⟩ := k2 q2 hq2
    obtain ⟨c, r, ec, hc⟩ := step_head (l := l) (names := names) (i := i) (x := x) fun hk => (ht.1 hk).1 x hx
    have e5 := e2.symm.trans (e.trans (e3.symm.trans e4))
    rw [ec] at e5
    unfold attrStep at e5
    simp only [List.cons_append, List.append_cancel_left_eq, List.cons.injEq, true_and] at e5
    exact hc e5.1.symm
theorem tabL_paths (l : List Ky.Rl) : ∀ (ks : List Nd) (names : List Tx) (keyed : Bool) (a p : Nat) (path : Tx) (i : Nat), (∀ x ∈ ks, fairN x = true) → Told l names keyed ks → (keyed = true → nfL l names ks) →
  Pa a p path (tabL l names keyed a p path i ks) ∧ (∀ q ∈ tabL l names keyed a p path i ks, ∃ j x s, x ∈ ks ∧ Tail s ∧ q.path = path ++ 47 :: (stepT l names keyed j x ++ s) ∧ i ≤ j) ∧ ((tabL l names keyed a p path i ks).map (·.path)).Nodup
 | [], _, _, _, _, _, _, _, _, _ => by
  unfold tabL
  exact ⟨⟨fun i x h => by simp at h⟩, fun q h => by simp at h, by simp⟩
 | x :: xs, names, keyed, a, p, path, i, hf, ht, hn => by
  unfold tabL
  have hsn : (if keyed then endS (stepK l names x) else 35 :: Lib.decDigits (i + 1)) = stepT l names keyed i x := rfl
  rw [hsn]
  obtain ⟨y, rest, e, e1, e2, e3, e4, e5⟩ := tabN_paths l x (if keyed then names ++ [x.name] else []) a p (path ++ 47 :: stepT l names keyed i x) (hf x (by simp)) (fun hne => by
   cases keyed with
   | false => simp at hne
   | true =>
    have := hn rfl
    unfold nfL at this
    rw [if_pos rfl]
    exact this.2.1)
  have ht2 : Told l names keyed xs := fun hk => ⟨fun z hz => (ht hk).1 z (by simp [hz]), by have := (ht hk).2; rw [List.map_cons, List.nodup_cons] at this; exact this.2⟩
  obtain ⟨k1, k2, k3⟩ := tabL_paths l xs names keyed (a + (tabN l (if keyed then names ++ [x.name] else []) a p (path ++ 47 :: stepT l names keyed i x) x).length) p path (i + 1) (fun z hz => hf z (by simp [hz])) ht2 (fun hk => by
   have := hn hk
   unfold nfL at this
   exact this.2.2)
  have hst : stepT l names keyed i x ≠ [] := by
   obtain ⟨c, r, h, _⟩ := step_head (l := l) (names := names) (i := i) (x := x) fun hk => (ht hk).1 x (by simp)
   rw [h]; simp
  simp only at k1 k2 k3 ⊢
  rw [e] at k1 k2 k3 ⊢
  have hfirst : ∀ q ∈ y :: rest, ∃ s, Tail s ∧ q.path = path ++ 47 :: (stepT l names keyed i x ++ s) := fun q hq => by
   rcases List.mem_cons.1 hq with rfl | hq
   ·exact ⟨[], .inl rfl, by rw [e2, List.append_nil]⟩
   ·obtain ⟨s, hs⟩ := e4 q hq
    exact ⟨47 :: s, tail_cons s, by rw [hs]; simp⟩
  refine ⟨Pa.append (Pa.cons e1 _ hst e2 (by rw [e2]; exact e3)) k1, fun q hq => ?_, ?_⟩
  ·rcases List.mem_append.1 hq with hq | hq
   ·obtain ⟨s, hs, e6⟩ := hfirst q hq
    exact ⟨i, x, s, by simp, hs, e6, Nat.le_refl _⟩
   ·obtain ⟨j, z, s, hz, hs, e6, hj⟩ := k2 q hq
    exact ⟨j, z, s, by simp [hz], hs, e6, by omega⟩
  ·rw [List.map_append]
   refine nodup_append_of e5 k3 fun z hz hz2 => ?_
   obtain ⟨q, hq, eq⟩ := List.mem_map.1 hz
   obtain ⟨s, hs, e6⟩ := hfirst q hq
   obtain ⟨q2, hq2, eq2⟩ := List.mem_map.1 hz2
   obtain ⟨j, z2, s2, hz2', hs2, e7, hj⟩ := k2 q2 hq2
   have e8 := e6.symm.trans (eq.trans (eq2.symm.trans e7))
   simp only [List.append_cancel_left_eq, List.cons.injEq, true_and] at e8
   obtain ⟨w1, w2⟩ := step_same (fun hk => ⟨(ht hk).1 x (by simp), (ht hk).1 z2 (by simp [hz2'])⟩) hs hs2 e8
   cases hkk : keyed with
   | false => have := w2 hkk; omega
   | true =>
    have h1 := w1 hkk
    have h2 := (ht hkk).2
    rw [List.map_cons, List.nodup_cons] at h2
    exact h2.1 (h1 ▸ List.mem_map_of_mem hz2')
end
def pathAt (t : List Q) (k : Nat) : Tx := match t[k]? with | some x => x.path | none => []
structure Paths (t : List Q) : Prop where
 one : ∀ i k, i < t.length → k < i → pathAt t i ≠ pathAt t k
 up : ∀ (i : Nat), 0 < i → i < t.length → ∃ (j : Nat) (u : Tx), parAt t i = (j : Int) ∧ j < i ∧ u ≠ [] ∧ pathAt t i = pathAt t j ++ u
theorem tabD_paths (l : List Ky.Rl) (x : Nd) (hf : fairN x = true) (hk : x.kind = 1) (hn : nfN l [x.name] x) : Paths (tabD l x) ∧ 1 < (tabD l x).length := by
 obtain ⟨y, rest, e, e1, e2, e3, e4, e5⟩ := tabN_paths l x [x.name] 1 0 (47 :: x.name) hf (fun _ => hn)
 have hnm : Nam x.name := by
  cases x with
  | mk k nm tx as_ ks => exact nam_of (fair_el hf hk).1
 unfold tabD
 rw [e]
 refine ⟨⟨fun i k hi hki he => ?_, fun i h0 hi => ?_⟩, by simp⟩
 ·have hnd : (((⟨6, [], [], -1, (y :: rest).length + 1, [47]⟩ : Q) :: y :: rest).map (·.path)).Nodup := by
   rw [List.map_cons, List.nodup_cons]
   refine ⟨fun hm => ?_, e5⟩
   obtain ⟨q, hq, eq⟩ := List.mem_map.1 hm
   simp only at eq
   have hlen : 2 ≤ q.path.length := by
    have h2 : 0 < x.name.length := List.length_pos_iff.2 hnm.1
    rcases List.mem_cons.1 hq with rfl | hq
    ·rw [e2]; simp; omega
    ·obtain ⟨s, hs⟩ := e4 q hq
     rw [hs]; simp; omega
   rw [eq] at hlen
   simp at hlen
  have hi' : i < (((⟨6, [], [], -1, (y :: rest).length + 1, [47]⟩ : Q) :: y :: rest).map (·.path)).length := by rw [List.length_map]; exact hi
  have hk' : k < (((⟨6, [], [], -1, (y :: rest).length + 1, [47]⟩ : Q) :: y :: rest).map (·.path)).length := by omega
  have hp : ∀ (t : List Q) (m : Nat) (h : m < (t.map (·.path)).length), (t.map (·.path))[m] = pathAt t m := fun t m h => by
   rw [List.length_map] at h
   unfold pathAt
   rw [List.getElem_map, List.getElem?_eq_getElem h]
  have := (List.getElem_inj (h₀ := hi') (h₁ := hk') hnd).1 (by rw [hp, hp]; exact he)
  omega
 ·obtain ⟨i, rfl⟩ : ∃ m, i = m + 1 := ⟨i - 1, by omega⟩
  have hpy : ∀ (k : Nat) (q : Q), rest[k]? = some q → pathAt ((⟨6, [], [], -1, (y :: rest).length + 1, [47]⟩ : Q) :: y :: rest) (k + 2) = q.path ∧ parAt ((⟨6, [], [], -1, (y :: rest).length + 1, [47]⟩ : Q) :: y :: rest) (k + 2) = q.parent := fun k q hq => by
   unfold pathAt parAt
   rw [List.getElem?_cons_succ, List.getElem?_cons_succ, hq]
   exact ⟨rfl, rfl⟩
  cases i with
  | zero =>
   refine ⟨0, x.name, ?_, by omega, hnm.1, ?_⟩
   ·exact e1
   ·exact e2
  | succ i =>
   have hil : i < rest.length := by simpa using hi
   obtain ⟨q, hq⟩ : ∃ q, rest[i]? = some q := ⟨_, List.getElem?_eq_getElem hil⟩
   rcases e3.up i q hq with ⟨f1, u, _, f2⟩ | ⟨j, q2, hj, hq2, f1, u, f2⟩
   ·refine ⟨1, 47 :: u, (hpy i q hq).2.trans f1, by omega, by simp, ?_⟩
    rw [(hpy i q hq).1, f2]
    show _ = y.path ++ _
    rw [e2]
   ·refine ⟨j + 2, 47 :: u, by rw [(hpy i q hq).2, f1]; congr 1; omega, by omega, by simp, ?_⟩
    rw [(hpy i q hq).1, f2, (hpy j q2 hq2).1]
end Go.Proofs.YtdnfnkicmfkkmaaGreatDoor.Vw
end

section
namespace Go.Proofs.YtdnfnkicmfkkmaaGreatDoor.Vw
open Go.RowKit UtfW Xl Xt Xo No
open Go.Proofs.YtdnfnkicmfkkmaaGreatDoor (Ky.frontB Ky.Rl)

theorem root_of {l : List Ky.Rl} {n x : Nd} (h : NormR l n = .ok x) : ∃ r l', l = r :: l' ∧ r.1 = [x.name] ∧ r.2 = [] := by
 unfold NormR at h
 split at h
 ·simp at h
 ·rename_i hm
  split at h
  ·simp at h
  ·rename_i hf
   simp only [not_or, Bool.not_eq_false, ne_eq, Decidable.not_not] at hf
   have hm' : Ky.mayB nameR l = true := by simpa using hm
   split at h
   ·simp at h
   ·rename_i r l'
    split at h
    ·simp at h
    ·rename_i p ps hp
     split at h
     ·simp at h
     ·rename_i hne
      obtain ⟨n1, n2, n3, n4⟩ := normN_ok _ n _ 0 x hf.1 hf.2 h
      have hnm : n.name = p := by simpa using hne
      unfold Ky.mayB at hm'
      simp only [Bool.and_eq_true] at hm'
      have h2 := hm'.2
      unfold Ky.mayP at h2
      simp only [Bool.and_eq_true] at h2
      have h4 := h2.1.2
      have h1 : ps = [] := by
       unfold Ky.placedB at h4
       by_cases hl : r.1.length = 1
       ·rw [hp] at hl
        simpa using hl
       ·rw [if_neg hl] at h4
        simp [Ky.hasB] at h4
      have h5 := h2.1.1
      unfold Ky.ruleB at h5
      simp only [Bool.and_eq_true] at h5
      have h6 := of_decide_eq_true h5.1
      refine ⟨r, l', rfl, by rw [hp, h1, n3, hnm], ?_⟩
      rw [hp, h1] at h6
      simp at h6
      exact h6
structure NfD (l : List Ky.Rl) (x : Nd) : Prop where
 may : Ky.mayB nameR l = true
 wts : Ky.wts l < 3000
 fair : fairN x = true
 kind : x.kind = 1
 nf : nfN l [x.name] x
 root : ∃ r l', l = r :: l' ∧ r.1 = [x.name] ∧ r.2 = []
 w : wN x ≤ 1200
theorem NfD.of {l : List Ky.Rl} {n x : Nd} (h : NormR l n = .ok x) (hw : Ky.wts l < 3000) (hn : wN n ≤ 1200) : NfD l x :=
 have h1 := NormR_ok h
 ⟨h1.1, hw, h1.2.1, h1.2.2.1, h1.2.2.2, root_of h, Nat.le_trans (NormR_w h) hn⟩
section
variable {l : List Ky.Rl} {x : Nd} (h : NfD l x)
include h
theorem NfD.tab : Tab (tabD l x) := tabD_tab l x h.fair
theorem NfD.paths : Paths (tabD l x) ∧ 1 < (tabD l x).length := tabD_paths l x h.fair h.kind h.nf
theorem NfD.len : (tabD l x).length ≤ 1201 := by
 have h1 := tabN_w l x [x.name] 1 0 (47 :: x.name)
 have h2 := h.w
 unfold tabD
 simp only [List.length_cons]
 omega
theorem NfD.txt : txS (tabD l x) ≤ 1200 := by
 have h1 := tabN_txS l x [x.name] 1 0 (47 :: x.name)
 have h2 := h.w
 unfold tabD
 rw [txS_cons]
 simp only [List.length_nil]
 omega
end
def axP (t : List Q) (axis : Tx) (i : Int) : List Nat := if i < 0 ∨ (t.length : Int) ≤ i then [] else axisP t axis i.toNat
end Go.Proofs.YtdnfnkicmfkkmaaGreatDoor.Vw
end

section
namespace Go.Proofs.YtdnfnkicmfkkmaaGreatDoor.Vw
open Go.RowKit UtfW Xl Xt Xo No
open Go.Proofs.YtdnfnkicmfkkmaaGreatDoor (Ky.frontB Ky.Rl)
open Go.Proofs.YtdnfnkicmfkkmaaGreatDoor.Ky (Ts OwX tv join Rs)

theorem sq_none {α : Type} {El : World → List Value → α → Prop} {k : Nat} (w : World) : Sq El k w none 0 0 [] := ⟨rfl, by omega, by omega, fun _ => ⟨rfl, rfl⟩, fun h => by omega⟩
theorem Sq.cut0 {w : World} {A : Option Addr} {c : Nat} {l : List Nat} (h : Sq IEl 1 w A 0 c l) : Sq IEl 1 w A 0 c [] := by
 have := List.eq_nil_of_length_eq_zero h.len
 rwa [this] at h
theorem Sq.cut1 {w : World} {A : Option Addr} {m c : Nat} {l : List Nat} (h : Sq IEl 1 w A m c l) (hm : 0 < m) : Sq IEl 1 w A 1 c (l.take 1) := by
 have h1 := Sq.cut h 0 1 (by omega) (by omega) A (fun b off e _ => by rw [e]; simp) (fun h => h)
 simpa using h1
theorem spanQ_len (a b : Nat) (p : Nat → Bool) : (spanQ a b p).length ≤ b - a := by
 unfold spanQ
 refine Nat.le_trans (List.length_filter_le _ _) ?_
 simp
theorem sibP_len (t : List Q) (i a b : Nat) : (sibP t i a b).length ≤ b - a := by
 unfold sibP
 split
 ·simp
 ·exact spanQ_len _ _ _
theorem ho2len {w : World} {B E : Nat} {A : Option Addr} {m c : Nat} {l : List Nat} (h : OwS IEl 1 w B E (.slice A m c) l) (hl : l.length ≤ 1000000) : m ≤ 1000000 := by
 rw [← (h.sq' (by decide)).len]; exact hl
set_option maxHeartbeats 2000000 in
set_option maxRecDepth 100000 in
theorem spanP_any {t : List Q} (A : Option Addr) (n c : Nat) (w : World) (h : Sq QEl 6 w A n c t) (hn : n ≤ 1000000) (a b : Nat) (hbn : b ≤ n) :
  Calls Tryz.prog 35 #[.slice A n c, .int .i64 (a : Nat), .int .i64 (b : Nat), .func (.func 37) #[] #[]] w fun e w' => ∃ A' m c', e = .returned (.slice A' m c') ∧ OwS IEl 1 w' w.heap.size 3 (.slice A' m c') (spanQ a b (plainQ t)) ∧ Below w.heap.size w w' :=
 span_any A n c w h hn a b hbn _ _ _ (fun args w => by kernel_rfl) fun k x w3 hx hb3 => by
  have hxk := at_some hx
  have e : plainQ t k = (x.kind != 5) := by
   unfold plainQ
   rw [hxk.1, Bool.eq_iff_iff, decide_eq_true_eq, bne_iff_ne]
  rw [e]
  exact vplain_any x w3
set_option maxHeartbeats 20000000 in
set_option maxRecDepth 100000 in
theorem spanC_any {t : List Q} (A : Option Addr) (n c : Nat) (w : World) (h : Sq QEl 6 w A n c t) (hn : n ≤ 1000000) (i T : Nat) (hT : w.cell? ⟨T, 0, none⟩ = some (.int .i64 (i : Nat))) (hTl : T < w.heap.size) (a b : Nat) (hbn : b ≤ n) :
  Calls Tryz.prog 35 #[.slice A n c, .int .i64 (a : Nat), .int .i64 (b : Nat), .func (.func 36) #[] #[.pointer (some ⟨T, 0, none⟩)]] w fun e w' => ∃ A' m c', e = .returned (.slice A' m c') ∧ OwS IEl 1 w' w.heap.size 3 (.slice A' m c') (spanQ a b fun k => plainQ t k && decide (parAt t k = i)) ∧ Below w.heap.size w w' :=
 span_any A n c w h hn a b hbn _ _ _ (fun args w => by kernel_rfl) fun k x w3 hx hb3 => by
  have hxk := at_some hx
  have e : (plainQ t k && decide (parAt t k = i)) = ((x.kind != 5) && (x.parent == (i : Int))) := by
   unfold plainQ
   rw [hxk.1, hxk.2.1]
   congr 1
   first | (rw [Bool.eq_iff_iff, decide_eq_true_eq, bne_iff_ne]; done) | (simp [bne]; done) | (simp [bne]; rfl)
  rw [e]
  exact axis1_any x w3 T i ((hb3.cell (p := ⟨T, 0, none⟩) hTl).trans hT) (Nat.lt_of_lt_of_le hTl hb3.size)
set_option maxHeartbeats 20000000 in
set_option maxRecDepth 100000 in
theorem spanA_any {t : List Q} (A : Option Addr) (n c : Nat) (w : World) (h : Sq QEl 6 w A n c t) (hn : n ≤ 1000000) (i T : Nat) (hT : w.cell? ⟨T, 0, none⟩ = some (.int .i64 (i : Nat))) (hTl : T < w.heap.size) (a b : Nat) (hbn : b ≤ n) :
  Calls Tryz.prog 35 #[.slice A n c, .int .i64 (a : Nat), .int .i64 (b : Nat), .func (.func 38) #[] #[.pointer (some ⟨T, 0, none⟩)]] w fun e w' => ∃ A' m c', e = .returned (.slice A' m c') ∧ OwS IEl 1 w' w.heap.size 3 (.slice A' m c') (spanQ a b fun k => !plainQ t k && decide (parAt t k = i)) ∧ Below w.heap.size w w' :=
 span_any A n c w h hn a b hbn _ _ _ (fun args w => by kernel_rfl) fun k x w3 hx hb3 => by
  have hxk := at_some hx
  have e : (!plainQ t k && decide (parAt t k = i)) = (!(x.kind != 5) && (x.parent == (i : Int))) := by
   unfold plainQ
   rw [hxk.1, hxk.2.1]
   congr 1
   first | (rw [Bool.eq_iff_iff, decide_eq_true_eq, bne_iff_ne]; done) | (simp [bne]; done) | (simp [bne]; rfl)
  rw [e]
  exact axis2_any x w3 T i ((hb3.cell (p := ⟨T, 0, none⟩) hTl).trans hT) (Nat.lt_of_lt_of_le hTl hb3.size)
set_option maxHeartbeats 20000000 in
set_option maxRecDepth 100000 in
theorem spanB_any {t : List Q} (A : Option Addr) (n c : Nat) (w : World) (h : Sq QEl 6 w A n c t) (hn : n ≤ 1000000) (i T : Nat) (hT : w.cell? ⟨T, 0, none⟩ = some (.int .i64 (i : Nat))) (hTl : T < w.heap.size) (a b : Nat) (hbn : b ≤ n) :
  Calls Tryz.prog 35 #[.slice A n c, .int .i64 (a : Nat), .int .i64 (b : Nat), .func (.func 42) #[] #[.pointer (some ⟨T, 0, none⟩)]] w fun e w' => ∃ A' m c', e = .returned (.slice A' m c') ∧ OwS IEl 1 w' w.heap.size 3 (.slice A' m c') (spanQ a b fun k => plainQ t k && decide (finAt t k ≤ i)) ∧ Below w.heap.size w w' :=
 span_any A n c w h hn a b hbn _ _ _ (fun args w => by kernel_rfl) fun k x w3 hx hb3 => by
  have hxk := at_some hx
  have e : (plainQ t k && decide (finAt t k ≤ i)) = ((x.kind != 5) && decide (x.fin ≤ i)) := by
   unfold plainQ
   rw [hxk.1, hxk.2.2.1]
   congr 1
   first | (rw [Bool.eq_iff_iff, decide_eq_true_eq, bne_iff_ne]; done) | (simp [bne]; done) | (simp [bne]; rfl)
  rw [e]
  exact axis3_any x w3 T i ((hb3.cell (p := ⟨T, 0, none⟩) hTl).trans hT) (Nat.lt_of_lt_of_le hTl hb3.size)
set_option maxHeartbeats 20000000 in
set_option maxRecDepth 100000 in
theorem paxis_any {t : List Q} (hT : Tab t) (A : Option Addr) (n c : Nat) (w : World) (h : Sq QEl 6 w A n c t) (axis : Tx) (i : Int) (hn0 : n ≤ 100000) :
    Calls Tryz.prog 17 #[.slice A n c, .string (strOf axis), .int .i64 i] w fun e w' => ∃ A' m c', e = .returned (.slice A' m c') ∧ Sq IEl 1 w' A' m c' (axP t axis i) ∧ Below w.heap.size w w' := by
  have hl := h.len
  have l1 := h.le
  have l2 := h.max
  have hTH := Lib.hid hT
  have hlH := Lib.hid hl
  have h' := Lib.hid h
  have hn : n ≤ 1000000 := by omega
  clear hT h
  obtain ⟨SA, hSA⟩ : ∃ S, strOf axis = S := ⟨_, rfl⟩
  rw [hSA]
  have hSAH := Lib.hid hSA
  clear hSA
  have hb1 := below_alloc w (.cells #[.int .i64 i] 3)
  have hk1 := heap_alloc_new w (.cells #[.int .i64 i] 3)
  obtain ⟨T, hT⟩ : ∃ T, w.heap.size = T := ⟨_, rfl⟩
  obtain ⟨w1, hw1⟩ : ∃ w1, w.alloc (.cells #[.int .i64 i] 3) = w1 := ⟨_, rfl⟩
  rw [hw1] at hb1 hk1
  rw [hT] at hk1
  have hT1 : T < w1.heap.size := (Array.getElem?_eq_some_iff.1 hk1).1
  have g0 := Xp.cell_blk hk1 (i := 0) rfl
  have hb1H := Lib.hid hb1
  have hk1H := Lib.hid hk1
  clear hb1 hk1
  by_cases hi0 : i < 0
  · have hv : Hid (axP t axis i = []) := Lib.hid (by unfold axP; rw [if_pos (.inl hi0)])
    have e1 : decide (i < 0) = true := by rw [decide_eq_true_eq]; exact hi0
    clear hl hi0
    go_enter Tryz.func17, Tryz.ntmps17
    go_wp2_with fail
    go_ret
    exact ⟨_, _, _, rfl, by rw [hv.out]; exact sq_none _, hb1H.out⟩
  have e1 : decide (i < 0) = false := by rw [decide_eq_false_iff_not]; exact hi0
  by_cases hin : (n : Int) ≤ i
  · have hv : Hid (axP t axis i = []) := Lib.hid (by unfold axP; rw [if_pos (.inr (by omega))])
    have e2 : decide ((n : Int) ≤ i) = true := by rw [decide_eq_true_eq]; exact hin
    clear hl hi0 hin
    go_enter Tryz.func17, Tryz.ntmps17
    go_wp2_with fail
    go_ret
    exact ⟨_, _, _, rfl, by rw [hv.out]; exact sq_none _, hb1H.out⟩
  have e2 : decide ((n : Int) ≤ i) = false := by rw [decide_eq_false_iff_not]; exact hin
  obtain ⟨i, rfl⟩ : ∃ m : Nat, i = (m : Int) := ⟨i.toNat, by omega⟩
  have hi : i < n := by omega
  rw [show axP t axis i = axisP t axis i by unfold axP; rw [if_neg (by omega), Int.toNat_natCast]]
  have h1 := h'.out.below QEl.to hb1H.out
  obtain ⟨b0, o0, rfl⟩ := q_adr h1 (by omega)
  obtain ⟨q, hq, u0, u1, u2, u3, u4, u5⟩ := q_row h1 hi
  have hat := Lib.hid (at_some hq)
  have hfq : Hid (finAt t i = q.fin) := Lib.hid hat.out.2.2.1
  have hfn : Hid (q.fin ≤ n) := Lib.hid (by rw [← hfq.out, ← hl]; exact hTH.out.fin_le (by omega))
  have hfnn : q.fin ≤ n := hfn.out
  have hb2 := below_alloc w1 (.cells #[.int .i64 q.kind, .string (strOf q.name), .string (strOf q.text), .int .i64 q.parent, .int .i64 (q.fin : Nat), .string (strOf q.path)] 41)
  have hk2 := heap_alloc_new w1 (.cells #[.int .i64 q.kind, .string (strOf q.name), .string (strOf q.text), .int .i64 q.parent, .int .i64 (q.fin : Nat), .string (strOf q.path)] 41)
  obtain ⟨U, hU⟩ : ∃ T, w1.heap.size = T := ⟨_, rfl⟩
  obtain ⟨w2, hw2⟩ : ∃ w2, w1.alloc (.cells #[.int .i64 q.kind, .string (strOf q.name), .string (strOf q.text), .int .i64 q.parent, .int .i64 (q.fin : Nat), .string (strOf q.path)] 41) = w2 := ⟨_, rfl⟩
  rw [hw2] at hb2 hk2
  rw [hU] at hk2
  have g1 := (hb2.cell (p := ⟨T, 0, none⟩) hT1).trans g0
  have g4 := Xp.cell_blk hk2 (i := 4) rfl
  have hT2H : Hid (T < w2.heap.size) := Lib.hid (Nat.lt_of_lt_of_le hT1 hb2.size)
  have hU2H : Hid (U < w2.heap.size) := Lib.hid (Array.getElem?_eq_some_iff.1 hk2).1
  have hb12H := Lib.hid (hb1H.out.trans (hb2.mono hb1H.out.size))
  have h2H := Lib.hid (h1.below QEl.to hb2)
  have e3 : (i : Int) < (n : Int) := by omega
  clear hb2 hk2 h1 hq hl hi0 hin h' hb1H hk1H hT1
  go_enter Tryz.func17, Tryz.ntmps17
  go_upto_region 4 with fail
  clear hw1 hw2 hT hU g0 u0 u1 u2 u3 u4 u5
  by_cases hax : axis = xSelf
  · have s0 : (SA.toList == [115, 101, 108, 102]) = true := by rw [← hSAH.out, axq, show [115, 101, 108, 102] = xSelf from rfl, hax]; simp
    have hv : Hid (axisP t axis i = [i]) := Lib.hid (by rw [hax]; unfold axisP; rw [if_pos rfl])
    clear hax
    have hbl := below_alloc w2 (.cells #[.int .i64 (i : Nat)] 3)
    have hlit := Lib.hid (ows_lit (El := IEl) (k := 1) w2 [.int .i64 (i : Nat)] i 3 rfl (by decide) rfl)
    have hblH := Lib.hid (hb12H.out.trans (hbl.mono hb12H.out.size))
    clear hbl
    go_wp2_with fail
    go_ret
    exact ⟨_, _, _, rfl, by rw [hv.out]; exact hlit.out.sq' (by decide), hblH.out⟩
  have n0 := Lib.hid hax
  have s0 : (SA.toList == [115, 101, 108, 102]) = false := by rw [← hSAH.out, axq, show [115, 101, 108, 102] = xSelf from rfl]; exact decide_eq_false n0.out
  clear hax
  by_cases hax : axis = xChild
  · have s1 : (SA.toList == [99, 104, 105, 108, 100]) = true := by rw [← hSAH.out, axq, show [99, 104, 105, 108, 100] = xChild from rfl, hax]; simp
    have hv : Hid (axisP t axis i = spanQ (i + 1) (finAt t i) fun k => plainQ t k && decide (parAt t k = i)) := Lib.hid (by rw [hax]; unfold axisP; rw [if_neg (by decide), if_pos rfl])
    clear hax
    have hc := Lib.hid (spanC_any _ n c w2 h2H.out hn i T g1 hT2H.out (i + 1) q.fin hfn.out)
    rw [show ((i + 1 : Nat) : Int) = (i : Int) + 1 by omega] at hc
    go_wp2_with fail
    refine hc.out.mono ?_
    rintro e w3 ⟨A', m, c', rfl, ho, hb⟩
    have hoH := Lib.hid ho
    have hbH := Lib.hid hb
    clear ho hb hc
    go_wp2_with fail
    go_ret
    exact ⟨_, _, _, rfl, by rw [hv.out, hfq.out]; exact hoH.out.sq' (by decide), hb12H.out.trans (hbH.out.mono hb12H.out.size)⟩
  have n1 := Lib.hid hax
  have s1 : (SA.toList == [99, 104, 105, 108, 100]) = false := by rw [← hSAH.out, axq, show [99, 104, 105, 108, 100] = xChild from rfl]; exact decide_eq_false n1.out
  clear hax
  by_cases hax : axis = xAttr
  · have s2 : (SA.toList == [97, 116, 116, 114, 105, 98, 117, 116, 101]) = true := by rw [← hSAH.out, axq, show [97, 116, 116, 114, 105, 98, 117, 116, 101] = xAttr from rfl, hax]; simp
    have hv : Hid (axisP t axis i = spanQ (i + 1) (finAt t i) fun k => !plainQ t k && decide (parAt t k = i)) := Lib.hid (by rw [hax]; unfold axisP; rw [if_neg (by decide), if_neg (by decide), if_pos rfl])
    clear hax
    have hc := Lib.hid (spanA_any _ n c w2 h2H.out hn i T g1 hT2H.out (i + 1) q.fin hfn.out)
    rw [show ((i + 1 : Nat) : Int) = (i : Int) + 1 by omega] at hc
    go_wp2_with fail
    refine hc.out.mono ?_
    rintro e w3 ⟨A', m, c', rfl, ho, hb⟩
    have hoH := Lib.hid ho
    have hbH := Lib.hid hb
    clear ho hb hc
    go_wp2_with fail
    go_ret
    exact ⟨_, _, _, rfl, by rw [hv.out, hfq.out]; exact hoH.out.sq' (by decide), hb12H.out.trans (hbH.out.mono hb12H.out.size)⟩
  have n2 := Lib.hid hax
  have s2 : (SA.toList == [97, 116, 116, 114, 105, 98, 117, 116, 101]) = false := by rw [← hSAH.out, axq, show [97, 116, 116, 114, 105, 98, 117, 116, 101] = xAttr from rfl]; exact decide_eq_false n2.out
  clear hax
  by_cases hax : axis = xParent
  · have s3 : (SA.toList == [112, 97, 114, 101, 110, 116]) = true := by rw [← hSAH.out, axq, show [112, 97, 114, 101, 110, 116] = xParent from rfl, hax]; simp
    have hv : Hid (axisP t axis i = (ancL t i).take 1) := Lib.hid (by rw [hax]; unfold axisP; rw [if_neg (by decide), if_neg (by decide), if_neg (by decide), if_pos rfl])
    clear hax
    have hba := Lib.hid (Joins.below_draws w2.heap.size w2 1)
    have hc := Lib.hid (anc_any hTH.out _ n c w2.drew (h2H.out.below QEl.to hba.out) hn i hi)
    have g1d : w2.drew.cell? ⟨T, 0, none⟩ = some (.int .i64 (i : Nat)) := g1
    go_upto_region 12 with fail
    refine Pl.wp_region_plan 5 (.take 0 (.take 1 (.take 3 (.take 4 (.run 2 .done))))) (fun x => x.cell? ⟨T, 0, none⟩ = some (.int .i64 (i : Nat))) (by kernel_rfl) (by kernel_rfl) (by exact g1d) ?_
    simp only [Pl.fill, List.getElem?_cons_zero, List.getElem?_cons_succ, List.drop_succ_cons, List.drop_zero]
    iterate 4
      first
      | (refine Pl.take_go ?_ (by rfl) (fun _ _ _ h => h) ?_ ?_
         rotate_left
         · (intro x hSw; (try (have hs1 := hSw)); go_simp; try with_reducible rfl)
         (try simp only [Act.put, List.setIfInBounds_toArray, List.set_cons_zero, List.set_cons_succ]))
      | (refine Pl.take_skip (by rfl) (fun _ _ _ h => h) ?_
         (try simp only [Act.put, List.setIfInBounds_toArray, List.set_cons_zero, List.set_cons_succ]))
    refine Pl.run_go (fun K hK => ?_)
    go_simp
    refine hc.out.mono ?_
    rintro e w3 ⟨A', m, c', rfl, ho, hb⟩
    have hb3 := Lib.hid (hba.out.trans (hb.mono hba.out.size))
    have hc2 := Lib.hid (anc_any hTH.out _ n c w3 (h2H.out.below QEl.to hb3.out) hn i hi)
    have hoH := Lib.hid ho
    clear ho hb hc
    dsimp only
    refine hK.out _ _ (Pl.more_go (fun x => x.cell? ⟨T, 0, none⟩ = some (.int .i64 (i : Nat))) (fun _ h => h) (by exact (hb3.out.cell (p := ⟨T, 0, none⟩) hT2H.out).trans g1) ?_)
    clear hK K
    try simp only [Act.put, List.setIfInBounds_toArray, List.set_cons_zero, List.set_cons_succ]
    refine Pl.done_go ?_
    go_wp2_with fail
    refine hc2.out.mono ?_
    rintro e w4 ⟨A4, m4, c4, rfl, ho4, hb4⟩
    have hb4H := Lib.hid (hb3.out.trans (hb4.mono hb3.out.size))
    have hsq := ho4.sq' (by decide)
    have hs3 := (hoH.out.below hb4 IEl.to).sq' (by decide)
    obtain rfl : m4 = m := by rw [← hsq.len, ← hs3.len]
    have hlen := hsq.len
    have hle4 := hs3.le
    have hmx4 := hs3.max
    clear ho4 hsq hoH hc2 hb4
    rcases Nat.eq_zero_or_pos m4 with h0 | h0
    · subst h0
      have hz : ancL t i = [] := List.eq_nil_of_length_eq_zero hlen
      have hs4 := Lib.hid hs3
      have hvz : Hid (axisP t axis i = []) := Lib.hid (by rw [hv.out, hz]; rfl)
      clear hs3 hz hlen
      go_wp2_with fail
      go_ret
      exact ⟨_, _, _, rfl, by rw [hvz.out]; exact Sq.cut0 hs4.out, hb12H.out.trans (hb4H.out.mono hb12H.out.size)⟩
    · have hs4 := Lib.hid hs3
      have i9 : decide ((m4 : Int) < 1) = false := by rw [decide_eq_false_iff_not]; omega
      have i8 : (1 : Int) ≤ (m4 : Int) := by omega
      clear hs3 hlen
      go_wp2_with fail
      go_ret
      exact ⟨_, _, _, rfl, by rw [hv.out, show (min (1 : Int) (m4 : Int)).toNat = 1 by omega]; exact Sq.cut1 hs4.out h0, hb12H.out.trans (hb4H.out.mono hb12H.out.size)⟩
  have n3 := Lib.hid hax
  have s3 : (SA.toList == [112, 97, 114, 101, 110, 116]) = false := by rw [← hSAH.out, axq, show [112, 97, 114, 101, 110, 116] = xParent from rfl]; exact decide_eq_false n3.out
  clear hax
  by_cases hax : axis = xAnc
  · have s4 : (SA.toList == [97, 110, 99, 101, 115, 116, 111, 114]) = true := by rw [← hSAH.out, axq, show [97, 110, 99, 101, 115, 116, 111, 114] = xAnc from rfl, hax]; simp
    have hv : Hid (axisP t axis i = ancL t i) := Lib.hid (by rw [hax]; unfold axisP; rw [if_neg (by decide), if_neg (by decide), if_neg (by decide), if_neg (by decide), if_pos rfl])
    clear hax
    have hc := Lib.hid (anc_any hTH.out _ n c w2 h2H.out hn i hi)
    go_wp2_with fail
    refine hc.out.mono ?_
    rintro e w3 ⟨A', m, c', rfl, ho, hb⟩
    have hoH := Lib.hid ho
    have hbH := Lib.hid hb
    clear ho hb hc
    go_wp2_with fail
    go_ret
    exact ⟨_, _, _, rfl, by rw [hv.out]; exact hoH.out.sq' (by decide), hb12H.out.trans (hbH.out.mono hb12H.out.size)⟩
  have n4 := Lib.hid hax
  have s4 : (SA.toList == [97, 110, 99, 101, 115, 116, 111, 114]) = false := by rw [← hSAH.out, axq, show [97, 110, 99, 101, 115, 116, 111, 114] = xAnc from rfl]; exact decide_eq_false n4.out
  clear hax
  by_cases hax : axis = xAncS
  · have s5 : (SA.toList == [97, 110, 99, 101, 115, 116, 111, 114, 45, 111, 114, 45, 115, 101, 108, 102]) = true := by rw [← hSAH.out, axq, show [97, 110, 99, 101, 115, 116, 111, 114, 45, 111, 114, 45, 115, 101, 108, 102] = xAncS from rfl, hax]; simp
    have hv : Hid (axisP t axis i = i :: ancL t i) := Lib.hid (by rw [hax]; unfold axisP; rw [if_neg (by decide), if_neg (by decide), if_neg (by decide), if_neg (by decide), if_neg (by decide), if_pos rfl])
    clear hax
    have hba : Below w2.heap.size w2 w2.drew := Joins.below_draws w2.heap.size w2 1
    have g1d : w2.drew.cell? ⟨T, 0, none⟩ = some (.int .i64 (i : Nat)) := g1
    have g4d : w2.drew.cell? ⟨U, 4, none⟩ = some (.int .i64 (q.fin : Nat)) := g4
    have hmlH : Hid ((ancL t i).length ≤ 100000) := Lib.hid (by have := anc_len t i; omega)
    go_upto_region 16 with fail
    refine Pl.wp_region_plan 5 (.take 0 (.take 2 (.take 3 (.two 1 (.run 4 .done) 4 (.run 1 .done))))) (fun x => x.cell? ⟨T, 0, none⟩ = some (.int .i64 (i : Nat))) (by kernel_rfl) (by kernel_rfl) (by exact g1d) ?_
    simp only [Pl.fill, List.getElem?_cons_zero, List.getElem?_cons_succ, List.drop_succ_cons, List.drop_zero]
    iterate 3
      first
      | (refine Pl.take_go ?_ (by rfl) (fun _ _ _ h => h) ?_ ?_
         rotate_left
         · (intro x hSw; (try (skip)); go_simp; try with_reducible rfl)
         (try simp only [Act.put, List.setIfInBounds_toArray, List.set_cons_zero, List.set_cons_succ]))
      | (refine Pl.take_skip (by rfl) (fun _ _ _ h => h) ?_
         (try simp only [Act.put, List.setIfInBounds_toArray, List.set_cons_zero, List.set_cons_succ]))
    refine Pl.two_go ?_ ?_
    · refine Pl.run_go (fun K hK => ?_)
      go_simp
      have hx2 := hba.trans (below_alloc w2.drew (.cells #[.int .i64 (i : Nat)] 3))
      have hlit0 := ows_lit (El := IEl) (k := 1) w2.drew [.int .i64 (i : Nat)] i 3 rfl (by decide) rfl
      have hcB := anc_any hTH.out _ n c ((w2.drew.alloc (.cells #[.int .i64 (i : Nat)] 3))) (h2H.out.below QEl.to hx2) hn i hi
      refine hK.out _ _ (Pl.more_go _ (fun _ h => h) (by exact (hx2.cell (p := ⟨T, 0, none⟩) hT2H.out).trans g1) ?_)
      clear hK K
      try simp only [Act.put, List.setIfInBounds_toArray, List.set_cons_zero, List.set_cons_succ]
      refine Pl.run_go (fun K hK => ?_)
      go_simp
      refine hcB.mono ?_
      rintro e x4 ⟨A', m, c', rfl, ho, hb⟩
      have hx4 := hx2.trans (hb.mono hx2.size)
      have hlit := (hlit0.below hb IEl.to).down hba.size
      have ho4 := ho
      refine hK.out _ _ (Pl.more_go _ (fun _ h => h) (by exact (hx4.cell (p := ⟨T, 0, none⟩) hT2H.out).trans g1) ?_)
      clear hK K
      try simp only [Act.put, List.setIfInBounds_toArray, List.set_cons_zero, List.set_cons_succ]
      refine Pl.done_go ?_
      have hml : m ≤ 100000 := by rw [← (ho4.sq' (by decide)).len]; exact hmlH.out
      have hx4H := Lib.hid hx4
      have hlitH := Lib.hid hlit
      have ho4H := Lib.hid (ho4.sq' (by decide))
      clear ho4 hlit hx4 ho hb
      go_wp2_with (at_builtin; apply stop_here)
      refine Stop.go (append_sq (El := IEl) (k := 1) _ 37 3 (.int .i64 0) 8 Tryz.underlying37 info_i rfl (by omega) rfl _ _ rfl w2.heap.size _ [i] rfl hlitH.out _ m c' (ancL t i) rfl ho4H.out IEl.one (fun _ _ => IEl.to) (1 + m) rfl (by omega) (by omega) hx4H.out.size ?_)
      intro A8 c8 x8 ho8 hg8 hb8 hv8
      have hb9 := Lib.hid (hx4H.out.trans hb8)
      have ho9 := Lib.hid ho8
      clear ho8 hg8 hb8 hv8
      go_wp2_with fail
      go_ret
      exact ⟨_, _, _, rfl, by rw [hv.out]; exact ho9.out.sq' (by decide), hb12H.out.trans (hb9.out.mono hb12H.out.size)⟩
    · have hcA := anc_any hTH.out _ n c (w2.drew) (h2H.out.below QEl.to hba) hn i hi
      refine Pl.run_go (fun K hK => ?_)
      go_simp
      refine hcA.mono ?_
      rintro e x3 ⟨A', m, c', rfl, ho, hb⟩
      have hx3 := hba.trans hb
      refine hK.out _ _ (Pl.more_go _ (fun _ h => h) (by exact (hx3.cell (p := ⟨T, 0, none⟩) hT2H.out).trans g1) ?_)
      clear hK K
      try simp only [Act.put, List.setIfInBounds_toArray, List.set_cons_zero, List.set_cons_succ]
      refine Pl.run_go (fun K hK => ?_)
      go_simp
      have hx4 := hx3.trans ((below_alloc x3 (.cells #[.int .i64 (i : Nat)] 3)).mono hx3.size)
      have hlit := (ows_lit (El := IEl) (k := 1) x3 [.int .i64 (i : Nat)] i 3 rfl (by decide) rfl).down hx3.size
      have ho4 : OwS IEl 1 (x3.alloc (.cells #[.int .i64 (i : Nat)] 3)) w2.drew.heap.size 3 (.slice A' m c') (ancL t i) := ho.below (below_alloc x3 (.cells #[.int .i64 (i : Nat)] 3)) IEl.to
      refine hK.out _ _ (Pl.more_go _ (fun _ h => h) (by exact (hx4.cell (p := ⟨T, 0, none⟩) hT2H.out).trans g1) ?_)
      clear hK K
      try simp only [Act.put, List.setIfInBounds_toArray, List.set_cons_zero, List.set_cons_succ]
      refine Pl.done_go ?_
      have hml : m ≤ 100000 := by rw [← (ho4.sq' (by decide)).len]; exact hmlH.out
      have hx4H := Lib.hid hx4
      have hlitH := Lib.hid hlit
      have ho4H := Lib.hid (ho4.sq' (by decide))
      clear ho4 hlit hx4 ho hb
      go_wp2_with (at_builtin; apply stop_here)
      refine Stop.go (append_sq (El := IEl) (k := 1) _ 37 3 (.int .i64 0) 8 Tryz.underlying37 info_i rfl (by omega) rfl _ _ rfl w2.heap.size _ [i] rfl hlitH.out _ m c' (ancL t i) rfl ho4H.out IEl.one (fun _ _ => IEl.to) (1 + m) rfl (by omega) (by omega) hx4H.out.size ?_)
      intro A8 c8 x8 ho8 hg8 hb8 hv8
      have hb9 := Lib.hid (hx4H.out.trans hb8)
      have ho9 := Lib.hid ho8
      clear ho8 hg8 hb8 hv8
      go_wp2_with fail
      go_ret
      exact ⟨_, _, _, rfl, by rw [hv.out]; exact ho9.out.sq' (by decide), hb12H.out.trans (hb9.out.mono hb12H.out.size)⟩
  have n5 := Lib.hid hax
  have s5 : (SA.toList == [97, 110, 99, 101, 115, 116, 111, 114, 45, 111, 114, 45, 115, 101, 108, 102]) = false := by rw [← hSAH.out, axq, show [97, 110, 99, 101, 115, 116, 111, 114, 45, 111, 114, 45, 115, 101, 108, 102] = xAncS from rfl]; exact decide_eq_false n5.out
  clear hax
  by_cases hax : axis = xDesc
  · have s6 : (SA.toList == [100, 101, 115, 99, 101, 110, 100, 97, 110, 116]) = true := by rw [← hSAH.out, axq, show [100, 101, 115, 99, 101, 110, 100, 97, 110, 116] = xDesc from rfl, hax]; simp
    have hv : Hid (axisP t axis i = spanQ (i + 1) (finAt t i) (plainQ t)) := Lib.hid (by rw [hax]; unfold axisP; rw [if_neg (by decide), if_neg (by decide), if_neg (by decide), if_neg (by decide), if_neg (by decide), if_neg (by decide), if_pos rfl])
    clear hax
    have hc := Lib.hid (spanP_any _ n c w2 h2H.out hn (i + 1) q.fin hfn.out)
    rw [show ((i + 1 : Nat) : Int) = (i : Int) + 1 by omega] at hc
    go_wp2_with fail
    refine hc.out.mono ?_
    rintro e w3 ⟨A', m, c', rfl, ho, hb⟩
    have hoH := Lib.hid ho
    have hbH := Lib.hid hb
    clear ho hb hc
    go_wp2_with fail
    go_ret
    exact ⟨_, _, _, rfl, by rw [hv.out, hfq.out]; exact hoH.out.sq' (by decide), hb12H.out.trans (hbH.out.mono hb12H.out.size)⟩
  have n6 := Lib.hid hax
  have s6 : (SA.toList == [100, 101, 115, 99, 101, 110, 100, 97, 110, 116]) = false := by rw [← hSAH.out, axq, show [100, 101, 115, 99, 101, 110, 100, 97, 110, 116] = xDesc from rfl]; exact decide_eq_false n6.out
  clear hax
  by_cases hax : axis = xDescS
  · have s7 : (SA.toList == [100, 101, 115, 99, 101, 110, 100, 97, 110, 116, 45, 111, 114, 45, 115, 101, 108, 102]) = true := by rw [← hSAH.out, axq, show [100, 101, 115, 99, 101, 110, 100, 97, 110, 116, 45, 111, 114, 45, 115, 101, 108, 102] = xDescS from rfl, hax]; simp
    have hv : Hid (axisP t axis i = i :: spanQ (i + 1) (finAt t i) (plainQ t)) := Lib.hid (by rw [hax]; unfold axisP; rw [if_neg (by decide), if_neg (by decide), if_neg (by decide), if_neg (by decide), if_neg (by decide), if_neg (by decide), if_neg (by decide), if_pos rfl])
    clear hax
    have hba : Below w2.heap.size w2 w2.drew := Joins.below_draws w2.heap.size w2 1
    have g1d : w2.drew.cell? ⟨T, 0, none⟩ = some (.int .i64 (i : Nat)) := g1
    have g4d : w2.drew.cell? ⟨U, 4, none⟩ = some (.int .i64 (q.fin : Nat)) := g4
    have hmlH : Hid ((spanQ (i + 1) q.fin (plainQ t)).length ≤ 100000) := Lib.hid (by have := spanQ_len (i + 1) q.fin (plainQ t); have := hfn.out; omega)
    have hwr : IntKind.i64.wrap ((i : Int) + 1) = (i : Int) + 1 := wrap_id (by omega) (by omega)
    go_upto_region 20 with fail
    refine Pl.wp_region_plan 8 (.take 0 (.take 2 (.take 3 (.take 4 (.take 5 (.take 6 (.two 1 (.run 7 .done) 7 (.run 1 .done)))))))) (fun x => x.cell? ⟨T, 0, none⟩ = some (.int .i64 (i : Nat)) ∧ x.cell? ⟨U, 4, none⟩ = some (.int .i64 (q.fin : Nat))) (by kernel_rfl) (by kernel_rfl) (by exact ⟨g1d, g4d⟩) ?_
    simp only [Pl.fill, List.getElem?_cons_zero, List.getElem?_cons_succ, List.drop_succ_cons, List.drop_zero]
    iterate 6
      first
      | (refine Pl.take_go ?_ (by rfl) (fun _ _ _ h => h) ?_ ?_
         rotate_left
         · (intro x hSw; (try (skip)); go_simp; try with_reducible rfl)
         (try simp only [Act.put, List.setIfInBounds_toArray, List.set_cons_zero, List.set_cons_succ]))
      | (refine Pl.take_skip (by rfl) (fun _ _ _ h => h) ?_
         (try simp only [Act.put, List.setIfInBounds_toArray, List.set_cons_zero, List.set_cons_succ]))
    refine Pl.two_go ?_ ?_
    · refine Pl.run_go (fun K hK => ?_)
      go_simp
      have hx2 := hba.trans (below_alloc w2.drew (.cells #[.int .i64 (i : Nat)] 3))
      have hlit0 := ows_lit (El := IEl) (k := 1) w2.drew [.int .i64 (i : Nat)] i 3 rfl (by decide) rfl
      have hcB := spanP_any _ n c ((w2.drew.alloc (.cells #[.int .i64 (i : Nat)] 3))) (h2H.out.below QEl.to hx2) hn (i + 1) q.fin hfn.out
      rw [show ((i + 1 : Nat) : Int) = (i : Int) + 1 by omega] at hcB
      refine hK.out _ _ (Pl.more_go _ (fun _ h => h) (by exact ⟨(hx2.cell (p := ⟨T, 0, none⟩) hT2H.out).trans g1, (hx2.cell (p := ⟨U, 4, none⟩) hU2H.out).trans g4⟩) ?_)
      clear hK K
      try simp only [Act.put, List.setIfInBounds_toArray, List.set_cons_zero, List.set_cons_succ]
      refine Pl.run_go (fun K hK => ?_)
      go_simp
      refine hcB.mono ?_
      rintro e x4 ⟨A', m, c', rfl, ho, hb⟩
      have hx4 := hx2.trans (hb.mono hx2.size)
      have hlit := (hlit0.below hb IEl.to).down hba.size
      have ho4 := ho
      refine hK.out _ _ (Pl.more_go _ (fun _ h => h) (by exact ⟨(hx4.cell (p := ⟨T, 0, none⟩) hT2H.out).trans g1, (hx4.cell (p := ⟨U, 4, none⟩) hU2H.out).trans g4⟩) ?_)
      clear hK K
      try simp only [Act.put, List.setIfInBounds_toArray, List.set_cons_zero, List.set_cons_succ]
      refine Pl.done_go ?_
      have hml : m ≤ 100000 := by rw [← (ho4.sq' (by decide)).len]; exact hmlH.out
      have hx4H := Lib.hid hx4
      have hlitH := Lib.hid hlit
      have ho4H := Lib.hid (ho4.sq' (by decide))
      clear ho4 hlit hx4 ho hb
      go_wp2_with (at_builtin; apply stop_here)
      refine Stop.go (append_sq (El := IEl) (k := 1) _ 37 3 (.int .i64 0) 8 Tryz.underlying37 info_i rfl (by omega) rfl _ _ rfl w2.heap.size _ [i] rfl hlitH.out _ m c' (spanQ (i + 1) q.fin (plainQ t)) rfl ho4H.out IEl.one (fun _ _ => IEl.to) (1 + m) rfl (by omega) (by omega) hx4H.out.size ?_)
      intro A8 c8 x8 ho8 hg8 hb8 hv8
      have hb9 := Lib.hid (hx4H.out.trans hb8)
      have ho9 := Lib.hid ho8
      clear ho8 hg8 hb8 hv8
      go_wp2_with fail
      go_ret
      exact ⟨_, _, _, rfl, by rw [hv.out, hfq.out]; exact ho9.out.sq' (by decide), hb12H.out.trans (hb9.out.mono hb12H.out.size)⟩
    · have hcA := spanP_any _ n c (w2.drew) (h2H.out.below QEl.to hba) hn (i + 1) q.fin hfn.out
      rw [show ((i + 1 : Nat) : Int) = (i : Int) + 1 by omega] at hcA
      refine Pl.run_go (fun K hK => ?_)
      go_simp
      refine hcA.mono ?_
      rintro e x3 ⟨A', m, c', rfl, ho, hb⟩
      have hx3 := hba.trans hb
      refine hK.out _ _ (Pl.more_go _ (fun _ h => h) (by exact ⟨(hx3.cell (p := ⟨T, 0, none⟩) hT2H.out).trans g1, (hx3.cell (p := ⟨U, 4, none⟩) hU2H.out).trans g4⟩) ?_)
      clear hK K
      try simp only [Act.put, List.setIfInBounds_toArray, List.set_cons_zero, List.set_cons_succ]
      refine Pl.run_go (fun K hK => ?_)
      go_simp
      have hx4 := hx3.trans ((below_alloc x3 (.cells #[.int .i64 (i : Nat)] 3)).mono hx3.size)
      have hlit := (ows_lit (El := IEl) (k := 1) x3 [.int .i64 (i : Nat)] i 3 rfl (by decide) rfl).down hx3.size
      have ho4 : OwS IEl 1 (x3.alloc (.cells #[.int .i64 (i : Nat)] 3)) w2.drew.heap.size 3 (.slice A' m c') (spanQ (i + 1) q.fin (plainQ t)) := ho.below (below_alloc x3 (.cells #[.int .i64 (i : Nat)] 3)) IEl.to
      refine hK.out _ _ (Pl.more_go _ (fun _ h => h) (by exact ⟨(hx4.cell (p := ⟨T, 0, none⟩) hT2H.out).trans g1, (hx4.cell (p := ⟨U, 4, none⟩) hU2H.out).trans g4⟩) ?_)
      clear hK K
      try simp only [Act.put, List.setIfInBounds_toArray, List.set_cons_zero, List.set_cons_succ]
      refine Pl.done_go ?_
      have hml : m ≤ 100000 := by rw [← (ho4.sq' (by decide)).len]; exact hmlH.out
      have hx4H := Lib.hid hx4
      have hlitH := Lib.hid hlit
      have ho4H := Lib.hid (ho4.sq' (by decide))
      clear ho4 hlit hx4 ho hb
      go_wp2_with (at_builtin; apply stop_here)
      refine Stop.go (append_sq (El := IEl) (k := 1) _ 37 3 (.int .i64 0) 8 Tryz.underlying37 info_i rfl (by omega) rfl _ _ rfl w2.heap.size _ [i] rfl hlitH.out _ m c' (spanQ (i + 1) q.fin (plainQ t)) rfl ho4H.out IEl.one (fun _ _ => IEl.to) (1 + m) rfl (by omega) (by omega) hx4H.out.size ?_)
      intro A8 c8 x8 ho8 hg8 hb8 hv8
      have hb9 := Lib.hid (hx4H.out.trans hb8)
      have ho9 := Lib.hid ho8
      clear ho8 hg8 hb8 hv8
      go_wp2_with fail
      go_ret
      exact ⟨_, _, _, rfl, by rw [hv.out, hfq.out]; exact ho9.out.sq' (by decide), hb12H.out.trans (hb9.out.mono hb12H.out.size)⟩
  have n7 := Lib.hid hax
  have s7 : (SA.toList == [100, 101, 115, 99, 101, 110, 100, 97, 110, 116, 45, 111, 114, 45, 115, 101, 108, 102]) = false := by rw [← hSAH.out, axq, show [100, 101, 115, 99, 101, 110, 100, 97, 110, 116, 45, 111, 114, 45, 115, 101, 108, 102] = xDescS from rfl]; exact decide_eq_false n7.out
  clear hax
  by_cases hax : axis = xFoll
  · have s8 : (SA.toList == [102, 111, 108, 108, 111, 119, 105, 110, 103]) = true := by rw [← hSAH.out, axq, show [102, 111, 108, 108, 111, 119, 105, 110, 103] = xFoll from rfl, hax]; simp
    have hv : Hid (axisP t axis i = spanQ (finAt t i) t.length (plainQ t)) := Lib.hid (by rw [hax]; unfold axisP; rw [if_neg (by decide), if_neg (by decide), if_neg (by decide), if_neg (by decide), if_neg (by decide), if_neg (by decide), if_neg (by decide), if_neg (by decide), if_pos rfl])
    clear hax
    have hc := Lib.hid (spanP_any _ n c w2 h2H.out hn q.fin n (Nat.le_refl _))
    go_wp2_with fail
    refine hc.out.mono ?_
    rintro e w3 ⟨A', m, c', rfl, ho, hb⟩
    have hoH := Lib.hid ho
    have hbH := Lib.hid hb
    clear ho hb hc
    go_wp2_with fail
    go_ret
    exact ⟨_, _, _, rfl, by rw [hv.out, hfq.out, hlH.out]; exact hoH.out.sq' (by decide), hb12H.out.trans (hbH.out.mono hb12H.out.size)⟩
  have n8 := Lib.hid hax
  have s8 : (SA.toList == [102, 111, 108, 108, 111, 119, 105, 110, 103]) = false := by rw [← hSAH.out, axq, show [102, 111, 108, 108, 111, 119, 105, 110, 103] = xFoll from rfl]; exact decide_eq_false n8.out
  clear hax
  by_cases hax : axis = xFollS
  · have s9 : (SA.toList == [102, 111, 108, 108, 111, 119, 105, 110, 103, 45, 115, 105, 98, 108, 105, 110, 103]) = true := by rw [← hSAH.out, axq, show [102, 111, 108, 108, 111, 119, 105, 110, 103, 45, 115, 105, 98, 108, 105, 110, 103] = xFollS from rfl, hax]; simp
    have hv : Hid (axisP t axis i = sibP t i (finAt t i) t.length) := Lib.hid (by rw [hax]; unfold axisP; rw [if_neg (by decide), if_neg (by decide), if_neg (by decide), if_neg (by decide), if_neg (by decide), if_neg (by decide), if_neg (by decide), if_neg (by decide), if_neg (by decide), if_pos rfl])
    clear hax
    have hc := Lib.hid (sib_any _ n c w2 h2H.out hn i hi q.fin n (Nat.le_refl _))
    go_wp2_with fail
    refine hc.out.mono ?_
    rintro e w3 ⟨A', m, c', rfl, ho, hb⟩
    have hoH := Lib.hid ho
    have hbH := Lib.hid hb
    clear ho hb hc
    go_wp2_with fail
    go_ret
    exact ⟨_, _, _, rfl, by rw [hv.out, hfq.out, hlH.out]; exact hoH.out.sq' (by decide), hb12H.out.trans (hbH.out.mono hb12H.out.size)⟩
  have n9 := Lib.hid hax
  have s9 : (SA.toList == [102, 111, 108, 108, 111, 119, 105, 110, 103, 45, 115, 105, 98, 108, 105, 110, 103]) = false := by rw [← hSAH.out, axq, show [102, 111, 108, 108, 111, 119, 105, 110, 103, 45, 115, 105, 98, 108, 105, 110, 103] = xFollS from rfl]; exact decide_eq_false n9.out
  clear hax
  by_cases hax : axis = xPrec
  · have s10 : (SA.toList == [112, 114, 101, 99, 101, 100, 105, 110, 103]) = true := by rw [← hSAH.out, axq, show [112, 114, 101, 99, 101, 100, 105, 110, 103] = xPrec from rfl, hax]; simp
    have hv : Hid (axisP t axis i = (spanQ 0 i fun k => plainQ t k && decide (finAt t k ≤ i)).reverse) := Lib.hid (by rw [hax]; unfold axisP; rw [if_neg (by decide), if_neg (by decide), if_neg (by decide), if_neg (by decide), if_neg (by decide), if_neg (by decide), if_neg (by decide), if_neg (by decide), if_neg (by decide), if_neg (by decide), if_pos rfl])
    clear hax
    have hc := Lib.hid (spanB_any _ n c w2 h2H.out hn i T g1 hT2H.out 0 i (by omega))
    rw [show ((0 : Nat) : Int) = 0 from rfl] at hc
    go_wp2_with fail
    refine hc.out.mono ?_
    rintro e w3 ⟨A', m, c', rfl, ho, hb⟩
    have hoH := Lib.hid ho
    have hbH := Lib.hid hb
    clear ho hb hc
    have hml := Lib.hid (ho2len hoH.out (by have := spanQ_len 0 i fun k => plainQ t k && decide (finAt t k ≤ i); omega))
    have hc2 := Lib.hid (back_any w3 hoH.out hbH.out.size hml.out)
    clear hoH
    go_wp2_with fail
    refine hc2.out.mono ?_
    rintro e w4 ⟨rfl, ho4, hb4⟩
    have hoH := Lib.hid ho4
    have hbH2 := Lib.hid (hbH.out.trans hb4)
    clear ho4 hb4 hc2
    go_wp2_with fail
    go_ret
    exact ⟨_, _, _, rfl, by rw [hv.out]; exact hoH.out.sq' (by decide), hb12H.out.trans (hbH2.out.mono hb12H.out.size)⟩
  have n10 := Lib.hid hax
  have s10 : (SA.toList == [112, 114, 101, 99, 101, 100, 105, 110, 103]) = false := by rw [← hSAH.out, axq, show [112, 114, 101, 99, 101, 100, 105, 110, 103] = xPrec from rfl]; exact decide_eq_false n10.out
  clear hax
  by_cases hax : axis = xPrecS
  · have s11 : (SA.toList == [112, 114, 101, 99, 101, 100, 105, 110, 103, 45, 115, 105, 98, 108, 105, 110, 103]) = true := by rw [← hSAH.out, axq, show [112, 114, 101, 99, 101, 100, 105, 110, 103, 45, 115, 105, 98, 108, 105, 110, 103] = xPrecS from rfl, hax]; simp
    have hv : Hid (axisP t axis i = (sibP t i 0 i).reverse) := Lib.hid (by rw [hax]; unfold axisP; rw [if_neg (by decide), if_neg (by decide), if_neg (by decide), if_neg (by decide), if_neg (by decide), if_neg (by decide), if_neg (by decide), if_neg (by decide), if_neg (by decide), if_neg (by decide), if_neg (by decide), if_pos rfl])
    clear hax
    have hc := Lib.hid (sib_any _ n c w2 h2H.out hn i hi 0 i (by omega))
    rw [show ((0 : Nat) : Int) = 0 from rfl] at hc
    go_wp2_with fail
    refine hc.out.mono ?_
    rintro e w3 ⟨A', m, c', rfl, ho, hb⟩
    have hoH := Lib.hid ho
    have hbH := Lib.hid hb
    clear ho hb hc
    have hml := Lib.hid (ho2len hoH.out (by have := sibP_len t i 0 i; omega))
    have hc2 := Lib.hid (back_any w3 hoH.out hbH.out.size hml.out)
    clear hoH
    go_wp2_with fail
    refine hc2.out.mono ?_
    rintro e w4 ⟨rfl, ho4, hb4⟩
    have hoH := Lib.hid ho4
    have hbH2 := Lib.hid (hbH.out.trans hb4)
    clear ho4 hb4 hc2
    go_wp2_with fail
    go_ret
    exact ⟨_, _, _, rfl, by rw [hv.out]; exact hoH.out.sq' (by decide), hb12H.out.trans (hbH2.out.mono hb12H.out.size)⟩
  have n11 := Lib.hid hax
  have s11 : (SA.toList == [112, 114, 101, 99, 101, 100, 105, 110, 103, 45, 115, 105, 98, 108, 105, 110, 103]) = false := by rw [← hSAH.out, axq, show [112, 114, 101, 99, 101, 100, 105, 110, 103, 45, 115, 105, 98, 108, 105, 110, 103] = xPrecS from rfl]; exact decide_eq_false n11.out
  clear hax
  have hv : Hid (axisP t axis i = []) := Lib.hid (by unfold axisP; rw [if_neg n0.out, if_neg n1.out, if_neg n2.out, if_neg n3.out, if_neg n4.out, if_neg n5.out, if_neg n6.out, if_neg n7.out, if_neg n8.out, if_neg n9.out, if_neg n10.out, if_neg n11.out])
  go_wp2_with fail
  go_ret
  exact ⟨_, _, _, rfl, by rw [hv.out]; exact sq_none _, hb12H.out⟩
end Go.Proofs.YtdnfnkicmfkkmaaGreatDoor.Vw
end

section
namespace Go.Proofs.YtdnfnkicmfkkmaaGreatDoor.Vw
open Go.RowKit UtfW Xl Xt Xo No
open Go.Proofs.YtdnfnkicmfkkmaaGreatDoor (Ky.frontB Ky.Rl)
open Go.Proofs.YtdnfnkicmfkkmaaGreatDoor.Ky (Ts OwX tv join Rs)

def LEl (w : World) (vs : List Value) (l : List Nat) : Prop := ∃ A n c, vs = [.slice A n c] ∧ Sq IEl 1 w A n c l ∧ n ≤ 1000000
def cntL (ls : List (List Nat)) (k : Nat) : Nat := (ls.map fun l => l.count k).sum
theorem cnt_snoc (ls : List (List Nat)) (l : List Nat) (k : Nat) : cntL (ls ++ [l]) k = cntL ls k + l.count k := by
 unfold cntL
 simp
theorem count_take {l : List Nat} {m : Nat} {x : Nat} (h : l[m]? = some x) (k : Nat) : (l.take (m + 1)).count k = (l.take m).count k + (if (x : Int) = (k : Int) then 1 else 0) := by
 have hm := (List.getElem?_eq_some_iff.1 h).1
 rw [List.take_add_one, h]
 simp only [Option.toList_some, List.count_append, List.count_singleton]
 congr 1
 by_cases e : x = k
 ·simp [e]
 ·simp [e, show ¬ (x : Int) = (k : Int) by omega]

set_option maxHeartbeats 20000000 in
set_option maxRecDepth 100000 in
theorem lcount_any {ls : List (List Nat)} (A : Option Addr) (n c : Nat) (w : World) (h : Sq LEl 1 w A n c ls) (hn : n ≤ 1000) (k : Nat) :
  Calls Tryz.prog 19 #[.slice A n c, .int .i64 (k : Nat)] w fun e w' => e = .returned (.int .i64 (cntL ls k : Nat)) ∧ w' = w := by
 have hlen : Hid (∀ l ∈ ls, l.length ≤ 1000000) := Lib.hid fun l hl => by
  obtain ⟨i, hi⟩ := List.mem_iff_getElem?.1 hl
  have hlt := (List.getElem?_eq_some_iff.1 hi).1
  have hll := h.len
  obtain ⟨b, off, e, hb, hc⟩ := h.cell (by omega)
  obtain ⟨vs, g1, ⟨A', n', c', g2, g3, g4⟩, _⟩ := hc i l hi
  rw [g3.len]; exact g4
 have hl := h.len
 have l1 := h.le
 have l2 := h.max
 have h' := Lib.hid h
 have hlH := Lib.hid hl
 clear h hl
 go_enter Tryz.func19, Tryz.ntmps19
 go_wp2_with fail
 go_loopw [5, 6] (fun v vi wr => ∃ (j s : Nat), j ≤ n ∧ vi = .int .i64 (j : Nat) ∧ v = .int .i64 (s : Nat) ∧ s ≤ j * 1000000 ∧ Hid (cntL (ls.take j) k = s) ∧ Hid (wr = w)) (fun _ vi _ => n - (intOf vi).toNat)
 case atStart => exact ⟨0, 0, by omega, rfl, rfl, by omega, Lib.hid (by simp [cntL]), Lib.hid rfl⟩
 case round =>
  obtain ⟨j, s, hj, rfl, rfl, hsj, hs, hw⟩ := hrel
  obtain rfl := hw.out
  by_cases hlt : j < n
  ·have i1 : decide ((j : Int) < (n : Int)) = true := by rw [decide_eq_true_eq]; omega
   have i2 : decide (j < n) = true := by rw [decide_eq_true_eq]; omega
   have i3 : (j : Int) < (n : Int) := by omega
   obtain ⟨b, off, l, vs, rfl, hbl, hx, hvs, ⟨A', n', c', rfl, hsq, hn'⟩, hcs⟩ := h'.out.at_ hlt
   have m0 : wr.cell? ⟨b, off + j * 1, none⟩ = some (.slice A' n' c') := hcs 0 _ rfl
   rw [Nat.mul_one] at m0
   have p1 := hsq.le
   have p2 := hsq.max
   have hsqH := Lib.hid hsq
   have hxH : Hid (ls.take (j + 1) = ls.take j ++ [l]) := Lib.hid (by rw [List.take_add_one, hx]; rfl)
   have hlnH := Lib.hid hsq.len
   clear hx hvs hcs hsq hbl
   have i5 : (j : Int) * 1 = (j : Int) := by omega
   obtain ⟨wz, rfl⟩ : ∃ wz, wz = wr := ⟨wr, rfl⟩
   go_wp2_with fail
   go_loopw [5, 7] (fun v vi wr => ∃ (m q : Nat), m ≤ n' ∧ vi = .int .i64 (m : Nat) ∧ v = .int .i64 (q : Nat) ∧ q ≤ s + m ∧ Hid (s + (l.take m).count k = q) ∧ Hid (wr = wz)) (fun _ vi _ => n' - (intOf vi).toNat)
   case atStart => exact ⟨0, s, by omega, rfl, rfl, by omega, Lib.hid (by simp), Lib.hid rfl⟩
   case round =>
    obtain ⟨m, q, hm, rfl, rfl, hqm, hq, hwq⟩ := hrel
    obtain rfl := hwq.out
    by_cases hlt2 : m < n'
    ·have k1 : decide ((m : Int) < (n' : Int)) = true := by rw [decide_eq_true_eq]; omega
     have k2 : decide (m < n') = true := by rw [decide_eq_true_eq]; omega
     have k3 : (m : Int) < (n' : Int) := by omega
     obtain ⟨b2, off2, x, vs2, rfl, hbl2, hx2, hvs2, hel2, hcs2⟩ := hsqH.out.at_ hlt2
     obtain rfl : vs2 = [.int .i64 (x : Nat)] := hel2
     have m2 : wr.cell? ⟨b2, off2 + m * 1, none⟩ = some (.int .i64 (x : Nat)) := hcs2 0 _ rfl
     rw [Nat.mul_one] at m2
     have hct := Lib.hid (count_take hx2 k)
     clear hx2 hvs2 hcs2 hbl2
     by_cases hxk : (x : Int) = (k : Int)
     ·have e1 : ((x : Int) == (k : Int)) = true := by rw [beq_iff_eq]; exact hxk
      have hq2 : Hid (s + (l.take (m + 1)).count k = q + 1) := Lib.hid (by rw [hct.out, if_pos hxk, ← hq.out]; omega)
      clear hxk hct hq
      go_wp2_with fail
      go_roundw
      case rel => exact ⟨m + 1, q + 1, by omega, by go_num, by go_num, by omega, hq2, by first | exact Lib.hid rfl | exact Lib.hid trivial⟩
      case measure => simp [intOf]; omega
     ·have e1 : ((x : Int) == (k : Int)) = false := by rw [beq_eq_false_iff_ne]; exact hxk
      have hq2 : Hid (s + (l.take (m + 1)).count k = q) := Lib.hid (by rw [hct.out, if_neg hxk]; exact hq.out)
      clear hxk hct hq
      go_wp2_with fail
      go_roundw
      case rel => exact ⟨m + 1, q, by omega, by go_num, rfl, by omega, hq2, by first | exact Lib.hid rfl | exact Lib.hid trivial⟩
      case measure => simp [intOf]; omega
    ·have k1 : decide ((m : Int) < (n' : Int)) = false := by rw [decide_eq_false_iff_not]; omega
     have k2 : decide (m < n') = false := by rw [decide_eq_false_iff_not]; omega
     obtain rfl : m = n' := by omega
     have hs2 : Hid (cntL (ls.take (j + 1)) k = q) := Lib.hid (by rw [hxH.out, cnt_snoc, hs.out, ← hq.out, List.take_of_length_le (by rw [hlnH.out]; exact Nat.le_refl _)])
     clear hs hq
     go_wp2_with fail
     go_roundw
     case rel => exact ⟨j + 1, q, by omega, by go_num, rfl, by omega, hs2, by first | exact Lib.hid rfl | exact Lib.hid trivial⟩
     case measure => simp [intOf]; omega
  ·have i1 : decide ((j : Int) < (n : Int)) = false := by rw [decide_eq_false_iff_not]; omega
   have i2 : decide (j < n) = false := by rw [decide_eq_false_iff_not]; omega
   obtain rfl : j = n := by omega
   have hs2 : Hid (cntL ls k = s) := Lib.hid (by rw [← hs.out, List.take_of_length_le (by rw [hlH.out]; exact Nat.le_refl _)])
   go_wp2_with fail
   go_ret
   exact ⟨by rw [hs2.out]; rfl, rfl⟩

set_option maxHeartbeats 20000000 in
set_option maxRecDepth 100000 in
theorem cont_any {t : List Q} (hT : Tab t) (A : Option Addr) (n c : Nat) (w : World) (h : Sq QEl 6 w A n c t) (a b : Nat) (hb : b < n) :
  Calls Tryz.prog 20 #[.slice A n c, .int .i64 (a : Nat), .int .i64 (b : Nat)] w fun e w' => e = .returned (.bool (below t a b)) ∧ w' = w := by
 have hl := Lib.hid h.len
 have l1 := h.le
 have l2 := h.max
 have h' := Lib.hid h
 have hTH := Lib.hid hT
 obtain ⟨V, hV⟩ : ∃ V, below t a b = V := ⟨_, rfl⟩
 rw [hV]
 have hVH := Lib.hid hV
 clear h hT hV
 go_enter Tryz.func20, Tryz.ntmps20
 go_wp2_with fail
 go_loopw [2] (fun v wr => ∃ (k : Nat), k < n ∧ v = .int .i64 (k : Nat) ∧ Hid (below t a k = V) ∧ Hid (wr = w)) (fun v _ => (intOf v).toNat)
 case atStart => exact ⟨b, hb, rfl, hVH, Lib.hid rfl⟩
 case round =>
  obtain ⟨k, hk, rfl, hkv, hw⟩ := hrel
  obtain rfl := hw.out
  by_cases hlt : a < k
  ·have i1 : decide ((a : Int) < (k : Int)) = true := by rw [decide_eq_true_eq]; omega
   have i2 : decide (a < k) = true := by rw [decide_eq_true_eq]; omega
   have i3 : (a : Int) < (k : Int) := by omega
   obtain ⟨b0, o0, rfl⟩ := q_adr h'.out (by omega)
   obtain ⟨q, hq, m0, m1, m2, m3, m4, m5⟩ := q_row h'.out hk
   obtain ⟨j, hj, hjk, _⟩ := hTH.out.up k (by omega) (by rw [hl.out]; exact hk)
   have hpq := (at_some hq).2.1
   have hst := hTH.out.below_step (a := a) (by rw [hl.out]; exact hk) hj
   rw [show q.parent = (j : Int) by rw [← hpq, hj]] at m3
   have i5 : (k : Int) < (n : Int) := by omega
   clear hq m0 m1 m2 m4 m5 hj hpq
   by_cases hja : j = a
   ·subst hja
    have hv2 : Hid (V = true) := Lib.hid (by rw [← hkv.out, hst]; simp)
    clear hst
    go_wp2_with fail
    go_ret
    exact ⟨by rw [hv2.out]; rfl, rfl⟩
   ·have e1 : ((j : Int) == (a : Int)) = false := by rw [beq_eq_false_iff_ne]; omega
    have hk2 : Hid (below t a j = V) := Lib.hid (by rw [← hkv.out, hst, decide_eq_false hja, Bool.false_or])
    clear hst hja
    go_wp2_with fail
    go_roundw
    case rel => exact ⟨j, by omega, rfl, hk2, by first | exact Lib.hid rfl | exact Lib.hid trivial⟩
    case measure => simp [intOf]; omega
  ·have i1 : decide ((a : Int) < (k : Int)) = false := by rw [decide_eq_false_iff_not]; omega
   have i2 : decide (a < k) = false := by rw [decide_eq_false_iff_not]; omega
   have hv2 : Hid (V = false) := Lib.hid (by rw [← hkv.out]; unfold below; exact decide_eq_false (by omega))
   go_wp2_with fail
   go_ret
   exact ⟨by rw [hv2.out]; rfl, rfl⟩
end Go.Proofs.YtdnfnkicmfkkmaaGreatDoor.Vw
end

section
namespace Go.Proofs.YtdnfnkicmfkkmaaGreatDoor.Vw
open Go.RowKit UtfW Xl Xt Xo No
open Go.Proofs.YtdnfnkicmfkkmaaGreatDoor (Ky.frontB Ky.Rl)
open Go.Proofs.YtdnfnkicmfkkmaaGreatDoor.Ky (Ts OwX tv join Rs)

theorem resN {r : Except (Int × Nat) Nd} {B0 B : Nat} {e : Ending} {w' : World} (h : NormP B0 B r e w') : ∃ (o0 : Int) (o1 o2 : ByteArray) (o3 : Option Addr) (o4 o5 : Nat) (o6 : Option Addr) (o7 o8 : Nat) (cd : Int) (p : Nat), e = .returned (.tuple #[.agg #[.int .i64 o0, .string o1, .string o2, .slice o3 o4 o5, .slice o6 o7 o8], .int .i64 cd, .int .i64 (p : Nat)]) ∧ ((cd = 0) → ∃ x, r = .ok x ∧ NdI (fun k => k < B0 ∨ (B ≤ k ∧ k < w'.heap.size)) w' [.int .i64 o0, .string o1, .string o2, .slice o3 o4 o5, .slice o6 o7 o8] x) := by
 unfold NormP at h
 cases r with
 | error c =>
  obtain ⟨cd, p⟩ := c
  exact ⟨_, _, _, _, _, _, _, _, _, cd, p, h.2, fun e => absurd e h.1⟩
 | ok x =>
  obtain ⟨vs, rfl, hx⟩ := h
  obtain ⟨kd, nm, tx, as_, kz, ekn⟩ : ∃ kd nm tx as_ kz, x = Nd.mk kd nm tx as_ kz := by cases x; exact ⟨_, _, _, _, _, rfl⟩
  have hx0 := hx
  rw [ekn] at hx0
  obtain ⟨Ai, ci, Ak, ck, rfl, _⟩ := hx0.cells
  exact ⟨_, _, _, _, _, _, _, _, _, 0, 0, rfl, fun _ => ⟨x, rfl, hx⟩⟩

set_option maxHeartbeats 20000000 in
set_option maxRecDepth 100000 in
theorem lnormal_any (w : World) (Al : Option Addr) (nl cl : Nat) (l : List Ky.Rl) (vs : List Value) (n : Nd) (hl : Rs w Al nl cl l) (hbig : Ky.Big l) (hn : NdI (fun j => j < w.heap.size) w vs n) (hup : wN n ≤ 1152921504606846976) :
  Calls Tryz.prog 9 #[.slice Al nl cl, .agg vs.toArray] w fun e w' => (∃ (o0 : Int) (o1 o2 : ByteArray) (o3 : Option Addr) (o4 o5 : Nat) (o6 : Option Addr) (o7 o8 : Nat) (V : Bool), e = .returned (.tuple #[.agg #[.int .i64 o0, .string o1, .string o2, .slice o3 o4 o5, .slice o6 o7 o8], .bool V]) ∧ (V = true → ∃ x, NdI (fun j => j < w'.heap.size) w' [.int .i64 o0, .string o1, .string o2, .slice o3 o4 o5, .slice o6 o7 o8] x ∧ NfD l x)) ∧ Below w.heap.size w w' := by
 obtain ⟨kd, nm, tx, as_, kz, ekn⟩ : ∃ kd nm tx as_ kz, n = Nd.mk kd nm tx as_ kz := by cases n; exact ⟨_, _, _, _, _, rfl⟩
 have hn0 := hn
 rw [ekn] at hn0
 obtain ⟨Ai, ci, Ak, ck, rfl, _⟩ := hn0.cells
 obtain ⟨li, hli⟩ : ∃ la, as_.length = la := ⟨_, rfl⟩
 obtain ⟨lk, hlk⟩ : ∃ lk, kz.length = lk := ⟨_, rfl⟩
 obtain ⟨S1, hS1⟩ : ∃ S, strOf nm = S := ⟨_, rfl⟩
 obtain ⟨S2, hS2⟩ : ∃ S, strOf tx = S := ⟨_, rfl⟩
 rw [hli, hlk, hS1, hS2] at hn
 rw [hli, hlk, hS1, hS2]
 clear hn0 hli hlk hS1 hS2 ekn
 obtain ⟨T, hT⟩ : ∃ T, w.heap.size = T := ⟨_, rfl⟩
 obtain ⟨w1, hw1⟩ : ∃ w1, w.alloc (.cells #[.int .i64 kd, .string S1, .string S2, .slice Ai li ci, .slice Ak lk ck] 26) = w1 := ⟨_, rfl⟩
 obtain ⟨w2, hw2⟩ : ∃ w2, w1.alloc (.cells #[.int .i64 0, .string ⟨#[]⟩, .string ⟨#[]⟩, .slice none 0 0, .slice none 0 0] 26) = w2 := ⟨_, rfl⟩
 obtain ⟨w3, hw3⟩ : ∃ w3, w2.alloc (.cells #[.int .i64 kd, .string S1, .string S2, .slice Ai li ci, .slice Ak lk ck] 26) = w3 := ⟨_, rfl⟩
 have hs1 : w1.heap.size = T + 1 := by rw [← hw1, World.size_alloc, hT]
 have hs2 : w2.heap.size = T + 2 := by rw [← hw2, World.size_alloc, hs1]
 have hs3 : w3.heap.size = T + 3 := by rw [← hw3, World.size_alloc, hs2]
 have hb1 : Below w.heap.size w w1 := by rw [← hw1]; exact (Below.refl _ _).alloc (Nat.le_refl _) _
 have hb2 : Below w1.heap.size w1 w2 := by rw [← hw2]; exact (Below.refl _ _).alloc (Nat.le_refl _) _
 have hb3 : Below w2.heap.size w2 w3 := by rw [← hw3]; exact (Below.refl _ _).alloc (Nat.le_refl _) _
 have hk1 : w1.heap[T]? = some (.cells #[.int .i64 kd, .string S1, .string S2, .slice Ai li ci, .slice Ak lk ck] 26) := by rw [← hw1, ← hT]; exact heap_alloc_new w _
 have hk2 : w2.heap[T + 1]? = some (.cells #[.int .i64 0, .string ⟨#[]⟩, .string ⟨#[]⟩, .slice none 0 0, .slice none 0 0] 26) := by rw [← hw2, ← hs1]; exact heap_alloc_new w1 _
 have hk1' := (hb2.block T (by omega)).trans hk1
 have hbw : Below w.heap.size w w2 := hb1.trans (hb2.mono hb1.size)
 have hbw3 : Below w.heap.size w w3 := hbw.trans (hb3.mono hbw.size)
 have hall : Hid (∀ x, Below w2.heap.size w2 x → (x.cell? ⟨T, 0, none⟩ = some (.int .i64 kd) ∧ x.cell? ⟨T, 1, none⟩ = some (.string S1) ∧ x.cell? ⟨T, 2, none⟩ = some (.string S2) ∧ x.cell? ⟨T, 3, none⟩ = some (.slice Ai li ci) ∧ x.cell? ⟨T, 4, none⟩ = some (.slice Ak lk ck)) ∧ x.heap[T + 1]? = some (.cells #[.int .i64 0, .string ⟨#[]⟩, .string ⟨#[]⟩, .slice none 0 0, .slice none 0 0] 26)) := Lib.hid fun x hx => by
  have g1 := (hx.block T (by omega)).trans hk1'
  exact ⟨⟨Xp.cell_blk g1 (i := 0) rfl, Xp.cell_blk g1 (i := 1) rfl, Xp.cell_blk g1 (i := 2) rfl, Xp.cell_blk g1 (i := 3) rfl, Xp.cell_blk g1 (i := 4) rfl⟩, (hx.block (T + 1) (by omega)).trans hk2⟩
 have hlit := ows_lit (El := NdE (fun j => j < T)) (k := 5) w2 [.int .i64 kd, .string S1, .string S2, .slice Ai li ci, .slice Ak lk ck] n 26 rfl (by decide) (by rw [show w2.alloc (.cells ([.int .i64 kd, .string S1, .string S2, .slice Ai li ci, .slice Ak lk ck] : List Value).toArray 26) = w3 from hw3, ← hT]; exact hn.later (fun j hj => hj) hbw3)
 rw [show w2.alloc (.cells ([.int .i64 kd, .string S1, .string S2, .slice Ai li ci, .slice Ak lk ck] : List Value).toArray 26) = w3 from hw3, hs2] at hlit
 have hnx := Lib.hid (fun (x : World) (hx : Below w.heap.size w x) => NdI.later hn (fun j hj => hj) hx)
 have hlx := Lib.hid (fun (x : World) (hx : Below w.heap.size w x) => hl.below hx)
 have hfit := Lib.hid (rFits_any (fun j => j < T) Al nl cl l _ 1 1 [n] w3 (hl.below hbw3) hbig (hlit.sq' (by decide)) (fun j hj => by omega) (fun x hx => by rw [List.mem_singleton.1 hx]; exact hup))
 obtain ⟨u0, u1, u2, u3, u4⟩ := (hall.out w2 (Below.refl _ _)).1
 have hbw' := Lib.hid hbw
 have hb23 := Lib.hid hb3
 have hTw := Lib.hid hT
 have hs2' := Lib.hid hs2
 clear hl hbig hn hup hlit hb1 hb2 hb3 hbw hbw3 hk1 hk2 hk1'
 go_enter Tryz.func9, Tryz.ntmps9
 go_wp2_with fail
 refine hfit.out.mono ?_
 rintro e w4 ⟨⟨V, rfl, hV⟩, hb4⟩
 have hb4' := Lib.hid (hb23.out.trans (hb4.mono hb23.out.size))
 have hVH := Lib.hid hV
 clear hw1 hw2 hw3 hT hs1 hs2 hs3 hb4 hfit hV u0 u1 u2 u3 u4
 obtain ⟨⟨u0, u1, u2, u3, u4⟩, hr4⟩ := hall.out w4 hb4'.out
 cases V with
 | false =>
  have hbz := hb4'
  clear u0 u1 u2 u3 u4
  obtain ⟨g1, g2, g3⟩ := set5 hr4 (.int .i64 0) (.string ⟨#[]⟩) (.string ⟨#[]⟩) (.slice none 0 0) (.slice none 0 0)
  have hg1 := Lib.hid g1
  have hbF := Lib.hid (Below.set5 (b := T + 1) (hbw'.out.trans (hbz.out.mono hbw'.out.size)) (by have := hTw.out; omega) (.int .i64 0) (.string ⟨#[]⟩) (.string ⟨#[]⟩) (.slice none 0 0) (.slice none 0 0))
  have zg := fun i => frozen_of_row w4 (T + 1) i _ _ hr4
  have z0 := Xp.cell_blk hr4 (i := 0) rfl
  have z1 := Xp.cell_blk hr4 (i := 1) rfl
  have z2 := Xp.cell_blk hr4 (i := 2) rfl
  have z3 := Xp.cell_blk hr4 (i := 3) rfl
  have z4 := Xp.cell_blk hr4 (i := 4) rfl
  have hg2 := Lib.hid g2
  clear g1 g2 g3 hr4
  go_wp2_with fail
  exact bodyPost_ret (res_nd2 (x := .bool false) rfl hg1.out rfl rfl) rfl ⟨⟨_, _, _, _, _, _, _, _, _, false, rfl, fun h => by cases h⟩, hbF.out⟩
 | true =>
  have hF := Lib.hid (hVH.out rfl)
  have hb04 := Lib.hid (hbw'.out.trans (hb4'.out.mono hbw'.out.size))
  have hnr := Lib.hid (rNormal_any T Al nl cl l [.int .i64 kd, .string S1, .string S2, .slice Ai li ci, .slice Ak lk ck] n w4 (by have := hb04.out.size; have := hTw.out; omega) (hlx.out w4 hb04.out) (by rw [← hTw.out]; exact hnx.out w4 hb04.out) (rls_of hF.out.2.1) (by have := hF.out.2.2.2 n (by simp); omega))
  clear hr4
  go_wp2_with fail
  refine hnr.out.mono ?_
  rintro e w5 ⟨hnp, hb5⟩
  obtain ⟨o0, o1, o2, o3, o4, o5, o6, o7, o8, cd, p, rfl, hok⟩ := resN hnp
  have hokH := Lib.hid hok
  have hb5' := Lib.hid (hb4'.out.trans (hb5.mono hb4'.out.size))
  have hba := below_alloc w5 (.cells #[.int .i64 o0, .string o1, .string o2, .slice o3 o4 o5, .slice o6 o7 o8] 26)
  have hk6 := heap_alloc_new w5 (.cells #[.int .i64 o0, .string o1, .string o2, .slice o3 o4 o5, .slice o6 o7 o8] 26)
  have hbz := Lib.hid (hb5'.out.trans (hba.mono hb5'.out.size))
  have hbaH := Lib.hid hba
  obtain ⟨D, hD⟩ : ∃ D, w5.heap.size = D := ⟨_, rfl⟩
  obtain ⟨w6, hw6⟩ : ∃ x, w5.alloc (.cells #[.int .i64 o0, .string o1, .string o2, .slice o3 o4 o5, .slice o6 o7 o8] 26) = x := ⟨_, rfl⟩
  rw [hw6] at hk6 hbz hbaH
  rw [hD] at hk6
  have y0 := Xp.cell_blk hk6 (i := 0) rfl
  have y1 := Xp.cell_blk hk6 (i := 1) rfl
  have y2 := Xp.cell_blk hk6 (i := 2) rfl
  have y3 := Xp.cell_blk hk6 (i := 3) rfl
  have y4 := Xp.cell_blk hk6 (i := 4) rfl
  clear hok hnp hb5 hnr hba u0 u1 u2 u3 u4 hk6
  obtain ⟨_, hr6⟩ := hall.out w6 hbz.out
  obtain ⟨g1, g2, g3⟩ := set5 hr6 (.int .i64 o0) (.string o1) (.string o2) (.slice o3 o4 o5) (.slice o6 o7 o8)
  have hg1 := Lib.hid g1
  have hbF := Lib.hid (Below.set5 (b := T + 1) (hbw'.out.trans (hbz.out.mono hbw'.out.size)) (by have := hTw.out; omega) (.int .i64 o0) (.string o1) (.string o2) (.slice o3 o4 o5) (.slice o6 o7 o8))
  have hfin : Hid (cd = 0 → ∃ x, NdI (fun j => j < (World.setCell (World.setCell (World.setCell (World.setCell (World.setCell w6 ⟨(T + 1), 0, none⟩ (.int .i64 o0)) ⟨(T + 1), 1, none⟩ (.string o1)) ⟨(T + 1), 2, none⟩ (.string o2)) ⟨(T + 1), 3, none⟩ (.slice o3 o4 o5)) ⟨(T + 1), 4, none⟩ (.slice o6 o7 o8)).heap.size) (World.setCell (World.setCell (World.setCell (World.setCell (World.setCell w6 ⟨(T + 1), 0, none⟩ (.int .i64 o0)) ⟨(T + 1), 1, none⟩ (.string o1)) ⟨(T + 1), 2, none⟩ (.string o2)) ⟨(T + 1), 3, none⟩ (.slice o3 o4 o5)) ⟨(T + 1), 4, none⟩ (.slice o6 o7 o8)) [.int .i64 o0, .string o1, .string o2, .slice o3 o4 o5, .slice o6 o7 o8] x ∧ NfD l x) := Lib.hid fun h0 => by
   obtain ⟨x, hx1, hx2⟩ := hokH.out h0
   refine ⟨x, ?_, NfD.of hx1 hF.out.2.1 (hF.out.2.2.2 n (by simp))⟩
   have q1 := hbaH.out.size
   have q2 := hb4'.out.size
   have q3 := hs2'.out
   have q4 := hTw.out
   have q5 := hb5'.out.size
   exact hx2.stay fun k hk => by
    have hkk : k < w5.heap.size := by rcases hk with hk | hk <;> omega
    exact ⟨by rw [g3]; omega, (g2 k (by rcases hk with hk | hk <;> omega)).trans (hbaH.out.block k hkk)⟩
  have zg := fun i => frozen_of_row w6 (T + 1) i _ _ hr6
  have z0 := Xp.cell_blk hr6 (i := 0) rfl
  have z1 := Xp.cell_blk hr6 (i := 1) rfl
  have z2 := Xp.cell_blk hr6 (i := 2) rfl
  have z3 := Xp.cell_blk hr6 (i := 3) rfl
  have z4 := Xp.cell_blk hr6 (i := 4) rfl
  clear g1 g2 g3 hr6
  cases hcd : (cd == 0) with
  | false =>
   have hcdH := Lib.hid hcd
   go_wp2_with fail
   exact bodyPost_ret (res_nd2 (x := .bool false) rfl hg1.out rfl rfl) rfl ⟨⟨_, _, _, _, _, _, _, _, _, false, rfl, fun h => by cases h⟩, hbF.out⟩
  | true =>
   have hcdH := Lib.hid hcd
   go_wp2_with fail
   exact bodyPost_ret (res_nd2 (x := .bool true) rfl hg1.out rfl rfl) rfl ⟨⟨_, _, _, _, _, _, _, _, _, true, rfl, fun _ => hfin.out (by simpa using hcdH.out)⟩, hbF.out⟩
end Go.Proofs.YtdnfnkicmfkkmaaGreatDoor.Vw
end

section
namespace Go.Proofs.YtdnfnkicmfkkmaaGreatDoor.Vw
open Go.RowKit UtfW Xl Xt Xo No
open Go.Proofs.YtdnfnkicmfkkmaaGreatDoor (Ky.frontB Ky.Rl)
open Go.Proofs.YtdnfnkicmfkkmaaGreatDoor.Ky (Ts OwX tv join Rs)

theorem sq_lit2 {α : Type} {El : World → List Value → α → Prop} {k : Nat} (w : World) (va vb : List Value) (x y : α) (E : TypeId) (hk : va.length = k) (hk2 : vb.length = k) (h : El (w.alloc (.cells (va ++ vb).toArray E)) va x) (h2 : El (w.alloc (.cells (va ++ vb).toArray E)) vb y) :
  Sq El k (w.alloc (.cells (va ++ vb).toArray E)) (some ⟨w.heap.size, 0, none⟩) 2 2 [x, y] := by
 refine ⟨rfl, by omega, by omega, fun h => by simp at h, fun _ => ⟨_, _, rfl, by simp [World.size_alloc], fun i z hz => ?_⟩⟩
 have hh : (w.alloc (.cells (va ++ vb).toArray E)).heap[w.heap.size]? = some (.cells (va ++ vb).toArray E) := heap_alloc_new w _
 match i, hz with
 | 0, hz =>
  injection hz with hz
  subst hz
  refine ⟨va, hk, h, fun j v hv => ?_⟩
  have hj := (List.getElem?_eq_some_iff.1 hv).1
  simp only [World.cell?, hh, Nat.zero_add, Nat.zero_mul, List.getElem?_toArray]
  rw [List.getElem?_append_left hj, hv]
  rfl
 | 1, hz =>
  injection hz with hz
  subst hz
  refine ⟨vb, hk2, h2, fun j v hv => ?_⟩
  simp only [World.cell?, hh, Nat.zero_add, Nat.one_mul, List.getElem?_toArray]
  rw [List.getElem?_append_right (by omega), show k + j - va.length = j by omega, hv]
  rfl
def awN : Nd := .mk 1 [97] [] [([120], [49])] [textN [116], .mk 1 [98] [] [] []]
def awL : List Ky.Rl := [([[97]], [])]
def awT : List Q := [⟨6, [], [], -1, 5, [47]⟩, ⟨1, [97], [], 0, 5, [47, 97]⟩, ⟨5, [120], [49], 1, 3, [47, 97, 47, 64, 120]⟩, ⟨2, [], [116], 1, 4, [47, 97, 47, 35, 49]⟩, ⟨1, [98], [], 1, 5, [47, 97, 47, 35, 50]⟩]
theorem awT_eq : tabD awL awN = awT := by decide +kernel
theorem awT_tab : Tab awT := by rw [← awT_eq]; exact tabD_tab _ _ (by decide +kernel)
theorem awT_foll : axP awT [102, 111, 108, 108, 111, 119, 105, 110, 103] 2 = [3, 4] := by decide +kernel
theorem awT_prec : axP awT [112, 114, 101, 99, 101, 100, 105, 110, 103] 4 = [3] := by decide +kernel
theorem awT_val : valP awT 0 = [116] := by decide +kernel
theorem nd_leaf {X : Nat → Prop} (w : World) (kd : Int) (nm tx : Tx) : NdI X w [.int .i64 kd, .string (strOf nm), .string (strOf tx), .slice none 0 0, .slice none 0 0] (.mk kd nm tx [] []) :=
 NdI.make (A := none) (A2 := none) (as_ := []) (ks := []) (sq_none w) (fun a h => by cases h) (sq_none w) (fun a h => by cases h)

set_option maxHeartbeats 20000000 in
set_option maxRecDepth 100000 in
theorem awake_any (w : World) (hU : Ut w) (hTn : Nu.Tens w) :
  Calls Tryz.prog 8 #[] w fun e w' => e = .returned (.bool true) ∧ Below w.heap.size w w' := by
 obtain ⟨w1, hw1⟩ : ∃ x, w.alloc (.cells #[.string ⟨#[120]⟩, .string ⟨#[49]⟩] 68) = x := ⟨_, rfl⟩
 obtain ⟨w2, hw2⟩ : ∃ x, w1.alloc (.cells #[.int .i64 2, .string ⟨#[]⟩, .string ⟨#[116]⟩, .slice none 0 0, .slice none 0 0, .int .i64 1, .string ⟨#[98]⟩, .string ⟨#[]⟩, .slice none 0 0, .slice none 0 0] 26) = x := ⟨_, rfl⟩
 obtain ⟨B0, hB0⟩ : ∃ x, w.heap.size = x := ⟨_, rfl⟩
 obtain ⟨B1, hB1⟩ : ∃ x, w1.heap.size = x := ⟨_, rfl⟩
 obtain ⟨w3, hw3⟩ : ∃ x, w2.alloc (.cells #[.int .i64 1, .string ⟨#[97]⟩, .string ⟨#[]⟩, .slice (some ⟨B0, 0, none⟩) 1 1, .slice (some ⟨B1, 0, none⟩) 2 2] 26) = x := ⟨_, rfl⟩
 obtain ⟨B2, hB2⟩ : ∃ x, w2.heap.size = x := ⟨_, rfl⟩
 obtain ⟨w4, hw4⟩ : ∃ x, w3.alloc (.cells #[.string ⟨#[97]⟩] 9) = x := ⟨_, rfl⟩
 obtain ⟨B3, hB3⟩ : ∃ x, w3.heap.size = x := ⟨_, rfl⟩
 obtain ⟨w5, hw5⟩ : ∃ x, w4.alloc (.cells #[.slice (some ⟨B3, 0, none⟩) 1 1, .slice none 0 0] 70) = x := ⟨_, rfl⟩
 obtain ⟨B4, hB4⟩ : ∃ x, w4.heap.size = x := ⟨_, rfl⟩
 have b1 : Below w.heap.size w w1 := by rw [← hw1]; exact below_alloc w _
 have b2 : Below w1.heap.size w1 w2 := by rw [← hw2]; exact below_alloc w1 _
 have b3 : Below w2.heap.size w2 w3 := by rw [← hw3]; exact below_alloc w2 _
 have b4 : Below w3.heap.size w3 w4 := by rw [← hw4]; exact below_alloc w3 _
 have b5 : Below w4.heap.size w4 w5 := by rw [← hw5]; exact below_alloc w4 _
 have b12 := b2.trans (b3.mono b2.size)
 have b35 := b4.trans (b5.mono b4.size)
 have b02 := b1.trans (b2.mono b1.size)
 have b03 := b02.trans (b3.mono b02.size)
 have b05 := b03.trans (b35.mono b03.size)
 have hat : Sq AtEl 2 w1 (some ⟨B0, 0, none⟩) 1 1 [([120], [49])] := by
  rw [← hw1, ← hB0]
  exact (ows_lit (El := AtEl) (k := 2) w [.string ⟨#[120]⟩, .string ⟨#[49]⟩] ([120], [49]) 68 rfl (by decide) rfl).sq' (by decide)
 have hks : Sq (NdE (fun j => j < w2.heap.size)) 5 w2 (some ⟨B1, 0, none⟩) 2 2 [textN [116], .mk 1 [98] [] [] []] := by
  have h1 := sq_lit2 (El := NdE (fun j => j < w2.heap.size)) (k := 5) w1 [.int .i64 2, .string ⟨#[]⟩, .string ⟨#[116]⟩, .slice none 0 0, .slice none 0 0] [.int .i64 1, .string ⟨#[98]⟩, .string ⟨#[]⟩, .slice none 0 0, .slice none 0 0] (textN [116]) (.mk 1 [98] [] [] []) 26 rfl rfl (nd_leaf _ 2 [] [116]) (nd_leaf _ 1 [98] [])
  rw [show w1.alloc (.cells ([.int .i64 2, .string ⟨#[]⟩, .string ⟨#[116]⟩, .slice none 0 0, .slice none 0 0] ++ [.int .i64 1, .string ⟨#[98]⟩, .string ⟨#[]⟩, .slice none 0 0, .slice none 0 0] : List Value).toArray 26) = w2 from hw2, hB1] at h1
  exact h1
 have hB1l : B1 < w2.heap.size := by rw [← hw2, World.size_alloc, hB1]; omega
 have hB0l : B0 < w2.heap.size := by have := b2.size; rw [← hw1, World.size_alloc, hB0] at this; omega
 have hnd : NdI (fun j => j < w2.heap.size) w2 [.int .i64 1, .string ⟨#[97]⟩, .string ⟨#[]⟩, .slice (some ⟨B0, 0, none⟩) 1 1, .slice (some ⟨B1, 0, none⟩) 2 2] awN := NdI.make (nm := [97]) (tx := []) (as_ := [([120], [49])]) (ks := [textN [116], .mk 1 [98] [] [] []]) (hat.below AtEl.to b2) (fun a e _ => by injection e with e; rw [← e]; exact hB0l) hks (fun a e _ => by injection e with e; rw [← e]; exact hB1l)
 have hnd5 := hnd.later (fun j hj => hj) (b3.trans (b35.mono b3.size))
 have hts : Ts w4 (some ⟨B3, 0, none⟩) 1 1 [[97]] := by
  rw [← hw4, ← hB3]
  exact Ky.ts_lit w3 ⟨#[97]⟩ [97] 9 (0, 0) rfl
 have hrs : Rs w5 (some ⟨B4, 0, none⟩) 1 1 awL := by
  have h1 := (ows_lit (El := Ky.RlEl) (k := 2) w4 [.slice (some ⟨B3, 0, none⟩) 1 1, .slice none 0 0] ([[97]], []) 70 rfl (by decide) (by rw [show w4.alloc (.cells ([.slice (some ⟨B3, 0, none⟩) 1 1, .slice none 0 0] : List Value).toArray 70) = w5 from hw5]; exact ⟨_, _, _, _, _, _, rfl, hts.below b5, Ts.nil _⟩)).sq' (by decide)
  rw [show w4.alloc (.cells ([.slice (some ⟨B3, 0, none⟩) 1 1, .slice none 0 0] : List Value).toArray 70) = w5 from hw5, hB4] at h1
  exact h1
 have hk3 : w3.heap[B2]? = some (.cells #[.int .i64 1, .string ⟨#[97]⟩, .string ⟨#[]⟩, .slice (some ⟨B0, 0, none⟩) 1 1, .slice (some ⟨B1, 0, none⟩) 2 2] 26) := by rw [← hw3, ← hB2]; exact heap_alloc_new w2 _
 have hk4 := (b4.block B2 (Array.getElem?_eq_some_iff.1 hk3).1).trans hk3
 have hk5 := (b5.block B2 (Array.getElem?_eq_some_iff.1 hk4).1).trans hk4
 have y0 := Xp.cell_blk hk5 (i := 0) rfl
 have y1 := Xp.cell_blk hk5 (i := 1) rfl
 have y2 := Xp.cell_blk hk5 (i := 2) rfl
 have y3 := Xp.cell_blk hk5 (i := 3) rfl
 have y4 := Xp.cell_blk hk5 (i := 4) rfl
 have hdoc := vdoc_any (fun j => j < w2.heap.size) w5 (hU.below b05) (hTn.below b05) _ 1 1 awL [.int .i64 1, .string ⟨#[97]⟩, .string ⟨#[]⟩, .slice (some ⟨B0, 0, none⟩) 1 1, .slice (some ⟨B1, 0, none⟩) 2 2] awN hrs hnd5 (fun j hj => by have := (b3.trans (b35.mono b3.size)).size; omega) (by decide +kernel) (by decide +kernel) (by unfold awN nfN; exact ⟨rfl, fun h => absurd h (by decide +kernel)⟩) ⟨_, _, rfl, rfl, rfl⟩ (by decide +kernel)
 rw [awT_eq] at hdoc
 have hdocH := Lib.hid hdoc
 have hb05 := Lib.hid b05
 clear b1 b2 b3 b4 b5 b12 b35 b02 b03 b05 hat hks hB1l hB0l hnd hnd5 hts hrs hk3 hk4 hk5 hdoc hU hTn
 go_enter Tryz.func8, Tryz.ntmps8
 go_wp2_with fail
 refine hdocH.out.mono ?_
 rintro e w6 ⟨A, m, c, rfl, ho, hb6⟩
 have hb06 := Lib.hid (hb05.out.trans (hb6.mono hb05.out.size))
 have hsq := ho.sq' (by decide)
 obtain rfl : 5 = m := hsq.len
 obtain ⟨b0, o0, rfl⟩ := q_adr hsq (by decide)
 obtain ⟨q0, hq0, c00, c01, c02, c03, c04, c05⟩ := q_row hsq (show 0 < 5 by decide)
 obtain ⟨q2, hq2, c20, c21, c22, c23, c24, c25⟩ := q_row hsq (show 2 < 5 by decide)
 obtain rfl : (⟨6, [], [], -1, 5, [47]⟩ : Q) = q0 := by injection hq0
 obtain rfl : (⟨5, [120], [49], 1, 3, [47, 97, 47, 64, 120]⟩ : Q) = q2 := by injection hq2
 have hl5 := hsq.le
 have hm5 := hsq.max
 have hsqH := Lib.hid hsq
 have hx1 := Lib.hid (paxis_any awT_tab _ 5 c w6 hsq [102, 111, 108, 108, 111, 119, 105, 110, 103] 2 (by decide))
 rw [awT_foll] at hx1
 simp only [Nat.zero_mul, Nat.add_zero] at c04
 have c24' : w6.cell? ⟨b0, o0 + 12 + 4, none⟩ = some (.int .i64 3) := c24
 have c04' : w6.cell? ⟨b0, o0 + 4, none⟩ = some (.int .i64 5) := c04
 clear hw1 hw2 hw3 hw4 hw5 hB0 hB1 hB2 hB3 hB4 y0 y1 y2 y3 y4 hdocH ho hb6 hsq hq0 hq2 c00 c01 c02 c03 c05 c20 c21 c22 c23 c25 c24 c04
 go_wp2_with fail
 refine hx1.out.mono ?_
 rintro e w7 ⟨A7, m7, c7, rfl, hs7, hb7⟩
 have hb67 := Lib.hid hb7
 have ha8 := below_alloc w7 (.cells #[.int .i64 3, .int .i64 4] 3)
 have hb68 := Lib.hid (hb7.trans (ha8.mono hb7.size))
 have hlit8 := sq_lit2 (El := IEl) (k := 1) w7 [.int .i64 3] [.int .i64 4] 3 4 3 rfl rfl rfl rfl
 have hi8 := Lib.hid (ints_any _ _ _ [3, 4] _ _ _ [3, 4] _ (hs7.below IEl.to ha8) hlit8)
 rw [decide_eq_true rfl] at hi8
 clear hx1 hb7 hs7 ha8 hlit8 c04' c24'
 go_wp2_with fail
 refine hi8.out.mono ?_
 rintro e w9 ⟨rfl, hb9⟩
 have hb69 := Lib.hid (hb68.out.trans (hb9.mono hb68.out.size))
 have hx2 := Lib.hid (paxis_any awT_tab _ 5 c w9 (hsqH.out.below QEl.to hb69.out) [112, 114, 101, 99, 101, 100, 105, 110, 103] 4 (by decide))
 rw [awT_prec] at hx2
 clear hi8 hb9
 go_wp2_with fail
 refine hx2.out.mono ?_
 rintro e wa ⟨Aa, ma, ca, rfl, hsa, hba⟩
 have haa := below_alloc wa (.cells #[.int .i64 3] 3)
 have hb6a := Lib.hid (hb69.out.trans ((hba.trans (haa.mono hba.size)).mono hb69.out.size))
 have hlita := (ows_lit (El := IEl) (k := 1) wa [.int .i64 3] 3 3 rfl (by decide) rfl).sq' (by decide)
 have hia := Lib.hid (ints_any _ _ _ [3] _ _ _ [3] _ (hsa.below IEl.to haa) hlita)
 rw [decide_eq_true rfl] at hia
 clear hx2 hba hsa haa hlita
 go_wp2_with fail
 refine hia.out.mono ?_
 rintro e wb ⟨rfl, hbb⟩
 have hb6b := Lib.hid (hb6a.out.trans (hbb.mono hb6a.out.size))
 have hx3 := Lib.hid (pvalue_any awT_tab _ 5 c wb (hsqH.out.below QEl.to hb6b.out) (by decide) 0)
 rw [awT_val] at hx3
 clear hia hbb
 go_wp2_with fail
 refine hx3.out.mono ?_
 rintro e wc ⟨rfl, hbc⟩
 have hb6c := Lib.hid (hb6b.out.trans (hbc.mono hb6b.out.size))
 obtain ⟨q4, hq4, c40, c41, c42, c43, c44, c45⟩ := q_row (hsqH.out.below QEl.to hb6c.out) (show 4 < 5 by decide)
 obtain rfl : (⟨1, [98], [], 1, 5, [47, 97, 47, 35, 50]⟩ : Q) = q4 := by injection hq4
 have c45' : wc.cell? ⟨b0, o0 + 24 + 5, none⟩ = some (.string ⟨#[47, 97, 47, 35, 50]⟩) := c45
 have hF := Lib.hid (hb06.out.trans (hb6c.out.mono hb06.out.size))
 have v1 : ((strOf [116]).toList == [116]) = true := by rw [axq]; exact decide_eq_true rfl
 clear hx3 hbc hq4 c40 c41 c42 c43 c44 c45
 go_wp2_with fail
 go_ret
 exact ⟨rfl, hF.out⟩
end Go.Proofs.YtdnfnkicmfkkmaaGreatDoor.Vw
end

section
namespace Go.Proofs.YtdnfnkicmfkkmaaGreatDoor.Vw
open Go.RowKit UtfW Xl Xt Xo No
open Go.Proofs.YtdnfnkicmfkkmaaGreatDoor (Ky.frontB Ky.Rl)
open Go.Proofs.YtdnfnkicmfkkmaaGreatDoor.Ky (Ts OwX tv join Rs)

theorem path_some {t : List Q} {k : Nat} {x : Q} (h : t[k]? = some x) : pathAt t k = x.path := by unfold pathAt; rw [h]
set_option maxHeartbeats 20000000 in
set_option maxRecDepth 100000 in
theorem paths_law (w : World) (hU : Ut w) (hTn : Nu.Tens w) (Al : Option Addr) (nl cl : Nat) (l : List Ky.Rl) (vs : List Value) (n : Nd) (hl : Rs w Al nl cl l) (hbig : Ky.Big l) (hn : NdI (fun j => j < w.heap.size) w vs n) (hup : wN n ≤ 1152921504606846976) :
    Calls Tryz.prog 4 #[.slice Al nl cl, .agg vs.toArray] w fun e w' => e = .returned (.bool true) ∧ Below w.heap.size w w' := by
  obtain ⟨kd, nm, tx, as_, kz, ekn⟩ : ∃ kd nm tx as_ kz, n = Nd.mk kd nm tx as_ kz := by cases n; exact ⟨_, _, _, _, _, rfl⟩
  have hn0 := hn
  rw [ekn] at hn0
  obtain ⟨Ai, ci, Ak, ck, rfl, _⟩ := hn0.cells
  obtain ⟨li, hli⟩ : ∃ la, as_.length = la := ⟨_, rfl⟩
  obtain ⟨lk, hlk⟩ : ∃ lk, kz.length = lk := ⟨_, rfl⟩
  obtain ⟨S1, hS1⟩ : ∃ S, strOf nm = S := ⟨_, rfl⟩
  obtain ⟨S2, hS2⟩ : ∃ S, strOf tx = S := ⟨_, rfl⟩
  rw [hli, hlk, hS1, hS2] at hn
  rw [hli, hlk, hS1, hS2]
  clear hn0 hli hlk hS1 hS2 ekn
  obtain ⟨T, hT⟩ : ∃ T, w.heap.size = T := ⟨_, rfl⟩
  obtain ⟨w1, hw1⟩ : ∃ w1, w.alloc (.cells #[.int .i64 kd, .string S1, .string S2, .slice Ai li ci, .slice Ak lk ck] 26) = w1 := ⟨_, rfl⟩
  have hs1 : w1.heap.size = T + 1 := by rw [← hw1, World.size_alloc, hT]
  have hb1 : Below w.heap.size w w1 := by rw [← hw1]; exact (Below.refl _ _).alloc (Nat.le_refl _) _
  have hk1 : w1.heap[T]? = some (.cells #[.int .i64 kd, .string S1, .string S2, .slice Ai li ci, .slice Ak lk ck] 26) := by rw [← hw1, ← hT]; exact heap_alloc_new w _
  have hall : Hid (∀ x, Below w1.heap.size w1 x → x.cell? ⟨T, 0, none⟩ = some (.int .i64 kd) ∧ x.cell? ⟨T, 1, none⟩ = some (.string S1) ∧ x.cell? ⟨T, 2, none⟩ = some (.string S2) ∧ x.cell? ⟨T, 3, none⟩ = some (.slice Ai li ci) ∧ x.cell? ⟨T, 4, none⟩ = some (.slice Ak lk ck)) := Lib.hid fun x hx => by
    have g1 := (hx.block T (by omega)).trans hk1
    exact ⟨Xp.cell_blk g1 (i := 0) rfl, Xp.cell_blk g1 (i := 1) rfl, Xp.cell_blk g1 (i := 2) rfl, Xp.cell_blk g1 (i := 3) rfl, Xp.cell_blk g1 (i := 4) rfl⟩
  have haw := Lib.hid (awake_any w1 (hU.below hb1) (hTn.below hb1))
  have hnor := Lib.hid (fun (x : World) (hx : Below w.heap.size w x) => lnormal_any x Al nl cl l [.int .i64 kd, .string S1, .string S2, .slice Ai li ci, .slice Ak lk ck] n (hl.below hx) hbig ((NdI.later hn (fun j hj => hj) hx).stay fun j hj => ⟨Nat.lt_of_lt_of_le hj hx.size, rfl⟩) hup)
  have hlx := Lib.hid (fun (x : World) (hx : Below w.heap.size w x) => hl.below hx)
  have hUx := Lib.hid (fun (x : World) (hx : Below w.heap.size w x) => And.intro (hU.below hx) (hTn.below hx))
  have hb1' := Lib.hid hb1
  clear hl hbig hn hup hU hTn hb1 hk1 hs1
  go_enter Tryz.func4, Tryz.ntmps4
  go_wp2_with fail
  refine haw.out.mono ?_
  rintro e w2 ⟨rfl, hb2⟩
  have hb2' := Lib.hid hb2
  clear hw1 hT hb2 haw
  obtain ⟨u0, u1, u2, u3, u4⟩ := hall.out w2 hb2'.out
  have hb02 := Lib.hid (hb1'.out.trans (hb2'.out.mono hb1'.out.size))
  have hnr := Lib.hid (hnor.out w2 hb02.out)
  go_wp2_with fail
  refine hnr.out.mono ?_
  rintro e w3 ⟨⟨o0, o1, o2, o3, o4, o5, o6, o7, o8, V, rfl, hV⟩, hb3⟩
  have hVH := Lib.hid hV
  have hb03 := Lib.hid (hb02.out.trans (hb3.mono hb02.out.size))
  have hba := below_alloc w3 (.cells #[.int .i64 o0, .string o1, .string o2, .slice o3 o4 o5, .slice o6 o7 o8] 26)
  have hk4 := heap_alloc_new w3 (.cells #[.int .i64 o0, .string o1, .string o2, .slice o3 o4 o5, .slice o6 o7 o8] 26)
  have hbaH := Lib.hid hba
  obtain ⟨D, hD⟩ : ∃ D, w3.heap.size = D := ⟨_, rfl⟩
  obtain ⟨w4, hw4⟩ : ∃ x, w3.alloc (.cells #[.int .i64 o0, .string o1, .string o2, .slice o3 o4 o5, .slice o6 o7 o8] 26) = x := ⟨_, rfl⟩
  rw [hw4] at hk4 hbaH hba
  rw [hD] at hk4
  have hD4 : Hid (D < w4.heap.size) := Lib.hid (Array.getElem?_eq_some_iff.1 hk4).1
  have hdx : Hid (∀ x, Below w4.heap.size w4 x → x.cell? ⟨D, 0, none⟩ = some (.int .i64 o0) ∧ x.cell? ⟨D, 1, none⟩ = some (.string o1) ∧ x.cell? ⟨D, 2, none⟩ = some (.string o2) ∧ x.cell? ⟨D, 3, none⟩ = some (.slice o3 o4 o5) ∧ x.cell? ⟨D, 4, none⟩ = some (.slice o6 o7 o8)) := Lib.hid fun x hx => by
    have g1 := (hx.block D hD4.out).trans hk4
    exact ⟨Xp.cell_blk g1 (i := 0) rfl, Xp.cell_blk g1 (i := 1) rfl, Xp.cell_blk g1 (i := 2) rfl, Xp.cell_blk g1 (i := 3) rfl, Xp.cell_blk g1 (i := 4) rfl⟩
  have hb04 := Lib.hid (hb03.out.trans (hba.mono hb03.out.size))
  clear hV hb3 hba hk4 hnr u0 u1 u2 u3 u4
  cases V with
  | false =>
    go_wp2_with fail
    go_ret
    exact ⟨rfl, hb04.out⟩
  | true =>
    obtain ⟨x, hx0, hN0⟩ := hVH.out rfl
    have hNf := Lib.hid hN0
    have hnx : Hid (∀ y, Below w4.heap.size w4 y → NdI (fun j => j < w3.heap.size) y [.int .i64 o0, .string o1, .string o2, .slice o3 o4 o5, .slice o6 o7 o8] x) := Lib.hid fun y hy => NdI.later hx0 (fun j hj => hj) (hbaH.out.trans (hy.mono hbaH.out.size))
    have hX3 : Hid (∀ y, Below w4.heap.size w4 y → ∀ j, j < w3.heap.size → j < y.heap.size) := Lib.hid fun y hy j hj => Nat.lt_of_lt_of_le hj (Nat.le_trans hbaH.out.size hy.size)
    obtain ⟨y0, y1, y2, y3, y4⟩ := hdx.out w4 (Below.refl _ _)
    clear hx0 hN0 hVH hall
    have hdoc := Lib.hid (vdoc_any _ w4 (hUx.out w4 hb04.out).1 (hUx.out w4 hb04.out).2 Al nl cl l [.int .i64 o0, .string o1, .string o2, .slice o3 o4 o5, .slice o6 o7 o8] x (hlx.out w4 hb04.out) (hnx.out w4 (Below.refl _ _)) (hX3.out w4 (Below.refl _ _)) hNf.out.wts hNf.out.fair hNf.out.nf hNf.out.root hNf.out.w)
    go_wp2_with fail
    refine hdoc.out.mono ?_
    rintro e w5 ⟨A, m, c, rfl, ho5, hb5⟩
    have hb45 := Lib.hid hb5
    have hb05 := Lib.hid (hb04.out.trans (hb5.mono hb04.out.size))
    obtain ⟨t, ht⟩ : ∃ t, tabD l x = t := ⟨_, rfl⟩
    rw [ht] at ho5
    have htH := Lib.hid ht
    have hsq := Lib.hid (ho5.sq' (by decide))
    have hlt : Hid (t.length = m) := Lib.hid hsq.out.len
    have hm1 : m ≤ 1201 := by rw [← hlt.out, ← ht]; exact hNf.out.len
    have hm2 : 1 < m := by rw [← hlt.out, ← ht]; exact hNf.out.paths.2
    have hTab : Hid (Tab t) := Lib.hid (by rw [← ht]; exact hNf.out.tab)
    have hPath : Hid (Paths t) := Lib.hid (by rw [← ht]; exact hNf.out.paths.1)
    have htx : Hid (txS t ≤ 1200) := Lib.hid (by rw [← ht]; exact hNf.out.txt)
    have l1 := hsq.out.le
    have l2 := hsq.out.max
    clear hdoc ho5 hb5 ht y0 y1 y2 y3 y4 hw4 hD
    go_wp2_with fail
    go_loopw [8] (fun vi wr => ∃ (i : Nat), i ≤ m ∧ vi = .int .i64 (i : Nat) ∧ Hid (Below w5.heap.size w5 wr)) (fun vi _ => m - (intOf vi).toNat)
    case atStart => exact ⟨0, by omega, rfl, Lib.hid (Below.refl _ _)⟩
    case round =>
      obtain ⟨i, hi, rfl, hbr⟩ := hrel
      by_cases hlt1 : i < m
      · skip
        have i1 : decide ((i : Int) < (m : Int)) = true := by rw [decide_eq_true_eq]; omega
        have i2 : decide (i < m) = true := by rw [decide_eq_true_eq]; omega
        have i3 : (i : Int) < (m : Int) := by omega
        obtain ⟨b0, o0, rfl⟩ := q_adr hsq.out (by omega)
        obtain ⟨q, hq, _⟩ := q_row hsq.out hlt1
        have hpi := Lib.hid (path_some hq)
        have hqH := Lib.hid hq
        obtain ⟨P1, hP1⟩ : ∃ S, strOf q.path = S := ⟨_, rfl⟩
        have hP1H := Lib.hid hP1
        clear hq hP1
        obtain ⟨wz, rfl⟩ : ∃ wz, wz = wr := ⟨wr, rfl⟩
        go_wp2_with fail
        go_loopw [9] (fun vk wr => ∃ (k : Nat), k ≤ i ∧ vk = .int .i64 (k : Nat) ∧ Hid (Below wz.heap.size wz wr)) (fun vk _ => i - (intOf vk).toNat)
        case atStart => exact ⟨0, by omega, rfl, Lib.hid (Below.refl _ _)⟩
        case round =>
          obtain ⟨k, hk, rfl, hbk⟩ := hrel
          have hb5r := Lib.hid (hbr.out.trans (hbk.out.mono hbr.out.size))
          have hin : (i : Int) < (m : Int) := by omega
          by_cases hlt2 : k < i
          · skip
            have k1 : decide ((k : Int) < (i : Int)) = true := by rw [decide_eq_true_eq]; omega
            have k2 : decide (k < i) = true := by rw [decide_eq_true_eq]; omega
            have k3 : (k : Int) < (i : Int) := by omega
            obtain ⟨q', hq', u0, u1, u2, u3, u4, u5⟩ := q_row (hsq.out.below QEl.to hb5r.out) hlt1
            obtain rfl : q = q' := by rw [hqH.out] at hq'; injection hq'
            rw [hP1H.out] at u5
            obtain ⟨r, hr, v0, v1, v2, v3, v4, v5⟩ := q_row (hsq.out.below QEl.to hb5r.out) (show k < m by omega)
            have hne : ((strOf q.path).toList == (strOf r.path).toList) = false := by
              rw [Ky.str_eq]
              exact decide_eq_false (by rw [← hpi.out, ← path_some hr]; exact hPath.out.one i k (by rw [hlt.out]; exact hlt1) hlt2)
            obtain ⟨P2, hP2⟩ : ∃ S, strOf r.path = S := ⟨_, rfl⟩
            rw [hP1H.out, hP2] at hne
            rw [hP2] at v5
            have k4 : (k : Int) < (m : Int) := by omega
            clear hq' hr v0 v1 v2 v3 v4 u0 u1 u2 u3 u4 hP2
            have u5d : wr.drew.cell? ⟨b0, o0 + i * 6 + 5, none⟩ = some (.string P1) := u5
            have v5d : wr.drew.cell? ⟨b0, o0 + k * 6 + 5, none⟩ = some (.string P2) := v5
            have hbd := Lib.hid (hbk.out.trans (Below.mono (Joins.below_draws wr.heap.size wr 1) hbk.out.size))
            go_upto_region 13 with fail
            refine Pl.wp_region_plan 10 (.take 0 (.take 1 (.take 2 (.take 3 (.take 4 (.take 5 (.take 6 (.take 7 (.take 8 (.take 9 .done)))))))))) (fun x => x.cell? ⟨b0, o0 + i * 6 + 5, none⟩ = some (.string P1) ∧ x.cell? ⟨b0, o0 + k * 6 + 5, none⟩ = some (.string P2)) (by kernel_rfl) (by kernel_rfl) (by exact ⟨u5d, v5d⟩) ?_
            simp only [Pl.fill, List.getElem?_cons_zero, List.getElem?_cons_succ, List.drop_succ_cons, List.drop_zero]
            iterate 10
              first
              | (refine Pl.take_go ?_ (by rfl) (fun _ _ _ h => h) ?_ ?_
                 rotate_left
                 · (intro x hSw; (try (dsimp only at hSw)); go_simp; try with_reducible rfl)
                 (try simp only [Act.put, List.setIfInBounds_toArray, List.set_cons_zero, List.set_cons_succ]))
              | (refine Pl.take_skip (by rfl) (fun _ _ _ h => h) ?_
                 (try simp only [Act.put, List.setIfInBounds_toArray, List.set_cons_zero, List.set_cons_succ]))
            refine Pl.done_go ?_
            go_wp2_with fail
            go_roundw
            case rel => exact ⟨k + 1, by omega, by go_num, hbd⟩
            case measure => simp [intOf]; omega
          · skip
            have k1 : decide ((k : Int) < (i : Int)) = false := by rw [decide_eq_false_iff_not]; omega
            have k2 : decide (k < i) = false := by rw [decide_eq_false_iff_not]; omega
            have hki : k = i := by omega
            by_cases h0 : i = 0
            · have j1 : decide ((0 : Int) < (i : Int)) = false := by rw [decide_eq_false_iff_not]; omega
              have j2 : decide (0 < i) = false := by rw [decide_eq_false_iff_not]; omega
              clear hki h0
              go_wp2_with fail
              go_roundw
              case rel => exact ⟨i + 1, by omega, by go_num, hb5r⟩
              case measure => simp [intOf]; omega
            · have j1 : decide ((0 : Int) < (i : Int)) = true := by rw [decide_eq_true_eq]; omega
              have j2 : decide (0 < i) = true := by rw [decide_eq_true_eq]; omega
              obtain ⟨q', hq', u0, u1, u2, u3, u4, u5⟩ := q_row (hsq.out.below QEl.to hb5r.out) hlt1
              obtain rfl : q = q' := by rw [hqH.out] at hq'; injection hq'
              obtain ⟨j, u, hpj, hji, hu0, hcat⟩ := hPath.out.up i (by omega) (by rw [hlt.out]; exact hlt1)
              obtain ⟨r, hr, v0, v1, v2, v3, v4, v5⟩ := q_row (hsq.out.below QEl.to hb5r.out) (show j < m by omega)
              have hpq : q.parent = (j : Int) := by rw [← (at_some hq').2.1]; exact hpj
              rw [hpq] at u3
              have hqp : q.path = r.path ++ u := by rw [← hpi.out, ← path_some hr]; exact hcat
              have hul : 0 < u.length := List.length_pos_iff.2 hu0
              have z1 : ((strOf q.path).size : Int) = ((r.path.length + u.length : Nat) : Int) := by rw [hqp]; simp [strOf, ByteArray.size]
              have z2 : ((strOf r.path).size : Int) = ((r.path.length : Nat) : Int) := by simp [strOf, ByteArray.size]
              have hcut : (strOf q.path).extract 0 r.path.length = strOf r.path := by rw [hqp, Ky.bs_cut, show (strOf (r.path ++ u)).data.toList = r.path ++ u by simp [strOf]]; simp
              rw [hP1H.out] at u5 z1 hcut
              obtain ⟨P2, hP2⟩ : ∃ S, strOf r.path = S := ⟨_, rfl⟩
              rw [hP2] at v5 z2 hcut
              have hk4 : (j : Int) < (m : Int) := by omega
              obtain ⟨np, hnp⟩ : ∃ x, r.path.length = x := ⟨_, rfl⟩
              obtain ⟨nu, hnu⟩ : ∃ x, u.length = x := ⟨_, rfl⟩
              rw [hnp] at z1 z2 hcut
              rw [hnu] at z1 hul
              have hcmp : (P2.toList != P2.toList) = false := by simp
              clear hki h0 hq' hr hpj hqp hu0 hcat u0 u1 u2 u4 v0 v1 v2 v3 v4 hP2 hpq hnp hnu
              go_upto_region 17 with fail
              go_wp2_with fail
              go_roundw
              case rel => exact ⟨i + 1, by omega, by go_num, hb5r⟩
              case measure => simp [intOf]; omega
      · skip
        have i1 : decide ((i : Int) < (m : Int)) = false := by rw [decide_eq_false_iff_not]; omega
        have i2 : decide (i < m) = false := by rw [decide_eq_false_iff_not]; omega
        have i9 : decide ((1 : Int) < (m : Int)) = true := by rw [decide_eq_true_eq]; omega
        have i8 : decide (1 < m) = true := by rw [decide_eq_true_eq]; omega
        have hbF := Lib.hid (hb05.out.trans (hbr.out.mono hb05.out.size))
        go_wp2_with fail
        go_ret
        exact ⟨rfl, hbF.out⟩
end Go.Proofs.YtdnfnkicmfkkmaaGreatDoor.Vw
end

section
namespace Go.Proofs.YtdnfnkicmfkkmaaGreatDoor.Vw
open Go.RowKit UtfW Xl Xt Xo No
open Go.Proofs.YtdnfnkicmfkkmaaGreatDoor (Ky.frontB Ky.Rl)
open Go.Proofs.YtdnfnkicmfkkmaaGreatDoor.Ky (Ts OwX tv join Rs)

end Go.Proofs.YtdnfnkicmfkkmaaGreatDoor.Vw
end

section
namespace Go.Proofs.YtdnfnkicmfkkmaaGreatDoor.Vw
open Go.RowKit UtfW Xl Xt Xo No
open Go.Proofs.YtdnfnkicmfkkmaaGreatDoor (Ky.frontB Ky.Rl)
open Go.Proofs.YtdnfnkicmfkkmaaGreatDoor.Ky (Ts OwX tv join Rs)

theorem axP_nat {t : List Q} {i : Nat} (hi : i < t.length) (x : Tx) : axP t x (i : Nat) = axisP t x i := by unfold axP; rw [if_neg (by omega), Int.toNat_natCast]
theorem axisR_len (t : List Q) (x : Tx) (i : Nat) : (axisR t x i).length ≤ t.length := by
 unfold axisR
 have h : ((List.range t.length).filter (inQ t x i)).length ≤ t.length := by
  refine Nat.le_trans (List.length_filter_le _ _) ?_
  simp
 split
 ·simpa using h
 ·exact h
theorem LEl.to {w w' : World} (hb : Below w.heap.size w w') : ∀ vs l, LEl w vs l → LEl w' vs l := by
 rintro vs l ⟨A, n, c, rfl, h, hn⟩
 exact ⟨A, n, c, rfl, h.below (fun vs x hx => IEl.to vs x hx) hb, hn⟩
def prA (j : Nat) : Tx := match j with | 0 => xChild | 1 => xDesc | 2 => xFollS | _ => xFoll
def prB (j : Nat) : Tx := match j with | 0 => xParent | 1 => xAnc | 2 => xPrecS | _ => xPrec
theorem lits_row (w : World) (ls : List (List Nat)) (vs : List Value) (E : TypeId) (hl : vs.length = ls.length) (h : ∀ (i : Nat) v l, vs[i]? = some v → ls[i]? = some l → LEl (w.alloc (.cells vs.toArray E)) [v] l) (hn : ls.length ≤ 1000) :
  Sq LEl 1 (w.alloc (.cells vs.toArray E)) (some ⟨w.heap.size, 0, none⟩) ls.length ls.length ls := by
 refine ⟨rfl, Nat.le_refl _, by omega, fun h => by simp at h, fun _ => ⟨_, _, rfl, by simp [World.size_alloc], fun i z hz => ?_⟩⟩
 have hh : (w.alloc (.cells vs.toArray E)).heap[w.heap.size]? = some (.cells vs.toArray E) := heap_alloc_new w _
 have hi := (List.getElem?_eq_some_iff.1 hz).1
 obtain ⟨v, hv⟩ : ∃ v, vs[i]? = some v := ⟨_, List.getElem?_eq_getElem (by omega)⟩
 refine ⟨[v], rfl, h i v z hv hz, fun j u hu => ?_⟩
 match j, hu with
 | 0, hu =>
  injection hu with hu
  subst hu
  simp only [World.cell?, hh, Nat.zero_add, Nat.mul_one, Nat.add_zero, List.getElem?_toArray]
  exact hv
set_option maxHeartbeats 20000000 in
set_option maxRecDepth 100000 in
theorem axes_law (w : World) (hU : Ut w) (hTn : Nu.Tens w) (Al : Option Addr) (nl cl : Nat) (l : List Ky.Rl) (vs : List Value) (n : Nd) (hl : Rs w Al nl cl l) (hbig : Ky.Big l) (hn : NdI (fun j => j < w.heap.size) w vs n) (hup : wN n ≤ 1152921504606846976) (pk : Nat) (hpk : pk < 256) :
  Calls Tryz.prog 5 #[.slice Al nl cl, .agg vs.toArray, .int .u8 (pk : Nat)] w fun e w' => e = .returned (.bool true) ∧ Below w.heap.size w w' := by
 obtain ⟨kd, nm, tx, as_, kz, ekn⟩ : ∃ kd nm tx as_ kz, n = Nd.mk kd nm tx as_ kz := by cases n; exact ⟨_, _, _, _, _, rfl⟩
 have hn0 := hn
 rw [ekn] at hn0
 obtain ⟨Ai, ci, Ak, ck, rfl, _⟩ := hn0.cells
 obtain ⟨li, hli⟩ : ∃ la, as_.length = la := ⟨_, rfl⟩
 obtain ⟨lk, hlk⟩ : ∃ lk, kz.length = lk := ⟨_, rfl⟩
 obtain ⟨S1, hS1⟩ : ∃ S, strOf nm = S := ⟨_, rfl⟩
 obtain ⟨S2, hS2⟩ : ∃ S, strOf tx = S := ⟨_, rfl⟩
 rw [hli, hlk, hS1, hS2] at hn
 rw [hli, hlk, hS1, hS2]
 clear hn0 hli hlk hS1 hS2 ekn
 obtain ⟨T, hT⟩ : ∃ T, w.heap.size = T := ⟨_, rfl⟩
 obtain ⟨w1, hw1⟩ : ∃ w1, w.alloc (.cells #[.int .i64 kd, .string S1, .string S2, .slice Ai li ci, .slice Ak lk ck] 26) = w1 := ⟨_, rfl⟩
 have hs1 : w1.heap.size = T + 1 := by rw [← hw1, World.size_alloc, hT]
 have hb1 : Below w.heap.size w w1 := by rw [← hw1]; exact (Below.refl _ _).alloc (Nat.le_refl _) _
 have hk1 : w1.heap[T]? = some (.cells #[.int .i64 kd, .string S1, .string S2, .slice Ai li ci, .slice Ak lk ck] 26) := by rw [← hw1, ← hT]; exact heap_alloc_new w _
 have hall : Hid (∀ x, Below w1.heap.size w1 x → x.cell? ⟨T, 0, none⟩ = some (.int .i64 kd) ∧ x.cell? ⟨T, 1, none⟩ = some (.string S1) ∧ x.cell? ⟨T, 2, none⟩ = some (.string S2) ∧ x.cell? ⟨T, 3, none⟩ = some (.slice Ai li ci) ∧ x.cell? ⟨T, 4, none⟩ = some (.slice Ak lk ck)) := Lib.hid fun x hx => by
  have g1 := (hx.block T (by omega)).trans hk1
  exact ⟨Xp.cell_blk g1 (i := 0) rfl, Xp.cell_blk g1 (i := 1) rfl, Xp.cell_blk g1 (i := 2) rfl, Xp.cell_blk g1 (i := 3) rfl, Xp.cell_blk g1 (i := 4) rfl⟩
 have haw := Lib.hid (awake_any w1 (hU.below hb1) (hTn.below hb1))
 have hnor := Lib.hid (fun (x : World) (hx : Below w.heap.size w x) => lnormal_any x Al nl cl l [.int .i64 kd, .string S1, .string S2, .slice Ai li ci, .slice Ak lk ck] n (hl.below hx) hbig ((NdI.later hn (fun j hj => hj) hx).stay fun j hj => ⟨Nat.lt_of_lt_of_le hj hx.size, rfl⟩) hup)
 have hlx := Lib.hid (fun (x : World) (hx : Below w.heap.size w x) => hl.below hx)
 have hUx := Lib.hid (fun (x : World) (hx : Below w.heap.size w x) => And.intro (hU.below hx) (hTn.below hx))
 have hb1' := Lib.hid hb1
 clear hl hbig hn hup hU hTn hb1 hk1 hs1
 go_enter Tryz.func5, Tryz.ntmps5
 go_wp2_with fail
 refine haw.out.mono ?_
 rintro e w2 ⟨rfl, hb2⟩
 have hb2' := Lib.hid hb2
 clear hw1 hT hb2 haw
 obtain ⟨u0, u1, u2, u3, u4⟩ := hall.out w2 hb2'.out
 have hb02 := Lib.hid (hb1'.out.trans (hb2'.out.mono hb1'.out.size))
 have hnr := Lib.hid (hnor.out w2 hb02.out)
 go_wp2_with fail
 refine hnr.out.mono ?_
 rintro e w3 ⟨⟨o0, o1, o2, o3, o4, o5, o6, o7, o8, V, rfl, hV⟩, hb3⟩
 have hVH := Lib.hid hV
 have hb03 := Lib.hid (hb02.out.trans (hb3.mono hb02.out.size))
 have hba := below_alloc w3 (.cells #[.int .i64 o0, .string o1, .string o2, .slice o3 o4 o5, .slice o6 o7 o8] 26)
 have hk4 := heap_alloc_new w3 (.cells #[.int .i64 o0, .string o1, .string o2, .slice o3 o4 o5, .slice o6 o7 o8] 26)
 have hbaH := Lib.hid hba
 obtain ⟨D, hD⟩ : ∃ D, w3.heap.size = D := ⟨_, rfl⟩
 obtain ⟨w4, hw4⟩ : ∃ x, w3.alloc (.cells #[.int .i64 o0, .string o1, .string o2, .slice o3 o4 o5, .slice o6 o7 o8] 26) = x := ⟨_, rfl⟩
 rw [hw4] at hk4 hbaH hba
 rw [hD] at hk4
 have hD4 : Hid (D < w4.heap.size) := Lib.hid (Array.getElem?_eq_some_iff.1 hk4).1
 have hdx : Hid (∀ x, Below w4.heap.size w4 x → x.cell? ⟨D, 0, none⟩ = some (.int .i64 o0) ∧ x.cell? ⟨D, 1, none⟩ = some (.string o1) ∧ x.cell? ⟨D, 2, none⟩ = some (.string o2) ∧ x.cell? ⟨D, 3, none⟩ = some (.slice o3 o4 o5) ∧ x.cell? ⟨D, 4, none⟩ = some (.slice o6 o7 o8)) := Lib.hid fun x hx => by
  have g1 := (hx.block D hD4.out).trans hk4
  exact ⟨Xp.cell_blk g1 (i := 0) rfl, Xp.cell_blk g1 (i := 1) rfl, Xp.cell_blk g1 (i := 2) rfl, Xp.cell_blk g1 (i := 3) rfl, Xp.cell_blk g1 (i := 4) rfl⟩
 have hb04 := Lib.hid (hb03.out.trans (hba.mono hb03.out.size))
 clear hV hb3 hba hk4 hnr u0 u1 u2 u3 u4
 cases V with
 | false =>
  go_wp2_with fail
  go_ret
  exact ⟨rfl, hb04.out⟩
 | true =>
  obtain ⟨x, hx0, hN0⟩ := hVH.out rfl
  have hNf := Lib.hid hN0
  have hnx : Hid (∀ y, Below w4.heap.size w4 y → NdI (fun j => j < w3.heap.size) y [.int .i64 o0, .string o1, .string o2, .slice o3 o4 o5, .slice o6 o7 o8] x) := Lib.hid fun y hy => NdI.later hx0 (fun j hj => hj) (hbaH.out.trans (hy.mono hbaH.out.size))
  have hX3 : Hid (∀ y, Below w4.heap.size w4 y → ∀ j, j < w3.heap.size → j < y.heap.size) := Lib.hid fun y hy j hj => Nat.lt_of_lt_of_le hj (Nat.le_trans hbaH.out.size hy.size)
  obtain ⟨y0, y1, y2, y3, y4⟩ := hdx.out w4 (Below.refl _ _)
  clear hx0 hN0 hVH hall
  have hdoc := Lib.hid (vdoc_any _ w4 (hUx.out w4 hb04.out).1 (hUx.out w4 hb04.out).2 Al nl cl l [.int .i64 o0, .string o1, .string o2, .slice o3 o4 o5, .slice o6 o7 o8] x (hlx.out w4 hb04.out) (hnx.out w4 (Below.refl _ _)) (hX3.out w4 (Below.refl _ _)) hNf.out.wts hNf.out.fair hNf.out.nf hNf.out.root hNf.out.w)
  go_wp2_with fail
  refine hdoc.out.mono ?_
  rintro e w5 ⟨A, m, c, rfl, ho5, hb5⟩
  have hb45 := Lib.hid hb5
  have hb05 := Lib.hid (hb04.out.trans (hb5.mono hb04.out.size))
  obtain ⟨t, ht⟩ : ∃ t, tabD l x = t := ⟨_, rfl⟩
  rw [ht] at ho5
  have htH := Lib.hid ht
  have hsq := Lib.hid (ho5.sq' (by decide))
  have hlt : Hid (t.length = m) := Lib.hid hsq.out.len
  have hm1 : m ≤ 1201 := by rw [← hlt.out, ← ht]; exact hNf.out.len
  have hm2 : 1 < m := by rw [← hlt.out, ← ht]; exact hNf.out.paths.2
  have hTab : Hid (Tab t) := Lib.hid (by rw [← ht]; exact hNf.out.tab)
  have hPath : Hid (Paths t) := Lib.hid (by rw [← ht]; exact hNf.out.paths.1)
  have htx : Hid (txS t ≤ 1200) := Lib.hid (by rw [← ht]; exact hNf.out.txt)
  have l1 := hsq.out.le
  have l2 := hsq.out.max
  clear hdoc ho5 hb5 ht y0 y1 y2 y3 y4 hw4 hD
  by_cases hm60 : 60 < m
  ·have j1 : decide ((60 : Int) < (m : Int)) = true := by rw [decide_eq_true_eq]; omega
   have j2 : decide (60 < m) = true := by rw [decide_eq_true_eq]; omega
   go_wp2_with fail
   go_ret
   exact ⟨rfl, hb05.out⟩
  have j1 : decide ((60 : Int) < (m : Int)) = false := by rw [decide_eq_false_iff_not]; omega
  have j2 : decide (60 < m) = false := by rw [decide_eq_false_iff_not]; omega
  have hrem : (pk : Int).tmod (m : Int) = ((pk % m : Nat) : Int) := by rfl
  have hm0 : ((m : Int) == 0) = false := by rw [beq_eq_false_iff_ne]; omega
  obtain ⟨i, hi⟩ : ∃ i, pk % m = i := ⟨_, rfl⟩
  have him : i < m := by rw [← hi]; exact Nat.mod_lt _ (by omega)
  rw [hi] at hrem
  clear hi
  have hc := Lib.hid (paxis_any hTab.out A m c w5 (hsq.out.below QEl.to (Below.refl _ _)) xSelf (i : Nat) (by omega))
  rw [axP_nat (by rw [hlt.out]; exact him) xSelf, axis_eq hTab.out (by rw [hlt.out]; exact him) xSelf] at hc
  go_wp2_with fail
  refine hc.out.mono ?_
  rintro e va0 ⟨A0, m0, c0, rfl, hs, hb⟩
  have hv0 := Lib.hid ((Below.refl w5.heap.size w5).trans (hb.mono (Below.refl w5.heap.size w5).size))
  have hs0 := Lib.hid hs
  have hm0 : Hid (m0 ≤ 1000000) := Lib.hid (by rw [← hs.len]; have := axisR_len t xSelf i; have := hlt.out; omega)
  have hk0 := Lib.hid hs
  clear hc hs hb hs0
  have hc := Lib.hid (paxis_any hTab.out A m c va0 (hsq.out.below QEl.to hv0.out) xAnc (i : Nat) (by omega))
  rw [axP_nat (by rw [hlt.out]; exact him) xAnc, axis_eq hTab.out (by rw [hlt.out]; exact him) xAnc] at hc
  go_wp2_with fail
  refine hc.out.mono ?_
  rintro e va1 ⟨A1, m1, c1, rfl, hs, hb⟩
  have hv1 := Lib.hid (hv0.out.trans (hb.mono hv0.out.size))
  have hs1 := Lib.hid hs
  have hm1 : Hid (m1 ≤ 1000000) := Lib.hid (by rw [← hs.len]; have := axisR_len t xAnc i; have := hlt.out; omega)
  have hk0 := Lib.hid (hk0.out.below IEl.to hb)
  have hk1 := Lib.hid hs
  clear hc hs hb hs1
  have hc := Lib.hid (paxis_any hTab.out A m c va1 (hsq.out.below QEl.to hv1.out) xDesc (i : Nat) (by omega))
  rw [axP_nat (by rw [hlt.out]; exact him) xDesc, axis_eq hTab.out (by rw [hlt.out]; exact him) xDesc] at hc
  go_wp2_with fail
  refine hc.out.mono ?_
  rintro e va2 ⟨A2, m2, c2, rfl, hs, hb⟩
  have hv2 := Lib.hid (hv1.out.trans (hb.mono hv1.out.size))
  have hs2 := Lib.hid hs
  have hm2 : Hid (m2 ≤ 1000000) := Lib.hid (by rw [← hs.len]; have := axisR_len t xDesc i; have := hlt.out; omega)
  have hk0 := Lib.hid (hk0.out.below IEl.to hb)
  have hk1 := Lib.hid (hk1.out.below IEl.to hb)
  have hk2 := Lib.hid hs
  clear hc hs hb hs2
  have hc := Lib.hid (paxis_any hTab.out A m c va2 (hsq.out.below QEl.to hv2.out) xPrec (i : Nat) (by omega))
  rw [axP_nat (by rw [hlt.out]; exact him) xPrec, axis_eq hTab.out (by rw [hlt.out]; exact him) xPrec] at hc
  go_wp2_with fail
  refine hc.out.mono ?_
  rintro e va3 ⟨A3, m3, c3, rfl, hs, hb⟩
  have hv3 := Lib.hid (hv2.out.trans (hb.mono hv2.out.size))
  have hs3 := Lib.hid hs
  have hm3 : Hid (m3 ≤ 1000000) := Lib.hid (by rw [← hs.len]; have := axisR_len t xPrec i; have := hlt.out; omega)
  have hk0 := Lib.hid (hk0.out.below IEl.to hb)
  have hk1 := Lib.hid (hk1.out.below IEl.to hb)
  have hk2 := Lib.hid (hk2.out.below IEl.to hb)
  have hk3 := Lib.hid hs
  clear hc hs hb hs3
  have hc := Lib.hid (paxis_any hTab.out A m c va3 (hsq.out.below QEl.to hv3.out) xFoll (i : Nat) (by omega))
  rw [axP_nat (by rw [hlt.out]; exact him) xFoll, axis_eq hTab.out (by rw [hlt.out]; exact him) xFoll] at hc
  go_wp2_with fail
  refine hc.out.mono ?_
  rintro e va4 ⟨A4, m4, c4, rfl, hs, hb⟩
  have hv4 := Lib.hid (hv3.out.trans (hb.mono hv3.out.size))
  have hs4 := Lib.hid hs
  have hm4 : Hid (m4 ≤ 1000000) := Lib.hid (by rw [← hs.len]; have := axisR_len t xFoll i; have := hlt.out; omega)
  have hk0 := Lib.hid (hk0.out.below IEl.to hb)
  have hk1 := Lib.hid (hk1.out.below IEl.to hb)
  have hk2 := Lib.hid (hk2.out.below IEl.to hb)
  have hk3 := Lib.hid (hk3.out.below IEl.to hb)
  have hk4 := Lib.hid hs
  clear hc hs hb hs4
  have ha := below_alloc va4 (.cells #[.slice A0 m0 c0, .slice A1 m1 c1, .slice A2 m2 c2, .slice A3 m3 c3, .slice A4 m4 c4] 37)
  have hrow0 := lits_row va4 [axisR t xSelf i, axisR t xAnc i, axisR t xDesc i, axisR t xPrec i, axisR t xFoll i] [.slice A0 m0 c0, .slice A1 m1 c1, .slice A2 m2 c2, .slice A3 m3 c3, .slice A4 m4 c4] 37 rfl (fun j v l hv hl => by
   match j, hv, hl with
   | 0, hv, hl =>
    injection hv with hv
    injection hl with hl
    subst hv; subst hl
    exact ⟨_, _, _, rfl, hk0.out.below IEl.to ha, hm0.out⟩
   | 1, hv, hl =>
    injection hv with hv
    injection hl with hl
    subst hv; subst hl
    exact ⟨_, _, _, rfl, hk1.out.below IEl.to ha, hm1.out⟩
   | 2, hv, hl =>
    injection hv with hv
    injection hl with hl
    subst hv; subst hl
    exact ⟨_, _, _, rfl, hk2.out.below IEl.to ha, hm2.out⟩
   | 3, hv, hl =>
    injection hv with hv
    injection hl with hl
    subst hv; subst hl
    exact ⟨_, _, _, rfl, hk3.out.below IEl.to ha, hm3.out⟩
   | 4, hv, hl =>
    injection hv with hv
    injection hl with hl
    subst hv; subst hl
    exact ⟨_, _, _, rfl, hk4.out.below IEl.to ha, hm4.out⟩
   ) (by simp)
  obtain ⟨B6, hB6⟩ : ∃ b, va4.heap.size = b := ⟨_, rfl⟩
  obtain ⟨w6, hw6⟩ : ∃ x, va4.alloc (.cells #[.slice A0 m0 c0, .slice A1 m1 c1, .slice A2 m2 c2, .slice A3 m3 c3, .slice A4 m4 c4] 37) = x := ⟨_, rfl⟩
  rw [show va4.alloc (.cells ([.slice A0 m0 c0, .slice A1 m1 c1, .slice A2 m2 c2, .slice A3 m3 c3, .slice A4 m4 c4] : List Value).toArray 37) = w6 from hw6, hB6] at hrow0
  rw [hw6] at ha
  have hrow := Lib.hid hrow0
  have hv6 := Lib.hid (hv4.out.trans (ha.mono hv4.out.size))
  clear hrow0 ha hk0 hm0 hk1 hm1 hk2 hm2 hk3 hm3 hk4 hm4
  go_wp2_with fail
  clear hw6 hB6
  go_loopw [12] (fun vk wr => ∃ (k : Nat), k ≤ m ∧ vk = .int .i64 (k : Nat) ∧ Hid (Below w6.heap.size w6 wr)) (fun vk _ => m - (intOf vk).toNat)
  case atStart => exact ⟨0, by omega, rfl, Lib.hid (Below.refl _ _)⟩
  case round =>
   obtain ⟨k, hk, rfl, hbr⟩ := hrel
   have hb5r := Lib.hid (hv6.out.trans (hbr.out.mono hv6.out.size))
   by_cases hlt1 : k < m
   ·skip
    have k1 : decide ((k : Int) < (m : Int)) = true := by rw [decide_eq_true_eq]; omega
    have k2 : decide (k < m) = true := by rw [decide_eq_true_eq]; omega
    have k3 : (k : Int) < (m : Int) := by omega
    obtain ⟨b0, o0, rfl⟩ := q_adr hsq.out (by omega)
    obtain ⟨q, hq, u0, u1, u2, u3, u4, u5⟩ := q_row (hsq.out.below QEl.to hb5r.out) hlt1
    have hkd := (at_some hq).1
    have hcn := lcount_any _ 5 5 wr (hrow.out.below (LEl.to hbr.out) hbr.out) (by omega) k
    have hfv := five (t := t) i k (by rw [hlt.out]; exact hlt1)
    rw [hkd] at hfv
    have ecn : cntL [axisR t xSelf i, axisR t xAnc i, axisR t xDesc i, axisR t xPrec i, axisR t xFoll i] k = if q.kind = 5 ∧ k ≠ i then 0 else 1 := by rw [← hfv]; simp [cntL]
    rw [ecn] at hcn
    have hbn := Lib.hid hbr
    clear hq u1 u2 u3 u4 u5 hkd hfv ecn
    by_cases hk5 : q.kind = 5
    ·have j1 : (q.kind == 5) = true := by rw [beq_iff_eq]; exact hk5
     by_cases hki : k = i
     ·have j2 : ((k : Int) != (i : Int)) = false := by rw [bne_eq_false_iff_eq]; omega
      rw [if_neg (fun h => h.2 hki)] at hcn
      have hcH := Lib.hid hcn
      clear hk5 hki hcn
      go_wp2_with fail
      refine hcH.out.mono ?_
      rintro e wy ⟨rfl, hwy⟩
      subst hwy
      go_wp2_with fail
      go_roundw
      case rel => exact ⟨k + 1, by omega, by go_num, hbr⟩
      case measure => simp [intOf]; omega
     ·have j2 : ((k : Int) != (i : Int)) = true := by rw [bne_iff_ne]; omega
      rw [if_pos ⟨hk5, hki⟩] at hcn
      have hcH := Lib.hid hcn
      clear hk5 hki hcn
      go_wp2_with fail
      refine hcH.out.mono ?_
      rintro e wy ⟨rfl, hwy⟩
      subst hwy
      go_wp2_with fail
      go_roundw
      case rel => exact ⟨k + 1, by omega, by go_num, hbr⟩
      case measure => simp [intOf]; omega
    ·have j1 : (q.kind == 5) = false := by rw [beq_eq_false_iff_ne]; exact hk5
     rw [if_neg (fun h => hk5 h.1)] at hcn
     have hcH := Lib.hid hcn
     clear hk5 hcn
     go_wp2_with fail
     refine hcH.out.mono ?_
     rintro e wy ⟨rfl, hwy⟩
     subst hwy
     go_wp2_with fail
     go_roundw
     case rel => exact ⟨k + 1, by omega, by go_num, hbr⟩
     case measure => simp [intOf]; omega
   ·skip
    have k1 : decide ((k : Int) < (m : Int)) = false := by rw [decide_eq_false_iff_not]; omega
    have k2 : decide (k < m) = false := by rw [decide_eq_false_iff_not]; omega
    clear hrow
    have hba := below_alloc wr (.cells #[.string ⟨#[99, 104, 105, 108, 100]⟩, .string ⟨#[112, 97, 114, 101, 110, 116]⟩, .string ⟨#[100, 101, 115, 99, 101, 110, 100, 97, 110, 116]⟩, .string ⟨#[97, 110, 99, 101, 115, 116, 111, 114]⟩, .string ⟨#[102, 111, 108, 108, 111, 119, 105, 110, 103, 45, 115, 105, 98, 108, 105, 110, 103]⟩, .string ⟨#[112, 114, 101, 99, 101, 100, 105, 110, 103, 45, 115, 105, 98, 108, 105, 110, 103]⟩, .string ⟨#[102, 111, 108, 108, 111, 119, 105, 110, 103]⟩, .string ⟨#[112, 114, 101, 99, 101, 100, 105, 110, 103]⟩] 45)
    have hk7 := heap_alloc_new wr (.cells #[.string ⟨#[99, 104, 105, 108, 100]⟩, .string ⟨#[112, 97, 114, 101, 110, 116]⟩, .string ⟨#[100, 101, 115, 99, 101, 110, 100, 97, 110, 116]⟩, .string ⟨#[97, 110, 99, 101, 115, 116, 111, 114]⟩, .string ⟨#[102, 111, 108, 108, 111, 119, 105, 110, 103, 45, 115, 105, 98, 108, 105, 110, 103]⟩, .string ⟨#[112, 114, 101, 99, 101, 100, 105, 110, 103, 45, 115, 105, 98, 108, 105, 110, 103]⟩, .string ⟨#[102, 111, 108, 108, 111, 119, 105, 110, 103]⟩, .string ⟨#[112, 114, 101, 99, 101, 100, 105, 110, 103]⟩] 45)
    obtain ⟨PB, hPB⟩ : ∃ b, wr.heap.size = b := ⟨_, rfl⟩
    obtain ⟨w7, hw7⟩ : ∃ x, wr.alloc (.cells #[.string ⟨#[99, 104, 105, 108, 100]⟩, .string ⟨#[112, 97, 114, 101, 110, 116]⟩, .string ⟨#[100, 101, 115, 99, 101, 110, 100, 97, 110, 116]⟩, .string ⟨#[97, 110, 99, 101, 115, 116, 111, 114]⟩, .string ⟨#[102, 111, 108, 108, 111, 119, 105, 110, 103, 45, 115, 105, 98, 108, 105, 110, 103]⟩, .string ⟨#[112, 114, 101, 99, 101, 100, 105, 110, 103, 45, 115, 105, 98, 108, 105, 110, 103]⟩, .string ⟨#[102, 111, 108, 108, 111, 119, 105, 110, 103]⟩, .string ⟨#[112, 114, 101, 99, 101, 100, 105, 110, 103]⟩] 45) = x := ⟨_, rfl⟩
    rw [hw7] at hba hk7
    rw [hPB] at hk7
    have hb57 := Lib.hid (hb5r.out.trans (hba.mono hb5r.out.size))
    have hk7H := Lib.hid hk7
    have hPc : Hid (∀ (j : Nat) x, j < 4 → Below w7.heap.size w7 x → x.cell? ⟨PB, j * 2, none⟩ = some (.string (strOf (prA j))) ∧ x.cell? ⟨PB, j * 2 + 1, none⟩ = some (.string (strOf (prB j)))) := Lib.hid fun j x hj hx => by
     have g := (hx.block PB (Array.getElem?_eq_some_iff.1 hk7).1).trans hk7
     match j, hj with
     | 0, _ => exact ⟨Xp.cell_blk g (i := 0) rfl, Xp.cell_blk g (i := 1) rfl⟩
     | 1, _ => exact ⟨Xp.cell_blk g (i := 2) rfl, Xp.cell_blk g (i := 3) rfl⟩
     | 2, _ => exact ⟨Xp.cell_blk g (i := 4) rfl, Xp.cell_blk g (i := 5) rfl⟩
     | 3, _ => exact ⟨Xp.cell_blk g (i := 6) rfl, Xp.cell_blk g (i := 7) rfl⟩
    clear hba hk7
    go_wp2_with fail
    clear hw7 hPB
    go_loopw [15] (fun vj wr => ∃ (j : Nat), j ≤ 4 ∧ vj = .int .i64 (j : Nat) ∧ Hid (Below w7.heap.size w7 wr)) (fun vj _ => 4 - (intOf vj).toNat)
    case atStart => exact ⟨0, by omega, rfl, Lib.hid (Below.refl _ _)⟩
    case round =>
     obtain ⟨j, hj, rfl, hbj⟩ := hrel
     have hb5j := Lib.hid (hb57.out.trans (hbj.out.mono hb57.out.size))
     by_cases hltj : j < 4
     ·skip
      have j1 : decide ((j : Int) < 4) = true := by rw [decide_eq_true_eq]; omega
      have j2 : decide (j < 4) = true := by rw [decide_eq_true_eq]; omega
      have j3 : (j : Int) < 4 := by omega
      obtain ⟨p0, p1⟩ := hPc.out j wr hltj hbj.out
      obtain ⟨xa, hxa⟩ : ∃ x, prA j = x := ⟨_, rfl⟩
      obtain ⟨xb, hxb⟩ : ∃ x, prB j = x := ⟨_, rfl⟩
      have hpair : Hid (∀ k, k < m → kindAt t i ≠ 5 → kindAt t k ≠ 5 → (axisR t xa i).count k = (axisR t xb k).count i) := Lib.hid fun k hk h1 h2 => by
       have h := pair (t := t) i k (by rw [hlt.out]; exact him) (by rw [hlt.out]; exact hk) h1 h2
       rw [← hxa, ← hxb]
       match j, hltj with
       | 0, _ => exact h.1
       | 1, _ => exact h.2.1
       | 2, _ => exact h.2.2.1
       | 3, _ => exact h.2.2.2
      rw [hxa] at p0
      have hc := Lib.hid (paxis_any hTab.out A m c wr (hsq.out.below QEl.to hb5j.out) xa (i : Nat) (by omega))
      rw [axP_nat (by rw [hlt.out]; exact him) xa, axis_eq hTab.out (by rw [hlt.out]; exact him) xa] at hc
      obtain ⟨SXA, hSXA⟩ : ∃ S, strOf xa = S := ⟨_, rfl⟩
      rw [hSXA] at p0 hc
      clear p1 hxa hSXA
      obtain ⟨wz, rfl⟩ : ∃ wz, wz = wr := ⟨wr, rfl⟩
      have j5 : (j : Int) < 4 := by omega
      go_wp2_with fail
      refine hc.out.mono ?_
      rintro e w8 ⟨A8, m8, c8, rfl, hs, hb⟩
      have hb78 := Lib.hid (hbj.out.trans (hb.mono hbj.out.size))
      have hth := Lib.hid hs
      have hm8 : Hid (m8 ≤ 1000000) := Lib.hid (by rw [← hs.len]; have := axisR_len t xa i; have := hlt.out; omega)
      clear hc hs hb p0
      go_wp2_with fail
      go_loopw [17] (fun vk wr => ∃ (k : Nat), k ≤ m ∧ vk = .int .i64 (k : Nat) ∧ Hid (Below w8.heap.size w8 wr)) (fun vk _ => m - (intOf vk).toNat)
      case atStart => exact ⟨0, by omega, rfl, Lib.hid (Below.refl _ _)⟩
      case round =>
       obtain ⟨k, hk, rfl, hbk⟩ := hrel
       have hb7k := Lib.hid (hb78.out.trans (hbk.out.mono hb78.out.size))
       have hb5k := Lib.hid (hb57.out.trans (hb7k.out.mono hb57.out.size))
       by_cases hltk : k < m
       ·skip
        have k1 : decide ((k : Int) < (m : Int)) = true := by rw [decide_eq_true_eq]; omega
        have k2 : decide (k < m) = true := by rw [decide_eq_true_eq]; omega
        have k3 : (k : Int) < (m : Int) := by omega
        obtain ⟨b0, o0, rfl⟩ := q_adr hsq.out (by omega)
        obtain ⟨q, hq, u0, u1, u2, u3, u4, u5⟩ := q_row (hsq.out.below QEl.to hb5k.out) hltk
        obtain ⟨r, hr, v0, v1, v2, v3, v4, v5⟩ := q_row (hsq.out.below QEl.to hb5k.out) him
        have ekk := Lib.hid (at_some hq)
        have eki := Lib.hid (at_some hr)
        have i5 : (k : Int) < (m : Int) := by omega
        have i6 : (i : Int) < (m : Int) := by omega
        clear hq hr u1 u2 u3 u4 u5 v1 v2 v3 v4 v5
        by_cases hk5 : q.kind = 5
        ·have j1 : (q.kind == 5) = true := by rw [beq_iff_eq]; exact hk5
         clear hk5
         go_wp2_with fail
         go_roundw
         case rel => exact ⟨k + 1, by omega, by go_num, hbk⟩
         case measure => simp [intOf]; omega
        ·have j1 : (q.kind == 5) = false := by rw [beq_eq_false_iff_ne]; exact hk5
         by_cases hi5 : r.kind = 5
         ·have j2 : (r.kind == 5) = true := by rw [beq_iff_eq]; exact hi5
          clear hk5 hi5
          go_wp2_with fail
          go_roundw
          case rel => exact ⟨k + 1, by omega, by go_num, hbk⟩
          case measure => simp [intOf]; omega
         ·have j2 : (r.kind == 5) = false := by rw [beq_eq_false_iff_ne]; exact hi5
          have hpr := Lib.hid (hpair.out k hltk (by rw [eki.out.1]; exact hi5) (by rw [ekk.out.1]; exact hk5))
          obtain ⟨p0, p1⟩ := hPc.out j wr hltj hb7k.out
          rw [hxb] at p1
          have hc := Lib.hid (paxis_any hTab.out _ m c wr (hsq.out.below QEl.to hb5k.out) xb (k : Nat) (by omega))
          rw [axP_nat (by rw [hlt.out]; exact hltk) xb, axis_eq hTab.out (by rw [hlt.out]; exact hltk) xb] at hc
          obtain ⟨SXB, hSXB⟩ : ∃ S, strOf xb = S := ⟨_, rfl⟩
          rw [hSXB] at p1 hc
          clear p0 hk5 hi5 hSXB
          go_wp2_with fail
          refine hc.out.mono ?_
          rintro e w9 ⟨A9, m9, c9, rfl, hs, hb⟩
          have hb89 := Lib.hid (hbk.out.trans (hb.mono hbk.out.size))
          have hm9 : Hid (m9 ≤ 1000000) := Lib.hid (by rw [← hs.len]; have := axisR_len t xb k; have := hlt.out; omega)
          have ha9 := below_alloc w9 (.cells #[.slice A9 m9 c9] 37)
          have hlit9 := (ows_lit (El := LEl) (k := 1) w9 [.slice A9 m9 c9] (axisR t xb k) 37 rfl (by decide) ⟨_, _, _, rfl, hs.below IEl.to ha9, hm9.out⟩).sq' (by decide)
          obtain ⟨B9, hB9⟩ : ∃ b, w9.heap.size = b := ⟨_, rfl⟩
          obtain ⟨wa, hwa⟩ : ∃ x, w9.alloc (.cells #[.slice A9 m9 c9] 37) = x := ⟨_, rfl⟩
          rw [show w9.alloc (.cells ([.slice A9 m9 c9] : List Value).toArray 37) = wa from hwa, hB9] at hlit9
          rw [hwa] at ha9
          have hb8a := Lib.hid (hb89.out.trans (ha9.mono hb89.out.size))
          have haa := below_alloc wa (.cells #[.slice A8 m8 c8] 37)
          have hlitA := (ows_lit (El := LEl) (k := 1) wa [.slice A8 m8 c8] (axisR t xa i) 37 rfl (by decide) ⟨_, _, _, rfl, hth.out.below IEl.to (hb8a.out.trans (haa.mono hb8a.out.size)), hm8.out⟩).sq' (by decide)
          obtain ⟨Ba, hBa⟩ : ∃ b, wa.heap.size = b := ⟨_, rfl⟩
          obtain ⟨wb, hwb⟩ : ∃ x, wa.alloc (.cells #[.slice A8 m8 c8] 37) = x := ⟨_, rfl⟩
          rw [show wa.alloc (.cells ([.slice A8 m8 c8] : List Value).toArray 37) = wb from hwb, hBa] at hlitA
          rw [hwb] at haa
          have hb8b := Lib.hid (hb8a.out.trans (haa.mono hb8a.out.size))
          have c1 := Lib.hid (lcount_any _ 1 1 wb hlitA (by omega) k)
          have c2 := Lib.hid (lcount_any _ 1 1 wb (hlit9.below (LEl.to haa) haa) (by omega) i)
          rw [show cntL [axisR t xa i] k = (axisR t xa i).count k by simp [cntL]] at c1
          rw [show cntL [axisR t xb k] i = (axisR t xb k).count i by simp [cntL], ← hpr.out] at c2
          obtain ⟨N, hN⟩ : ∃ N, (axisR t xa i).count k = N := ⟨_, rfl⟩
          rw [hN] at c1 c2
          have n1 : ((N : Int) != (N : Int)) = false := by simp
          clear hc hs hb p1 hlit9 hlitA ha9 haa hpr hN
          go_wp2_with fail
          clear hwa hwb hB9 hBa
          refine c1.out.mono ?_
          rintro e wc ⟨rfl, hwc⟩
          subst hwc
          go_wp2_with fail
          refine c2.out.mono ?_
          rintro e wd ⟨rfl, hwd⟩
          subst hwd
          go_wp2_with fail
          go_roundw
          case rel => exact ⟨k + 1, by omega, by go_num, hb8b⟩
          case measure => simp [intOf]; omega
       ·skip
        have k1 : decide ((k : Int) < (m : Int)) = false := by rw [decide_eq_false_iff_not]; omega
        have k2 : decide (k < m) = false := by rw [decide_eq_false_iff_not]; omega
        go_wp2_with fail
        go_roundw
        case rel => exact ⟨j + 1, by omega, by go_num, hb7k⟩
        case measure => simp [intOf]; omega
     ·skip
      have j1 : decide ((j : Int) < 4) = false := by rw [decide_eq_false_iff_not]; omega
      have j2 : decide (j < 4) = false := by rw [decide_eq_false_iff_not]; omega
      have hbF := Lib.hid (hb05.out.trans (hb5j.out.mono hb05.out.size))
      go_wp2_with fail
      go_ret
      exact ⟨rfl, hbF.out⟩
end Go.Proofs.YtdnfnkicmfkkmaaGreatDoor.Vw
end

section
namespace Go.Proofs.YtdnfnkicmfkkmaaGreatDoor.Vw
open Go.RowKit UtfW Xl Xt Xo No
open Go.Proofs.YtdnfnkicmfkkmaaGreatDoor (Ky.frontB Ky.Rl)
open Go.Proofs.YtdnfnkicmfkkmaaGreatDoor.Ky (Ts OwX tv join Rs)

def txtK (t : List Q) (k : Nat) : Tx := ((List.range k).filter fun k => decide (kindAt t k = 2)).flatMap (textAt t)
theorem txtK_succ (t : List Q) (i : Nat) {q : Q} (h : t[i]? = some q) : txtK t (i + 1) = txtK t i ++ (if q.kind = 2 then q.text else []) := by
 unfold txtK
 have e := at_some h
 rw [List.range_succ, List.filter_append, List.flatMap_append]
 congr 1
 by_cases hk : q.kind = 2
 ·simp [List.filter, e.1, hk, e.2.2.2]
 ·simp [List.filter, e.1, hk]
theorem txtK_len (t : List Q) (i : Nat) : (txtK t i).length ≤ txS t := by
 have h : ∀ i, (txtK t i).length ≤ txS (t.take i) := by
  intro i
  induction i with
  | zero => simp [txtK]
  | succ i ih =>
   by_cases hi : i < t.length
   ·have hx := List.getElem?_eq_getElem hi
    rw [txtK_succ t i hx, List.length_append, List.take_add_one, hx, Option.toList_some, txS_append, txS_cons]
    split
    ·omega
    ·simp; omega
   ·have e : txtK t (i + 1) = txtK t i := by
     unfold txtK
     rw [List.range_succ, List.filter_append, List.flatMap_append]
     have : kindAt t i = 0 := by unfold kindAt; rw [List.getElem?_eq_none (by omega)]
     simp [List.filter, this]
    rw [e, List.take_of_length_le (by omega)]
    rw [List.take_of_length_le (by omega)] at ih
    exact ih
 refine Nat.le_trans (h i) ?_
 have h2 := txS_append (t.take i) (t.drop i)
 rw [List.take_append_drop] at h2
 omega
set_option maxHeartbeats 20000000 in
set_option maxRecDepth 100000 in
theorem spans_law (w : World) (hU : Ut w) (hTn : Nu.Tens w) (Al : Option Addr) (nl cl : Nat) (l : List Ky.Rl) (vs : List Value) (n : Nd) (hl : Rs w Al nl cl l) (hbig : Ky.Big l) (hn : NdI (fun j => j < w.heap.size) w vs n) (hup : wN n ≤ 1152921504606846976) :
    Calls Tryz.prog 6 #[.slice Al nl cl, .agg vs.toArray] w fun e w' => e = .returned (.bool true) ∧ Below w.heap.size w w' := by
  obtain ⟨kd, nm, tx, as_, kz, ekn⟩ : ∃ kd nm tx as_ kz, n = Nd.mk kd nm tx as_ kz := by cases n; exact ⟨_, _, _, _, _, rfl⟩
  have hn0 := hn
  rw [ekn] at hn0
  obtain ⟨Ai, ci, Ak, ck, rfl, _⟩ := hn0.cells
  obtain ⟨li, hli⟩ : ∃ la, as_.length = la := ⟨_, rfl⟩
  obtain ⟨lk, hlk⟩ : ∃ lk, kz.length = lk := ⟨_, rfl⟩
  obtain ⟨S1, hS1⟩ : ∃ S, strOf nm = S := ⟨_, rfl⟩
  obtain ⟨S2, hS2⟩ : ∃ S, strOf tx = S := ⟨_, rfl⟩
  rw [hli, hlk, hS1, hS2] at hn
  rw [hli, hlk, hS1, hS2]
  clear hn0 hli hlk hS1 hS2 ekn
  obtain ⟨T, hT⟩ : ∃ T, w.heap.size = T := ⟨_, rfl⟩
  obtain ⟨w1, hw1⟩ : ∃ w1, w.alloc (.cells #[.int .i64 kd, .string S1, .string S2, .slice Ai li ci, .slice Ak lk ck] 26) = w1 := ⟨_, rfl⟩
  have hs1 : w1.heap.size = T + 1 := by rw [← hw1, World.size_alloc, hT]
  have hb1 : Below w.heap.size w w1 := by rw [← hw1]; exact (Below.refl _ _).alloc (Nat.le_refl _) _
  have hk1 : w1.heap[T]? = some (.cells #[.int .i64 kd, .string S1, .string S2, .slice Ai li ci, .slice Ak lk ck] 26) := by rw [← hw1, ← hT]; exact heap_alloc_new w _
  have hall : Hid (∀ x, Below w1.heap.size w1 x → x.cell? ⟨T, 0, none⟩ = some (.int .i64 kd) ∧ x.cell? ⟨T, 1, none⟩ = some (.string S1) ∧ x.cell? ⟨T, 2, none⟩ = some (.string S2) ∧ x.cell? ⟨T, 3, none⟩ = some (.slice Ai li ci) ∧ x.cell? ⟨T, 4, none⟩ = some (.slice Ak lk ck)) := Lib.hid fun x hx => by
    have g1 := (hx.block T (by omega)).trans hk1
    exact ⟨Xp.cell_blk g1 (i := 0) rfl, Xp.cell_blk g1 (i := 1) rfl, Xp.cell_blk g1 (i := 2) rfl, Xp.cell_blk g1 (i := 3) rfl, Xp.cell_blk g1 (i := 4) rfl⟩
  have haw := Lib.hid (awake_any w1 (hU.below hb1) (hTn.below hb1))
  have hnor := Lib.hid (fun (x : World) (hx : Below w.heap.size w x) => lnormal_any x Al nl cl l [.int .i64 kd, .string S1, .string S2, .slice Ai li ci, .slice Ak lk ck] n (hl.below hx) hbig ((NdI.later hn (fun j hj => hj) hx).stay fun j hj => ⟨Nat.lt_of_lt_of_le hj hx.size, rfl⟩) hup)
  have hlx := Lib.hid (fun (x : World) (hx : Below w.heap.size w x) => hl.below hx)
  have hUx := Lib.hid (fun (x : World) (hx : Below w.heap.size w x) => And.intro (hU.below hx) (hTn.below hx))
  have hb1' := Lib.hid hb1
  clear hl hbig hn hup hU hTn hb1 hk1 hs1
  go_enter Tryz.func6, Tryz.ntmps6
  go_wp2_with fail
  refine haw.out.mono ?_
  rintro e w2 ⟨rfl, hb2⟩
  have hb2' := Lib.hid hb2
  clear hw1 hT hb2 haw
  obtain ⟨u0, u1, u2, u3, u4⟩ := hall.out w2 hb2'.out
  have hb02 := Lib.hid (hb1'.out.trans (hb2'.out.mono hb1'.out.size))
  have hnr := Lib.hid (hnor.out w2 hb02.out)
  go_wp2_with fail
  refine hnr.out.mono ?_
  rintro e w3 ⟨⟨o0, o1, o2, o3, o4, o5, o6, o7, o8, V, rfl, hV⟩, hb3⟩
  have hVH := Lib.hid hV
  have hb03 := Lib.hid (hb02.out.trans (hb3.mono hb02.out.size))
  have hba := below_alloc w3 (.cells #[.int .i64 o0, .string o1, .string o2, .slice o3 o4 o5, .slice o6 o7 o8] 26)
  have hk4 := heap_alloc_new w3 (.cells #[.int .i64 o0, .string o1, .string o2, .slice o3 o4 o5, .slice o6 o7 o8] 26)
  have hbaH := Lib.hid hba
  obtain ⟨D, hD⟩ : ∃ D, w3.heap.size = D := ⟨_, rfl⟩
  obtain ⟨w4, hw4⟩ : ∃ x, w3.alloc (.cells #[.int .i64 o0, .string o1, .string o2, .slice o3 o4 o5, .slice o6 o7 o8] 26) = x := ⟨_, rfl⟩
  rw [hw4] at hk4 hbaH hba
  rw [hD] at hk4
  have hD4 : Hid (D < w4.heap.size) := Lib.hid (Array.getElem?_eq_some_iff.1 hk4).1
  have hdx : Hid (∀ x, Below w4.heap.size w4 x → x.cell? ⟨D, 0, none⟩ = some (.int .i64 o0) ∧ x.cell? ⟨D, 1, none⟩ = some (.string o1) ∧ x.cell? ⟨D, 2, none⟩ = some (.string o2) ∧ x.cell? ⟨D, 3, none⟩ = some (.slice o3 o4 o5) ∧ x.cell? ⟨D, 4, none⟩ = some (.slice o6 o7 o8)) := Lib.hid fun x hx => by
    have g1 := (hx.block D hD4.out).trans hk4
    exact ⟨Xp.cell_blk g1 (i := 0) rfl, Xp.cell_blk g1 (i := 1) rfl, Xp.cell_blk g1 (i := 2) rfl, Xp.cell_blk g1 (i := 3) rfl, Xp.cell_blk g1 (i := 4) rfl⟩
  have hb04 := Lib.hid (hb03.out.trans (hba.mono hb03.out.size))
  clear hV hb3 hba hk4 hnr u0 u1 u2 u3 u4
  cases V with
  | false =>
    go_wp2_with fail
    go_ret
    exact ⟨rfl, hb04.out⟩
  | true =>
    obtain ⟨x, hx0, hN0⟩ := hVH.out rfl
    have hNf := Lib.hid hN0
    have hnx : Hid (∀ y, Below w4.heap.size w4 y → NdI (fun j => j < w3.heap.size) y [.int .i64 o0, .string o1, .string o2, .slice o3 o4 o5, .slice o6 o7 o8] x) := Lib.hid fun y hy => NdI.later hx0 (fun j hj => hj) (hbaH.out.trans (hy.mono hbaH.out.size))
    have hX3 : Hid (∀ y, Below w4.heap.size w4 y → ∀ j, j < w3.heap.size → j < y.heap.size) := Lib.hid fun y hy j hj => Nat.lt_of_lt_of_le hj (Nat.le_trans hbaH.out.size hy.size)
    obtain ⟨y0, y1, y2, y3, y4⟩ := hdx.out w4 (Below.refl _ _)
    clear hx0 hN0 hVH hall
    have hdoc := Lib.hid (vdoc_any _ w4 (hUx.out w4 hb04.out).1 (hUx.out w4 hb04.out).2 Al nl cl l [.int .i64 o0, .string o1, .string o2, .slice o3 o4 o5, .slice o6 o7 o8] x (hlx.out w4 hb04.out) (hnx.out w4 (Below.refl _ _)) (hX3.out w4 (Below.refl _ _)) hNf.out.wts hNf.out.fair hNf.out.nf hNf.out.root hNf.out.w)
    go_wp2_with fail
    refine hdoc.out.mono ?_
    rintro e w5 ⟨A, m, c, rfl, ho5, hb5⟩
    have hb45 := Lib.hid hb5
    have hb05 := Lib.hid (hb04.out.trans (hb5.mono hb04.out.size))
    obtain ⟨t, ht⟩ : ∃ t, tabD l x = t := ⟨_, rfl⟩
    rw [ht] at ho5
    have htH := Lib.hid ht
    have hsq := Lib.hid (ho5.sq' (by decide))
    have hlt : Hid (t.length = m) := Lib.hid hsq.out.len
    have hm1 : m ≤ 1201 := by rw [← hlt.out, ← ht]; exact hNf.out.len
    have hm2 : 1 < m := by rw [← hlt.out, ← ht]; exact hNf.out.paths.2
    have hTab : Hid (Tab t) := Lib.hid (by rw [← ht]; exact hNf.out.tab)
    have hPath : Hid (Paths t) := Lib.hid (by rw [← ht]; exact hNf.out.paths.1)
    have htx : Hid (txS t ≤ 1200) := Lib.hid (by rw [← ht]; exact hNf.out.txt)
    have l1 := hsq.out.le
    have l2 := hsq.out.max
    clear hdoc ho5 hb5 ht y0 y1 y2 y3 y4 hw4 hD
    by_cases hm60 : 200 < m
    · have j1 : decide ((200 : Int) < (m : Int)) = true := by rw [decide_eq_true_eq]; omega
      have j2 : decide (200 < m) = true := by rw [decide_eq_true_eq]; omega
      go_wp2_with fail
      go_ret
      exact ⟨rfl, hb05.out⟩
    have j1 : decide ((200 : Int) < (m : Int)) = false := by rw [decide_eq_false_iff_not]; omega
    have j2 : decide (200 < m) = false := by rw [decide_eq_false_iff_not]; omega
    clear hm60
    go_wp2_with fail
    go_loopw [8, 9] (fun vt vi wr => ∃ (i : Nat), i ≤ m ∧ vi = .int .i64 (i : Nat) ∧ vt = .string (strOf (txtK t i)) ∧ Hid (Below w5.heap.size w5 wr)) (fun _ vi _ => m - (intOf vi).toNat)
    case atStart => exact ⟨0, by omega, rfl, rfl, Lib.hid (Below.refl _ _)⟩
    case round =>
      obtain ⟨i, hi, rfl, rfl, hbr⟩ := hrel
      by_cases hlt1 : i < m
      · skip
        have i1 : decide ((i : Int) < (m : Int)) = true := by rw [decide_eq_true_eq]; omega
        have i2 : decide (i < m) = true := by rw [decide_eq_true_eq]; omega
        have i3 : (i : Int) < (m : Int) := by omega
        obtain ⟨b0, o0, rfl⟩ := q_adr hsq.out (by omega)
        have hb0l : Hid (b0 < w5.heap.size) := Lib.hid (hsq.out.lt _ rfl (by omega))
        obtain ⟨q, hq, u0, u1, u2, u3, u4, u5⟩ := q_row (hsq.out.below QEl.to hbr.out) hlt1
        have eqq := Lib.hid (at_some hq)
        have htk := Lib.hid (txtK_succ t i hq)
        obtain ⟨TK, hTK⟩ : ∃ S, strOf (txtK t i) = S := ⟨_, rfl⟩
        have hTKl : Hid ((txtK t i).length ≤ 1200) := Lib.hid (Nat.le_trans (txtK_len t i) htx.out)
        have hTKl2 : Hid ((txtK t (i + 1)).length ≤ 1200) := Lib.hid (Nat.le_trans (txtK_len t (i + 1)) htx.out)
        have hTKH := Lib.hid hTK
        rw [hTK]
        have i5 : (i : Int) < (m : Int) := by omega
        have hqH := Lib.hid hq
        clear hq hTK u1 u5
        by_cases h0 : i = 0
        · subst h0
          have e1 : q.parent = -1 := by rw [← eqq.out.2.1]; exact hTab.out.root.1
          have e2 : q.fin = m := by rw [← eqq.out.2.2.1, ← hlt.out]; exact hTab.out.root.2.1
          have e3 : q.kind = 6 := by rw [← eqq.out.1]; exact hTab.out.root.2.2
          rw [Nat.zero_mul, Nat.add_zero] at u0 u2 u3 u4
          rw [e1] at u3
          rw [e2] at u4
          rw [e3] at u0
          have hTK1 : Hid (strOf (txtK t (0 + 1)) = TK) := Lib.hid (by rw [htk.out, if_neg (by rw [e3]; decide), List.append_nil]; exact hTKH.out)
          clear e1 e2 e3
          go_wp2_with fail
          go_roundw
          case rel => exact ⟨0 + 1, by omega, by go_num, by rw [hTK1.out], hbr⟩
          case measure => simp [intOf]; omega
        · obtain ⟨j, hpj, hji, hfj, hgt, _⟩ := hTab.out.up i (by omega) (by rw [hlt.out]; exact hlt1)
          obtain ⟨r, hr, v0, v1, v2, v3, v4, v5⟩ := q_row (hsq.out.below QEl.to hbr.out) (show j < m by omega)
          have e1 : q.parent = (j : Int) := by rw [← eqq.out.2.1]; exact hpj
          rw [e1] at u3
          rw [eqq.out.2.2.1, (at_some hr).2.2.1] at hfj
          rw [eqq.out.2.2.1] at hgt
          have k0 : ((i : Int) == 0) = false := by rw [beq_eq_false_iff_ne]; omega
          have k1 : decide ((j : Int) < 0) = false := by rw [decide_eq_false_iff_not]; omega
          have k2 : decide ((i : Int) ≤ (j : Int)) = false := by rw [decide_eq_false_iff_not]; omega
          have k3 : decide ((r.fin : Int) < (q.fin : Int)) = false := by rw [decide_eq_false_iff_not]; omega
          have k4 : decide ((q.fin : Int) ≤ (i : Int)) = false := by rw [decide_eq_false_iff_not]; omega
          have k5 : (j : Int) < (m : Int) := by omega
          have k2n : decide (i ≤ j) = false := by rw [decide_eq_false_iff_not]; omega
          have k3n : decide (r.fin < q.fin) = false := by rw [decide_eq_false_iff_not]; omega
          have k4n : decide (q.fin ≤ i) = false := by rw [decide_eq_false_iff_not]; omega
          have k0n : (i == 0) = false := by rw [beq_eq_false_iff_ne]; omega
          have u4d : wr.drew.cell? ⟨b0, o0 + i * 6 + 4, none⟩ = some (.int .i64 (q.fin : Nat)) := u4
          have v4d : wr.drew.cell? ⟨b0, o0 + j * 6 + 4, none⟩ = some (.int .i64 (r.fin : Nat)) := v4
          have hbrd : Hid (Below w5.heap.size w5 wr.drew) := Lib.hid (hbr.out.trans (Below.mono (Joins.below_draws wr.heap.size wr 1) hbr.out.size))
          have hszd : wr.drew.heap.size = wr.heap.size := rfl
          clear hr hpj v0 v1 v2 v3 v5 h0 e1
          go_upto_region 17 with fail
          refine Pl.wp_region_plan 27 (.take 0 (.take 1 (.take 2 (.take 3 (.take 4 (.take 5 (.take 6 (.take 7 (.take 8 (.take 9 (.take 10 (.take 11 (.take 12 (.take 13 (.take 14 (.take 15 (.take 16 (.take 17 (.take 18 (.take 19 (.take 20 (.take 21 (.take 22 (.take 23 (.take 24 (.take 25 (.take 26 .done))))))))))))))))))))))))))) (fun x => x.cell? ⟨b0, o0 + i * 6 + 4, none⟩ = some (.int .i64 (q.fin : Nat)) ∧ x.cell? ⟨b0, o0 + j * 6 + 4, none⟩ = some (.int .i64 (r.fin : Nat))) (by kernel_rfl) (by kernel_rfl) (by exact ⟨u4d, v4d⟩) ?_
          simp only [Pl.fill, List.getElem?_cons_zero, List.getElem?_cons_succ, List.drop_succ_cons, List.drop_zero]
          iterate 27
            first
            | (refine Pl.take_go ?_ (by rfl) (fun _ _ _ h => h) ?_ ?_
               rotate_left
               · (intro x hSw; (try (have hs1 := hSw.1; have hs2 := hSw.2)); go_simp; try with_reducible rfl)
               (try simp only [Act.put, List.setIfInBounds_toArray, List.set_cons_zero, List.set_cons_succ]))
            | (refine Pl.take_skip (by rfl) (fun _ _ _ h => h) ?_
               (try simp only [Act.put, List.setIfInBounds_toArray, List.set_cons_zero, List.set_cons_succ]))
          refine Pl.done_go ?_
          clear u0 u2 u3 u4 v4
          obtain ⟨wz, hwz⟩ : ∃ wz, wr.drew = wz := ⟨_, rfl⟩
          rw [hwz] at hbrd u4d v4d ⊢
          clear hszd hwz u4d v4d
          go_wp2_with fail
          go_loopw [11] (fun vk wr => ∃ (k : Nat), k ≤ m ∧ vk = .int .i64 (k : Nat) ∧ Hid (Below wz.heap.size wz wr)) (fun vk _ => m - (intOf vk).toNat)
          case atStart => exact ⟨0, by omega, rfl, Lib.hid (Below.refl _ _)⟩
          case round =>
            obtain ⟨k, hk, rfl, hbk⟩ := hrel
            have hb5r := Lib.hid (hbrd.out.trans (hbk.out.mono hbrd.out.size))
            have hb5d : Hid (Below w5.heap.size w5 wr.drew) := Lib.hid (hb5r.out.trans (Below.mono (Joins.below_draws wr.heap.size wr 1) hb5r.out.size))
            have hbzd : Hid (Below wz.heap.size wz wr.drew) := Lib.hid (hbk.out.trans (Below.mono (Joins.below_draws wr.heap.size wr 1) hbk.out.size))
            by_cases hlt2 : k < m
            · skip
              have k1 : decide ((k : Int) < (m : Int)) = true := by rw [decide_eq_true_eq]; omega
              have k2 : decide (k < m) = true := by rw [decide_eq_true_eq]; omega
              have k3 : (k : Int) < (m : Int) := by omega
              have hbel : Hid (below t i k = decide (i < k ∧ k < q.fin)) := Lib.hid (by unfold below; rw [eqq.out.2.2.1])
              obtain ⟨q', hq', w0', w1', w2', w3', w4', w5'⟩ := q_row (hsq.out.below QEl.to hb5r.out) hlt1
              obtain rfl : q = q' := by rw [hqH.out] at hq'; injection hq'
              have w4d : wr.drew.cell? ⟨b0, o0 + i * 6 + 4, none⟩ = some (.int .i64 (q.fin : Nat)) := w4'
              clear hq' w0' w1' w2' w3' w4' w5'
              by_cases a1 : i < k
              · have n1 : decide ((i : Int) < (k : Int)) = true := by rw [decide_eq_true_eq]; omega
                have n2 : decide (i < k) = true := by rw [decide_eq_true_eq]; omega
                by_cases a2 : k < q.fin
                · have n3 : decide ((k : Int) < (q.fin : Int)) = true := by rw [decide_eq_true_eq]; omega
                  have n4 : decide (k < q.fin) = true := by rw [decide_eq_true_eq]; omega
                  have hco := Lib.hid (cont_any hTab.out _ m c wr.drew (hsq.out.below QEl.to hb5d.out) i k hlt2)
                  rw [show below t i k = true by rw [hbel.out]; exact decide_eq_true ⟨a1, a2⟩] at hco
                  go_upto_region 22 with fail
                  refine Pl.wp_region_plan 16 (.take 0 (.take 1 (.take 2 (.take 3 (.take 4 (.take 5 (.take 6 (.take 7 (.take 8 (.take 9 (.take 10 (.take 11 (.take 12 (.take 13 (.take 14 (.run 15 .done)))))))))))))))) (fun x => x.cell? ⟨b0, o0 + i * 6 + 4, none⟩ = some (.int .i64 (q.fin : Nat))) (by kernel_rfl) (by kernel_rfl) (by exact w4d) ?_
                  simp only [Pl.fill, List.getElem?_cons_zero, List.getElem?_cons_succ, List.drop_succ_cons, List.drop_zero]
                  iterate 15
                    first
                    | (refine Pl.take_go ?_ (by rfl) (fun _ _ _ h => h) ?_ ?_
                       rotate_left
                       · (intro x hSw; (try (have hs1 := hSw)); go_simp; try with_reducible rfl)
                       (try simp only [Act.put, List.setIfInBounds_toArray, List.set_cons_zero, List.set_cons_succ]))
                    | (refine Pl.take_skip (by rfl) (fun _ _ _ h => h) ?_
                       (try simp only [Act.put, List.setIfInBounds_toArray, List.set_cons_zero, List.set_cons_succ]))
                  refine Pl.run_go (fun K hK => ?_)
                  go_simp
                  refine hco.out.mono ?_
                  rintro e wy ⟨rfl, hwy⟩
                  subst hwy
                  clear hco
                  dsimp only
                  refine hK.out _ _ (Pl.more_go (fun x => x.cell? ⟨b0, o0 + i * 6 + 4, none⟩ = some (.int .i64 (q.fin : Nat))) (fun _ h => h) (by exact w4d) ?_)
                  clear hK K
                  try simp only [Act.put, List.setIfInBounds_toArray, List.set_cons_zero, List.set_cons_succ]
                  refine Pl.done_go ?_
                  go_wp2_with fail
                  go_roundw
                  case rel => exact ⟨k + 1, by omega, by go_num, hbzd⟩
                  case measure => simp [intOf]; omega
                · have n3 : decide ((k : Int) < (q.fin : Int)) = false := by rw [decide_eq_false_iff_not]; omega
                  have n4 : decide (k < q.fin) = false := by rw [decide_eq_false_iff_not]; omega
                  have hco := Lib.hid (cont_any hTab.out _ m c wr.drew (hsq.out.below QEl.to hb5d.out) i k hlt2)
                  rw [show below t i k = false by rw [hbel.out]; exact decide_eq_false (fun h => a2 h.2)] at hco
                  go_upto_region 22 with fail
                  refine Pl.wp_region_plan 16 (.take 0 (.take 1 (.take 2 (.take 3 (.take 4 (.take 5 (.take 6 (.take 7 (.take 8 (.take 9 (.take 10 (.take 11 (.take 12 (.take 13 (.take 14 (.run 15 .done)))))))))))))))) (fun x => x.cell? ⟨b0, o0 + i * 6 + 4, none⟩ = some (.int .i64 (q.fin : Nat))) (by kernel_rfl) (by kernel_rfl) (by exact w4d) ?_
                  simp only [Pl.fill, List.getElem?_cons_zero, List.getElem?_cons_succ, List.drop_succ_cons, List.drop_zero]
                  iterate 15
                    first
                    | (refine Pl.take_go ?_ (by rfl) (fun _ _ _ h => h) ?_ ?_
                       rotate_left
                       · (intro x hSw; (try (have hs1 := hSw)); go_simp; try with_reducible rfl)
                       (try simp only [Act.put, List.setIfInBounds_toArray, List.set_cons_zero, List.set_cons_succ]))
                    | (refine Pl.take_skip (by rfl) (fun _ _ _ h => h) ?_
                       (try simp only [Act.put, List.setIfInBounds_toArray, List.set_cons_zero, List.set_cons_succ]))
                  refine Pl.run_go (fun K hK => ?_)
                  go_simp
                  refine hco.out.mono ?_
                  rintro e wy ⟨rfl, hwy⟩
                  subst hwy
                  clear hco
                  dsimp only
                  refine hK.out _ _ (Pl.more_go (fun x => x.cell? ⟨b0, o0 + i * 6 + 4, none⟩ = some (.int .i64 (q.fin : Nat))) (fun _ h => h) (by exact w4d) ?_)
                  clear hK K
                  try simp only [Act.put, List.setIfInBounds_toArray, List.set_cons_zero, List.set_cons_succ]
                  refine Pl.done_go ?_
                  go_wp2_with fail
                  go_roundw
                  case rel => exact ⟨k + 1, by omega, by go_num, hbzd⟩
                  case measure => simp [intOf]; omega
              · have n1 : decide ((i : Int) < (k : Int)) = false := by rw [decide_eq_false_iff_not]; omega
                have n2 : decide (i < k) = false := by rw [decide_eq_false_iff_not]; omega
                have hco := Lib.hid (cont_any hTab.out _ m c wr.drew (hsq.out.below QEl.to hb5d.out) i k hlt2)
                rw [show below t i k = false by rw [hbel.out]; exact decide_eq_false (fun h => a1 h.1)] at hco
                go_upto_region 22 with fail
                refine Pl.wp_region_plan 16 (.take 0 (.take 1 (.take 2 (.take 3 (.take 4 (.take 5 (.take 6 (.take 7 (.take 8 (.take 9 (.take 10 (.take 11 (.take 12 (.take 13 (.take 14 (.run 15 .done)))))))))))))))) (fun x => x.cell? ⟨b0, o0 + i * 6 + 4, none⟩ = some (.int .i64 (q.fin : Nat))) (by kernel_rfl) (by kernel_rfl) (by exact w4d) ?_
                simp only [Pl.fill, List.getElem?_cons_zero, List.getElem?_cons_succ, List.drop_succ_cons, List.drop_zero]
                iterate 15
                  first
                  | (refine Pl.take_go ?_ (by rfl) (fun _ _ _ h => h) ?_ ?_
                     rotate_left
                     · (intro x hSw; (try (have hs1 := hSw)); go_simp; try with_reducible rfl)
                     (try simp only [Act.put, List.setIfInBounds_toArray, List.set_cons_zero, List.set_cons_succ]))
                  | (refine Pl.take_skip (by rfl) (fun _ _ _ h => h) ?_
                     (try simp only [Act.put, List.setIfInBounds_toArray, List.set_cons_zero, List.set_cons_succ]))
                refine Pl.run_go (fun K hK => ?_)
                go_simp
                refine hco.out.mono ?_
                rintro e wy ⟨rfl, hwy⟩
                subst hwy
                clear hco
                dsimp only
                refine hK.out _ _ (Pl.more_go (fun x => x.cell? ⟨b0, o0 + i * 6 + 4, none⟩ = some (.int .i64 (q.fin : Nat))) (fun _ h => h) (by exact w4d) ?_)
                clear hK K
                try simp only [Act.put, List.setIfInBounds_toArray, List.set_cons_zero, List.set_cons_succ]
                refine Pl.done_go ?_
                go_wp2_with fail
                go_roundw
                case rel => exact ⟨k + 1, by omega, by go_num, hbzd⟩
                case measure => simp [intOf]; omega
            · skip
              have k1 : decide ((k : Int) < (m : Int)) = false := by rw [decide_eq_false_iff_not]; omega
              have k2 : decide (k < m) = false := by rw [decide_eq_false_iff_not]; omega
              obtain ⟨q', hq', w0', w1', w2', w3', w4', w5'⟩ := q_row (hsq.out.below QEl.to hb5r.out) hlt1
              obtain rfl : q = q' := by rw [hqH.out] at hq'; injection hq'
              clear hq' w1' w3' w4' w5'
              by_cases hk2 : q.kind = 2
              · have c1 : (q.kind == 2) = true := by rw [beq_iff_eq]; exact hk2
                have hnx : txtK t (i + 1) = txtK t i ++ q.text := by rw [htk.out, if_pos hk2]
                have e5 := fun w => add_txt w (txtK t i) q.text (by
                  have h1 := hTKl2.out
                  rw [hnx, List.length_append] at h1
                  omega)
                obtain ⟨S1, hS1⟩ : ∃ S, strOf (txtK t i ++ q.text) = S := ⟨_, rfl⟩
                obtain ⟨S2, hS2⟩ : ∃ S, strOf q.text = S := ⟨_, rfl⟩
                rw [hS1, hS2, hTKH.out] at e5
                rw [hS2] at w2'
                have hTK1 : Hid (S1 = strOf (txtK t (i + 1))) := Lib.hid (by rw [← hS1, hnx])
                clear hnx hS1 hS2
                clear hk2
                go_wp2_with fail
                go_roundw
                case rel => exact ⟨i + 1, by omega, by go_num, by rw [← hTK1.out], hb5r⟩
                case measure => simp [intOf]; omega
              · have c1 : (q.kind == 2) = false := by rw [beq_eq_false_iff_ne]; exact hk2
                have hTK1 : Hid (strOf (txtK t (i + 1)) = TK) := Lib.hid (by rw [htk.out, if_neg hk2, List.append_nil]; exact hTKH.out)
                clear hk2
                go_wp2_with fail
                go_roundw
                case rel => exact ⟨i + 1, by omega, by go_num, by rw [hTK1.out], hb5r⟩
                case measure => simp [intOf]; omega
      · skip
        have i1 : decide ((i : Int) < (m : Int)) = false := by rw [decide_eq_false_iff_not]; omega
        have i2 : decide (i < m) = false := by rw [decide_eq_false_iff_not]; omega
        obtain rfl : i = m := by omega
        have hvq : valQ t 0 = txtK t i := by rw [val_root hTab.out, hlt.out]; rfl
        have hpv := pvalue_any hTab.out A i c wr (hsq.out.below QEl.to hbr.out) (by have := htx.out; omega) 0
        rw [val_eq hTab.out, hvq] at hpv
        have hpvH := Lib.hid hpv
        have hrv := Lib.hid (fun (y : World) (hy : Below wr.heap.size wr y) => rvalue_any hTab.out A i c y (hsq.out.below QEl.to (hbr.out.trans (hy.mono hbr.out.size))) (by have := htx.out; omega) 0)
        rw [hvq] at hrv
        obtain ⟨TK, hTK⟩ : ∃ S, strOf (txtK t i) = S := ⟨_, rfl⟩
        rw [hTK] at hpvH hrv ⊢
        have n1 : (TK.toList == TK.toList) = true := by simp
        clear hpv hvq hTK
        go_wp2_with fail
        refine hpvH.out.mono ?_
        rintro e wy ⟨rfl, hby⟩
        have hrr := Lib.hid (hrv.out wy hby)
        have hbF := Lib.hid (hb05.out.trans ((hbr.out.trans (hby.mono hbr.out.size)).mono hb05.out.size))
        clear hby hpvH hrv
        go_wp2_with fail
        refine hrr.out.mono ?_
        rintro e wx ⟨rfl, hwx⟩
        subst hwx
        go_wp2_with fail
        go_ret
        exact ⟨rfl, hbF.out⟩
end Go.Proofs.YtdnfnkicmfkkmaaGreatDoor.Vw
end

section
namespace Go.Proofs
open Go.Shelf Go.RowKit

end Go.Proofs
namespace Go.Proofs.YtdnfnkicmfkkmaaGreatDoor.Vw
open Go.RowKit Go.Shelf UtfW

abbrev laidList : List (String × DataW Unit) := Rows.viewTablesRow.laid

def u8r : Ren := { f := id, t := fun n => if n = 5 then 5 else if n = 119 then 250 else if n = 138 then 252 else 253, g := fun n => if n = 3 then 3 else 4 }

theorem first_data : Rows.laid_unicode_utf8_first = Lib.firstData := by kernel_rfl
theorem accept_data : Rows.laid_unicode_utf8_acceptRanges = Lib.acceptData := by kernel_rfl

theorem ut_of_laid {W : World} (h : laidMetH Tryz.prog laidList W) (hsh : W.ShapedOpen Tryz.prog) : Ut W := by
 have h1 : laidMetH Tryz.prog [("unicode/utf8.first", Rows.laid_unicode_utf8_first)] W := h.filter (fun x => x.1 == "unicode/utf8.first")
 have h2 : laidMetH Tryz.prog [("unicode/utf8.acceptRanges", Rows.laid_unicode_utf8_acceptRanges)] W := h.filter (fun x => x.1 == "unicode/utf8.acceptRanges")
 rw [first_data] at h1
 rw [accept_data] at h2
 have h1' : laidMet Tryz.prog [("unicode/utf8.first", Lib.firstData)] W := h1
 have h2' : laidMet Tryz.prog [("unicode/utf8.acceptRanges", Lib.acceptData)] W := h2
 have L : U8Types Tryz.prog u8r := ⟨by kernel_rfl, by kernel_rfl, by kernel_rfl, by kernel_rfl⟩
 exact ⟨utf8Tabs_of_readsT L ⟨by kernel_rfl, by kernel_rfl, by kernel_rfl, by kernel_rfl, by kernel_rfl, by kernel_rfl, by kernel_rfl⟩ (Lib.laidMet.reads h1' (.head _)) (Lib.laidMet.reads h2' (.head _)), Tryz.lays146.s1_3 W hsh⟩

theorem tens_of_laid {W : World} (h : laidMetH Tryz.prog laidList W) : Nu.Tens W := by
 have h1 : laidMetH Tryz.prog [("internal/strconv.uint64pow10", Rows.laid_internal_strconv_uint64pow10)] W := h.filter (fun x => x.1 == "internal/strconv.uint64pow10")
 have h' : laidMet Tryz.prog [("internal/strconv.uint64pow10", Lib.tabData .u64 Lib.pow10Tab)] W := h1
 exact Nu.Tens.of_tab (Lib.tabIs_of_head (rest := []) (g := 2) (by kernel_rfl) (t := 244) (by kernel_rfl) Tryz.underlying244 Tryz.underlying233 (by kernel_rfl) (by kernel_rfl) h')

def tabCells (k : IntKind) (zs : List Int) : Array Value := (zs.map (Value.int k)).toArray

def putVar (g : Nat) (cs : Array Value) (h : Array Obj) : Array Obj := h.modify g fun
 | .cells _ t frozen => .cells cs t frozen
 | o => o

noncomputable def laidWorld (os : Os) : World :=
 let w0 := World.holding Tryz.prog os ⟨#[], #[], []⟩
 let h0 := putVar 3 (Lib.firstTab.map fun z => Value.int .u8 z).toArray w0.heap
 let h1 := putVar 4 ((List.range 16).flatMap fun i => [Value.int .u8 (Lib.accLo i), Value.int .u8 (Lib.accHi i)]).toArray h0
 let h2 := putVar 2 (tabCells .u64 Lib.pow10Tab) h1
 let h3 := putVar 5 (tabCells .u8 [0, 1, 28, 2, 29, 14, 24, 3, 30, 22, 20, 15, 25, 17, 4, 8, 31, 27, 13, 23, 21, 19, 16, 7, 26, 12, 18, 6, 11, 5, 10, 9]) h2
 let h4 := putVar 6 (tabCells .u8 [0, 1, 56, 2, 57, 49, 28, 3, 61, 58, 42, 50, 38, 29, 17, 4, 62, 47, 59, 36, 45, 43, 51, 22, 53, 39, 33, 30, 24, 18, 12, 5, 63, 55, 48, 27, 60, 41, 37, 16, 46, 35, 44, 21, 52, 32, 23, 11, 54, 26, 40, 15, 34, 20, 31, 10, 25, 14, 19, 9, 13, 8, 7, 6]) h3
 { w0 with heap := h4 }

theorem laidWorld_met (os : Os) (args : Array Value) : laidMetH Tryz.prog laidList ((laidWorld os).forCall (fun _ _ => 0) ⟨#[], args, []⟩).memory :=
 laidMetH_of_parts (laidMet_of_run' 8 (by kernel_rfl) (by kernel_rfl)) (by kernel_rfl)
end Go.Proofs.YtdnfnkicmfkkmaaGreatDoor.Vw
end

section
namespace Go.Proofs.YtdnfnkicmfkkmaaGreatDoor.Ky
open Go.RowKit
section
variable {H : Type} {enc : TypeId × Value → H} {w : World}
open Go.ChangeShapes in
theorem ts_len {P : Program} {t e : TypeId} {a : Option Addr} {n c : Nat} {d : DataW H} {p : List MemPlace}
  (ht : P.underlying t = some (.slice e)) (he : P.underlying e = some .string) (hc : P.cellsOf e = 1) (hby : P.bytesOf e = 16)
  (h : DataW.Trod enc P w 0 (fun _ => true) true t (.slice a n c) d p) (hz : Sized P t d) : n ≤ 140737488351232 := by
 obtain ⟨fuel, hf⟩ := h
 rcases open_strings ht he hc hf with ⟨hcs, _⟩ | ⟨x, len, cap, zs, hcs, _, hl, hm, hzl, hx, hcell, hsz⟩
 ·simp [Value.cells] at hcs
  obtain ⟨rfl, rfl, rfl⟩ := hcs
  omega
 ·simp [Value.cells] at hcs
  obtain ⟨rfl, rfl, rfl⟩ := hcs
  simp only [if_true] at hzl
  injection hx with hx _
  subst hx
  have hr := hz.row ht
  rw [hby] at hr
  simp only [strs, List.length_map, List.length_take, List.length_drop] at hr
  omega
theorem ts_of_trod {P : Program} {t e : TypeId} {fuel : Nat} {v : Value} {d : DataW H} {p : List MemPlace} (ht : P.underlying t = some (.slice e)) (he : P.underlying e = some .string) (hc : P.cellsOf e = 1) (hby : P.bytesOf e = 16)
  (h : DataW.trod enc P w 0 (fun _ => true) true fuel t [v] = some (d, p)) (hz : Sized P t d) :
  ∃ A n c, ∃ l : List Tx, v = .slice A n c ∧ Ts w A n c l ∧ l.length ≤ 140737488351232 ∧ ∀ x ∈ l, x.length ≤ 140737488351232 := by
 have key : ∀ A n c, v = .slice A n c → ∃ A n c, ∃ l : List Tx, v = .slice A n c ∧ Ts w A n c l ∧ l.length ≤ 140737488351232 ∧ ∀ x ∈ l, x.length ≤ 140737488351232 := by
  rintro A n c rfl
  obtain ⟨ss, h1, h2⟩ := ss_of_trod (a := A) (n := n) (c := c) (d := d) (p := p) ht he hc ⟨fuel, h⟩ hz
  have hlen := ts_len (a := A) (n := n) (c := c) (d := d) (p := p) ht he hc hby ⟨fuel, h⟩ hz
  refine ⟨A, n, c, ss.map (·.data.toList), rfl, Ts.of_ss h1, by rw [(Ts.of_ss h1).len]; exact hlen, fun x hx => ?_⟩
  obtain ⟨s, hs, rfl⟩ := List.mem_map.1 hx
  have := h2 s hs
  rw [Array.length_toList]
  exact this
 rcases Go.ChangeShapes.open_strings ht he hc h with ⟨hcs, _⟩ | ⟨x, len, cap, zs, hcs, _⟩
 ·injection hcs with hcs _
  exact key _ _ _ hcs
 ·injection hcs with hcs _
  exact key _ _ _ hcs

def RlB (w : World) (vs : List Value) (r : Rl) : Prop := RlEl w vs r ∧ (r.1.length ≤ 140737488351232 ∧ r.2.length ≤ 140737488351232) ∧ (∀ x ∈ r.1, x.length ≤ 140737488351232) ∧ ∀ x ∈ r.2, x.length ≤ 140737488351232
set_option maxRecDepth 100000 in
theorem rule_each (m : Nat) (vs : List Value) {fs : Array Field} (hs : Tryz.prog.underlying 70 = some (.struct fs)) (h : Fields enc Tryz.prog w fs m vs) : ∃ x, RlB w vs x := by
 have e := Tryz.underlying70
 rw [hs] at e
 injection e with e
 injection e with e
 subst e
 obtain ⟨hl, hf⟩ := h
 obtain ⟨v0, y0, e0, t0, s0⟩ := hf 0 _ rfl
 obtain ⟨v1, y1, e1, t1, s1⟩ := hf 1 _ rfl
 obtain ⟨A, n, c, l, rfl, h1, k1, g1⟩ := ts_of_trod Tryz.underlying33 Tryz.underlying9 (by kernel_rfl) (by kernel_rfl) (d := y0.1) (p := y0.2) t0 s0
 obtain ⟨A', n', c', l', rfl, h2, k2, g2⟩ := ts_of_trod Tryz.underlying33 Tryz.underlying9 (by kernel_rfl) (by kernel_rfl) (d := y1.1) (p := y1.2) t1 s1
 have hvs : vs = [.slice A n c, .slice A' n' c'] := by
  match vs, hl with
  | [x, y], _ => simp at e0 e1; rw [e0, e1]
 exact ⟨(l, l'), ⟨A, n, c, A', n', c', hvs, h1, h2⟩, ⟨k1, k2⟩, g1, g2⟩
set_option maxRecDepth 100000 in
theorem rules_of_trod {a : Option Addr} {n c : Nat} {d : DataW H} {p : List MemPlace} (h : DataW.Trod enc Tryz.prog w 0 (fun _ => true) true 22 (.slice a n c) d p) (hz : Sized Tryz.prog 22 d) :
  ∃ l, Rs w a n c l ∧ Big l := by
 obtain ⟨l, hl, _⟩ := sq_of_trod (El := RlB) Tryz.underlying22 Tryz.underlying70 (by kernel_rfl) (by kernel_rfl) (by decide) (fun m vs h => rule_each m vs Tryz.underlying70 h) h hz
 refine ⟨l, ⟨hl.len, hl.le, hl.max, hl.nil, fun h0 => ?_⟩, fun r hr => ?_⟩
 ·obtain ⟨b, off, e, hb, hc⟩ := hl.cell h0
  exact ⟨b, off, e, hb, fun i x hx => by
   obtain ⟨vs, g1, g2, g3⟩ := hc i x hx
   exact ⟨vs, g1, g2.1, g3⟩⟩
 ·obtain ⟨i, hi⟩ := List.mem_iff_getElem?.1 hr
  have hlt := (List.getElem?_eq_some_iff.1 hi).1
  have hll := hl.len
  obtain ⟨b, off, e, hb, hc⟩ := hl.cell (by omega)
  obtain ⟨vs, g1, g2, g3⟩ := hc i r hi
  exact g2.2
end
end Go.Proofs.YtdnfnkicmfkkmaaGreatDoor.Ky
end

section
namespace Go.Proofs.YtdnfnkicmfkkmaaGreatDoor
open Go.RowKit UtfW Xl Xt
open Go.Proofs.YtdnfnkicmfkkmaaGreatDoor.Ky (Rs)

namespace viewTablesW
end viewTablesW
namespace viewPathsW
theorem walk (A : Option Addr) (m c : Nat) (l : List Ky.Rl) (vs : List Value) (n : Nd) (W : World) (hL : laidMetH Tryz.prog Vw.laidList W) (hsh : W.ShapedOpen Tryz.prog) (h : Rs W A m c l) (hB : Ky.Big l) (hn : NdI (fun j => j < W.heap.size) W vs n) (hz : wN n ≤ 1048576) :
  Calls Tryz.prog 4 #[.slice A m c, .agg vs.toArray] W fun e w' => e = .returned (.bool true) ∧ Below W.heap.size W w' :=
 Vw.paths_law W (Vw.ut_of_laid hL hsh) (Vw.tens_of_laid hL) A m c l vs n h hB hn (by omega)
end viewPathsW
namespace viewSpansW
theorem walk (A : Option Addr) (m c : Nat) (l : List Ky.Rl) (vs : List Value) (n : Nd) (W : World) (hL : laidMetH Tryz.prog Vw.laidList W) (hsh : W.ShapedOpen Tryz.prog) (h : Rs W A m c l) (hB : Ky.Big l) (hn : NdI (fun j => j < W.heap.size) W vs n) (hz : wN n ≤ 1048576) :
  Calls Tryz.prog 6 #[.slice A m c, .agg vs.toArray] W fun e w' => e = .returned (.bool true) ∧ Below W.heap.size W w' :=
 Vw.spans_law W (Vw.ut_of_laid hL hsh) (Vw.tens_of_laid hL) A m c l vs n h hB hn (by omega)
end viewSpansW
namespace viewAxesW
theorem walk (A : Option Addr) (m c : Nat) (l : List Ky.Rl) (vs : List Value) (n : Nd) (a : Int) (W : World) (hL : laidMetH Tryz.prog Vw.laidList W) (hsh : W.ShapedOpen Tryz.prog) (h : Rs W A m c l) (hB : Ky.Big l) (hn : NdI (fun j => j < W.heap.size) W vs n) (hz : wN n ≤ 1048576) (ha : (Lit.int .u8 a).wf) :
  Calls Tryz.prog 5 #[.slice A m c, .agg vs.toArray, .int .u8 a] W fun e w' => e = .returned (.bool true) ∧ Below W.heap.size W w' :=
 by
 have h1 : IntKind.u8.min ≤ a ∧ a ≤ IntKind.u8.max := by simpa [Lit.wf] using ha
 have h2 : 0 ≤ a ∧ a ≤ 255 := h1
 obtain ⟨k, rfl⟩ : ∃ k : Nat, a = (k : Int) := ⟨a.toNat, by omega⟩
 exact Vw.axes_law W (Vw.ut_of_laid hL hsh) (Vw.tens_of_laid hL) A m c l vs n h hB hn (by omega) k (by omega)
end viewAxesW
end Go.Proofs.YtdnfnkicmfkkmaaGreatDoor
end
