/- Rows of texts, and rules as they lie. No program stands here. -/
import Derived.Test.YtjofkodncplhaaaGreatDoorMKyLaw
import Derived.Test.YtjofkodncplhaaaGreatDoorMStrs
import Derived.Test.YtjofkodncplhaaaGreatDoorMSq2
import Derived.Test.YtjofkodncplhaaaGreatDoorMStrLaws
namespace Go.Proofs.YtjofkodncplhaaaGreatDoor.Ky
open Go.RowKit

/-- A text's value. -/
abbrev tv (t : Tx) : Value := .string (strOf t)
theorem tv_inj {a b : Tx} (h : tv a = tv b) : a = b := by
  injection h with h
  exact strOf_inj h

/-- A slice of texts that reads as a list. -/
def Ts (w : World) (A : Option Addr) (n c : Nat) (ts : List Tx) : Prop := Rd w A n c (ts.map tv)
section
variable {w w' : World} {A : Option Addr} {n c : Nat} {ts : List Tx}
theorem Ts.len (h : Ts w A n c ts) : ts.length = n := by simpa using Rd.len h
theorem Ts.below (h : Ts w A n c ts) (hb : Below w.heap.size w w') : Ts w' A n c ts := Rd.below h hb
theorem Ts.nil (w : World) : Ts w none 0 0 [] := Rd.none_ w
theorem Ts.at_ {k : Nat} (h : Ts w A n c ts) (hk : k < n) :
    ∃ b off t, A = some ⟨b, off, none⟩ ∧ b < w.heap.size ∧ ts[k]? = some t ∧ w.cell? ⟨b, off + k, none⟩ = some (tv t) := by
  obtain ⟨b, off, u, e, hb, hx, hc⟩ := Rd.at_ h hk
  rw [List.getElem?_map, Option.map_eq_some_iff] at hx
  obtain ⟨s, hs, rfl⟩ := hx
  exact ⟨b, off, s, e, hb, hs, hc⟩
theorem Ts.of_ss {ss : List ByteArray} (h : Ss w A n c ss) : Ts w A n c (ss.map (·.data.toList)) := by
  unfold Ts
  rw [List.map_map]
  exact h
theorem Ts.cut (h : Ts w A n c ts) (lo hi : Nat) (h1 : lo ≤ hi) (h2 : hi ≤ n) (A' : Option Addr)
    (hA : ∀ b off, A = some ⟨b, off, none⟩ → lo < c → A' = some ⟨b, off + lo, none⟩) (hA0 : A = none → A' = none) (hA1 : A ≠ none → A' ≠ none) :
    Ts w A' (hi - lo) (c - lo) ((ts.drop lo).take (hi - lo)) := by
  unfold Ts
  rw [List.map_take, List.map_drop]
  exact Rd.cut h lo hi h1 h2 A' hA hA0 hA1
end

/-- A row of texts of the call's own. -/
def OwX (w : World) (B E : Nat) (v : Value) (ts : List Tx) : Prop := w.ownsRow B E 1 v ts.length (ts.map tv)
section
variable {w w' : World} {B E : Nat} {v : Value} {A : Option Addr} {n c : Nat} {ts : List Tx}
theorem OwX.nil (w : World) (B E : Nat) : OwX w B E (.slice none 0 0) [] := World.ownsRow_nil w B E 1
theorem OwX.rd (h : OwX w B E (.slice A n c) ts) : Ts w A n c ts := by
  obtain ⟨A', c', e⟩ := ownsRow_form h
  injection e with e1 e2 e3
  subst e2
  exact rd_of_own h
theorem OwX.below (h1 : OwX w B E v ts) (hb : Below w.heap.size w w') : OwX w' B E v ts :=
  World.ownsRow.kept (row := none) h1 (grown_of_below hb) (own_none_or h1)
theorem OwX.down {B' : Nat} (h : OwX w B E v ts) (hB : B' ≤ B) : OwX w B' E v ts := by
  refine ⟨h.1, ?_⟩
  rcases h.2 with h0 | ⟨g, cap, cur, h1, h2, h3⟩
  · exact .inl h0
  · exact .inr ⟨g, cap, cur, h1, Nat.le_trans hB h2, h3⟩
/-- A text of a row of the call's own is written. -/
theorem OwX.set {k : Nat} (h : OwX w B E (.slice A n c) ts) (hk : k < n) :
    ∃ g, A = some ⟨g, 0, none⟩ ∧ B ≤ g ∧ g < w.heap.size ∧ w.frozen? ⟨g, k, none⟩ = false ∧ ∀ y : Tx, OwX (w.setCell ⟨g, k, none⟩ (tv y)) B E (.slice A n c) (ts.set k y) := by
  have hl : ts.length = n := h.rd.len
  subst hl
  rcases h.2 with ⟨hv, h0⟩ | ⟨g, cap, cur, hv, hB, hh, _⟩
  · omega
  · injection hv with h1 _ h3
    subst h1; subst h3
    have hg : g < w.heap.size := (Array.getElem?_eq_some_iff.1 hh).1
    refine ⟨g, rfl, hB, hg, World.ownsRow.frozenAt h k, fun y => ?_⟩
    have := (World.ownsRow.stored h k (tv y)).1
    unfold OwX
    rw [List.length_set, List.map_set]
    exact this
end

section
variable {P : Program} {ops : Array Oper} {rest : List Oper} {o : Oper} {a : Act} {Q : Exit → Act → World → Prop}
/-- 'append(x, y...)' at texts, x a row of the call's own. -/
theorem append_ts (w : World) (t e : TypeId) (ht : P.underlying t = some (.slice e))
    (hinfo : (P.info? e).map (fun i => (i.zero, i.size, i.bytes)) = some (some (.string ByteArray.empty), 1, 16))
    (hgd : o.guard = none) (s x : Operand)
    (ho : o.op = .call { callee := .builtin .append, args := #[s, x], argTypes := #[t, t] })
    (B : Nat) (v : Value) (la : List Tx) (hs : a.eval s = v) (hown : OwX w B e v la)
    (A : Option Addr) (m c : Nat) (lb : List Tx) (hx : a.eval x = .slice A m c) (hr : Ts w A m c lb)
    (N : Nat) (hN : la.length + m = N) (hsz : N ≤ 1000000) (hB : B ≤ w.heap.size)
    (h : ∀ A' c' w', OwX w' B e (.slice A' N c') (la ++ lb) → w.grownBy w' v.ownBlock → Below B w w' → wpList P ops Q rest (a.put o.dst (.slice A' N c')) w') :
    wpList P ops Q (o :: rest) a w := by
  refine wpList_append_rd w hgd s x t ho B e (.string ByteArray.empty) 16 ht hinfo rfl v la.length (la.map tv) hs hown A m c (lb.map tv) hx hr (fun u hu => ?_) (by omega) (by omega) hB ?_
  · obtain ⟨s, _, rfl⟩ := List.mem_map.1 hu
    rfl
  intro A' c' w' h1 h2 h3 _
  have hl := hr.len
  rw [hN] at h1 ⊢
  refine h A' c' w' ?_ h2 h3
  unfold OwX
  rw [List.map_append, List.length_append, show la.length + lb.length = N from by omega]
  exact h1
end

/-- A literal of one text. -/
theorem ts_lit (w : World) (s : ByteArray) (t : Tx) (E : TypeId) (fr : Nat × Nat) (h : s = strOf t) : Ts (w.alloc (.cells #[.string s] E fr)) (some ⟨w.heap.size, 0, none⟩) 1 1 [t] := by
  subst h
  refine ⟨rfl, by omega, by omega, fun h => by simp at h, fun _ => ⟨_, _, rfl, by simp, fun j u hu => ?_⟩⟩
  have hh : (w.alloc (.cells #[.string (strOf t)] E fr)).heap[w.heap.size]? = some (.cells #[.string (strOf t)] E fr) := heap_alloc_new w _
  simp only [World.cell?, hh, Nat.zero_add]
  simpa using hu

/-- A rule, lying as two cells. -/
def RlEl (w : World) (vs : List Value) (r : Rl) : Prop := ∃ A n c A' n' c', vs = [.slice A n c, .slice A' n' c'] ∧ Ts w A n c r.1 ∧ Ts w A' n' c' r.2
theorem RlEl.below {w w' : World} (hb : Below w.heap.size w w') : ∀ vs r, RlEl w vs r → RlEl w' vs r := by
  rintro vs r ⟨A, n, c, A', n', c', h1, h2, h3⟩
  exact ⟨A, n, c, A', n', c', h1, h2.below hb, h3.below hb⟩
theorem RlEl.one {w : World} : ∀ vs r, RlEl w vs r → ∀ u ∈ vs, u.oneCell' = true := by
  rintro vs r ⟨A, n, c, A', n', c', rfl, _, _⟩ u hu
  simp at hu
  rcases hu with rfl | rfl <;> rfl
/-- A slice of rules that reads as a list. -/
abbrev Rs (w : World) (A : Option Addr) (n c : Nat) (l : List Rl) : Prop := Sq RlEl 2 w A n c l
theorem Rs.below {w w' : World} {A : Option Addr} {n c : Nat} {l : List Rl} (h : Rs w A n c l) (hb : Below w.heap.size w w') : Rs w' A n c l := Sq.below h (RlEl.below hb) hb
/-- A rule of a slice of rules. -/
theorem Rs.at_ {w : World} {A : Option Addr} {n c : Nat} {l : List Rl} (h : Rs w A n c l) {i : Nat} (hi : i < n) :
    ∃ b off r A1 n1 c1 A2 n2 c2, A = some ⟨b, off, none⟩ ∧ b < w.heap.size ∧ l[i]? = some r ∧ Ts w A1 n1 c1 r.1 ∧ Ts w A2 n2 c2 r.2 ∧
      w.cell? ⟨b, off + i * 2, none⟩ = some (.slice A1 n1 c1) ∧ w.cell? ⟨b, off + i * 2 + 1, none⟩ = some (.slice A2 n2 c2) := by
  obtain ⟨b, off, r, vs, e, hb, hr, _, ⟨A1, n1, c1, A2, n2, c2, rfl, h1, h2⟩, hc⟩ := Sq.at_ h hi
  exact ⟨b, off, r, A1, n1, c1, A2, n2, c2, e, hb, hr, h1, h2, by simpa using hc 0 _ rfl, hc 1 _ rfl⟩
end Go.Proofs.YtjofkodncplhaaaGreatDoor.Ky
