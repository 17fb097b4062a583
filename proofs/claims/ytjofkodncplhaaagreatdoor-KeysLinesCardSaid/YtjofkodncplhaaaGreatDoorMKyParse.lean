/- keys.Parse. -/
import Derived.Test.YtjofkodncplhaaaGreatDoorMKyLine
import Derived.Test.YtjofkodncplhaaaGreatDoorMKyLns
import Derived.Test.YtjofkodncplhaaaGreatDoorMErrWalk2
import Derived.Maps.OwnIn
section
namespace Go.Proofs.YtjofkodncplhaaaGreatDoor.Ky
open Go.RowKit Go.Shelf UtfW

/-- "keys" -/
def keysT : ByteArray := ⟨#[107, 101, 121, 115]⟩
/-- An error of a code and a place, wrapped once: its two blocks, whole. -/
def ErrB (w : World) (code at_ : Int) (e : Value) : Prop :=
  ∃ b b2, e = .iface 106 (.pointer (some ⟨b2, 0, none⟩)) ∧ w.heap[b2]? = some (.cells #[.string keysT, .iface 55 (.pointer (some ⟨b, 0, none⟩))] 108) ∧
    w.heap[b]? = some (.cells #[.int .i64 code, .int .i64 at_] 59)
theorem ErrB.fe {w : World} {code at_ : Int} {e : Value} (h : ErrB w code at_ e) : Er.Fe w w.heap.size code at_ [keysT] e := by
  obtain ⟨b, b2, rfl, h1, h2⟩ := h
  have l1 := (Array.getElem?_eq_some_iff.1 h1).1
  have l2 := (Array.getElem?_eq_some_iff.1 h2).1
  exact ⟨b, l2, ⟨b2, _, rfl, l1, by simp [World.cell?, h1], by simp [World.cell?, h1], rfl, l2⟩, by simp [World.cell?, h2], by simp [World.cell?, h2]⟩
/-- A block of cells stays where only another one turns. -/
theorem cells_kept {w w' : World} {row : Option Nat} (hg : w.grownBy w' row) (hr : ∀ r, row = some r → ∃ o : Obj, w.heap[r]? = some o ∧ o.isCells = false) {k : Nat} {cs : Array Value} {E : TypeId} {fr : Nat × Nat} (h : w.heap[k]? = some (.cells cs E fr)) : w'.heap[k]? = some (.cells cs E fr) :=
  (grownBy_keeps_cells hg hr h rfl).trans h
theorem ErrB.kept {w w' : World} {row : Option Nat} {code at_ : Int} {e : Value} (h : ErrB w code at_ e) (hg : w.grownBy w' row) (hr : ∀ r, row = some r → ∃ o : Obj, w.heap[r]? = some o ∧ o.isCells = false) : ErrB w' code at_ e := by
  obtain ⟨b, b2, rfl, h1, h2⟩ := h
  exact ⟨b, b2, rfl, cells_kept hg hr h1, cells_kept hg hr h2⟩
theorem ErrB.set {w : World} {code at_ : Int} {e : Value} (h : ErrB w code at_ e) {T i : Nat} (hT : ∀ b cs E, w.heap[b]? = some (.cells cs E) → E = 108 ∨ E = 59 → b ≠ T) (v : Value) : ErrB (w.setCell ⟨T, i, none⟩ v) code at_ e := by
  obtain ⟨b, b2, rfl, h1, h2⟩ := h
  have n1 := hT b2 _ _ h1 (.inl rfl)
  have n2 := hT b _ _ h2 (.inr rfl)
  exact ⟨b, b2, rfl, (Deep.blk_setCell_other w ⟨T, i, none⟩ v b2 n1).trans h1, (Deep.blk_setCell_other w ⟨T, i, none⟩ v b n2).trans h2⟩

theorem NewT (code at_ : Int) (hc : code ≠ 0) (w : World) :
    Calls Tryz.prog 55 #[.int .i64 code, .int .i64 at_] w fun e w' => e = .returned (.iface 55 (.pointer (some ⟨w.heap.size, 0, none⟩))) ∧ w' = w.alloc (.cells #[.int .i64 code, .int .i64 at_] 59) := by
  have hc' : (code == 0) = false := by simpa using hc
  go_enter Tryz.func55, Tryz.ntmps55
  go_wp2
  go_ret
  exact ⟨rfl, rfl⟩
theorem WrapT (s : ByteArray) (T : TypeId) (ad : Addr) (w : World) :
    Calls Tryz.prog 54 #[.string s, .iface T (.pointer (some ad))] w fun e w' => e = .returned (.iface 106 (.pointer (some ⟨w.heap.size, 0, none⟩))) ∧ w' = w.alloc (.cells #[.string s, .iface T (.pointer (some ad))] 108) := by
  go_enter Tryz.func54, Tryz.ntmps54
  go_wp2
  go_ret
  exact ⟨rfl, rfl⟩
theorem errB_new (w : World) (code n : Int) : ErrB ((w.alloc (.cells #[.int .i64 code, .int .i64 n] 59)).alloc (.cells #[.string keysT, .iface 55 (.pointer (some ⟨w.heap.size, 0, none⟩))] 108)) code n
    (.iface 106 (.pointer (some ⟨w.heap.size + 1, 0, none⟩))) := by
  refine ⟨w.heap.size, w.heap.size + 1, rfl, ?_, ?_⟩
  · have := heap_alloc_new (w.alloc (.cells #[.int .i64 code, .int .i64 n] 59)) (.cells #[.string keysT, .iface 55 (.pointer (some ⟨w.heap.size, 0, none⟩))] 108)
    simpa using this
  · have h1 := heap_alloc_new w (.cells #[.int .i64 code, .int .i64 n] 59)
    exact ((below_alloc (w.alloc (.cells #[.int .i64 code, .int .i64 n] 59)) _).block w.heap.size (by simp)).trans h1
/-- keys.fail. -/
theorem fail_any (code n : Int) (hc : code ≠ 0) (w : World) :
    Calls Tryz.prog 32 #[.int .i64 code, .int .i64 n] w fun e w' => ∃ b, e = .returned (.iface 106 (.pointer (some ⟨b, 0, none⟩))) ∧ Below w.heap.size w w' ∧ ErrB w' code n (.iface 106 (.pointer (some ⟨b, 0, none⟩))) := by
  go_enter Tryz.func32, Tryz.ntmps32
  go_wp2_with fail
  refine (NewT code n hc w).mono ?_
  rintro e w1 ⟨rfl, rfl⟩
  go_wp2_with fail
  refine (WrapT keysT _ _ _).mono ?_
  rintro e w2 ⟨rfl, rfl⟩
  have hb := Lib.hid ((below_alloc w (.cells #[.int .i64 code, .int .i64 n] 59)).trans ((below_alloc (w.alloc (.cells #[.int .i64 code, .int .i64 n] 59)) (.cells #[.string keysT, .iface 55 (.pointer (some ⟨w.heap.size, 0, none⟩))] 108)).mono (by simp)))
  have he := Lib.hid (errB_new w code n)
  go_wp2_with fail
  go_ret
  exact ⟨w.heap.size + 1, by simp, hb.out, he.out⟩

/-! ### Rules of the call's own -/
theorem ows_kept {w w' : World} {B E n size : Nat} {v : Value} {xs : List Value} {row : Option Nat} (h : w.ownsRow B E size v n xs) (hg : w.grownBy w' row) (hr : ∀ g, row = some g → B ≤ g → ∀ cur, w.heap[g]? ≠ some (.cells cur E)) : w'.ownsRow B E size v n xs := by
  refine h.kept hg ?_
  rcases h.2 with ⟨rfl, _⟩ | ⟨g, cap, cur, rfl, hB, hh, _⟩
  · exact .inl rfl
  · right
    intro e
    exact hr g e.symm hB cur hh
/-- A rule of the call's own. -/
def RlO (B : Nat) (w : World) (vs : List Value) (r : Rl) : Prop := ∃ A n c A' n' c', vs = [.slice A n c, .slice A' n' c'] ∧ OwX w B 9 (.slice A n c) r.1 ∧ OwX w B 9 (.slice A' n' c') r.2
theorem RlO.el {B : Nat} {w : World} : ∀ vs r, RlO B w vs r → RlEl w vs r := by
  rintro vs r ⟨A, n, c, A', n', c', h1, h2, h3⟩
  exact ⟨A, n, c, A', n', c', h1, h2.rd, h3.rd⟩
theorem RlO.one {B : Nat} {w : World} : ∀ vs r, RlO B w vs r → ∀ u ∈ vs, u.oneCell' = true := fun vs r h => RlEl.one vs r (RlO.el vs r h)
theorem RlO.kept {B : Nat} {w w' : World} {row : Option Nat} (hg : w.grownBy w' row) (hr : ∀ g, row = some g → B ≤ g → ∀ cur, w.heap[g]? ≠ some (.cells cur 9)) : ∀ vs r, RlO B w vs r → RlO B w' vs r := by
  rintro vs r ⟨A, n, c, A', n', c', h1, h2, h3⟩
  exact ⟨A, n, c, A', n', c', h1, ows_kept h2 hg hr, ows_kept h3 hg hr⟩
/-- A row of rules of the call's own. -/
def OwR (w : World) (B : Nat) (v : Value) (l : List Rl) : Prop := OwS (RlO B) 2 w B 27 v l
theorem OwR.nil (w : World) (B : Nat) : OwR w B (.slice none 0 0) [] := OwS.nil w B _
theorem OwR.kept {B : Nat} {w w' : World} {v : Value} {l : List Rl} {row : Option Nat} (h : OwR w B v l) (hg : w.grownBy w' row) (hr : ∀ g, row = some g → B ≤ g → ∀ cur E, (E = 9 ∨ E = 27) → w.heap[g]? ≠ some (.cells cur E)) : OwR w' B v l := by
  obtain ⟨xs, h1, h2⟩ := h
  exact ⟨xs, ows_kept h1 hg fun g e hB cur => hr g e hB cur _ (.inr rfl), h2.mono (RlO.kept hg fun g e hB cur => hr g e hB cur _ (.inl rfl))⟩
theorem OwR.below {B : Nat} {w w' : World} {v : Value} {l : List Rl} (h : OwR w B v l) (hb : Below w.heap.size w w') : OwR w' B v l := h.kept (grown_of_below hb) (fun g e => by cases e)
theorem OwR.rs {B n c : Nat} {w : World} {A : Option Addr} {l : List Rl} (h : OwR w B (.slice A n c) l) : Rs w A n c l := by
  have h1 := OwS.sq' h (by omega)
  exact ⟨h1.len, h1.le, h1.max, h1.nil, fun h0 => by
    obtain ⟨b, off, e, hb, hc⟩ := h1.cell h0
    exact ⟨b, off, e, hb, fun i x hx => by
      obtain ⟨vs, g1, g2, g3⟩ := hc i x hx
      exact ⟨vs, g1, RlO.el _ _ g2, g3⟩⟩⟩
theorem OwR.set {B : Nat} {w : World} {v : Value} {l : List Rl} (h : OwR w B v l) {b i : Nat} (hb : b < B) (x : Value) : OwR (w.setCell ⟨b, i, none⟩ x) B v l :=
  h.kept (grown_set w ⟨b, i, none⟩ x) fun g e hB => by injection e with e; simp only at e; omega
theorem OwR.own {B : Nat} {w w' : World} {v : Value} {l : List Rl} {row : Option Nat} (h : OwR w B v l) (hg : w.grownBy w' row) (hr : ∀ r, row = some r → ∃ o : Obj, w.heap[r]? = some o ∧ o.isCells = false) : OwR w' B v l :=
  h.kept hg fun g e _ cur E _ hh => by
    obtain ⟨o, h1, h2⟩ := hr g e
    rw [hh] at h1
    injection h1 with h1
    subst h1
    cases h2

theorem rule_info : (Tryz.prog.info? 27).map (fun i => (i.zero, i.size, i.bytes)) = some (some (.agg #[.slice none 0 0, .slice none 0 0]), 2, 48) := by kernel_rfl
section
variable {F : Fence} {nF : Nat} {ops : Array Oper} {rest : List Oper} {o : Oper} {a : Act} {Q : Exit → Act → World → Prop}
/-- 'append(out, r)', within a round. -/
theorem append_rl (w : World) (hgd : o.guard = none) (s x : Operand)
    (ho : o.op = .call { callee := .builtin .append, args := #[s, x], argTypes := #[22, 22] })
    (B : Nat) (v : Value) (la : List Rl) (hs : a.eval s = v) (hown : OwR w B v la)
    (p : Nat) (u1 u2 : Value) (r : Rl) (hx : a.eval x = .slice (some ⟨p, 0, none⟩) 1 1) (h1 : w.cell? ⟨p, 0, none⟩ = some u1) (h2 : w.cell? ⟨p, 1, none⟩ = some u2) (hr : RlO B w [u1, u2] r)
    (N : Nat) (hN : la.length + 1 = N) (hsz : N ≤ 1000000) (hB : B ≤ w.heap.size)
    (h : ∀ A' c' w', OwR w' B (.slice A' N c') (la ++ [r]) → w.grownBy w' v.ownBlock → Below B w w' → wpListIn F nF Tryz.prog ops Q rest (a.put o.dst (.slice A' N c')) w') :
    wpListIn F nF Tryz.prog ops Q (o :: rest) a w := by
  obtain ⟨xs, hown, hra⟩ := hown
  obtain ⟨i, hi, hz, hsz', hby⟩ := info_parts rule_info
  have hbel : ∀ w', w.grownBy w' v.ownBlock → Below B w w' := fun w' hg => (Below.refl B w).grown hg hB (fun k hk => (World.ownsRow.lt hown k hk).1)
  have hty : ∀ g, v.ownBlock = some g → B ≤ g → ∀ cur, w.heap[g]? ≠ some (.cells cur 9) := fun g e _ cur hh => by
    rcases hown.2 with ⟨rfl, _⟩ | ⟨g', cap, cur', rfl, _, hh', _⟩
    · cases e
    · simp only [Value.ownBlock, Option.some.injEq] at e
      subst e
      rw [hh'] at hh
      injection hh with hh
      injection hh with _ hh
      exact absurd hh (by decide)
  refine wpListIn_append_own_at w hgd s x 22 ho B 27 i (.agg #[.slice none 0 0, .slice none 0 0]) 2 48 Tryz.underlying22 hi hz hsz' hby rfl (by omega) v la.length xs hs hown ⟨p, 0, none⟩ 1 1 [u1, u2] hx rfl ?_ (RlO.one _ _ hr) (by unfold maxLen; omega) (by omega) hB ?_
  · intro j u hu
    match j, hu with
    | 0, hu =>
      simp at hu
      rw [← hu]
      simpa [Addr.add] using h1
    | 1, hu =>
      simp at hu
      rw [← hu]
      simpa [Addr.add] using h2
    | j + 2, hu => simp at hu
  · intro v' w' hown' hg _ hob
    have h3 : OwR w' B v' (la ++ [r]) := ⟨xs ++ [u1, u2], by rw [List.length_append]; exact hown', (hra.append (Reads.one rfl hr)).mono (RlO.kept hg hty)⟩
    obtain ⟨A', c', rfl⟩ := OwS.form h3
    have h0 : (la ++ [r]).length = N := by rw [List.length_append]; exact hN
    rw [h0] at h3 ⊢
    exact h A' c' w' h3 hg (hbel w' hg)
end
end Go.Proofs.YtjofkodncplhaaaGreatDoor.Ky
end

section
namespace Go.Proofs.YtjofkodncplhaaaGreatDoor.Ky
open Go.RowKit Go.Shelf UtfW
attribute [local go_sem] Oper.semAt_some

theorem keeps_of_below {W W' : World} (h : Below W.heap.size W W') : KeepsOthers W W' := ⟨h.size, fun k o hk _ => (h.block k (Array.getElem?_eq_some_iff.1 hk).1).trans hk⟩
/-- strings.Lines. -/
theorem Lines_in (n : Nat) (s : ByteArray) (w : World) :
    CallsIn Fence.wide n Tryz.prog 28 #[.string s] w fun e w' => e = .returned (.func (.func 46) #[] #[.pointer (some ⟨w.heap.size, 0, none⟩)]) ∧ w' = w.alloc (.cells #[.string s] 9) := by
  refine callsIn_of_wp Tryz.func28 rfl trivial ?_ rfl
  simp only [Tryz.ntmps28, List.size_toArray, List.length_cons, List.length_nil, Nat.reduceAdd, Nat.reduceSub, Array.replicate_succ, Array.replicate_zero, List.push_toArray, List.append_toArray, List.nil_append, List.cons_append]
  gi_wp2
  go_ret
  exact ⟨rfl, rfl⟩
theorem lines_box (n : Nat) (hn : 1 ≤ n) (Bb : Nat) (s : Tx) (hlen : s.length ≤ 900000) (w : World) (hBb : Bb < w.heap.size) (hB : Bx w Bb s) :
    SeqBox Fence.wide n Tryz.prog 46 #[.pointer (some ⟨Bb, 0, none⟩)] (fun x : Pc => #[Value.string x.1]) Bb (BoxKp Bb) (fun ys => ys.map Pc.tx = pcs s) (fun pre => ∃ rest, pcs s = pre.map Pc.tx ++ rest) (pcs s).length w := by
  intro l J Jx W hW hJ hJx hb hY h0
  refine lines1_in n hn l Bb s hlen J Jx hb (fun pre W1 h => hJ pre W1 W1.drew none h (grown_of_below (Joins.below_draws W1.heap.size W1 1)) (fun r e => by cases e)) hY W ?_ h0
  exact (hW.block Bb hBb).trans hB

/-- What Parse holds between two lines. -/
structure Pst (T B : Nat) (W : World) (o : List Rl) (k : Nat) : Prop where
  r0 : W.heap[T]? = some (.cells #[.slice none 0 0] 22)
  r1 : W.heap[T + 1]? = some (.cells #[.nilIface] 33)
  out : ∃ A c, W.heap[T + 1 + 1]? = some (.cells #[.slice A o.length c] 22) ∧ OwR W B (.slice A o.length c) o
  n : W.heap[T + 1 + 1 + 1]? = some (.cells #[.int .i64 k] 3)
section
variable {T B k : Nat} {W W' : World} {o : List Rl}
theorem Pst.own {row : Option Nat} (h : Pst T B W o k) (hg : W.grownBy W' row) (hr : ∀ r, row = some r → ∃ o : Obj, W.heap[r]? = some o ∧ o.isCells = false) : Pst T B W' o k :=
  ⟨cells_kept hg hr h.r0, cells_kept hg hr h.r1, by obtain ⟨A, c, h1, h2⟩ := h.out; exact ⟨A, c, cells_kept hg hr h1, h2.own hg hr⟩, cells_kept hg hr h.n⟩
theorem Pst.below (h : Pst T B W o k) (hb : Below W.heap.size W W') : Pst T B W' o k :=
  h.own (grown_of_below hb) (fun r e => by cases e)
theorem Pst.set {b i : Nat} (h : Pst T B W o k) (h0 : b ≠ T) (h1 : b ≠ T + 1) (h2 : b ≠ T + 1 + 1) (h3 : b ≠ T + 1 + 1 + 1) (hB : b < B) (v : Value) : Pst T B (W.setCell ⟨b, i, none⟩ v) o k :=
  ⟨(Deep.blk_setCell_other W ⟨b, i, none⟩ v T (Ne.symm h0)).trans h.r0, (Deep.blk_setCell_other W ⟨b, i, none⟩ v (T + 1) (Ne.symm h1)).trans h.r1, by
    obtain ⟨A, c, g1, g2⟩ := h.out
    exact ⟨A, c, (Deep.blk_setCell_other W ⟨b, i, none⟩ v (T + 1 + 1) (Ne.symm h2)).trans g1, g2.set hB v⟩, (Deep.blk_setCell_other W ⟨b, i, none⟩ v (T + 1 + 1 + 1) (Ne.symm h3)).trans h.n⟩
theorem Pst.setN (h : Pst T B W o k) (hB : T + 1 + 1 + 1 < B) (j : Nat) : Pst T B (W.setCell ⟨T + 1 + 1 + 1, 0, none⟩ (.int .i64 j)) o j :=
  ⟨(Deep.blk_setCell_other W ⟨T + 1 + 1 + 1, 0, none⟩ _ T (by simp only; omega)).trans h.r0, (Deep.blk_setCell_other W ⟨T + 1 + 1 + 1, 0, none⟩ _ (T + 1) (by simp only; omega)).trans h.r1, by
    obtain ⟨A, c, g1, g2⟩ := h.out
    exact ⟨A, c, (Deep.blk_setCell_other W ⟨T + 1 + 1 + 1, 0, none⟩ _ (T + 1 + 1) (by simp only; omega)).trans g1, g2.set hB _⟩, setCell_kb h.n (i := 0) _⟩
theorem Pst.sizes (h : Pst T B W o k) : T + 1 + 1 + 1 < W.heap.size := (Array.getElem?_eq_some_iff.1 h.n).1
end
theorem cell_of {W : World} {b : Nat} {v : Value} {E : TypeId} (h : W.heap[b]? = some (.cells #[v] E)) : W.cell? ⟨b, 0, none⟩ = some v := by simp [World.cell?, h]
theorem frz_of {W : World} {b : Nat} {cs : Array Value} {E : TypeId} (h : W.heap[b]? = some (.cells cs E)) (i : Nat) : W.frozen? ⟨b, i, none⟩ = false := frozen_of_row W b i _ _ h

theorem fail_set {T B k : Nat} {W : World} {o : List Rl} {code at_ : Int} {b : Nat} (h : Pst T B W o k) (he : ErrB W code at_ (.iface 106 (.pointer (some ⟨b, 0, none⟩)))) :
    ((W.setCell ⟨T, 0, none⟩ (.slice none 0 0)).setCell ⟨T + 1, 0, none⟩ (.iface 106 (.pointer (some ⟨b, 0, none⟩)))).heap[T]? = some (.cells #[.slice none 0 0] 22) ∧
    ((W.setCell ⟨T, 0, none⟩ (.slice none 0 0)).setCell ⟨T + 1, 0, none⟩ (.iface 106 (.pointer (some ⟨b, 0, none⟩)))).heap[T + 1]? = some (.cells #[.iface 106 (.pointer (some ⟨b, 0, none⟩))] 33) ∧
    ErrB ((W.setCell ⟨T, 0, none⟩ (.slice none 0 0)).setCell ⟨T + 1, 0, none⟩ (.iface 106 (.pointer (some ⟨b, 0, none⟩)))) code at_ (.iface 106 (.pointer (some ⟨b, 0, none⟩))) := by
  have g0 : (W.setCell ⟨T, 0, none⟩ (.slice none 0 0)).heap[T]? = some (.cells #[.slice none 0 0] 22) := setCell_kb h.r0 (i := 0) _
  have g1 : (W.setCell ⟨T, 0, none⟩ (.slice none 0 0)).heap[T + 1]? = some (.cells #[.nilIface] 33) := (Deep.blk_setCell_other W ⟨T, 0, none⟩ _ (T + 1) (by simp)).trans h.r1
  have e1 : ErrB (W.setCell ⟨T, 0, none⟩ (.slice none 0 0)) code at_ (.iface 106 (.pointer (some ⟨b, 0, none⟩))) := he.set (fun b' cs E hb hE e => by
    subst e
    have := h.r0
    rw [hb] at this
    injection this with this
    injection this with _ this
    rcases hE with rfl | rfl <;> exact absurd this (by decide)) _
  refine ⟨(Deep.blk_setCell_other _ ⟨T + 1, 0, none⟩ _ T (by simp)).trans g0, setCell_kb g1 (i := 0) _, e1.set (fun b' cs E hb hE e => by
    subst e
    rw [hb] at g1
    injection g1 with g1
    injection g1 with _ g1
    rcases hE with rfl | rfl <;> exact absurd g1 (by decide)) _⟩

/-- What Parse answers. -/
def ParP (s : Tx) (w : World) (e : Ending) (w' : World) : Prop :=
  ∃ A c er, e = .returned (.tuple #[.slice A (parseL nameR (split 10 (lns s)) 0 []).1.length c, er]) ∧ Below w.heap.size w w' ∧ Rs w' A (parseL nameR (split 10 (lns s)) 0 []).1.length c (parseL nameR (split 10 (lns s)) 0 []).1 ∧
    (((parseL nameR (split 10 (lns s)) 0 []).2.1 = 0 ∧ er = .nilIface) ∨ ((parseL nameR (split 10 (lns s)) 0 []).2.1 ≠ 0 ∧ ErrB w' (parseL nameR (split 10 (lns s)) 0 []).2.1 (parseL nameR (split 10 (lns s)) 0 []).2.2 er))

set_option maxHeartbeats 4000000 in
set_option maxRecDepth 100000 in
theorem Parse_in (s : ByteArray) (hs : s.size ≤ 900000) (w : World) (hU : Ut w) :
    CallsIn Fence.wide 3 Tryz.prog 15 #[.string s] w (ParP s.data.toList w) := by
  have hlns : (lns s.data.toList).length ≤ 900000 := by
    have h1 := Utf.lines_len s.data.toList
    rw [Array.length_toList] at h1
    rw [lns_eq]
    exact Nat.le_trans h1 hs
  have hlin := utfLines_any s (by omega)
  rw [← lns_eq] at hlin
  unfold ParP
  rw [← parse_pcs nameR _ (lns s.data.toList) (Nat.le_refl _)]
  obtain ⟨X, hX⟩ : ∃ X, lns s.data.toList = X := ⟨_, rfl⟩
  rw [hX] at hlns hlin ⊢
  clear hX
  have e0 := heap_alloc_new w (.cells #[.slice none 0 0] 22)
  have b0 := below_alloc w (.cells #[.slice none 0 0] 22)
  obtain ⟨T, hT⟩ : ∃ T, w.heap.size = T := ⟨_, rfl⟩
  have e1 := heap_alloc_new (w.alloc (.cells #[.slice none 0 0] 22)) (.cells #[.nilIface] 33)
  have b1 := below_alloc (w.alloc (.cells #[.slice none 0 0] 22)) (.cells #[.nilIface] 33)
  have e2 := heap_alloc_new ((w.alloc (.cells #[.slice none 0 0] 22)).alloc (.cells #[.nilIface] 33)) (.cells #[.slice none 0 0] 22)
  have b2 := below_alloc ((w.alloc (.cells #[.slice none 0 0] 22)).alloc (.cells #[.nilIface] 33)) (.cells #[.slice none 0 0] 22)
  have e3 := heap_alloc_new (((w.alloc (.cells #[.slice none 0 0] 22)).alloc (.cells #[.nilIface] 33)).alloc (.cells #[.slice none 0 0] 22)) (.cells #[.int .i64 0] 3)
  have b3 := below_alloc (((w.alloc (.cells #[.slice none 0 0] 22)).alloc (.cells #[.nilIface] 33)).alloc (.cells #[.slice none 0 0] 22)) (.cells #[.int .i64 0] 3)
  obtain ⟨wa, hwa⟩ : ∃ wa, w.alloc (.cells #[.slice none 0 0] 22) = wa := ⟨_, rfl⟩
  have sa : wa.heap.size = T + 1 := by rw [← hwa, World.size_alloc, hT]
  rw [hwa] at e0 b0 e1 b1 e2 b2 e3 b3
  obtain ⟨wb, hwb⟩ : ∃ wb, wa.alloc (.cells #[.nilIface] 33) = wb := ⟨_, rfl⟩
  have sb : wb.heap.size = T + 1 + 1 := by rw [← hwb, World.size_alloc, sa]
  rw [hwb] at e1 b1 e2 b2 e3 b3
  obtain ⟨wc, hwc⟩ : ∃ wc, wb.alloc (.cells #[.slice none 0 0] 22) = wc := ⟨_, rfl⟩
  have sc : wc.heap.size = T + 1 + 1 + 1 := by rw [← hwc, World.size_alloc, sb]
  rw [hwc] at e2 b2 e3 b3
  obtain ⟨wd, hwd⟩ : ∃ wd, wc.alloc (.cells #[.int .i64 0] 3) = wd := ⟨_, rfl⟩
  have sd : wd.heap.size = T + 1 + 1 + 1 + 1 := by rw [← hwd, World.size_alloc, sc]
  rw [hwd] at e3 b3
  have f0 := (b3.block w.heap.size (by omega)).trans ((b2.block w.heap.size (by omega)).trans ((b1.block w.heap.size (by omega)).trans e0))
  have f1 := (b3.block wa.heap.size (by omega)).trans ((b2.block wa.heap.size (by omega)).trans e1)
  have f2 := (b3.block wb.heap.size (by omega)).trans e2
  have hbd : Hid (Below T w wd) := Lib.hid (by
    rw [← hT]
    exact b0.trans ((b1.trans ((b2.trans (b3.mono (by omega))).mono (by omega))).mono (by omega)))
  rw [hT] at f0
  rw [sa] at f1
  rw [sb] at f2
  rw [sc] at e3
  have f0' := Lib.hid f0
  have f1' := Lib.hid f1
  have f2' := Lib.hid f2
  have f3' := Lib.hid e3
  have hT' := Lib.hid hT
  have p0 : Hid (∀ B, T + 1 + 1 + 1 < B → Pst T B (wd.setCell ⟨T + 1 + 1 + 1, 0, none⟩ (.int .i64 0)) [] 0) := Lib.hid fun B hB =>
    Pst.setN (k := 0) ⟨f0, f1, ⟨none, 0, by simpa using f2, OwR.nil _ _⟩, e3⟩ hB 0
  have c3 := cell_of e3
  have z3 := frz_of e3 0
  obtain ⟨we, hwe⟩ : ∃ we, wd.setCell ⟨T + 1 + 1 + 1, 0, none⟩ (.int .i64 0) = we := ⟨_, rfl⟩
  have hbe : Hid (Below T w we) := Lib.hid (by rw [← hwe]; exact below_set hbd.out (by omega) _)
  have se : we.heap.size = T + 1 + 1 + 1 + 1 := by rw [← hwe, Deep.nblk_setCell, sd]
  rw [hwe] at p0
  have hUe := Lib.hid (hU.below (by rw [hT]; exact hbe.out))
  have hlin' := Lib.hid (hlin we hUe.out)
  have hU0 := Lib.hid hU
  have hT' := Lib.hid hT
  clear f0 f1 f2 e0 e1 e2 e3 b0 b1 b2 b3 hlin hU
  refine callsIn_of_wp_marks Tryz.func15 rfl trivial ?_ rfl
  simp only [Tryz.ntmps15, List.size_toArray, List.length_cons, List.length_nil, Nat.reduceAdd, Nat.reduceSub, Array.replicate_succ, Array.replicate_zero, List.push_toArray, List.append_toArray, List.nil_append, List.cons_append]
  gi_wp2_with fail
  clear c3 z3 hwe hwd hwc hwb hwa hT sa sb sc sd hbd
  refine ⟨trivial, (callsIn_wide.2 hlin'.out).mono ?_⟩
  rintro e w4 ⟨rfl, hb4⟩
  have s4 := hb4.size
  have hb4' := Lib.hid (hbe.out.trans (hb4.mono (by omega)))
  have hU4 := Lib.hid (hUe.out.below hb4)
  have hb4e := Lib.hid hb4
  clear hb4 hlin' hUe
  gi_wp2_with fail
  refine ⟨trivial, (Lines_in 2 (strOf X) w4).mono ?_⟩
  rintro e w5 ⟨rfl, rfl⟩
  have hbL := below_alloc w4 (.cells #[.string (strOf X)] 9)
  have hnL : Bx (w4.alloc (.cells #[.string (strOf X)] 9)) w4.heap.size X := heap_alloc_new w4 _
  obtain ⟨pb, hpb⟩ : ∃ pb, w4.heap.size = pb := ⟨_, rfl⟩
  obtain ⟨wL, hwL⟩ : ∃ wL, w4.alloc (.cells #[.string (strOf X)] 9) = wL := ⟨_, rfl⟩
  have sL : wL.heap.size = pb + 1 := by rw [← hwL, World.size_alloc, hpb]
  rw [hwL] at hbL hnL
  rw [hpb] at hnL
  have hUL := Lib.hid (hU4.out.below hbL)
  have hxL := Lib.hid (hb4'.out.trans (hbL.mono (by omega)))
  have pL : Hid (∀ B, T + 1 + 1 + 1 < B → Pst T B wL [] 0) := Lib.hid fun B hB => ((p0.out B hB).below hb4e.out).below hbL
  have hTp : Hid (T + 1 + 1 + 1 < pb) := Lib.hid (by omega)
  clear hbL hb4' hU4 hb4e p0 hbe
  rw [hwL, hpb]
  clear hwL hpb
  gi_wp2_with fail
  have hmp := (pcs_small _ X (Nat.le_refl _)).1
  obtain ⟨B, hBe⟩ : ∃ B, wL.heap.size = B := ⟨_, rfl⟩
  have hTB : T + 1 + 1 + 1 < B := by have := hTp.out; omega
  have hpB : pb < B := by omega
  refine wpIn_rangeFunc_box rfl (by omega) (gf := 46) (lb := #[.pointer (some ⟨pb, 0, none⟩)]) rfl trivial (enters_of Tryz.func46 (by kernel_rfl) rfl)
    (lines_box 2 (by omega) pb X hlns wL (by omega) hnL) (by omega) (fun h k => k.trans h) (fun W l o o' hl _ => World.putObj_heap_other (by omega)) (fun _ => rfl)
    (fun pre W => (∃ o, run nameR (pre.map Pc.tx) [] = some o ∧ Pst T B W o pre.length ∧ B ≤ W.heap.size) ∧ Below T w W)
    (fun pre W => (∃ pre' x o b, pre = pre' ++ [x] ∧ run nameR (pre'.map Pc.tx) [] = some o ∧ run nameR [Pc.tx x] o = none ∧ W.heap[T]? = some (.cells #[.slice none 0 0] 22) ∧
      W.heap[T + 1]? = some (.cells #[.iface 106 (.pointer (some ⟨b, 0, none⟩))] 33) ∧ ErrB W (bad nameR (Pc.tx x) o) (pre.length : Nat) (.iface 106 (.pointer (some ⟨b, 0, none⟩)))) ∧ Below T w W)
    (OwnFrom.and (Own.from (fun s W W' row hs hg hr => by
      obtain ⟨o, h1, h2, h3⟩ := hs
      exact ⟨o, h1, h2.own hg hr, Nat.le_trans h3 hg.size⟩) _) (ownFrom_below (by have := hT'.out; omega) (by omega)))
    (OwnFrom.and (Own.from (fun s W W' row hs hg hr => by
      obtain ⟨pre', x, o, b, h1, h2, h3, h4, h5, h6⟩ := hs
      exact ⟨pre', x, o, b, h1, h2, h3, cells_kept hg hr h4, cells_kept hg hr h5, h6.kept hg hr⟩) _) (ownFrom_below (by have := hT'.out; omega) (by omega)))
    (fun pre v W ⟨⟨o, h1, h2, h4⟩, h3⟩ => ⟨⟨o, h1, h2.set (by have := hTp.out; omega) (by have := hTp.out; omega) (by have := hTp.out; omega) (by have := hTp.out; omega) hpB v, by rw [Deep.nblk_setCell]; exact h4⟩, below_set h3 (by have := hTp.out; omega) v⟩)
    ⟨⟨[], rfl, pL.out B hTB, Nat.le_of_eq hBe.symm⟩, hxL.out⟩
    (fun x => { tmps := #[.string s, undef, .pointer (some ⟨T, 0, none⟩), .pointer (some ⟨T + 1, 0, none⟩), .pointer (some ⟨T + 1 + 1, 0, none⟩), .pointer (some ⟨T + 1 + 1 + 1, 0, none⟩), .string x.1, undef, undef, .string s, .string (strOf X), .func (.func 46) #[] #[.pointer (some ⟨pb, 0, none⟩)], .string x.1, undef, undef, undef, undef, undef, undef, undef, undef, undef, undef, undef, undef, undef, undef, undef, undef, undef, undef, undef, undef, undef, undef, undef, undef, undef, undef, undef, undef, undef, undef, undef, undef, undef, undef, undef, undef, undef, undef, undef, undef, undef, undef], defers := [] }) ?assign ?body ?done ?stop
  case assign =>
    intro l x W K hK
    gi_wp2
    exact hK
  case body =>
    rintro l pre x W ⟨⟨o, hrun, hst, hBW⟩, hBel⟩ hlen
    obtain ⟨k, hk⟩ : ∃ k, pre.length = k := ⟨_, rfl⟩
    rw [hk] at hst hlen
    have c3 := cell_of hst.n
    have z3 := frz_of hst.n 0
    have hxs := x.2
    have hsz0 := hst.sizes
    have hUW := hUL.out
    obtain ⟨W1, hW1⟩ : ∃ W1, W.setCell ⟨T + 1 + 1 + 1, 0, none⟩ (.int .i64 ((k : Int) + 1)) = W1 := ⟨_, rfl⟩
    have hst1 : Hid (Pst T B W1 o (k + 1)) := Lib.hid (by rw [← hW1]; exact_mod_cast hst.setN hTB (k + 1))
    have hB1 : Hid (Below T w W1) := Lib.hid (by rw [← hW1]; exact below_set hBel (by omega) _)
    have hK1 : Hid (KeepsOthers W W1) := Lib.hid (by rw [← hW1]; exact KeepsOthers.setCell _ _ _)
    have hx1 : Hid (BoxKp pb W W1) := Lib.hid (by rw [← hW1]; exact Deep.blk_setCell_other W ⟨T + 1 + 1 + 1, 0, none⟩ _ pb (by have := hTp.out; simp only; omega))
    have hs1 : W1.heap.size = W.heap.size := by rw [← hW1, Deep.nblk_setCell]
    have hpre' : Hid ((pre ++ [x]).length = k + 1) := Lib.hid (by simp [hk])
    have hrun1 : Hid (run nameR ((pre ++ [x]).map Pc.tx) [] = run nameR [Pc.tx x] o) := Lib.hid (by rw [List.map_append, run_append, hrun]; rfl)
    have hrun' := Lib.hid hrun
    obtain ⟨xs, hxe⟩ : ∃ xs, x.1 = xs := ⟨_, rfl⟩
    have hxt : Pc.tx x = xs.data.toList := by unfold Pc.tx; rw [hxe]
    have htl := trim_small (Pc.tx x)
    have hxl : (Pc.tx x).length ≤ 900000 := by unfold Pc.tx; rw [Array.length_toList]; exact hxs
    have htr := trim_any xs (by rw [← hxe]; omega) W1
    rw [← hxt] at htr
    obtain ⟨u, hu⟩ : ∃ u, Pc.tx x = u := ⟨_, rfl⟩
    rw [hu] at htr htl hxl hrun1
    obtain ⟨t, ht⟩ : ∃ t, trim u = t := ⟨_, rfl⟩
    rw [ht] at htr htl
    have hmost := run_most nameR hrun (by simp)
    have hu' := Lib.hid hu
    have ht' := Lib.hid ht
    have hxt' := Lib.hid hxt
    clear hst hBel hrun hu ht hk hxt
    rw [hxe]
    gi_wp2_with fail
    clear hW1 c3 z3
    refine ⟨trivial, (CallsIn.inRound l (callsIn_wide.2 htr)).mono ?_⟩
    rintro e W2 ⟨rfl, hb2⟩
    have hst2 := Lib.hid (hst1.out.below hb2)
    have hB2 := Lib.hid (hB1.out.trans (hb2.mono (by omega)))
    have hK2 := Lib.hid (hK1.out.trans (keeps_of_below hb2))
    have hs2 := hb2.size
    have hx2 : Hid (BoxKp pb W W2) := Lib.hid ((hb2.block pb (by omega)).trans hx1.out)
    clear hb2 htr hst1 hB1 hK1 hx1
    have hskip : Hid (skips u = decide (t = [] ∨ t.head? = some 35)) := Lib.hid (by unfold skips; rw [ht'.out])
    have hgo : Hid (skips u = true → KeepsOthers W W2 ∧ BoxKp pb W W2 ∧ (∃ o, run nameR ((pre ++ [x]).map Pc.tx) [] = some o ∧ Pst T B W2 o (pre ++ [x]).length ∧ B ≤ W2.heap.size) ∧ Below T w W2) := Lib.hid fun g => by
      refine ⟨hK2.out, hx2.out, ⟨o, ?_, by rw [hpre'.out]; exact hst2.out, by omega⟩, hB2.out⟩
      rw [hrun1.out, run, if_pos g]
      rfl
    have hSt : Hid (strOf t = strOf t) := Lib.hid rfl
    obtain ⟨S, hS⟩ : ∃ S, strOf t = S := ⟨_, rfl⟩
    have hSl : S.size = t.length := by rw [← hS, strOf_size']
    have hSd : Hid (S = strOf t) := Lib.hid hS.symm
    rw [hS]
    cases t with
    | nil =>
      have g := Lib.hid (hgo.out (by rw [hskip.out]; rfl))
      have e1 : S.toList.isEmpty = true := by rw [← hS, strOf_empty]; rfl
      clear hS
      gi_wp2_with fail
      exact g.out
    | cons b0 r0 =>
      have e1 : S.toList.isEmpty = false := by rw [← hS, strOf_empty]; rfl
      have e2 : 0 < S.size := by rw [hSl]; simp
      have e3 : S[0] = b0 := by subst hS; rfl
      clear hS
      by_cases hb0 : b0 = 35
      · have g := Lib.hid (hgo.out (by rw [hskip.out, hb0]; simp))
        have e4 : ((S[0].toNat : Int) == 35) = true := by rw [e3, hb0]; rfl
        clear e3
        gi_wp2_with fail
        exact g.out
      · have e4 : ((S[0].toNat : Int) == 35) = false := by
          rw [e3, beq_eq_false_iff_ne]
          intro h
          exact hb0 (UInt8.toNat_inj.1 (by rw [show b0.toNat = 35 by omega]; rfl))
        have hsk : Hid (skips u = false) := Lib.hid (by rw [hskip.out]; simp [hb0])
        have hline := line_any S (by omega) W2 (hU0.out.below (by rw [hT'.out]; exact hB2.out))
        have e5 : S.data.toList = b0 :: r0 := by rw [hSd.out, strOf_data']
        rw [e5] at hline
        have e5' := Lib.hid e5
        have hr2 : Hid (run nameR [u] o = match lineR nameR (b0 :: r0) with
            | none => none
            | some y => if 64 ≤ o.length then none else if placedB o y = true then some (o ++ [y]) else none) := Lib.hid (by
          rw [run, if_neg (by rw [hsk.out]; decide), ht'.out]
          cases lineR nameR (b0 :: r0) with
          | none => rfl
          | some y => rfl)
        have hbadc : Hid (bad nameR u o = match lineR nameR (b0 :: r0) with
            | none => 20
            | some _ => if 64 ≤ o.length then 20 else 21) := Lib.hid (by
          unfold bad
          rw [ht'.out]
          cases lineR nameR (b0 :: r0) <;> rfl)
        have hstop : Hid (∀ (W9 : World) (b : Nat), KeepsOthers W W9 → Below T w W9 → Pst T B W9 o (k + 1) → run nameR [u] o = none → ErrB W9 (bad nameR u o) ((k + 1 : Nat) : Int) (.iface 106 (.pointer (some ⟨b, 0, none⟩))) →
            KeepsOthers W ((W9.setCell ⟨T, 0, none⟩ (.slice none 0 0)).setCell ⟨T + 1, 0, none⟩ (.iface 106 (.pointer (some ⟨b, 0, none⟩)))) ∧
            (∃ pre' x' o b', pre ++ [x] = pre' ++ [x'] ∧ run nameR (pre'.map Pc.tx) [] = some o ∧ run nameR [Pc.tx x'] o = none ∧ ((W9.setCell ⟨T, 0, none⟩ (.slice none 0 0)).setCell ⟨T + 1, 0, none⟩ (.iface 106 (.pointer (some ⟨b, 0, none⟩)))).heap[T]? = some (.cells #[.slice none 0 0] 22) ∧
              ((W9.setCell ⟨T, 0, none⟩ (.slice none 0 0)).setCell ⟨T + 1, 0, none⟩ (.iface 106 (.pointer (some ⟨b, 0, none⟩)))).heap[T + 1]? = some (.cells #[.iface 106 (.pointer (some ⟨b', 0, none⟩))] 33) ∧
              ErrB ((W9.setCell ⟨T, 0, none⟩ (.slice none 0 0)).setCell ⟨T + 1, 0, none⟩ (.iface 106 (.pointer (some ⟨b, 0, none⟩)))) (bad nameR (Pc.tx x') o) ((pre ++ [x]).length : Nat) (.iface 106 (.pointer (some ⟨b', 0, none⟩)))) ∧
            Below T w ((W9.setCell ⟨T, 0, none⟩ (.slice none 0 0)).setCell ⟨T + 1, 0, none⟩ (.iface 106 (.pointer (some ⟨b, 0, none⟩))))) := Lib.hid fun W9 b g1 g2 g3 g4 g5 => by
          obtain ⟨q1, q2, q3⟩ := fail_set g3 g5
          refine ⟨(g1.trans (KeepsOthers.setCell _ _ _)).trans (KeepsOthers.setCell _ _ _), ⟨pre, x, o, b, rfl, hrun'.out, by rw [hu'.out]; exact g4, q1, q2, by rw [hu'.out, hpre'.out]; exact q3⟩, below_set (below_set g2 (by omega) _) (by omega) _⟩
        clear e3 hgo hskip e5
        gi_wp2_with fail
        refine ⟨trivial, (CallsIn.inRound l (callsIn_wide.2 hline)).mono ?_⟩
        rintro e W3 ⟨A1, n1, c1, A2, n2, c2, rfl, hb3, hrows⟩
        clear hline e1 e2 e4
        have hst3 := Lib.hid (hst2.out.below hb3)
        have hB3 := Lib.hid (hB2.out.trans (hb3.mono (by omega)))
        have hK3 := Lib.hid (hK2.out.trans (keeps_of_below hb3))
        have hx3 : Hid (BoxKp pb W W3) := Lib.hid ((hb3.block pb (by omega)).trans hx2.out)
        have hs3 := hb3.size
        have hrows' := Lib.hid hrows
        clear hb3 hrows
        obtain ⟨R, hR⟩ : ∃ R, lineR nameR (b0 :: r0) = R := ⟨_, rfl⟩
        rw [hR] at hrows' hr2 hbadc ⊢
        have hR' := Lib.hid hR
        clear hR
        have hn4 := kb_new W3 A1 n1 c1 A2 n2 c2
        have hb4 := below_alloc W3 (.cells #[.slice A1 n1 c1, .slice A2 n2 c2] 27)
        obtain ⟨p7, hp7⟩ : ∃ p7, W3.heap.size = p7 := ⟨_, rfl⟩
        obtain ⟨W4, hW4⟩ : ∃ W4, W3.alloc (.cells #[.slice A1 n1 c1, .slice A2 n2 c2] 27) = W4 := ⟨_, rfl⟩
        rw [hW4] at hn4 hb4
        rw [hp7] at hn4
        have hst4 := Lib.hid (hst3.out.below hb4)
        have hB4 := Lib.hid (hB3.out.trans (hb4.mono (by omega)))
        have hK4 := Lib.hid (hK3.out.trans (keeps_of_below hb4))
        have hx4 : Hid (BoxKp pb W W4) := Lib.hid ((hb4.block pb (by omega)).trans hx3.out)
        have hs4 := hb4.size
        have hn4' := Lib.hid hn4
        have hb4' := Lib.hid hb4
        obtain ⟨A, c, hout, hrs⟩ := hst4.out.out
        have c3 := cell_of hst4.out.n
        have c2' := cell_of hout
        obtain ⟨k7, k8⟩ := hn4.cells
        have hout' := Lib.hid hout
        have hrs' := Lib.hid hrs
        clear hn4 hb4 hst3 hB3 hK3 hx3 hout hrs
        obtain ⟨m, hm⟩ : ∃ m, o.length = m := ⟨_, rfl⟩
        have hm' := Lib.hid hm
        rw [hm] at c2' hmost hr2 hbadc
        cases R with
        | none =>
          have hno : Hid (run nameR [u] o = none) := Lib.hid (by rw [hr2.out])
          have hbc : Hid (bad nameR u o = 20) := Lib.hid (by rw [hbadc.out])
          have hfl := Lib.hid (fail_any 20 ((k : Int) + 1) (by decide) W4)
          gi_wp2_with fail
          refine ⟨trivial, (CallsIn.inRound l (callsIn_wide.2 hfl.out)).mono ?_⟩
          rintro e W5 ⟨bb, rfl, hb5, he5⟩
          have hst5 := Lib.hid (hst4.out.below hb5)
          have hB5 := Lib.hid (hB4.out.trans (hb5.mono (by omega)))
          have hK5 := Lib.hid (hK4.out.trans (keeps_of_below hb5))
          have g := Lib.hid (hstop.out W5 bb hK5.out hB5.out hst5.out hno.out (by rw [hbc.out]; exact_mod_cast he5))
          have r0' := cell_of hst5.out.r0
          have r1' := cell_of hst5.out.r1
          have z0 := frz_of hst5.out.r0 0
          have z1 := frz_of hst5.out.r1 0
          clear hb5 he5 c3 c2' k7 k8
          gi_wp2_with fail
          exact g.out
        | some y =>
          obtain ⟨hy1, hy2⟩ := hrows'.out y rfl
          have hy1' := Lib.hid ((hy1.below hb4'.out).down (show B ≤ W2.heap.size by omega))
          have hy2' := Lib.hid ((hy2.below hb4'.out).down (show B ≤ W2.heap.size by omega))
          have hyr := line_rule nameR hR'.out
          have hyne : y.1 ≠ [] := by
            intro e
            unfold ruleB at hyr
            rw [e] at hyr
            simp at hyr
          clear hy1 hy2 hyr
          by_cases hm64 : m = 64
          · have hno : Hid (run nameR [u] o = none) := Lib.hid (by rw [hr2.out]; (try simp only); rw [if_pos (by omega)])
            have hbc : Hid (bad nameR u o = 20) := Lib.hid (by rw [hbadc.out]; (try simp only); rw [if_pos (by omega)])
            have hfl := Lib.hid (fail_any 20 ((k : Int) + 1) (by decide) W4)
            have j1 : ((m : Int) == 64) = true := by rw [beq_iff_eq]; omega
            gi_wp2_with fail
            refine ⟨trivial, (CallsIn.inRound l (callsIn_wide.2 hfl.out)).mono ?_⟩
            rintro e W5 ⟨bb, rfl, hb5, he5⟩
            have hst5 := Lib.hid (hst4.out.below hb5)
            have hB5 := Lib.hid (hB4.out.trans (hb5.mono (by omega)))
            have hK5 := Lib.hid (hK4.out.trans (keeps_of_below hb5))
            have g := Lib.hid (hstop.out W5 bb hK5.out hB5.out hst5.out hno.out (by rw [hbc.out]; exact_mod_cast he5))
            have r0' := cell_of hst5.out.r0
            have r1' := cell_of hst5.out.r1
            have z0 := frz_of hst5.out.r0 0
            have z1 := frz_of hst5.out.r1 0
            clear hb5 he5 c3 c2' k7 k8
            gi_wp2_with fail
            exact g.out
          · have j1 : ((m : Int) == 64) = false := by rw [beq_eq_false_iff_ne]; omega
            have hsm := smr_len (run_small nameR (M := 900000) hrun'.out (fun z hz => by
              obtain ⟨z', _, rfl⟩ := List.mem_map.1 hz
              have := z'.2
              unfold Pc.tx
              rw [Array.length_toList]
              exact this) (fun r hr => by cases hr)) (by decide)
            have hpl := placed_any A m c o A1 n1 c1 A2 n2 c2 y W4 (by rw [← hm'.out]; exact hrs'.out.rs) hy1'.out.rd hyne hsm
            obtain ⟨V, hV⟩ : ∃ V, placedB o y = V := ⟨_, rfl⟩
            rw [hV] at hpl
            have hV' := Lib.hid hV
            have hpl' := Lib.hid hpl
            clear hsm hyne hpl hV
            gi_wp2_with fail
            refine ⟨trivial, (CallsIn.inRound l (callsIn_wide.2 hpl'.out)).mono ?_⟩
            rintro e W6 ⟨rfl, hb6⟩
            have hst6 := Lib.hid (hst4.out.below hb6)
            have hB6 := Lib.hid (hB4.out.trans (hb6.mono (by omega)))
            have hK6 := Lib.hid (hK4.out.trans (keeps_of_below hb6))
            have hx6 : Hid (BoxKp pb W W6) := Lib.hid ((hb6.block pb (by omega)).trans hx4.out)
            have hs6 := hb6.size
            have hb6' := Lib.hid hb6
            have hn6 := hn4'.out.below hb6
            have c36 := cell_of hst6.out.n
            have hout6 := (hb6.block (T + 1 + 1) (by have := hst4.out.sizes; omega)).trans hout'.out
            clear hb6 c3 c2' k7 k8
            obtain ⟨k7, k8⟩ := hn6.cells
            have c3 := c36
            have c2' := cell_of hout6
            have z2 := frz_of hout6 0
            cases V with
            | false =>
              have hno : Hid (run nameR [u] o = none) := Lib.hid (by rw [hr2.out]; (try simp only); rw [if_neg (by omega), hV'.out]; rfl)
              have hbc : Hid (bad nameR u o = 21) := Lib.hid (by rw [hbadc.out]; (try simp only); rw [if_neg (by omega)])
              have hfl := Lib.hid (fail_any 21 ((k : Int) + 1) (by decide) W6)
              clear c36
              gi_wp2_with fail
              refine ⟨trivial, (CallsIn.inRound l (callsIn_wide.2 hfl.out)).mono ?_⟩
              rintro e W5 ⟨bb, rfl, hb5, he5⟩
              have hst5 := Lib.hid (hst6.out.below hb5)
              have hB5 := Lib.hid (hB6.out.trans (hb5.mono (by omega)))
              have hK5 := Lib.hid (hK6.out.trans (keeps_of_below hb5))
              have g := Lib.hid (hstop.out W5 bb hK5.out hB5.out hst5.out hno.out (by rw [hbc.out]; exact_mod_cast he5))
              have r0' := cell_of hst5.out.r0
              have r1' := cell_of hst5.out.r1
              have z0 := frz_of hst5.out.r0 0
              have z1 := frz_of hst5.out.r1 0
              clear hb5 he5 c3 c2' k7 k8
              gi_wp2_with fail
              exact g.out
            | true =>
              have hok : Hid (run nameR [u] o = some (o ++ [y])) := Lib.hid (by rw [hr2.out]; (try simp only); rw [if_neg (by omega), hV'.out, if_pos rfl])
              clear c36
              have hbA := below_alloc W6 (.cells #[.slice A1 n1 c1, .slice A2 n2 c2] 27)
              have hnA := kb_new W6 A1 n1 c1 A2 n2 c2
              obtain ⟨wA, hwA⟩ : ∃ wA, W6.alloc (.cells #[.slice A1 n1 c1, .slice A2 n2 c2] 27) = wA := ⟨_, rfl⟩
              have hlast := Lib.hid (hst6.out.below (by rw [hwA] at hbA; exact hbA))
              have hrs6 : Hid (OwR wA B (.slice A m c) o) := Lib.hid (by
                rw [hwA] at hbA
                rw [← hm'.out]
                exact (hrs'.out.below hb6'.out).below hbA)
              have hyA : Hid (RlO B wA [.slice A1 n1 c1, .slice A2 n2 c2] y) := Lib.hid (by
                rw [hwA] at hbA
                exact ⟨A1, n1, c1, A2, n2, c2, rfl, (hy1'.out.below hb6'.out).below hbA, (hy2'.out.below hb6'.out).below hbA⟩)
              have hsA : Hid (wA.heap.size = W6.heap.size + 1) := Lib.hid (by rw [← hwA, World.size_alloc])
              have hB6A : Hid (Below T w wA) := Lib.hid (by rw [hwA] at hbA; exact hB6.out.trans (hbA.mono (by omega)))
              have hK6A : Hid (KeepsOthers W wA) := Lib.hid (by rw [hwA] at hbA; exact hK6.out.trans (keeps_of_below hbA))
              have hx6A : Hid (BoxKp pb W wA) := Lib.hid (by rw [hwA] at hbA; exact (hbA.block pb (by omega)).trans hx6.out)
              obtain ⟨qA0, qA1⟩ := hnA.cells
              have qA0' : Hid (wA.cell? ⟨W6.heap.size, 0, none⟩ = some (.slice A1 n1 c1)) := Lib.hid (by rw [← hwA]; exact qA0)
              have qA1' : Hid (wA.cell? ⟨W6.heap.size, 1, none⟩ = some (.slice A2 n2 c2)) := Lib.hid (by rw [← hwA]; exact qA1)
              have houtA : Hid (wA.heap[T + 1 + 1]? = some (.cells #[.slice A m c] 22)) := Lib.hid (by
                rw [hwA] at hbA
                rw [← hm'.out]
                exact (hbA.block (T + 1 + 1) (by omega)).trans hout6)
              have hwA' := Lib.hid hwA
              clear hwA hbA hnA qA0 qA1
              gi_wp2_with (gi_at_builtin; apply stop_here)
              rw [hwA'.out]
              refine Stop.go (append_rl _ rfl _ _ rfl B _ o rfl hrs6.out W6.heap.size _ _ y rfl qA0'.out qA1'.out hyA.out (m + 1) (by rw [hm'.out]) (by omega) (by have := hsA.out; omega) ?_)
              intro A7 c7 w7 g1 g2 g3
              have hout7 := (g3.block (T + 1 + 1) (by omega)).trans houtA.out
              have y2 := cell_of hout7
              have z7 := frz_of hout7 0
              have g1' := Lib.hid g1
              have hK7 : Hid (KeepsOthers W w7) := Lib.hid (hK6A.out.trans (KeepsOthers.of_grownBy g2 (fun j o' hj ho' => by
                have hj : (Value.slice A m c).ownBlock = some j := hj
                obtain ⟨xs9, hown9, _⟩ := hrs6.out
                rcases hown9.2 with ⟨hv9, _⟩ | ⟨gg, cap9, cur9, hv9, _, hh9, _⟩
                · rw [hv9] at hj
                  cases hj
                · rw [hv9] at hj
                  simp only [Value.ownBlock, Option.some.injEq] at hj
                  subst hj
                  rw [hh9] at ho'
                  injection ho' with ho'
                  subst ho'
                  rfl)))
              have hx7 : Hid (BoxKp pb W w7) := Lib.hid ((g3.block pb (by omega)).trans hx6A.out)
              have hB7 : Hid (Below T w w7) := Lib.hid (hB6A.out.trans (g3.mono (by omega)))
              have r07 := Lib.hid ((g3.block T (by omega)).trans hlast.out.r0)
              have r17 := Lib.hid ((g3.block (T + 1) (by omega)).trans hlast.out.r1)
              have n7 := Lib.hid ((g3.block (T + 1 + 1 + 1) (by omega)).trans hlast.out.n)
              have hs7 : Hid (B ≤ w7.heap.size) := Lib.hid (by have := g3.size; have := hsA.out; omega)
              have hout7' := Lib.hid hout7
              have hlen : Hid ((o ++ [y]).length = m + 1) := Lib.hid (by rw [List.length_append, hm'.out]; rfl)
              clear g1 g2 g3 hout7
              gi_wp2_with fail
              refine ⟨hK7.out.trans (KeepsOthers.setCell _ _ _), (Deep.blk_setCell_other w7 ⟨T + 1 + 1, 0, none⟩ _ pb (by have := hTp.out; simp only; omega)).trans hx7.out, ⟨o ++ [y], ?_, ?_, ?_⟩, below_set hB7.out (by omega) _⟩
              · rw [hrun1.out]
                exact hok.out
              · rw [hpre'.out]
                refine ⟨(Deep.blk_setCell_other w7 ⟨T + 1 + 1, 0, none⟩ _ T (by simp only; omega)).trans r07.out, (Deep.blk_setCell_other w7 ⟨T + 1 + 1, 0, none⟩ _ (T + 1) (by simp only; omega)).trans r17.out, ?_, (Deep.blk_setCell_other w7 ⟨T + 1 + 1, 0, none⟩ _ (T + 1 + 1 + 1) (by simp only; omega)).trans n7.out⟩
                rw [hlen.out]
                exact ⟨A7, c7, setCell_kb hout7'.out (i := 0) _, g1'.out.set (by omega) _⟩
              · rw [Deep.nblk_setCell]
                exact hs7.out
  case done =>
    rintro D ys W hD hys ⟨⟨o, hrun, hst, hBW⟩, hBel⟩ hK
    rw [hys] at hrun
    have hpe := Lib.hid (parse_end nameR hrun)
    obtain ⟨A, c, hout, hrs⟩ := hst.out
    obtain ⟨m, hm⟩ : ∃ m, o.length = m := ⟨_, rfl⟩
    rw [hm] at hout hrs
    have c2 := cell_of hout
    have hm' := Lib.hid hm
    have hst' := Lib.hid hst
    have hrs' := Lib.hid hrs
    have hB' := Lib.hid hBel
    have hK' := Lib.hid hK
    have hD' := Lib.hid hD
    have hBW' := Lib.hid hBW
    clear hm hst hrs hBel hK hout hrun hD hBW
    have hTB' := hTp.out
    by_cases h0 : m = 0
    · have hpe' : Hid (parseL nameR (pcs X) 0 [] = ([], 20, 0)) := Lib.hid (by rw [hpe.out, if_pos (List.eq_nil_of_length_eq_zero (hm'.out.trans h0))])
      have hfl := Lib.hid (fail_any 20 0 (by decide) W)
      have j1 : ((m : Int) == 0) = true := by rw [beq_iff_eq]; omega
      clear h0
      gi_wp2_with fail
      refine ⟨trivial, (callsIn_wide.2 hfl.out).mono ?_⟩
      rintro e W5 ⟨bb, rfl, hb5, he5⟩
      have hst5 := hst'.out.below hb5
      have hB5 := Lib.hid (hB'.out.trans (hb5.mono (by have := hB'.out.size; have := hT'.out; omega)))
      have hK5 := (hb5.block D (Array.getElem?_eq_some_iff.1 hK'.out).1).trans hK'.out
      have q := fail_set hst5 he5
      have r0' := cell_of hst5.r0
      have r1' := cell_of hst5.r1
      have z0 := frz_of hst5.r0 0
      have z1 := frz_of hst5.r1 0
      have q' := Lib.hid q
      have hKp : Hid (((W5.setCell ⟨T, 0, none⟩ (.slice none 0 0)).setCell ⟨T + 1, 0, none⟩ (.iface 106 (.pointer (some ⟨bb, 0, none⟩)))).heap[D]? = some (.deferred (some []))) := Lib.hid
        ((Deep.blk_setCell_other _ ⟨T + 1, 0, none⟩ _ D (by have := hD'.out; simp only; omega)).trans ((Deep.blk_setCell_other _ ⟨T, 0, none⟩ _ D (by have := hD'.out; simp only; omega)).trans hK5))
      have hBf := Lib.hid (below_set (below_set hB5.out (show T ≤ T by omega) (i := 0) (.slice none 0 0)) (show T ≤ T + 1 by omega) (i := 0) (.iface 106 (.pointer (some ⟨bb, 0, none⟩))))
      clear hb5 he5 c2 hst5 hK5 q
      gi_wp2_with fail
      obtain ⟨q0, q1, q2⟩ := q'.out
      have hKp' := hKp.out
      have hBf' := hBf.out
      clear q' hKp hBf
      generalize ((W5.setCell ⟨T, 0, none⟩ (.slice none 0 0)).setCell ⟨T + 1, 0, none⟩ (.iface 106 (.pointer (some ⟨bb, 0, none⟩)))) = Wf at q0 q1 q2 hKp' hBf' ⊢
      have hrow : ∀ r, some D = some r → ∃ o : Obj, Wf.heap[r]? = some o ∧ o.isCells = false := fun r e => by cases e; exact ⟨_, hKp', rfl⟩
      have hgr := grownBy_putObj' Wf D (.deferred none)
      have z0 := cell_of (cells_kept hgr hrow q0)
      have z1 := cell_of (cells_kept hgr hrow q1)
      have e6 := q2.kept hgr hrow
      have hB6 := hBf'.trans (belowK_b (n₀ := T) (w := wL) (by omega) Wf D _ (.deferred none) hD'.out hKp' rfl rfl)
      refine ⟨by simp, .inl ⟨_, _, rfl, run_takeDeferred hKp', ?_⟩⟩
      refine ⟨.tuple #[.slice none 0 0, .iface 106 (.pointer (some ⟨bb, 0, none⟩))], ?_, ?_⟩
      · simp [results, Tryz.f15, go_sem, z0, z1]
      · rw [hpe'.out]
        exact ⟨none, 0, _, rfl, by rw [hT'.out]; exact hB6, (OwR.nil _ T).rs, .inr ⟨by decide, e6⟩⟩
    · have hpe' : Hid (parseL nameR (pcs X) 0 [] = (o, 0, 0)) := Lib.hid (by rw [hpe.out, if_neg (fun h => h0 (by rw [← hm'.out, h]; rfl))])
      have j1 : ((m : Int) == 0) = false := by rw [beq_eq_false_iff_ne]; omega
      have r0' := cell_of hst'.out.r0
      have r1' := cell_of hst'.out.r1
      have z0 := frz_of hst'.out.r0 0
      have z1 := frz_of hst'.out.r1 0
      clear h0
      have q0 : Hid (((W.setCell ⟨T, 0, none⟩ (.slice A m c)).setCell ⟨T + 1, 0, none⟩ .nilIface).heap[T]? = some (.cells #[.slice A m c] 22)) := Lib.hid ((Deep.blk_setCell_other _ ⟨T + 1, 0, none⟩ _ T (by simp)).trans (setCell_kb hst'.out.r0 (i := 0) _))
      have q1 : Hid (((W.setCell ⟨T, 0, none⟩ (.slice A m c)).setCell ⟨T + 1, 0, none⟩ .nilIface).heap[T + 1]? = some (.cells #[.nilIface] 33)) := Lib.hid (setCell_kb ((Deep.blk_setCell_other W ⟨T, 0, none⟩ _ (T + 1) (by simp)).trans hst'.out.r1) (i := 0) _)
      have q2 : Hid (OwR ((W.setCell ⟨T, 0, none⟩ (.slice A m c)).setCell ⟨T + 1, 0, none⟩ .nilIface) B (.slice A m c) o) := Lib.hid ((hrs'.out.set (by omega) _).set (by omega) _)
      have hKp : Hid (((W.setCell ⟨T, 0, none⟩ (.slice A m c)).setCell ⟨T + 1, 0, none⟩ .nilIface).heap[D]? = some (.deferred (some []))) := Lib.hid
        ((Deep.blk_setCell_other _ ⟨T + 1, 0, none⟩ _ D (by have := hD'.out; simp only; omega)).trans ((Deep.blk_setCell_other _ ⟨T, 0, none⟩ _ D (by have := hD'.out; simp only; omega)).trans hK'.out))
      have hBf := Lib.hid (below_set (below_set hB'.out (show T ≤ T by omega) (i := 0) (.slice A m c)) (show T ≤ T + 1 by omega) (i := 0) .nilIface)
      gi_wp2_with fail
      have q0' := q0.out
      have q1' := q1.out
      have q2' := q2.out
      have hKp' := hKp.out
      have hBf' := hBf.out
      clear q0 q1 q2 hKp hBf
      generalize ((W.setCell ⟨T, 0, none⟩ (.slice A m c)).setCell ⟨T + 1, 0, none⟩ .nilIface) = Wf at q0' q1' q2' hKp' hBf' ⊢
      have hrow : ∀ r, some D = some r → ∃ o : Obj, Wf.heap[r]? = some o ∧ o.isCells = false := fun r e => by cases e; exact ⟨_, hKp', rfl⟩
      have hgr := grownBy_putObj' Wf D (.deferred none)
      have y0 := cell_of (cells_kept hgr hrow q0')
      have y1 := cell_of (cells_kept hgr hrow q1')
      have e6 := q2'.own hgr hrow
      have hB6 := hBf'.trans (belowK_b (n₀ := T) (w := wL) (by omega) Wf D _ (.deferred none) hD'.out hKp' rfl rfl)
      refine ⟨by simp, .inl ⟨_, _, rfl, run_takeDeferred hKp', ?_⟩⟩
      refine ⟨.tuple #[.slice A m c, .nilIface], ?_, ?_⟩
      · simp [results, Tryz.f15, go_sem, y0, y1]
      · rw [hpe'.out]
        simp only
        rw [hm'.out]
        exact ⟨A, c, _, rfl, by rw [hT'.out]; exact hB6, e6.rs, .inl (by simp)⟩
  case stop =>
    rintro D pre W hD ⟨rest, hpre0⟩ ⟨⟨pre', x, o, b, hpre, hrun, hbad, h0, h1, he⟩, hBel⟩ hK
    gi_wp2_with fail
    have hrow : ∀ r, some D = some r → ∃ o : Obj, W.heap[r]? = some o ∧ o.isCells = false := fun r e => by cases e; exact ⟨_, hK, rfl⟩
    have hgr := grownBy_putObj' W D (.deferred none)
    have y0 := cell_of (cells_kept hgr hrow h0)
    have y1 := cell_of (cells_kept hgr hrow h1)
    have e6 := he.kept hgr hrow
    have hB6 := hBel.trans (belowK_b (n₀ := T) (w := wL) (by have := hTp.out; omega) W D _ (.deferred none) hD hK rfl rfl)
    have hpe : parseL nameR (pcs X) 0 [] = ([], bad nameR (Pc.tx x) o, pre.length) := by
      rw [hpre0, hpre, List.map_append, List.append_assoc]
      rw [show List.map Pc.tx [x] ++ rest = Pc.tx x :: rest from rfl, parse_bad nameR hrun hbad]
      simp
    refine ⟨by simp, .inl ⟨_, _, rfl, run_takeDeferred hK, ?_⟩⟩
    refine ⟨.tuple #[.slice none 0 0, .iface 106 (.pointer (some ⟨b, 0, none⟩))], ?_, ?_⟩
    · simp [results, Tryz.f15, go_sem, y0, y1]
    · rw [hpe]
      refine ⟨none, 0, _, rfl, by rw [hT'.out]; exact hB6, (OwR.nil _ T).rs, .inr ⟨?_, e6⟩⟩
      unfold bad
      simp only
      split
      · decide
      · split <;> decide
end Go.Proofs.YtjofkodncplhaaaGreatDoor.Ky
end
