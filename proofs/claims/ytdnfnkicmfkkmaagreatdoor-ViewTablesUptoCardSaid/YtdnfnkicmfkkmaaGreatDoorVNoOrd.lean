/- The order of steps is a strict order; normal forms are sorted by it. No program stands here. -/
import Derived.Test.YtdnfnkicmfkkmaaGreatDoorVStrLaws
import Derived.SliceStrings
import Derived.Test.YtdnfnkicmfkkmaaGreatDoorVKyLaw
import Derived.Test.YtdnfnkicmfkkmaaGreatDoorVUtfEnc
import Derived.BigQuiet
set_option linter.unusedVariables false
set_option linter.unusedSimpArgs false
section
namespace Go.Proofs.YtdnfnkicmfkkmaaGreatDoor
open Go.RowKit Go.ChangeShapes
def Ss (w : World) (A : Option Addr) (n c : Nat) (ss : List ByteArray) : Prop := Rd w A n c (ss.map Value.string)
section
variable {w w' : World} {A : Option Addr} {n c : Nat} {ss : List ByteArray}
theorem Ss.nil (w : World) : Ss w none 0 0 [] := Rd.none_ w
end
section
variable {H : Type} {enc : TypeId × Value -> H} {P : Program} {w : World} {t e : TypeId}
theorem Sized.string {s : ByteArray} (h : Sized P t (DataW.lit (H := H) (.string s.data.toList))) : s.size <= 140737488351232 := h s.size (by
 show s.size ∈ [s.data.toList.length]
 rw [Array.length_toList]
 exact List.mem_singleton.2 rfl)
theorem ss_of_trod {a : Option Addr} {n c : Nat} {d : DataW H} {p : List MemPlace}
  (ht : P.underlying t = some (.slice e)) (he : P.underlying e = some .string) (hc : P.cellsOf e = 1)
  (h : DataW.Trod enc P w 0 (fun _ => true) true t (.slice a n c) d p) (hz : Sized P t d) :
  ∃ ss : List ByteArray, Ss w a n c ss /\ ∀ s ∈ ss, s.size <= 140737488351232 := by
 obtain ⟨fuel, hf⟩ := h;rcases open_strings ht he hc hf with ⟨hcs, _⟩ | ⟨x, len, cap, zs, hcs, _, hl, hm, hzl, hx, hcell, hsz⟩
 ·simp [Value.cells] at hcs;obtain ⟨rfl, rfl, rfl⟩ := hcs;exact ⟨[], Ss.nil w, fun s hs => by simp at hs⟩
 ·simp [Value.cells] at hcs;obtain ⟨rfl, rfl, rfl⟩ := hcs;simp only [if_true] at hzl;injection hx with hx _;subst hx;have hlen : (zs.take n).length = n := by rw [List.length_take]; omega
  refine ⟨zs.take n, ⟨by simpa using hlen, hl, by unfold maxLen at hm; omega, fun h => by simp at h, fun hn => ?_⟩, fun s hs => ?_⟩
  ·obtain ⟨b, off, spot⟩ := x;have h0 := hcell 0 (by omega);have hspot : spot = none := by simpa [Addr.add] using World.cell?_spot h0
   subst hspot;refine ⟨b, off, rfl, World.block_lt_of_cell? w _ h0, fun j u hu => ?_⟩;rw [List.getElem?_map, Option.map_eq_some_iff] at hu;obtain ⟨s, hs, rfl⟩ := hu
   have hj : j < n := by
    have := (List.getElem?_eq_some_iff.1 hs).1;omega
   rw [List.getElem?_take, if_pos hj] at hs;have := hcell j (by omega);rw [List.getD_eq_getElem?_getD, hs, Option.getD_some] at this;unfold Addr.add at this
   split at this
   ·rename_i h0; subst h0; simpa using this
   ·exact this
  ·have hmem : (DataW.lit (H := H) (.string s.data.toList)) ∈ strs (zs.take n) := by
    unfold strs;exact List.mem_map.2 ⟨s, hs, rfl⟩
   have := hz.elem ht hmem s.size (by
    show s.size ∈ [s.data.toList.length]
    rw [Array.length_toList]
    exact List.mem_singleton.2 rfl)
   exact this
end
end Go.Proofs.YtdnfnkicmfkkmaaGreatDoor
end

section
namespace Go.Proofs.YtdnfnkicmfkkmaaGreatDoor
open Go.RowKit
theorem Sq.cut {α : Type} {El : World -> List Value -> α -> Prop} {k : Nat} {w : World} {A : Option Addr} {n c : Nat} {l : List α} (h : Sq El k w A n c l) (lo hi : Nat) (h1 : lo <= hi) (h2 : hi <= n) (A' : Option Addr)
  (hA : ∀ b off, A = some ⟨b, off, none⟩ -> lo < c -> A' = some ⟨b, off + lo * k, none⟩) (hA1 : A ≠ none -> A' ≠ none) :
  Sq El k w A' (hi - lo) (c - lo) ((l.drop lo).take (hi - lo)) := by
 have hl := h.len;have hle := h.le;have hm := h.max;refine ⟨by simp; omega, by omega, by omega, fun h0 => ?_, fun hn => ?_⟩
 ·have hAn : A = none := by
   apply Classical.byContradiction;intro hne;exact hA1 hne h0
  have := h.nil hAn;omega
 ·obtain ⟨b, off, rfl, hb, hc⟩ := h.cell (by omega);refine ⟨b, off + lo * k, hA b off rfl (by omega), hb, fun i x hx => ?_⟩;rw [List.getElem?_take] at hx
  split at hx
  ·rw [List.getElem?_drop] at hx;obtain ⟨vs, g1, g2, g3⟩ := hc (lo + i) x hx;refine ⟨vs, g1, g2, fun j v hv => ?_⟩;have := g3 j v hv;rw [Nat.add_mul, <- Nat.add_assoc] at this;exact this
  ·cases hx
end Go.Proofs.YtdnfnkicmfkkmaaGreatDoor
end

section
namespace Go.Proofs.YtdnfnkicmfkkmaaGreatDoor.Ky
open Go.RowKit
abbrev tv (t : Tx) : Value := .string (strOf t)
def Ts (w : World) (A : Option Addr) (n c : Nat) (ts : List Tx) : Prop := Rd w A n c (ts.map tv)
section
variable {w w' : World} {A : Option Addr} {n c : Nat} {ts : List Tx}
theorem Ts.len (h : Ts w A n c ts) : ts.length = n := by simpa using Rd.len h
theorem Ts.below (h : Ts w A n c ts) (hb : Below w.heap.size w w') : Ts w' A n c ts := Rd.below h hb
theorem Ts.nil (w : World) : Ts w none 0 0 [] := Rd.none_ w
theorem Ts.at_ {k : Nat} (h : Ts w A n c ts) (hk : k < n) :
  ∃ b off t, A = some ⟨b, off, none⟩ /\ b < w.heap.size /\ ts[k]? = some t /\ w.cell? ⟨b, off + k, none⟩ = some (tv t) := by
 obtain ⟨b, off, u, e, hb, hx, hc⟩ := Rd.at_ h hk;rw [List.getElem?_map, Option.map_eq_some_iff] at hx;obtain ⟨s, hs, rfl⟩ := hx;exact ⟨b, off, s, e, hb, hs, hc⟩
theorem Ts.of_ss {ss : List ByteArray} (h : Ss w A n c ss) : Ts w A n c (ss.map (·.data.toList)) := by
 unfold Ts;rw [List.map_map];exact h
theorem Ts.cut (h : Ts w A n c ts) (lo hi : Nat) (h1 : lo <= hi) (h2 : hi <= n) (A' : Option Addr)
  (hA : ∀ b off, A = some ⟨b, off, none⟩ -> lo < c -> A' = some ⟨b, off + lo, none⟩) (hA0 : A = none -> A' = none) (hA1 : A ≠ none -> A' ≠ none) :
  Ts w A' (hi - lo) (c - lo) ((ts.drop lo).take (hi - lo)) := by
 unfold Ts;rw [List.map_take, List.map_drop];exact Rd.cut h lo hi h1 h2 A' hA hA0 hA1
end
def OwX (w : World) (B E : Nat) (v : Value) (ts : List Tx) : Prop := w.ownsRow B E 1 v ts.length (ts.map tv)
section
variable {w w' : World} {B E : Nat} {v : Value} {A : Option Addr} {n c : Nat} {ts : List Tx}
theorem OwX.nil (w : World) (B E : Nat) : OwX w B E (.slice none 0 0) [] := World.ownsRow_nil w B E 1
theorem OwX.rd (h : OwX w B E (.slice A n c) ts) : Ts w A n c ts := by
 obtain ⟨A', c', e⟩ := ownsRow_form h;injection e with e1 e2 e3;subst e2;exact rd_of_own h
theorem OwX.below (h1 : OwX w B E v ts) (hb : Below w.heap.size w w') : OwX w' B E v ts :=
 World.ownsRow.kept (row := none) h1 (grown_of_below hb) (own_none_or h1)
theorem OwX.down {B' : Nat} (h : OwX w B E v ts) (hB : B' <= B) : OwX w B' E v ts := by
 refine ⟨h.1, ?_⟩;rcases h.2 with h0 | ⟨g, cap, cur, h1, h2, h3⟩
 ·exact .inl h0
 ·exact .inr ⟨g, cap, cur, h1, Nat.le_trans hB h2, h3⟩
end
section
variable {P : Program} {ops : Array Oper} {rest : List Oper} {o : Oper} {a : Act} {Q : Exit -> Act -> World -> Prop}
theorem append_ts (w : World) (t e : TypeId) (ht : P.underlying t = some (.slice e))
  (hinfo : (P.info? e).map (fun i => (i.zero, i.size, i.bytes)) = some (some (.string ByteArray.empty), 1, 16))
  (hgd : o.guard = none) (s x : Operand)
  (ho : o.op = .call { callee := .builtin .append, args := #[s, x], argTypes := #[t, t] })
  (B : Nat) (v : Value) (la : List Tx) (hs : a.eval s = v) (hown : OwX w B e v la)
  (A : Option Addr) (m c : Nat) (lb : List Tx) (hx : a.eval x = .slice A m c) (hr : Ts w A m c lb)
  (N : Nat) (hN : la.length + m = N) (hsz : N <= 1000000) (hB : B <= w.heap.size)
  (h : ∀ A' c' w', OwX w' B e (.slice A' N c') (la ++ lb) -> w.grownBy w' v.ownBlock -> Below B w w' -> wpList P ops Q rest (a.put o.dst (.slice A' N c')) w') :
  wpList P ops Q (o :: rest) a w := by
 refine wpList_append_rd w hgd s x t ho B e (.string ByteArray.empty) 16 ht hinfo rfl v la.length (la.map tv) hs hown A m c (lb.map tv) hx hr (fun u hu => ?_) (by omega) (by omega) hB ?_
 ·obtain ⟨s, _, rfl⟩ := List.mem_map.1 hu;rfl
 intro A' c' w' h1 h2 h3 _;have hl := hr.len;rw [hN] at h1 ⊢;refine h A' c' w' ?_ h2 h3;unfold OwX;rw [List.map_append, List.length_append, show la.length + lb.length = N from by omega];exact h1
end
theorem ts_lit (w : World) (s : ByteArray) (t : Tx) (E : TypeId) (fr : Nat × Nat) (h : s = strOf t) : Ts (w.alloc (.cells #[.string s] E fr)) (some ⟨w.heap.size, 0, none⟩) 1 1 [t] := by
 subst h;refine ⟨rfl, by omega, by omega, fun h => by simp at h, fun _ => ⟨_, _, rfl, by simp, fun j u hu => ?_⟩⟩;have hh : (w.alloc (.cells #[.string (strOf t)] E fr)).heap[w.heap.size]? = some (.cells #[.string (strOf t)] E fr) := heap_alloc_new w _;simp only [World.cell?, hh, Nat.zero_add]
 simpa using hu
def RlEl (w : World) (vs : List Value) (r : Rl) : Prop := ∃ A n c A' n' c', vs = [.slice A n c, .slice A' n' c'] /\ Ts w A n c r.1 /\ Ts w A' n' c' r.2
theorem RlEl.below {w w' : World} (hb : Below w.heap.size w w') : ∀ vs r, RlEl w vs r -> RlEl w' vs r := by
 rintro vs r ⟨A, n, c, A', n', c', h1, h2, h3⟩;exact ⟨A, n, c, A', n', c', h1, h2.below hb, h3.below hb⟩
abbrev Rs (w : World) (A : Option Addr) (n c : Nat) (l : List Rl) : Prop := Sq RlEl 2 w A n c l
theorem Rs.below {w w' : World} {A : Option Addr} {n c : Nat} {l : List Rl} (h : Rs w A n c l) (hb : Below w.heap.size w w') : Rs w' A n c l := Sq.below h (RlEl.below hb) hb
theorem Rs.at_ {w : World} {A : Option Addr} {n c : Nat} {l : List Rl} (h : Rs w A n c l) {i : Nat} (hi : i < n) :
  ∃ b off r A1 n1 c1 A2 n2 c2, A = some ⟨b, off, none⟩ /\ b < w.heap.size /\ l[i]? = some r /\ Ts w A1 n1 c1 r.1 /\ Ts w A2 n2 c2 r.2 ∧
   w.cell? ⟨b, off + i * 2, none⟩ = some (.slice A1 n1 c1) /\ w.cell? ⟨b, off + i * 2 + 1, none⟩ = some (.slice A2 n2 c2) := by
 obtain ⟨b, off, r, vs, e, hb, hr, _, ⟨A1, n1, c1, A2, n2, c2, rfl, h1, h2⟩, hc⟩ := Sq.at_ h hi;exact ⟨b, off, r, A1, n1, c1, A2, n2, c2, e, hb, hr, h1, h2, by simpa using hc 0 _ rfl, hc 1 _ rfl⟩
end Go.Proofs.YtdnfnkicmfkkmaaGreatDoor.Ky
end

section
namespace Go.Proofs.YtdnfnkicmfkkmaaGreatDoor.No
open Go.RowKit UtfW Xl Xt Xo
theorem lessT_app : ∀ (c x y : Tx), lessT (c ++ x) (c ++ y) = lessT x y
 | [], _, _ => rfl
 | a :: c, x, y => by
  show lessT (a :: (c ++ x)) (a :: (c ++ y)) = _
  simp only [lessT];rw [if_neg (by simp), lessT_app c x y]
theorem lessT_at {a b : Tx} {k : Nat} (h : a.take k = b.take k) : lessT a b = lessT (a.drop k) (b.drop k) := by
 conv => lhs; rw [<- List.take_append_drop k a, <- List.take_append_drop k b, h]
 exact lessT_app _ _ _
theorem lessT_ne {x y : UInt8} {a b : Tx} (h : x ≠ y) : lessT (x :: a) (y :: b) = decide (x.toNat < y.toNat) := by
 simp only [lessT];rw [if_pos h];exact decide_eq_decide.2 UInt8.lt_iff_toNat_lt
set_option maxHeartbeats 1000000 in
set_option maxRecDepth 100000 in
theorem lessB_any (a b : ByteArray) (ha : a.size <= 1000000) (hb : b.size <= 1000000) (w : World) :
  Calls Tryz.prog 113 #[.string a, .string b] w fun e w' => e = .returned (.bool (lessT a.data.toList b.data.toList)) /\ ∃ k, w' = w.drewN k := by
 have hal : Hid (a.data.toList.length = a.size) := Hd (Array.length_toList ..);have hbl : Hid (b.data.toList.length = b.size) := Hd (Array.length_toList ..);obtain ⟨X, hX⟩ : ∃ X, lessT a.data.toList b.data.toList = X := ⟨_, rfl⟩;rw [hX];have hX' := Hd hX;clear hX
 go_enter Tryz.func113, Tryz.ntmps113
 go_wp2_with fail
 go_loopw [5] (fun i wr => ∃ k m : Nat, k <= a.size /\ k <= b.size /\ i = .int .i64 k /\ wr = w.drewN m /\ Hid (a.data.toList.take k = b.data.toList.take k)) (fun i _ => a.size - (intOf i).toNat)
 case atStart => exact ⟨0, 0, by omega, by omega, rfl, rfl, Hd rfl⟩
 case round =>
  obtain ⟨k, m, hka, hkb, rfl, rfl, hpre⟩ := hrel
  by_cases hla : k < a.size
  ·by_cases hlb : k < b.size
   ·have i0 : decide ((k : Int) < (b.size : Int)) = true := by rw [decide_eq_true_eq]; omega
    have i1 : decide (k < b.size) = true := by rw [decide_eq_true_eq]; omega
    have i2 : (k : Int) < (a.size : Int) := (by omega);have i3 : (k : Int) < (b.size : Int) := (by omega);obtain ⟨x, hx⟩ : ∃ x : UInt8, a[k] = x := ⟨_, rfl⟩;obtain ⟨y, hy⟩ : ∃ y : UInt8, b[k] = y := ⟨_, rfl⟩;have hga : Hid (a.data.toList[k]? = some x) := Hd (by rw [List.getElem?_eq_getElem (by rw [hal.out]; exact hla), <- hx]; rfl);have hgb : Hid (b.data.toList[k]? = some y) := Hd (by rw [List.getElem?_eq_getElem (by rw [hbl.out]; exact hlb), <- hy]; rfl)
    by_cases hxy : x = y
    ·have hne : ((x.toNat : Int) != (y.toNat : Int)) = false := by rw [hxy]; simp
     have hxy' := Hd hxy;clear hxy;go_wp2_with fail
     go_quiet (fail)
     go_wp2_with fail;go_roundw
     case rel => exact ⟨k + 1, _, by omega, by omega, by go_num, rfl, Hd (by rw [take_snoc hga.out, take_snoc hgb.out, hpre.out, hxy'.out])⟩
     case measure => simp [intOf]; omega
    ·have hne : ((x.toNat : Int) != (y.toNat : Int)) = true := by
      rw [bne_iff_ne];intro h;exact hxy (UInt8.toNat_inj.1 (by omega))
     have hv : Hid (X = decide (x.toNat < y.toNat)) := Hd (by
      rw [<- hX'.out, lessT_at hpre.out, List.drop_eq_getElem_cons (l := a.data.toList) (i := k) (by rw [hal.out]; exact hla), List.drop_eq_getElem_cons (l := b.data.toList) (i := k) (by rw [hbl.out]; exact hlb)];have e1 := hga.out;have e2 := hgb.out;rw [List.getElem?_eq_getElem (by rw [hal.out]; exact hla)] at e1;rw [List.getElem?_eq_getElem (by rw [hbl.out]; exact hlb)] at e2;injection e1 with e1;injection e2 with e2;rw [e1, e2]
      exact lessT_ne hxy)
     clear hxy;go_wp2_with fail
     go_quiet (fail)
     go_wp2_with fail
     go_quiet (fail)
     go_wp2_with fail;go_ret;refine ⟨ret_bool ?_, _, (World.drewN_drewN _ _ _).trans (World.drewN_drewN _ _ _)⟩;rw [hv.out]
   ·have i0 : decide ((k : Int) < (b.size : Int)) = false := by rw [decide_eq_false_iff_not]; omega
    have i1 : decide (k < b.size) = false := by rw [decide_eq_false_iff_not]; omega
    have i2 : decide (a.size < b.size) = false := by rw [decide_eq_false_iff_not]; omega
    have hv : Hid (X = false) := Hd (by
     rw [<- hX'.out, lessT_at hpre.out, @List.drop_eq_nil_of_le _ b.data.toList k (by rw [hbl.out]; omega)]
     cases a.data.toList.drop k <;> rfl)
    go_wp2_with fail;go_ret;exact ⟨ret_bool (by rw [hv.out]), _, rfl⟩
  ·have hv : Hid (X = decide (a.size < b.size)) := Hd (by
    rw [<- hX'.out, lessT_at hpre.out, @List.drop_eq_nil_of_le _ a.data.toList k (by rw [hal.out]; omega)];have hl : (b.data.toList.drop k).length = b.size - k := by rw [List.length_drop, hbl.out]
    cases hd : b.data.toList.drop k with
    | nil => rw [hd] at hl; simp at hl; show false = _; symm; rw [decide_eq_false_iff_not]; omega
    | cons c r => rw [hd] at hl; simp at hl; show true = _; symm; rw [decide_eq_true_eq]; omega)
   go_wp2_with fail;go_ret;refine ⟨ret_bool ?_, _, rfl⟩;rw [hv.out]
theorem less_any (s t : Tx) (hs : s.length <= 1000000) (ht : t.length <= 1000000) (w : World) :
  Calls Tryz.prog 113 #[.string (strOf s), .string (strOf t)] w fun e w' => e = .returned (.bool (lessT s t)) /\ ∃ k, w' = w.drewN k := by
 have h := lessB_any (strOf s) (strOf t) (by rw [strOf_size']; exact hs) (by rw [strOf_size']; exact ht) w;rw [show (strOf s).data.toList = s from strOf_data' s, show (strOf t).data.toList = t from strOf_data' t] at h;exact h
end Go.Proofs.YtdnfnkicmfkkmaaGreatDoor.No
end

section
namespace Go.Proofs.YtdnfnkicmfkkmaaGreatDoor.No
open Go.RowKit UtfW Xl Xt Xo
open Go.Proofs.YtdnfnkicmfkkmaaGreatDoor (Ky.Rl Ky.frontB)
structure SO {α : Type} (lt : α -> α -> Bool) : Prop where
 irr : ∀ a, lt a a = false
 trans : ∀ a b c, lt a b = true -> lt b c = true -> lt a c = true
 tri : ∀ a b, a ≠ b -> lt a b = true \/ lt b a = true
/-! ### Sorted lists -/
end Go.Proofs.YtdnfnkicmfkkmaaGreatDoor.No
end
