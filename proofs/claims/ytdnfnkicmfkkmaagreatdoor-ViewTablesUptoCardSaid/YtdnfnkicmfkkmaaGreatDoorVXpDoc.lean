/- The printer of trees: Nodes, Node. -/
import Derived.Test.YtdnfnkicmfkkmaaGreatDoorVXtForest
import Derived.Test.YtdnfnkicmfkkmaaGreatDoorVVwMem
import Derived.Test.YtdnfnkicmfkkmaaGreatDoorVXlPlaces
import Derived.Test.YtdnfnkicmfkkmaaGreatDoorVXnSt1
import Derived.Test.YtdnfnkicmfkkmaaGreatDoorVXnTok
import Derived.Test.YtdnfnkicmfkkmaaGreatDoorVUtfEnc
import Derived.Deep.MidRow
import Derived.Test.YtdnfnkicmfkkmaaGreatDoorVXlScan
import Derived.Test.YtdnfnkicmfkkmaaGreatDoorVStrLaws
import Derived.Shelf.Strings.Search3
import Derived.Shelf.Strings.Prefix
import Derived.Lib.SlBytesConst
import Derived.Lib.OthersKept
import Derived.Shelf.Unicode.ValidAny
import Derived.Test.YtdnfnkicmfkkmaaGreatDoorVNoRb
import Derived.Carry
import Derived.Maps.Own
import Derived.Maps.Views
import Derived.StringKeys
import Derived.Shelf.RegionOpenPlain
set_option linter.unusedVariables false
set_option linter.unusedSimpArgs false
section
namespace Go.Proofs.YtdnfnkicmfkkmaaGreatDoor.Xt
open Xl UtfW
end Go.Proofs.YtdnfnkicmfkkmaaGreatDoor.Xt
end

section

end

section
namespace Go.Proofs.YtdnfnkicmfkkmaaGreatDoor.Xo
open Go.RowKit UtfW Qx Xl Xt
/-! ### Tokens -/
/-! ### The builder -/
end Go.Proofs.YtdnfnkicmfkkmaaGreatDoor.Xo
end

section

end

section
namespace Go.Proofs.YtdnfnkicmfkkmaaGreatDoor.Xt
open Go.RowKit UtfW Xl Xo
/-! ### Parse -/
end Go.Proofs.YtdnfnkicmfkkmaaGreatDoor.Xt
end

section

end

section
namespace Go.Proofs.YtdnfnkicmfkkmaaGreatDoor.Xl
open Go.RowKit UtfW Er
theorem cell_keep {w x : World} {b i : Nat} {v : Value} (h : w.cell? ⟨b, i, none⟩ = some v) (hb : Below w.heap.size w x) : x.cell? ⟨b, i, none⟩ = some v := by
 have hlt : b < w.heap.size := by
  refine Nat.lt_of_not_le fun hn => ?_
  simp [World.cell?, Array.getElem?_eq_none hn] at h
 have e := hb.block b hlt;simp only [World.cell?] at h ⊢;rw [e];exact h
end Go.Proofs.YtdnfnkicmfkkmaaGreatDoor.Xl
end

section
namespace Go.Proofs.YtdnfnkicmfkkmaaGreatDoor.Xt
open Go.RowKit UtfW Xl Xo
theorem setCell_same {w : World} {b i : Nat} {cs : Array Value} {E : TypeId} {fr : Nat × Nat} {v : Value} (h : w.heap[b]? = some (.cells cs E fr)) (hi : cs[i]? = some v) : w.setCell ⟨b, i, none⟩ v = w := by
 have hh : (w.setCell ⟨b, i, none⟩ v).heap = w.heap := by
  unfold World.setCell;simp only;apply Array.ext_getElem?;intro j;rw [Array.getElem?_modify]
  by_cases hj : b = j
  ·subst hj;rw [if_pos rfl, h];simp only [Option.map_some, Option.some.injEq, Obj.cells.injEq, and_true];apply Array.ext_getElem?;intro k;rw [if_neg (by simp), Array.getElem?_setIfInBounds]
   by_cases hk : i = k
   ·subst hk;have := (Array.getElem?_eq_some_iff.1 hi).1;rw [if_pos rfl, if_pos this, hi]
   ·rw [if_neg hk]
  ·rw [if_neg hj]
 obtain ⟨a1, a2, a3, a4⟩ := w;unfold World.setCell at hh ⊢;simp only at hh;rw [hh]
end Go.Proofs.YtdnfnkicmfkkmaaGreatDoor.Xt
end

section
namespace Go.Proofs.YtdnfnkicmfkkmaaGreatDoor.Xt
open Go.RowKit UtfW Xl Xo
def XK (Bt : Pp) (B : Nat) (x : World) (v : Value) : Nat -> Prop := fun k => (Bt.lo <= k /\ k < Bt.hi) \/ (B <= k /\ k < x.heap.size /\ v.ownBlock ≠ some k)
def OutR (Bt : Pp) (B : Nat) (x : World) (v : Value) (ks : List Nd) : Prop := OwS (NdE (XK Bt B x v)) 5 x B 26 v ks /\ Bt.hi <= B /\ B <= x.heap.size
section
variable {Bt : Pp} {B : Nat} {x x' : World} {v : Value} {ks : List Nd}
theorem XK.lt {k : Nat} (h : XK Bt B x v k) (h1 : Bt.hi <= B) (h2 : B <= x.heap.size) : k < x.heap.size := by
 rcases h with h | h
 ·omega
 ·exact h.2.1
theorem OutR.nil (h1 : Bt.hi <= B) (h2 : B <= x.heap.size) : OutR Bt B x (.slice none 0 0) [] := ⟨OwS.nil _ _ _, h1, h2⟩
theorem OutR.below (h : OutR Bt B x v ks) (hb : Below x.heap.size x x') : OutR Bt B x' v ks := by
 obtain ⟨h1, h2, h3⟩ := h;refine ⟨OwS.stay h1 (fun k hk => hb.block k (OwS.lt h1 k hk).2) (fun vs y hy => NdI.stay hy fun k hk => ⟨?_, hb.block k (hk.lt h2 h3)⟩), h2, Nat.le_trans h3 hb.size⟩;rcases hk with hk | hk
 ·exact .inl hk
 ·exact .inr ⟨hk.1, Nat.lt_of_lt_of_le hk.2.1 hb.size, hk.2.2⟩
theorem OutR.same (h : OutR Bt B x v ks) (hs : ∀ k, (Bt.lo <= k /\ k < Bt.hi) \/ (B <= k /\ k < x.heap.size) -> x'.heap[k]? = x.heap[k]?) (hz : x.heap.size <= x'.heap.size) : OutR Bt B x' v ks := by
 obtain ⟨h1, h2, h3⟩ := h;refine ⟨OwS.stay h1 (fun k hk => hs k (.inr (OwS.lt h1 k hk))) (fun vs y hy => NdI.stay hy fun k hk => ⟨?_, hs k (hk.elim .inl fun h => .inr ⟨h.1, h.2.1⟩)⟩), h2, Nat.le_trans h3 hz⟩;rcases hk with hk | hk
 ·exact .inl hk
 ·exact .inr ⟨hk.1, Nat.lt_of_lt_of_le hk.2.1 hz, hk.2.2⟩
theorem OutR.keep (h : OutR Bt B x v ks) : ∀ w', x.grownBy w' v.ownBlock -> ∀ vs y, NdE (XK Bt B x v) x vs y -> NdE (XK Bt B x v) w' vs y := fun w' hg vs y hy =>
 NdI.stay hy fun k hk => ⟨hk, hg.block k (hk.lt h.2.1 h.2.2) (by
  rcases hk with hk | hk
  ·intro e;have := (OwS.lt h.1 k e.symm).1;have := h.2.1;omega
  ·exact fun e => hk.2.2 e.symm)⟩
theorem OutR.app {v' : Value} {ks' : List Nd} (h : OutR Bt B x v ks) (h1 : OwS (NdE (XK Bt B x v)) 5 x' B 26 v' (ks')) (hg : x.grownBy x' v.ownBlock) (hv : v'.ownBlock = v.ownBlock \/ v'.ownBlock = some x.heap.size) : OutR Bt B x' v' ks' := by
 refine ⟨OwS.stay h1 (fun _ _ => rfl) (fun vs y hy => NdI.stay hy fun k hk => ⟨?_, rfl⟩), h.2.1, Nat.le_trans h.2.2 hg.size⟩;rcases hk with hk | hk
 ·exact .inl hk
 ·refine .inr ⟨hk.1, Nat.lt_of_lt_of_le hk.2.1 hg.size, ?_⟩;rcases hv with e | e
  ·rw [e]; exact hk.2.2
  ·rw [e];intro e2;injection e2 with e2;omega
theorem OutR.sub {B' : Nat} {u : Value} {A : Option Addr} {n c : Nat} (h : OutR Bt B' x (.slice A n c) ks) (hB : B <= B') (hu : ∀ k, u.ownBlock = some k -> k < B') : Sq (NdE (XK Bt B x u)) 5 x A n c ks /\ ∀ a, A = some a -> 0 < n -> XK Bt B x u a.block := by
 have hx : ∀ k, XK Bt B' x (.slice A n c) k -> XK Bt B x u k := fun k hk => by
  rcases hk with hk | hk
  ·exact .inl hk
  ·exact .inr ⟨by omega, hk.2.1, fun e => by have := hu k e; omega⟩
 have hs := OwS.sq' h.1 (by decide);refine ⟨Sq.mono_ hs fun vs y hy => NdI.stay hy fun k hk => ⟨hx k hk, rfl⟩, fun a e hn => ?_⟩;obtain ⟨b, off, e2, hlt, _⟩ := hs.cell hn;rw [e] at e2;injection e2 with e2;subst e2;refine .inr ⟨?_, hlt, fun e3 => ?_⟩
 ·have h9 : (Value.slice A n c).ownBlock = some b := by
   obtain ⟨xs, ⟨_, h1⟩, _⟩ := h.1;rcases h1 with ⟨h1, _⟩ | ⟨g, cap, cur, h1, _⟩
   ·injection h1 with h1 _ _;rw [e] at h1;cases h1
   ·rw [h1];injection h1 with h1 _ _;rw [e] at h1;injection h1 with h1;injection h1 with h1;rw [h1];rfl
  have := (OwS.lt h.1 b h9).1
  show B <= b
  omega
 ·have := hu b e3
  have h9 : (Value.slice A n c).ownBlock = some b := by
   obtain ⟨xs, ⟨_, h1⟩, _⟩ := h.1;rcases h1 with ⟨h1, _⟩ | ⟨g, cap, cur, h1, _⟩
   ·injection h1 with h1 _ _;rw [e] at h1;cases h1
   ·rw [h1];injection h1 with h1 _ _;rw [e] at h1;injection h1 with h1;injection h1 with h1;rw [h1];rfl
  have := (OwS.lt h.1 b h9).1;omega
theorem set_other {b i k : Nat} {u : Value} (h : k ≠ b) : (x.setCell ⟨b, i, none⟩ u).heap[k]? = x.heap[k]? := by
 unfold World.setCell;simp only;rw [Array.getElem?_modify, if_neg (fun e => h e.symm)]
theorem set_size {b i : Nat} {u : Value} : (x.setCell ⟨b, i, none⟩ u).heap.size = x.heap.size := by
 unfold World.setCell;simp
end
theorem nd_make {X : Nat -> Prop} {kd : Int} {nm tx : Tx} {as_ : List At} {ks : List Nd} {A A2 : Option Addr} {la ca n2 c2 : Nat} {S1 S2 : ByteArray} {w : World} (h1 : strOf nm = S1) (h2 : strOf tx = S2) (hla : as_.length = la) (hn2 : ks.length = n2)
  (hA : Sq AtEl 2 w A as_.length ca as_) (hXA : ∀ a, A = some a -> 0 < as_.length -> X a.block) (hK : Sq (NdE X) 5 w A2 n2 c2 ks) (hXK : ∀ a, A2 = some a -> 0 < n2 -> X a.block) :
  NdE X w [.int .i64 kd, .string S1, .string S2, .slice A la ca, .slice A2 n2 c2] (.mk kd nm tx as_ ks) := by
 subst h1 h2 hla hn2;exact NdI.make hA hXA hK hXK
theorem nd_leaf {X : Nat -> Prop} {kd : Int} {nm tx : Tx} {S1 S2 : ByteArray} {w : World} (h1 : strOf nm = S1) (h2 : strOf tx = S2) : NdE X w [.int .i64 kd, .string S1, .string S2, .slice none 0 0, .slice none 0 0] (.mk kd nm tx [] []) :=
 nd_make (as_ := []) (ks := []) h1 h2 rfl rfl (Sq.none_ w) (fun a e => by cases e) (Sq.none_ w) (fun a e => by cases e)
/-! ### The document's kids, by places -/
end Go.Proofs.YtdnfnkicmfkkmaaGreatDoor.Xt
end

section
namespace Go.Proofs
open Go.Shelf Go.RowKit
end Go.Proofs
namespace Go.Proofs.YtdnfnkicmfkkmaaGreatDoor.Xp
open Go.RowKit Go.Shelf UtfW Xl Xo
theorem bs_convert (w : World) (s : ByteArray) (hs : s.size <= 281474976710656) :
  Bs (Lib.bytesWorld w 5 s) (some ⟨w.heap.size, 0, none⟩) s.size (grownCap w s.size 0 5) s.data.toList /\ Below w.heap.size w (Lib.bytesWorld w 5 s) := by
 have hl : s.data.toList.length = s.size := by rw [Array.length_toList]; rfl
 refine ⟨{ len := by rw [bv_length, hl], le := grownCap_ge _ _ _ _, max := ?_, nil := (fun h => by cases h), cell := fun h0 => ⟨w.heap.size, 0, rfl, by rw [Lib.bytesWorld_size]; omega, ?_⟩ }, ?_⟩
 ·have := grownCap_le_maxLen w s.size 0 5 (by unfold maxLen; omega);unfold maxLen at this;omega
 ·intro j u hu;obtain ⟨x, hx, rfl⟩ := bv_get hu;have hj : j < s.size := by rw [<- hl]; exact (List.getElem?_eq_some_iff.1 hx).1
  rw [Nat.zero_add, Lib.bytesWorld_cell w 5 s j hj, List.getD_eq_getElem?_getD, hx];rfl
 ·exact ⟨rfl, rfl, rfl, by rw [Lib.bytesWorld_size]; omega, fun k hk => Lib.bytesWorld_at_old w 5 s k hk⟩
end Go.Proofs.YtdnfnkicmfkkmaaGreatDoor.Xp
end

section

end

section
namespace Go.Proofs.YtdnfnkicmfkkmaaGreatDoor.Xp
open Go.RowKit UtfW Xl Xo Xt
open Go.Maps (Keyed)
def smA (as_ : List At) : Prop := as_.length <= 1000000 /\ ∀ a ∈ as_, a.1.length <= 1000000 /\ a.2.length <= 1000000
end Go.Proofs.YtdnfnkicmfkkmaaGreatDoor.Xp
end

section
namespace Go.Proofs.YtdnfnkicmfkkmaaGreatDoor.Xp
open Go.RowKit UtfW Xl Xo Xt
mutual
def smN : Nd -> Prop
 | .mk _ nm tx as_ ks => nm.length <= 1000000 /\ tx.length <= 1000000 /\ smA as_ /\ smL ks
def smL : List Nd -> Prop
 | [] => True
 | x :: xs => smN x /\ smL xs
end
theorem smL_mem : ∀ {l : List Nd} {i : Nat} {x : Nd}, smL l -> l[i]? = some x -> smN x
 | [], i, x, _, h => by simp at h
 | y :: l, 0, x, hb, h => by
  rw [smL] at hb;injection h with h;rw [<- h];exact hb.1
 | y :: l, i + 1, x, hb, h => by
  rw [smL] at hb;exact smL_mem hb.2 h
theorem sq_keep {α : Type} {El : World -> List Value -> α -> Prop} {k : Nat} {w w' : World} {A : Option Addr} {n c : Nat} {l : List α} (h : Sq El k w A n c l) (hb : Below w.heap.size w w') (hE : ∀ vs x, El w vs x -> El w' vs x) : Sq El k w' A n c l :=
 Sq.stay h (fun ad e hn => by
  obtain ⟨b, off, e2, hbl, _⟩ := h.cell hn;rw [e] at e2;injection e2 with e2;rw [e2]
  exact hb.block b hbl) hE
end Go.Proofs.YtdnfnkicmfkkmaaGreatDoor.Xp
end

section

end

section
namespace Go.Proofs.YtdnfnkicmfkkmaaGreatDoor.Xp
open Go.RowKit UtfW Xl Xo Xt
theorem find_none_iff {p : Tx} (hp : p ≠ []) : ∀ {s : Tx}, find p s = none ↔ ∀ i, p.isPrefixOf (s.drop i) = false
 | [] => by
  rw [find, if_neg hp];refine ⟨fun _ i => ?_, fun _ => rfl⟩;rw [List.drop_nil]
  cases p with
  | nil => exact absurd rfl hp
  | cons a b => rfl
 | b :: r => by
  rw [find];constructor
  ·intro h i
   by_cases hh : p.isPrefixOf (b :: r) = true
   ·rw [if_pos hh] at h; cases h
   ·rw [if_neg hh, Option.map_eq_none_iff] at h
    cases i with
    | zero => rw [List.drop_zero]; exact Bool.eq_false_iff.2 hh
    | succ i => exact (find_none_iff hp).1 h i
  ·intro h;have h0 := h 0;rw [List.drop_zero] at h0;rw [if_neg (by rw [h0]; decide), Option.map_eq_none_iff];exact (find_none_iff hp).2 fun i => h (i + 1)
theorem find_one {s : Tx} {c : UInt8} : (find [c] s).isSome = decide (c ∈ s) := by
 rw [Bool.eq_iff_iff, decide_eq_true_eq];constructor
 ·intro h
  by_cases hc : c ∈ s
  ·exact hc
  exfalso
  have : find [c] s = none := (find_none_iff (by simp)).2 fun i => by
   cases hd : s.drop i with
   | nil => rfl
   | cons x y =>
    have hx : x ∈ s := List.mem_of_mem_drop (i := i) (by rw [hd]; simp);have : c ≠ x := fun e => hc (e ▸ hx)
    simp [List.isPrefixOf, this]
  rw [this] at h;cases h
 ·intro hc
  cases hf : find [c] s with
  | some k => rfl
  | none =>
   exfalso;obtain ⟨i, hi⟩ := List.mem_iff_getElem?.1 hc;have := (find_none_iff (by simp)).1 hf i;obtain ⟨hl, e⟩ := List.getElem?_eq_some_iff.1 hi;rw [List.drop_eq_getElem_cons hl, e] at this;simp [List.isPrefixOf] at this
theorem str_eq_iff (a b : Tx) : ((strOf a).toList == (strOf b).toList) = decide (a = b) := by
 rw [Lib.toList_data, Lib.toList_data, strOf_data', strOf_data', Bool.eq_iff_iff, beq_iff_eq, decide_eq_true_eq]
theorem pre_slice {p s : Tx} {i : Nat} (h : i + p.length <= s.length) : p.isPrefixOf (s.drop i) = decide ((s.drop i).take p.length = p) := by
 rw [Bool.eq_iff_iff, List.isPrefixOf_iff_prefix, decide_eq_true_eq, List.prefix_iff_eq_take];exact ⟨fun h => h.symm, fun h => h.symm⟩
theorem pre_long {p s : Tx} {i : Nat} (hp : p ≠ []) (h : s.length < i + p.length) : p.isPrefixOf (s.drop i) = false := by
 rw [Bool.eq_false_iff];intro hc;have := (List.isPrefixOf_iff_prefix.1 hc).length_le;rw [List.length_drop] at this;have : 0 < p.length := List.length_pos_iff.2 hp;omega
theorem extract_str (s : Tx) (i j : Nat) : (strOf s).extract i j = strOf ((s.drop i).take (j - i)) := by
 apply ByteArray.ext;simp [strOf, ByteArray.data_extract, List.extract_toArray]
set_option maxHeartbeats 2000000 in
set_option maxRecDepth 100000 in
theorem rhas_any (s p : Tx) (hs : s.length <= 1000000) (hp : p.length <= 1000000) (hp0 : p ≠ []) (w : World) :
  Calls Tryz.prog 87 #[.string (strOf s), .string (strOf p)] w fun e w' => e = .returned (.bool (find p s).isSome) /\ Below w.heap.size w w' := by
 have hsz : (strOf s).size = s.length := strOf_size' s;have hpz : (strOf p).size = p.length := strOf_size' p;obtain ⟨R, hR⟩ : ∃ R, (find p s).isSome = R := ⟨_, rfl⟩;rw [hR];have hR' := Hd hR;have hp0' := Hd hp0;clear hR hp0;obtain ⟨n, hn⟩ : ∃ n, s.length = n := ⟨_, rfl⟩;obtain ⟨m, hm⟩ : ∃ m, p.length = m := ⟨_, rfl⟩;rw [hn] at hsz hs;rw [hm] at hpz hp;have hn' := Hd hn;have hm' := Hd hm;clear hn hm
 go_enter Tryz.func87, Tryz.ntmps87
 go_wp2_with fail
 go_loopw [5] (fun v5 wr => ∃ i : Nat, i <= n + 1 /\ v5 = .int .i64 (i : Nat) /\ Hid (∀ k, k < i -> p.isPrefixOf (s.drop k) = false) /\ Hid (Below w.heap.size w wr)) (fun v5 _ => n + 1 - (intOf v5).toNat)
 case atStart => exact ⟨0, by omega, rfl, Hd (fun m hm => absurd hm (by omega)), Hd (Below.refl _ _)⟩
 case round =>
  obtain ⟨i, hi, rfl, hok, hb⟩ := hrel
  by_cases hlt : i + m <= n
  ·have i1 : decide ((i : Int) + (m : Int) <= (n : Int)) = true := by rw [decide_eq_true_eq]; omega
   have q1 : (i : Int) + (m : Int) <= (n : Int) := by omega
   have hex : (strOf s).extract i (i + m) = strOf ((s.drop i).take m) := by rw [extract_str, Nat.add_sub_cancel_left]
   have heq := str_eq_iff ((s.drop i).take m) p;have hpre : Hid (p.isPrefixOf (s.drop i) = decide ((s.drop i).take m = p)) := Hd (by rw [<- hm'.out]; exact pre_slice (by rw [hm'.out, hn'.out]; exact hlt))
   by_cases hq : (s.drop i).take m = p
   ·rw [decide_eq_true hq] at heq
    have hRt : Hid (R = true) := Hd (by
     rw [<- hR'.out]
     cases hf : find p s with
     | some k => rfl
     | none =>
      have := (find_none_iff hp0'.out).1 hf i;rw [hpre.out, decide_eq_true hq] at this
      cases this)
    clear hq hpre;go_wp2_with fail
    (try simp only [Exit.inBlock, Exit.then])
    go_ret;exact ⟨by rw [hRt.out]; rfl, hb.out⟩
   ·rw [decide_eq_false hq] at heq
    have hnext : Hid (∀ k, k < i + 1 -> p.isPrefixOf (s.drop k) = false) := Hd fun k hk => by
     by_cases hki : k = i
     ·rw [hki, hpre.out, decide_eq_false hq]
     ·exact hok.out k (by omega)
    clear hq hpre;go_wp2_with fail;go_roundw
    case rel => exact ⟨i + 1, by omega, by go_num, hnext, hb⟩
    case measure => simp [intOf]; omega
  ·have i1 : decide ((i : Int) + (m : Int) <= (n : Int)) = false := by rw [decide_eq_false_iff_not]; omega
   have q1 : ¬ (i : Int) + (m : Int) <= (n : Int) := by omega
   have hRf : Hid (R = false) := Hd (by
    rw [<- hR'.out, (find_none_iff hp0'.out).2 fun k => ?_]
    ·rfl
    ·by_cases hk : k < i
     ·exact hok.out k hk
     ·exact pre_long hp0'.out (by rw [hn'.out, hm'.out]; omega))
   go_wp2_with fail
   (try simp only [Exit.inBlock, Exit.then])
   go_ret;exact ⟨by rw [hRf.out]; rfl, hb.out⟩
def Lw (w wr : World) (T : Nat) (L : Tx) : Prop := Below w.heap.size w wr /\ w.heap.size <= T /\ T < wr.heap.size /\ ∀ (j : Nat) x, L[j]? = some x -> wr.cell? ⟨T, j, none⟩ = some (.int .u8 (x.toNat : Int)) /\ wr.frozen? ⟨T, j, none⟩ = false
theorem lw_new (w : World) (s : Tx) (hs : s.length <= 1000000) : Lw w (Lib.bytesWorld w 5 (strOf s)) w.heap.size s := by
 have hsz : (strOf s).size = s.length := strOf_size' s;have hd : (strOf s).data.toList = s := strOf_data' s;refine ⟨(bs_convert w (strOf s) (by omega)).2, Nat.le_refl _, by rw [Lib.bytesWorld_size]; omega, fun j x hx => ?_⟩;have hj : j < (strOf s).size := by rw [hsz]; exact (List.getElem?_eq_some_iff.1 hx).1
 constructor
 ·rw [Lib.bytesWorld_cell w 5 (strOf s) j hj, hd, List.getD_eq_getElem?_getD, hx];rfl
 ·have hc : (Lib.bytesCells w 5 (strOf s)).size ≥ (strOf s).size := by
   have h1 := Lib.bytesWorld_cell w 5 (strOf s) ((strOf s).size - 1) (by omega);simp only [World.cell?, Lib.bytesWorld_at_new] at h1;have h2 := (Array.getElem?_eq_some_iff.1 h1).1;omega
  simp only [World.frozen?, Lib.bytesWorld_at_new];simp;omega
theorem Lw.set {w wr : World} {T : Nat} {L : Tx} (h : Lw w wr T L) {i : Nat} (x : UInt8) (hi : i < L.length) : Lw w (wr.setCell ⟨T, i, none⟩ (.int .u8 (x.toNat : Int))) T (L.set i x) := by
 obtain ⟨h1, h2, h3, h4⟩ := h;refine ⟨h1.setCell h2 _, h2, by simpa using h3, fun j y hy => ?_⟩
 by_cases hij : i = j
 ·subst hij;rw [List.getElem?_set_self hi] at hy;injection hy with hy;subst hy;obtain ⟨c1, c2⟩ := h4 i _ (List.getElem?_eq_getElem hi);exact ⟨World.cell?_setCell_same' _ _ _ (by rw [c1]; rfl), by simpa using c2⟩
 ·rw [List.getElem?_set_ne hij] at hy;obtain ⟨c1, c2⟩ := h4 j _ hy;exact ⟨by rw [World.cell?_setCell_other _ _ _ _ (by intro e; injection e with _ e; exact hij e)]; exact c1, by simpa using c2⟩
theorem Lw.bs {w wr : World} {T : Nat} {L : Tx} (h : Lw w wr T L) {c : Nat} (hc : L.length <= c) (hm : c <= 9223372036854775807) : Bs wr (some ⟨T, 0, none⟩) L.length c L :=
  { len := by rw [bv_length], le := hc, max := hm, nil := (fun h => by cases h), cell := fun _ => ⟨T, 0, rfl, h.2.2.1, fun j u hu => by
      obtain ⟨x, hx, rfl⟩ := bv_get hu;rw [Nat.zero_add]
      exact (h.2.2.2 j x hx).1⟩ }
theorem _root_.List.set_getElem?_self' {α : Type} {l : List α} {i : Nat} {x : α} (h : l[i]? = some x) : l.set i x = l := by
 obtain ⟨hl, rfl⟩ := List.getElem?_eq_some_iff.1 h;exact List.set_getElem_self hl
theorem low_add {x : UInt8} (h1 : 65 <= x.toNat) (h2 : x.toNat <= 90) : low x = x + 32 /\ (low x).toNat = x.toNat + 32 := by
 have : low x = x + 32 := by
  unfold low;rw [if_pos ⟨h1, h2⟩]
 rw [this];refine ⟨rfl, ?_⟩;rw [UInt8.toNat_add];simp;omega
theorem low_out {x : UInt8} (h : ¬ (65 <= x.toNat /\ x.toNat <= 90)) : low x = x := by
 unfold low;rw [if_neg h]
theorem low_step {s : Tx} {i : Nat} {x : UInt8} (hx : s[i]? = some x) : ((s.take i).map low ++ s.drop i).set i (low x) = (s.take (i + 1)).map low ++ s.drop (i + 1) := by
 obtain ⟨hl, rfl⟩ := List.getElem?_eq_some_iff.1 hx;have hlen : ((s.take i).map low).length = i := by simp; omega
 rw [List.set_append_right _ _ (by omega), hlen, Nat.sub_self, List.drop_eq_getElem_cons hl, List.set_cons_zero, take_snoc hx, List.map_append];simp
set_option maxHeartbeats 2000000 in
set_option maxRecDepth 100000 in
theorem rlower_any (s : Tx) (hs : s.length <= 1000000) (w : World) :
  Calls Tryz.prog 89 #[.string (strOf s)] w fun e w' => e = .returned (.string (strOf (s.map low))) /\ Below w.heap.size w w' := by
 have hsz : (strOf s).size = s.length := strOf_size' s;have hcv := Lib.run_convert_string_bytes (P := Tryz.prog) w 9 81 5 (strOf s) Tryz.underlying9 Tryz.underlying81 Tryz.underlying5;have hl0 := Hd (lw_new w s hs);have hg1 := grownCap_ge w (strOf s).size 0 5;have hg2 := grownCap_le_maxLen w (strOf s).size 0 5 (by unfold maxLen; omega);obtain ⟨c, hc⟩ : ∃ c, grownCap w (strOf s).size 0 5 = c := ⟨_, rfl⟩;rw [hc] at hcv hg1 hg2;obtain ⟨n, hn⟩ : ∃ n, s.length = n := ⟨_, rfl⟩;rw [hn] at hs hsz;rw [hsz] at hcv hg1;have hn' := Hd hn;have hg2' : c <= 9223372036854775807 := by unfold maxLen at hg2; omega
 obtain ⟨T, hT⟩ : ∃ T, w.heap.size = T := ⟨_, rfl⟩;obtain ⟨w1, hw1⟩ : ∃ w1, Lib.bytesWorld w 5 (strOf s) = w1 := ⟨_, rfl⟩;rw [hw1] at hcv hl0;rw [hT] at hcv hl0;clear hc hn hg2 hsz
 go_enter Tryz.func89, Tryz.ntmps89
 go_wp2_with fail;clear hcv hw1
 go_loopw [4] (fun v4 wr => ∃ i : Nat, i <= n /\ v4 = .int .i64 (i : Nat) /\ Hid (Lw w wr T ((s.take i).map low ++ s.drop i))) (fun v4 _ => n - (intOf v4).toNat)
 case atStart => exact ⟨0, by omega, rfl, Hd (by simpa using hl0.out)⟩
 case round =>
  obtain ⟨i, hi, rfl, hlw⟩ := hrel
  by_cases hlt : i < n
  ·have i1 : decide ((i : Int) < (n : Int)) = true := by simp; omega
   have q1 : (i : Int) < (n : Int) := by omega
   obtain ⟨x, hx⟩ : ∃ x, s[i]? = some x := ⟨_, List.getElem?_eq_getElem (by rw [hn'.out]; exact hlt)⟩
   have hLi : ((s.take i).map low ++ s.drop i)[i]? = some x := by
    rw [List.getElem?_append_right (by simp; omega)];simp only [List.length_map, List.length_take, List.getElem?_drop];rw [show i + (i - min i s.length) = i from by rw [hn'.out]; omega];exact hx
   obtain ⟨hc1, hf1⟩ := hlw.out.2.2.2 i x hLi;have hx9 := x.toNat_lt
   have hnext : Hid (Lw w (wr.setCell ⟨T, i, none⟩ (.int .u8 ((low x).toNat : Int))) T ((s.take (i + 1)).map low ++ s.drop (i + 1))) := Hd (by
    rw [<- low_step hx]
    exact hlw.out.set (low x) (List.getElem?_eq_some_iff.1 hLi).1)
   by_cases h1 : 65 <= x.toNat
   ·by_cases h2 : x.toNat <= 90
    ·have j1 : decide ((65 : Int) <= (x.toNat : Int)) = true := by simp; omega
     have j2 : decide ((x.toNat : Int) <= 90) = true := by simp; omega
     have e2 := (low_add h1 h2).2;rw [e2] at hnext;have e3 : ((x.toNat + 32 : Nat) : Int) = (x.toNat : Int) + 32 := (by omega);rw [e3] at hnext;clear hLi hx e2 e3;go_wp2_with fail;go_roundw
     case rel => exact ⟨i + 1, by omega, by go_num, hnext⟩
     case measure => simp [intOf]; omega
    ·have j1 : decide ((65 : Int) <= (x.toNat : Int)) = true := by simp; omega
     have j2 : decide ((x.toNat : Int) <= 90) = false := by simp; omega
     have hnext2 : Hid (Lw w wr T ((s.take (i + 1)).map low ++ s.drop (i + 1))) := Hd (by
      rw [<- low_step hx, low_out (by omega), List.set_getElem?_self' hLi]
      exact hlw.out)
     clear hLi hx hnext;go_wp2_with fail;go_roundw
     case rel => exact ⟨i + 1, by omega, by go_num, hnext2⟩
     case measure => simp [intOf]; omega
   ·have j1 : decide ((65 : Int) <= (x.toNat : Int)) = false := by simp; omega
    have hnext2 : Hid (Lw w wr T ((s.take (i + 1)).map low ++ s.drop (i + 1))) := Hd (by
     rw [<- low_step hx, low_out (by omega), List.set_getElem?_self' hLi]
     exact hlw.out)
    clear hLi hx hnext;go_wp2_with fail;go_roundw
    case rel => exact ⟨i + 1, by omega, by go_num, hnext2⟩
    case measure => simp [intOf]; omega
  ·have hie : i = n := by omega
   subst hie;have i1 : decide ((i : Int) < (i : Int)) = false := by simp
   have hlw2 : Lw w wr T (s.map low) := by
    have := hlw.out
    rwa [List.drop_eq_nil_of_le (by rw [hn'.out]; exact Nat.le_refl _), List.append_nil, List.take_of_length_le (by rw [hn'.out]; exact Nat.le_refl _)] at this
   have hbs := hlw2.bs (c := c) (by rw [List.length_map, hn'.out]; exact hg1) hg2';rw [List.length_map, hn'.out] at hbs;have hcb := hbs.conv (P := Tryz.prog) (src := 81) (dst := 9) Tryz.underlying81 Tryz.underlying5 Tryz.underlying9;have hfin := Hd hlw2.1;clear hlw2 hbs hlw;go_wp2_with fail
   (try simp only [Exit.inBlock, Exit.then])
   go_ret;exact ⟨rfl, hfin.out⟩
end Go.Proofs.YtdnfnkicmfkkmaaGreatDoor.Xp
end

section
namespace Go.Proofs.YtdnfnkicmfkkmaaGreatDoor.Xp
open Go.RowKit UtfW Xl Xo Xt
theorem fair_good {kd : Int} {nm tx : Tx} {as_ : List At} {ks : List Nd} (h : fairN (.mk kd nm tx as_ ks) = true) : good tx = true := by
 rw [fairN] at h
 split at h
 ·simp only [Bool.and_eq_true, decide_eq_true_eq] at h;rw [h.1.1.2];exact V_good Qx.V.nil
 ·split at h
  ·simp only [Bool.and_eq_true] at h;exact h.2
  ·split at h
   ·simp only [Bool.and_eq_true] at h;have := h.1.1.2;unfold plainT at this;simp only [Bool.and_eq_true] at this;exact this.1
   ·split at h
    ·simp only [Bool.and_eq_true] at h;have := h.1.1.2;unfold plainT at this;simp only [Bool.and_eq_true] at this;exact this.1
    ·cases h
set_option maxHeartbeats 16000000 in
set_option maxRecDepth 100000 in
theorem rfair_rest (w : World) (kd : Int) (nm tx : Tx) (as_ : List At) (ks : List Nd) (A : Option Addr) (ca : Nat) (A2 : Option Addr) (c2 : Nat) (h1 : kd ≠ 1) (z1 : nm.length <= 1000000) (z2 : tx.length <= 1000000) :
  Calls Tryz.prog 53 #[.agg #[.int .i64 kd, .string (strOf nm), .string (strOf tx), .slice A as_.length ca, .slice A2 ks.length c2]] w fun e w' => e = .returned (.bool (fairN (.mk kd nm tx as_ ks))) /\ Below w.heap.size w w' := by
 obtain ⟨n1, hn1⟩ : ∃ n, as_.length = n := ⟨_, rfl⟩;obtain ⟨n2, hn2⟩ : ∃ n, ks.length = n := ⟨_, rfl⟩;rw [hn1, hn2];obtain ⟨S1, hS1⟩ : ∃ S, strOf nm = S := ⟨_, rfl⟩;obtain ⟨S2, hS2⟩ : ∃ S, strOf tx = S := ⟨_, rfl⟩;rw [hS1, hS2];have hba := below_alloc w (.cells #[.int .i64 kd, .string S1, .string S2, .slice A n1 ca, .slice A2 n2 c2] 26);have hnb := heap_alloc_new w (.cells #[.int .i64 kd, .string S1, .string S2, .slice A n1 ca, .slice A2 n2 c2] 26);obtain ⟨T, hT⟩ : ∃ T, w.heap.size = T := ⟨_, rfl⟩;obtain ⟨w1, hw1⟩ : ∃ w1, w.alloc (.cells #[.int .i64 kd, .string S1, .string S2, .slice A n1 ca, .slice A2 n2 c2] 26) = w1 := ⟨_, rfl⟩;rw [hw1] at hba hnb;rw [hT] at hnb;have hTb : Hid (∀ x, Below w1.heap.size w1 x -> x.heap[T]? = some (.cells #[.int .i64 kd, .string S1, .string S2, .slice A n1 ca, .slice A2 n2 c2] 26)) := Hd fun x hx => (hx.block T (Array.getElem?_eq_some_iff.1 hnb).1).trans hnb
 have hnc := Hd (fun (x : World) (_hx : Below w1.heap.size w1 x) => refName_any S1 (by rw [<- hS1, strOf_size']; omega) x);have e1 : S1.data.toList = nm := by rw [<- hS1]; simp [strOf]
 rw [e1] at hnc;have hcc1 := Hd (fun (x : World) (_hx : Below w1.heap.size w1 x) => rhas_any tx [13] (by omega) (by decide) (by decide) x);have hcc3 := Hd (fun (x : World) (_hx : Below w1.heap.size w1 x) => rhas_any tx [45, 45] (by omega) (by decide) (by decide) x);have hcc4 := Hd (fun (x : World) (_hx : Below w1.heap.size w1 x) => rhas_any tx [63, 62] (by omega) (by decide) (by decide) x);have hlc := Hd (fun (x : World) (_hx : Below w1.heap.size w1 x) => rlower_any nm (by omega) x);rw [hS2] at hcc1 hcc3 hcc4;rw [hS1] at hlc;have hz : S2.size = tx.length := by rw [<- hS2]; exact strOf_size' tx
 obtain ⟨hbs, hbl⟩ := bs_convert w1 S2 (by omega);have e2 : S2.data.toList = tx := by rw [<- hS2]; simp [strOf]
 rw [e2] at hbs;have hcv := Lib.run_convert_string_bytes (P := Tryz.prog) w1 9 81 5 S2 Tryz.underlying9 Tryz.underlying81 Tryz.underlying5;have hbd := Hd (refBad_any _ _ _ tx (by omega) (Lib.bytesWorld w1 5 S2) hbs);have hblH := Hd hbl;have y0 : w1.cell? ⟨T, 0, none⟩ = some (.int .i64 kd) := Xp.cell_blk hnb rfl;have y1 : w1.cell? ⟨T, 1, none⟩ = some (.string S1) := Xp.cell_blk hnb rfl;have y2 : w1.cell? ⟨T, 2, none⟩ = some (.string S2) := Xp.cell_blk hnb rfl;have y3 : w1.cell? ⟨T, 3, none⟩ = some (.slice A n1 ca) := Xp.cell_blk hnb rfl;have y4 : w1.cell? ⟨T, 4, none⟩ = some (.slice A2 n2 c2) := Xp.cell_blk hnb rfl;have hbaH := Hd hba;have ez1 : S1.toList.isEmpty = nm.isEmpty := by rw [<- hS1, strOf_empty]
 have ez2 : S2.toList.isEmpty = tx.isEmpty := by rw [<- hS2, strOf_empty]
 have hS2H := Hd hS2;have hz2H := Hd z2;have l1 : as_.isEmpty = decide (n1 = 0) := by rw [<- hn1]; cases as_ <;> simp
 have l2 : ks.isEmpty = decide (n2 = 0) := by rw [<- hn2]; cases ks <;> simp
 clear hn1 hn2;have k1 : (kd == 1) = false := by simpa using h1
 have k1' : (kd != 1) = true := by simpa using h1
 clear hnb hba e1 z1 z2 hS1 hS2 hbs hbl e2 hz;obtain ⟨C1, hC1⟩ : ∃ b, (find [13] tx).isSome = b := ⟨_, rfl⟩;obtain ⟨C3, hC3⟩ : ∃ b, (find [45, 45] tx).isSome = b := ⟨_, rfl⟩;obtain ⟨C4, hC4⟩ : ∃ b, (find [63, 62] tx).isSome = b := ⟨_, rfl⟩;obtain ⟨LX, hLX⟩ : ∃ b, decide (nm.map low = xml3) = b := ⟨_, rfl⟩;obtain ⟨NM, hNM⟩ : ∃ b, nameR nm = b := ⟨_, rfl⟩;have f1 : decide (13 ∉ tx) = !C1 := by rw [<- hC1, find_one]; simp
 have f3 : (find [45, 45] tx).isNone = !C3 := by rw [<- hC3]; cases find [45, 45] tx <;> rfl
 have f4 : (find [63, 62] tx).isNone = !C4 := by rw [<- hC4]; cases find [63, 62] tx <;> rfl
 have fl : decide (nm.map low ≠ xml3) = !LX := by rw [<- hLX]; simp
 rw [hC1] at hcc1;rw [hC3] at hcc3;rw [hC4] at hcc4;rw [hNM] at hnc;replace hLX := Hd hLX;obtain ⟨BW, hBW⟩ : ∃ b, badW tx 0 = b := ⟨_, rfl⟩;rw [hBW] at hbd;obtain ⟨R, hRe⟩ : ∃ R, fairN (.mk kd nm tx as_ ks) = R := ⟨_, rfl⟩;rw [hRe]
 by_cases hg : 0 <= BW
 ·have g1 : decide (0 <= BW) = true := decide_eq_true hg
  have hR : Hid (R = false) := Hd (by
   rw [<- hRe, Bool.eq_false_iff];intro hc;have := fair_good hc;unfold good at this;rw [hBW, decide_eq_true_eq] at this
   omega)
  clear l1 l2 hRe hBW hC1 hC3 hC4 hNM f1 f3 f4 fl hnc hcc1 hcc3 hcc4 hlc ez1 ez2
  go_enter Tryz.func53, Tryz.ntmps53
  go_wp2_with fail;refine hbd.out.mono ?_;rintro e w2 ⟨rfl, hbw2⟩;have hqw2 := Hd (hblH.out.trans (hbw2.mono hblH.out.size));clear hbw2 y0 y1 y2 y3 y4 hcv;have hTb9 := hTb.out w2 hqw2.out;have y0 := Xp.cell_blk hTb9 (i := 0) rfl;have y1 := Xp.cell_blk hTb9 (i := 1) rfl;have y2 := Xp.cell_blk hTb9 (i := 2) rfl;have y3 := Xp.cell_blk hTb9 (i := 3) rfl;have y4 := Xp.cell_blk hTb9 (i := 4) rfl;clear hTb9;have hRf : Hid (R = false) := Hd (by rw [hR.out]);have hfin := Hd (hbaH.out.trans (hqw2.out.mono hbaH.out.size));clear hR;go_wp2_with fail
  (try simp only [Exit.inBlock, Exit.then])
  go_ret;exact ⟨by rw [hRf.out]; rfl, hfin.out⟩
 have g1 : decide (0 <= BW) = false := decide_eq_false hg
 have hGD : good tx = true := by
  unfold good;rw [hBW, decide_eq_true_eq];omega
 have hPL : plainT tx = !C1 := by
  unfold plainT;rw [hGD, f1];rfl
 clear hBW f1;rw [fairN, if_neg h1] at hRe;rw [l1, l2, hGD, hNM, hPL, f3, f4, fl] at hRe;clear l1 l2 hGD hNM hPL hC1 hC3 hC4 f3 f4 fl h1
 by_cases hEE : n1 = 0 /\ n2 = 0
 ·obtain ⟨rfl, rfl⟩ := hEE
  by_cases h2 : kd = 2
  ·subst h2;rw [if_pos rfl, decide_eq_true (rfl : (0 : Nat) = 0), Bool.true_and, Bool.true_and] at hRe;clear hnc hcc1 hcc3 hcc4 hlc
   cases nm with
   | nil =>
    cases tx with
    | nil =>
     have e1 : S1.toList.isEmpty = true := ez1;have e2 : S2.toList.isEmpty = true := ez2;rw [decide_eq_true (rfl), decide_eq_false (by simp)] at hRe;have hR := Hd hRe;clear hRe ez1 ez2
     go_enter Tryz.func53, Tryz.ntmps53
     go_wp2_with fail;refine hbd.out.mono ?_;rintro e w2 ⟨rfl, hbw2⟩;have hqw2 := Hd (hblH.out.trans (hbw2.mono hblH.out.size));clear hbw2 y0 y1 y2 y3 y4 hcv;have hTb9 := hTb.out w2 hqw2.out;have y0 := Xp.cell_blk hTb9 (i := 0) rfl;have y1 := Xp.cell_blk hTb9 (i := 1) rfl;have y2 := Xp.cell_blk hTb9 (i := 2) rfl;have y3 := Xp.cell_blk hTb9 (i := 3) rfl;have y4 := Xp.cell_blk hTb9 (i := 4) rfl;clear hTb9;have hRf : Hid (R = false) := Hd (by rw [<- hR.out]; simp);have hfin := Hd (hbaH.out.trans (hqw2.out.mono hbaH.out.size));clear hR;go_wp2_with fail
     (try simp only [Exit.inBlock, Exit.then])
     go_ret;exact ⟨by rw [hRf.out]; rfl, hfin.out⟩
    | cons c0 r0 =>
     have e1 : S1.toList.isEmpty = true := ez1;have e2 : S2.toList.isEmpty = false := ez2;rw [decide_eq_true (rfl), decide_eq_true (by simp)] at hRe;have hR := Hd hRe;clear hRe ez1 ez2
     go_enter Tryz.func53, Tryz.ntmps53
     go_wp2_with fail;refine hbd.out.mono ?_;rintro e w2 ⟨rfl, hbw2⟩;have hqw2 := Hd (hblH.out.trans (hbw2.mono hblH.out.size));clear hbw2 y0 y1 y2 y3 y4 hcv;have hTb9 := hTb.out w2 hqw2.out;have y0 := Xp.cell_blk hTb9 (i := 0) rfl;have y1 := Xp.cell_blk hTb9 (i := 1) rfl;have y2 := Xp.cell_blk hTb9 (i := 2) rfl;have y3 := Xp.cell_blk hTb9 (i := 3) rfl;have y4 := Xp.cell_blk hTb9 (i := 4) rfl;clear hTb9;have hRf : Hid (R = true) := Hd (by rw [<- hR.out]; simp);have hfin := Hd (hbaH.out.trans (hqw2.out.mono hbaH.out.size));clear hR;go_wp2_with fail
     (try simp only [Exit.inBlock, Exit.then])
     go_ret;exact ⟨by rw [hRf.out]; rfl, hfin.out⟩
   | cons c1 r1 =>
    cases tx with
    | nil =>
     have e1 : S1.toList.isEmpty = false := ez1;have e2 : S2.toList.isEmpty = true := ez2;rw [decide_eq_false (by simp), decide_eq_false (by simp)] at hRe;have hR := Hd hRe;clear hRe ez1 ez2
     go_enter Tryz.func53, Tryz.ntmps53
     go_wp2_with fail;refine hbd.out.mono ?_;rintro e w2 ⟨rfl, hbw2⟩;have hqw2 := Hd (hblH.out.trans (hbw2.mono hblH.out.size));clear hbw2 y0 y1 y2 y3 y4 hcv;have hTb9 := hTb.out w2 hqw2.out;have y0 := Xp.cell_blk hTb9 (i := 0) rfl;have y1 := Xp.cell_blk hTb9 (i := 1) rfl;have y2 := Xp.cell_blk hTb9 (i := 2) rfl;have y3 := Xp.cell_blk hTb9 (i := 3) rfl;have y4 := Xp.cell_blk hTb9 (i := 4) rfl;clear hTb9;have hRf : Hid (R = false) := Hd (by rw [<- hR.out]; simp);have hfin := Hd (hbaH.out.trans (hqw2.out.mono hbaH.out.size));clear hR;go_wp2_with fail
     (try simp only [Exit.inBlock, Exit.then])
     go_ret;exact ⟨by rw [hRf.out]; rfl, hfin.out⟩
    | cons c0 r0 =>
     have e1 : S1.toList.isEmpty = false := ez1;have e2 : S2.toList.isEmpty = false := ez2;rw [decide_eq_false (by simp), decide_eq_true (by simp)] at hRe;have hR := Hd hRe;clear hRe ez1 ez2
     go_enter Tryz.func53, Tryz.ntmps53
     go_wp2_with fail;refine hbd.out.mono ?_;rintro e w2 ⟨rfl, hbw2⟩;have hqw2 := Hd (hblH.out.trans (hbw2.mono hblH.out.size));clear hbw2 y0 y1 y2 y3 y4 hcv;have hTb9 := hTb.out w2 hqw2.out;have y0 := Xp.cell_blk hTb9 (i := 0) rfl;have y1 := Xp.cell_blk hTb9 (i := 1) rfl;have y2 := Xp.cell_blk hTb9 (i := 2) rfl;have y3 := Xp.cell_blk hTb9 (i := 3) rfl;have y4 := Xp.cell_blk hTb9 (i := 4) rfl;clear hTb9;have hRf : Hid (R = false) := Hd (by rw [<- hR.out]; simp);have hfin := Hd (hbaH.out.trans (hqw2.out.mono hbaH.out.size));clear hR;go_wp2_with fail
     (try simp only [Exit.inBlock, Exit.then])
     go_ret;exact ⟨by rw [hRf.out]; rfl, hfin.out⟩
  rw [if_neg h2] at hRe;have k2 : (kd == 2) = false := by simpa using h2
  by_cases h3 : kd = 3
  ·subst h3;rw [if_pos rfl, decide_eq_true (rfl : (0 : Nat) = 0), Bool.true_and, Bool.true_and] at hRe;clear hnc hcc4 hlc h2
   cases nm with
   | nil =>
    have e1 : S1.toList.isEmpty = true := ez1;rw [decide_eq_true (rfl)] at hRe
    cases hlast : tx.getLast? with
    | none =>
     have e2 : S2.toList.isEmpty = true := by
      rw [ez2, List.getLast?_eq_none_iff.1 hlast];rfl
     rw [hlast] at hRe;have hR := Hd hRe;clear hRe ez1 ez2 hlast
     go_enter Tryz.func53, Tryz.ntmps53
     go_wp2_with fail;refine hbd.out.mono ?_;rintro e w2 ⟨rfl, hbw2⟩;have hqw2 := Hd (hblH.out.trans (hbw2.mono hblH.out.size));clear hbw2 y0 y1 y2 y3 y4 hcv;have hTb9 := hTb.out w2 hqw2.out;have y0 := Xp.cell_blk hTb9 (i := 0) rfl;have y1 := Xp.cell_blk hTb9 (i := 1) rfl;have y2 := Xp.cell_blk hTb9 (i := 2) rfl;have y3 := Xp.cell_blk hTb9 (i := 3) rfl;have y4 := Xp.cell_blk hTb9 (i := 4) rfl;clear hTb9;go_wp2_with fail;refine (hcc1.out w2 hqw2.out).mono ?_;rintro e w11 ⟨rfl, hbw11⟩;have hqw11 := Hd (hqw2.out.trans (hbw11.mono hqw2.out.size));clear hbw11 y0 y1 y2 y3 y4;have hTb9 := hTb.out w11 hqw11.out;have y0 := Xp.cell_blk hTb9 (i := 0) rfl;have y1 := Xp.cell_blk hTb9 (i := 1) rfl;have y2 := Xp.cell_blk hTb9 (i := 2) rfl;have y3 := Xp.cell_blk hTb9 (i := 3) rfl;have y4 := Xp.cell_blk hTb9 (i := 4) rfl;clear hTb9
     cases C1 with
     | true =>
      have hRf : Hid (R = false) := Hd (by rw [<- hR.out]; simp);have hfin := Hd (hbaH.out.trans (hqw11.out.mono hbaH.out.size));clear hR;go_wp2_with fail
      (try simp only [Exit.inBlock, Exit.then])
      go_ret;exact ⟨by rw [hRf.out]; rfl, hfin.out⟩
     | false =>
      go_wp2_with fail;refine (hcc3.out w11 hqw11.out).mono ?_;rintro e w12 ⟨rfl, hbw12⟩;have hqw12 := Hd (hqw11.out.trans (hbw12.mono hqw11.out.size));clear hbw12 y0 y1 y2 y3 y4;have hTb9 := hTb.out w12 hqw12.out;have y0 := Xp.cell_blk hTb9 (i := 0) rfl;have y1 := Xp.cell_blk hTb9 (i := 1) rfl;have y2 := Xp.cell_blk hTb9 (i := 2) rfl;have y3 := Xp.cell_blk hTb9 (i := 3) rfl;have y4 := Xp.cell_blk hTb9 (i := 4) rfl;clear hTb9
      cases C3 with
      | true =>
       have hRf : Hid (R = false) := Hd (by rw [<- hR.out]; simp);have hfin := Hd (hbaH.out.trans (hqw12.out.mono hbaH.out.size));clear hR;go_wp2_with fail
       (try simp only [Exit.inBlock, Exit.then])
       go_ret;exact ⟨by rw [hRf.out]; rfl, hfin.out⟩
      | false =>
       have hRf : Hid (R = true) := Hd (by rw [<- hR.out]; simp);have hfin := Hd (hbaH.out.trans (hqw12.out.mono hbaH.out.size));clear hR;go_wp2_with fail
       (try simp only [Exit.inBlock, Exit.then])
       go_ret;exact ⟨by rw [hRf.out]; rfl, hfin.out⟩
    | some x =>
     obtain ⟨N, hN⟩ : ∃ N, tx.length = N + 1 := by
      cases tx with
      | nil => simp at hlast
      | cons a l => exact ⟨l.length, rfl⟩
     have e2 : S2.toList.isEmpty = false := by
      rw [ez2]
      cases tx with
      | nil => simp at hlast
      | cons a l => rfl
     have hxN : tx[N]? = some x := by
      rw [List.getLast?_eq_getElem?, hN, Nat.add_sub_cancel] at hlast;exact hlast
     have hszH := Hd (show S2.size = N + 1 by rw [<- hS2H.out, strOf_size', hN]);replace hz2H := hz2H.out;rw [hN] at hz2H;replace hz2H := Hd hz2H;have hxNH := Hd hxN;rw [hlast] at hRe;obtain ⟨SX, hSX⟩ : ∃ b, decide (x = 45) = b := ⟨_, rfl⟩;have hsx : decide (some x ≠ some (45 : UInt8)) = !SX := by rw [<- hSX]; simp
     have hsy : (((x.toNat : Nat) : Int) != 45) = !SX := by
      rw [<- hSX, <- decide_not, Bool.eq_iff_iff, bne_iff_ne, decide_eq_true_eq];constructor
      ·intro h e;rw [e] at h;exact h rfl
      ·intro h e;apply h;apply UInt8.toNat_inj.1;have : x.toNat = 45 := (by omega);rw [this];rfl
     rw [hsx] at hRe;have hR := Hd hRe;clear hRe ez1 ez2 hlast hsx hSX hxN hN
     go_enter Tryz.func53, Tryz.ntmps53
     go_wp2_with fail;refine hbd.out.mono ?_;rintro e w2 ⟨rfl, hbw2⟩;have hqw2 := Hd (hblH.out.trans (hbw2.mono hblH.out.size));clear hbw2 y0 y1 y2 y3 y4 hcv;have hTb9 := hTb.out w2 hqw2.out;have y0 := Xp.cell_blk hTb9 (i := 0) rfl;have y1 := Xp.cell_blk hTb9 (i := 1) rfl;have y2 := Xp.cell_blk hTb9 (i := 2) rfl;have y3 := Xp.cell_blk hTb9 (i := 3) rfl;have y4 := Xp.cell_blk hTb9 (i := 4) rfl;clear hTb9;have hsz := hszH.out;have hz2 := hz2H.out;have hlt0 : N < S2.size := by omega
     have hgx : S2[N]'hlt0 = x := by
      have h9 := hS2H.out;have hxN := hxNH.out;subst h9;exact str_at hxN hlt0
     have hc9 := x.toNat_lt;go_wp2_with fail;refine (hcc1.out w2 hqw2.out).mono ?_;rintro e w13 ⟨rfl, hbw13⟩;have hqw13 := Hd (hqw2.out.trans (hbw13.mono hqw2.out.size));clear hbw13 y0 y1 y2 y3 y4;have hTb9 := hTb.out w13 hqw13.out;have y0 := Xp.cell_blk hTb9 (i := 0) rfl;have y1 := Xp.cell_blk hTb9 (i := 1) rfl;have y2 := Xp.cell_blk hTb9 (i := 2) rfl;have y3 := Xp.cell_blk hTb9 (i := 3) rfl;have y4 := Xp.cell_blk hTb9 (i := 4) rfl;clear hTb9
     cases C1 with
     | true =>
      have hRf : Hid (R = false) := Hd (by rw [<- hR.out]; simp);have hfin := Hd (hbaH.out.trans (hqw13.out.mono hbaH.out.size));clear hR;go_wp2_with fail
      (try simp only [Exit.inBlock, Exit.then])
      go_ret;exact ⟨by rw [hRf.out]; rfl, hfin.out⟩
     | false =>
      go_wp2_with fail;refine (hcc3.out w13 hqw13.out).mono ?_;rintro e w14 ⟨rfl, hbw14⟩;have hqw14 := Hd (hqw13.out.trans (hbw14.mono hqw13.out.size));clear hbw14 y0 y1 y2 y3 y4;have hTb9 := hTb.out w14 hqw14.out;have y0 := Xp.cell_blk hTb9 (i := 0) rfl;have y1 := Xp.cell_blk hTb9 (i := 1) rfl;have y2 := Xp.cell_blk hTb9 (i := 2) rfl;have y3 := Xp.cell_blk hTb9 (i := 3) rfl;have y4 := Xp.cell_blk hTb9 (i := 4) rfl;clear hTb9
      cases C3 with
      | true =>
       have hRf : Hid (R = false) := Hd (by rw [<- hR.out]; simp);have hfin := Hd (hbaH.out.trans (hqw14.out.mono hbaH.out.size));clear hR;go_wp2_with fail
       (try simp only [Exit.inBlock, Exit.then])
       go_ret;exact ⟨by rw [hRf.out]; rfl, hfin.out⟩
      | false =>
       cases SX with
       | true =>
        have hRf : Hid (R = false) := Hd (by rw [<- hR.out]; simp);have hfin := Hd (hbaH.out.trans (hqw14.out.mono hbaH.out.size));clear hR;go_wp2_with fail
        (try simp only [Exit.inBlock, Exit.then])
        go_ret;exact ⟨by rw [hRf.out]; rfl, hfin.out⟩
       | false =>
        have hRf : Hid (R = true) := Hd (by rw [<- hR.out]; simp);have hfin := Hd (hbaH.out.trans (hqw14.out.mono hbaH.out.size));clear hR;go_wp2_with fail
        (try simp only [Exit.inBlock, Exit.then])
        go_ret;exact ⟨by rw [hRf.out]; rfl, hfin.out⟩
   | cons c1 r1 =>
    have e1 : S1.toList.isEmpty = false := ez1;rw [decide_eq_false (by simp)] at hRe;have hR := Hd hRe;clear hRe ez1 ez2 hcc1 hcc3
    go_enter Tryz.func53, Tryz.ntmps53
    go_wp2_with fail;refine hbd.out.mono ?_;rintro e w2 ⟨rfl, hbw2⟩;have hqw2 := Hd (hblH.out.trans (hbw2.mono hblH.out.size));clear hbw2 y0 y1 y2 y3 y4 hcv;have hTb9 := hTb.out w2 hqw2.out;have y0 := Xp.cell_blk hTb9 (i := 0) rfl;have y1 := Xp.cell_blk hTb9 (i := 1) rfl;have y2 := Xp.cell_blk hTb9 (i := 2) rfl;have y3 := Xp.cell_blk hTb9 (i := 3) rfl;have y4 := Xp.cell_blk hTb9 (i := 4) rfl;clear hTb9;have hRf : Hid (R = false) := Hd (by rw [<- hR.out]; simp);have hfin := Hd (hbaH.out.trans (hqw2.out.mono hbaH.out.size));clear hR;go_wp2_with fail
    (try simp only [Exit.inBlock, Exit.then])
    go_ret;exact ⟨by rw [hRf.out]; rfl, hfin.out⟩
  rw [if_neg h3] at hRe;have k3 : (kd == 3) = false := by simpa using h3
  by_cases h4 : kd = 4
  ·subst h4;rw [if_pos rfl, decide_eq_true (rfl : (0 : Nat) = 0), Bool.true_and, Bool.true_and] at hRe;clear hcc3 h2 h3
   cases tx with
   | nil =>
    have e2 : S2.toList.isEmpty = true := ez2;have hR := Hd hRe;clear hRe ez1 ez2
    go_enter Tryz.func53, Tryz.ntmps53
    go_wp2_with fail;refine hbd.out.mono ?_;rintro e w2 ⟨rfl, hbw2⟩;have hqw2 := Hd (hblH.out.trans (hbw2.mono hblH.out.size));clear hbw2 y0 y1 y2 y3 y4 hcv;have hTb9 := hTb.out w2 hqw2.out;have y0 := Xp.cell_blk hTb9 (i := 0) rfl;have y1 := Xp.cell_blk hTb9 (i := 1) rfl;have y2 := Xp.cell_blk hTb9 (i := 2) rfl;have y3 := Xp.cell_blk hTb9 (i := 3) rfl;have y4 := Xp.cell_blk hTb9 (i := 4) rfl;clear hTb9;go_wp2_with fail;refine (hnc.out w2 hqw2.out).mono ?_;rintro e w15 ⟨rfl, hbw15⟩;have hqw15 := Hd (hqw2.out.trans (hbw15.mono hqw2.out.size));clear hbw15 y0 y1 y2 y3 y4;have hTb9 := hTb.out w15 hqw15.out;have y0 := Xp.cell_blk hTb9 (i := 0) rfl;have y1 := Xp.cell_blk hTb9 (i := 1) rfl;have y2 := Xp.cell_blk hTb9 (i := 2) rfl;have y3 := Xp.cell_blk hTb9 (i := 3) rfl;have y4 := Xp.cell_blk hTb9 (i := 4) rfl;clear hTb9
    cases NM with
    | false =>
     have hRf : Hid (R = false) := Hd (by rw [<- hR.out]; simp [headOk]);have hfin := Hd (hbaH.out.trans (hqw15.out.mono hbaH.out.size));clear hR;go_wp2_with fail
     (try simp only [Exit.inBlock, Exit.then])
     go_ret;exact ⟨by rw [hRf.out]; rfl, hfin.out⟩
    | true =>
     go_wp2_with fail;refine (hlc.out w15 hqw15.out).mono ?_;rintro e w16 ⟨rfl, hbw16⟩;have hqw16 := Hd (hqw15.out.trans (hbw16.mono hqw15.out.size));clear hbw16 y0 y1 y2 y3 y4;have hTb9 := hTb.out w16 hqw16.out;have y0 := Xp.cell_blk hTb9 (i := 0) rfl;have y1 := Xp.cell_blk hTb9 (i := 1) rfl;have y2 := Xp.cell_blk hTb9 (i := 2) rfl;have y3 := Xp.cell_blk hTb9 (i := 3) rfl;have y4 := Xp.cell_blk hTb9 (i := 4) rfl;clear hTb9;have s2 := str_eqL (nm.map low) [120, 109, 108];have htl' : decide (nm.map low = [120, 109, 108]) = LX := hLX.out;rw [htl'] at s2;clear htl'
     cases LX with
     | true =>
      have hRf : Hid (R = false) := Hd (by rw [<- hR.out]; simp [headOk]);have hfin := Hd (hbaH.out.trans (hqw16.out.mono hbaH.out.size));clear hR;go_wp2_with fail
      (try simp only [Exit.inBlock, Exit.then])
      go_ret;exact ⟨by rw [hRf.out]; rfl, hfin.out⟩
     | false =>
      go_wp2_with fail;refine (hcc1.out w16 hqw16.out).mono ?_;rintro e w17 ⟨rfl, hbw17⟩;have hqw17 := Hd (hqw16.out.trans (hbw17.mono hqw16.out.size));clear hbw17 y0 y1 y2 y3 y4;have hTb9 := hTb.out w17 hqw17.out;have y0 := Xp.cell_blk hTb9 (i := 0) rfl;have y1 := Xp.cell_blk hTb9 (i := 1) rfl;have y2 := Xp.cell_blk hTb9 (i := 2) rfl;have y3 := Xp.cell_blk hTb9 (i := 3) rfl;have y4 := Xp.cell_blk hTb9 (i := 4) rfl;clear hTb9
      cases C1 with
      | true =>
       have hRf : Hid (R = false) := Hd (by rw [<- hR.out]; simp [headOk]);have hfin := Hd (hbaH.out.trans (hqw17.out.mono hbaH.out.size));clear hR;go_wp2_with fail
       (try simp only [Exit.inBlock, Exit.then])
       go_ret;exact ⟨by rw [hRf.out]; rfl, hfin.out⟩
      | false =>
       go_wp2_with fail;refine (hcc4.out w17 hqw17.out).mono ?_;rintro e w18 ⟨rfl, hbw18⟩;have hqw18 := Hd (hqw17.out.trans (hbw18.mono hqw17.out.size));clear hbw18 y0 y1 y2 y3 y4;have hTb9 := hTb.out w18 hqw18.out;have y0 := Xp.cell_blk hTb9 (i := 0) rfl;have y1 := Xp.cell_blk hTb9 (i := 1) rfl;have y2 := Xp.cell_blk hTb9 (i := 2) rfl;have y3 := Xp.cell_blk hTb9 (i := 3) rfl;have y4 := Xp.cell_blk hTb9 (i := 4) rfl;clear hTb9
       cases C4 with
       | true =>
        have hRf : Hid (R = false) := Hd (by rw [<- hR.out]; simp [headOk]);have hfin := Hd (hbaH.out.trans (hqw18.out.mono hbaH.out.size));clear hR;go_wp2_with fail
        (try simp only [Exit.inBlock, Exit.then])
        go_ret;exact ⟨by rw [hRf.out]; rfl, hfin.out⟩
       | false =>
        have hRf : Hid (R = true) := Hd (by rw [<- hR.out]; simp [headOk]);have hfin := Hd (hbaH.out.trans (hqw18.out.mono hbaH.out.size));clear hR;go_wp2_with fail
        (try simp only [Exit.inBlock, Exit.then])
        go_ret;exact ⟨by rw [hRf.out]; rfl, hfin.out⟩
   | cons c0 r0 =>
    have e2 : S2.toList.isEmpty = false := ez2;obtain ⟨BL, hBL⟩ : ∃ b, Qx.blank c0 = b := ⟨_, rfl⟩;have hho : headOk (c0 :: r0) = !BL := by rw [<- hBL]; rfl
    rw [hho] at hRe;have hR := Hd hRe;have hbk := Hd (fun (x : World) (_hx : Below w1.heap.size w1 x) => refblank_any (c0.toNat : Int) x);have hbl' : Blank (c0.toNat : Int) = BL := hBL;rw [hbl'] at hbk;clear hRe ez1 ez2 hho hBL hbl'
    go_enter Tryz.func53, Tryz.ntmps53
    go_wp2_with fail;refine hbd.out.mono ?_;rintro e w2 ⟨rfl, hbw2⟩;have hqw2 := Hd (hblH.out.trans (hbw2.mono hblH.out.size));clear hbw2 y0 y1 y2 y3 y4 hcv;have hTb9 := hTb.out w2 hqw2.out;have y0 := Xp.cell_blk hTb9 (i := 0) rfl;have y1 := Xp.cell_blk hTb9 (i := 1) rfl;have y2 := Xp.cell_blk hTb9 (i := 2) rfl;have y3 := Xp.cell_blk hTb9 (i := 3) rfl;have y4 := Xp.cell_blk hTb9 (i := 4) rfl;clear hTb9;have hz2 := hz2H.out;have hsz : S2.size = (c0 :: r0).length := by rw [<- hS2H.out]; exact strOf_size' _
    rw [List.length_cons] at hsz hz2;have hlt0 : 0 < S2.size := by omega
    have hgx : S2[0]'hlt0 = c0 := by
     have h9 := hS2H.out;subst h9;exact str_at rfl hlt0
    have hc9 := c0.toNat_lt;clear hz2;go_wp2_with fail;refine (hnc.out w2 hqw2.out).mono ?_;rintro e w19 ⟨rfl, hbw19⟩;have hqw19 := Hd (hqw2.out.trans (hbw19.mono hqw2.out.size));clear hbw19 y0 y1 y2 y3 y4;have hTb9 := hTb.out w19 hqw19.out;have y0 := Xp.cell_blk hTb9 (i := 0) rfl;have y1 := Xp.cell_blk hTb9 (i := 1) rfl;have y2 := Xp.cell_blk hTb9 (i := 2) rfl;have y3 := Xp.cell_blk hTb9 (i := 3) rfl;have y4 := Xp.cell_blk hTb9 (i := 4) rfl;clear hTb9
    cases NM with
    | false =>
     have hRf : Hid (R = false) := Hd (by rw [<- hR.out]; simp);have hfin := Hd (hbaH.out.trans (hqw19.out.mono hbaH.out.size));clear hR;go_wp2_with fail
     (try simp only [Exit.inBlock, Exit.then])
     go_ret;exact ⟨by rw [hRf.out]; rfl, hfin.out⟩
    | true =>
     go_wp2_with fail;refine (hlc.out w19 hqw19.out).mono ?_;rintro e w20 ⟨rfl, hbw20⟩;have hqw20 := Hd (hqw19.out.trans (hbw20.mono hqw19.out.size));clear hbw20 y0 y1 y2 y3 y4;have hTb9 := hTb.out w20 hqw20.out;have y0 := Xp.cell_blk hTb9 (i := 0) rfl;have y1 := Xp.cell_blk hTb9 (i := 1) rfl;have y2 := Xp.cell_blk hTb9 (i := 2) rfl;have y3 := Xp.cell_blk hTb9 (i := 3) rfl;have y4 := Xp.cell_blk hTb9 (i := 4) rfl;clear hTb9;have s2 := str_eqL (nm.map low) [120, 109, 108];have htl' : decide (nm.map low = [120, 109, 108]) = LX := hLX.out;rw [htl'] at s2;clear htl'
     cases LX with
     | true =>
      have hRf : Hid (R = false) := Hd (by rw [<- hR.out]; simp);have hfin := Hd (hbaH.out.trans (hqw20.out.mono hbaH.out.size));clear hR;go_wp2_with fail
      (try simp only [Exit.inBlock, Exit.then])
      go_ret;exact ⟨by rw [hRf.out]; rfl, hfin.out⟩
     | false =>
      go_wp2_with fail;refine (hcc1.out w20 hqw20.out).mono ?_;rintro e w21 ⟨rfl, hbw21⟩;have hqw21 := Hd (hqw20.out.trans (hbw21.mono hqw20.out.size));clear hbw21 y0 y1 y2 y3 y4;have hTb9 := hTb.out w21 hqw21.out;have y0 := Xp.cell_blk hTb9 (i := 0) rfl;have y1 := Xp.cell_blk hTb9 (i := 1) rfl;have y2 := Xp.cell_blk hTb9 (i := 2) rfl;have y3 := Xp.cell_blk hTb9 (i := 3) rfl;have y4 := Xp.cell_blk hTb9 (i := 4) rfl;clear hTb9
      cases C1 with
      | true =>
       have hRf : Hid (R = false) := Hd (by rw [<- hR.out]; simp);have hfin := Hd (hbaH.out.trans (hqw21.out.mono hbaH.out.size));clear hR;go_wp2_with fail
       (try simp only [Exit.inBlock, Exit.then])
       go_ret;exact ⟨by rw [hRf.out]; rfl, hfin.out⟩
      | false =>
       go_wp2_with fail;refine (hcc4.out w21 hqw21.out).mono ?_;rintro e w22 ⟨rfl, hbw22⟩;have hqw22 := Hd (hqw21.out.trans (hbw22.mono hqw21.out.size));clear hbw22 y0 y1 y2 y3 y4;have hTb9 := hTb.out w22 hqw22.out;have y0 := Xp.cell_blk hTb9 (i := 0) rfl;have y1 := Xp.cell_blk hTb9 (i := 1) rfl;have y2 := Xp.cell_blk hTb9 (i := 2) rfl;have y3 := Xp.cell_blk hTb9 (i := 3) rfl;have y4 := Xp.cell_blk hTb9 (i := 4) rfl;clear hTb9
       cases C4 with
       | true =>
        have hRf : Hid (R = false) := Hd (by rw [<- hR.out]; simp);have hfin := Hd (hbaH.out.trans (hqw22.out.mono hbaH.out.size));clear hR;go_wp2_with fail
        (try simp only [Exit.inBlock, Exit.then])
        go_ret;exact ⟨by rw [hRf.out]; rfl, hfin.out⟩
       | false =>
        go_wp2_with fail;refine (hbk.out w22 hqw22.out).mono ?_;rintro e wq ⟨rfl, hwq⟩;replace hwq := hwq.symm;subst hwq
        cases BL with
        | true =>
         have hRf : Hid (R = false) := Hd (by rw [<- hR.out]; simp);have hfin := Hd (hbaH.out.trans (hqw22.out.mono hbaH.out.size));clear hR;go_wp2_with fail
         (try simp only [Exit.inBlock, Exit.then])
         go_ret;exact ⟨by rw [hRf.out]; rfl, hfin.out⟩
        | false =>
         have hRf : Hid (R = true) := Hd (by rw [<- hR.out]; simp);have hfin := Hd (hbaH.out.trans (hqw22.out.mono hbaH.out.size));clear hR;go_wp2_with fail
         (try simp only [Exit.inBlock, Exit.then])
         go_ret;exact ⟨by rw [hRf.out]; rfl, hfin.out⟩
  rw [if_neg h4] at hRe;have k4 : (kd == 4) = false := by simpa using h4
  have hR := Hd hRe;clear hnc hcc1 hcc3 hcc4 hlc h2 h3 h4 ez1 ez2 hRe
  go_enter Tryz.func53, Tryz.ntmps53
  go_wp2_with fail;refine hbd.out.mono ?_;rintro e w2 ⟨rfl, hbw2⟩;have hqw2 := Hd (hblH.out.trans (hbw2.mono hblH.out.size));clear hbw2 y0 y1 y2 y3 y4 hcv;have hTb9 := hTb.out w2 hqw2.out;have y0 := Xp.cell_blk hTb9 (i := 0) rfl;have y1 := Xp.cell_blk hTb9 (i := 1) rfl;have y2 := Xp.cell_blk hTb9 (i := 2) rfl;have y3 := Xp.cell_blk hTb9 (i := 3) rfl;have y4 := Xp.cell_blk hTb9 (i := 4) rfl;clear hTb9;have hRf : Hid (R = false) := Hd (by rw [<- hR.out]);have hfin := Hd (hbaH.out.trans (hqw2.out.mono hbaH.out.size));clear hR;go_wp2_with fail
  (try simp only [Exit.inBlock, Exit.then])
  go_ret;exact ⟨by rw [hRf.out]; rfl, hfin.out⟩
 ·have hR : Hid (R = false) := Hd (by
   rw [<- hRe]
   cases n1 <;> cases n2 <;> simp at hEE ⊢)
  clear hnc hcc1 hcc3 hcc4 hlc hRe ez1 ez2
  cases n1 with
  | succ n1 =>
   go_enter Tryz.func53, Tryz.ntmps53
   go_wp2_with fail;refine hbd.out.mono ?_;rintro e w2 ⟨rfl, hbw2⟩;have hqw2 := Hd (hblH.out.trans (hbw2.mono hblH.out.size));clear hbw2 y0 y1 y2 y3 y4 hcv;have hTb9 := hTb.out w2 hqw2.out;have y0 := Xp.cell_blk hTb9 (i := 0) rfl;have y1 := Xp.cell_blk hTb9 (i := 1) rfl;have y2 := Xp.cell_blk hTb9 (i := 2) rfl;have y3 := Xp.cell_blk hTb9 (i := 3) rfl;have y4 := Xp.cell_blk hTb9 (i := 4) rfl;clear hTb9;have hRf : Hid (R = false) := Hd (by rw [hR.out]);have hfin := Hd (hbaH.out.trans (hqw2.out.mono hbaH.out.size));clear hR;go_wp2_with fail
   (try simp only [Exit.inBlock, Exit.then])
   go_ret;exact ⟨by rw [hRf.out]; rfl, hfin.out⟩
  | zero =>
   cases n2 with
   | succ n2 =>
    go_enter Tryz.func53, Tryz.ntmps53
    go_wp2_with fail;refine hbd.out.mono ?_;rintro e w2 ⟨rfl, hbw2⟩;have hqw2 := Hd (hblH.out.trans (hbw2.mono hblH.out.size));clear hbw2 y0 y1 y2 y3 y4 hcv;have hTb9 := hTb.out w2 hqw2.out;have y0 := Xp.cell_blk hTb9 (i := 0) rfl;have y1 := Xp.cell_blk hTb9 (i := 1) rfl;have y2 := Xp.cell_blk hTb9 (i := 2) rfl;have y3 := Xp.cell_blk hTb9 (i := 3) rfl;have y4 := Xp.cell_blk hTb9 (i := 4) rfl;clear hTb9;have hRf : Hid (R = false) := Hd (by rw [hR.out]);have hfin := Hd (hbaH.out.trans (hqw2.out.mono hbaH.out.size));clear hR;go_wp2_with fail
    (try simp only [Exit.inBlock, Exit.then])
    go_ret;exact ⟨by rw [hRf.out]; rfl, hfin.out⟩
   | zero => exact absurd ⟨rfl, rfl⟩ hEE
end Go.Proofs.YtdnfnkicmfkkmaaGreatDoor.Xp
end

section
namespace Go.Proofs.YtdnfnkicmfkkmaaGreatDoor.Xp
open Go.RowKit UtfW Xl Xo Xt
theorem attrsOk_snoc : ∀ (l : List At) (seen : List Tx) (a : At), attrsOk seen (l ++ [a]) = (attrsOk seen l && (nameR a.1 && good a.2 && decide (a.1 ∉ seen ++ l.map (·.1))))
 | [], seen, a => by simp [attrsOk]
 | b :: l, seen, a => by
  rw [List.cons_append, attrsOk, attrsOk, attrsOk_snoc l, show seen ++ [b.1] ++ l.map (·.1) = seen ++ (b :: l).map (·.1) from by simp];simp only [Bool.and_assoc]
def lastK (was : Int) (l : List Nd) : Int := (l.getLast?.map (·.kind)).getD was
theorem fairL_snoc : ∀ (l : List Nd) (was : Int) (x : Nd), fairL was (l ++ [x]) = (fairL was l && (fairN x && !(decide (lastK was l = 2) && decide (x.kind = 2))))
 | [], was, x => by
  rw [List.nil_append, fairL, fairL, fairL, Bool.and_true, Bool.true_and];rfl
 | b :: l, was, x => by
  rw [List.cons_append, fairL, fairL, fairL_snoc l]
  have : lastK b.kind l = lastK was (b :: l) := by
   unfold lastK;rw [List.getLast?_cons]
   cases l.getLast? <;> rfl
  rw [this];simp [Bool.and_assoc]
theorem mem_snoc_dec {a : Tx} {l : List Tx} {b : Tx} : decide (a ∉ l ++ [b]) = (decide (a ∉ l) && decide (a ≠ b)) := by
 rw [<- Bool.decide_and, decide_eq_decide];simp [not_or]
theorem sq_some {α : Type} {El : World -> List Value -> α -> Prop} {k : Nat} {w : World} {A : Option Addr} {n c : Nat} {l : List α} (h : Sq El k w A n c l) (hn : 0 < n) : ∃ b off, A = some ⟨b, off, none⟩ := by
 obtain ⟨b, off, e, _⟩ := h.cell hn;exact ⟨b, off, e⟩
theorem at_attr {w : World} {b off n c i : Nat} {l : List At} (h : Sq AtEl 2 w (some ⟨b, off, none⟩) n c l) (hi : i < n) :
  ∃ a, l[i]? = some a /\ w.cell? ⟨b, off + i * 2, none⟩ = some (.string (strOf a.1)) /\ w.cell? ⟨b, off + i * 2 + 1, none⟩ = some (.string (strOf a.2)) := by
 obtain ⟨b1, off1, ax, vs1, e, _, hx1, _, hv1, hc1⟩ := h.at_ hi;injection e with e;injection e with e1 e2;subst e1;subst e2;unfold AtEl at hv1;subst hv1;exact ⟨ax, hx1, hc1 0 _ rfl, hc1 1 _ rfl⟩
theorem at_attr_ {w : World} {b off n c i : Nat} {l : List At} {a : At} (h : Sq AtEl 2 w (some ⟨b, off, none⟩) n c l) (hx : l[i]? = some a) :
  w.cell? ⟨b, off + i * 2, none⟩ = some (.string (strOf a.1)) /\ w.cell? ⟨b, off + i * 2 + 1, none⟩ = some (.string (strOf a.2)) := by
 have hi : i < n := by rw [<- h.len]; exact (List.getElem?_eq_some_iff.1 hx).1
 obtain ⟨a', h1, h2⟩ := at_attr h hi;rw [hx] at h1;injection h1 with h1;subst h1;exact h2
theorem at_kind {X : Nat -> Prop} {w : World} {b off n c i : Nat} {l : List Nd} {x : Nd} (h : Sq (NdE X) 5 w (some ⟨b, off, none⟩) n c l) (hi : i < n) (hx : l[i]? = some x) : w.cell? ⟨b, off + i * 5, none⟩ = some (.int .i64 x.kind) := by
 obtain ⟨b1, off1, y, vs1, e, _, hx1, _, hv1, hc1⟩ := h.at_ hi;injection e with e;injection e with e1 e2;subst e1;subst e2;rw [hx1] at hx;injection hx with hx;subst hx;obtain ⟨kx, nx_, tx_, ax, kx_⟩ := y;obtain ⟨Ax, cax, A2x, c2x, rfl, -⟩ := hv1.cells;exact hc1 0 _ rfl
def RFairAt (X : Nat -> Prop) (x : Nd) : Prop := ∀ (vs : List Value) (w' : World), NdI X w' vs x -> (∀ j, X j -> j < w'.heap.size) →
 Calls Tryz.prog 53 #[.agg vs.toArray] w' fun e w'' => e = .returned (.bool (fairN x)) /\ Below w'.heap.size w' w''
set_option maxHeartbeats 32000000 in
set_option maxRecDepth 100000 in
theorem rFair_any : ∀ (k : Nat) (X : Nat -> Prop) (n : Nd), SizeOf.sizeOf n <= k -> smN n -> RFairAt X n := by
  intro k
  induction k with
  | zero =>
    intro X n hk;obtain ⟨kd, nm, tx, as_, ks⟩ := n;simp at hk
  | succ k ih =>
    intro X n hk hsm vs w hn hX;obtain ⟨kd, nm, tx, as_, ks⟩ := n;obtain ⟨A, ca, A2, c2, rfl, hA, hKs, hXA, hXK⟩ := hn.cells;rw [smN] at hsm;obtain ⟨z1, z2, z3, z4⟩ := hsm
    by_cases h1 : kd ≠ 1
    · exact rfair_rest w kd nm tx as_ ks A ca A2 c2 h1 z1 z2
    obtain rfl : kd = 1 := Classical.not_not.1 h1
    have hF := Hd (show ∀ (i : Nat) x, ks[i]? = some x -> RFairAt X x from fun i x hx => ih X x (by
      have := kid_lt (k := 1) (nm := nm) (tx := tx) (as_ := as_) hx
      omega) (smL_mem z4 hx))
    clear ih hk z4 h1;obtain ⟨n1, hn1⟩ : ∃ n, as_.length = n := ⟨_, rfl⟩;obtain ⟨n2, hn2⟩ : ∃ n, ks.length = n := ⟨_, rfl⟩;rw [hn1] at hA;rw [hn2] at hKs;rw [hn1, hn2];have hn1H := Hd hn1;have hn2H := Hd hn2;have hsA := Hd z3.2;have hm1 : n1 <= 1000000 := by rw [<- hn1]; exact z3.1
    have hm2 : n2 <= 9223372036854775807 := Nat.le_trans hKs.le hKs.max;clear hn1 hn2;obtain ⟨S1, hS1⟩ : ∃ S, strOf nm = S := ⟨_, rfl⟩;obtain ⟨S2, hS2⟩ : ∃ S, strOf tx = S := ⟨_, rfl⟩;rw [hS1, hS2];have hba := below_alloc w (.cells #[.int .i64 1, .string S1, .string S2, .slice A n1 ca, .slice A2 n2 c2] 26);have hnb := heap_alloc_new w (.cells #[.int .i64 1, .string S1, .string S2, .slice A n1 ca, .slice A2 n2 c2] 26);obtain ⟨T, hT⟩ : ∃ T, w.heap.size = T := ⟨_, rfl⟩;obtain ⟨w1, hw1⟩ : ∃ w1, w.alloc (.cells #[.int .i64 1, .string S1, .string S2, .slice A n1 ca, .slice A2 n2 c2] 26) = w1 := ⟨_, rfl⟩;rw [hw1] at hba hnb;rw [hT] at hnb;have hTb : Hid (∀ x, Below w1.heap.size w1 x -> x.heap[T]? = some (.cells #[.int .i64 1, .string S1, .string S2, .slice A n1 ca, .slice A2 n2 c2] 26)) := Hd fun x hx => (hx.block T (Array.getElem?_eq_some_iff.1 hnb).1).trans hnb
    have hlow : ∀ x, Below w1.heap.size w1 x -> Below w.heap.size w x := fun x hx => hba.trans (hx.mono hba.size)
    replace hA : Hid (∀ z, Below w1.heap.size w1 z -> Sq AtEl 2 z A n1 ca as_) := Hd fun z hz => hA.below AtEl.to (hlow z hz)
    have hK : Hid (∀ z, Below w1.heap.size w1 z -> Sq (NdE X) 5 z A2 n2 c2 ks) := Hd fun z hz => sq_keep hKs (hlow z hz) (fun vs y h => NdI.later h hX (hlow z hz))
    have hXb : Hid (∀ j, X j -> j < w1.heap.size) := Hd fun j hj => Nat.lt_of_lt_of_le (hX j hj) hba.size
    have hnc := Hd (fun (x : World) (_hx : Below w1.heap.size w1 x) => refName_any S1 (by rw [<- hS1, strOf_size']; omega) x);have e1 : S1.data.toList = nm := by rw [<- hS1]; simp [strOf]
    rw [e1] at hnc;have hz : S2.size = tx.length := by rw [<- hS2]; exact strOf_size' tx
    obtain ⟨hbs, hbl⟩ := bs_convert w1 S2 (by omega);have e2 : S2.data.toList = tx := by rw [<- hS2]; simp [strOf]
    rw [e2] at hbs;have hcv := Lib.run_convert_string_bytes (P := Tryz.prog) w1 9 81 5 S2 Tryz.underlying9 Tryz.underlying81 Tryz.underlying5;have hbd := Hd (refBad_any _ _ _ tx (by omega) (Lib.bytesWorld w1 5 S2) hbs);have hblH := Hd hbl;have y0 : w1.cell? ⟨T, 0, none⟩ = some (.int .i64 1) := Xp.cell_blk hnb rfl;have y1 : w1.cell? ⟨T, 1, none⟩ = some (.string S1) := Xp.cell_blk hnb rfl;have y2 : w1.cell? ⟨T, 2, none⟩ = some (.string S2) := Xp.cell_blk hnb rfl;have y3 : w1.cell? ⟨T, 3, none⟩ = some (.slice A n1 ca) := Xp.cell_blk hnb rfl;have y4 : w1.cell? ⟨T, 4, none⟩ = some (.slice A2 n2 c2) := Xp.cell_blk hnb rfl;have hbaH := Hd hba;have ez2 : S2.toList.isEmpty = tx.isEmpty := (by rw [<- hS2, strOf_empty]);clear hn hKs hXA hXK hX hlow hnb hba e1 e2 z1 z2 z3 hS1 hS2 hbs hbl hz;obtain ⟨NM, hNM⟩ : ∃ b, nameR nm = b := ⟨_, rfl⟩;rw [hNM] at hnc;obtain ⟨BW, hBW⟩ : ∃ b, badW tx 0 = b := ⟨_, rfl⟩;rw [hBW] at hbd;obtain ⟨R, hRe⟩ : ∃ R, fairN (.mk 1 nm tx as_ ks) = R := ⟨_, rfl⟩;rw [hRe]
    by_cases hg : 0 <= BW
    · have g1 : decide (0 <= BW) = true := decide_eq_true hg
      have hRf : Hid (R = false) := Hd (by
        rw [<- hRe, Bool.eq_false_iff];intro hc;have := fair_good hc;unfold good at this;rw [hBW, decide_eq_true_eq] at this
        omega)
      clear hRe hBW hNM ez2 hnc hF hA hK hXb hn1H hn2H hsA
      go_enter Tryz.func53, Tryz.ntmps53
      go_wp2_with fail;refine hbd.out.mono ?_;rintro e w2 ⟨rfl, hbw2⟩;have hqw2 := Hd (hblH.out.trans (hbw2.mono hblH.out.size));clear hbw2 y0 y1 y2 y3 y4 hcv;have hTb9 := hTb.out w2 hqw2.out;have y0 := Xp.cell_blk hTb9 (i := 0) rfl;have y1 := Xp.cell_blk hTb9 (i := 1) rfl;have y2 := Xp.cell_blk hTb9 (i := 2) rfl;have y3 := Xp.cell_blk hTb9 (i := 3) rfl;have y4 := Xp.cell_blk hTb9 (i := 4) rfl;clear hTb9;have hfin := Hd (hbaH.out.trans (hqw2.out.mono hbaH.out.size));go_wp2_with fail
      (try simp only [Exit.inBlock, Exit.then])
      go_ret;exact ⟨by rw [hRf.out]; rfl, hfin.out⟩
    have g1 : decide (0 <= BW) = false := decide_eq_false hg;obtain ⟨B0, hB0⟩ : ∃ b, (NM && decide (tx = [])) = b := ⟨_, rfl⟩
    have hR : Hid (R = (B0 && attrsOk [] as_ && fairL 0 ks)) := Hd (by
      rw [<- hRe, fairN, if_pos rfl, hNM, hB0])
    clear hBW hNM hRe;have hB0H := Hd hB0;clear hB0
    go_enter Tryz.func53, Tryz.ntmps53
    go_wp2_with fail;refine hbd.out.mono ?_;rintro e w2 ⟨rfl, hbw2⟩;have hqw2 := Hd (hblH.out.trans (hbw2.mono hblH.out.size));clear hbw2 y0 y1 y2 y3 y4 hcv;have hTb9 := hTb.out w2 hqw2.out;have y0 := Xp.cell_blk hTb9 (i := 0) rfl;have y1 := Xp.cell_blk hTb9 (i := 1) rfl;have y2 := Xp.cell_blk hTb9 (i := 2) rfl;have y3 := Xp.cell_blk hTb9 (i := 3) rfl;have y4 := Xp.cell_blk hTb9 (i := 4) rfl;clear hTb9;go_wp2_with fail;refine (hnc.out w2 hqw2.out).mono ?_;rintro e w3 ⟨rfl, hbw3⟩;have hqw3 := Hd (hqw2.out.trans (hbw3.mono hqw2.out.size));clear hbw3 y0 y1 y2 y3 y4 hnc hbd hblH hqw2;have hTb9 := hTb.out w3 hqw3.out;have y0 := Xp.cell_blk hTb9 (i := 0) rfl;have y1 := Xp.cell_blk hTb9 (i := 1) rfl;have y2 := Xp.cell_blk hTb9 (i := 2) rfl;have y3 := Xp.cell_blk hTb9 (i := 3) rfl;have y4 := Xp.cell_blk hTb9 (i := 4) rfl;clear hTb9;rcases Bool.eq_false_or_eq_true NM with rfl | rfl
    · cases tx with
      | nil =>
        have e2 : S2.toList.isEmpty = true := ez2;have hbv : Hid (B0 = true) := Hd (by rw [<- hB0H.out]; rfl);clear ez2;go_wp2_with fail;clear y0 y1 y2 y3 y4
        go_loopw [3, 4] (fun v3 v4 wr => ∃ (i : Nat) (OK : Bool), i <= n1 /\ v4 = .int .i64 (i : Nat) /\ v3 = .bool OK /\ Hid (OK = (B0 && attrsOk [] (as_.take i))) /\ Hid (Below w1.heap.size w1 wr)) (fun _ v4 _ => n1 - (intOf v4).toNat)
        case atStart => exact ⟨0, _, by omega, rfl, rfl, Hd (by rw [hbv.out]; rfl), hqw3⟩
        case round =>
          obtain ⟨i, OK, hi, rfl, rfl, hok, hqwr⟩ := hrel;have hTb9 := hTb.out wr hqwr.out;have y0 := Xp.cell_blk hTb9 (i := 0) rfl;have y1 := Xp.cell_blk hTb9 (i := 1) rfl;have y2 := Xp.cell_blk hTb9 (i := 2) rfl;have y3 := Xp.cell_blk hTb9 (i := 3) rfl;have y4 := Xp.cell_blk hTb9 (i := 4) rfl;clear hTb9
          by_cases hlt : i < n1
          · have i1 : decide ((i : Int) < (n1 : Int)) = true := by simp; omega
            have q1 : (i : Int) < (n1 : Int) := (by omega);obtain ⟨b1, off1, rfl⟩ := sq_some (hA.out wr hqwr.out) (show 0 < n1 by omega);obtain ⟨ax, hx1, m0, m1⟩ := at_attr (hA.out wr hqwr.out) hlt;have hxH := Hd hx1;obtain ⟨hs1, hs2⟩ := hsA.out ax (List.mem_of_getElem? hx1);clear hx1
            cases OK with
            | false =>
              clear hs1 hs2;have hnow : Hid (false = (B0 && attrsOk [] (as_.take i) && (nameR ax.1 && good ax.2))) := Hd (by rw [<- hok.out]; rfl);clear hok;go_wp2_with fail;clear y0 y1 y2 y3 y4
              go_loopw [3, 5] (fun v3 v5 wq => ∃ k : Nat, k <= i /\ v5 = .int .i64 (k : Nat) /\ v3 = .bool false /\ Hid (Below w1.heap.size w1 wq)) (fun _ v5 _ => i - (intOf v5).toNat)
              case atStart => exact ⟨0, by omega, rfl, rfl, hqwr⟩
              case round =>
                obtain ⟨k, hk, rfl, rfl, hqwq⟩ := hrel
                by_cases hkl : k < i
                · have j1 : decide ((k : Int) < (i : Int)) = true := by simp; omega
                  have hbd9 := Hd (hqwq.out.trans ((Joins.below_draws _ _ 1).mono hqwq.out.size));go_wp2_with fail;refine Pl.wp_region_plan 14 (.take 0 (.take 1 (.take 2 (.take 3 (.take 4 (.take 5 (.take 6 (.take 7 (.take 8 (.take 9 (.take 10 (.take 11 (.take 12 (.take 13 .done)))))))))))))) (fun _ => True) (by kernel_rfl) (by kernel_rfl) (trivial) ?_;simp only [Pl.fill, Al_4, Al_5, Al_6, Al_7]
                  iterate 14
                    first
                    | (refine Pl.take_go ?_ (by rfl) (fun _ _ _ h => h) ?_ ?_
                       rotate_left
                       · (intro x hSw; (try dsimp only at hSw); go_simp; try with_reducible rfl)
                       (try simp only [Act.put, Al_1, Al_2, Al_3]))
                    | (refine Pl.take_skip (by rfl) (fun _ _ _ h => h) ?_
                       (try simp only [Act.put, Al_1, Al_2, Al_3]))
                  refine Pl.done_go ?_;go_wp2_with fail;go_roundw
                  case rel => exact ⟨k + 1, by omega, by go_num, rfl, hbd9⟩
                  case measure => simp [intOf]; omega
                · have hki : k = i := by omega
                  subst hki;have j1 : decide ((k : Int) < (k : Int)) = false := by simp
                  have hnext : Hid (false = (B0 && attrsOk [] (as_.take (k + 1)))) := Hd (by
                    rw [take_snoc hxH.out, attrsOk_snoc, List.nil_append, <- Bool.and_assoc, <- Bool.and_assoc, <- hnow.out, Bool.false_and])
                  clear hnow;go_wp2_with fail;go_roundw
                  case rel => exact ⟨k + 1, false, by omega, by go_num, rfl, hnext, hqwq⟩
                  case measure => simp [intOf]; omega
            | true =>
              have hna := Hd (refName_any (strOf ax.1) (by rw [strOf_size']; omega) wr);rw [strOf_data'] at hna;obtain ⟨NA, hNA⟩ : ∃ b, nameR ax.1 = b := ⟨_, rfl⟩;rw [hNA] at hna;have hNAH := Hd hNA;clear hNA;obtain ⟨SV, hSV⟩ : ∃ S, strOf ax.2 = S := ⟨_, rfl⟩;rw [hSV] at m1;have hSVH := Hd hSV;have hs2H := Hd hs2;clear hSV hs1 hs2;go_wp2_with fail;refine hna.out.mono ?_;rintro e w4 ⟨rfl, hb4⟩;have hqw4 := Hd (hqwr.out.trans (hb4.mono hqwr.out.size));clear hb4 hna m0 m1 y0 y1 y2 y3 y4;have hTb9 := hTb.out w4 hqw4.out;have y0 := Xp.cell_blk hTb9 (i := 0) rfl;have y1 := Xp.cell_blk hTb9 (i := 1) rfl;have y2 := Xp.cell_blk hTb9 (i := 2) rfl;have y3 := Xp.cell_blk hTb9 (i := 3) rfl;have y4 := Xp.cell_blk hTb9 (i := 4) rfl;clear hTb9
              cases NA with
              | false =>
                have hnow : Hid (false = (B0 && attrsOk [] (as_.take i) && (nameR ax.1 && good ax.2))) := Hd (by rw [hNAH.out]; simp);clear hok;go_wp2_with fail;clear y0 y1 y2 y3 y4
                go_loopw [3, 5] (fun v3 v5 wq => ∃ k : Nat, k <= i /\ v5 = .int .i64 (k : Nat) /\ v3 = .bool false /\ Hid (Below w1.heap.size w1 wq)) (fun _ v5 _ => i - (intOf v5).toNat)
                case atStart => exact ⟨0, by omega, rfl, rfl, hqw4⟩
                case round =>
                  obtain ⟨k, hk, rfl, rfl, hqwq⟩ := hrel
                  by_cases hkl : k < i
                  · have j1 : decide ((k : Int) < (i : Int)) = true := by simp; omega
                    have hbd9 := Hd (hqwq.out.trans ((Joins.below_draws _ _ 1).mono hqwq.out.size));go_wp2_with fail;refine Pl.wp_region_plan 14 (.take 0 (.take 1 (.take 2 (.take 3 (.take 4 (.take 5 (.take 6 (.take 7 (.take 8 (.take 9 (.take 10 (.take 11 (.take 12 (.take 13 .done)))))))))))))) (fun _ => True) (by kernel_rfl) (by kernel_rfl) (trivial) ?_;simp only [Pl.fill, Al_4, Al_5, Al_6, Al_7]
                    iterate 14
                      first
                      | (refine Pl.take_go ?_ (by rfl) (fun _ _ _ h => h) ?_ ?_
                         rotate_left
                         · (intro x hSw; (try dsimp only at hSw); go_simp; try with_reducible rfl)
                         (try simp only [Act.put, Al_1, Al_2, Al_3]))
                      | (refine Pl.take_skip (by rfl) (fun _ _ _ h => h) ?_
                         (try simp only [Act.put, Al_1, Al_2, Al_3]))
                    refine Pl.done_go ?_;go_wp2_with fail;go_roundw
                    case rel => exact ⟨k + 1, by omega, by go_num, rfl, hbd9⟩
                    case measure => simp [intOf]; omega
                  · have hki : k = i := by omega
                    subst hki;have j1 : decide ((k : Int) < (k : Int)) = false := by simp
                    have hnext : Hid (false = (B0 && attrsOk [] (as_.take (k + 1)))) := Hd (by
                      rw [take_snoc hxH.out, attrsOk_snoc, List.nil_append, <- Bool.and_assoc, <- Bool.and_assoc, <- hnow.out, Bool.false_and])
                    clear hnow;go_wp2_with fail;go_roundw
                    case rel => exact ⟨k + 1, false, by omega, by go_num, rfl, hnext, hqwq⟩
                    case measure => simp [intOf]; omega
              | true =>
                have m1 := (at_attr_ (hA.out w4 hqw4.out) hxH.out).2;rw [hSVH.out] at m1;have hz : SV.size = ax.2.length := by rw [<- hSVH.out]; exact strOf_size' _
                obtain ⟨hbs, hbl⟩ := bs_convert w4 SV (by have := hs2H.out; omega);have e9 : SV.data.toList = ax.2 := (by rw [<- hSVH.out, strOf_data']);rw [e9] at hbs;have hcv := Lib.run_convert_string_bytes (P := Tryz.prog) w4 9 81 5 SV Tryz.underlying9 Tryz.underlying81 Tryz.underlying5;have hbd := Hd (refBad_any _ _ _ ax.2 (by have := hs2H.out; omega) (Lib.bytesWorld w4 5 SV) hbs);have hblH := Hd hbl;obtain ⟨BA, hBA⟩ : ∃ b, badW ax.2 0 = b := ⟨_, rfl⟩;rw [hBA] at hbd;have hgd : Hid (good ax.2 = decide (BA < 0)) := Hd (by unfold good; rw [hBA]);clear hbs hbl e9 hz hBA;go_wp2_with fail;refine hbd.out.mono ?_;rintro e w5 ⟨rfl, hb5⟩;have hqw5 := Hd (hqw4.out.trans ((hblH.out.trans (hb5.mono hblH.out.size)).mono hqw4.out.size));clear hb5 hcv m1 hbd hblH y0 y1 y2 y3 y4;have hTb9 := hTb.out w5 hqw5.out;have y0 := Xp.cell_blk hTb9 (i := 0) rfl;have y1 := Xp.cell_blk hTb9 (i := 1) rfl;have y2 := Xp.cell_blk hTb9 (i := 2) rfl;have y3 := Xp.cell_blk hTb9 (i := 3) rfl;have y4 := Xp.cell_blk hTb9 (i := 4) rfl;clear hTb9
                by_cases hbz : BA < 0
                · have g1 : decide (BA < 0) = true := decide_eq_true hbz
                  have hnow : Hid (true = (B0 && attrsOk [] (as_.take i) && (nameR ax.1 && good ax.2))) := Hd (by rw [<- hok.out, hNAH.out, hgd.out, g1]; rfl);clear hok hgd;go_wp2_with fail;clear y0 y1 y2 y3 y4
                  go_loopw [3, 5] (fun v3 v5 wq => ∃ (k : Nat) (OK2 : Bool), k <= i /\ v5 = .int .i64 (k : Nat) /\ v3 = .bool OK2 /\ Hid (OK2 = (true && decide (ax.1 ∉ (as_.take k).map (·.1)))) /\ Hid (Below w1.heap.size w1 wq)) (fun _ v5 _ => i - (intOf v5).toNat)
                  case atStart => exact ⟨0, true, by omega, rfl, rfl, Hd (by simp), hqw5⟩
                  case round =>
                    obtain ⟨k, OK2, hk, rfl, rfl, hok2, hqwq⟩ := hrel;have hTb9 := hTb.out _ hqwq.out;have y0 := Xp.cell_blk hTb9 (i := 0) rfl;have y1 := Xp.cell_blk hTb9 (i := 1) rfl;have y2 := Xp.cell_blk hTb9 (i := 2) rfl;have y3 := Xp.cell_blk hTb9 (i := 3) rfl;have y4 := Xp.cell_blk hTb9 (i := 4) rfl;clear hTb9
                    by_cases hkl : k < i
                    · have j1 : decide ((k : Int) < (i : Int)) = true := by simp; omega
                      have j2 : (k : Int) < (i : Int) := (by omega);have j3 : (k : Int) < (n1 : Int) := (by omega);obtain ⟨ay, hy1, p0, -⟩ := at_attr (hA.out _ hqwq.out) (show k < n1 by omega);have p1 := (at_attr_ (hA.out _ hqwq.out) hxH.out).1;have hbd9 := Hd (hqwq.out.trans ((Joins.below_draws _ _ 1).mono hqwq.out.size));have hst := (⟨y3, p0, p1⟩ : _ /\ _ /\ _);have hyH := Hd hy1;have heq := str_eq_iff ay.1 ax.1;clear hy1
                      cases OK2 with
                      | false =>
                        have hnext : Hid (false = (true && decide (ax.1 ∉ (as_.take (k + 1)).map (·.1)))) := Hd (by
                          rw [take_snoc hyH.out, List.map_append, List.map_cons, List.map_nil, mem_snoc_dec, <- Bool.and_assoc, <- hok2.out, Bool.false_and])
                        clear hok2;go_wp2_with fail;refine Pl.wp_region_plan 14 (.take 0 (.take 1 (.take 2 (.take 3 (.take 4 (.take 5 (.take 6 (.take 7 (.take 8 (.take 9 (.take 10 (.take 11 (.take 12 (.take 13 .done)))))))))))))) (fun x => x.cell? ⟨T, 3, none⟩ = some (.slice (some ⟨b1, off1, none⟩) n1 ca) /\ x.cell? ⟨b1, off1 + k * 2, none⟩ = some (.string (strOf ay.1)) /\ x.cell? ⟨b1, off1 + i * 2, none⟩ = some (.string (strOf ax.1))) (by kernel_rfl) (by kernel_rfl) (by exact hst) ?_;simp only [Pl.fill, Al_4, Al_5, Al_6, Al_7]
                        iterate 14
                          first
                          | (refine Pl.take_go ?_ (by rfl) (fun _ _ _ h => h) ?_ ?_
                             rotate_left
                             · (intro x hSw; (try dsimp only at hSw); go_simp; try with_reducible rfl)
                             (try simp only [Act.put, Al_1, Al_2, Al_3]))
                          | (refine Pl.take_skip (by rfl) (fun _ _ _ h => h) ?_
                             (try simp only [Act.put, Al_1, Al_2, Al_3]))
                        refine Pl.done_go ?_;clear hst;go_wp2_with fail;go_roundw
                        case rel => exact ⟨k + 1, false, by omega, by go_num, rfl, hnext, hbd9⟩
                        case measure => simp [intOf]; omega
                      | true =>
                        have hnext : Hid (decide (ax.1 ≠ ay.1) = (true && decide (ax.1 ∉ (as_.take (k + 1)).map (·.1)))) := Hd (by
                          rw [take_snoc hyH.out, List.map_append, List.map_cons, List.map_nil, mem_snoc_dec, <- Bool.and_assoc, <- hok2.out, Bool.true_and])
                        clear hok2
                        by_cases hxy : ay.1 = ax.1
                        · rw [decide_eq_true hxy] at heq
                          rw [decide_eq_false (show ¬ (ax.1 ≠ ay.1) from fun h => h hxy.symm)] at hnext;go_wp2_with fail;refine Pl.wp_region_plan 14 (.take 0 (.take 1 (.take 2 (.take 3 (.take 4 (.take 5 (.take 6 (.take 7 (.take 8 (.take 9 (.take 10 (.take 11 (.take 12 (.take 13 .done)))))))))))))) (fun x => x.cell? ⟨T, 3, none⟩ = some (.slice (some ⟨b1, off1, none⟩) n1 ca) /\ x.cell? ⟨b1, off1 + k * 2, none⟩ = some (.string (strOf ay.1)) /\ x.cell? ⟨b1, off1 + i * 2, none⟩ = some (.string (strOf ax.1))) (by kernel_rfl) (by kernel_rfl) (by exact hst) ?_;simp only [Pl.fill, Al_4, Al_5, Al_6, Al_7]
                          iterate 14
                            first
                            | (refine Pl.take_go ?_ (by rfl) (fun _ _ _ h => h) ?_ ?_
                               rotate_left
                               · (intro x hSw; (try dsimp only at hSw); go_simp; try with_reducible rfl)
                               (try simp only [Act.put, Al_1, Al_2, Al_3]))
                            | (refine Pl.take_skip (by rfl) (fun _ _ _ h => h) ?_
                               (try simp only [Act.put, Al_1, Al_2, Al_3]))
                          refine Pl.done_go ?_;clear hst hxy;go_wp2_with fail;go_roundw
                          case rel => exact ⟨k + 1, false, by omega, by go_num, rfl, hnext, hbd9⟩
                          case measure => simp [intOf]; omega
                        · rw [decide_eq_false hxy] at heq
                          rw [decide_eq_true (show ax.1 ≠ ay.1 from fun h => hxy h.symm)] at hnext;go_wp2_with fail;refine Pl.wp_region_plan 14 (.take 0 (.take 1 (.take 2 (.take 3 (.take 4 (.take 5 (.take 6 (.take 7 (.take 8 (.take 9 (.take 10 (.take 11 (.take 12 (.take 13 .done)))))))))))))) (fun x => x.cell? ⟨T, 3, none⟩ = some (.slice (some ⟨b1, off1, none⟩) n1 ca) /\ x.cell? ⟨b1, off1 + k * 2, none⟩ = some (.string (strOf ay.1)) /\ x.cell? ⟨b1, off1 + i * 2, none⟩ = some (.string (strOf ax.1))) (by kernel_rfl) (by kernel_rfl) (by exact hst) ?_;simp only [Pl.fill, Al_4, Al_5, Al_6, Al_7]
                          iterate 14
                            first
                            | (refine Pl.take_go ?_ (by rfl) (fun _ _ _ h => h) ?_ ?_
                               rotate_left
                               · (intro x hSw; (try dsimp only at hSw); go_simp; try with_reducible rfl)
                               (try simp only [Act.put, Al_1, Al_2, Al_3]))
                            | (refine Pl.take_skip (by rfl) (fun _ _ _ h => h) ?_
                               (try simp only [Act.put, Al_1, Al_2, Al_3]))
                          refine Pl.done_go ?_;clear hst hxy;go_wp2_with fail;go_roundw
                          case rel => exact ⟨k + 1, true, by omega, by go_num, rfl, hnext, hbd9⟩
                          case measure => simp [intOf]; omega
                    · have hki : k = i := by omega
                      subst hki;have j1 : decide ((k : Int) < (k : Int)) = false := by simp
                      have hnext : Hid (OK2 = (B0 && attrsOk [] (as_.take (k + 1)))) := Hd (by
                        rw [take_snoc hxH.out, attrsOk_snoc, List.nil_append, hok2.out, hnow.out]
                        simp [Bool.and_assoc])
                      clear hok2 hnow;go_wp2_with fail;go_roundw
                      case rel => exact ⟨k + 1, OK2, by omega, by go_num, rfl, hnext, hqwq⟩
                      case measure => simp [intOf]; omega
                · have g1 : decide (BA < 0) = false := decide_eq_false hbz
                  have hnow : Hid (false = (B0 && attrsOk [] (as_.take i) && (nameR ax.1 && good ax.2))) := Hd (by rw [hgd.out, g1]; simp);clear hok hgd;go_wp2_with fail;clear y0 y1 y2 y3 y4
                  go_loopw [3, 5] (fun v3 v5 wq => ∃ k : Nat, k <= i /\ v5 = .int .i64 (k : Nat) /\ v3 = .bool false /\ Hid (Below w1.heap.size w1 wq)) (fun _ v5 _ => i - (intOf v5).toNat)
                  case atStart => exact ⟨0, by omega, rfl, rfl, hqw5⟩
                  case round =>
                    obtain ⟨k, hk, rfl, rfl, hqwq⟩ := hrel
                    by_cases hkl : k < i
                    · have j1 : decide ((k : Int) < (i : Int)) = true := by simp; omega
                      have hbd9 := Hd (hqwq.out.trans ((Joins.below_draws _ _ 1).mono hqwq.out.size));go_wp2_with fail;refine Pl.wp_region_plan 14 (.take 0 (.take 1 (.take 2 (.take 3 (.take 4 (.take 5 (.take 6 (.take 7 (.take 8 (.take 9 (.take 10 (.take 11 (.take 12 (.take 13 .done)))))))))))))) (fun _ => True) (by kernel_rfl) (by kernel_rfl) (trivial) ?_;simp only [Pl.fill, Al_4, Al_5, Al_6, Al_7]
                      iterate 14
                        first
                        | (refine Pl.take_go ?_ (by rfl) (fun _ _ _ h => h) ?_ ?_
                           rotate_left
                           · (intro x hSw; (try dsimp only at hSw); go_simp; try with_reducible rfl)
                           (try simp only [Act.put, Al_1, Al_2, Al_3]))
                        | (refine Pl.take_skip (by rfl) (fun _ _ _ h => h) ?_
                           (try simp only [Act.put, Al_1, Al_2, Al_3]))
                      refine Pl.done_go ?_;go_wp2_with fail;go_roundw
                      case rel => exact ⟨k + 1, by omega, by go_num, rfl, hbd9⟩
                      case measure => simp [intOf]; omega
                    · have hki : k = i := by omega
                      subst hki;have j1 : decide ((k : Int) < (k : Int)) = false := by simp
                      have hnext : Hid (false = (B0 && attrsOk [] (as_.take (k + 1)))) := Hd (by
                        rw [take_snoc hxH.out, attrsOk_snoc, List.nil_append, <- Bool.and_assoc, <- Bool.and_assoc, <- hnow.out, Bool.false_and])
                      clear hnow;go_wp2_with fail;go_roundw
                      case rel => exact ⟨k + 1, false, by omega, by go_num, rfl, hnext, hqwq⟩
                      case measure => simp [intOf]; omega
          · have hie : i = n1 := by omega
            subst hie;have i1 : decide ((i : Int) < (i : Int)) = false := by simp
            have hB1 : Hid (OK = (B0 && attrsOk [] as_)) := Hd (by
              have h9 := hok.out
              rwa [List.take_of_length_le (Nat.le_of_eq hn1H.out)] at h9)
            clear hok hA;go_wp2_with fail;clear y0 y1 y2 y3 y4
            go_loopw [3, 6] (fun v3 v6 wq => ∃ (i : Nat) (OK2 : Bool), i <= n2 /\ v6 = .int .i64 (i : Nat) /\ v3 = .bool OK2 /\ Hid (OK2 = (OK && fairL 0 (ks.take i))) /\ Hid (Below w1.heap.size w1 wq)) (fun _ v6 _ => n2 - (intOf v6).toNat)
            case atStart => exact ⟨0, OK, by omega, rfl, rfl, Hd (by simp [fairL]), hqwr⟩
            case round =>
              obtain ⟨q, OK2, hq, rfl, rfl, hok2, hqws⟩ := hrel;have hTb9 := hTb.out _ hqws.out;have y0 := Xp.cell_blk hTb9 (i := 0) rfl;have y1 := Xp.cell_blk hTb9 (i := 1) rfl;have y2 := Xp.cell_blk hTb9 (i := 2) rfl;have y3 := Xp.cell_blk hTb9 (i := 3) rfl;have y4 := Xp.cell_blk hTb9 (i := 4) rfl;clear hTb9
              by_cases hlt3 : q < n2
              · have i3 : decide ((q : Int) < (n2 : Int)) = true := by simp; omega
                have q3 : (q : Int) < (n2 : Int) := by omega
                cases OK2 with
                | false =>
                  have hnext : Hid (false = (OK && fairL 0 (ks.take (q + 1)))) := Hd (by
                    obtain ⟨x, hx⟩ : ∃ x, ks[q]? = some x := ⟨_, List.getElem?_eq_getElem (by rw [hn2H.out]; exact hlt3)⟩
                    rw [take_snoc hx, fairL_snoc, <- Bool.and_assoc, <- hok2.out, Bool.false_and])
                  clear hok2;go_wp2_with fail;go_roundw
                  case rel => exact ⟨q + 1, false, by omega, by go_num, rfl, hnext, hqws⟩
                  case measure => simp [intOf]; omega
                | true =>
                  obtain ⟨b3, off3, x, vs3, rfl, _, hx3, _, hv3, hc3⟩ := (hK.out _ hqws.out).at_ hlt3;have hfx := hF.out q x hx3;have hxH3 := Hd hx3;have hbX := fun j (hj : X j) => Nat.lt_of_lt_of_le (hXb.out j hj) hqws.out.size
                  obtain ⟨kx, nx_, tx_, ax_, kx_⟩ := x;have hrec := Hd (hfx _ _ hv3 hbX);obtain ⟨Ax, cax, A2x, c2x, rfl, -⟩ := hv3.cells;have m0 := hc3 0 _ rfl;have m1 := hc3 1 _ rfl;have m2 := hc3 2 _ rfl;have m3 := hc3 3 _ rfl;have m4 := hc3 4 _ rfl;rw [Nat.add_zero] at m0;obtain ⟨FX, hFX⟩ : ∃ b, fairN (.mk kx nx_ tx_ ax_ kx_) = b := ⟨_, rfl⟩;rw [hFX] at hrec;have hFXH := Hd hFX;clear hc3 hx3 hfx hv3 hbX hFX;go_wp2_with fail;refine hrec.out.mono ?_;rintro e w6 ⟨rfl, hb6⟩;have hqw6 := Hd (hqws.out.trans (hb6.mono hqws.out.size));clear hb6 hrec m0 m1 m2 m3 m4 y0 y1 y2 y3 y4;have hTb9 := hTb.out w6 hqw6.out;have y0 := Xp.cell_blk hTb9 (i := 0) rfl;have y1 := Xp.cell_blk hTb9 (i := 1) rfl;have y2 := Xp.cell_blk hTb9 (i := 2) rfl;have y3 := Xp.cell_blk hTb9 (i := 3) rfl;have y4 := Xp.cell_blk hTb9 (i := 4) rfl;clear hTb9;have k0 := at_kind (hK.out w6 hqw6.out) hlt3 hxH3.out;change w6.cell? _ = some (.int .i64 kx) at k0
                  have hval : Hid ((OK && fairL 0 (ks.take (q + 1))) = (FX && !(decide (lastK 0 (ks.take q) = 2) && decide (kx = 2)))) := Hd (by
                    rw [take_snoc hxH3.out, fairL_snoc, <- Bool.and_assoc, <- hok2.out, hFXH.out]
                    rfl)
                  clear hok2 hFXH
                  cases FX with
                  | false =>
                    have hnext : Hid (false = (OK && fairL 0 (ks.take (q + 1)))) := Hd (by rw [hval.out]; rfl);clear hval;go_wp2_with fail;go_roundw
                    case rel => exact ⟨q + 1, false, by omega, by go_num, rfl, hnext, hqw6⟩
                    case measure => simp [intOf]; omega
                  | true =>
                    by_cases hq0 : q = 0
                    · subst hq0
                      have hnext : Hid (true = (OK && fairL 0 (ks.take (0 + 1)))) := Hd (by rw [hval.out]; simp [lastK]);clear hval;go_wp2_with fail;go_roundw
                      case rel => exact ⟨0 + 1, true, by omega, by go_num, rfl, hnext, hqw6⟩
                      case measure => simp [intOf]; omega
                    · have r0 : ((q : Int) == 0) = false := by rw [beq_eq_false_iff_ne]; omega
                      by_cases h2 : kx = 2
                      · have r1 : (kx != 2) = false := by rw [h2]; rfl
                        obtain ⟨x5, hx5⟩ : ∃ x5, ks[q - 1]? = some x5 := ⟨_, List.getElem?_eq_getElem (by rw [hn2H.out]; omega)⟩;have k5 := at_kind (hK.out w6 hqw6.out) (show q - 1 < n2 by omega) hx5;obtain ⟨p, rfl⟩ : ∃ p, q = p + 1 := ⟨q - 1, by omega⟩;rw [Nat.add_sub_cancel] at k5 hx5;have hlk : lastK 0 (ks.take (p + 1)) = x5.kind := by rw [take_snoc hx5]; simp [lastK]
                        obtain ⟨kz, hkz⟩ : ∃ kz, x5.kind = kz := ⟨_, rfl⟩;rw [hkz] at k5 hlk;have p3 : (p : Int) < (n2 : Int) := by omega
                        by_cases h5 : kz = 2
                        · have r5 : (kz != 2) = false := by rw [h5]; rfl
                          have hnext : Hid (false = (OK && fairL 0 (ks.take (p + 1 + 1)))) := Hd (by rw [hval.out, hlk, h5, h2]; simp);clear hval h5 h2 hlk hkz hx5;go_wp2_with fail;go_roundw
                          case rel => exact ⟨p + 1 + 1, false, by omega, by go_num, rfl, hnext, hqw6⟩
                          case measure => simp [intOf]; omega
                        · have r5 : (kz != 2) = true := by simpa using h5
                          have hnext : Hid (true = (OK && fairL 0 (ks.take (p + 1 + 1)))) := Hd (by rw [hval.out, hlk, decide_eq_false h5]; simp);clear hval h5 h2 hlk hkz hx5;go_wp2_with fail;go_roundw
                          case rel => exact ⟨p + 1 + 1, true, by omega, by go_num, rfl, hnext, hqw6⟩
                          case measure => simp [intOf]; omega
                      · have r1 : (kx != 2) = true := by simpa using h2
                        have hnext : Hid (true = (OK && fairL 0 (ks.take (q + 1)))) := Hd (by rw [hval.out, decide_eq_false h2]; simp);clear hval h2;go_wp2_with fail;go_roundw
                        case rel => exact ⟨q + 1, true, by omega, by go_num, rfl, hnext, hqw6⟩
                        case measure => simp [intOf]; omega
              · have hie : q = n2 := by omega
                subst hie;have i3 : decide ((q : Int) < (q : Int)) = false := by simp
                have hRf : Hid (R = OK2) := Hd (by
                  have h9 := hok2.out;rw [List.take_of_length_le (Nat.le_of_eq hn2H.out)] at h9
                  rw [h9, hB1.out, hR.out])
                have hfin := Hd (hbaH.out.trans (hqws.out.mono hbaH.out.size));clear hok2;go_wp2_with fail
                (try simp only [Exit.inBlock, Exit.then])
                go_ret;exact ⟨by rw [hRf.out]; rfl, hfin.out⟩
      | cons c0 r0 =>
        have e2 : S2.toList.isEmpty = false := ez2;have hbv : Hid (B0 = false) := Hd (by rw [<- hB0H.out]; simp);clear ez2;go_wp2_with fail;clear y0 y1 y2 y3 y4
        go_loopw [3, 4] (fun v3 v4 wr => ∃ i : Nat, i <= n1 /\ v4 = .int .i64 (i : Nat) /\ v3 = .bool false /\ Hid (Below w1.heap.size w1 wr)) (fun _ v4 _ => n1 - (intOf v4).toNat)
        case atStart => exact ⟨0, by omega, rfl, rfl, hqw3⟩
        case round =>
          obtain ⟨i, hi, rfl, rfl, hqwr⟩ := hrel;have hTb9 := hTb.out wr hqwr.out;have y0 := Xp.cell_blk hTb9 (i := 0) rfl;have y1 := Xp.cell_blk hTb9 (i := 1) rfl;have y2 := Xp.cell_blk hTb9 (i := 2) rfl;have y3 := Xp.cell_blk hTb9 (i := 3) rfl;have y4 := Xp.cell_blk hTb9 (i := 4) rfl;clear hTb9
          by_cases hlt : i < n1
          · have i1 : decide ((i : Int) < (n1 : Int)) = true := by simp; omega
            go_wp2_with fail;clear y0 y1 y2 y3 y4
            go_loopw [3, 5] (fun v3 v5 wq => ∃ k : Nat, k <= i /\ v5 = .int .i64 (k : Nat) /\ v3 = .bool false /\ Hid (Below w1.heap.size w1 wq)) (fun _ v5 _ => i - (intOf v5).toNat)
            case atStart => exact ⟨0, by omega, rfl, rfl, hqwr⟩
            case round =>
              obtain ⟨k, hk, rfl, rfl, hqwq⟩ := hrel
              by_cases hkl : k < i
              · have j1 : decide ((k : Int) < (i : Int)) = true := by simp; omega
                have hbd9 := Hd (hqwq.out.trans ((Joins.below_draws _ _ 1).mono hqwq.out.size));go_wp2_with fail;refine Pl.wp_region_plan 14 (.take 0 (.take 1 (.take 2 (.take 3 (.take 4 (.take 5 (.take 6 (.take 7 (.take 8 (.take 9 (.take 10 (.take 11 (.take 12 (.take 13 .done)))))))))))))) (fun _ => True) (by kernel_rfl) (by kernel_rfl) (trivial) ?_;simp only [Pl.fill, Al_4, Al_5, Al_6, Al_7]
                iterate 14
                  first
                  | (refine Pl.take_go ?_ (by rfl) (fun _ _ _ h => h) ?_ ?_
                     rotate_left
                     · (intro x hSw; (try dsimp only at hSw); go_simp; try with_reducible rfl)
                     (try simp only [Act.put, Al_1, Al_2, Al_3]))
                  | (refine Pl.take_skip (by rfl) (fun _ _ _ h => h) ?_
                     (try simp only [Act.put, Al_1, Al_2, Al_3]))
                refine Pl.done_go ?_;go_wp2_with fail;go_roundw
                case rel => exact ⟨k + 1, by omega, by go_num, rfl, hbd9⟩
                case measure => simp [intOf]; omega
              · have hki : k = i := by omega
                subst hki;have j1 : decide ((k : Int) < (k : Int)) = false := (by simp);go_wp2_with fail;go_roundw
                case rel => exact ⟨k + 1, by omega, by go_num, rfl, hqwq⟩
                case measure => simp [intOf]; omega
          · have hie : i = n1 := by omega
            subst hie;have i1 : decide ((i : Int) < (i : Int)) = false := (by simp);go_wp2_with fail;clear y0 y1 y2 y3 y4
            go_loopw [3, 6] (fun v3 v6 wq => ∃ q : Nat, q <= n2 /\ v6 = .int .i64 (q : Nat) /\ v3 = .bool false /\ Hid (Below w1.heap.size w1 wq)) (fun _ v6 _ => n2 - (intOf v6).toNat)
            case atStart => exact ⟨0, by omega, rfl, rfl, hqwr⟩
            case round =>
              obtain ⟨q, hq, rfl, rfl, hqws⟩ := hrel;have hTb9 := hTb.out _ hqws.out;have y0 := Xp.cell_blk hTb9 (i := 0) rfl;have y1 := Xp.cell_blk hTb9 (i := 1) rfl;have y2 := Xp.cell_blk hTb9 (i := 2) rfl;have y3 := Xp.cell_blk hTb9 (i := 3) rfl;have y4 := Xp.cell_blk hTb9 (i := 4) rfl;clear hTb9
              by_cases hlt3 : q < n2
              · have i3 : decide ((q : Int) < (n2 : Int)) = true := by simp; omega
                go_wp2_with fail;go_roundw
                case rel => exact ⟨q + 1, by omega, by go_num, rfl, hqws⟩
                case measure => simp [intOf]; omega
              · have hie : q = n2 := by omega
                subst hie;have i3 : decide ((q : Int) < (q : Int)) = false := (by simp);have hRf : Hid (R = false) := Hd (by rw [hR.out, hbv.out]; rfl);have hfin := Hd (hbaH.out.trans (hqws.out.mono hbaH.out.size));go_wp2_with fail
                (try simp only [Exit.inBlock, Exit.then])
                go_ret;exact ⟨by rw [hRf.out]; rfl, hfin.out⟩
    · have hbv : Hid (B0 = false) := Hd (by rw [<- hB0H.out]; rfl)
      go_wp2_with fail;clear y0 y1 y2 y3 y4
      go_loopw [3, 4] (fun v3 v4 wr => ∃ i : Nat, i <= n1 /\ v4 = .int .i64 (i : Nat) /\ v3 = .bool false /\ Hid (Below w1.heap.size w1 wr)) (fun _ v4 _ => n1 - (intOf v4).toNat)
      case atStart => exact ⟨0, by omega, rfl, rfl, hqw3⟩
      case round =>
        obtain ⟨i, hi, rfl, rfl, hqwr⟩ := hrel;have hTb9 := hTb.out wr hqwr.out;have y0 := Xp.cell_blk hTb9 (i := 0) rfl;have y1 := Xp.cell_blk hTb9 (i := 1) rfl;have y2 := Xp.cell_blk hTb9 (i := 2) rfl;have y3 := Xp.cell_blk hTb9 (i := 3) rfl;have y4 := Xp.cell_blk hTb9 (i := 4) rfl;clear hTb9
        by_cases hlt : i < n1
        · have i1 : decide ((i : Int) < (n1 : Int)) = true := by simp; omega
          go_wp2_with fail;clear y0 y1 y2 y3 y4
          go_loopw [3, 5] (fun v3 v5 wq => ∃ k : Nat, k <= i /\ v5 = .int .i64 (k : Nat) /\ v3 = .bool false /\ Hid (Below w1.heap.size w1 wq)) (fun _ v5 _ => i - (intOf v5).toNat)
          case atStart => exact ⟨0, by omega, rfl, rfl, hqwr⟩
          case round =>
            obtain ⟨k, hk, rfl, rfl, hqwq⟩ := hrel
            by_cases hkl : k < i
            · have j1 : decide ((k : Int) < (i : Int)) = true := by simp; omega
              have hbd9 := Hd (hqwq.out.trans ((Joins.below_draws _ _ 1).mono hqwq.out.size));go_wp2_with fail;refine Pl.wp_region_plan 14 (.take 0 (.take 1 (.take 2 (.take 3 (.take 4 (.take 5 (.take 6 (.take 7 (.take 8 (.take 9 (.take 10 (.take 11 (.take 12 (.take 13 .done)))))))))))))) (fun _ => True) (by kernel_rfl) (by kernel_rfl) (trivial) ?_;simp only [Pl.fill, Al_4, Al_5, Al_6, Al_7]
              iterate 14
                first
                | (refine Pl.take_go ?_ (by rfl) (fun _ _ _ h => h) ?_ ?_
                   rotate_left
                   · (intro x hSw; (try dsimp only at hSw); go_simp; try with_reducible rfl)
                   (try simp only [Act.put, Al_1, Al_2, Al_3]))
                | (refine Pl.take_skip (by rfl) (fun _ _ _ h => h) ?_
                   (try simp only [Act.put, Al_1, Al_2, Al_3]))
              refine Pl.done_go ?_;go_wp2_with fail;go_roundw
              case rel => exact ⟨k + 1, by omega, by go_num, rfl, hbd9⟩
              case measure => simp [intOf]; omega
            · have hki : k = i := by omega
              subst hki;have j1 : decide ((k : Int) < (k : Int)) = false := (by simp);go_wp2_with fail;go_roundw
              case rel => exact ⟨k + 1, by omega, by go_num, rfl, hqwq⟩
              case measure => simp [intOf]; omega
        · have hie : i = n1 := by omega
          subst hie;have i1 : decide ((i : Int) < (i : Int)) = false := (by simp);go_wp2_with fail;clear y0 y1 y2 y3 y4
          go_loopw [3, 6] (fun v3 v6 wq => ∃ q : Nat, q <= n2 /\ v6 = .int .i64 (q : Nat) /\ v3 = .bool false /\ Hid (Below w1.heap.size w1 wq)) (fun _ v6 _ => n2 - (intOf v6).toNat)
          case atStart => exact ⟨0, by omega, rfl, rfl, hqwr⟩
          case round =>
            obtain ⟨q, hq, rfl, rfl, hqws⟩ := hrel;have hTb9 := hTb.out _ hqws.out;have y0 := Xp.cell_blk hTb9 (i := 0) rfl;have y1 := Xp.cell_blk hTb9 (i := 1) rfl;have y2 := Xp.cell_blk hTb9 (i := 2) rfl;have y3 := Xp.cell_blk hTb9 (i := 3) rfl;have y4 := Xp.cell_blk hTb9 (i := 4) rfl;clear hTb9
            by_cases hlt3 : q < n2
            · have i3 : decide ((q : Int) < (n2 : Int)) = true := by simp; omega
              go_wp2_with fail;go_roundw
              case rel => exact ⟨q + 1, by omega, by go_num, rfl, hqws⟩
              case measure => simp [intOf]; omega
            · have hie : q = n2 := by omega
              subst hie;have i3 : decide ((q : Int) < (q : Int)) = false := (by simp);have hRf : Hid (R = false) := Hd (by rw [hR.out, hbv.out]; rfl);have hfin := Hd (hbaH.out.trans (hqws.out.mono hbaH.out.size));go_wp2_with fail
              (try simp only [Exit.inBlock, Exit.then])
              go_ret;exact ⟨by rw [hRf.out]; rfl, hfin.out⟩
end Go.Proofs.YtdnfnkicmfkkmaaGreatDoor.Xp
end

section
namespace Go.Proofs.YtdnfnkicmfkkmaaGreatDoor.Xp
open Go.RowKit UtfW Xl Xo Xt
theorem esc_le6_ (v : Bool) : ∀ s : Tx, (esc v s).length <= 6 * s.length
 | [] => by simp [esc]
 | c :: s => by
  have h1 := esc_le6_ v s
  have h2 : (esc1 v c).length <= 6 := by
   unfold esc1
   repeat' split
   all_goals simp
  rw [esc, List.length_append, List.length_cons];omega
set_option maxHeartbeats 8000000 in
set_option maxRecDepth 100000 in
theorem resc_false (s : Tx) (hs : s.length <= 1000000) (w : World) :
  Calls Tryz.prog 169 #[.string (strOf s), .bool false] w fun e w' => e = .returned (.string (strOf (esc false s))) /\ Below w.heap.size w w' := by
 have hsz : (strOf s).size = s.length := strOf_size' s;obtain ⟨n, hn⟩ : ∃ n, s.length = n := ⟨_, rfl⟩;rw [hn] at hsz hs;have hn' := Hd hn;clear hn
 go_enter Tryz.func169, Tryz.ntmps169
 go_wp2_with fail
 go_loopw [5, 6] (fun v5 v6 wr => ∃ (i : Nat) (S : ByteArray), i <= n /\ v6 = .int .i64 (i : Nat) /\ v5 = .string S /\ Hid (S = strOf (esc false (s.take i))) /\ Hid (Below w.heap.size w wr)) (fun _ v6 _ => n - (intOf v6).toNat)
 case atStart => exact ⟨0, ⟨#[]⟩, by omega, rfl, rfl, Hd rfl, Hd (Below.refl _ _)⟩
 case round =>
  obtain ⟨i, S, hi, rfl, rfl, hS, hb⟩ := hrel
  by_cases hlt : i < n
  ·have i1 : decide ((i : Int) < (n : Int)) = true := by simp; omega
   have q1 : (i : Int) < (n : Int) := by omega
   obtain ⟨x, hx⟩ : ∃ x, s[i]? = some x := ⟨_, List.getElem?_eq_getElem (by rw [hn'.out]; exact hlt)⟩
   have hSz : S.size <= 6000000 := by
    have := esc_le6_ false (s.take i);rw [hS.out, strOf_size'];rw [List.length_take] at this;omega
   have hlt' : i < (strOf s).size := by omega
   have hgx := str_at hx hlt';have hc9 := x.toNat_lt;replace hx := Hd hx
   by_cases hxc : x = 38
   ·have q : (x.toNat : Int) = 38 := by rw [hxc]; rfl
    have hp : esc1 false x = [38, 97, 109, 112, 59] := by rw [hxc]; rfl
    obtain ⟨S1, hS1⟩ : ∃ S1, S ++ ⟨#[38, 97, 109, 112, 59]⟩ = S1 := ⟨_, rfl⟩;have e1 := fun w => run_string_add_sum (P := Tryz.prog) w S ⟨#[38, 97, 109, 112, 59]⟩ (by rw [show (ByteArray.mk #[38, 97, 109, 112, 59]).size = 5 from rfl]; omega)
    rw [hS1] at e1
    have hnext : Hid (S1 = strOf (esc false (s.take (i + 1)))) := Hd (by
     rw [<- hS1, hS.out, show (ByteArray.mk #[38, 97, 109, 112, 59]) = strOf [38, 97, 109, 112, 59] from rfl, strOf_add, take_snoc hx.out, esc_append, esc, esc, hp, List.append_nil])
    clear hp hS1 hxc;go_wp2_with fail;go_roundw
    case rel => exact ⟨i + 1, _, by omega, by go_num, rfl, hnext, hb⟩
    case measure => simp [intOf]; omega
   have n38 : ¬ x = 38 := hxc;clear hxc
   by_cases hxc : x = 60
   ·have q : (x.toNat : Int) = 60 := by rw [hxc]; rfl
    have hp : esc1 false x = [38, 108, 116, 59] := by rw [hxc]; rfl
    obtain ⟨S1, hS1⟩ : ∃ S1, S ++ ⟨#[38, 108, 116, 59]⟩ = S1 := ⟨_, rfl⟩;have e1 := fun w => run_string_add_sum (P := Tryz.prog) w S ⟨#[38, 108, 116, 59]⟩ (by rw [show (ByteArray.mk #[38, 108, 116, 59]).size = 4 from rfl]; omega)
    rw [hS1] at e1
    have hnext : Hid (S1 = strOf (esc false (s.take (i + 1)))) := Hd (by
     rw [<- hS1, hS.out, show (ByteArray.mk #[38, 108, 116, 59]) = strOf [38, 108, 116, 59] from rfl, strOf_add, take_snoc hx.out, esc_append, esc, esc, hp, List.append_nil])
    clear hp hS1 hxc;go_wp2_with fail;go_roundw
    case rel => exact ⟨i + 1, _, by omega, by go_num, rfl, hnext, hb⟩
    case measure => simp [intOf]; omega
   have n60 : ¬ x = 60 := hxc;clear hxc
   by_cases hxc : x = 13
   ·have q : (x.toNat : Int) = 13 := by rw [hxc]; rfl
    have hp : esc1 false x = [38, 35, 49, 51, 59] := by rw [hxc]; rfl
    obtain ⟨S1, hS1⟩ : ∃ S1, S ++ ⟨#[38, 35, 49, 51, 59]⟩ = S1 := ⟨_, rfl⟩;have e1 := fun w => run_string_add_sum (P := Tryz.prog) w S ⟨#[38, 35, 49, 51, 59]⟩ (by rw [show (ByteArray.mk #[38, 35, 49, 51, 59]).size = 5 from rfl]; omega)
    rw [hS1] at e1
    have hnext : Hid (S1 = strOf (esc false (s.take (i + 1)))) := Hd (by
     rw [<- hS1, hS.out, show (ByteArray.mk #[38, 35, 49, 51, 59]) = strOf [38, 35, 49, 51, 59] from rfl, strOf_add, take_snoc hx.out, esc_append, esc, esc, hp, List.append_nil])
    clear hp hS1 hxc;go_wp2_with fail;go_roundw
    case rel => exact ⟨i + 1, _, by omega, by go_num, rfl, hnext, hb⟩
    case measure => simp [intOf]; omega
   have n13 : ¬ x = 13 := hxc;clear hxc
   by_cases hxc : x = 62
   ·have q : (x.toNat : Int) = 62 := by rw [hxc]; rfl
    have hp : esc1 false x = [38, 103, 116, 59] := by rw [hxc]; rfl
    obtain ⟨S1, hS1⟩ : ∃ S1, S ++ ⟨#[38, 103, 116, 59]⟩ = S1 := ⟨_, rfl⟩;have e1 := fun w => run_string_add_sum (P := Tryz.prog) w S ⟨#[38, 103, 116, 59]⟩ (by rw [show (ByteArray.mk #[38, 103, 116, 59]).size = 4 from rfl]; omega)
    rw [hS1] at e1
    have hnext : Hid (S1 = strOf (esc false (s.take (i + 1)))) := Hd (by
     rw [<- hS1, hS.out, show (ByteArray.mk #[38, 103, 116, 59]) = strOf [38, 103, 116, 59] from rfl, strOf_add, take_snoc hx.out, esc_append, esc, esc, hp, List.append_nil])
    clear hp hS1 hxc;go_wp2_with fail;go_roundw
    case rel => exact ⟨i + 1, _, by omega, by go_num, rfl, hnext, hb⟩
    case measure => simp [intOf]; omega
   have n62 : ¬ x = 62 := hxc;clear hxc
   by_cases hxc : x = 34
   ·have q : (x.toNat : Int) = 34 := by rw [hxc]; rfl
    have hp : esc1 false x = [x] := by
     rw [hxc];rfl
    obtain ⟨S1, hS1⟩ : ∃ S1, S ++ strOf [x] = S1 := ⟨_, rfl⟩;have e1 := fun w => run_string_add_sum (P := Tryz.prog) w S (strOf [x]) (by rw [strOf_size']; simp only [List.length_cons, List.length_nil]; omega)
    rw [hS1] at e1
    have hex : (strOf s).extract i (i + 1) = strOf [x] := by
     rw [extract_str, Nat.add_sub_cancel_left];have := hx.out;obtain ⟨hl, rfl⟩ := List.getElem?_eq_some_iff.1 this;rw [List.drop_eq_getElem_cons hl];rfl
    have hnext : Hid (S1 = strOf (esc false (s.take (i + 1)))) := Hd (by
     rw [<- hS1, hS.out, strOf_add, take_snoc hx.out, esc_append, esc, esc, hp, List.append_nil])
    clear hp hS1 hxc;go_wp2_with fail;go_roundw
    case rel => exact ⟨i + 1, _, by omega, by go_num, rfl, hnext, hb⟩
    case measure => simp [intOf]; omega
   have n34 : ¬ x = 34 := hxc;clear hxc
   by_cases hxc : x = 9
   ·have q : (x.toNat : Int) = 9 := by rw [hxc]; rfl
    have hp : esc1 false x = [x] := by
     rw [hxc];rfl
    obtain ⟨S1, hS1⟩ : ∃ S1, S ++ strOf [x] = S1 := ⟨_, rfl⟩;have e1 := fun w => run_string_add_sum (P := Tryz.prog) w S (strOf [x]) (by rw [strOf_size']; simp only [List.length_cons, List.length_nil]; omega)
    rw [hS1] at e1
    have hex : (strOf s).extract i (i + 1) = strOf [x] := by
     rw [extract_str, Nat.add_sub_cancel_left];have := hx.out;obtain ⟨hl, rfl⟩ := List.getElem?_eq_some_iff.1 this;rw [List.drop_eq_getElem_cons hl];rfl
    have hnext : Hid (S1 = strOf (esc false (s.take (i + 1)))) := Hd (by
     rw [<- hS1, hS.out, strOf_add, take_snoc hx.out, esc_append, esc, esc, hp, List.append_nil])
    clear hp hS1 hxc;go_wp2_with fail;go_roundw
    case rel => exact ⟨i + 1, _, by omega, by go_num, rfl, hnext, hb⟩
    case measure => simp [intOf]; omega
   have n9 : ¬ x = 9 := hxc;clear hxc
   by_cases hxc : x = 10
   ·have q : (x.toNat : Int) = 10 := by rw [hxc]; rfl
    have hp : esc1 false x = [x] := by
     rw [hxc];rfl
    obtain ⟨S1, hS1⟩ : ∃ S1, S ++ strOf [x] = S1 := ⟨_, rfl⟩;have e1 := fun w => run_string_add_sum (P := Tryz.prog) w S (strOf [x]) (by rw [strOf_size']; simp only [List.length_cons, List.length_nil]; omega)
    rw [hS1] at e1
    have hex : (strOf s).extract i (i + 1) = strOf [x] := by
     rw [extract_str, Nat.add_sub_cancel_left];have := hx.out;obtain ⟨hl, rfl⟩ := List.getElem?_eq_some_iff.1 this;rw [List.drop_eq_getElem_cons hl];rfl
    have hnext : Hid (S1 = strOf (esc false (s.take (i + 1)))) := Hd (by
     rw [<- hS1, hS.out, strOf_add, take_snoc hx.out, esc_append, esc, esc, hp, List.append_nil])
    clear hp hS1 hxc;go_wp2_with fail;go_roundw
    case rel => exact ⟨i + 1, _, by omega, by go_num, rfl, hnext, hb⟩
    case measure => simp [intOf]; omega
   have n10 : ¬ x = 10 := hxc;clear hxc
   have hp : esc1 false x = [x] := by
    unfold esc1;rw [if_neg n38, if_neg n60, if_neg n13, if_neg (fun h => n62 h.1), if_neg (fun h => n34 h.1), if_neg (fun h => n9 h.1), if_neg (fun h => n10 h.1)]
   obtain ⟨S1, hS1⟩ : ∃ S1, S ++ strOf [x] = S1 := ⟨_, rfl⟩;have e1 := fun w => run_string_add_sum (P := Tryz.prog) w S (strOf [x]) (by rw [strOf_size']; simp only [List.length_cons, List.length_nil]; omega)
   rw [hS1] at e1
   have hex : (strOf s).extract i (i + 1) = strOf [x] := by
    rw [extract_str, Nat.add_sub_cancel_left];have := hx.out;obtain ⟨hl, rfl⟩ := List.getElem?_eq_some_iff.1 this;rw [List.drop_eq_getElem_cons hl];rfl
   have hnext : Hid (S1 = strOf (esc false (s.take (i + 1)))) := Hd (by
    rw [<- hS1, hS.out, strOf_add, take_snoc hx.out, esc_append, esc, esc, hp, List.append_nil])
   have k38 : ((x.toNat : Int) == 38) = false := by
    rw [beq_eq_false_iff_ne];intro e;exact n38 (UInt8.toNat_inj.1 (by rw [show (((38 : UInt8)).toNat) = 38 from rfl]; omega))
   have k60 : ((x.toNat : Int) == 60) = false := by
    rw [beq_eq_false_iff_ne];intro e;exact n60 (UInt8.toNat_inj.1 (by rw [show (((60 : UInt8)).toNat) = 60 from rfl]; omega))
   have k13 : ((x.toNat : Int) == 13) = false := by
    rw [beq_eq_false_iff_ne];intro e;exact n13 (UInt8.toNat_inj.1 (by rw [show (((13 : UInt8)).toNat) = 13 from rfl]; omega))
   have k62 : ((x.toNat : Int) == 62) = false := by
    rw [beq_eq_false_iff_ne];intro e;exact n62 (UInt8.toNat_inj.1 (by rw [show (((62 : UInt8)).toNat) = 62 from rfl]; omega))
   have k34 : ((x.toNat : Int) == 34) = false := by
    rw [beq_eq_false_iff_ne];intro e;exact n34 (UInt8.toNat_inj.1 (by rw [show (((34 : UInt8)).toNat) = 34 from rfl]; omega))
   have k9 : ((x.toNat : Int) == 9) = false := by
    rw [beq_eq_false_iff_ne];intro e;exact n9 (UInt8.toNat_inj.1 (by rw [show (((9 : UInt8)).toNat) = 9 from rfl]; omega))
   have k10 : ((x.toNat : Int) == 10) = false := by
    rw [beq_eq_false_iff_ne];intro e;exact n10 (UInt8.toNat_inj.1 (by rw [show (((10 : UInt8)).toNat) = 10 from rfl]; omega))
   clear hp hS1 n38 n60 n13 n62 n34 n9 n10;go_wp2_with fail;go_roundw
   case rel => exact ⟨i + 1, _, by omega, by go_num, rfl, hnext, hb⟩
   case measure => simp [intOf]; omega
  ·have hie : i = n := by omega
   subst hie;have i1 : decide ((i : Int) < (i : Int)) = false := by simp
   have hfin : Hid (S = strOf (esc false s)) := Hd (by
    have h9 := hS.out
    rwa [List.take_of_length_le (Nat.le_of_eq hn'.out)] at h9)
   clear hS;go_wp2_with fail
   (try simp only [Exit.inBlock, Exit.then])
   go_ret;exact ⟨by rw [hfin.out]; rfl, hb.out⟩
set_option maxHeartbeats 8000000 in
set_option maxRecDepth 100000 in
theorem resc_true (s : Tx) (hs : s.length <= 1000000) (w : World) :
  Calls Tryz.prog 169 #[.string (strOf s), .bool true] w fun e w' => e = .returned (.string (strOf (esc true s))) /\ Below w.heap.size w w' := by
 have hsz : (strOf s).size = s.length := strOf_size' s;obtain ⟨n, hn⟩ : ∃ n, s.length = n := ⟨_, rfl⟩;rw [hn] at hsz hs;have hn' := Hd hn;clear hn
 go_enter Tryz.func169, Tryz.ntmps169
 go_wp2_with fail
 go_loopw [5, 6] (fun v5 v6 wr => ∃ (i : Nat) (S : ByteArray), i <= n /\ v6 = .int .i64 (i : Nat) /\ v5 = .string S /\ Hid (S = strOf (esc true (s.take i))) /\ Hid (Below w.heap.size w wr)) (fun _ v6 _ => n - (intOf v6).toNat)
 case atStart => exact ⟨0, ⟨#[]⟩, by omega, rfl, rfl, Hd rfl, Hd (Below.refl _ _)⟩
 case round =>
  obtain ⟨i, S, hi, rfl, rfl, hS, hb⟩ := hrel
  by_cases hlt : i < n
  ·have i1 : decide ((i : Int) < (n : Int)) = true := by simp; omega
   have q1 : (i : Int) < (n : Int) := by omega
   obtain ⟨x, hx⟩ : ∃ x, s[i]? = some x := ⟨_, List.getElem?_eq_getElem (by rw [hn'.out]; exact hlt)⟩
   have hSz : S.size <= 6000000 := by
    have := esc_le6_ true (s.take i);rw [hS.out, strOf_size'];rw [List.length_take] at this;omega
   have hlt' : i < (strOf s).size := by omega
   have hgx := str_at hx hlt';have hc9 := x.toNat_lt;replace hx := Hd hx
   by_cases hxc : x = 38
   ·have q : (x.toNat : Int) = 38 := by rw [hxc]; rfl
    have hp : esc1 true x = [38, 97, 109, 112, 59] := by rw [hxc]; rfl
    obtain ⟨S1, hS1⟩ : ∃ S1, S ++ ⟨#[38, 97, 109, 112, 59]⟩ = S1 := ⟨_, rfl⟩;have e1 := fun w => run_string_add_sum (P := Tryz.prog) w S ⟨#[38, 97, 109, 112, 59]⟩ (by rw [show (ByteArray.mk #[38, 97, 109, 112, 59]).size = 5 from rfl]; omega)
    rw [hS1] at e1
    have hnext : Hid (S1 = strOf (esc true (s.take (i + 1)))) := Hd (by
     rw [<- hS1, hS.out, show (ByteArray.mk #[38, 97, 109, 112, 59]) = strOf [38, 97, 109, 112, 59] from rfl, strOf_add, take_snoc hx.out, esc_append, esc, esc, hp, List.append_nil])
    clear hp hS1 hxc;go_wp2_with fail;go_roundw
    case rel => exact ⟨i + 1, _, by omega, by go_num, rfl, hnext, hb⟩
    case measure => simp [intOf]; omega
   have n38 : ¬ x = 38 := hxc;clear hxc
   by_cases hxc : x = 60
   ·have q : (x.toNat : Int) = 60 := by rw [hxc]; rfl
    have hp : esc1 true x = [38, 108, 116, 59] := by rw [hxc]; rfl
    obtain ⟨S1, hS1⟩ : ∃ S1, S ++ ⟨#[38, 108, 116, 59]⟩ = S1 := ⟨_, rfl⟩;have e1 := fun w => run_string_add_sum (P := Tryz.prog) w S ⟨#[38, 108, 116, 59]⟩ (by rw [show (ByteArray.mk #[38, 108, 116, 59]).size = 4 from rfl]; omega)
    rw [hS1] at e1
    have hnext : Hid (S1 = strOf (esc true (s.take (i + 1)))) := Hd (by
     rw [<- hS1, hS.out, show (ByteArray.mk #[38, 108, 116, 59]) = strOf [38, 108, 116, 59] from rfl, strOf_add, take_snoc hx.out, esc_append, esc, esc, hp, List.append_nil])
    clear hp hS1 hxc;go_wp2_with fail;go_roundw
    case rel => exact ⟨i + 1, _, by omega, by go_num, rfl, hnext, hb⟩
    case measure => simp [intOf]; omega
   have n60 : ¬ x = 60 := hxc;clear hxc
   by_cases hxc : x = 13
   ·have q : (x.toNat : Int) = 13 := by rw [hxc]; rfl
    have hp : esc1 true x = [38, 35, 49, 51, 59] := by rw [hxc]; rfl
    obtain ⟨S1, hS1⟩ : ∃ S1, S ++ ⟨#[38, 35, 49, 51, 59]⟩ = S1 := ⟨_, rfl⟩;have e1 := fun w => run_string_add_sum (P := Tryz.prog) w S ⟨#[38, 35, 49, 51, 59]⟩ (by rw [show (ByteArray.mk #[38, 35, 49, 51, 59]).size = 5 from rfl]; omega)
    rw [hS1] at e1
    have hnext : Hid (S1 = strOf (esc true (s.take (i + 1)))) := Hd (by
     rw [<- hS1, hS.out, show (ByteArray.mk #[38, 35, 49, 51, 59]) = strOf [38, 35, 49, 51, 59] from rfl, strOf_add, take_snoc hx.out, esc_append, esc, esc, hp, List.append_nil])
    clear hp hS1 hxc;go_wp2_with fail;go_roundw
    case rel => exact ⟨i + 1, _, by omega, by go_num, rfl, hnext, hb⟩
    case measure => simp [intOf]; omega
   have n13 : ¬ x = 13 := hxc;clear hxc
   by_cases hxc : x = 62
   ·have q : (x.toNat : Int) = 62 := by rw [hxc]; rfl
    have hp : esc1 true x = [x] := by
     rw [hxc];rfl
    obtain ⟨S1, hS1⟩ : ∃ S1, S ++ strOf [x] = S1 := ⟨_, rfl⟩;have e1 := fun w => run_string_add_sum (P := Tryz.prog) w S (strOf [x]) (by rw [strOf_size']; simp only [List.length_cons, List.length_nil]; omega)
    rw [hS1] at e1
    have hex : (strOf s).extract i (i + 1) = strOf [x] := by
     rw [extract_str, Nat.add_sub_cancel_left];have := hx.out;obtain ⟨hl, rfl⟩ := List.getElem?_eq_some_iff.1 this;rw [List.drop_eq_getElem_cons hl];rfl
    have hnext : Hid (S1 = strOf (esc true (s.take (i + 1)))) := Hd (by
     rw [<- hS1, hS.out, strOf_add, take_snoc hx.out, esc_append, esc, esc, hp, List.append_nil])
    clear hp hS1 hxc;go_wp2_with fail;go_roundw
    case rel => exact ⟨i + 1, _, by omega, by go_num, rfl, hnext, hb⟩
    case measure => simp [intOf]; omega
   have n62 : ¬ x = 62 := hxc;clear hxc
   by_cases hxc : x = 34
   ·have q : (x.toNat : Int) = 34 := by rw [hxc]; rfl
    have hp : esc1 true x = [38, 113, 117, 111, 116, 59] := by rw [hxc]; rfl
    obtain ⟨S1, hS1⟩ : ∃ S1, S ++ ⟨#[38, 113, 117, 111, 116, 59]⟩ = S1 := ⟨_, rfl⟩;have e1 := fun w => run_string_add_sum (P := Tryz.prog) w S ⟨#[38, 113, 117, 111, 116, 59]⟩ (by rw [show (ByteArray.mk #[38, 113, 117, 111, 116, 59]).size = 6 from rfl]; omega)
    rw [hS1] at e1
    have hnext : Hid (S1 = strOf (esc true (s.take (i + 1)))) := Hd (by
     rw [<- hS1, hS.out, show (ByteArray.mk #[38, 113, 117, 111, 116, 59]) = strOf [38, 113, 117, 111, 116, 59] from rfl, strOf_add, take_snoc hx.out, esc_append, esc, esc, hp, List.append_nil])
    clear hp hS1 hxc;go_wp2_with fail;go_roundw
    case rel => exact ⟨i + 1, _, by omega, by go_num, rfl, hnext, hb⟩
    case measure => simp [intOf]; omega
   have n34 : ¬ x = 34 := hxc;clear hxc
   by_cases hxc : x = 9
   ·have q : (x.toNat : Int) = 9 := by rw [hxc]; rfl
    have hp : esc1 true x = [38, 35, 57, 59] := by rw [hxc]; rfl
    obtain ⟨S1, hS1⟩ : ∃ S1, S ++ ⟨#[38, 35, 57, 59]⟩ = S1 := ⟨_, rfl⟩;have e1 := fun w => run_string_add_sum (P := Tryz.prog) w S ⟨#[38, 35, 57, 59]⟩ (by rw [show (ByteArray.mk #[38, 35, 57, 59]).size = 4 from rfl]; omega)
    rw [hS1] at e1
    have hnext : Hid (S1 = strOf (esc true (s.take (i + 1)))) := Hd (by
     rw [<- hS1, hS.out, show (ByteArray.mk #[38, 35, 57, 59]) = strOf [38, 35, 57, 59] from rfl, strOf_add, take_snoc hx.out, esc_append, esc, esc, hp, List.append_nil])
    clear hp hS1 hxc;go_wp2_with fail;go_roundw
    case rel => exact ⟨i + 1, _, by omega, by go_num, rfl, hnext, hb⟩
    case measure => simp [intOf]; omega
   have n9 : ¬ x = 9 := hxc;clear hxc
   by_cases hxc : x = 10
   ·have q : (x.toNat : Int) = 10 := by rw [hxc]; rfl
    have hp : esc1 true x = [38, 35, 49, 48, 59] := by rw [hxc]; rfl
    obtain ⟨S1, hS1⟩ : ∃ S1, S ++ ⟨#[38, 35, 49, 48, 59]⟩ = S1 := ⟨_, rfl⟩;have e1 := fun w => run_string_add_sum (P := Tryz.prog) w S ⟨#[38, 35, 49, 48, 59]⟩ (by rw [show (ByteArray.mk #[38, 35, 49, 48, 59]).size = 5 from rfl]; omega)
    rw [hS1] at e1
    have hnext : Hid (S1 = strOf (esc true (s.take (i + 1)))) := Hd (by
     rw [<- hS1, hS.out, show (ByteArray.mk #[38, 35, 49, 48, 59]) = strOf [38, 35, 49, 48, 59] from rfl, strOf_add, take_snoc hx.out, esc_append, esc, esc, hp, List.append_nil])
    clear hp hS1 hxc;go_wp2_with fail;go_roundw
    case rel => exact ⟨i + 1, _, by omega, by go_num, rfl, hnext, hb⟩
    case measure => simp [intOf]; omega
   have n10 : ¬ x = 10 := hxc;clear hxc
   have hp : esc1 true x = [x] := by
    unfold esc1;rw [if_neg n38, if_neg n60, if_neg n13, if_neg (fun h => n62 h.1), if_neg (fun h => n34 h.1), if_neg (fun h => n9 h.1), if_neg (fun h => n10 h.1)]
   obtain ⟨S1, hS1⟩ : ∃ S1, S ++ strOf [x] = S1 := ⟨_, rfl⟩;have e1 := fun w => run_string_add_sum (P := Tryz.prog) w S (strOf [x]) (by rw [strOf_size']; simp only [List.length_cons, List.length_nil]; omega)
   rw [hS1] at e1
   have hex : (strOf s).extract i (i + 1) = strOf [x] := by
    rw [extract_str, Nat.add_sub_cancel_left];have := hx.out;obtain ⟨hl, rfl⟩ := List.getElem?_eq_some_iff.1 this;rw [List.drop_eq_getElem_cons hl];rfl
   have hnext : Hid (S1 = strOf (esc true (s.take (i + 1)))) := Hd (by
    rw [<- hS1, hS.out, strOf_add, take_snoc hx.out, esc_append, esc, esc, hp, List.append_nil])
   have k38 : ((x.toNat : Int) == 38) = false := by
    rw [beq_eq_false_iff_ne];intro e;exact n38 (UInt8.toNat_inj.1 (by rw [show (((38 : UInt8)).toNat) = 38 from rfl]; omega))
   have k60 : ((x.toNat : Int) == 60) = false := by
    rw [beq_eq_false_iff_ne];intro e;exact n60 (UInt8.toNat_inj.1 (by rw [show (((60 : UInt8)).toNat) = 60 from rfl]; omega))
   have k13 : ((x.toNat : Int) == 13) = false := by
    rw [beq_eq_false_iff_ne];intro e;exact n13 (UInt8.toNat_inj.1 (by rw [show (((13 : UInt8)).toNat) = 13 from rfl]; omega))
   have k62 : ((x.toNat : Int) == 62) = false := by
    rw [beq_eq_false_iff_ne];intro e;exact n62 (UInt8.toNat_inj.1 (by rw [show (((62 : UInt8)).toNat) = 62 from rfl]; omega))
   have k34 : ((x.toNat : Int) == 34) = false := by
    rw [beq_eq_false_iff_ne];intro e;exact n34 (UInt8.toNat_inj.1 (by rw [show (((34 : UInt8)).toNat) = 34 from rfl]; omega))
   have k9 : ((x.toNat : Int) == 9) = false := by
    rw [beq_eq_false_iff_ne];intro e;exact n9 (UInt8.toNat_inj.1 (by rw [show (((9 : UInt8)).toNat) = 9 from rfl]; omega))
   have k10 : ((x.toNat : Int) == 10) = false := by
    rw [beq_eq_false_iff_ne];intro e;exact n10 (UInt8.toNat_inj.1 (by rw [show (((10 : UInt8)).toNat) = 10 from rfl]; omega))
   clear hp hS1 n38 n60 n13 n62 n34 n9 n10;go_wp2_with fail;go_roundw
   case rel => exact ⟨i + 1, _, by omega, by go_num, rfl, hnext, hb⟩
   case measure => simp [intOf]; omega
  ·have hie : i = n := by omega
   subst hie;have i1 : decide ((i : Int) < (i : Int)) = false := by simp
   have hfin : Hid (S = strOf (esc true s)) := Hd (by
    have h9 := hS.out
    rwa [List.take_of_length_le (Nat.le_of_eq hn'.out)] at h9)
   clear hS;go_wp2_with fail
   (try simp only [Exit.inBlock, Exit.then])
   go_ret;exact ⟨by rw [hfin.out]; rfl, hb.out⟩
end Go.Proofs.YtdnfnkicmfkkmaaGreatDoor.Xp
end

section

end

section
namespace Go.Proofs.YtdnfnkicmfkkmaaGreatDoor.Xp
open Go.RowKit UtfW Xl Xo
set_option maxHeartbeats 2000000 in
set_option maxRecDepth 100000 in
theorem string_any (b : Nat) (v : Value) (l : Tx) (w : World) (h : Pr b v l w) (hlen : l.length <= 100000000000000) :
  Calls Tryz.prog 33 #[.pointer (some ⟨b, 0, none⟩)] w fun e w' => e = .returned (.string (strOf l)) /\ Below b w w' := by
 obtain ⟨p, hbk, -⟩ := h.blk;have hlt := h.lt
 by_cases h0 : l = []
 ·have hv := h.nil h0;subst hv;subst h0;have hUS : ∀ W : World, (Builtin.unsafeString_ #[125, 3] 9 #[.pointer none, .int .i64 0]).run Tryz.prog W = .ok (.string .empty) W := fun W => Lib.run_unsafeString_none W _ _ _ none
  have hSD : ∀ W : World, (Builtin.unsafeSliceData_ #[81] 125 #[.slice none 0 0]).run Tryz.prog W = .ok (.pointer none) W := fun W => rfl
  have c1 : w.drew.cell? ⟨b, 1, none⟩ = some (.slice none 0 0) := cell_blk (w := w.drew) hbk rfl;clear h hbk
  go_enter Tryz.func33, Tryz.ntmps33
  go_wp2_with fail;have mixed : Tryz.prog.follows Departure.mixedOrders = true := by kernel_rfl
  go_region_o
  all_goals (go_wp2_with fail; go_ret; exact ⟨rfl, Below.drew (Below.refl b w)⟩)
 ·have hown := h.own;have hl0 : l.length ≠ 0 := by simpa using h0
  obtain ⟨g, cap, cur, rfl, hbg, hg, hnc, hcm, hcs, htake⟩ : ∃ g cap cur, v = .slice (some ⟨g, 0, none⟩) l.length cap /\ b <= g /\ w.heap[g]? = some (.cells cur 5 (0, 0)) /\ l.length <= cap /\ cap <= maxLen /\ cur.size = cap * 1 /\ cur.toList.take (l.length * 1) = bv l := by
   rcases hown.2 with ⟨_, hz⟩ | ⟨g, cap, cur, hv, r⟩
   ·exact absurd hz hl0
   ·exact ⟨g, cap, cur, hv, r⟩
  have c1 : w.drew.cell? ⟨b, 1, none⟩ = some (.slice (some ⟨g, 0, none⟩) l.length cap) := cell_blk (w := w.drew) hbk rfl
  have hSD : (Builtin.unsafeSliceData_ #[81] 125 #[.slice (some ⟨g, 0, none⟩) l.length cap]).run Tryz.prog w.drew = .ok (.pointer (some ⟨g, 0, none⟩)) w.drew :=
   Lib.run_unsafeSliceData_row _ _ _ _ _ _ (by omega)
  have hUS : (Builtin.unsafeString_ #[125, 3] 9 #[.pointer (some ⟨g, 0, none⟩), .int .i64 l.length]).run Tryz.prog w.drew = .ok (.string (strOf l)) (w.drew.freeze ⟨g, 0, none⟩ l.length) := by
   refine Lib.run_unsafeString_row w.drew 125 3 9 5 Tryz.underlying125 (by kernel_rfl) g cur.size (by have hg' : w.drew.heap[g]? = some (.cells cur 5 (0, 0)) := hg; simp [World.shape?, hg']) l h0 (by omega) (by unfold maxLen at hcm; omega) ?_;intro j x hx;have := World.ownsRow.cells (g := g) hown rfl j (.int .u8 x.toNat) (by unfold bv; simp [hx]);exact this
  have hlg : Hid (b <= g) := Hd hbg;clear h hbk hown hg hnc hcm hcs htake hbg h0 hl0
  go_enter Tryz.func33, Tryz.ntmps33
  go_wp2_with fail;have mixed : Tryz.prog.follows Departure.mixedOrders = true := by kernel_rfl
  go_region_o
  all_goals (go_wp2_with fail; go_ret; exact ⟨rfl, Lib.below_freeze (Below.drew (Below.refl b w)) (p := ⟨g, 0, none⟩) hlg.out _⟩)
end Go.Proofs.YtdnfnkicmfkkmaaGreatDoor.Xp
end

section
namespace Go.Proofs.YtdnfnkicmfkkmaaGreatDoor.Xp
open Go.RowKit UtfW Xl Xo
theorem rd_new (w : World) (xs : List Value) (E : TypeId) (n : Nat) (hn : xs.length = n) (hm : n <= 9223372036854775807) : Rd (w.alloc (.cells xs.toArray E)) (some ⟨w.heap.size, 0, none⟩) n n xs := by
 have h := heap_alloc_new w (.cells xs.toArray E);refine ⟨hn, Nat.le_refl _, hm, fun h => (by cases h), fun hp => ⟨w.heap.size, 0, rfl, (Array.getElem?_eq_some_iff.1 h).1, fun i x hx => ?_⟩⟩;simp only [World.cell?, h, Nat.zero_add]
 simpa using hx
def PrP (b : Nat) (v : Value) (w : World) (l : Tx) (e : Ending) (w' : World) : Prop := (∃ r, e = .returned r) /\ ∃ v', Pr b v' l w' /\ Wk b v w v' w'
set_option maxHeartbeats 2000000 in
set_option maxRecDepth 100000 in
theorem put_any (b : Nat) (v : Value) (l : Tx) (w : World) (A : Option Addr) (n c : Nat) (ss : List Tx) (h : Pr b v l w) (hS : Rd w A n c (ss.map fun s => .string (strOf s))) (hA : ∀ a, A = some a -> 0 < n -> a.block ≠ b /\ v.ownBlock ≠ some a.block) (hlen : (l ++ ss.flatten).length <= 100000000000000) :
  Calls Tryz.prog 158 #[.pointer (some ⟨b, 0, none⟩), .slice A n c] w (PrP b v w (l ++ ss.flatten)) := by
 have hln := hS.len;rw [List.length_map] at hln;have hle := hS.le;have hmx := hS.max;have hl := Hd hln;have hS' := Hd hS;have h' := Hd h;have hA' := Hd hA;have hlen' := Hd hlen;clear hS h hA hlen hln
 go_enter Tryz.func158, Tryz.ntmps158
 go_wp2_with fail
 go_loopw [8] (fun vi wr => ∃ i : Nat, i <= n /\ vi = .int .i64 (i : Nat) /\ Hid (∃ v1, Pr b v1 (l ++ (ss.take i).flatten) wr /\ Wk b v w v1 wr)) (fun vi _ => n - (intOf vi).toNat)
 case atStart => exact ⟨0, Nat.zero_le _, rfl, Hd ⟨v, by simpa using h'.out, Wk.refl _ _ _⟩⟩
 case round =>
  obtain ⟨i, hi, rfl, hst⟩ := hrel
  by_cases hlt : i < n
  ·have i1 : decide ((i : Int) < (n : Int)) = true := by simp; omega
   have q1 : (i : Int) < (n : Int) := by omega
   obtain ⟨v1, hp1, hw1⟩ := hst.out;obtain ⟨bk, off, u, rfl, hbk, hu, hc⟩ := hS'.out.at_ hlt;obtain ⟨n1, n2⟩ := hA'.out _ rfl (by omega);have hsame : wr.heap[bk]? = w.heap[bk]? := hw1.keep bk hbk n1 n2;have hc' : wr.cell? ⟨bk, off + i, none⟩ = some u := (Xt.cell_same hsame).trans hc;rw [List.getElem?_map, Option.map_eq_some_iff] at hu;obtain ⟨s, hs, rfl⟩ := hu;have hnext : (ss.take (i + 1)).flatten = (ss.take i).flatten ++ s := by rw [take_snoc hs, List.flatten_append]; simp
   have hl9 : (l ++ (ss.take i).flatten).length + s.length <= 100000000000000 := by
    have e : ss.flatten = (ss.take (i + 1)).flatten ++ (ss.drop (i + 1)).flatten := (by rw [<- List.flatten_append, List.take_append_drop]);have h9 := hlen'.out;rw [e, hnext] at h9;simp only [List.length_append] at h9 ⊢;omega
   have hwr := Hd (write_any b v1 (l ++ (ss.take i).flatten) s wr hp1 hl9);have hw1' := Hd hw1;have hnext' := Hd hnext;clear hp1 hw1 hst hnext hl9 hc hs hsame n1 n2 hbk;go_wp2_with fail;refine hwr.out.mono ?_;rintro e w5 ⟨⟨r, rfl⟩, v2, hp2, hw2⟩;have hfin : Hid (∃ v1, Pr b v1 (l ++ (ss.take (i + 1)).flatten) w5 /\ Wk b v w v1 w5) := Hd ⟨v2, by rw [hnext'.out, <- List.append_assoc]; exact hp2, hw1'.out.trans hw2⟩;clear hp2 hw2 hc';go_wp2_with fail;go_roundw
   case rel => exact ⟨i + 1, by omega, by go_num, hfin⟩
   case measure => simp [intOf]; omega
  ·have hie : i = n := by omega
   subst hie;have i1 : decide ((i : Int) < (i : Int)) = false := by simp
   have hfin : Hid (∃ v1, Pr b v1 (l ++ ss.flatten) wr /\ Wk b v w v1 wr) := Hd (by
    have h9 := hst.out
    rwa [List.take_of_length_le (by rw [hl.out]; exact Nat.le_refl _)] at h9)
   go_wp2_with fail
   go_end0
   exact ⟨⟨_, rfl⟩, hfin.out⟩
set_option maxHeartbeats 2000000 in
set_option maxRecDepth 100000 in
theorem escaped_any (c : UInt8) (value : Bool) (w : World) :
  Calls Tryz.prog 170 #[.int .u8 (c.toNat : Nat), .bool value] w fun e w' => e = .returned (.string (strOf (esc1 value c))) /\ Below w.heap.size w w' := by
 cases value with
 | false =>
  by_cases h38 : c = 38
  ·have j38 : ((c.toNat : Int) == 38) = true := by rw [h38]; rfl
   have j60 : ((c.toNat : Int) == 60) = false := by rw [h38]; rfl
   have j13 : ((c.toNat : Int) == 13) = false := by rw [h38]; rfl
   have j62 : ((c.toNat : Int) == 62) = false := by rw [h38]; rfl
   have j34 : ((c.toNat : Int) == 34) = false := by rw [h38]; rfl
   have j9 : ((c.toNat : Int) == 9) = false := by rw [h38]; rfl
   have j10 : ((c.toNat : Int) == 10) = false := by rw [h38]; rfl
   have he : Hid (esc1 false c = esc1 false 38) := Hd (by rw [h38]);clear h38
   go_enter Tryz.func170, Tryz.ntmps170
   go_wp2_with fail;go_ret;exact ⟨by rw [he.out]; rfl, Below.refl _ _⟩
  by_cases h60 : c = 60
  ·have j38 : ((c.toNat : Int) == 38) = false := by rw [show (38 : Int) = ((38 : UInt8).toNat : Int) from rfl, byte_eq, decide_eq_false h38]
   have j60 : ((c.toNat : Int) == 60) = true := by rw [h60]; rfl
   have j13 : ((c.toNat : Int) == 13) = false := by rw [h60]; rfl
   have j62 : ((c.toNat : Int) == 62) = false := by rw [h60]; rfl
   have j34 : ((c.toNat : Int) == 34) = false := by rw [h60]; rfl
   have j9 : ((c.toNat : Int) == 9) = false := by rw [h60]; rfl
   have j10 : ((c.toNat : Int) == 10) = false := by rw [h60]; rfl
   have he : Hid (esc1 false c = esc1 false 60) := Hd (by rw [h60]);clear h38 h60
   go_enter Tryz.func170, Tryz.ntmps170
   go_wp2_with fail;go_ret;exact ⟨by rw [he.out]; rfl, Below.refl _ _⟩
  by_cases h13 : c = 13
  ·have j38 : ((c.toNat : Int) == 38) = false := by rw [show (38 : Int) = ((38 : UInt8).toNat : Int) from rfl, byte_eq, decide_eq_false h38]
   have j60 : ((c.toNat : Int) == 60) = false := by rw [show (60 : Int) = ((60 : UInt8).toNat : Int) from rfl, byte_eq, decide_eq_false h60]
   have j13 : ((c.toNat : Int) == 13) = true := by rw [h13]; rfl
   have j62 : ((c.toNat : Int) == 62) = false := by rw [h13]; rfl
   have j34 : ((c.toNat : Int) == 34) = false := by rw [h13]; rfl
   have j9 : ((c.toNat : Int) == 9) = false := by rw [h13]; rfl
   have j10 : ((c.toNat : Int) == 10) = false := by rw [h13]; rfl
   have he : Hid (esc1 false c = esc1 false 13) := Hd (by rw [h13]);clear h38 h60 h13
   go_enter Tryz.func170, Tryz.ntmps170
   go_wp2_with fail;go_ret;exact ⟨by rw [he.out]; rfl, Below.refl _ _⟩
  by_cases h62 : c = 62
  ·have j38 : ((c.toNat : Int) == 38) = false := by rw [show (38 : Int) = ((38 : UInt8).toNat : Int) from rfl, byte_eq, decide_eq_false h38]
   have j60 : ((c.toNat : Int) == 60) = false := by rw [show (60 : Int) = ((60 : UInt8).toNat : Int) from rfl, byte_eq, decide_eq_false h60]
   have j13 : ((c.toNat : Int) == 13) = false := by rw [show (13 : Int) = ((13 : UInt8).toNat : Int) from rfl, byte_eq, decide_eq_false h13]
   have j62 : ((c.toNat : Int) == 62) = true := by rw [h62]; rfl
   have j34 : ((c.toNat : Int) == 34) = false := by rw [h62]; rfl
   have j9 : ((c.toNat : Int) == 9) = false := by rw [h62]; rfl
   have j10 : ((c.toNat : Int) == 10) = false := by rw [h62]; rfl
   have he : Hid (esc1 false c = esc1 false 62) := Hd (by rw [h62]);clear h38 h60 h13 h62
   go_enter Tryz.func170, Tryz.ntmps170
   go_wp2_with fail;go_ret;exact ⟨by rw [he.out]; rfl, Below.refl _ _⟩
  by_cases h34 : c = 34
  ·have j38 : ((c.toNat : Int) == 38) = false := by rw [show (38 : Int) = ((38 : UInt8).toNat : Int) from rfl, byte_eq, decide_eq_false h38]
   have j60 : ((c.toNat : Int) == 60) = false := by rw [show (60 : Int) = ((60 : UInt8).toNat : Int) from rfl, byte_eq, decide_eq_false h60]
   have j13 : ((c.toNat : Int) == 13) = false := by rw [show (13 : Int) = ((13 : UInt8).toNat : Int) from rfl, byte_eq, decide_eq_false h13]
   have j62 : ((c.toNat : Int) == 62) = false := by rw [show (62 : Int) = ((62 : UInt8).toNat : Int) from rfl, byte_eq, decide_eq_false h62]
   have j34 : ((c.toNat : Int) == 34) = true := by rw [h34]; rfl
   have j9 : ((c.toNat : Int) == 9) = false := by rw [h34]; rfl
   have j10 : ((c.toNat : Int) == 10) = false := by rw [h34]; rfl
   have he : Hid (esc1 false c = [c]) := Hd (by rw [h34]; rfl);have hbs : Bs (w.alloc (.cells #[.int .u8 (c.toNat : Nat)] 5)) (some ⟨w.heap.size, 0, none⟩) 1 1 [c] := rd_new w [.int .u8 (c.toNat : Nat)] 5 1 rfl (by decide);have hcv := Bs.conv hbs Tryz.underlying81 Tryz.underlying5 Tryz.underlying9;have hba := Hd (below_alloc w (.cells #[.int .u8 (c.toNat : Nat)] 5));clear hbs h38 h60 h13 h62 h34
   go_enter Tryz.func170, Tryz.ntmps170
   go_wp2_with fail;go_ret;exact ⟨by rw [he.out]; rfl, hba.out⟩
  by_cases h9 : c = 9
  ·have j38 : ((c.toNat : Int) == 38) = false := by rw [show (38 : Int) = ((38 : UInt8).toNat : Int) from rfl, byte_eq, decide_eq_false h38]
   have j60 : ((c.toNat : Int) == 60) = false := by rw [show (60 : Int) = ((60 : UInt8).toNat : Int) from rfl, byte_eq, decide_eq_false h60]
   have j13 : ((c.toNat : Int) == 13) = false := by rw [show (13 : Int) = ((13 : UInt8).toNat : Int) from rfl, byte_eq, decide_eq_false h13]
   have j62 : ((c.toNat : Int) == 62) = false := by rw [show (62 : Int) = ((62 : UInt8).toNat : Int) from rfl, byte_eq, decide_eq_false h62]
   have j34 : ((c.toNat : Int) == 34) = false := by rw [show (34 : Int) = ((34 : UInt8).toNat : Int) from rfl, byte_eq, decide_eq_false h34]
   have j9 : ((c.toNat : Int) == 9) = true := by rw [h9]; rfl
   have j10 : ((c.toNat : Int) == 10) = false := by rw [h9]; rfl
   have he : Hid (esc1 false c = [c]) := Hd (by rw [h9]; rfl);have hbs : Bs (w.alloc (.cells #[.int .u8 (c.toNat : Nat)] 5)) (some ⟨w.heap.size, 0, none⟩) 1 1 [c] := rd_new w [.int .u8 (c.toNat : Nat)] 5 1 rfl (by decide);have hcv := Bs.conv hbs Tryz.underlying81 Tryz.underlying5 Tryz.underlying9;have hba := Hd (below_alloc w (.cells #[.int .u8 (c.toNat : Nat)] 5));clear hbs h38 h60 h13 h62 h34 h9
   go_enter Tryz.func170, Tryz.ntmps170
   go_wp2_with fail;go_ret;exact ⟨by rw [he.out]; rfl, hba.out⟩
  by_cases h10 : c = 10
  ·have j38 : ((c.toNat : Int) == 38) = false := by rw [show (38 : Int) = ((38 : UInt8).toNat : Int) from rfl, byte_eq, decide_eq_false h38]
   have j60 : ((c.toNat : Int) == 60) = false := by rw [show (60 : Int) = ((60 : UInt8).toNat : Int) from rfl, byte_eq, decide_eq_false h60]
   have j13 : ((c.toNat : Int) == 13) = false := by rw [show (13 : Int) = ((13 : UInt8).toNat : Int) from rfl, byte_eq, decide_eq_false h13]
   have j62 : ((c.toNat : Int) == 62) = false := by rw [show (62 : Int) = ((62 : UInt8).toNat : Int) from rfl, byte_eq, decide_eq_false h62]
   have j34 : ((c.toNat : Int) == 34) = false := by rw [show (34 : Int) = ((34 : UInt8).toNat : Int) from rfl, byte_eq, decide_eq_false h34]
   have j9 : ((c.toNat : Int) == 9) = false := by rw [show (9 : Int) = ((9 : UInt8).toNat : Int) from rfl, byte_eq, decide_eq_false h9]
   have j10 : ((c.toNat : Int) == 10) = true := by rw [h10]; rfl
   have he : Hid (esc1 false c = [c]) := Hd (by rw [h10]; rfl);have hbs : Bs (w.alloc (.cells #[.int .u8 (c.toNat : Nat)] 5)) (some ⟨w.heap.size, 0, none⟩) 1 1 [c] := rd_new w [.int .u8 (c.toNat : Nat)] 5 1 rfl (by decide);have hcv := Bs.conv hbs Tryz.underlying81 Tryz.underlying5 Tryz.underlying9;have hba := Hd (below_alloc w (.cells #[.int .u8 (c.toNat : Nat)] 5));clear hbs h38 h60 h13 h62 h34 h9 h10
   go_enter Tryz.func170, Tryz.ntmps170
   go_wp2_with fail;go_ret;exact ⟨by rw [he.out]; rfl, hba.out⟩
  have j38 : ((c.toNat : Int) == 38) = false := by rw [show (38 : Int) = ((38 : UInt8).toNat : Int) from rfl, byte_eq, decide_eq_false h38]
  have j60 : ((c.toNat : Int) == 60) = false := by rw [show (60 : Int) = ((60 : UInt8).toNat : Int) from rfl, byte_eq, decide_eq_false h60]
  have j13 : ((c.toNat : Int) == 13) = false := by rw [show (13 : Int) = ((13 : UInt8).toNat : Int) from rfl, byte_eq, decide_eq_false h13]
  have j62 : ((c.toNat : Int) == 62) = false := by rw [show (62 : Int) = ((62 : UInt8).toNat : Int) from rfl, byte_eq, decide_eq_false h62]
  have j34 : ((c.toNat : Int) == 34) = false := by rw [show (34 : Int) = ((34 : UInt8).toNat : Int) from rfl, byte_eq, decide_eq_false h34]
  have j9 : ((c.toNat : Int) == 9) = false := by rw [show (9 : Int) = ((9 : UInt8).toNat : Int) from rfl, byte_eq, decide_eq_false h9]
  have j10 : ((c.toNat : Int) == 10) = false := by rw [show (10 : Int) = ((10 : UInt8).toNat : Int) from rfl, byte_eq, decide_eq_false h10]
  have he : Hid (esc1 false c = [c]) := Hd (by unfold esc1; simp [h38, h60, h13, h62, h34, h9, h10]);have hbs : Bs (w.alloc (.cells #[.int .u8 (c.toNat : Nat)] 5)) (some ⟨w.heap.size, 0, none⟩) 1 1 [c] := rd_new w [.int .u8 (c.toNat : Nat)] 5 1 rfl (by decide);have hcv := Bs.conv hbs Tryz.underlying81 Tryz.underlying5 Tryz.underlying9;have hba := Hd (below_alloc w (.cells #[.int .u8 (c.toNat : Nat)] 5));clear hbs h38 h60 h13 h62 h34 h9 h10
  go_enter Tryz.func170, Tryz.ntmps170
  go_wp2_with fail;go_ret;exact ⟨by rw [he.out]; rfl, hba.out⟩
 | true =>
  by_cases h38 : c = 38
  ·have j38 : ((c.toNat : Int) == 38) = true := by rw [h38]; rfl
   have j60 : ((c.toNat : Int) == 60) = false := by rw [h38]; rfl
   have j13 : ((c.toNat : Int) == 13) = false := by rw [h38]; rfl
   have j62 : ((c.toNat : Int) == 62) = false := by rw [h38]; rfl
   have j34 : ((c.toNat : Int) == 34) = false := by rw [h38]; rfl
   have j9 : ((c.toNat : Int) == 9) = false := by rw [h38]; rfl
   have j10 : ((c.toNat : Int) == 10) = false := by rw [h38]; rfl
   have he : Hid (esc1 true c = esc1 true 38) := Hd (by rw [h38]);clear h38
   go_enter Tryz.func170, Tryz.ntmps170
   go_wp2_with fail;go_ret;exact ⟨by rw [he.out]; rfl, Below.refl _ _⟩
  by_cases h60 : c = 60
  ·have j38 : ((c.toNat : Int) == 38) = false := by rw [show (38 : Int) = ((38 : UInt8).toNat : Int) from rfl, byte_eq, decide_eq_false h38]
   have j60 : ((c.toNat : Int) == 60) = true := by rw [h60]; rfl
   have j13 : ((c.toNat : Int) == 13) = false := by rw [h60]; rfl
   have j62 : ((c.toNat : Int) == 62) = false := by rw [h60]; rfl
   have j34 : ((c.toNat : Int) == 34) = false := by rw [h60]; rfl
   have j9 : ((c.toNat : Int) == 9) = false := by rw [h60]; rfl
   have j10 : ((c.toNat : Int) == 10) = false := by rw [h60]; rfl
   have he : Hid (esc1 true c = esc1 true 60) := Hd (by rw [h60]);clear h38 h60
   go_enter Tryz.func170, Tryz.ntmps170
   go_wp2_with fail;go_ret;exact ⟨by rw [he.out]; rfl, Below.refl _ _⟩
  by_cases h13 : c = 13
  ·have j38 : ((c.toNat : Int) == 38) = false := by rw [show (38 : Int) = ((38 : UInt8).toNat : Int) from rfl, byte_eq, decide_eq_false h38]
   have j60 : ((c.toNat : Int) == 60) = false := by rw [show (60 : Int) = ((60 : UInt8).toNat : Int) from rfl, byte_eq, decide_eq_false h60]
   have j13 : ((c.toNat : Int) == 13) = true := by rw [h13]; rfl
   have j62 : ((c.toNat : Int) == 62) = false := by rw [h13]; rfl
   have j34 : ((c.toNat : Int) == 34) = false := by rw [h13]; rfl
   have j9 : ((c.toNat : Int) == 9) = false := by rw [h13]; rfl
   have j10 : ((c.toNat : Int) == 10) = false := by rw [h13]; rfl
   have he : Hid (esc1 true c = esc1 true 13) := Hd (by rw [h13]);clear h38 h60 h13
   go_enter Tryz.func170, Tryz.ntmps170
   go_wp2_with fail;go_ret;exact ⟨by rw [he.out]; rfl, Below.refl _ _⟩
  by_cases h62 : c = 62
  ·have j38 : ((c.toNat : Int) == 38) = false := by rw [show (38 : Int) = ((38 : UInt8).toNat : Int) from rfl, byte_eq, decide_eq_false h38]
   have j60 : ((c.toNat : Int) == 60) = false := by rw [show (60 : Int) = ((60 : UInt8).toNat : Int) from rfl, byte_eq, decide_eq_false h60]
   have j13 : ((c.toNat : Int) == 13) = false := by rw [show (13 : Int) = ((13 : UInt8).toNat : Int) from rfl, byte_eq, decide_eq_false h13]
   have j62 : ((c.toNat : Int) == 62) = true := by rw [h62]; rfl
   have j34 : ((c.toNat : Int) == 34) = false := by rw [h62]; rfl
   have j9 : ((c.toNat : Int) == 9) = false := by rw [h62]; rfl
   have j10 : ((c.toNat : Int) == 10) = false := by rw [h62]; rfl
   have he : Hid (esc1 true c = [c]) := Hd (by rw [h62]; rfl);have hbs : Bs (w.alloc (.cells #[.int .u8 (c.toNat : Nat)] 5)) (some ⟨w.heap.size, 0, none⟩) 1 1 [c] := rd_new w [.int .u8 (c.toNat : Nat)] 5 1 rfl (by decide);have hcv := Bs.conv hbs Tryz.underlying81 Tryz.underlying5 Tryz.underlying9;have hba := Hd (below_alloc w (.cells #[.int .u8 (c.toNat : Nat)] 5));clear hbs h38 h60 h13 h62
   go_enter Tryz.func170, Tryz.ntmps170
   go_wp2_with fail;go_ret;exact ⟨by rw [he.out]; rfl, hba.out⟩
  by_cases h34 : c = 34
  ·have j38 : ((c.toNat : Int) == 38) = false := by rw [show (38 : Int) = ((38 : UInt8).toNat : Int) from rfl, byte_eq, decide_eq_false h38]
   have j60 : ((c.toNat : Int) == 60) = false := by rw [show (60 : Int) = ((60 : UInt8).toNat : Int) from rfl, byte_eq, decide_eq_false h60]
   have j13 : ((c.toNat : Int) == 13) = false := by rw [show (13 : Int) = ((13 : UInt8).toNat : Int) from rfl, byte_eq, decide_eq_false h13]
   have j62 : ((c.toNat : Int) == 62) = false := by rw [show (62 : Int) = ((62 : UInt8).toNat : Int) from rfl, byte_eq, decide_eq_false h62]
   have j34 : ((c.toNat : Int) == 34) = true := by rw [h34]; rfl
   have j9 : ((c.toNat : Int) == 9) = false := by rw [h34]; rfl
   have j10 : ((c.toNat : Int) == 10) = false := by rw [h34]; rfl
   have he : Hid (esc1 true c = esc1 true 34) := Hd (by rw [h34]);clear h38 h60 h13 h62 h34
   go_enter Tryz.func170, Tryz.ntmps170
   go_wp2_with fail;go_ret;exact ⟨by rw [he.out]; rfl, Below.refl _ _⟩
  by_cases h9 : c = 9
  ·have j38 : ((c.toNat : Int) == 38) = false := by rw [show (38 : Int) = ((38 : UInt8).toNat : Int) from rfl, byte_eq, decide_eq_false h38]
   have j60 : ((c.toNat : Int) == 60) = false := by rw [show (60 : Int) = ((60 : UInt8).toNat : Int) from rfl, byte_eq, decide_eq_false h60]
   have j13 : ((c.toNat : Int) == 13) = false := by rw [show (13 : Int) = ((13 : UInt8).toNat : Int) from rfl, byte_eq, decide_eq_false h13]
   have j62 : ((c.toNat : Int) == 62) = false := by rw [show (62 : Int) = ((62 : UInt8).toNat : Int) from rfl, byte_eq, decide_eq_false h62]
   have j34 : ((c.toNat : Int) == 34) = false := by rw [show (34 : Int) = ((34 : UInt8).toNat : Int) from rfl, byte_eq, decide_eq_false h34]
   have j9 : ((c.toNat : Int) == 9) = true := by rw [h9]; rfl
   have j10 : ((c.toNat : Int) == 10) = false := by rw [h9]; rfl
   have he : Hid (esc1 true c = esc1 true 9) := Hd (by rw [h9]);clear h38 h60 h13 h62 h34 h9
   go_enter Tryz.func170, Tryz.ntmps170
   go_wp2_with fail;go_ret;exact ⟨by rw [he.out]; rfl, Below.refl _ _⟩
  by_cases h10 : c = 10
  ·have j38 : ((c.toNat : Int) == 38) = false := by rw [show (38 : Int) = ((38 : UInt8).toNat : Int) from rfl, byte_eq, decide_eq_false h38]
   have j60 : ((c.toNat : Int) == 60) = false := by rw [show (60 : Int) = ((60 : UInt8).toNat : Int) from rfl, byte_eq, decide_eq_false h60]
   have j13 : ((c.toNat : Int) == 13) = false := by rw [show (13 : Int) = ((13 : UInt8).toNat : Int) from rfl, byte_eq, decide_eq_false h13]
   have j62 : ((c.toNat : Int) == 62) = false := by rw [show (62 : Int) = ((62 : UInt8).toNat : Int) from rfl, byte_eq, decide_eq_false h62]
   have j34 : ((c.toNat : Int) == 34) = false := by rw [show (34 : Int) = ((34 : UInt8).toNat : Int) from rfl, byte_eq, decide_eq_false h34]
   have j9 : ((c.toNat : Int) == 9) = false := by rw [show (9 : Int) = ((9 : UInt8).toNat : Int) from rfl, byte_eq, decide_eq_false h9]
   have j10 : ((c.toNat : Int) == 10) = true := by rw [h10]; rfl
   have he : Hid (esc1 true c = esc1 true 10) := Hd (by rw [h10]);clear h38 h60 h13 h62 h34 h9 h10
   go_enter Tryz.func170, Tryz.ntmps170
   go_wp2_with fail;go_ret;exact ⟨by rw [he.out]; rfl, Below.refl _ _⟩
  have j38 : ((c.toNat : Int) == 38) = false := by rw [show (38 : Int) = ((38 : UInt8).toNat : Int) from rfl, byte_eq, decide_eq_false h38]
  have j60 : ((c.toNat : Int) == 60) = false := by rw [show (60 : Int) = ((60 : UInt8).toNat : Int) from rfl, byte_eq, decide_eq_false h60]
  have j13 : ((c.toNat : Int) == 13) = false := by rw [show (13 : Int) = ((13 : UInt8).toNat : Int) from rfl, byte_eq, decide_eq_false h13]
  have j62 : ((c.toNat : Int) == 62) = false := by rw [show (62 : Int) = ((62 : UInt8).toNat : Int) from rfl, byte_eq, decide_eq_false h62]
  have j34 : ((c.toNat : Int) == 34) = false := by rw [show (34 : Int) = ((34 : UInt8).toNat : Int) from rfl, byte_eq, decide_eq_false h34]
  have j9 : ((c.toNat : Int) == 9) = false := by rw [show (9 : Int) = ((9 : UInt8).toNat : Int) from rfl, byte_eq, decide_eq_false h9]
  have j10 : ((c.toNat : Int) == 10) = false := by rw [show (10 : Int) = ((10 : UInt8).toNat : Int) from rfl, byte_eq, decide_eq_false h10]
  have he : Hid (esc1 true c = [c]) := Hd (by unfold esc1; simp [h38, h60, h13, h62, h34, h9, h10]);have hbs : Bs (w.alloc (.cells #[.int .u8 (c.toNat : Nat)] 5)) (some ⟨w.heap.size, 0, none⟩) 1 1 [c] := rd_new w [.int .u8 (c.toNat : Nat)] 5 1 rfl (by decide);have hcv := Bs.conv hbs Tryz.underlying81 Tryz.underlying5 Tryz.underlying9;have hba := Hd (below_alloc w (.cells #[.int .u8 (c.toNat : Nat)] 5));clear hbs h38 h60 h13 h62 h34 h9 h10
  go_enter Tryz.func170, Tryz.ntmps170
  go_wp2_with fail;go_ret;exact ⟨by rw [he.out]; rfl, hba.out⟩
theorem esc_append (value : Bool) : ∀ a b : Tx, esc value (a ++ b) = esc value a ++ esc value b
 | [], b => rfl
 | x :: a, b => by rw [List.cons_append, esc, esc_append value a b, esc, List.append_assoc]
theorem esc_next {value : Bool} {s : Tx} {i : Nat} {x : UInt8} (h : s[i]? = some x) : esc value (s.take (i + 1)) = esc value (s.take i) ++ esc1 value x := by
 rw [take_snoc h, esc_append];simp [esc]
theorem esc_take (value : Bool) (s : Tx) (i : Nat) : (esc value (s.take i)).length <= (esc value s).length := by
 have e : esc value s = esc value (s.take i) ++ esc value (s.drop i) := by rw [<- esc_append, List.take_append_drop]
 rw [e, List.length_append];omega
set_option maxHeartbeats 2000000 in
set_option maxRecDepth 100000 in
theorem chars_any (b : Nat) (v : Value) (l s : Tx) (value : Bool) (w : World) (h : Pr b v l w) (hlen : (l ++ esc value s).length <= 100000000000000) (hs9 : s.length <= 100000000000000) :
  Calls Tryz.prog 157 #[.pointer (some ⟨b, 0, none⟩), .string (strOf s), .bool value] w (PrP b v w (l ++ esc value s)) := by
 have hsz : (strOf s).size = s.length := strOf_size' s;obtain ⟨n, hn⟩ : ∃ n, s.length = n := ⟨_, rfl⟩;rw [hn] at hsz hs9;have h' := Hd h;have hn' := Hd hn;have hlen' := Hd hlen;clear h hn hlen
 go_enter Tryz.func157, Tryz.ntmps157
 go_wp2_with fail
 go_loopw [9] (fun vi wr => ∃ i : Nat, i <= n /\ vi = .int .i64 (i : Nat) /\ Hid (∃ v1, Pr b v1 (l ++ esc value (s.take i)) wr /\ Wk b v w v1 wr)) (fun vi _ => n - (intOf vi).toNat)
 case atStart => exact ⟨0, Nat.zero_le _, rfl, Hd ⟨v, by simpa [esc] using h'.out, Wk.refl _ _ _⟩⟩
 case round =>
  obtain ⟨i, hi, rfl, hst⟩ := hrel
  by_cases hlt : i < n
  ·have i1 : decide ((i : Int) < (n : Int)) = true := by simp; omega
   have q1 : (i : Int) < (n : Int) := by omega
   obtain ⟨v1, hp1, hw1⟩ := hst.out;have hx : s[i]? = some (s[i]'(by rw [hn'.out]; exact hlt)) := List.getElem?_eq_getElem _;generalize s[i]'(by rw [hn'.out]; exact hlt) = x at hx;have hlt' : i < (strOf s).size := by omega
   have hgx := str_at hx hlt';have hnext := Hd (esc_next (value := value) hx)
   have hl9 : Hid ((l ++ esc value (s.take i) ++ esc1 value x).length <= 100000000000000) := Hd (by
    have h8 := esc_take value s (i + 1);rw [hnext.out] at h8;have h9 := hlen'.out;simp only [List.length_append] at h8 h9 ⊢
    omega)
   have hp1' := Hd hp1;have hw1' := Hd hw1;clear hp1 hw1 hst hx;go_wp2_with fail;refine (escaped_any x value wr).mono ?_;rintro e w5 ⟨rfl, hb5⟩;obtain ⟨E1, hE1⟩ : ∃ E, esc1 value x = E := ⟨_, rfl⟩;rw [hE1] at hnext hl9 ⊢;have hp5 := hp1'.out.below hb5;have hba := below_alloc w5 (.cells #[.string (strOf E1)] 9);have hp6 := hp5.below hba;have hnn := hp6.ne_new (T := w5.heap.size);have hrd := rd_new w5 [.string (strOf E1)] 9 1 rfl (by decide);have hne5 := hp5.ne_new (Nat.le_refl _);have hpc := Hd (put_any b v1 (l ++ esc value (s.take i)) (w5.alloc (.cells #[.string (strOf E1)] 9)) (some ⟨w5.heap.size, 0, none⟩) 1 1 [E1] hp6 hrd (fun a e _ => by injection e with e; rw [<- e]; exact ⟨hne5.2, hne5.1⟩) (by simpa using hl9.out));have hw6 := Hd (hw1'.out.trans ((Wk.below (v := v1) hb5 (Nat.le_of_lt hp1'.out.lt)).trans (Wk.below hba (Nat.le_of_lt hp5.lt))));clear hb5 hp5 hp6 hba hnn hrd hne5 hE1;go_wp2_with fail;refine hpc.out.mono ?_;rintro e w7 ⟨⟨r, rfl⟩, v2, hp2, hw2⟩;have hfin : Hid (∃ v1, Pr b v1 (l ++ esc value (s.take (i + 1))) w7 /\ Wk b v w v1 w7) := Hd ⟨v2, by rw [hnext.out]; simpa using hp2, hw6.out.trans hw2⟩;clear hp2 hw2;go_wp2_with fail;go_roundw
   case rel => exact ⟨i + 1, by omega, by go_num, hfin⟩
   case measure => simp [intOf]; omega
  ·have hie : i = n := by omega
   subst hie;have i1 : decide ((i : Int) < (i : Int)) = false := by simp
   have hfin : Hid (∃ v1, Pr b v1 (l ++ esc value s) wr /\ Wk b v w v1 wr) := Hd (by
    have h9 := hst.out
    rwa [List.take_of_length_le (by rw [hn'.out]; exact Nat.le_refl _)] at h9)
   go_wp2_with fail
   go_end0
   exact ⟨⟨_, rfl⟩, hfin.out⟩
end Go.Proofs.YtdnfnkicmfkkmaaGreatDoor.Xp
end

section
namespace Go.Proofs.YtdnfnkicmfkkmaaGreatDoor.Xp
open Go.RowKit UtfW Xl Xo Xt
theorem put_lit (b : Nat) (v : Value) (l : Tx) (w : World) (ss : List Tx) (n : Nat) (hn : ss.length = n) (hn9 : n <= 1000) (h : Pr b v l w) (hlen : (l ++ ss.flatten).length <= 100000000000000) :
  Calls Tryz.prog 158 #[.pointer (some ⟨b, 0, none⟩), .slice (some ⟨w.heap.size, 0, none⟩) n n] (w.alloc (.cells (ss.map fun s => Value.string (strOf s)).toArray 9)) (PrP b v w (l ++ ss.flatten)) := by
 have hba := below_alloc w (.cells (ss.map fun s => Value.string (strOf s)).toArray 9);have hp := h.below hba;have hne := h.ne_new (Nat.le_refl _);refine (put_any b v l _ (some ⟨w.heap.size, 0, none⟩) n n ss hp (rd_new w _ _ n (by rw [List.length_map, hn]) (by omega)) (fun a e _ => by injection e with e; rw [<- e]; exact ⟨hne.2, hne.1⟩) hlen).mono ?_;rintro e w' ⟨hr, v', h1, h2⟩;exact ⟨hr, v', h1, (Wk.below hba (Nat.le_of_lt h.lt)).trans h2⟩
theorem writeA_append : ∀ a b : List At, writeA (a ++ b) = writeA a ++ writeA b
 | [], b => rfl
 | x :: a, b => by simp [writeA, writeA_append a b]
theorem writeL_append : ∀ a b : List Nd, writeL (a ++ b) = writeL a ++ writeL b
 | [], b => by rw [writeL]; rfl
 | x :: a, b => by rw [List.cons_append, writeL, writeL_append a b, writeL, List.append_assoc]
theorem writeA_next {l : List At} {i : Nat} {a : At} (h : l[i]? = some a) : writeA (l.take (i + 1)) = writeA (l.take i) ++ ((32 :: a.1 ++ [61, 34]) ++ esc true a.2 ++ [34]) := by
 rw [take_snoc h, writeA_append];simp [writeA]
theorem writeL_next {l : List Nd} {i : Nat} {x : Nd} (h : l[i]? = some x) : writeL (l.take (i + 1)) = writeL (l.take i) ++ writeN x := by
 rw [take_snoc h, writeL_append];simp [writeL]
theorem writeA_take (l : List At) (i : Nat) : (writeA (l.take i)).length <= (writeA l).length := by
 have e : writeA l = writeA (l.take i) ++ writeA (l.drop i) := by rw [<- writeA_append, List.take_append_drop]
 rw [e, List.length_append];omega
theorem writeL_take (l : List Nd) (i : Nat) : (writeL (l.take i)).length <= (writeL l).length := by
 have e : writeL l = writeL (l.take i) ++ writeL (l.drop i) := by rw [<- writeL_append, List.take_append_drop]
 rw [e, List.length_append];omega
theorem esc1_pos (v : Bool) (c : UInt8) : 1 <= (esc1 v c).length := by
 unfold esc1
 repeat (first | split | simp)
theorem esc_ge (v : Bool) : ∀ s : Tx, s.length <= (esc v s).length
 | [] => Nat.le_refl _
 | c :: s => by
  have := esc_ge v s;have := esc1_pos v c;rw [esc, List.length_cons, List.length_append];omega
theorem sq_low {α : Type} {El : World -> List Value -> α -> Prop} {k : Nat} {w w' : World} {A : Option Addr} {n c b : Nat} {l : List α} {X : Nat -> Prop} (h : Sq El k w A n c l) (hX : ∀ a, A = some a -> 0 < n -> X a.block) (hb : ∀ j, X j -> j < b) (hbel : Below b w w') (hE : ∀ vs x, El w vs x -> El w' vs x) : Sq El k w' A n c l :=
 Sq.stay h (fun a e hn => hbel.block _ (hb _ (hX a e hn))) hE
def elT (nm : Tx) (as_ : List At) (ks : List Nd) : Tx := 60 :: nm ++ writeA as_ ++ (if ks.isEmpty then [47, 62] else [62] ++ writeL ks ++ ([60, 47] ++ nm ++ [62]))
section
variable (b : Nat) (X : Nat -> Prop) (hX : ∀ j, X j -> j < b)
include hX
set_option maxHeartbeats 8000000 in
set_option maxRecDepth 100000 in
theorem element_any (v : Value) (l : Tx) (w : World) (vs : List Value) (kd : Int) (nm tx : Tx) (as_ : List At) (ks : List Nd) (h : Pr b v l w) (hn : NdI X w vs (.mk kd nm tx as_ ks)) (hlen : (l ++ elT nm as_ ks).length <= 100000000000000)
  (hK : ∀ (i : Nat) x, ks[i]? = some x -> ∀ (v : Value) (l : Tx) (w : World) (vs : List Value), Pr b v l w -> NdI X w vs x -> (l ++ writeN x).length <= 100000000000000 -> Calls Tryz.prog 149 #[.pointer (some ⟨b, 0, none⟩), .agg vs.toArray] w (PrP b v w (l ++ writeN x))) :
  Calls Tryz.prog 156 #[.pointer (some ⟨b, 0, none⟩), .agg vs.toArray] w (PrP b v w (l ++ elT nm as_ ks)) := by
 obtain ⟨A, ca, A2, c2, rfl, hA, hKs, hXA, hXK⟩ := hn.cells;have hlm : ks.length <= 9223372036854775807 := Nat.le_trans hKs.le hKs.max;have hll : as_.length <= 9223372036854775807 := Nat.le_trans hA.le hA.max;obtain ⟨m, hm⟩ : ∃ m, ks.length = m := ⟨_, rfl⟩;obtain ⟨la, hla⟩ : ∃ la, as_.length = la := ⟨_, rfl⟩;rw [hm] at hKs hXK hlm;rw [hla] at hA hXA hll;rw [hm, hla];have hba := below_alloc w (.cells #[.int .i64 kd, .string (strOf nm), .string (strOf tx), .slice A la ca, .slice A2 m c2] 26);have hnb := heap_alloc_new w (.cells #[.int .i64 kd, .string (strOf nm), .string (strOf tx), .slice A la ca, .slice A2 m c2] 26);have hne := h.ne_new (Nat.le_refl _);obtain ⟨T, hT⟩ : ∃ T, w.heap.size = T := ⟨_, rfl⟩;obtain ⟨w1, hw1⟩ : ∃ w1, w.alloc (.cells #[.int .i64 kd, .string (strOf nm), .string (strOf tx), .slice A la ca, .slice A2 m c2] 26) = w1 := ⟨_, rfl⟩;rw [hw1] at hba hnb;rw [hT] at hnb hne;have hp1 := Hd (h.below hba);have hw01 : Hid (Wk b v w v w1) := Hd (Wk.below hba (Nat.le_of_lt h.lt));have hw1r : Hid (Wk b v w1 v w1) := Hd (Wk.refl _ _ _);have hTl : T < w1.heap.size := (Array.getElem?_eq_some_iff.1 hnb).1;have hbox : Hid (∀ v' w', Wk b v w1 v' w' -> w'.heap[T]? = some (.cells #[.int .i64 kd, .string (strOf nm), .string (strOf tx), .slice A la ca, .slice A2 m c2] 26)) := Hd fun v' w' hk => hk.box hnb hne.2 hne.1
 have hlow : Hid (∀ v' w', Wk b v w1 v' w' -> Below b w w') := Hd fun v' w' hk => (hba.mono (Nat.le_of_lt h.lt)).trans hk.bel
 have hAH := Hd hA;have hKH := Hd hKs;have hXAH := Hd hXA;have hXKH := Hd hXK;have hKK := Hd hK;have hXH := Hd hX;have hlenH := Hd hlen;have hnmH := Hd hm;have hlaH := Hd hla;have x1 : w1.cell? ⟨T, 1, none⟩ = some (.string (strOf nm)) := Xp.cell_blk hnb rfl;clear h hn hA hKs hXA hXK hK hX hlen hm hla hba hnb hne
 have hl0 : Hid ((l ++ 60 :: nm).length + (writeA as_).length <= 100000000000000) := Hd (by
  have h9 := hlenH.out;unfold elT at h9;simp only [List.length_append, List.length_cons] at h9 ⊢
  omega)
 go_enter Tryz.func156, Tryz.ntmps156
 have hpc := Hd (show Calls Tryz.prog 158 #[.pointer (some ⟨b, 0, none⟩), .slice (some ⟨w1.heap.size, 0, none⟩) 2 2] (w1.alloc (.cells #[.string ⟨#[60]⟩, .string (strOf nm)] 9)) (PrP b v w1 (l ++ ([[60], nm] : List Tx).flatten)) from put_lit b v (l) w1 [[60], nm] 2 rfl (by decide) hp1.out (by have h9 := hl0.out; simp only [List.length_append, List.flatten_cons, List.flatten_nil, List.length_cons, List.length_nil] at h9 ⊢; omega));go_wp2_with fail;refine hpc.out.mono ?_;rintro e w2 ⟨⟨r, rfl⟩, v2, hp9, hw9⟩;have hp2 := Hd hp9;have hw2 := Hd (hw1r.out.trans hw9);clear hp9 hw9 hpc;have hf2 : ([[60], nm] : List Tx).flatten = 60 :: nm := by simp
 rw [hf2] at hp2;clear hf2;have hT2 := hbox.out _ _ hw2.out;have x3 : w2.cell? ⟨T, 3, none⟩ = some (.slice A la ca) := Xp.cell_blk hT2 rfl;clear hT2 x1;go_wp2_with fail
 go_loopw [16] (fun vi wr => ∃ i : Nat, i <= la /\ vi = .int .i64 (i : Nat) /\ Hid (∃ v1, Pr b v1 (l ++ 60 :: nm ++ writeA (as_.take i)) wr /\ Wk b v w1 v1 wr)) (fun vi _ => la - (intOf vi).toNat)
 case atStart => exact ⟨0, Nat.zero_le _, rfl, Hd ⟨v2, by simpa [writeA] using hp2.out, hw2.out⟩⟩
 case round =>
  clear x3 hp2 hw2;obtain ⟨i, hi, rfl, hst⟩ := hrel
  by_cases hlt : i < la
  ·have i1 : decide ((i : Int) < (la : Int)) = true := by simp; omega
   have q1 : (i : Int) < (la : Int) := by omega
   obtain ⟨v3, hp3, hw3⟩ := hst.out;have hAr := sq_low hAH.out hXAH.out hXH.out (hlow.out _ _ hw3) (fun _ _ h => h);obtain ⟨b1, off1, ax, vs1, rfl, _, hx1, _, hv1, hc1⟩ := hAr.at_ hlt;unfold AtEl at hv1;subst hv1;obtain ⟨a1, a2⟩ := ax;have m0 := hc1 0 _ rfl;have m1 := hc1 1 _ rfl;rw [Nat.add_zero] at m0;have hnx := Hd (writeA_next hx1)
   have hl9 : Hid ((l ++ 60 :: nm ++ writeA (as_.take i) ++ ((32 :: a1 ++ [61, 34]) ++ esc true a2 ++ [34])).length <= 100000000000000) := Hd (by
    have h8 := writeA_take as_ (i + 1);rw [hnx.out] at h8;have h9 := hl0.out;simp only [List.length_append] at h8 h9 ⊢
    omega)
   have hbt := below_alloc wr (.cells #[.string (strOf a1), .string (strOf a2)] 68);have hnt := heap_alloc_new wr (.cells #[.string (strOf a1), .string (strOf a2)] 68);have hne3 := hp3.ne_new (Nat.le_refl _);obtain ⟨T5, hT5⟩ : ∃ T5, wr.heap.size = T5 := ⟨_, rfl⟩;have hp4 := Hd (hp3.below hbt);have hw4 := Hd (hw3.trans (Wk.below hbt (Nat.le_of_lt hp3.lt)));obtain ⟨wa, hwa⟩ : ∃ wa, wr.alloc (.cells #[.string (strOf a1), .string (strOf a2)] 68) = wa := ⟨_, rfl⟩;rw [hwa] at hp4 hw4 hnt hbt;rw [hT5] at hnt hne3;have y0 : wa.cell? ⟨T5, 0, none⟩ = some (.string (strOf a1)) := Xp.cell_blk hnt rfl;have hbox5 : Hid (∀ v' w', Wk b v3 wa v' w' -> w'.heap[T5]? = some (.cells #[.string (strOf a1), .string (strOf a2)] 68)) := Hd fun v' w' hk => hk.box hnt hne3.2 hne3.1
   have hwar : Hid (Wk b v3 wa v3 wa) := Hd (Wk.refl _ _ _);clear hst hp3 hw3 hAr hc1 hx1 hbt hnt hne3;have hpc := Hd (show Calls Tryz.prog 158 #[.pointer (some ⟨b, 0, none⟩), .slice (some ⟨wa.heap.size, 0, none⟩) 3 3] (wa.alloc (.cells #[.string ⟨#[32]⟩, .string (strOf a1), .string ⟨#[61, 34]⟩] 9)) (PrP b v3 wa (l ++ 60 :: nm ++ writeA (as_.take i) ++ ([[32], a1, [61, 34]] : List Tx).flatten)) from put_lit b v3 (l ++ 60 :: nm ++ writeA (as_.take i)) wa [[32], a1, [61, 34]] 3 rfl (by decide) hp4.out (by have h9 := hl9.out; simp only [List.length_append, List.flatten_cons, List.flatten_nil, List.length_cons, List.length_nil] at h9 ⊢; omega));go_wp2_with fail;refine hpc.out.mono ?_;rintro e w5 ⟨⟨r, rfl⟩, v5, hp9, hw9⟩;have hp5 := Hd hp9;have hw5 := Hd (hwar.out.trans hw9);clear hp9 hw9 hpc;have hT6 := hbox5.out _ _ hw5.out;have y1 : w5.cell? ⟨T5, 1, none⟩ = some (.string (strOf a2)) := Xp.cell_blk hT6 rfl;have hch := Hd (chars_any b v5 _ a2 true w5 hp5.out (by have h9 := hl9.out; simp only [List.length_append, List.flatten_cons, List.flatten_nil, List.length_cons, List.length_nil] at h9 ⊢; omega) (by have h9 := hl9.out; have h8 := esc_ge true a2; simp only [List.length_append] at h9; omega));clear hT6 y0;go_wp2_with fail;refine hch.out.mono ?_;rintro e w6 ⟨⟨r, rfl⟩, v6, hp9, hw9⟩;have hp6 := Hd hp9;have hw6 := Hd (hw5.out.trans hw9);clear hp9 hw9 hch y1
   have hpc := Hd (show Calls Tryz.prog 158 #[.pointer (some ⟨b, 0, none⟩), .slice (some ⟨w6.heap.size, 0, none⟩) 1 1] (w6.alloc (.cells #[.string ⟨#[34]⟩] 9)) (PrP b v6 w6 (l ++ 60 :: nm ++ writeA (as_.take i) ++ ([[32], a1, [61, 34]] : List Tx).flatten ++ esc true a2 ++ ([[34]] : List Tx).flatten)) from put_lit b v6 (l ++ 60 :: nm ++ writeA (as_.take i) ++ ([[32], a1, [61, 34]] : List Tx).flatten ++ esc true a2) w6 [[34]] 1 rfl (by decide) hp6.out (by have h9 := hl9.out; simp only [List.length_append, List.flatten_cons, List.flatten_nil, List.length_cons, List.length_nil] at h9 ⊢; omega));go_wp2_with fail;refine hpc.out.mono ?_;rintro e w7 ⟨⟨r, rfl⟩, v7, hp9, hw9⟩;have hp7 := Hd hp9;have hw7 := Hd (hw6.out.trans hw9);clear hp9 hw9 hpc
   have hfin : Hid (∃ v1, Pr b v1 (l ++ 60 :: nm ++ writeA (as_.take (i + 1))) w7 /\ Wk b v w1 v1 w7) := Hd ⟨v7, by
    have h9 := hp7.out;rw [hnx.out]
    simpa using h9, hw4.out.trans hw7.out⟩
   clear hp7 hw7 hp6 hw6 hp5 hw5;go_wp2_with fail;go_roundw
   case rel => exact ⟨i + 1, by omega, by go_num, hfin⟩
   case measure => simp [intOf]; omega
  ·have hie : i = la := by omega
   subst hie;have i1 : decide ((i : Int) < (i : Int)) = false := by simp
   obtain ⟨v3, hp3, hw3⟩ := hst.out;rw [List.take_of_length_le (by rw [hlaH.out]; exact Nat.le_refl _)] at hp3;have hT3 := hbox.out _ _ hw3;have x4 : wr.cell? ⟨T, 4, none⟩ = some (.slice A2 m c2) := Xp.cell_blk hT3 rfl;have x1 : wr.cell? ⟨T, 1, none⟩ = some (.string (strOf nm)) := Xp.cell_blk hT3 rfl;replace hp3 := Hd hp3;replace hw3 := Hd hw3;clear hst hT3
   by_cases hm0 : m = 0
   ·subst hm0
    have hel : elT nm as_ ks = 60 :: nm ++ writeA as_ ++ [47, 62] := by
     unfold elT;rw [if_pos (by rw [List.isEmpty_iff]; exact List.eq_nil_of_length_eq_zero hnmH.out)]
    have hlen9 := hlenH.out;rw [hel] at hlen9;replace hel := Hd hel;replace hlen9 := Hd hlen9;have hpc := Hd (show Calls Tryz.prog 158 #[.pointer (some ⟨b, 0, none⟩), .slice (some ⟨wr.heap.size, 0, none⟩) 1 1] (wr.alloc (.cells #[.string ⟨#[47, 62]⟩] 9)) (PrP b v3 wr (l ++ 60 :: nm ++ writeA as_ ++ ([[47, 62]] : List Tx).flatten)) from put_lit b v3 (l ++ 60 :: nm ++ writeA as_) wr [[47, 62]] 1 rfl (by decide) hp3.out (by have h9 := hlen9.out; simp only [List.length_append, List.flatten_cons, List.flatten_nil, List.length_cons, List.length_nil] at h9 ⊢; omega));go_wp2_with fail;refine hpc.out.mono ?_;rintro e w4 ⟨⟨r, rfl⟩, v4, hp9, hw9⟩;have hp4 := Hd hp9;have hw4 := Hd (hw3.out.trans hw9);clear hp9 hw9 hpc;clear x4 x1;go_wp2_with fail
    go_end0
    exact ⟨⟨_, rfl⟩, v4, by rw [hel.out]; simpa using hp4.out, hw01.out.trans hw4.out⟩
   ·have i2 : ((m : Int) == 0) = false := by simp; omega
    have hel : elT nm as_ ks = 60 :: nm ++ writeA as_ ++ ([62] ++ writeL ks ++ ([60, 47] ++ nm ++ [62])) := by
     unfold elT;rw [if_neg (by rw [List.isEmpty_iff]; intro e; rw [e] at hnmH; exact hm0 hnmH.out.symm)]
    have hlen9 := hlenH.out;rw [hel] at hlen9;replace hel := Hd hel;replace hlen9 := Hd hlen9;replace hm0 := Hd hm0;have hpc := Hd (show Calls Tryz.prog 158 #[.pointer (some ⟨b, 0, none⟩), .slice (some ⟨wr.heap.size, 0, none⟩) 1 1] (wr.alloc (.cells #[.string ⟨#[62]⟩] 9)) (PrP b v3 wr (l ++ 60 :: nm ++ writeA as_ ++ ([[62]] : List Tx).flatten)) from put_lit b v3 (l ++ 60 :: nm ++ writeA as_) wr [[62]] 1 rfl (by decide) hp3.out (by have h9 := hlen9.out; simp only [List.length_append, List.flatten_cons, List.flatten_nil, List.length_cons, List.length_nil] at h9 ⊢; omega));go_wp2_with fail;refine hpc.out.mono ?_;rintro e w4 ⟨⟨r, rfl⟩, v4, hp9, hw9⟩;have hp4 := Hd hp9;have hw4 := Hd (hw3.out.trans hw9);clear hp9 hw9 hpc;have hT4 := hbox.out _ _ hw4.out;have x4' : w4.cell? ⟨T, 4, none⟩ = some (.slice A2 m c2) := Xp.cell_blk hT4 rfl;clear x4 x1 hT4
    have hl1 : Hid ((l ++ 60 :: nm ++ writeA as_ ++ [62]).length + (writeL ks).length <= 100000000000000) := Hd (by
     have h9 := hlen9.out;simp only [List.length_append, List.length_cons, List.length_nil] at h9 ⊢
     omega)
    go_wp2_with fail
    go_loopw [46] (fun vi wr => ∃ j : Nat, j <= m /\ vi = .int .i64 (j : Nat) /\ Hid (∃ v1, Pr b v1 (l ++ 60 :: nm ++ writeA as_ ++ [62] ++ writeL (ks.take j)) wr /\ Wk b v w1 v1 wr)) (fun vi _ => m - (intOf vi).toNat)
    case atStart => exact ⟨0, Nat.zero_le _, rfl, Hd ⟨v4, by simpa [writeL] using hp4.out, hw4.out⟩⟩
    case round =>
     clear x4' hp4 hw4 hp3 hw3;obtain ⟨j, hj, rfl, hst⟩ := hrel
     by_cases hlt : j < m
     ·have i1 : decide ((j : Int) < (m : Int)) = true := by simp; omega
      have q1 : (j : Int) < (m : Int) := (by omega);obtain ⟨v5, hp5, hw5⟩ := hst.out;have hKr := sq_low hKH.out hXKH.out hXH.out (hlow.out _ _ hw5) (fun vs x h => NdI.stay h fun k hk => ⟨hk, (hlow.out _ _ hw5).block k (hXH.out k hk)⟩);obtain ⟨b1, off1, x, vs1, rfl, _, hx1, _, hv1, hc1⟩ := hKr.at_ hlt;have hkk := hKK.out j x hx1;have hnx := Hd (writeL_next hx1)
      have hl9 : (l ++ 60 :: nm ++ writeA as_ ++ [62] ++ writeL (ks.take j) ++ writeN x).length <= 100000000000000 := by
       have h8 := writeL_take ks (j + 1);rw [hnx.out] at h8;have h9 := hl1.out;simp only [List.length_append] at h8 h9 ⊢;omega
      obtain ⟨kx, nx_, tx_, ax, kx_⟩ := x;obtain ⟨Ax, cax, A2x, c2x, rfl, -⟩ := hv1.cells;have m0 := hc1 0 _ rfl;have m1 := hc1 1 _ rfl;have m2 := hc1 2 _ rfl;have m3 := hc1 3 _ rfl;have m4 := hc1 4 _ rfl;rw [Nat.add_zero] at m0;have hbt := below_alloc wr (.cells #[.int .i64 kx, .string (strOf nx_), .string (strOf tx_), .slice Ax ax.length cax, .slice A2x kx_.length c2x] 26);have hp6 := hp5.below hbt;have hw6 := Hd (hw5.trans (Wk.below hbt (Nat.le_of_lt hp5.lt)));have hrec := Hd (hkk v5 _ (wr.alloc (.cells #[.int .i64 kx, .string (strOf nx_), .string (strOf tx_), .slice Ax ax.length cax, .slice A2x kx_.length c2x] 26)) _ hp6 (NdI.stay hv1 fun k hk => ⟨hk, hbt.block k (Nat.lt_trans (hXH.out k hk) hp5.lt)⟩) hl9);clear hst hp5 hw5 hKr hc1 hx1 hbt hp6 hkk hl9 hv1;go_wp2_with fail;refine hrec.out.mono ?_;rintro e w7 ⟨⟨r, rfl⟩, v7, hp9, hw9⟩
      have hfin : Hid (∃ v1, Pr b v1 (l ++ 60 :: nm ++ writeA as_ ++ [62] ++ writeL (ks.take (j + 1))) w7 /\ Wk b v w1 v1 w7) := Hd ⟨v7, by
       rw [hnx.out]
       simpa using hp9, hw6.out.trans hw9⟩
      clear hp9 hw9 m0 m1 m2 m3 m4;go_wp2_with fail;go_roundw
      case rel => exact ⟨j + 1, by omega, by go_num, hfin⟩
      case measure => simp [intOf]; omega
     ·have hie : j = m := (by omega);subst hie;have i1 : decide ((j : Int) < (j : Int)) = false := (by simp);obtain ⟨v5, hp5, hw5⟩ := hst.out;rw [List.take_of_length_le (by rw [hnmH.out]; exact Nat.le_refl _)] at hp5;have hT5 := hbox.out _ _ hw5;have x1 : wr.cell? ⟨T, 1, none⟩ = some (.string (strOf nm)) := Xp.cell_blk hT5 rfl;replace hp5 := Hd hp5;replace hw5 := Hd hw5;clear hst hT5;have hpc := Hd (show Calls Tryz.prog 158 #[.pointer (some ⟨b, 0, none⟩), .slice (some ⟨wr.heap.size, 0, none⟩) 3 3] (wr.alloc (.cells #[.string ⟨#[60, 47]⟩, .string (strOf nm), .string ⟨#[62]⟩] 9)) (PrP b v5 wr (l ++ 60 :: nm ++ writeA as_ ++ [62] ++ writeL ks ++ ([[60, 47], nm, [62]] : List Tx).flatten)) from put_lit b v5 (l ++ 60 :: nm ++ writeA as_ ++ [62] ++ writeL ks) wr [[60, 47], nm, [62]] 3 rfl (by decide) hp5.out (by have h9 := hlen9.out; simp only [List.length_append, List.flatten_cons, List.flatten_nil, List.length_cons, List.length_nil] at h9 ⊢; omega));go_wp2_with fail;refine hpc.out.mono ?_;rintro e w8 ⟨⟨r, rfl⟩, v8, hp9, hw9⟩;have hp8 := Hd hp9;have hw8 := Hd (hw5.out.trans hw9);clear hp9 hw9 hpc;clear x1;go_wp2_with fail
      go_end0
      exact ⟨⟨_, rfl⟩, v8, by rw [hel.out]; simpa using hp8.out, hw01.out.trans hw8.out⟩
end
end Go.Proofs.YtdnfnkicmfkkmaaGreatDoor.Xp
end

section
namespace Go.Proofs.YtdnfnkicmfkkmaaGreatDoor.Xp
open Go.RowKit UtfW Xl Xo Xt
set_option maxHeartbeats 8000000 in
set_option maxRecDepth 100000 in
theorem node_any (b : Nat) (X : Nat -> Prop) (hX : ∀ j, X j -> j < b) : ∀ (k : Nat) (n : Nd) (v : Value) (l : Tx) (w : World) (vs : List Value), SizeOf.sizeOf n <= k -> Pr b v l w -> NdI X w vs n -> (l ++ writeN n).length <= 100000000000000 →
  Calls Tryz.prog 149 #[.pointer (some ⟨b, 0, none⟩), .agg vs.toArray] w (PrP b v w (l ++ writeN n)) := by
 intro k
 induction k with
 | zero =>
  intro n v l w vs hk;obtain ⟨kd, nm, tx, as_, ks⟩ := n;simp at hk
 | succ k ih =>
  intro n v l w vs hk h hn hlen;obtain ⟨kd, nm, tx, as_, ks⟩ := n;obtain ⟨A, ca, A2, c2, rfl, -⟩ := hn.cells;obtain ⟨S1, hS1⟩ : ∃ S, strOf nm = S := ⟨_, rfl⟩;obtain ⟨S2, hS2⟩ : ∃ S, strOf tx = S := ⟨_, rfl⟩;rw [hS1, hS2] at hn ⊢;have hba := below_alloc w (.cells #[.int .i64 kd, .string S1, .string S2, .slice A as_.length ca, .slice A2 ks.length c2] 26);have hnb := heap_alloc_new w (.cells #[.int .i64 kd, .string S1, .string S2, .slice A as_.length ca, .slice A2 ks.length c2] 26);have hne := h.ne_new (Nat.le_refl _);obtain ⟨T, hT⟩ : ∃ T, w.heap.size = T := ⟨_, rfl⟩;obtain ⟨w1, hw1⟩ : ∃ w1, w.alloc (.cells #[.int .i64 kd, .string S1, .string S2, .slice A as_.length ca, .slice A2 ks.length c2] 26) = w1 := ⟨_, rfl⟩;rw [hw1] at hba hnb;rw [hT] at hnb hne;have hp1 := Hd (h.below hba);have hw01 : Hid (Wk b v w v w1) := Hd (Wk.below hba (Nat.le_of_lt h.lt));have hw1r : Hid (Wk b v w1 v w1) := Hd (Wk.refl _ _ _);have hbox : Hid (∀ v' w', Wk b v w1 v' w' -> w'.heap[T]? = some (.cells #[.int .i64 kd, .string S1, .string S2, .slice A as_.length ca, .slice A2 ks.length c2] 26)) := Hd fun v' w' hk => hk.box hnb hne.2 hne.1
  have x0 : w1.cell? ⟨T, 0, none⟩ = some (.int .i64 kd) := Xp.cell_blk hnb rfl;have x1 : w1.cell? ⟨T, 1, none⟩ = some (.string S1) := Xp.cell_blk hnb rfl;have x2 : w1.cell? ⟨T, 2, none⟩ = some (.string S2) := Xp.cell_blk hnb rfl;have x3 : w1.cell? ⟨T, 3, none⟩ = some (.slice A as_.length ca) := Xp.cell_blk hnb rfl;have x4 : w1.cell? ⟨T, 4, none⟩ = some (.slice A2 ks.length c2) := Xp.cell_blk hnb rfl;have hn1 := Hd (NdI.stay hn fun k hk => ⟨hk, hba.block k (Nat.lt_trans (hX k hk) h.lt)⟩)
  have hkid : Hid (∀ (i : Nat) x, ks[i]? = some x -> SizeOf.sizeOf x <= k) := Hd fun i x hx => by
   have := kid_lt (k := kd) (nm := nm) (tx := tx) (as_ := as_) hx;omega
  have hlenH := Hd hlen;have ihH := Hd ih;clear h hn hlen hba hnb hne hk ih
  by_cases h1 : kd = 1
  ·subst h1
   have he : writeN (.mk 1 nm tx as_ ks) = elT nm as_ ks := by
    rw [writeN, if_pos rfl];rfl
   have hlen9 := hlenH.out;rw [he] at hlen9 ⊢;have hec := Hd (element_any b X hX v l w1 _ 1 nm tx as_ ks hp1.out (by have h9 := hn1.out; rw [<- hS1, <- hS2] at h9; exact h9) hlen9 (fun i x hx v l w vs h1 h2 h3 => ihH.out x v l w vs (hkid.out i x hx) h1 h2 h3));rw [hS1, hS2] at hec;have k0 : ((1 : Int) == 1) = true := rfl;clear hlen9 he hS1 hS2
   go_enter Tryz.func149, Tryz.ntmps149
   go_wp2_with fail;refine hec.out.mono ?_;rintro e w5 ⟨⟨r, rfl⟩, v5, hp9, hw9⟩;have hfin : Hid (Pr b v5 (l ++ elT nm as_ ks) w5 /\ Wk b v w v5 w5) := Hd ⟨hp9, hw01.out.trans hw9⟩;clear hp9 hw9;go_wp2_with fail
   go_end0
   exact ⟨⟨_, rfl⟩, v5, hfin.out⟩
  have k1 : (kd == 1) = false := by simpa using h1
  by_cases h2 : kd = 2
  ·subst h2
   have he : writeN (.mk 2 nm tx as_ ks) = esc false tx := by
    rw [writeN, if_neg (by decide), if_pos rfl]
   have hlen9 := hlenH.out;rw [he] at hlen9 ⊢;have hec := Hd (chars_any b v l tx false w1 hp1.out hlen9 (by have h9 := hlen9; have h8 := esc_ge false tx; rw [List.length_append] at h9; omega));rw [hS2] at hec;have k0 : ((2 : Int) == 2) = true := rfl;clear hlen9 he hS1 hS2 h1
   go_enter Tryz.func149, Tryz.ntmps149
   go_wp2_with fail;refine hec.out.mono ?_;rintro e w5 ⟨⟨r, rfl⟩, v5, hp9, hw9⟩;have hfin : Hid (Pr b v5 (l ++ esc false tx) w5 /\ Wk b v w v5 w5) := Hd ⟨hp9, hw01.out.trans hw9⟩;clear hp9 hw9;go_wp2_with fail
   go_end0
   exact ⟨⟨_, rfl⟩, v5, hfin.out⟩
  have k2 : (kd == 2) = false := by simpa using h2
  by_cases h3 : kd = 3
  ·subst h3
   have he : writeN (.mk 3 nm tx as_ ks) = [60, 33, 45, 45] ++ tx ++ [45, 45, 62] := by
    rw [writeN, if_neg (by decide), if_neg (by decide), if_pos rfl]
   have hlen9 := hlenH.out;rw [he] at hlen9 ⊢;have k0 : ((3 : Int) == 3) = true := rfl;replace hlen9 := Hd hlen9;rw [<- hS2] at x2 hbox;clear he hS1 hS2 h1 h2
   go_enter Tryz.func149, Tryz.ntmps149
   have hpc := Hd (show Calls Tryz.prog 158 #[.pointer (some ⟨b, 0, none⟩), .slice (some ⟨w1.heap.size, 0, none⟩) 3 3] (w1.alloc (.cells #[.string ⟨#[60, 33, 45, 45]⟩, .string (strOf tx), .string ⟨#[45, 45, 62]⟩] 9)) (PrP b v w1 (l ++ ([[60, 33, 45, 45], tx, [45, 45, 62]] : List Tx).flatten)) from put_lit b v (l) w1 [[60, 33, 45, 45], tx, [45, 45, 62]] 3 rfl (by decide) hp1.out (by have h9 := hlen9.out; simp only [List.length_append, List.flatten_cons, List.flatten_nil, List.length_cons, List.length_nil] at h9 ⊢; omega));go_wp2_with fail;refine hpc.out.mono ?_;rintro e w5 ⟨⟨r, rfl⟩, v5, hp9, hw9⟩;have hp5 := Hd hp9;have hw5 := Hd (hw1r.out.trans hw9);clear hp9 hw9 hpc;clear x0 x1 x2 x3 x4;go_wp2_with fail
   go_end0
   exact ⟨⟨_, rfl⟩, v5, by simpa using hp5.out, hw01.out.trans hw5.out⟩
  have k3 : (kd == 3) = false := by simpa using h3
  by_cases h4 : kd = 4
  ·subst h4
   have he : writeN (.mk 4 nm tx as_ ks) = [60, 63] ++ nm ++ (if tx = [] then [] else 32 :: tx) ++ [63, 62] := by
    rw [writeN, if_neg (by decide), if_neg (by decide), if_neg (by decide), if_pos rfl]
   have hlen9 := hlenH.out;rw [he] at hlen9 ⊢;have k0 : ((4 : Int) == 4) = true := rfl;replace hlen9 := Hd hlen9;rw [<- hS1] at x1 hbox;clear he h1 h2 h3
   have hl1 : Hid ((l ++ ([60, 63] ++ nm)).length <= 100000000000000) := Hd (by
    have h9 := hlen9.out;simp only [List.length_append] at h9 ⊢
    omega)
   by_cases ht : tx = []
   ·have e9 : S2.toList.isEmpty = true := by rw [<- hS2, strOf_empty, ht]; rfl
    rw [if_pos ht] at hlen9 ⊢;replace ht := Hd ht;clear hS1 hS2
    go_enter Tryz.func149, Tryz.ntmps149
    have hpc := Hd (show Calls Tryz.prog 158 #[.pointer (some ⟨b, 0, none⟩), .slice (some ⟨w1.heap.size, 0, none⟩) 2 2] (w1.alloc (.cells #[.string ⟨#[60, 63]⟩, .string (strOf nm)] 9)) (PrP b v w1 (l ++ ([[60, 63], nm] : List Tx).flatten)) from put_lit b v (l) w1 [[60, 63], nm] 2 rfl (by decide) hp1.out (by have h9 := hl1.out; simp only [List.length_append, List.flatten_cons, List.flatten_nil, List.length_cons, List.length_nil] at h9 ⊢; omega));go_wp2_with fail;refine hpc.out.mono ?_;rintro e w5 ⟨⟨r, rfl⟩, v5, hp9, hw9⟩;have hp5 := Hd hp9;have hw5 := Hd (hw1r.out.trans hw9);clear hp9 hw9 hpc;have hT5 := hbox.out _ _ hw5.out;have y2 : w5.cell? ⟨T, 2, none⟩ = some (.string S2) := Xp.cell_blk hT5 rfl;clear x0 x1 x2 x3 x4 hT5;have hpc := Hd (show Calls Tryz.prog 158 #[.pointer (some ⟨b, 0, none⟩), .slice (some ⟨w5.heap.size, 0, none⟩) 1 1] (w5.alloc (.cells #[.string ⟨#[63, 62]⟩] 9)) (PrP b v5 w5 (l ++ ([[60, 63], nm] : List Tx).flatten ++ ([[63, 62]] : List Tx).flatten)) from put_lit b v5 (l ++ ([[60, 63], nm] : List Tx).flatten) w5 [[63, 62]] 1 rfl (by decide) hp5.out (by have h9 := hlen9.out; simp only [List.length_append, List.flatten_cons, List.flatten_nil, List.length_cons, List.length_nil] at h9 ⊢; omega));go_wp2_with fail;refine hpc.out.mono ?_;rintro e w6 ⟨⟨r, rfl⟩, v6, hp9, hw9⟩;have hp6 := Hd hp9;have hw6 := Hd (hw5.out.trans hw9);clear hp9 hw9 hpc;clear y2;go_wp2_with fail
    go_end0
    exact ⟨⟨_, rfl⟩, v6, by simpa using hp6.out, hw01.out.trans hw6.out⟩
   ·have e9 : S2.toList.isEmpty = false := by
     rw [<- hS2, strOf_empty]
     cases tx with
     | nil => exact absurd rfl ht
     | cons _ _ => rfl
    rw [if_neg ht] at hlen9 ⊢;replace ht := Hd ht;have hS2H := Hd hS2;clear hS1 hS2
    go_enter Tryz.func149, Tryz.ntmps149
    have hpc := Hd (show Calls Tryz.prog 158 #[.pointer (some ⟨b, 0, none⟩), .slice (some ⟨w1.heap.size, 0, none⟩) 2 2] (w1.alloc (.cells #[.string ⟨#[60, 63]⟩, .string (strOf nm)] 9)) (PrP b v w1 (l ++ ([[60, 63], nm] : List Tx).flatten)) from put_lit b v (l) w1 [[60, 63], nm] 2 rfl (by decide) hp1.out (by have h9 := hl1.out; simp only [List.length_append, List.flatten_cons, List.flatten_nil, List.length_cons, List.length_nil] at h9 ⊢; omega));go_wp2_with fail;refine hpc.out.mono ?_;rintro e w5 ⟨⟨r, rfl⟩, v5, hp9, hw9⟩;have hp5 := Hd hp9;have hw5 := Hd (hw1r.out.trans hw9);clear hp9 hw9 hpc;have hT5 := hbox.out _ _ hw5.out;have y2 : w5.cell? ⟨T, 2, none⟩ = some (.string S2) := Xp.cell_blk hT5 rfl;clear x0 x1 x2 x3 x4 hT5;have hpc := Hd (show Calls Tryz.prog 158 #[.pointer (some ⟨b, 0, none⟩), .slice (some ⟨w5.heap.size, 0, none⟩) 2 2] (w5.alloc (.cells #[.string ⟨#[32]⟩, .string S2] 9)) (PrP b v5 w5 (l ++ ([[60, 63], nm] : List Tx).flatten ++ ([[32], tx] : List Tx).flatten)) from hS2H.out ▸ put_lit b v5 (l ++ ([[60, 63], nm] : List Tx).flatten) w5 [[32], tx] 2 rfl (by decide) hp5.out (by have h9 := hlen9.out; simp only [List.length_append, List.flatten_cons, List.flatten_nil, List.length_cons, List.length_nil] at h9 ⊢; omega));go_wp2_with fail;refine hpc.out.mono ?_;rintro e w6 ⟨⟨r, rfl⟩, v6, hp9, hw9⟩;have hp6 := Hd hp9;have hw6 := Hd (hw5.out.trans hw9);clear hp9 hw9 hpc;clear y2
    have hpc := Hd (show Calls Tryz.prog 158 #[.pointer (some ⟨b, 0, none⟩), .slice (some ⟨w6.heap.size, 0, none⟩) 1 1] (w6.alloc (.cells #[.string ⟨#[63, 62]⟩] 9)) (PrP b v6 w6 (l ++ ([[60, 63], nm] : List Tx).flatten ++ ([[32], tx] : List Tx).flatten ++ ([[63, 62]] : List Tx).flatten)) from put_lit b v6 (l ++ ([[60, 63], nm] : List Tx).flatten ++ ([[32], tx] : List Tx).flatten) w6 [[63, 62]] 1 rfl (by decide) hp6.out (by have h9 := hlen9.out; simp only [List.length_append, List.flatten_cons, List.flatten_nil, List.length_cons, List.length_nil] at h9 ⊢; omega));go_wp2_with fail;refine hpc.out.mono ?_;rintro e w7 ⟨⟨r, rfl⟩, v7, hp9, hw9⟩;have hp7 := Hd hp9;have hw7 := Hd (hw6.out.trans hw9);clear hp9 hw9 hpc;go_wp2_with fail
    go_end0
    exact ⟨⟨_, rfl⟩, v7, by simpa using hp7.out, hw01.out.trans hw7.out⟩
  have k4 : (kd == 4) = false := by simpa using h4
  have he : writeN (.mk kd nm tx as_ ks) = [] := by
   rw [writeN, if_neg h1, if_neg h2, if_neg h3, if_neg h4]
  rw [he];clear he h1 h2 h3 h4 hS1 hS2
  go_enter Tryz.func149, Tryz.ntmps149
  go_wp2_with fail
  go_end0
  exact ⟨⟨_, rfl⟩, v, by simpa using hp1.out, hw01.out⟩
end Go.Proofs.YtdnfnkicmfkkmaaGreatDoor.Xp
end

section
namespace Go.Proofs.YtdnfnkicmfkkmaaGreatDoor.Xp
open Go.RowKit UtfW Xl Xo Xt
set_option maxHeartbeats 4000000 in
set_option maxRecDepth 100000 in
theorem Nodes_any (X : Nat -> Prop) (w : World) (A : Option Addr) (n c : Nat) (l : List Nd) (hS : Sq (NdE X) 5 w A n c l) (hXA : ∀ a, A = some a -> 0 < n -> X a.block) (hX : ∀ j, X j -> j < w.heap.size) (hlen : (writeL l).length <= 100000000000000) :
  Calls Tryz.prog 132 #[.slice A n c] w fun e w' => e = .returned (.string (strOf (writeL l))) /\ Below w.heap.size w w' := by
 have hln := hS.len;have hlm : n <= 9223372036854775807 := Nat.le_trans hS.le hS.max;have hba := below_alloc w (.cells #[.pointer none, .slice none 0 0] 222);have hp1 := pr_new w;obtain ⟨b, hb⟩ : ∃ b, w.heap.size = b := ⟨_, rfl⟩;obtain ⟨w1, hw1⟩ : ∃ w1, w.alloc (.cells #[.pointer none, .slice none 0 0] 222) = w1 := ⟨_, rfl⟩;rw [hw1] at hba hp1;rw [hb] at hp1 hX;have hb' := Hd hb;have hp1' := Hd hp1;have hba' := Hd hba
 have hlow : Hid (∀ v' w', Wk b (.slice none 0 0) w1 v' w' -> Below b w w') := Hd fun v' w' hk => by
  rw [<- hb'.out];exact hba.trans (by rw [hb'.out]; exact hk.bel)
 have hS' := Hd hS;have hXA' := Hd hXA;have hX' := Hd hX;have hln' := Hd hln;have hlen' := Hd hlen;clear hS hXA hX hln hlen hba hp1
 go_enter Tryz.func132, Tryz.ntmps132
 go_wp2_with fail;clear hb
 go_loopw [10] (fun vi wr => ∃ j : Nat, j <= n /\ vi = .int .i64 (j : Nat) /\ Hid (∃ v1, Pr b v1 (writeL (l.take j)) wr /\ Wk b (.slice none 0 0) w1 v1 wr)) (fun vi _ => n - (intOf vi).toNat)
 case atStart => exact ⟨0, Nat.zero_le _, rfl, Hd ⟨_, by simpa [writeL] using hp1'.out, Wk.refl _ _ _⟩⟩
 case round =>
  obtain ⟨j, hj, rfl, hst⟩ := hrel
  by_cases hlt : j < n
  ·have i1 : decide ((j : Int) < (n : Int)) = true := by simp; omega
   have q1 : (j : Int) < (n : Int) := by omega
   obtain ⟨v5, hp5, hw5⟩ := hst.out;have hKr := sq_low hS'.out hXA'.out hX'.out (hlow.out _ _ hw5) (fun vs x h => NdI.stay h fun k hk => ⟨hk, (hlow.out _ _ hw5).block k (hX'.out k hk)⟩);obtain ⟨b1, off1, x, vs1, rfl, _, hx1, _, hv1, hc1⟩ := hKr.at_ hlt;have hnx := Hd (writeL_next hx1)
   have hl9 : (writeL (l.take j) ++ writeN x).length <= 100000000000000 := by
    have h8 := writeL_take l (j + 1);rw [hnx.out] at h8;have h9 := hlen'.out;omega
   obtain ⟨kx, nx_, tx_, ax, kx_⟩ := x;obtain ⟨Ax, cax, A2x, c2x, rfl, -⟩ := hv1.cells;have m0 := hc1 0 _ rfl;have m1 := hc1 1 _ rfl;have m2 := hc1 2 _ rfl;have m3 := hc1 3 _ rfl;have m4 := hc1 4 _ rfl;rw [Nat.add_zero] at m0;have hbt := below_alloc wr (.cells #[.int .i64 kx, .string (strOf nx_), .string (strOf tx_), .slice Ax ax.length cax, .slice A2x kx_.length c2x] 26);have hp6 := hp5.below hbt;have hw6 := Hd (hw5.trans (Wk.below hbt (Nat.le_of_lt hp5.lt)));have hrec := Hd (node_any b X hX'.out _ _ v5 _ (wr.alloc (.cells #[.int .i64 kx, .string (strOf nx_), .string (strOf tx_), .slice Ax ax.length cax, .slice A2x kx_.length c2x] 26)) _ (Nat.le_refl _) hp6 (NdI.stay hv1 fun k hk => ⟨hk, hbt.block k (Nat.lt_trans (hX'.out k hk) hp5.lt)⟩) hl9);clear hst hp5 hw5 hKr hc1 hx1 hbt hp6 hl9 hv1;go_wp2_with fail;refine hrec.out.mono ?_;rintro e w7 ⟨⟨r, rfl⟩, v7, hp9, hw9⟩
   have hfin : Hid (∃ v1, Pr b v1 (writeL (l.take (j + 1))) w7 /\ Wk b (.slice none 0 0) w1 v1 w7) := Hd ⟨v7, by
    rw [hnx.out]
    exact hp9, hw6.out.trans hw9⟩
   clear hp9 hw9 m0 m1 m2 m3 m4;go_wp2_with fail;go_roundw
   case rel => exact ⟨j + 1, by omega, by go_num, hfin⟩
   case measure => simp [intOf]; omega
  ·have hie : j = n := by omega
   subst hie;have i1 : decide ((j : Int) < (j : Int)) = false := by simp
   obtain ⟨v5, hp5, hw5⟩ := hst.out;rw [List.take_of_length_le (by rw [hln'.out]; exact Nat.le_refl _)] at hp5;have hsc := Hd (string_any b v5 _ wr hp5 hlen'.out);have hbb := Hd (hlow.out _ _ hw5);clear hst hp5 hw5;go_wp2_with fail;refine hsc.out.mono ?_;rintro e w7 ⟨rfl, hb7⟩;have hfin : Hid (Below w.heap.size w w7) := Hd (by rw [hb'.out]; exact hbb.out.trans hb7);clear hb7;go_wp2_with fail;go_ret;exact ⟨rfl, hfin.out⟩
end Go.Proofs.YtdnfnkicmfkkmaaGreatDoor.Xp
end
