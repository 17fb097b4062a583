/- Tables in memory: a row's cells; the builder's block and its row. -/
import Derived.Test.YtdnfnkicmfkkmaaGreatDoorVXlStep
import Derived.Test.YtdnfnkicmfkkmaaGreatDoorVPlan2
import Derived.Lib.ConvBytes
import Derived.Test.YtdnfnkicmfkkmaaGreatDoorVXlPlaces
import Derived.Lib.OthersKept
import Derived.Test.YtdnfnkicmfkkmaaGreatDoorVUtfEnc
import Derived.Shelf.Lay
import Derived.Ground.NamesProg
import Derived.Shelf.Small.Utf8
import Derived.Shelf.Utf8.AppendRunePlain
import Derived.Lib.AppendStr
import Derived.Test.YtdnfnkicmfkkmaaGreatDoorVStrLaws
import Derived.Laws.ResultCell
import Derived.Lib.Builder
set_option linter.unusedVariables false
set_option linter.unusedSimpArgs false
section
namespace Go.Proofs.YtdnfnkicmfkkmaaGreatDoor.Xl
open Go.RowKit UtfW
theorem str_at {S : Tx} {k : Nat} {x : UInt8} (h : S[k]? = some x) (hk : k < (strOf S).size) : (strOf S)[k]'hk = x := by
 have hk' : k < S.length := (List.getElem?_eq_some_iff.1 h).1;rw [List.getElem?_eq_getElem hk'] at h;exact Option.some.inj h
end Go.Proofs.YtdnfnkicmfkkmaaGreatDoor.Xl
end

section
namespace Go.Proofs.YtdnfnkicmfkkmaaGreatDoor.Xl
open Go.RowKit Go.Shelf UtfW
end Go.Proofs.YtdnfnkicmfkkmaaGreatDoor.Xl
end

section

end

section
namespace Go.Proofs.YtdnfnkicmfkkmaaGreatDoor.Xl
open Go.RowKit UtfW
theorem str_eqL (s t : Tx) : ((strOf s).toList == t) = decide (s = t) := by
 have h : (strOf s).data.toList = s := by simp [strOf]
 rw [Lib.toList_data, h, Bool.eq_iff_iff, beq_iff_eq, decide_eq_true_eq]
end Go.Proofs.YtdnfnkicmfkkmaaGreatDoor.Xl
end

section

end

section
namespace Go.Proofs.YtdnfnkicmfkkmaaGreatDoor.Xl
open Go.RowKit UtfW
theorem byte_eq (x y : UInt8) : ((x.toNat : Int) == (y.toNat : Int)) = decide (x = y) := by
 rw [Bool.eq_iff_iff, beq_iff_eq, decide_eq_true_eq];exact ⟨fun h => UInt8.toNat_inj.1 (by omega), fun h => by rw [h]⟩
theorem info_u8 : (Tryz.prog.info? 5).map (fun i => (i.zero, i.size, i.bytes)) = some (some (.int .u8 0), 1, 1) := by kernel_rfl
end Go.Proofs.YtdnfnkicmfkkmaaGreatDoor.Xl
end

section
namespace Go.Proofs.YtdnfnkicmfkkmaaGreatDoor.Xl
open Go.RowKit UtfW
def AtEl (_ : World) (vs : List Value) (a : At) : Prop := vs = [.string (strOf a.1), .string (strOf a.2)]
theorem AtEl.to {w w' : World} : ∀ vs a, AtEl w vs a -> AtEl w' vs a := fun _ _ h => h
end Go.Proofs.YtdnfnkicmfkkmaaGreatDoor.Xl
end

section
namespace Go.Proofs.YtdnfnkicmfkkmaaGreatDoor.Xt
open Go.RowKit UtfW Xl
theorem cell_same {w w' : World} {b i : Nat} (h : w'.heap[b]? = w.heap[b]?) : w'.cell? ⟨b, i, none⟩ = w.cell? ⟨b, i, none⟩ := by
 simp only [World.cell?, h]
theorem Sq.stay {α : Type} {El : World -> List Value -> α -> Prop} {k : Nat} {w w' : World} {A : Option Addr} {n c : Nat} {l : List α} (h : Sq El k w A n c l) (hX : ∀ a, A = some a -> 0 < n -> w'.heap[a.block]? = w.heap[a.block]?) (hE : ∀ vs x, El w vs x -> El w' vs x) : Sq El k w' A n c l :=
 ⟨h.len, h.le, h.max, h.nil, fun hn => by
  obtain ⟨b, off, e, hlt, hc⟩ := h.cell hn;have hs : w'.heap[b]? = w.heap[b]? := hX ⟨b, off, none⟩ e hn;refine ⟨b, off, e, ?_, fun i x hi => ?_⟩
  ·rw [Array.getElem?_eq_getElem hlt] at hs;exact (Array.getElem?_eq_some_iff.1 hs).1
  ·obtain ⟨vs, h1, h2, h3⟩ := hc i x hi
   exact ⟨vs, h1, hE _ _ h2, fun j v hj => (cell_same hs).trans (h3 j v hj)⟩⟩
inductive NdI (X : Nat -> Prop) (w : World) : List Value -> Nd -> Prop
 | mk (kind : Int) (nm tx : Tx) (as_ : List At) (ks : List Nd) (A : Option Addr) (ca : Nat) (A2 : Option Addr) (c2 : Nat) (f : Nat -> List Value)
  (hA : Sq AtEl 2 w A as_.length ca as_) (hXA : ∀ a, A = some a -> 0 < as_.length -> X a.block)
  (hK : Sq (fun _ vs i => vs = f i) 5 w A2 ks.length c2 (List.range ks.length)) (hXK : ∀ a, A2 = some a -> 0 < ks.length -> X a.block)
  (hk : ∀ i x, ks[i]? = some x -> NdI X w (f i) x) :
  NdI X w [.int .i64 kind, .string (strOf nm), .string (strOf tx), .slice A as_.length ca, .slice A2 ks.length c2] (.mk kind nm tx as_ ks)
abbrev NdE (X : Nat -> Prop) : World -> List Value -> Nd -> Prop := fun w => NdI X w
section
variable {X X' : Nat -> Prop} {w w' : World} {vs : List Value} {n : Nd}
theorem NdI.stay (h : NdI X w vs n) (hX : ∀ k, X k -> X' k /\ w'.heap[k]? = w.heap[k]?) : NdI X' w' vs n := by
 induction h with
 | mk kind nm tx as_ ks A ca A2 c2 f hA hXA hK hXK hk ih =>
  exact .mk kind nm tx as_ ks A ca A2 c2 f (Sq.stay hA (fun a e h => (hX _ (hXA a e h)).2) (fun _ _ h => h)) (fun a e h => (hX _ (hXA a e h)).1) (Sq.stay hK (fun a e h => (hX _ (hXK a e h)).2) (fun _ _ h => h)) (fun a e h => (hX _ (hXK a e h)).1) ih
theorem NdI.len (h : NdI X w vs n) : vs.length = 5 := by cases h; rfl
theorem NdI.one (h : NdI X w vs n) : ∀ u ∈ vs, u.oneCell' = true := by
 cases h;intro u hu;simp at hu;rcases hu with rfl | rfl | rfl | rfl | rfl <;> rfl
theorem NdI.cells {kind : Int} {nm tx : Tx} {as_ : List At} {ks : List Nd} (h : NdI X w vs (.mk kind nm tx as_ ks)) : ∃ A ca A2 c2, vs = [.int .i64 kind, .string (strOf nm), .string (strOf tx), .slice A as_.length ca, .slice A2 ks.length c2] ∧
  Sq AtEl 2 w A as_.length ca as_ /\ Sq (NdE X) 5 w A2 ks.length c2 ks /\ (∀ a, A = some a -> 0 < as_.length -> X a.block) /\ (∀ a, A2 = some a -> 0 < ks.length -> X a.block) := by
 cases h with
 | mk _ _ _ _ _ A ca A2 c2 f hA hXA hK hXK hk =>
  refine ⟨A, ca, A2, c2, rfl, hA, ?_, hXA, hXK⟩;refine ⟨rfl, hK.le, hK.max, hK.nil, fun hn => ?_⟩;obtain ⟨b, off, e, hlt, hc⟩ := hK.cell hn;refine ⟨b, off, e, hlt, fun i x hi => ?_⟩;have hil : i < ks.length := (List.getElem?_eq_some_iff.1 hi).1;obtain ⟨us, h1, rfl, h3⟩ := hc i i (by rw [List.getElem?_range hil]);exact ⟨f i, h1, hk i x hi, h3⟩
theorem NdI.make {kind : Int} {nm tx : Tx} {as_ : List At} {ks : List Nd} {A : Option Addr} {ca : Nat} {A2 : Option Addr} {c2 : Nat} (hA : Sq AtEl 2 w A as_.length ca as_) (hXA : ∀ a, A = some a -> 0 < as_.length -> X a.block)
  (hK : Sq (NdE X) 5 w A2 ks.length c2 ks) (hXK : ∀ a, A2 = some a -> 0 < ks.length -> X a.block) :
  NdI X w [.int .i64 kind, .string (strOf nm), .string (strOf tx), .slice A as_.length ca, .slice A2 ks.length c2] (.mk kind nm tx as_ ks) := by
 by_cases hn : 0 < ks.length
 ·obtain ⟨b, off, e, hlt, hc⟩ := hK.cell hn
  have hf : ∀ i, ∃ us : List Value, i < ks.length -> us.length = 5 /\ (∀ x, ks[i]? = some x -> NdI X w us x) /\ ∀ j v, us[j]? = some v -> w.cell? ⟨b, off + i * 5 + j, none⟩ = some v := fun i => by
   by_cases hi : i < ks.length
   ·have hx : ks[i]? = some ks[i] := List.getElem?_eq_getElem hi;obtain ⟨us, h1, h2, h3⟩ := hc i _ hx;exact ⟨us, fun _ => ⟨h1, fun x hx2 => by rw [hx] at hx2; injection hx2 with hx2; rw [<- hx2]; exact h2, h3⟩⟩
   ·exact ⟨[], fun h => absurd h hi⟩
  obtain ⟨f, hf⟩ := Classical.axiomOfChoice hf;refine .mk kind nm tx as_ ks A ca A2 c2 f hA hXA ⟨by simp, hK.le, hK.max, hK.nil, fun _ => ⟨b, off, e, hlt, fun i x hi => ?_⟩⟩ hXK (fun i x hi => ?_)
  ·have hil : i < ks.length := by have := (List.getElem?_eq_some_iff.1 hi).1; simpa using this
   rw [List.getElem?_range hil] at hi;injection hi with hi;subst hi;obtain ⟨g1, _, g3⟩ := hf i hil;exact ⟨f i, g1, rfl, g3⟩
  ·exact (hf i (List.getElem?_eq_some_iff.1 hi).1).2.1 x hi
 ·have hks : ks = [] := List.eq_nil_of_length_eq_zero (by omega);subst hks;exact .mk kind nm tx as_ [] A ca A2 c2 (fun _ => []) hA hXA ⟨rfl, hK.le, hK.max, hK.nil, fun h => absurd h hn⟩ hXK (fun i x hi => by simp at hi)
theorem NdI.later (h : NdI X w vs n) (hX : ∀ k, X k -> k < w.heap.size) (hb : Below w.heap.size w w') : NdI X w' vs n := h.stay fun k hk => ⟨hk, hb.block k (hX k hk)⟩
end
end Go.Proofs.YtdnfnkicmfkkmaaGreatDoor.Xt
end

section
namespace Go.Proofs.YtdnfnkicmfkkmaaGreatDoor.Xp
open Go.RowKit UtfW Xl
structure Pr (b : Nat) (v : Value) (l : Tx) (w : World) : Prop where
 blk : ∃ p, w.heap[b]? = some (.cells #[p, v] 222) /\ (p = .pointer none \/ p = .pointer (some ⟨b, 0, none⟩))
 own : OwB w b 5 v l
 ne : v.ownBlock ≠ some b
 nil : l = [] -> v = .slice none 0 0
structure Wk (b : Nat) (v : Value) (w : World) (v' : Value) (w' : World) : Prop where
 bel : Below b w w'
 keep : ∀ k, k < w.heap.size -> k ≠ b -> v.ownBlock ≠ some k -> w'.heap[k]? = w.heap[k]?
 row : v'.ownBlock = v.ownBlock \/ ∀ k, v'.ownBlock = some k -> w.heap.size <= k
section
variable {b : Nat} {v v' v'' : Value} {l : Tx} {w w' w'' : World}
theorem Pr.lt (h : Pr b v l w) : b < w.heap.size := by
 obtain ⟨p, h1, _⟩ := h.blk;exact (Array.getElem?_eq_some_iff.1 h1).1
theorem Pr.below (h : Pr b v l w) (hb : Below w.heap.size w w') : Pr b v l w' := by
 obtain ⟨p, h1, h2⟩ := h.blk;exact ⟨⟨p, (hb.block b h.lt).trans h1, h2⟩, h.own.below hb, h.ne, h.nil⟩
theorem Wk.refl (b : Nat) (v : Value) (w : World) : Wk b v w v w := ⟨Below.refl _ _, fun _ _ _ _ => rfl, .inl rfl⟩
theorem Wk.below (hb : Below w.heap.size w w') (hB : b <= w.heap.size) : Wk b v w v w' := ⟨hb.mono hB, fun k hk _ _ => hb.block k hk, .inl rfl⟩
theorem Wk.trans (h : Wk b v w v' w') (h' : Wk b v' w' v'' w'') : Wk b v w v'' w'' := by
 refine ⟨h.bel.trans h'.bel, fun k hk h1 h2 => ?_, ?_⟩
 ·rw [h'.keep k (Nat.lt_of_lt_of_le hk h.bel.size) h1 (fun e => ?_), h.keep k hk h1 h2];rcases h.row with e2 | e2
  ·exact h2 (e2 ▸ e)
  ·have := e2 k e;omega
 ·rcases h'.row with e | e
  ·rcases h.row with e2 | e2
   ·exact .inl (e.trans e2)
   ·exact .inr fun k hk => e2 k (e ▸ hk)
  ·exact .inr fun k hk => Nat.le_trans h.bel.size (e k hk)
theorem Wk.box (h : Wk b v w v' w') {T : Nat} {x : Obj} (hT : w.heap[T]? = some x) (h1 : T ≠ b) (h2 : v.ownBlock ≠ some T) : w'.heap[T]? = some x :=
 (h.keep T (Array.getElem?_eq_some_iff.1 hT).1 h1 h2).trans hT
theorem Pr.row_lt (h : Pr b v l w) : ∀ k, v.ownBlock = some k -> b <= k /\ k < w.heap.size := h.own.lt
theorem Pr.ne_new (h : Pr b v l w) {T : Nat} (hT : w.heap.size <= T) : v.ownBlock ≠ some T /\ T ≠ b := ⟨fun e => by have := (h.row_lt T e).2; omega, by have := h.lt; omega⟩
end
theorem pr_new (w : World) : Pr w.heap.size (.slice none 0 0) [] (w.alloc (.cells #[.pointer none, .slice none 0 0] 222)) :=
 ⟨⟨_, heap_alloc_new w _, .inl rfl⟩, OwB.nil _ _ _, by simp [Value.ownBlock], fun _ => rfl⟩
/-! ### The builder's methods at a printer -/
theorem sizeB : (Tryz.prog.info? 83).map (·.size) = some 2 := by kernel_rfl
theorem liesB : liesAt Tryz.prog Tryz.prog.depth 222 (2 / Tryz.prog.cellsOf 222) 0 83 1 = true := by kernel_rfl
set_option maxHeartbeats 1000000 in
set_option maxRecDepth 100000 in
theorem copy_used (b : Nat) (w : World) (h0 : w.cell? ⟨b, 0, none⟩ = some (.pointer (some ⟨b, 0, none⟩))) :
  Calls Tryz.prog 66 #[.pointer (some ⟨b, 0, none⟩)] w fun e w' => e = .returned (.tuple #[]) /\ w' = w := by
 obtain ⟨j, hj, _⟩ := Option.map_eq_some_iff.1 sizeB
 go_enter Tryz.func66, Tryz.ntmps66
 go_wp2_with fail;rw [Lib.run_neq_ptr_same w _ Tryz.underlying80 hj];go_wp2_with fail
 go_end0
 exact ⟨rfl, rfl⟩
set_option maxHeartbeats 1000000 in
set_option maxRecDepth 100000 in
theorem copy_fresh (b : Nat) (w : World) (h0 : w.cell? ⟨b, 0, none⟩ = some (.pointer none)) (hsh : w.shape? b = some (222, 2)) (hfz : w.frozen? ⟨b, 0, none⟩ = false) :
  Calls Tryz.prog 66 #[.pointer (some ⟨b, 0, none⟩)] w fun e w' => e = .returned (.tuple #[]) /\ w' = w.setCell ⟨b, 0, none⟩ (.pointer (some ⟨b, 0, none⟩)) := by
 obtain ⟨j, hj, hjs⟩ := Option.map_eq_some_iff.1 sizeB;have hj' := Hd hj;have hsh' := Hd hsh;clear hsh
 go_enter Tryz.func66, Tryz.ntmps66
 go_wp2_with fail;rw [Lib.run_to_unsafe w ⟨b, 0, none⟩ Tryz.underlying80 Tryz.underlying145 hj'.out (by rw [hjs]; decide) hsh'.out (Nat.zero_lt_succ 1)];simp only [Result.andThen];rw [Oper.upon_value];go_wp2_with fail;rw [run_callFunc_extern Tryz.func108 (by kernel_rfl) (by kernel_rfl) (by kernel_rfl) (e := Extern.AbiNoEscape.same) (by kernel_rfl)];rw [Lib.run_noEscape];simp only [Result.andThen];rw [Oper.upon_value];go_wp2_with fail;rw [Lib.run_from_unsafe w ⟨b, 0, none⟩ Tryz.underlying145 Tryz.underlying80 hj'.out hsh'.out liesB];simp only [Result.andThen];rw [Oper.upon_value];go_wp2_with fail
 go_end0
 exact ⟨rfl, rfl⟩
end Go.Proofs.YtdnfnkicmfkkmaaGreatDoor.Xp
end

section
namespace Go.Proofs.YtdnfnkicmfkkmaaGreatDoor.Vw
open Go.RowKit UtfW Xl Xt Xo No
open Go.Proofs.YtdnfnkicmfkkmaaGreatDoor (Ky.frontB Ky.Rl)
def QEl (_ : World) (vs : List Value) (q : Q) : Prop := vs = [.int .i64 q.kind, .string (strOf q.name), .string (strOf q.text), .int .i64 q.parent, .int .i64 (q.fin : Nat), .string (strOf q.path)]
theorem QEl.one {w : World} : ∀ vs q, QEl w vs q -> ∀ u ∈ vs, u.oneCell' = true := by
 rintro vs q rfl u hu;simp at hu;rcases hu with rfl | rfl | rfl | rfl | rfl | rfl <;> rfl
theorem QEl.to {w w' : World} : ∀ vs q, QEl w vs q -> QEl w' vs q := fun _ _ h => h
structure Vb (B b : Nat) (rv v : Value) (l : List Q) (w : World) : Prop where
 blk : w.heap[b]? = some (.cells #[rv, v] 78)
 own : OwS QEl 6 w B 41 v l
 ne : v.ownBlock ≠ some b
 leb : B <= b
section
variable {B b : Nat} {rv v v' : Value} {l l' : List Q} {w w' : World}
theorem Vb.lt (h : Vb B b rv v l w) : b < w.heap.size := (Array.getElem?_eq_some_iff.1 h.blk).1
theorem Vb.below (h : Vb B b rv v l w) (hb : Below w.heap.size w w') : Vb B b rv v l w' :=
 ⟨(hb.block b h.lt).trans h.blk, h.own.below hb QEl.to, h.ne, h.leb⟩
theorem Vb.leB (h : Vb B b rv v l w) : B <= w.heap.size := Nat.le_trans h.leb (Nat.le_of_lt h.lt)
theorem Vb.row_lt (h : Vb B b rv v l w) : ∀ k, v.ownBlock = some k -> B <= k /\ k < w.heap.size := h.own.lt
theorem Vb.len (h : Vb B b rv v l w) : ∃ A c, v = .slice A l.length c := h.own.form
end
/-! ### Rows one behind the other -/
theorem attrRows_snoc (p : Nat) (path : Tx) (a : At) : ∀ (n : Nat) (l : List At), attrRows p path n (l ++ [a]) = attrRows p path n l ++ [⟨5, a.1, a.2, p, n + l.length + 1, path ++ 47 :: 64 :: a.1⟩]
 | n, [] => by simp [attrRows]
 | n, x :: l => by
  rw [List.cons_append];unfold attrRows;rw [attrRows_snoc p path a (n + 1) l, List.cons_append, List.length_cons]
  congr 4
  omega
theorem tabL_snoc (rl : List Ky.Rl) (names : List Tx) (keyed : Bool) (p : Nat) (path : Tx) (x : Nd) : ∀ (ks : List Nd) (a i : Nat), tabL rl names keyed a p path i (ks ++ [x]) = tabL rl names keyed a p path i ks ++
  tabN rl (if keyed then names ++ [x.name] else []) (a + (tabL rl names keyed a p path i ks).length) p (path ++ 47 :: (if keyed then endS (stepK rl names x) else 35 :: Lib.decDigits (i + ks.length + 1))) x
 | [], a, i => by
  rw [List.nil_append];unfold tabL;unfold tabL;simp
 | y :: ks, a, i => by
  rw [List.cons_append];unfold tabL;simp only;rw [tabL_snoc rl names keyed p path x ks, List.append_assoc, List.length_append, List.length_cons, show i + 1 + ks.length + 1 = i + (ks.length + 1) + 1 by omega]
  congr 2
  congr 1
  exact Nat.add_assoc _ _ _
theorem set_mid {out rest : List Q} {x y : Q} : (out ++ x :: rest).set out.length y = out ++ y :: rest := by
 rw [List.set_append_right _ _ (Nat.le_refl _), Nat.sub_self];rfl
end Go.Proofs.YtdnfnkicmfkkmaaGreatDoor.Vw
end
