/- upto of the scanner. Printed by xl_upto.py. -/
import Derived.Test.YtokdnhdfmgfkeaaGreatDoorWUtfEnc2
import Derived.Laws.OwnMore
import Derived.Test.YtokdnhdfmgfkeaaGreatDoorWUtfMath
import Derived.Test.YtokdnhdfmgfkeaaGreatDoorWXlPlaces
import Derived.Test.YtokdnhdfmgfkeaaGreatDoorWXpRc
set_option linter.unusedVariables false
set_option linter.unusedSimpArgs false
section
namespace Go.Proofs.YtokdnhdfmgfkeaaGreatDoor.Xt
open Go.RowKit UtfW Xl
inductive Ro where
 | no | bld | opn | bef | aft | nod (i : Nat) | kid (i : Nat) | fin
deriving DecidableEq
abbrev Rol := Nat -> Ro
structure Pp where
 lo : Nat
 hi : Nat
instance : CoeOut Pp Nat := ⟨Pp.hi⟩
def Fin_ (ρ : Rol) (P0 : Pp) : Nat -> Prop := fun k => (P0.lo <= k /\ k < P0.hi) \/ ρ k = .fin
theorem ownsRow_stay {w w' : World} {B E size n : Nat} {v : Value} {xs : List Value} (h : w.ownsRow B E size v n xs) (hs : ∀ k, v.ownBlock = some k -> w'.heap[k]? = w.heap[k]?) : w'.ownsRow B E size v n xs := by
 obtain ⟨h1, h2⟩ := h;refine ⟨h1, ?_⟩;rcases h2 with h2 | ⟨g, cap, cur, hv, hB, hc, h3⟩
 ·exact .inl h2
 ·refine .inr ⟨g, cap, cur, hv, hB, (hs g (by rw [hv]; rfl)).trans hc, h3⟩
theorem OwS.stay {α : Type} {El : World -> List Value -> α -> Prop} {El' : World -> List Value -> α -> Prop} {k : Nat} {w w' : World} {B E : Nat} {v : Value} {l : List α} (h : OwS El k w B E v l) (hs : ∀ k, v.ownBlock = some k -> w'.heap[k]? = w.heap[k]?) (hE : ∀ vs x, El w vs x -> El' w' vs x) : OwS El' k w' B E v l := by
 obtain ⟨xs, h1, h2⟩ := h;exact ⟨xs, ownsRow_stay h1 hs, h2.mono hE⟩
theorem ownsRow_shrink {w : World} {B E n : Nat} {A : Option Addr} {c : Nat} {xs : List Value} {x : Value} (h : w.ownsRow B E 1 (.slice A (n + 1) c) (n + 1) (xs ++ [x])) : w.ownsRow B E 1 (.slice A n c) n xs := by
 obtain ⟨h1, h2⟩ := h;have hl : xs.length = n := by simp at h1; omega
 refine ⟨by omega, ?_⟩;rcases h2 with ⟨_, h2⟩ | ⟨g, cap, cur, hv, hB, hc, hcap, hmax, hsz, ht⟩
 ·omega
 ·injection hv with e1 e2 e3;subst e1; subst e3
  refine .inr ⟨g, c, cur, rfl, hB, hc, by omega, hmax, hsz, ?_⟩;have : (cur.toList.take ((n + 1) * 1)).take n = (xs ++ [x]).take n := by rw [ht]
  rw [List.take_take, show min n ((n + 1) * 1) = n by omega, List.take_left' hl] at this;rw [Nat.mul_one];exact this
section
variable (E PT BT : TypeId)
structure OwN (ρ : Rol) (P0 : Pp) (w : World) (r : Ro) (v : Value) (l : List Nd) : Prop where
 ow : OwS (NdE (Fin_ ρ P0)) 5 w P0 E v l
 rl : ∀ k, v.ownBlock = some k -> ρ k = r
structure FrM (ρ : Rol) (P0 : Pp) (w : World) (i nb : Nat) (f : Fr) : Prop where
 ex : ∃ Aa ca kv, w.heap[nb]? = some (.cells #[.int .i64 1, .string (strOf f.name), .string ⟨#[]⟩, .slice Aa f.attrs.length ca, kv] E) /\ Sq AtEl 2 w Aa f.attrs.length ca f.attrs /\ (∀ a, Aa = some a -> 0 < f.attrs.length -> (P0.lo <= a.block /\ a.block < P0.hi)) /\ OwN E ρ P0 w (.kid i) kv f.kids
 rl : ρ nb = .nod i
structure BsR (H : Ro -> Prop) (ρ : Rol) (P0 : Pp) (w : World) (b : Nat) (v1 v2 v3 : Value) (vr : List Value) (nb : List Nat) (s : St) : Prop where
 dom : ∀ k, ρ k ≠ .no -> P0 <= k /\ k < w.heap.size
 p0 : P0 <= w.heap.size
 rb : ρ b = .bld
 bef : ¬ H .bef -> OwN E ρ P0 w .bef v1 s.before
 root : NdE (Fin_ ρ P0) w vr s.root
 aft : ¬ H .aft -> OwN E ρ P0 w .aft v2 s.after
 opn : ¬ H .opn -> w.ownsRow P0 PT 1 v3 nb.length (nb.map fun k => Value.pointer (some ⟨k, 0, none⟩)) /\ ∀ k, v3.ownBlock = some k -> ρ k = .opn
 len : nb.length = s.opn.length
 fr : ∀ i k f, ¬ H (.nod i) -> ¬ H (.kid i) -> nb[i]? = some k -> s.opn.reverse[i]? = some f -> FrM E ρ P0 w i k f
def Bb (w : World) (b : Nat) (v1 v2 v3 : Value) (vr : List Value) (s : St) : Prop := ∃ r0 r1 r2 r3 r4, vr = [r0, r1, r2, r3, r4] /\ w.heap[b]? = some (.cells #[v1, r0, r1, r2, r3, r4, v2, v3, .string (strOf s.text), .int .i64 (s.nodes : Nat), .bool s.has] BT)
variable {E PT BT}
variable {ρ ρ' : Rol} {P0 : Pp} {w w' : World}
theorem fin_mem {k : Nat} (hd : ∀ k, ρ k ≠ .no -> P0 <= k /\ k < w.heap.size) (hp : P0 <= w.heap.size) (h : Fin_ ρ P0 k) : k < w.heap.size := by
 rcases h with h | h
 ·omega
 ·exact (hd k (by rw [h]; exact fun e => by cases e)).2
structure Turns (ρ ρ' : Rol) (P0 : Pp) (r : Ro) (w w' : World) : Prop where
 same : ∀ k, k < w.heap.size -> (ρ k ≠ r \/ k < P0) -> w'.heap[k]? = w.heap[k]?
 role : ∀ k, ρ k ≠ .no -> ρ' k = ρ k
 size : w.heap.size <= w'.heap.size
 dom : ∀ k, ρ' k ≠ .no -> P0 <= k /\ k < w'.heap.size
theorem NdI.turn {r : Ro} {vs : List Value} {n : Nd} (h : NdI (Fin_ ρ P0) w vs n) (hd : ∀ k, ρ k ≠ .no -> P0 <= k /\ k < w.heap.size) (hp : P0 <= w.heap.size) (hT : Turns ρ ρ' P0 r w w') (hr : r ≠ .fin) : NdI (Fin_ ρ' P0) w' vs n :=
 h.stay fun k hk => ⟨by
  rcases hk with hk | hk
  ·exact .inl hk
  ·exact .inr ((hT.role k (by rw [hk]; exact fun e => by cases e)).trans hk), hT.same k (fin_mem hd hp hk) (by
  rcases hk with hk | hk
  ·exact .inr hk.2
  ·exact .inl (by rw [hk]; exact hr.symm))⟩
theorem OwN.turn {r q : Ro} {v : Value} {l : List Nd} (h : OwN E ρ P0 w q v l) (hd : ∀ k, ρ k ≠ .no -> P0 <= k /\ k < w.heap.size) (hp : P0 <= w.heap.size) (hT : Turns ρ ρ' P0 r w w') (hr : r ≠ .fin) (hq : q ≠ r) (hn : q ≠ .no) : OwN E ρ' P0 w' q v l :=
 ⟨OwS.stay h.ow (fun k hk => hT.same k (OwS.lt h.ow k hk).2 (.inl (by rw [h.rl k hk]; exact hq))) (fun vs x hx => NdI.turn hx hd hp hT hr), fun k hk => (hT.role k (by rw [h.rl k hk]; exact hn)).trans (h.rl k hk)⟩
theorem FrM.turn {r : Ro} {i nb : Nat} {f : Fr} (h : FrM E ρ P0 w i nb f) (hd : ∀ k, ρ k ≠ .no -> P0 <= k /\ k < w.heap.size) (hp : P0 <= w.heap.size) (hT : Turns ρ ρ' P0 r w w') (hr : r ≠ .fin) (h1 : r ≠ .nod i) (h2 : r ≠ .kid i) : FrM E ρ' P0 w' i nb f := by
 obtain ⟨⟨Aa, ca, kv, g1, g2, g3, g4⟩, g5⟩ := h;refine ⟨⟨Aa, ca, kv, (hT.same nb (Array.getElem?_eq_some_iff.1 g1).1 (.inl (by rw [g5]; exact h1.symm))).trans g1, Sq.stay g2 (fun a e hn => hT.same _ (by have := (g3 a e hn).2; omega) (.inr (g3 a e hn).2)) (fun _ _ h => h), g3, g4.turn hd hp hT hr h2.symm (fun e => by cases e)⟩, (hT.role nb (by rw [g5]; exact fun e => by cases e)).trans g5⟩
/-! ### Steps -/
variable {H H' : Ro -> Prop} {b : Nat} {v1 v2 v3 : Value} {vr : List Value} {nb : List Nat} {s : St}
theorem BsR.weak (h : BsR E PT H ρ P0 w b v1 v2 v3 vr nb s) (hH : ∀ r, H r -> H' r) : BsR E PT H' ρ P0 w b v1 v2 v3 vr nb s :=
 ⟨h.dom, h.p0, h.rb, fun k => h.bef fun e => k (hH _ e), h.root, fun k => h.aft fun e => k (hH _ e), fun k => h.opn fun e => k (hH _ e), h.len, fun i k f h1 h2 => h.fr i k f (fun e => h1 (hH _ e)) (fun e => h2 (hH _ e))⟩
theorem BsR.turn {r : Ro} (h : BsR E PT H ρ P0 w b v1 v2 v3 vr nb s) (hT : Turns ρ ρ' P0 r w w') (hr : r ≠ .fin) (hH : H r \/ r = .bld \/ r = .no) : BsR E PT H ρ' P0 w' b v1 v2 v3 vr nb s := by
 have hx : ∀ q, ¬ H q -> q ≠ .bld -> q ≠ .no -> q ≠ r := fun q h1 h2 h3 e => by
  rcases hH with hH | hH | hH
  ·exact h1 (e ▸ hH)
  ·exact h2 (e.trans hH)
  ·exact h3 (e.trans hH)
 refine ⟨hT.dom, Nat.le_trans h.p0 hT.size, (hT.role b (by rw [h.rb]; exact fun e => by cases e)).trans h.rb, fun k => (h.bef k).turn h.dom h.p0 hT hr (hx _ k (fun e => by cases e) (fun e => by cases e)) (fun e => by cases e),
  NdI.turn h.root h.dom h.p0 hT hr, fun k => (h.aft k).turn h.dom h.p0 hT hr (hx _ k (fun e => by cases e) (fun e => by cases e)) (fun e => by cases e), fun k => ?_, h.len, fun i k f h1 h2 g1 g2 => ?_⟩
 ·obtain ⟨g1, g2⟩ := h.opn k;refine ⟨ownsRow_stay g1 (fun j hj => hT.same j (World.ownsRow.lt g1 j hj).2 (.inl (by rw [g2 j hj]; exact hx _ k (fun e => by cases e) (fun e => by cases e)))), fun j hj => (hT.role j (by rw [g2 j hj]; exact fun e => by cases e)).trans (g2 j hj)⟩
 ·exact (h.fr i k f h1 h2 g1 g2).turn h.dom h.p0 hT hr (hx _ h1 (fun e => by cases e) (fun e => by cases e)).symm (hx _ h2 (fun e => by cases e) (fun e => by cases e)).symm
def upd (ρ : Rol) (v : Value) (r : Ro) : Rol := fun k => if v.ownBlock = some k then r else ρ k
theorem Turns.below (hd : ∀ k, ρ k ≠ .no -> P0 <= k /\ k < w.heap.size) (hb : Below w.heap.size w w') (r : Ro) : Turns ρ ρ P0 r w w' :=
 ⟨fun k hk _ => hb.block k hk, fun _ _ => rfl, hb.size, fun k hk => ⟨(hd k hk).1, Nat.lt_of_lt_of_le (hd k hk).2 hb.size⟩⟩
theorem Turns.set (hd : ∀ k, ρ k ≠ .no -> P0 <= k /\ k < w.heap.size) {g : Nat} {r : Ro} (hg : ρ g = r) (hr : r ≠ .no) (i : Nat) (u : Value) : Turns ρ ρ P0 r w (w.setCell ⟨g, i, none⟩ u) := by
 have hG := grown_set w ⟨g, i, none⟩ u;refine ⟨fun k hk h => hG.block k hk (fun e => ?_), fun _ _ => rfl, hG.size, fun k hk => ⟨(hd k hk).1, Nat.lt_of_lt_of_le (hd k hk).2 hG.size⟩⟩;injection e with e;have e' : k = g := e;rcases h with h | h
 ·exact h (by rw [e', hg])
 ·have := (hd g (by rw [hg]; exact hr)).1;omega
theorem Turns.grow (hd : ∀ k, ρ k ≠ .no -> P0 <= k /\ k < w.heap.size) (hp : P0 <= w.heap.size) {v v' : Value} {r : Ro} (hr : r ≠ .no) (hg : w.grownBy w' v.ownBlock) (hv : ∀ k, v.ownBlock = some k -> ρ k = r) (hat : v'.ownBlock = v.ownBlock \/ v'.ownBlock = some w.heap.size) (hlt : ∀ k, v'.ownBlock = some k -> k < w'.heap.size) : Turns ρ (upd ρ v' r) P0 r w w' := by
 refine ⟨fun k hk h => hg.block k hk (fun e => ?_), fun k hk => ?_, hg.size, fun k hk => ?_⟩
 ·have hk2 := hv k e.symm;rcases h with h | h
  ·exact h hk2
  ·have := (hd k (by rw [hk2]; exact hr)).1;omega
 ·unfold upd
  split
  ·rename_i e
   rcases hat with h | h
   ·exact (hv k (h ▸ e)).symm
   ·rw [h] at e;injection e with e;have := (hd k hk).2;omega
  ·rfl
 ·unfold upd at hk
  split at hk
  ·rename_i e
   refine ⟨?_, hlt k e⟩;rcases hat with h | h
   ·exact (hd k (by rw [hv k (h ▸ e)]; exact hr)).1
   ·rw [h] at e;injection e with e;omega
  ·exact ⟨(hd k hk).1, Nat.lt_of_lt_of_le (hd k hk).2 hg.size⟩
theorem OwN.grown {v v' : Value} {r : Ro} {l : List Nd} (hd : ∀ k, ρ k ≠ .no -> P0 <= k /\ k < w.heap.size) (hT : Turns ρ (upd ρ v' r) P0 r w w') (ho : OwS (NdE (Fin_ ρ P0)) 5 w' P0 E v' l) : OwN E (upd ρ v' r) P0 w' r v' l :=
 ⟨OwS.stay ho (fun _ _ => rfl) (fun vs x hx => hx.stay fun k hk => ⟨by
  rcases hk with hk | hk
  ·exact .inl hk
  ·exact .inr ((hT.role k (by rw [hk]; exact fun e => by cases e)).trans hk), rfl⟩), fun k hk => by unfold upd; rw [if_pos hk]⟩
end
end Go.Proofs.YtokdnhdfmgfkeaaGreatDoor.Xt
end

section
namespace Go.Proofs.YtokdnhdfmgfkeaaGreatDoor.Xt
open Go.RowKit UtfW Xl
section
variable {E PT BT : TypeId} {ρ ρ' : Rol} {P0 : Pp} {w w' : World} {H : Ro -> Prop} {b : Nat} {v1 v2 v3 : Value} {vr : List Value} {nb : List Nat} {s : St}
abbrev None_ : Ro -> Prop := fun _ => False
theorem rev_top {f : Fr} {F : List Fr} {j : Nat} (h : j < F.length) : (f :: F).reverse[j]? = F.reverse[j]? := by
 rw [List.reverse_cons, List.getElem?_append_left (by simpa using h)]
theorem rev_at {f : Fr} {F : List Fr} : (f :: F).reverse[F.length]? = some f := by
 rw [List.reverse_cons, List.getElem?_append_right (by simp)];simp
theorem rev_lt {f g : Fr} {F : List Fr} {j : Nat} (h : (f :: F).reverse[j]? = some g) : j <= F.length := by
 have := (List.getElem?_eq_some_iff.1 h).1;simp at this;omega
theorem BsR.fillTop {i k : Nat} {nb0 : List Nat} {f f' : Fr} {F : List Fr} (h : BsR E PT (fun r => r = .kid i \/ r = .nod i) ρ P0 w b v1 v2 v3 vr (nb0 ++ [k]) s) (ho : s.opn = f :: F) (hi : i = F.length) (hF : FrM E ρ P0 w i k f') :
  BsR E PT None_ ρ P0 w b v1 v2 v3 vr (nb0 ++ [k]) { s with opn := f' :: F } := by
 have hl := h.len;rw [ho] at hl;simp at hl;refine ⟨h.dom, h.p0, h.rb, fun _ => h.bef (by rintro (e | e) <;> cases e), h.root, fun _ => h.aft (by rintro (e | e) <;> cases e), fun _ => h.opn (by rintro (e | e) <;> cases e), by simp [hl], fun j x g _ _ h1 h2 => ?_⟩;have hj := rev_lt h2
 by_cases e : j = i
 ·subst e;subst hi;rw [List.getElem?_append_right (by omega)] at h1;rw [show F.length - nb0.length = 0 by omega] at h1;injection h1 with h1;rw [rev_at] at h2;injection h2 with h2;rw [<- h1, <- h2];exact hF
 ·have hlt : j < F.length := by omega
  refine h.fr j x g ?_ ?_ h1 (by rw [ho, rev_top hlt]; rw [rev_top hlt] at h2; exact h2)
  ·rintro (e2 | e2)
   ·cases e2
   ·injection e2 with e2; exact e e2
  ·rintro (e2 | e2)
   ·injection e2 with e2; exact e e2
   ·cases e2
theorem BsR.setText (h : BsR E PT H ρ P0 w b v1 v2 v3 vr nb s) (t : Tx) (n : Nat) (hs : Bool) : BsR E PT H ρ P0 w b v1 v2 v3 vr nb { s with text := t, nodes := n, has := hs } :=
 ⟨h.dom, h.p0, h.rb, h.bef, h.root, h.aft, h.opn, h.len, h.fr⟩
theorem BsR.fillAft {v2' : Value} {l : List Nd} (h : BsR E PT (fun r => r = .aft) ρ P0 w b v1 v2 v3 vr nb s) (ho : OwN E ρ P0 w .aft v2' l) : BsR E PT None_ ρ P0 w b v1 v2' v3 vr nb { s with after := l } :=
 ⟨h.dom, h.p0, h.rb, fun _ => h.bef (fun e => by cases e), h.root, fun _ => ho, fun _ => h.opn (fun e => by cases e), h.len, fun i k f _ _ => h.fr i k f (fun e => by cases e) (fun e => by cases e)⟩
theorem BsR.fillBef {v1' : Value} {l : List Nd} (h : BsR E PT (fun r => r = .bef) ρ P0 w b v1 v2 v3 vr nb s) (ho : OwN E ρ P0 w .bef v1' l) : BsR E PT None_ ρ P0 w b v1' v2 v3 vr nb { s with before := l } :=
 ⟨h.dom, h.p0, h.rb, fun _ => ho, h.root, fun _ => h.aft (fun e => by cases e), fun _ => h.opn (fun e => by cases e), h.len, fun i k f _ _ => h.fr i k f (fun e => by cases e) (fun e => by cases e)⟩
theorem BsR.fillRoot {vr' : List Value} {n : Nd} (h : BsR E PT H ρ P0 w b v1 v2 v3 vr nb s) (ho : NdE (Fin_ ρ P0) w vr' n) : BsR E PT H ρ P0 w b v1 v2 v3 vr' nb { s with root := n } :=
 ⟨h.dom, h.p0, h.rb, h.bef, ho, h.aft, h.opn, h.len, h.fr⟩
theorem BsR.fillOpn {v3' : Value} {k : Nat} {f : Fr} (h : BsR E PT (fun r => r = .opn) ρ P0 w b v1 v2 v3 vr nb s) (ho : w.ownsRow P0 PT 1 v3' (nb ++ [k]).length ((nb ++ [k]).map fun k => Value.pointer (some ⟨k, 0, none⟩))) (hr : ∀ k, v3'.ownBlock = some k -> ρ k = .opn) (hF : FrM E ρ P0 w s.opn.length k f) :
  BsR E PT None_ ρ P0 w b v1 v2 v3' vr (nb ++ [k]) { s with opn := f :: s.opn } := by
 have hl := h.len;refine ⟨h.dom, h.p0, h.rb, fun _ => h.bef (fun e => by cases e), h.root, fun _ => h.aft (fun e => by cases e), fun _ => ⟨ho, hr⟩, by simp [hl], fun j x g _ _ h1 h2 => ?_⟩;have hj := rev_lt h2
 by_cases e : j = s.opn.length
 ·subst e;rw [List.getElem?_append_right (by omega), hl, Nat.sub_self] at h1;injection h1 with h1;rw [rev_at] at h2;injection h2 with h2;rw [<- h1, <- h2];exact hF
 ·have hlt : j < s.opn.length := by omega
  rw [List.getElem?_append_left (by omega)] at h1;rw [rev_top hlt] at h2;exact h.fr j x g (fun e => by cases e) (fun e => by cases e) h1 h2
def fresh (ρ : Rol) (k : Nat) (r : Ro) : Rol := fun x => if x = k then r else ρ x
theorem Turns.fresh (hd : ∀ k, ρ k ≠ .no -> P0 <= k /\ k < w.heap.size) (hp : P0 <= w.heap.size) (o : Obj) (r q : Ro) : Turns ρ (fresh ρ w.heap.size r) P0 q w (w.alloc o) := by
 have hb := below_alloc w o;refine ⟨fun k hk _ => hb.block k hk, fun k hk => ?_, hb.size, fun k hk => ?_⟩
 ·unfold Xt.fresh;rw [if_neg];intro e;have := (hd k hk).2;omega
 ·unfold Xt.fresh at hk
  split at hk
  ·rename_i e
   subst e;exact ⟨hp, by simp⟩
  ·exact ⟨(hd k hk).1, Nat.lt_of_lt_of_le (hd k hk).2 hb.size⟩
theorem BsR.top {nb0 : List Nat} {k : Nat} {f : Fr} {F : List Fr} (h : BsR E PT None_ ρ P0 w b v1 v2 v3 vr (nb0 ++ [k]) s) (ho : s.opn = f :: F) : FrM E ρ P0 w F.length k f := by
 have hl := h.len;rw [ho] at hl;simp at hl;refine h.fr F.length k f id id ?_ (by rw [ho]; exact rev_at);rw [List.getElem?_append_right (by omega), show F.length - nb0.length = 0 by omega];rfl
theorem BsR.parted {f : Fr} {F : List Fr} (h : BsR E PT H ρ P0 w b v1 v2 v3 vr nb s) (ho : s.opn = f :: F) : ∃ nb0 k, nb = nb0 ++ [k] /\ nb0.length = F.length := by
 have hl := h.len;rw [ho] at hl;rcases List.eq_nil_or_concat nb with rfl | ⟨nb0, k, rfl⟩
 ·simp at hl
 ·refine ⟨nb0, k, by simp, ?_⟩;simp at hl;omega
def done_ (ρ : Rol) (v : Value) : Rol := fun k => if v.ownBlock = some k then .fin else ρ k
theorem done_ne {v : Value} {q r : Ro} (hv : ∀ k, v.ownBlock = some k -> ρ k = r) (hq : q ≠ r) {k : Nat} (hk : ρ k = q) : done_ ρ v k = q := by
 unfold done_;rw [if_neg]
 ·exact hk
 ·intro e;exact hq (hk.symm.trans (hv k e))
theorem fin_done {v : Value} {r : Ro} (hv : ∀ k, v.ownBlock = some k -> ρ k = r) (hr : r ≠ .fin) {k : Nat} (hk : Fin_ ρ P0 k) : Fin_ (done_ ρ v) P0 k := by
 rcases hk with hk | hk
 ·exact .inl hk
 ·exact .inr (done_ne hv hr.symm hk)
theorem NdI.done {v : Value} {r : Ro} {vs : List Value} {n : Nd} (hv : ∀ k, v.ownBlock = some k -> ρ k = r) (hr : r ≠ .fin) (h : NdI (Fin_ ρ P0) w vs n) : NdI (Fin_ (done_ ρ v) P0) w vs n := h.stay fun _ hk => ⟨fin_done hv hr hk, rfl⟩
theorem OwN.done {v u : Value} {r q : Ro} {l : List Nd} (hv : ∀ k, v.ownBlock = some k -> ρ k = r) (hr : r ≠ .fin) (hq : q ≠ r) (h : OwN E ρ P0 w q u l) : OwN E (done_ ρ v) P0 w q u l :=
 ⟨OwS.stay h.ow (fun _ _ => rfl) (fun _ _ hx => NdI.done hv hr hx), fun k hk => done_ne hv hq (h.rl k hk)⟩
theorem Sq.mono_ {α : Type} {El El' : World -> List Value -> α -> Prop} {k : Nat} {w : World} {A : Option Addr} {n c : Nat} {l : List α} (h : Sq El k w A n c l) (hE : ∀ vs x, El w vs x -> El' w vs x) : Sq El' k w A n c l :=
 ⟨h.len, h.le, h.max, h.nil, fun hn => by
  obtain ⟨b, off, e, hb, hc⟩ := h.cell hn;refine ⟨b, off, e, hb, fun i x hi => ?_⟩;obtain ⟨vs, h1, h2, h3⟩ := hc i x hi
  exact ⟨vs, h1, hE _ _ h2, h3⟩⟩
theorem BsR.pop {nb0 : List Nat} {k : Nat} {f : Fr} {F : List Fr} (h : BsR E PT None_ ρ P0 w b v1 v2 v3 vr (nb0 ++ [k]) s) (ho : s.opn = f :: F) :
  ∃ Aa ca A2 c2 A3 c3, w.heap[k]? = some (.cells #[.int .i64 1, .string (strOf f.name), .string ⟨#[]⟩, .slice Aa f.attrs.length ca, .slice A2 f.kids.length c2] E) /\ v3 = .slice A3 (nb0.length + 1) c3 /\ ρ k = .nod F.length /\ k ≠ b ∧
   ∃ ρ', NdE (Fin_ ρ' P0) w [.int .i64 1, .string (strOf f.name), .string ⟨#[]⟩, .slice Aa f.attrs.length ca, .slice A2 f.kids.length c2] (.mk 1 f.name [] f.attrs f.kids) ∧
    BsR E PT None_ ρ' P0 w b v1 v2 (.slice A3 nb0.length c3) vr nb0 { s with opn := F } /\ ∀ j, ρ j = .no -> ρ' j = .no := by
 obtain ⟨⟨Aa, ca, kv, g1, g2, g3, g4⟩, g5⟩ := h.top ho;have hl := h.len;rw [ho] at hl;simp at hl;obtain ⟨A2, c2, rfl⟩ := OwS.form g4.ow;obtain ⟨p1, p2⟩ := h.opn id;obtain ⟨A3, c3, rfl⟩ := ownsRow_form p1;have hsq := OwS.sq' g4.ow (by decide);have hlen3 : (nb0 ++ [k]).length = nb0.length + 1 := by simp
 refine ⟨Aa, ca, A2, c2, A3, c3, g1, by rw [hlen3], g5, fun e => (by rw [e, h.rb] at g5; cases g5), done_ ρ (.slice A2 f.kids.length c2), ?_, ?_⟩
 ·have hk : Sq (NdE (Fin_ (done_ ρ (.slice A2 f.kids.length c2)) P0)) 5 w A2 f.kids.length c2 f.kids := Sq.mono_ hsq (fun vs x hx => NdI.done g4.rl (fun e => by cases e) hx);exact NdI.make (tx := []) g2 (fun a e hn => .inl (g3 a e hn)) hk (fun a e _ => .inr (by unfold done_; rw [if_pos]; rw [e]; rfl))
 ·have hr : Ro.kid F.length ≠ .fin := fun e => by cases e
  refine ⟨⟨fun j hj => h.dom j ?_, h.p0, done_ne g4.rl (fun e => by cases e) h.rb, fun _ => (h.bef id).done g4.rl hr (fun e => by cases e), NdI.done g4.rl hr h.root, fun _ => (h.aft id).done g4.rl hr (fun e => by cases e), fun _ => ⟨?_, ?_⟩, by simpa using hl, fun j x g _ _ h1 h2 => ?_⟩, fun j hj => done_ne g4.rl (fun e => by cases e) hj⟩
  ·unfold done_ at hj
   split at hj
   ·rename_i e
    rw [g4.rl j e];exact fun e => by cases e
   ·exact hj
  ·rw [hlen3, List.map_append] at p1;exact ownsRow_shrink p1
  ·intro j hj
   have : (Value.slice A3 (nb0 ++ [k]).length c3).ownBlock = some j := by
    cases A3 with
    | none => cases hj
    | some a => exact hj
   exact done_ne g4.rl (fun e => by cases e) (p2 j this)
  ·have hj : j < F.length := by have := (List.getElem?_eq_some_iff.1 h2).1; simpa using this
   obtain ⟨⟨Aa', ca', kv', q1, q2, q3, q4⟩, q5⟩ := h.fr j x g id id (by rw [List.getElem?_append_left (by omega)]; exact h1) (by rw [ho, rev_top hj]; exact h2)
   have hne : ∀ r : Ro, r = .kid j \/ r = .nod j -> r ≠ .kid F.length := by
    rintro r (rfl | rfl) e
    ·injection e with e; omega
    ·cases e
   exact ⟨⟨Aa', ca', kv', q1, q2, q3, q4.done g4.rl hr (hne _ (.inl rfl))⟩, done_ne g4.rl (hne _ (.inr rfl)) q5⟩
end
end Go.Proofs.YtokdnhdfmgfkeaaGreatDoor.Xt
end

section
namespace Go.Proofs.YtokdnhdfmgfkeaaGreatDoor.Xt
open Go.RowKit UtfW Xl
theorem flat_set5 {u : Value} {j : Nat} (hj : j < 5) : ∀ {L : List (List Value)} {i : Nat} {vs : List Value}, (∀ v ∈ L, v.length = 5) -> L[i]? = some vs -> L.flatten.set (i * 5 + j) u = (L.set i (vs.set j u)).flatten
 | [], i, vs, _, h => by simp at h
 | a :: L, 0, vs, hL, h => by
  simp at h;subst h;have := hL a (List.mem_cons_self ..);rw [List.flatten_cons, Nat.zero_mul, Nat.zero_add, List.set_append_left _ _ (by omega)];rfl
 | a :: L, i + 1, vs, hL, h => by
  simp at h;have ha := hL a (List.mem_cons_self ..);have hm : (i + 1) * 5 + j = a.length + (i * 5 + j) := by rw [Nat.succ_mul]; omega
  rw [List.flatten_cons, hm, List.set_append_right _ _ (by omega), Nat.add_sub_cancel_left, flat_set5 hj (fun v hv => hL v (List.mem_cons_of_mem _ hv)) h];rfl
def put5 (w : World) (g o : Nat) (r0 r1 r2 r3 r4 : Value) : World :=
 ((((w.setCell ⟨g, o, none⟩ r0).setCell ⟨g, o + 1, none⟩ r1).setCell ⟨g, o + 2, none⟩ r2).setCell ⟨g, o + 3, none⟩ r3).setCell ⟨g, o + 4, none⟩ r4
theorem grown_put5 (w : World) (g o : Nat) (r0 r1 r2 r3 r4 : Value) : w.grownBy (put5 w g o r0 r1 r2 r3 r4) (some g) :=
 ((((grown_set w ⟨g, o, none⟩ r0).trans (grown_set _ ⟨g, o + 1, none⟩ r1)).trans (grown_set _ ⟨g, o + 2, none⟩ r2)).trans (grown_set _ ⟨g, o + 3, none⟩ r3)).trans (grown_set _ ⟨g, o + 4, none⟩ r4)
theorem five {vs : List Value} (h : vs.length = 5) (r0 r1 r2 r3 r4 : Value) : ((((vs.set 0 r0).set 1 r1).set 2 r2).set 3 r3).set 4 r4 = [r0, r1, r2, r3, r4] := by
 match vs, h with
 | [a, b, c, d, e], _ => rfl
theorem OwS.last {α : Type} {El El' : World -> List Value -> α -> Prop} {w : World} {B E g n c : Nat} {l : List α} {z x : α} {r0 r1 r2 r3 r4 : Value} (h : OwS El 5 w B E (.slice (some ⟨g, 0, none⟩) (n + 1) c) (l ++ [z])) (hn : l.length = n)
  (hE : ∀ vs y, El w vs y -> El' (put5 w g (n * 5) r0 r1 r2 r3 r4) vs y) (hx : El' (put5 w g (n * 5) r0 r1 r2 r3 r4) [r0, r1, r2, r3, r4] x) :
  OwS El' 5 (put5 w g (n * 5) r0 r1 r2 r3 r4) B E (.slice (some ⟨g, 0, none⟩) (n + 1) c) (l ++ [x]) := by
 obtain ⟨xs, ho, L, rfl, hl, hk, he⟩ := h;rw [List.length_append, List.length_singleton, hn] at hl;have hLn : L[n]? = some L[n] := List.getElem?_eq_getElem (by omega);have h5 : (L[n]'(by omega)).length = 5 := hk _ (List.getElem_mem _);have hlen : (l ++ [z]).length = n + 1 := by simp [hn]
 rw [hlen] at ho;have o1 := (ho.stored (n * 5 + 0) r0).1;have o2 := (o1.stored (n * 5 + 1) r1).1;have o3 := (o2.stored (n * 5 + 2) r2).1;have o4 := (o3.stored (n * 5 + 3) r3).1;have o5 := (o4.stored (n * 5 + 4) r4).1;have e1 := flat_set5 (u := r0) (j := 0) (by decide) hk hLn
 have k1 : ∀ v ∈ L.set n ((L[n]'(by omega)).set 0 r0), v.length = 5 := fun v hv => by
  rcases List.mem_or_eq_of_mem_set hv with h | h
  ·exact hk v h
  ·rw [h, List.length_set]; exact h5
 have q1 : (L.set n ((L[n]'(by omega)).set 0 r0))[n]? = some ((L[n]'(by omega)).set 0 r0) := List.getElem?_set_self (by omega);have e2 := flat_set5 (u := r1) (j := 1) (by decide) k1 q1;rw [List.set_set] at e2
 have k2 : ∀ v ∈ L.set n (((L[n]'(by omega)).set 0 r0).set 1 r1), v.length = 5 := fun v hv => by
  rcases List.mem_or_eq_of_mem_set hv with h | h
  ·exact hk v h
  ·rw [h, List.length_set, List.length_set]; exact h5
 have q2 : (L.set n (((L[n]'(by omega)).set 0 r0).set 1 r1))[n]? = some (((L[n]'(by omega)).set 0 r0).set 1 r1) := List.getElem?_set_self (by omega);have e3 := flat_set5 (u := r2) (j := 2) (by decide) k2 q2;rw [List.set_set] at e3
 have k3 : ∀ v ∈ L.set n ((((L[n]'(by omega)).set 0 r0).set 1 r1).set 2 r2), v.length = 5 := fun v hv => by
  rcases List.mem_or_eq_of_mem_set hv with h | h
  ·exact hk v h
  ·rw [h, List.length_set, List.length_set, List.length_set]; exact h5
 have q3 : (L.set n ((((L[n]'(by omega)).set 0 r0).set 1 r1).set 2 r2))[n]? = some ((((L[n]'(by omega)).set 0 r0).set 1 r1).set 2 r2) := List.getElem?_set_self (by omega);have e4 := flat_set5 (u := r3) (j := 3) (by decide) k3 q3;rw [List.set_set] at e4
 have k4 : ∀ v ∈ L.set n (((((L[n]'(by omega)).set 0 r0).set 1 r1).set 2 r2).set 3 r3), v.length = 5 := fun v hv => by
  rcases List.mem_or_eq_of_mem_set hv with h | h
  ·exact hk v h
  ·rw [h, List.length_set, List.length_set, List.length_set, List.length_set]; exact h5
 have q4 : (L.set n (((((L[n]'(by omega)).set 0 r0).set 1 r1).set 2 r2).set 3 r3))[n]? = some (((((L[n]'(by omega)).set 0 r0).set 1 r1).set 2 r2).set 3 r3) := List.getElem?_set_self (by omega);have e5 := flat_set5 (u := r4) (j := 4) (by decide) k4 q4;rw [List.set_set, five h5] at e5;rw [e1, e2, e3, e4, e5] at o5;refine ⟨(L.set n [r0, r1, r2, r3, r4]).flatten, by rw [List.length_append, List.length_singleton, hn]; exact o5, L.set n [r0, r1, r2, r3, r4], rfl, by rw [List.length_set, List.length_append, List.length_singleton, hn, hl], fun v hv => ?_, fun i vs y hvs hy => ?_⟩
 ·rcases List.mem_or_eq_of_mem_set hv with h | h
  ·exact hk v h
  ·rw [h]; rfl
 ·by_cases e : i = n
  ·subst e;rw [List.getElem?_set_self (by omega)] at hvs;injection hvs with hvs;rw [List.getElem?_append_right (by omega), hn, Nat.sub_self] at hy;injection hy with hy;rw [<- hvs, <- hy];exact hx
  ·rw [List.getElem?_set_ne (fun h => e h.symm)] at hvs
   have hil : i < n := by
    have := (List.getElem?_eq_some_iff.1 hy).1;simp [hn] at this;omega
   refine hE vs y (he i vs y hvs ?_);rw [List.getElem?_append_left (by omega)] at hy ⊢;exact hy
end Go.Proofs.YtokdnhdfmgfkeaaGreatDoor.Xt
end

section
namespace Go.Proofs.YtokdnhdfmgfkeaaGreatDoor.Xt
open Go.RowKit UtfW Xl
theorem setCell_comm (w : World) (a c : Addr) (u v : Value) (h : a.block ≠ c.block) : (w.setCell a u).setCell c v = (w.setCell c v).setCell a u := by
 unfold World.setCell;simp only [World.mk.injEq, and_true, true_and];apply Array.ext_getElem?;intro i;simp only [Array.getElem?_modify]
 by_cases h1 : c.block = i <;> by_cases h2 : a.block = i
 ·exact absurd (h2.trans h1.symm) h
 all_goals simp [h1, h2]
theorem put5_comm (w : World) (g o : Nat) (r0 r1 r2 r3 r4 : Value) (c : Addr) (u : Value) (h : g ≠ c.block) : put5 (w.setCell c u) g o r0 r1 r2 r3 r4 = (put5 w g o r0 r1 r2 r3 r4).setCell c u := by
 unfold put5;rw [setCell_comm w c ⟨g, o, none⟩ _ _ (fun e => h e.symm), setCell_comm _ c ⟨g, o + 1, none⟩ _ _ (fun e => h e.symm), setCell_comm _ c ⟨g, o + 2, none⟩ _ _ (fun e => h e.symm), setCell_comm _ c ⟨g, o + 3, none⟩ _ _ (fun e => h e.symm), setCell_comm _ c ⟨g, o + 4, none⟩ _ _ (fun e => h e.symm)]
section
variable {E PT BT : TypeId} {ρ ρ' : Rol} {P0 : Pp} {w w' : World} {H : Ro -> Prop} {b : Nat} {v1 v2 v3 : Value} {vr : List Value} {nb : List Nat} {s : St}
theorem Turns.on (hd : ∀ k, ρ k ≠ .no -> P0 <= k /\ k < w.heap.size) {g : Nat} {r : Ro} (hg : ρ g = r) (hr : r ≠ .no) (hG : w.grownBy w' (some g)) : Turns ρ ρ P0 r w w' := by
 refine ⟨fun k hk h => hG.block k hk (fun e => ?_), fun _ _ => rfl, hG.size, fun k hk => ⟨(hd k hk).1, Nat.lt_of_lt_of_le (hd k hk).2 hG.size⟩⟩;injection e with e;rcases h with h | h
 ·exact h (by rw [e, hg])
 ·have := (hd g (by rw [hg]; exact hr)).1;omega
theorem Turns.fin {r : Ro} (hd : ∀ k, ρ k ≠ .no -> P0 <= k /\ k < w.heap.size) (hp : P0 <= w.heap.size) (hT : Turns ρ ρ' P0 r w w') (hr : r ≠ .fin) {k : Nat} (hk : Fin_ ρ P0 k) : Fin_ ρ' P0 k /\ w'.heap[k]? = w.heap[k]? :=
 ⟨by
  rcases hk with hk | hk
  ·exact .inl hk
  ·exact .inr ((hT.role k (by rw [hk]; exact fun e => by cases e)).trans hk), hT.same k (fin_mem hd hp hk) (by
  rcases hk with hk | hk
  ·exact .inr hk.2
  ·exact .inl (by rw [hk]; exact hr.symm))⟩
def Kp (ρ : Rol) (w : World) (ρ' : Rol) (w' : World) : Prop := ∀ k, k < w.heap.size -> ρ k = .no -> w'.heap[k]? = w.heap[k]? /\ ρ' k = .no
theorem Kp.refl (ρ : Rol) (w : World) : Kp ρ w ρ w := fun _ _ h => ⟨rfl, h⟩
theorem Kp.trans {ρ'' : Rol} {w'' : World} (h : Kp ρ w ρ' w') (h2 : Kp ρ' w' ρ'' w'') (hs : w.heap.size <= w'.heap.size) : Kp ρ w ρ'' w'' := fun k hk h0 => by
 obtain ⟨g1, g2⟩ := h k hk h0;obtain ⟨g3, g4⟩ := h2 k (by omega) g2;exact ⟨g3.trans g1, g4⟩
theorem Kp.below (hb : Below w.heap.size w w') : Kp ρ w ρ w' := fun k hk h0 => ⟨hb.block k hk, h0⟩
theorem Kp.on {r : Ro} (hT : Turns ρ ρ P0 r w w') (hr : r ≠ .no) : Kp ρ w ρ w' := fun k hk h0 => ⟨hT.same k hk (.inl (by rw [h0]; exact hr.symm)), h0⟩
theorem Turns.old {r : Ro} (h : Turns ρ ρ' P0 r w w') (hp : P0 <= w.heap.size) : ∀ k : Nat, k < P0 -> w'.heap[k]? = w.heap[k]? := fun k hk => h.same k (by omega) (.inr hk)
theorem put_row {r : Ro} {g n c : Nat} {l : List Nd} {x : Nd} {rs0 rs1 rs2 rs3 rs4 : Value} (hr : r ≠ .fin /\ r ≠ .no)
  (hB : BsR E PT H ρ P0 w b v1 v2 v3 vr nb s) (hH : H r)
  (hO : OwN E ρ P0 w r (.slice (some ⟨g, 0, none⟩) (n + 1) c) (l ++ [zero])) (hn : l.length = n)
  (hx : NdI (Fin_ ρ P0) w [rs0, rs1, rs2, rs3, rs4] x) :
  BsR E PT H ρ P0 (put5 w g (n * 5) rs0 rs1 rs2 rs3 rs4) b v1 v2 v3 vr nb s /\ OwN E ρ P0 (put5 w g (n * 5) rs0 rs1 rs2 rs3 rs4) r (.slice (some ⟨g, 0, none⟩) (n + 1) c) (l ++ [x]) ∧
   Turns ρ ρ P0 r w (put5 w g (n * 5) rs0 rs1 rs2 rs3 rs4) := by
 have hg : ρ g = r := hO.rl g rfl;have hT := Turns.on hB.dom hg hr.2 (grown_put5 w g (n * 5) rs0 rs1 rs2 rs3 rs4);refine ⟨hB.turn hT hr.1 (.inl hH), ⟨OwS.last hO.ow hn (fun vs y hy => NdI.turn hy hB.dom hB.p0 hT hr.1) (NdI.turn hx hB.dom hB.p0 hT hr.1), hO.rl⟩, hT⟩
theorem put_head {q : Ro} {l : List Nd} {v : Value} {i : Nat} (hq : q ≠ .no /\ q ≠ .bld)
  (hB : BsR E PT H ρ P0 w b v1 v2 v3 vr nb s) (hO : OwN E ρ P0 w q v l) (u : Value) :
  BsR E PT H ρ P0 (w.setCell ⟨b, i, none⟩ u) b v1 v2 v3 vr nb s /\ OwN E ρ P0 (w.setCell ⟨b, i, none⟩ u) q v l /\ Turns ρ ρ P0 .bld w (w.setCell ⟨b, i, none⟩ u) := by
 have hT := Turns.on hB.dom hB.rb (fun e => by cases e) (grown_set w ⟨b, i, none⟩ u);exact ⟨hB.turn hT (fun e => by cases e) (.inr (.inl rfl)), hO.turn hB.dom hB.p0 hT (fun e => by cases e) hq.2 hq.1, hT⟩
theorem put_kid {i k j : Nat} {l : List Nd} {v : Value} (hk : ρ k = .nod i)
  (hB : BsR E PT H ρ P0 w b v1 v2 v3 vr nb s) (hH : H (.nod i)) (hO : OwN E ρ P0 w (.kid i) v l) (u : Value) :
  BsR E PT H ρ P0 (w.setCell ⟨k, j, none⟩ u) b v1 v2 v3 vr nb s /\ OwN E ρ P0 (w.setCell ⟨k, j, none⟩ u) (.kid i) v l /\ Turns ρ ρ P0 (.nod i) w (w.setCell ⟨k, j, none⟩ u) := by
 have hT := Turns.on hB.dom hk (fun e => by cases e) (grown_set w ⟨k, j, none⟩ u);exact ⟨hB.turn hT (fun e => by cases e) (.inl hH), hO.turn hB.dom hB.p0 hT (fun e => by cases e) (fun e => by cases e) (fun e => by cases e), hT⟩
theorem put_app {r : Ro} {v v' : Value} {l : List Nd} (hr : r ≠ .fin /\ r ≠ .no)
  (hB : BsR E PT H ρ P0 w b v1 v2 v3 vr nb s) (hH : H r) (hO : OwN E ρ P0 w r v l) {l' : List Nd}
  (ho : OwS (NdE (Fin_ ρ P0)) 5 w' P0 E v' l') (hg : w.grownBy w' v.ownBlock) (hat : v'.ownBlock = v.ownBlock \/ v'.ownBlock = some w.heap.size) :
  BsR E PT H (upd ρ v' r) P0 w' b v1 v2 v3 vr nb s /\ OwN E (upd ρ v' r) P0 w' r v' l' /\ Turns ρ (upd ρ v' r) P0 r w w' /\ Kp ρ w (upd ρ v' r) w' := by
 have hT := Turns.grow hB.dom hB.p0 hr.2 hg hO.rl hat (fun k hk => (OwS.lt ho k hk).2);refine ⟨hB.turn hT hr.1 (.inl hH), OwN.grown (v := v) hB.dom hT ho, hT, fun k hk h0 => ⟨hT.same k hk (.inl (by rw [h0]; exact hr.2.symm)), ?_⟩⟩;unfold upd;rw [if_neg]
 ·exact h0
 ·intro e;rcases hat with h | h
  ·have := hO.rl k (h ▸ e);rw [h0] at this;exact hr.2 this.symm
  ·rw [h] at e;injection e with e;omega
theorem OwS.where_ {α : Type} {El : World -> List Value -> α -> Prop} {w : World} {B E n c : Nat} {A : Option Addr} {l : List α} (h : OwS El 5 w B E (.slice A (n + 1) c) l) (hl : l.length = n + 1) :
  ∃ g cur, A = some ⟨g, 0, none⟩ /\ B <= g /\ w.heap[g]? = some (.cells cur E) /\ (n + 1) * 5 <= cur.size /\ ∀ x : World, x.heap[g]? = w.heap[g]? -> x.frozen? ⟨g, n * 5, none⟩ = false /\ x.frozen? ⟨g, n * 5 + 1, none⟩ = false /\ x.frozen? ⟨g, n * 5 + 2, none⟩ = false /\ x.frozen? ⟨g, n * 5 + 3, none⟩ = false /\ x.frozen? ⟨g, n * 5 + 4, none⟩ = false ∧
   ∃ u0 u1 u2 u3 u4, x.cell? ⟨g, n * 5, none⟩ = some u0 /\ x.cell? ⟨g, n * 5 + 1, none⟩ = some u1 /\ x.cell? ⟨g, n * 5 + 2, none⟩ = some u2 /\ x.cell? ⟨g, n * 5 + 3, none⟩ = some u3 /\ x.cell? ⟨g, n * 5 + 4, none⟩ = some u4 := by
 obtain ⟨xs, ⟨h1, h2⟩, _⟩ := h;rcases h2 with ⟨_, h2⟩ | ⟨g, cap, cur, hv, hB, hc, hcap, hmax, hsz, ht⟩
 ·omega
 ·injection hv with e1 e2 e3;have hs : (n + 1) * 5 <= cur.size := by rw [hl] at hcap; rw [hsz]; exact Nat.mul_le_mul_right 5 hcap
  refine ⟨g, cur, e1, hB, hc, hs, fun x hx => ?_⟩;have hc' : x.heap[g]? = some (.cells cur E (0, 0)) := hx.trans hc;have hget : ∀ j, j < (n + 1) * 5 -> ∃ u, x.cell? ⟨g, j, none⟩ = some u := fun j hj => ⟨cur[j]'(by omega), by simp [World.cell?, hc', Array.getElem?_eq_getElem (show j < cur.size by omega)]⟩
  obtain ⟨u0, q0⟩ := hget (n * 5) (by omega);obtain ⟨u1, q1⟩ := hget (n * 5 + 1) (by omega);obtain ⟨u2, q2⟩ := hget (n * 5 + 2) (by omega);obtain ⟨u3, q3⟩ := hget (n * 5 + 3) (by omega);obtain ⟨u4, q4⟩ := hget (n * 5 + 4) (by omega);exact ⟨frozen_of_row x g _ _ _ hc', frozen_of_row x g _ _ _ hc', frozen_of_row x g _ _ _ hc', frozen_of_row x g _ _ _ hc', frozen_of_row x g _ _ _ hc', u0, u1, u2, u3, u4, q0, q1, q2, q3, q4⟩
abbrev putW (w : World) (g n : Nat) (r0 r1 r2 r3 r4 : Value) (h i : Nat) (u : Value) : World := (put5 w g (n * 5) r0 r1 r2 r3 r4).setCell ⟨h, i, none⟩ u
def BsP (E PT BT : TypeId) (ρ : Rol) (P0 : Pp) (w : World) (b : Nat) (s : St) : Prop := ∃ v1 v2 v3 vr nb, BsR E PT None_ ρ P0 w b v1 v2 v3 vr nb s /\ Bb BT w b v1 v2 v3 vr s
def BsW (E PT BT : TypeId) (ρ0 : Rol) (P0 : Pp) (w0 w : World) (b : Nat) (s : St) : Prop := ∃ ρ, BsP E PT BT ρ P0 w b s /\ Kp ρ0 w0 ρ w
theorem BsW.from_ {w0 : World} (h : BsW E PT BT ρ P0 w w' b s) (hb : Below w0.heap.size w0 w) : BsW E PT BT ρ P0 w0 w' b s := by
 obtain ⟨ρ', h1, h2⟩ := h
 exact ⟨ρ', h1, fun k hk h0 => by
  obtain ⟨g1, g2⟩ := h2 k (Nat.lt_of_lt_of_le hk hb.size) h0
  exact ⟨g1.trans (hb.block k hk), g2⟩⟩
section
variable {g n c : Nat} {x : Nd} {q0 q1 q2 q3 q4 : Value}
theorem put_aft (hB : BsR E PT None_ ρ P0 w b v1 v2 v3 vr nb s) (hb : Bb BT w b v1 v2 v3 vr s) (hn : s.after.length = n)
  (ho : OwS (NdE (Fin_ ρ P0)) 5 w' P0 E (.slice (some ⟨g, 0, none⟩) (n + 1) c) (s.after ++ [zero])) (hg : w.grownBy w' v2.ownBlock) (hat : (Value.slice (some ⟨g, 0, none⟩) (n + 1) c).ownBlock = v2.ownBlock \/ (Value.slice (some ⟨g, 0, none⟩) (n + 1) c).ownBlock = some w.heap.size)
  (hx : NdI (Fin_ ρ P0) w [q0, q1, q2, q3, q4] x) :
  g ≠ b /\ Below P0 w (putW w' g n q0 q1 q2 q3 q4 b 6 (.slice (some ⟨g, 0, none⟩) (n + 1) c)) /\ BsW E PT BT ρ P0 w (putW w' g n q0 q1 q2 q3 q4 b 6 (.slice (some ⟨g, 0, none⟩) (n + 1) c)) b { s with after := s.after ++ [x] } := by
 have h2 := hB.aft id;have hB' : BsR E PT (fun r => r = .aft) ρ P0 w b v1 v2 v3 vr nb s := hB.weak (fun _ h => h.elim);obtain ⟨hB1, hO1, hT1, hK1⟩ := put_app ⟨fun e => (by cases e), fun e => (by cases e)⟩ hB' rfl h2 ho hg hat;have hx1 := NdI.turn hx hB.dom hB.p0 hT1 (fun e => by cases e);obtain ⟨hB2, hO2, hT2⟩ := put_row ⟨fun e => (by cases e), fun e => (by cases e)⟩ hB1 rfl hO1 hn hx1;obtain ⟨hB3, hO3, hT3⟩ := put_head (i := 6) ⟨fun e => (by cases e), fun e => (by cases e)⟩ hB2 hO2 (.slice (some ⟨g, 0, none⟩) (n + 1) c);obtain ⟨r0, r1, r2, r3, r4, rfl, hb⟩ := hb;have hbw := (Array.getElem?_eq_some_iff.1 hb).1;have hb1 := (hT1.same b hbw (.inl (by rw [hB.rb]; exact fun e => by cases e))).trans hb;have hb2 := (hT2.same b (Array.getElem?_eq_some_iff.1 hb1).1 (.inl (by rw [hB1.rb]; exact fun e => by cases e))).trans hb1
 have hgb : g ≠ b := fun e => by
  have h1 := hO1.rl g rfl;have h2 := hB1.rb;rw [<- e] at h2;have := h1.symm.trans h2
  cases this
 have hP := (hB.dom b (by rw [hB.rb]; exact fun e => by cases e)).1;have hPg := (hB1.dom g (by rw [hO1.rl g rfl]; exact fun e => by cases e)).1;refine ⟨hgb, ((((Below.refl P0 w).grown hg hB.p0 (fun k hk => (OwS.lt h2.ow k hk).1)).grown (grown_put5 w' g (n * 5) q0 q1 q2 q3 q4) hB1.p0 (fun k hk => by injection hk with hk; omega)).grown (grown_set _ ⟨b, 6, none⟩ _) hB2.p0 (fun k hk => by injection hk with hk; have : b = k := hk; omega)), _, ⟨v1, _, v3, _, nb, hB3.fillAft hO3, r0, r1, r2, r3, r4, rfl, ?_⟩, ((hK1.trans (Kp.on hT2 (fun e => by cases e)) hT1.size).trans (Kp.on hT3 (fun e => by cases e)) (Nat.le_trans hT1.size hT2.size))⟩;exact blk_setCell hb2 (i := 6) _
theorem put_bef (hB : BsR E PT None_ ρ P0 w b v1 v2 v3 vr nb s) (hb : Bb BT w b v1 v2 v3 vr s) (hn : s.before.length = n)
  (ho : OwS (NdE (Fin_ ρ P0)) 5 w' P0 E (.slice (some ⟨g, 0, none⟩) (n + 1) c) (s.before ++ [zero])) (hg : w.grownBy w' v1.ownBlock) (hat : (Value.slice (some ⟨g, 0, none⟩) (n + 1) c).ownBlock = v1.ownBlock \/ (Value.slice (some ⟨g, 0, none⟩) (n + 1) c).ownBlock = some w.heap.size)
  (hx : NdI (Fin_ ρ P0) w [q0, q1, q2, q3, q4] x) :
  g ≠ b /\ Below P0 w (putW w' g n q0 q1 q2 q3 q4 b 0 (.slice (some ⟨g, 0, none⟩) (n + 1) c)) /\ BsW E PT BT ρ P0 w (putW w' g n q0 q1 q2 q3 q4 b 0 (.slice (some ⟨g, 0, none⟩) (n + 1) c)) b { s with before := s.before ++ [x] } := by
 have h2 := hB.bef id;have hB' : BsR E PT (fun r => r = .bef) ρ P0 w b v1 v2 v3 vr nb s := hB.weak (fun _ h => h.elim);obtain ⟨hB1, hO1, hT1, hK1⟩ := put_app ⟨fun e => (by cases e), fun e => (by cases e)⟩ hB' rfl h2 ho hg hat;have hx1 := NdI.turn hx hB.dom hB.p0 hT1 (fun e => by cases e);obtain ⟨hB2, hO2, hT2⟩ := put_row ⟨fun e => (by cases e), fun e => (by cases e)⟩ hB1 rfl hO1 hn hx1;obtain ⟨hB3, hO3, hT3⟩ := put_head (i := 0) ⟨fun e => (by cases e), fun e => (by cases e)⟩ hB2 hO2 (.slice (some ⟨g, 0, none⟩) (n + 1) c);obtain ⟨r0, r1, r2, r3, r4, rfl, hb⟩ := hb;have hbw := (Array.getElem?_eq_some_iff.1 hb).1;have hb1 := (hT1.same b hbw (.inl (by rw [hB.rb]; exact fun e => by cases e))).trans hb;have hb2 := (hT2.same b (Array.getElem?_eq_some_iff.1 hb1).1 (.inl (by rw [hB1.rb]; exact fun e => by cases e))).trans hb1
 have hgb : g ≠ b := fun e => by
  have h1 := hO1.rl g rfl;have h2 := hB1.rb;rw [<- e] at h2;have := h1.symm.trans h2
  cases this
 have hP := (hB.dom b (by rw [hB.rb]; exact fun e => by cases e)).1;have hPg := (hB1.dom g (by rw [hO1.rl g rfl]; exact fun e => by cases e)).1;refine ⟨hgb, ((((Below.refl P0 w).grown hg hB.p0 (fun k hk => (OwS.lt h2.ow k hk).1)).grown (grown_put5 w' g (n * 5) q0 q1 q2 q3 q4) hB1.p0 (fun k hk => by injection hk with hk; omega)).grown (grown_set _ ⟨b, 0, none⟩ _) hB2.p0 (fun k hk => by injection hk with hk; have : b = k := hk; omega)), _, ⟨_, v2, v3, _, nb, hB3.fillBef hO3, r0, r1, r2, r3, r4, rfl, ?_⟩, ((hK1.trans (Kp.on hT2 (fun e => by cases e)) hT1.size).trans (Kp.on hT3 (fun e => by cases e)) (Nat.le_trans hT1.size hT2.size))⟩;exact blk_setCell hb2 (i := 0) _
set_option maxHeartbeats 400000 in
theorem put_kids {k : Nat} {nb0 : List Nat} {f : Fr} {F : List Fr} {Aa : Option Addr} {ca : Nat} {kv : Value} (hB : BsR E PT None_ ρ P0 w b v1 v2 v3 vr (nb0 ++ [k]) s) (hb : Bb BT w b v1 v2 v3 vr s) (hop : s.opn = f :: F) (hn : f.kids.length = n)
  (e1 : w.heap[k]? = some (.cells #[.int .i64 1, .string (strOf f.name), .string ⟨#[]⟩, .slice Aa f.attrs.length ca, kv] E)) (e2 : Sq AtEl 2 w Aa f.attrs.length ca f.attrs) (e3 : ∀ a, Aa = some a -> 0 < f.attrs.length -> (P0.lo <= a.block /\ a.block < P0.hi)) (e4 : OwN E ρ P0 w (.kid F.length) kv f.kids) (e5 : ρ k = .nod F.length)
  (ho : OwS (NdE (Fin_ ρ P0)) 5 w' P0 E (.slice (some ⟨g, 0, none⟩) (n + 1) c) (f.kids ++ [zero])) (hg : w.grownBy w' kv.ownBlock) (hat : (Value.slice (some ⟨g, 0, none⟩) (n + 1) c).ownBlock = kv.ownBlock \/ (Value.slice (some ⟨g, 0, none⟩) (n + 1) c).ownBlock = some w.heap.size)
  (hx : NdI (Fin_ ρ P0) w [q0, q1, q2, q3, q4] x) :
  g ≠ k /\ Below P0 w (putW w' g n q0 q1 q2 q3 q4 k 4 (.slice (some ⟨g, 0, none⟩) (n + 1) c)) /\ BsW E PT BT ρ P0 w (putW w' g n q0 q1 q2 q3 q4 k 4 (.slice (some ⟨g, 0, none⟩) (n + 1) c)) b { s with opn := { f with kids := f.kids ++ [x] } :: F } := by
 have hB' : BsR E PT (fun r => r = .kid F.length \/ r = .nod F.length) ρ P0 w b v1 v2 v3 vr (nb0 ++ [k]) s := hB.weak (fun _ h => h.elim);obtain ⟨hB1, hO1, hT1, hK1⟩ := put_app (r := .kid F.length) ⟨fun e => (by cases e), fun e => (by cases e)⟩ hB' (.inl rfl) e4 ho hg hat;have hx1 := NdI.turn hx hB.dom hB.p0 hT1 (fun e => by cases e);obtain ⟨hB2, hO2, hT2⟩ := put_row (r := .kid F.length) ⟨fun e => (by cases e), fun e => (by cases e)⟩ hB1 (.inl rfl) hO1 hn hx1;have k1 : upd ρ (.slice (some ⟨g, 0, none⟩) (n + 1) c) (.kid F.length) k = .nod F.length := (hT1.role k (by rw [e5]; exact fun e => by cases e)).trans e5;obtain ⟨hB3, hO3, hT3⟩ := put_kid (j := 4) k1 hB2 (.inr rfl) hO2 (.slice (some ⟨g, 0, none⟩) (n + 1) c);obtain ⟨r0, r1, r2, r3, r4, rfl, hb⟩ := hb;have m1 := (hT1.same k (Array.getElem?_eq_some_iff.1 e1).1 (.inl (by rw [e5]; exact fun e => by cases e))).trans e1;have m2 := (hT2.same k (Array.getElem?_eq_some_iff.1 m1).1 (.inl (by rw [k1]; exact fun e => by cases e))).trans m1;have hb1 := (hT1.same b (Array.getElem?_eq_some_iff.1 hb).1 (.inl (by rw [hB.rb]; exact fun e => by cases e))).trans hb;have hb2 := (hT2.same b (Array.getElem?_eq_some_iff.1 hb1).1 (.inl (by rw [hB1.rb]; exact fun e => by cases e))).trans hb1;have hb3 := (hT3.same b (Array.getElem?_eq_some_iff.1 hb2).1 (.inl (by rw [hB1.rb]; exact fun e => by cases e))).trans hb2
 have hgk : g ≠ k := fun e => by
  have h1 := hO1.rl g rfl;have h2 := k1;rw [<- e] at h2;have := h1.symm.trans h2
  cases this
 have hP := (hB.dom k (by rw [e5]; exact fun e => by cases e)).1;have hPg := (hB1.dom g (by rw [hO1.rl g rfl]; exact fun e => by cases e)).1;have hold : ∀ j : Nat, j < P0 -> (putW w' g n q0 q1 q2 q3 q4 k 4 (.slice (some ⟨g, 0, none⟩) (n + 1) c)).heap[j]? = w.heap[j]? := fun j hj => ((hT3.old hB2.p0 j hj).trans (hT2.old hB1.p0 j hj)).trans (hT1.old hB.p0 j hj)
 have hbel : Below P0 w (putW w' g n q0 q1 q2 q3 q4 k 4 (.slice (some ⟨g, 0, none⟩) (n + 1) c)) :=
  (((Below.refl P0 w).grown hg hB.p0 (fun j hj => (OwS.lt e4.ow j hj).1)).grown (grown_put5 w' g (n * 5) q0 q1 q2 q3 q4) hB1.p0 (fun j hj => by injection hj with hj; omega)).grown (grown_set _ ⟨k, 4, none⟩ _) hB2.p0 (fun j hj => by injection hj with hj; have : k = j := hj; omega)
 have m3 : (putW w' g n q0 q1 q2 q3 q4 k 4 (.slice (some ⟨g, 0, none⟩) (n + 1) c)).heap[k]? = some (.cells #[.int .i64 1, .string (strOf f.name), .string ⟨#[]⟩, .slice Aa f.attrs.length ca, .slice (some ⟨g, 0, none⟩) (n + 1) c] E) := blk_setCell m2 (i := 4) _;have e2' : Sq AtEl 2 (putW w' g n q0 q1 q2 q3 q4 k 4 (.slice (some ⟨g, 0, none⟩) (n + 1) c)) Aa f.attrs.length ca f.attrs := (fun (W : World) (hW : ∀ j : Nat, j < P0 -> W.heap[j]? = w.heap[j]?) => Sq.stay (w' := W) e2 (fun a ea hn => hW _ (e3 a ea hn).2) (fun _ _ h => h)) _ hold;have hFr : FrM E (upd ρ (.slice (some ⟨g, 0, none⟩) (n + 1) c) (.kid F.length)) P0 (putW w' g n q0 q1 q2 q3 q4 k 4 (.slice (some ⟨g, 0, none⟩) (n + 1) c)) F.length k { f with kids := f.kids ++ [x] } := ⟨⟨Aa, ca, _, m3, e2', e3, hO3⟩, k1⟩;have hfin := hB3.fillTop hop rfl hFr;exact ⟨hgk, hbel, _, ⟨v1, v2, v3, _, nb0 ++ [k], hfin, r0, r1, r2, r3, r4, rfl, hb3⟩, ((hK1.trans (Kp.on hT2 (fun e => by cases e)) hT1.size).trans (Kp.on hT3 (fun e => by cases e)) (Nat.le_trans hT1.size hT2.size))⟩
end
end
end Go.Proofs.YtokdnhdfmgfkeaaGreatDoor.Xt
end

section
namespace Go.Proofs.YtokdnhdfmgfkeaaGreatDoor.Xl
open Go.RowKit UtfW Qx
theorem nameF_end {f : Nat} {first : Bool} {S : Tx} {p : Nat} (h : S.length <= p) : nameF f first (S.drop p) = 0 := by
 have := nameF_le f first (S.drop p);rw [List.length_drop] at this;omega
theorem nameF_stop {f : Nat} {first : Bool} {S : Tx} {p : Nat} (h : (first = true /\ Begins (nx S p).1 = false) \/ GoesOn (nx S p).1 = false) : nameF f first (S.drop p) = 0 := by
 cases f with
 | zero => rfl
 | succ f =>
  rw [nameF, <- nx_drop, if_pos];rcases h with ⟨rfl, h⟩ | h
  ·simp [h]
  ·simp [h]
theorem nameF_on {f : Nat} {first : Bool} {S : Tx} {p : Nat} (h1 : first = true -> Begins (nx S p).1 = true) (h2 : GoesOn (nx S p).1 = true) : nameF (f + 1) first (S.drop p) = (nx S p).2 + nameF f false (S.drop (p + (nx S p).2)) := by
 rw [nameF, <- nx_drop, if_neg, List.drop_drop]
 cases first
 ·simp [h2]
 ·simp [h2, h1 rfl]
theorem goesOn_pos {S : Tx} {p : Nat} (h : GoesOn (nx S p).1 = true) : 1 <= (nx S p).2 := by
 rcases Nat.eq_zero_or_pos (nx S p).2 with h0 | h0
 ·exfalso
  have : (nx S p).1 = 0 := by
   unfold nx at h0 ⊢
   split
   ·rename_i hlt
    rw [if_pos hlt] at h0;unfold Utf.nxt at h0 ⊢;have hge := Lib.decodeN_ge1 (S.length - p) (bt S p) (bt S (p + 1)) (bt S (p + 2)) (bt S (p + 3));simp only at h0 ⊢
    split at h0
    ·rename_i hb
     rw [if_pos hb]
    ·omega
   ·rfl
  rw [this] at h;exact absurd h (by decide)
 ·exact h0
section
variable (w : World) (b : Nat) (S : Tx) (k : Nat) (A : Option Addr) (c : Nat) (vo : Value)
set_option maxHeartbeats 1000000 in
set_option maxRecDepth 100000 in
theorem name_any (h : Xc w b S k A c vo) (hk : k <= S.length) (hS : S.length <= 65536) :
  Calls Tryz.prog 183 #[.pointer (some ⟨b, 0, none⟩)] w fun e w' => Gives w b S k A c vo (fun v => .string (strOf v)) (name (S.drop k)) e w' := by
 have hlc := Rd.le h.bs;have hcm := Rd.max h.bs;have h' := Hd h;clear h;obtain ⟨R, hR⟩ : ∃ R, nameL (S.drop k) = R := ⟨_, rfl⟩;have hR' := Hd hR;clear hR;obtain ⟨A1, hA1⟩ : ∃ A1, (if c = k then A else Option.map (fun x => x.add k) A) = A1 := ⟨_, rfl⟩
 by_cases hend : S.length <= k
 ·go_enter Tryz.func183, Tryz.ntmps183
  go_wp2_with fail;refine (need_bad w b S k A c vo h'.out hend).mono ?_;rintro e w1 ⟨rfl, hb1⟩;go_wp2_with fail;refine ⟨rfl, grown_in hb1, ?_⟩;unfold name;rw [drop_end hend, if_pos rfl];have e : S.length = k + 0 := by omega
  rw [e]
 have hne : Hid (S.drop k ≠ []) := Hd (by
  intro e;have := congrArg List.length e;rw [List.length_drop] at this;simp at this
  omega)
 have hkl : k < S.length := by omega
 go_enter Tryz.func183, Tryz.ntmps183
 go_wp2_with fail;refine (need_ok w b S k A c vo h'.out hkl).mono ?_;rintro e w1 ⟨rfl, hb1⟩;have hs1 := Hd (h'.out.below hb1);have hg1 := Hd (grown_in (r := some b) hb1);have hb1' := Hd hb1;have c1 := hs1.out.c1;clear hb1 hend;go_wp2_with fail
 go_loopg [4, 5] (S.length - k) (fun m u v wr => ∃ q f : Nat, k <= q /\ q <= S.length /\ S.length - q <= m /\ Hid (S.length < q + f) /\ Hid ((q - k) + nameF f (decide (q = k)) (S.drop q) = R) /\ Hid (Xc wr b S q A c vo) /\ Hid (w.grownBy wr (some b)))
 case atStart =>
  refine ⟨k, S.length - k + 1, Nat.le_refl _, hk, Nat.le_refl _, Hd (by omega), Hd ?_, hs1, hg1⟩;have := hR'.out;unfold nameL at this;rw [List.length_drop] at this
  simpa using this
 case round =>
  clear c1;obtain ⟨q, f, hkq, hql, hms, hf, hr, hs, hg⟩ := hrel;have c0 := hs.out.c0;have c1 := hs.out.c1
  by_cases hlt : q < S.length
  ·have i0 : decide ((q : Int) < (S.length : Int)) = true := by simp; omega
   go_wp2_with fail
   go_big_quiet (fail)
   have hs2 := Hd (hs.out.below (Joins.below_draws _ wr nq));have hg2 := Hd (hg.out.trans (grown_in (Joins.below_draws _ wr nq)));generalize wr.drewN nq = w2 at hs2 hg2 ⊢;clear hs hg c0 c1;have hq : Hid (∀ x, Below w2.heap.size w2 x -> x.cell? ⟨b, 0, none⟩ = some (.slice A S.length c) /\ x.cell? ⟨b, 1, none⟩ = some (.int .i64 (q : Nat))) := Hd fun x hx => ⟨(hs2.out.below hx).c0, (hs2.out.below hx).c1⟩
   have hdr : Hid (Below w2.heap.size w2 w2.drew) := Hd (Joins.below_draws w2.heap.size w2 1);have hle := nx_le hlt;have hc := utfNext_any A S.length c S q (by omega) w2.drew (hs2.out.below hdr.out).bs (hs2.out.below hdr.out).us.ut;rw [nxI_nat] at hc;have hpos := @goesOn_pos S q;obtain ⟨P, hP⟩ : ∃ P, nx S q = P := ⟨_, rfl⟩;rw [hP] at hc hle hpos;have hP' := Hd hP;clear hP;obtain ⟨r, m⟩ := P;unfold nxV at hc;simp only at hc hle hpos;have hpos' := Hd hpos;have hc' := Hd hc;clear hpos hc;have hlt' := Hd hlt;go_wp2_with fail;refine Pl.wp_region_plan 13 (.take 0 (.take 1 (.take 2 (.take 3 (.take 4 (.take 5 (.take 6 (.take 7 (.run 8 (.take 9 (.take 10 (.take 11 (.take 12 .done))))))))))))) (fun x => x.cell? ⟨b, 0, none⟩ = some (.slice A S.length c) /\ x.cell? ⟨b, 1, none⟩ = some (.int .i64 (q : Nat))) (by kernel_rfl) (by kernel_rfl) (by exact hq.out _ hdr.out) ?_;simp only [Pl.fill, Al_4, Al_5, Al_6, Al_7]
   iterate 8
    refine Pl.take_go ?_ (by rfl) (fun _ _ _ h => h) ?_ ?_
    rotate_left
    ·(intro x hSw; (try dsimp only at hSw); (try obtain ⟨s0, s1⟩ := hSw); go_simp; try with_reducible rfl)
    try simp only [Act.put, Al_1, Al_2, Al_3]
   refine Pl.run_go (fun K hK => ?_);go_simp;refine hc'.out.mono ?_;rintro e w3 ⟨rfl, hb3⟩;have hb3' := Hd (hdr.out.trans (hb3.mono hdr.out.size));have hs3 := Hd (hs2.out.below hb3'.out);have hg3 := Hd (hg2.out.trans (grown_in hb3'.out));dsimp only;refine hK.out _ _ (Pl.more_go _ (fun _ h => h) (by exact hq.out _ hb3'.out) ?_);clear hK K
   try simp only [Act.put, Al_1, Al_2, Al_3]
   iterate 4
    refine Pl.take_go ?_ (by rfl) (fun _ _ _ h => h) ?_ ?_
    rotate_left
    ·(intro x hSw; (try dsimp only at hSw); (try obtain ⟨s0, s1⟩ := hSw); go_simp; try with_reducible rfl)
    try simp only [Act.put, Al_1, Al_2, Al_3]
   refine Pl.done_go ?_;clear hq hdr hb3 hs2 hg2 hb3' hc';have d1 := hs3.out.c1
   by_cases h0 : q = k
   ·have e0 : ((q : Int) == (k : Int)) = true := by rw [beq_iff_eq]; omega
    subst h0
    cases hbg : Begins (r : Nat) with
    | false =>
     go_wp2_with fail;refine (utfBegins_any r w3).mono ?_;rintro e w4 ⟨rfl, hb4⟩;rw [hbg];have hs4 := Hd (hs3.out.below hb4);have hg4 := Hd (hg3.out.trans (grown_in hb4));have g1 := hs4.out.c1;clear hb4 d1;go_wp2_with fail;refine (fail_any _ 2 ((q : Nat) : Int)).mono ?_;rintro e w9 ⟨rfl, rfl⟩;go_wp2_with fail;refine ⟨rfl, hg4.out, ?_⟩
     have hz : R = 0 := by
      have := hr.out;rw [nameF_stop (Or.inl ⟨by simp, by rw [hP'.out]; exact hbg⟩)] at this;omega
     unfold name;rw [if_neg hne.out, if_pos (hR'.out.trans hz)];rfl
    | true =>
     go_wp2_with fail;refine (utfBegins_any r w3).mono ?_;rintro e w4 ⟨rfl, hb4⟩;rw [hbg];have hs4 := Hd (hs3.out.below hb4);have hg4 := Hd (hg3.out.trans (grown_in hb4));clear hb4 d1;go_wp2_with fail;refine (utfGoesOn_any r w4).mono ?_;rintro e w5 ⟨rfl, hb5⟩;have hs5 := Hd (hs4.out.below hb5);have hg5 := Hd (hg4.out.trans (grown_in hb5));have g1 := hs5.out.c1;have f1 := hs5.out.frozen 1;clear hb5
     cases hgo : GoesOn (r : Nat) with
     | false =>
      go_wp2_with fail;refine (fail_any _ 2 ((q : Nat) : Int)).mono ?_;rintro e w9 ⟨rfl, rfl⟩;go_wp2_with fail;refine ⟨rfl, hg5.out, ?_⟩
      have hz : R = 0 := by
       have := hr.out;rw [nameF_stop (Or.inr (by rw [hP'.out]; exact hgo))] at this;omega
      unfold name;rw [if_neg hne.out, if_pos (hR'.out.trans hz)];rfl
     | true =>
      have hm := hpos'.out hgo;go_wp2_with fail
      go_roundg (S.length - (q + m))
      case measure => omega
      case rel =>
       obtain ⟨g, rfl⟩ : ∃ g, f = g + 1 := ⟨f - 1, by have := hf.out; have := hlt'.out; omega⟩;have h6 := hs5.out.set1 (q + m);refine ⟨q + m, g, by omega, by omega, Nat.le_refl _, Hd (by have := hf.out; omega), Hd ?_, Hd h6.1, Hd (hg5.out.trans h6.2)⟩;have := hr.out;rw [nameF_on (fun _ => by rw [hP'.out]; exact hbg) (by rw [hP'.out]; exact hgo), hP'.out] at this;rw [show decide (q + m = q) = false by simp; omega];simp only at this;omega
   ·have e0 : ((q : Int) == (k : Int)) = false := by rw [beq_eq_false_iff_ne]; omega
    have h0' := Hd h0;have hkq2 : k < q := (by omega);clear h0;go_wp2_with fail;refine (utfGoesOn_any r w3).mono ?_;rintro e w5 ⟨rfl, hb5⟩;have hs5 := Hd (hs3.out.below hb5);have hg5 := Hd (hg3.out.trans (grown_in hb5));have g1 := hs5.out.c1;have f1 := hs5.out.frozen 1;clear hb5 d1
    cases hgo : GoesOn (r : Nat) with
    | false =>
     have hqk : Hid (nameL (S.drop k) = q - k) := Hd (by
      have := hr.out;rw [nameF_stop (Or.inr (by rw [hP'.out]; exact hgo)), Nat.add_zero] at this
      rw [hR'.out, this])
     have hcut : Bs w5 (offA A c k) (q - k) (c - k) ((S.drop k).take (q - k)) := Bs.from hs5.out.bs hkq (by omega);unfold offA at hcut;rw [hA1] at hcut;have q1 : (0 : Int) <= (k : Int) /\ (k : Int) <= (q : Int) := ⟨by omega, by omega⟩;have z0 := hs5.out.c0;have z1 := hs5.out.c1;have hq9 : Hid (∀ x, Below w5.heap.size w5 x -> x.cell? ⟨b, 0, none⟩ = some (.slice A S.length c) /\ x.cell? ⟨b, 1, none⟩ = some (.int .i64 (q : Nat))) := Hd fun x hx => ⟨(hs5.out.below hx).c0, (hs5.out.below hx).c1⟩
     have hdr9 : Hid (Below w5.heap.size w5 w5.drew) := Hd (Joins.below_draws w5.heap.size w5 1);go_wp2_with fail;refine Pl.wp_region_plan 9 (.take 0 (.take 1 (.take 2 (.take 3 (.take 4 (.take 5 (.take 6 (.take 7 (.take 8 .done))))))))) (fun x => x.cell? ⟨b, 0, none⟩ = some (.slice A S.length c) /\ x.cell? ⟨b, 1, none⟩ = some (.int .i64 (q : Nat))) (by kernel_rfl) (by kernel_rfl) (by exact hq9.out _ hdr9.out) ?_;simp only [Pl.fill, Al_4, Al_5, Al_6, Al_7]
     iterate 9
      refine Pl.take_go ?_ (by rfl) (fun _ _ _ h => h) ?_ ?_
      rotate_left
      ·(intro x hSw; (try dsimp only at hSw); (try obtain ⟨s0, s1⟩ := hSw); go_simp; try with_reducible rfl)
      try simp only [Act.put, Al_1, Al_2, Al_3]
     refine Pl.done_go ?_;have hcv2 : (convert 41 9 (.slice A1 (q - k) (c - k))).run Tryz.prog w5.drew = .ok (.string (strOf ((S.drop k).take (q - k)))) w5.drew := Bs.conv (Bs.below hcut hdr9.out) Tryz.underlying41 Tryz.underlying5 Tryz.underlying9;have hs8 := Hd (hs5.out.below hdr9.out);have hg8 := Hd (hg5.out.trans (grown_in hdr9.out));go_wp2_with fail;go_ret;refine ⟨hg8.out, ?_⟩;unfold name;rw [if_neg hne.out, hqk.out, if_neg (by omega)];refine ⟨rfl, ?_⟩;rw [Nat.add_sub_cancel' hkq];exact hs8.out
    | true =>
     have hm := hpos'.out hgo;go_wp2_with fail
     go_roundg (S.length - (q + m))
     case measure => omega
     case rel =>
      obtain ⟨g, rfl⟩ : ∃ g, f = g + 1 := ⟨f - 1, by have := hf.out; have := hlt'.out; omega⟩;have h6 := hs5.out.set1 (q + m);refine ⟨q + m, g, by omega, by omega, Nat.le_refl _, Hd (by have := hf.out; omega), Hd ?_, Hd h6.1, Hd (hg5.out.trans h6.2)⟩;have := hr.out;rw [nameF_on (fun hh => absurd (by simpa using hh) h0'.out) (by rw [hP'.out]; exact hgo), hP'.out] at this;rw [show decide (q + m = k) = false by simp; omega];simp only at this;omega
  ·have i0 : decide ((q : Int) < (S.length : Int)) = false := by simp; omega
   have hge : S.length <= q := by omega
   have e0 : ((q : Int) == (k : Int)) = false := by rw [beq_eq_false_iff_ne]; omega
   go_wp2_with fail
   go_big_quiet (fail)
   have hs2 := Hd (hs.out.below (Joins.below_draws _ wr nq));have hg2 := Hd (hg.out.trans (grown_in (Joins.below_draws _ wr nq)));generalize wr.drewN nq = w2 at hs2 hg2 ⊢;clear hs hg c0 c1
   have hqk : Hid (nameL (S.drop k) = q - k) := Hd (by
    have := hr.out;rw [nameF_end hge, Nat.add_zero] at this
    rw [hR'.out, this])
   have hcut : Bs w2 (offA A c k) (q - k) (c - k) ((S.drop k).take (q - k)) := Bs.from hs2.out.bs hkq (by omega);unfold offA at hcut;rw [hA1] at hcut;have q1 : (0 : Int) <= (k : Int) /\ (k : Int) <= (q : Int) := ⟨by omega, by omega⟩;have z0 := hs2.out.c0;have z1 := hs2.out.c1;have hq9 : Hid (∀ x, Below w2.heap.size w2 x -> x.cell? ⟨b, 0, none⟩ = some (.slice A S.length c) /\ x.cell? ⟨b, 1, none⟩ = some (.int .i64 (q : Nat))) := Hd fun x hx => ⟨(hs2.out.below hx).c0, (hs2.out.below hx).c1⟩
   have hdr9 : Hid (Below w2.heap.size w2 w2.drew) := Hd (Joins.below_draws w2.heap.size w2 1);go_wp2_with fail;refine Pl.wp_region_plan 9 (.take 0 (.take 1 (.take 2 (.take 3 (.take 4 (.take 5 (.take 6 (.take 7 (.take 8 .done))))))))) (fun x => x.cell? ⟨b, 0, none⟩ = some (.slice A S.length c) /\ x.cell? ⟨b, 1, none⟩ = some (.int .i64 (q : Nat))) (by kernel_rfl) (by kernel_rfl) (by exact hq9.out _ hdr9.out) ?_;simp only [Pl.fill, Al_4, Al_5, Al_6, Al_7]
   iterate 9
    refine Pl.take_go ?_ (by rfl) (fun _ _ _ h => h) ?_ ?_
    rotate_left
    ·(intro x hSw; (try dsimp only at hSw); (try obtain ⟨s0, s1⟩ := hSw); go_simp; try with_reducible rfl)
    try simp only [Act.put, Al_1, Al_2, Al_3]
   refine Pl.done_go ?_;have hcv2 : (convert 41 9 (.slice A1 (q - k) (c - k))).run Tryz.prog w2.drew = .ok (.string (strOf ((S.drop k).take (q - k)))) w2.drew := Bs.conv (Bs.below hcut hdr9.out) Tryz.underlying41 Tryz.underlying5 Tryz.underlying9;have hs8 := Hd (hs2.out.below hdr9.out);have hg8 := Hd (hg2.out.trans (grown_in hdr9.out));go_wp2_with fail;go_ret;refine ⟨hg8.out, ?_⟩;unfold name;rw [if_neg hne.out, hqk.out, if_neg (by omega)];refine ⟨rfl, ?_⟩;rw [Nat.add_sub_cancel' hkq];exact hs8.out
end
end Go.Proofs.YtokdnhdfmgfkeaaGreatDoor.Xl
end

section
namespace Go.Proofs.YtokdnhdfmgfkeaaGreatDoor.Xl
open Go.RowKit UtfW
section
variable (w : World) (b : Nat) (S : Tx) (k : Nat) (A : Option Addr) (c : Nat) (vo : Value)
set_option maxRecDepth 100000 in
theorem blanks_any (h : Xc w b S k A c vo) (hk : k <= S.length) (hS : S.length <= 65536) :
  Calls Tryz.prog 175 #[.pointer (some ⟨b, 0, none⟩)] w fun e w' => e = .returned (.bool (decide (0 < blanks (S.drop k)))) /\ Xc w' b S (k + blanks (S.drop k)) A c vo /\ w.grownBy w' (some b) := by
 have c1 := h.c1;have h' := Hd h;clear h;obtain ⟨R, hR⟩ : ∃ R, blanks (S.drop k) = R := ⟨_, rfl⟩;rw [hR];have hR' := Hd hR;clear hR
 go_enter Tryz.func175, Tryz.ntmps175
 go_wp2_with fail
 go_loopg [] (S.length - k) (fun m wr => ∃ q : Nat, k <= q /\ q <= S.length /\ S.length - q <= m /\ Hid (q - k + blanks (S.drop q) = R) /\ Hid (Xc wr b S q A c vo) /\ Hid (w.grownBy wr (some b)))
 case atStart => exact ⟨k, Nat.le_refl _, hk, Nat.le_refl _, Hd (by rw [Nat.sub_self, Nat.zero_add]; exact hR'.out), h', Hd (World.grownBy.refl _ _)⟩
 case round =>
  clear c1;obtain ⟨q, hkq, hql, hm, hr, hs, hg⟩ := hrel;have c0 := hs.out.c0;have c1 := hs.out.c1;have f1 := hs.out.frozen 1
  by_cases hlt : q < S.length
  ·have i0 : decide ((q : Int) < (S.length : Int)) = true := by simp; omega
   obtain ⟨ba, off, rfl, hx, hcell⟩ := hs.out.at_ hlt;generalize S[q] = x at hx hcell;have hw := wrap32_byte x
   cases hbl : Qx.blank x with
   | true =>
    have hbl' : Blank (x.toNat : Int) = true := hbl;have hx' := Hd hx;have hbh := Hd hbl;clear hx hbl;go_wp2_with fail
    go_big_quiet ((go_at_call 50; exact Calls.quiet_of_same (blank_any _ _)))
    go_wp2_with fail;have hs2 := hs.out.below (Joins.below_draws _ wr nq);have h3 := hs2.set1 (q + 1)
    go_roundg (S.length - (q + 1))
    case measure => omega
    case rel => exact ⟨q + 1, by omega, by omega, Nat.le_refl _, Hd (by have := hr.out; rw [blanks_on hx'.out hbh.out] at this; rw [<- this]; omega), h3.1, Hd ((hg.out.trans (grown_in (Joins.below_draws _ wr nq))).trans h3.2)⟩
   | false =>
    have hbl' : Blank (x.toNat : Int) = false := hbl;have hx' := Hd hx;have hbh := Hd hbl;clear hx hbl;go_wp2_with fail
    go_big_quiet ((go_at_call 50; exact Calls.quiet_of_same (blank_any _ _)))
    go_wp2_with fail;go_ret;have hs2 := hs.out.below (Joins.below_draws _ wr nq);have := hr.out;rw [blanks_off hx'.out hbh.out] at this;rw [<- this, Nat.add_zero, Nat.add_sub_cancel' hkq];exact ⟨ret_bool (by congr 1; simp; omega), hs2, hg.out.trans (grown_in (Joins.below_draws _ wr nq))⟩
  ·have i0 : decide ((q : Int) < (S.length : Int)) = false := by simp; omega
   go_wp2_with fail
   go_big_quiet (fail)
   go_wp2_with fail;go_ret;have hs2 := hs.out.below (Joins.below_draws _ wr nq);have := hr.out;rw [blanks_end (by omega)] at this;rw [<- this, Nat.add_zero, Nat.add_sub_cancel' hkq];exact ⟨ret_bool (by congr 1; simp; omega), hs2, hg.out.trans (grown_in (Joins.below_draws _ wr nq))⟩
set_option maxRecDepth 100000 in
theorem eat_any (h : Xc w b S k A c vo) (hk : k <= S.length) (hS : S.length <= 65536) (p : Tx) (hp : p.length <= 65536) :
  Calls Tryz.prog 185 #[.pointer (some ⟨b, 0, none⟩), .string (strOf p)] w fun e w' => Gives w b S k A c vo (fun _ => .tuple #[]) (eat p (S.drop k)) e w' := by
 have hsz : (strOf p).size = p.length := strOf_size' p;have h' := Hd h;clear h;obtain ⟨R, hR⟩ : ∃ R, eat p (S.drop k) = R := ⟨_, rfl⟩;rw [hR];have hR' := Hd hR;clear hR
 go_enter Tryz.func185, Tryz.ntmps185
 go_wp2_with fail
 go_loopw [4, 7] (fun u v wr => ∃ j : Nat, j <= p.length /\ v = .int .i64 (j : Nat) /\ k + j <= S.length /\ Hid ((eat (p.drop j) (S.drop (k + j))).shift j = R) /\ Hid (Xc wr b S (k + j) A c vo) /\ Hid (w.grownBy wr (some b))) (fun _ v _ => p.length - (intOf v).toNat)
 case atStart => exact ⟨0, by omega, rfl, hk, Hd (by rw [Out.shift_zero]; exact hR'.out), h', Hd (World.grownBy.refl _ _)⟩
 case round =>
  obtain ⟨j, hj, rfl, hkj, hr, hs, hg⟩ := hrel
  by_cases hlt : j < p.length
  ·have i0 : decide ((j : Int) < (p.length : Int)) = true := by simp; omega
   have hy : p[j]? = some p[j] := List.getElem?_eq_getElem hlt;generalize p[j] = y at hy;have hlt' : j < (strOf p).size := by rw [hsz]; exact hlt
   have hgy := str_at hy hlt';have hy' := Hd hy;clear hy
   by_cases hend : k + j < S.length
   ·go_wp2_with fail;refine (need_ok wr b S (k + j) A c vo hs.out hend).mono ?_;rintro e w1 ⟨rfl, hb1⟩;have hs1 := Hd (hs.out.below hb1);have hg1 := Hd (hg.out.trans (grown_in hb1));clear hb1;have c0 := hs1.out.c0;have c1 := hs1.out.c1;have f1 := hs1.out.frozen 1;obtain ⟨ba, off, rfl, hx, hcell⟩ := hs1.out.at_ hend;generalize S[k + j] = x at hx hcell;have hx' := Hd hx;clear hx
    by_cases hxy : x = y
    ·subst hxy;go_wp2_with fail
     go_big_quiet (fail)
     go_wp2_with fail;have hs2 := hs1.out.below (Joins.below_draws _ w1 nq);have h3 := hs2.set1 (k + (j + 1));go_roundw
     case rel => exact ⟨j + 1, by omega, by go_num, by omega, Hd (by have := hr.out; rw [eat_on hy'.out hx'.out, Out.shift_shift] at this; exact this), h3.1, Hd ((hg1.out.trans (grown_in (Joins.below_draws _ w1 nq))).trans h3.2)⟩
     case measure => simp [intOf]; omega
    ·have hne : ((x.toNat : Int) == (y.toNat : Int)) = false := by
      rw [beq_eq_false_iff_ne];intro e;exact hxy (UInt8.toNat_inj.1 (by omega))
     have hxy' := Hd hxy;clear hxy;go_wp2_with fail
     go_big_quiet (fail)
     go_wp2_with fail;refine (fail_any _ 2 ((k + j : Nat) : Int)).mono ?_;rintro e w2 ⟨rfl, rfl⟩;go_wp2_with fail;refine ⟨rfl, hg1.out.trans (grown_in (Joins.below_draws _ w1 nq)), ?_⟩;have := hr.out;rw [eat_off hy'.out hx'.out hxy'.out] at this;subst this;rfl
   ·go_wp2_with fail;refine (need_bad wr b S (k + j) A c vo hs.out (by omega)).mono ?_;rintro e w1 ⟨rfl, hb1⟩;go_wp2_with fail;refine ⟨rfl, hg.out.trans (grown_in hb1), ?_⟩;have := hr.out;rw [eat_end hy'.out (by omega)] at this;subst this;have e : S.length = k + (j + 0) := (by omega);rw [e];rfl
  ·have i0 : decide ((j : Int) < (p.length : Int)) = false := by simp; omega
   go_wp2_with fail
   go_end0
   refine ⟨hg.out, ?_⟩;have := hr.out;rw [eat_done (by omega)] at this;subst this;exact ⟨rfl, hs.out⟩
end
end Go.Proofs.YtokdnhdfmgfkeaaGreatDoor.Xl
end

section
namespace Go.Proofs.YtokdnhdfmgfkeaaGreatDoor.Xl
open Go.RowKit UtfW
section
variable {there : List At} {S nm v : Tx} {k n1 B1 B2 m n eo : Nat} {ec : Int}
theorem attr_eat (hn : name (S.drop k) = .ok nm n1) (hm : nm ∉ there.map (·.1)) (hB : blanks (S.drop (k + n1)) = B1) (he : eat [61] (S.drop (k + n1 + B1)) = .bad ec eo) : attr there (S.drop k) = .bad ec (n1 + B1 + eo) := by
 unfold attr;rw [hn];simp only;rw [if_neg hm];simp only [List.drop_drop, <- Nat.add_assoc, hB, he]
theorem attr_value (hn : name (S.drop k) = .ok nm n1) (hm : nm ∉ there.map (·.1)) (hB : blanks (S.drop (k + n1)) = B1) (he : eat [61] (S.drop (k + n1 + B1)) = .ok () m) (hB2 : blanks (S.drop (k + n1 + B1 + m)) = B2)
  (hv : value (S.drop (k + n1 + B1 + m + B2)) = .bad ec eo) : attr there (S.drop k) = .bad ec (n1 + B1 + m + B2 + eo) := by
 unfold attr;rw [hn];simp only;rw [if_neg hm];simp only [List.drop_drop, <- Nat.add_assoc, hB, he, hB2, hv]
theorem attr_ok (hn : name (S.drop k) = .ok nm n1) (hm : nm ∉ there.map (·.1)) (hB : blanks (S.drop (k + n1)) = B1) (he : eat [61] (S.drop (k + n1 + B1)) = .ok () m) (hB2 : blanks (S.drop (k + n1 + B1 + m)) = B2)
  (hv : value (S.drop (k + n1 + B1 + m + B2)) = .ok v n) : attr there (S.drop k) = .ok (nm, v) (n1 + B1 + m + B2 + n) := by
 unfold attr;rw [hn];simp only;rw [if_neg hm];simp only [List.drop_drop, <- Nat.add_assoc, hB, he, hB2, hv]
end
def atV (a : At) : Value := .agg #[.string (strOf a.1), .string (strOf a.2)]
section
variable (w : World) (b : Nat) (S : Tx) (k : Nat) (A : Option Addr) (c : Nat) (vo : Value)
set_option maxHeartbeats 2000000 in
set_option maxRecDepth 100000 in
theorem attribute_any (h : Xc w b S k A c vo) (hk : k <= S.length) (hS : S.length <= 65536) (A5 : Option Addr) (n5 c5 : Nat) (there : List At) (hth : Sq AtEl 2 w A5 n5 c5 there) (hne : ∀ a, A5 = some a -> 0 < n5 -> a.block ≠ b) (hn5 : n5 <= 65536) :
  Calls Tryz.prog 187 #[.pointer (some ⟨b, 0, none⟩), .slice A5 n5 c5] w fun e w' => Gives w b S k A c vo atV (attr there (S.drop k)) e w' := by
 have hbw : b < w.heap.size := h.lt;have hba := below_alloc w (.cells #[.string ⟨#[]⟩, .string ⟨#[]⟩] 55);have hab := ab_new w ⟨#[]⟩ ⟨#[]⟩;obtain ⟨T0, hT0⟩ : ∃ T0, w.heap.size = T0 := ⟨_, rfl⟩;obtain ⟨w1, hw1⟩ : ∃ w1, w.alloc (.cells #[.string ⟨#[]⟩, .string ⟨#[]⟩] 55) = w1 := ⟨_, rfl⟩;rw [hw1] at hba hab;rw [hT0] at hab;have hs1 := Hd (h.below hba);have hg1 := Hd (grown_in (r := some b) hba);have hth1 := Hd (Sq.below hth AtEl.to hba);have hab1 := Hd hab;have hbT : b ≠ T0 := by omega
 have c1 := hs1.out.c1;have hne' := Hd hne;have h0 := Hd h;have hTlo : w.heap.size <= T0 := by omega
 obtain ⟨R, hR⟩ : ∃ R, attr there (S.drop k) = R := ⟨_, rfl⟩;rw [hR];have hR' := Hd hR;clear h hth hba hab hR hne
 go_enter Tryz.func187, Tryz.ntmps187
 go_wp2_with fail;refine (name_any w1 b S k A c vo hs1.out hk hS).mono ?_;rintro e w2 ⟨hg2, hG⟩
 cases hnm : name (S.drop k) with
 | bad ec eo =>
  rw [hnm] at hG;subst hG;go_wp2_with fail;refine ⟨rfl, hg1.out.trans hg2, ?_⟩;have := hR'.out;unfold attr at this;rw [hnm] at this;simp only at this;rw [<- this];exact pan_eq rfl
 | ok nm n1 =>
  rw [hnm] at hG;obtain ⟨rfl, hs2⟩ := hG;have hnl := name_len hnm;have hn1 := hnl.1;have hn2 := hnl.2.1;clear hnl;rw [List.length_drop] at hn2;have hs2' := Hd hs2;have hg2' := Hd (hg1.out.trans hg2);have hab2 := Hd (hab1.out.on hg2 hbT.symm)
  have hth2 : Hid (Sq AtEl 2 w2 A5 n5 c5 there) := Hd ⟨hth1.out.len, hth1.out.le, hth1.out.max, hth1.out.nil, fun hn => by
   obtain ⟨b5, off5, e5, hlt5, hc5⟩ := hth1.out.cell hn;refine ⟨b5, off5, e5, Nat.lt_of_lt_of_le hlt5 hg2.size, fun i x hi => ?_⟩;obtain ⟨vs, g1, g2, g3⟩ := hc5 i x hi
   exact ⟨vs, g1, g2, fun j v hj => hg2.cell (g3 j v hj) (by have := hne'.out _ e5 hn; simp; exact this)⟩⟩
  have hnm' := Hd hnm;clear hs2 hg2 hnm c1;have hba3 := below_alloc w2 (.cells #[.string (strOf nm), .string ⟨#[]⟩] 55);have hab3 := ab_new w2 (strOf nm) ⟨#[]⟩;have hT02 := hab2.out.lt;have hb2 := hs2'.out.lt;obtain ⟨T2, hT2⟩ : ∃ T2, w2.heap.size = T2 := ⟨_, rfl⟩;obtain ⟨w3, hw3⟩ : ∃ w3, w2.alloc (.cells #[.string (strOf nm), .string ⟨#[]⟩] 55) = w3 := ⟨_, rfl⟩;rw [hw3] at hba3 hab3;rw [hT2] at hab3;have hs3 := Hd (hs2'.out.below hba3);have hg3 := Hd (hg2'.out.trans (grown_in hba3));have hth3 := Hd (Sq.below hth2.out AtEl.to hba3);have hr3 := Hd (hab2.out.below hba3);have hab3' := Hd hab3;have hbT2 : b ≠ T2 := by omega
  have hTT : T0 ≠ T2 := by omega
  have hT2lo : w.heap.size <= T2 := by have := hg2'.out.size; omega
  have hw3' := Hd hw3;have hT2' := Hd hT2;clear hba3 hab3 hT02 hb2 hw3 hT2;go_wp2_with fail;rw [hw3'.out, hT2'.out];clear hw3' hT2';have a2 := hab3'.out.c0
  go_loopw [8, 18] (fun v8 v18 wr => ∃ j : Nat, j <= n5 /\ v18 = .int .i64 (j : Nat) /\ Hid (∀ (i : Nat) x, i < j -> there[i]? = some x -> x.1 ≠ nm) /\ Hid (Below w3.heap.size w3 wr)) (fun _ v18 _ => n5 - (intOf v18).toNat)
  case atStart => exact ⟨0, by omega, rfl, Hd fun i x hi => absurd hi (by omega), Hd (Below.refl _ _)⟩
  case round =>
   obtain ⟨j, hj, rfl, hno, hb⟩ := hrel;clear a2;have a2 := (hab3'.out.below hb.out).c0
   by_cases hlt : j < n5
   ·have i0 : decide ((j : Int) < (n5 : Int)) = true := by simp; omega
    obtain ⟨b5, off5, x, vs, rfl, hb5, hxj, hv2, hve, hvc⟩ := (Sq.below hth3.out AtEl.to hb.out).at_ hlt;unfold AtEl at hve;subst hve;have k0 := hvc 0 _ rfl;have k1 := hvc 1 _ rfl;rw [Nat.add_zero] at k0;have hse := str_eqL;have hxj' := Hd hxj;clear hxj hv2 hvc
    have hcmp : ((strOf x.1).toList == (strOf nm).toList) = decide (x.1 = nm) := by
     have e : (strOf nm).toList = nm := by rw [Lib.toList_data]; simp [strOf]
     rw [e];exact str_eqL x.1 nm
    clear hse;have hbn := Hd (hb.out.trans ((below_alloc _ (.cells #[.string (strOf x.1), .string (strOf x.2)] 55)).mono hb.out.size));have a3 := (hab3'.out.below hbn.out).c0
    by_cases hx : x.1 = nm
    ·rw [decide_eq_true hx] at hcmp;have hx' := Hd hx;clear hx;go_wp2_with fail;refine (fail_any _ 4 (k : Nat)).mono ?_;rintro e w9 ⟨rfl, rfl⟩;go_wp2_with fail;refine ⟨rfl, hg3.out.trans (grown_in hbn.out), ?_⟩;have := hR'.out;unfold attr at this;rw [hnm'.out] at this;simp only at this;rw [if_pos (List.mem_map.2 ⟨x, List.mem_of_getElem? hxj'.out, hx'.out⟩)] at this;rw [<- this];exact pan_eq (by omega)
    ·rw [decide_eq_false hx] at hcmp;have hx' := Hd hx;clear hx;go_wp2_with fail;go_roundw
     case rel =>
      refine ⟨j + 1, by omega, by go_num, Hd fun i y hi hy => ?_, hbn⟩;rcases Nat.lt_or_ge i j with h | h
      ·exact hno.out i y h hy
      ·obtain rfl : i = j := by omega
       rw [hxj'.out] at hy;injection hy with hy;rw [<- hy];exact hx'.out
     case measure => simp [intOf]; omega
   ·have i0 : decide ((j : Int) < (n5 : Int)) = false := by simp; omega
    have hnot : Hid (nm ∉ there.map (·.1)) := Hd (by
     intro hm;obtain ⟨y, hy, hyn⟩ := List.mem_map.1 hm;obtain ⟨i, hi⟩ := List.mem_iff_getElem?.1 hy;have hil := (List.getElem?_eq_some_iff.1 hi).1;have := hth3.out.len
     exact hno.out i y (by omega) hi hyn)
    have hs4 := Hd (hs3.out.below hb.out);have hg4 := Hd (hg3.out.trans (grown_in hb.out));have hr4 := Hd (hr3.out.below hb.out);have hab4 := Hd (hab3'.out.below hb.out);clear hno hb a2;go_wp2_with fail;refine (blanks_any wr b S (k + n1) A c vo hs4.out (by omega) hS).mono ?_;rintro e w5 ⟨rfl, hs5, hg5⟩;have hB1 := blanks_le (S.drop (k + n1));rw [List.length_drop] at hB1;obtain ⟨B1, hB1e⟩ : ∃ B1, blanks (S.drop (k + n1)) = B1 := ⟨_, rfl⟩;rw [hB1e] at hs5 hB1;have hB1' := Hd hB1e;have hs5' := Hd hs5;have hg5' := Hd (hg4.out.trans hg5);have hr5 := Hd (hr4.out.on hg5 hbT.symm);have hab5 := Hd (hab4.out.on hg5 hbT2.symm);clear hs5 hg5 hB1e;go_wp2_with fail;refine (eat_any w5 b S (k + n1 + B1) A c vo hs5'.out (by omega) hS [61] (by decide)).mono ?_;rintro e w6 ⟨hg6, hG⟩
    cases hea : eat [61] (S.drop (k + n1 + B1)) with
    | bad ec eo =>
     rw [hea] at hG;subst hG;go_wp2_with fail;refine ⟨rfl, hg5'.out.trans hg6, ?_⟩;have := hR'.out;rw [attr_eat hnm'.out hnot.out hB1'.out hea] at this;rw [<- this];exact pan_eq (by omega)
    | ok u m =>
     rw [hea] at hG;obtain ⟨rfl, hs6⟩ := hG;obtain ⟨hm1, hm2⟩ := eat_len hea;rw [List.length_drop] at hm2;have hs6' := Hd hs6;have hg6' := Hd (hg5'.out.trans hg6);have hr6 := Hd (hr5.out.on hg6 hbT.symm);have hab6 := Hd (hab5.out.on hg6 hbT2.symm);have hea' := Hd hea;clear hs6 hg6 hea hm1;go_wp2_with fail;refine (blanks_any w6 b S (k + n1 + B1 + m) A c vo hs6'.out (by omega) hS).mono ?_;rintro e w7 ⟨rfl, hs7, hg7⟩;have hB2 := blanks_le (S.drop (k + n1 + B1 + m));rw [List.length_drop] at hB2;obtain ⟨B2, hB2e⟩ : ∃ B2, blanks (S.drop (k + n1 + B1 + m)) = B2 := ⟨_, rfl⟩;rw [hB2e] at hs7 hB2;have hB2' := Hd hB2e;have hs7' := Hd hs7;have hg7' := Hd (hg6'.out.trans hg7);have hr7 := Hd (hr6.out.on hg7 hbT.symm);have hab7 := Hd (hab6.out.on hg7 hbT2.symm);clear hs7 hg7 hB2e;go_wp2_with fail;refine (value_any w7 b S (k + n1 + B1 + m + B2) A c vo hs7'.out (by omega) hS).mono ?_;rintro e w8 ⟨hg8, hG⟩
     cases hva : value (S.drop (k + n1 + B1 + m + B2)) with
     | bad ec eo =>
      rw [hva] at hG;subst hG;go_wp2_with fail;refine ⟨rfl, hg7'.out.trans hg8, ?_⟩;have := hR'.out;rw [attr_value hnm'.out hnot.out hB1'.out hea'.out hB2'.out hva] at this;rw [<- this];exact pan_eq (by omega)
     | ok v n =>
      rw [hva] at hG;obtain ⟨rfl, hs8⟩ := hG;have hs8' := Hd hs8;have hg8' := Hd (hg7'.out.trans hg8);have hr8 := Hd (hr7.out.on hg8 hbT.symm);have hab8 := Hd (hab7.out.on hg8 hbT2.symm);have hva' := Hd hva;clear hs8 hg8 hva;have z0 := hab8.out.c0;have z1 := hab8.out.c1;have y0 := hr8.out.c0;have y1 := hr8.out.c1;have zf := hab8.out.frozen 1;have yf0 := hr8.out.frozen 0;have yf1 := hr8.out.frozen 1;go_wp2_with fail;have hx8 : Ab (w8.setCell ⟨T2, 1, none⟩ (.string (strOf v))) T0 ⟨#[]⟩ ⟨#[]⟩ := hr8.out.on (grown_set w8 ⟨T2, 1, none⟩ _) hTT
      have hfb : Below w.heap.size w8 (((w8.setCell ⟨T2, 1, none⟩ (.string (strOf v))).setCell ⟨T0, 0, none⟩ (.string (strOf nm))).setCell ⟨T0, 1, none⟩ (.string (strOf v))) :=
       (((Below.refl _ w8).setCell (p := ⟨T2, 1, none⟩) hT2lo _).setCell (p := ⟨T0, 0, none⟩) hTlo _).setCell (p := ⟨T0, 1, none⟩) hTlo _
      have hfar := h0.out.far hg8'.out hs8'.out hfb;refine bodyPost_ret (res_ab rfl (ab_set hx8) rfl) rfl ?_;refine ⟨hfar.2, ?_⟩;have := hR'.out;rw [attr_ok hnm'.out hnot.out hB1'.out hea'.out hB2'.out hva'.out] at this;rw [<- this];refine ⟨rfl, ?_⟩;rw [show k + (n1 + B1 + m + B2 + n) = k + n1 + B1 + m + B2 + n by omega];exact hfar.1
end
end Go.Proofs.YtokdnhdfmgfkeaaGreatDoor.Xl
end

section
namespace Go.Proofs.YtokdnhdfmgfkeaaGreatDoor.Xl
open Go.RowKit UtfW
theorem pan_eqI {c x y : Int} (h : x = y) : Ending.panicked [wr c x] = Ending.panicked [wr c y] := by rw [h]
def tkV (t : Tok) (va : Value) : Value := .agg #[.int .i64 (t.kind : Nat), .int .i64 (t.at_ : Nat), .string (strOf t.name), .string (strOf t.text), va]
def GivesT (w : World) (b : Nat) (S : Tx) (k : Nat) (A : Option Addr) (c : Nat) (vo : Value) (x : Out Tok) (e : Ending) (w' : World) : Prop :=
 w.grownBy w' (some b) /\ match x with
 | .bad cd o => e = .panicked [wr cd ((k + o : Nat) : Int)]
 | .ok t n => ∃ va, e = .returned (tkV { t with at_ := k } va) /\ Xc w' b S (k + n) A c vo /\ OwS AtEl 2 w' w.heap.size 55 va t.attrs
section
variable {S nm : Tx} {k n B m o : Nat} {ec : Int}
theorem endT_name (h : name (S.drop (k + 2)) = .bad ec o) : endT (S.drop k) = .bad ec (2 + o) := by
 unfold endT;rw [List.drop_drop, h]
theorem endT_eat (h : name (S.drop (k + 2)) = .ok nm n) (hB : blanks (S.drop (k + 2 + n)) = B) (he : eat [62] (S.drop (k + 2 + n + B)) = .bad ec o) : endT (S.drop k) = .bad ec (2 + n + B + o) := by
 unfold endT;rw [List.drop_drop, h];simp only [List.drop_drop, <- Nat.add_assoc, hB, he]
theorem endT_ok (h : name (S.drop (k + 2)) = .ok nm n) (hB : blanks (S.drop (k + 2 + n)) = B) (he : eat [62] (S.drop (k + 2 + n + B)) = .ok () m) : endT (S.drop k) = .ok ⟨3, 0, nm, [], []⟩ (2 + n + B + m) := by
 unfold endT;rw [List.drop_drop, h];simp only [List.drop_drop, <- Nat.add_assoc, hB, he]
end
section
variable (w : World) (b : Nat) (S : Tx) (k : Nat) (A : Option Addr) (c : Nat) (vo : Value)
set_option maxHeartbeats 2000000 in
set_option maxRecDepth 100000 in
theorem end_any (h : Xc w b S k A c vo) (hk : k + 2 <= S.length) (hS : S.length <= 65536) :
  Calls Tryz.prog 164 #[.pointer (some ⟨b, 0, none⟩)] w fun e w' => GivesT w b S k A c vo (endT (S.drop k)) e w' := by
 have hbw : b < w.heap.size := h.lt;have hba := below_alloc w (.cells #[.int .i64 0, .int .i64 0, .string ⟨#[]⟩, .string ⟨#[]⟩, .slice none 0 0] 87);have hrb := tb_new w 0 0 ⟨#[]⟩ ⟨#[]⟩ (.slice none 0 0);obtain ⟨T0, hT0⟩ : ∃ T0, w.heap.size = T0 := ⟨_, rfl⟩;obtain ⟨w1, hw1⟩ : ∃ w1, w.alloc (.cells #[.int .i64 0, .int .i64 0, .string ⟨#[]⟩, .string ⟨#[]⟩, .slice none 0 0] 87) = w1 := ⟨_, rfl⟩;rw [hw1] at hba hrb;rw [hT0] at hrb;have hs1 := Hd (h.below hba);have hba2 := below_alloc w1 (.cells #[.int .i64 3, .int .i64 (k : Nat), .string ⟨#[]⟩, .string ⟨#[]⟩, .slice none 0 0] 87);have htb := tb_new w1 3 (k : Nat) ⟨#[]⟩ ⟨#[]⟩ (.slice none 0 0);have hs2 := Hd (hs1.out.below hba2);have hg2 := Hd (grown_in (r := some b) (hba.trans (hba2.mono hba.size)));have hrb2 := Hd (hrb.below hba2);have hTT : T0 ≠ w1.heap.size := by have := hrb.lt; omega
 have hTT' := Hd hTT;have h1lo := Hd hba.size;have htb' := Hd htb;have h0 := Hd h;have hbT : b ≠ T0 := by omega
 have hT0' := Hd hT0;have c1 := hs1.out.c1;have c2 := hs2.out.c1;have f2 := hs2.out.frozen 1;have hset := hs2.out.set1 (k + 2);have hs3 := Hd hset.1;have hg3 := Hd (hg2.out.trans hset.2);obtain ⟨R, hR⟩ : ∃ R, endT (S.drop k) = R := ⟨_, rfl⟩;rw [hR];have hR' := Hd hR;clear h hba hba2 hrb htb hTT hset hR
 go_enter Tryz.func164, Tryz.ntmps164
 go_wp2_with fail;have e2 : ((k : Int) + 2) = ((k + 2 : Nat) : Int) := by omega
 rw [e2];have hT2b : Hid (w1.heap.size ≠ b) := Hd (by have := h1lo.out; omega);have htb3 := Hd (htb'.out.on (grown_set _ ⟨b, 1, none⟩ (.int .i64 ((k + 2 : Nat) : Int))) hT2b.out);have hrb3 := Hd (hrb2.out.on (grown_set _ ⟨b, 1, none⟩ (.int .i64 ((k + 2 : Nat) : Int))) hbT.symm);clear hs2 hg2 hrb2 htb' c1 c2 f2 e2;generalize (w1.alloc (.cells #[.int .i64 3, .int .i64 (k : Nat), .string ⟨#[]⟩, .string ⟨#[]⟩, .slice none 0 0] 87)).setCell ⟨b, 1, none⟩ (.int .i64 ((k + 2 : Nat) : Int)) = w3 at hs3 hg3 htb3 hrb3 ⊢;generalize w1.heap.size = T2 at htb3 hTT' hT2b h1lo ⊢;clear hs1;refine (name_any w3 b S (k + 2) A c vo hs3.out hk hS).mono ?_;rintro e w4 ⟨hg4, hG⟩
 cases hnm : name (S.drop (k + 2)) with
 | bad ec o =>
  rw [hnm] at hG;subst hG;go_wp2_with fail;refine ⟨rfl, hg3.out.trans hg4, ?_⟩;have := hR'.out;rw [endT_name hnm] at this;rw [<- this];exact pan_eqI (by omega)
 | ok nm n =>
  rw [hnm] at hG;obtain ⟨rfl, hs4⟩ := hG;have hnl := name_len hnm;have hn1 := hnl.1;have hn2 := hnl.2.1;rw [List.length_drop] at hn2;clear hnl;have htb4 := htb3.out.on hg4 hT2b.out;have hrb4 := hrb3.out.on hg4 hbT.symm;have hfb : Below w.heap.size w4 (w4.setCell ⟨T2, 2, none⟩ (.string (strOf nm))) := (Below.refl _ w4).setCell (p := ⟨T2, 2, none⟩) h1lo.out _;have hfar := h0.out.far (hg3.out.trans hg4) hs4 hfb;have hs5 := Hd hfar.1;have hg5 := Hd hfar.2;have htb5 := Hd (tb_set2 (nm' := strOf nm) htb4);have hrb5 := Hd (hrb4.on (grown_set w4 ⟨T2, 2, none⟩ (.string (strOf nm))) hTT'.out);have z2 := htb4.cell 2;have zf := htb4.frozen 2;have hnm' := Hd hnm;clear hs4 hg4 htb4 hrb4 hfb hfar hnm hs3 hg3 htb3 hrb3;go_wp2_with fail;generalize w4.setCell ⟨T2, 2, none⟩ (.string (strOf nm)) = w5 at hs5 hg5 htb5 hrb5 ⊢;clear z2 zf;refine (blanks_any w5 b S (k + 2 + n) A c vo hs5.out (by omega) hS).mono ?_;rintro e w6 ⟨rfl, hs6, hg6⟩;have hB1 := blanks_le (S.drop (k + 2 + n));rw [List.length_drop] at hB1;obtain ⟨B, hBe⟩ : ∃ B, blanks (S.drop (k + 2 + n)) = B := ⟨_, rfl⟩;rw [hBe] at hs6 hB1;have hB' := Hd hBe;have hs6' := Hd hs6;have hg6' := Hd (hg5.out.trans hg6);have htb6 := Hd (htb5.out.on hg6 hT2b.out);have hrb6 := Hd (hrb5.out.on hg6 hbT.symm);clear hs6 hg6 hBe;go_wp2_with fail;refine (eat_any w6 b S (k + 2 + n + B) A c vo hs6'.out (by omega) hS [62] (by decide)).mono ?_;rintro e w7 ⟨hg7, hG⟩
  cases hea : eat [62] (S.drop (k + 2 + n + B)) with
  | bad ec eo =>
   rw [hea] at hG;subst hG;go_wp2_with fail;refine ⟨rfl, hg6'.out.trans hg7, ?_⟩;have := hR'.out;rw [endT_eat hnm'.out hB'.out hea] at this;rw [<- this];exact pan_eqI (by omega)
  | ok u m =>
   rw [hea] at hG;obtain ⟨rfl, hs7⟩ := hG;have hs7' := Hd hs7;have hg7' := Hd (hg6'.out.trans hg7);have htb7 := Hd (htb6.out.on hg7 hT2b.out);have hrb7 := Hd (hrb6.out.on hg7 hbT.symm);have hea' := Hd hea;clear hs7 hg7 hea;have z0 := htb7.out.cell 0;have z1 := htb7.out.cell 1;have z2 := htb7.out.cell 2;have z3 := htb7.out.cell 3;have z4 := htb7.out.cell 4;have y0 := hrb7.out.cell 0;have y1 := hrb7.out.cell 1;have y2 := hrb7.out.cell 2;have y3 := hrb7.out.cell 3;have y4 := hrb7.out.cell 4;have g0 := hrb7.out.frozen 0;have g1 := hrb7.out.frozen 1;have g2 := hrb7.out.frozen 2;have g3 := hrb7.out.frozen 3;have g4 := hrb7.out.frozen 4;go_wp2_with fail;have hTlo : w.heap.size <= T0 := by have := hT0'.out; omega
   have hset := tb_set (kd' := 3) (at' := (k : Nat)) (nm' := strOf nm) (tx' := ⟨#[]⟩) (va' := .slice none 0 0) hrb7.out;have hfb := (((((Below.refl w.heap.size w7).setCell (p := ⟨T0, 0, none⟩) hTlo (.int .i64 3)).setCell (p := ⟨T0, 1, none⟩) hTlo (.int .i64 (k : Nat))).setCell (p := ⟨T0, 2, none⟩) hTlo (.string (strOf nm))).setCell (p := ⟨T0, 3, none⟩) hTlo (.string ⟨#[]⟩)).setCell (p := ⟨T0, 4, none⟩) hTlo (.slice none 0 0);have hfar := h0.out.far hg7'.out hs7'.out hfb;refine bodyPost_ret (res_tb rfl hset rfl) rfl ?_;refine ⟨hfar.2, ?_⟩;have := hR'.out;rw [endT_ok hnm'.out hB'.out hea'.out] at this;rw [<- this];refine ⟨.slice none 0 0, rfl, ?_, OwS.nil _ _ _⟩;rw [show k + (2 + n + B + m) = k + 2 + n + B + m by omega];exact hfar.1
end
end Go.Proofs.YtokdnhdfmgfkeaaGreatDoor.Xl
end

section
namespace Go.Proofs.YtokdnhdfmgfkeaaGreatDoor.Xl
open Go.RowKit UtfW
theorem below_put' {w w' : World} {B T : Nat} (h : Below B w w') (hT : B <= T) (kd at_ : Int) (nm tx : ByteArray) (va : Value) : Below B w (((((w'.setCell ⟨T, 0, none⟩ (.int .i64 kd)).setCell ⟨T, 1, none⟩ (.int .i64 at_)).setCell ⟨T, 2, none⟩ (.string nm)).setCell ⟨T, 3, none⟩ (.string tx)).setCell ⟨T, 4, none⟩ va) :=
 ((((h.setCell (p := ⟨T, 0, none⟩) hT _).setCell (p := ⟨T, 1, none⟩) hT _).setCell (p := ⟨T, 2, none⟩) hT _).setCell (p := ⟨T, 3, none⟩) hT _).setCell (p := ⟨T, 4, none⟩) hT _
theorem prefix_head {x y : UInt8} {t p : Tx} (h : Lib.hasPrefix (x :: t) (y :: p) = true) : y = x := by
 have h' : List.isPrefixOf (y :: p) (x :: t) = true := h;rw [List.isPrefixOf, Bool.and_eq_true, beq_iff_eq] at h';exact h'.1
section
variable (w : World) (b : Nat) (S : Tx) (k : Nat) (A : Option Addr) (c : Nat) (vo : Value)
set_option maxHeartbeats 2000000 in
set_option maxRecDepth 100000 in
theorem characters_any (h : Xc w b S k A c vo) (hk : k <= S.length) (hS : S.length <= 65536) :
  Calls Tryz.prog 161 #[.pointer (some ⟨b, 0, none⟩)] w fun e w' => GivesT w b S k A c vo (chars (S.drop k)) e w' := by
 have hbw : b < w.heap.size := h.lt;have hba := below_alloc w (.cells #[.int .i64 0, .int .i64 0, .string ⟨#[]⟩, .string ⟨#[]⟩, .slice none 0 0] 87);have hrb := tb_new w 0 0 ⟨#[]⟩ ⟨#[]⟩ (.slice none 0 0);obtain ⟨T0, hT0⟩ : ∃ T0, w.heap.size = T0 := ⟨_, rfl⟩;obtain ⟨w1, hw1⟩ : ∃ w1, w.alloc (.cells #[.int .i64 0, .int .i64 0, .string ⟨#[]⟩, .string ⟨#[]⟩, .slice none 0 0] 87) = w1 := ⟨_, rfl⟩;rw [hw1] at hba hrb;rw [hT0] at hrb;have hs1 := Hd (h.below hba);have hba2 := below_alloc w1 (.cells #[.int .i64 4, .int .i64 (k : Nat), .string ⟨#[]⟩, .string ⟨#[]⟩, .slice none 0 0] 87);have htb := tb_new w1 4 (k : Nat) ⟨#[]⟩ ⟨#[]⟩ (.slice none 0 0);have hs2 := Hd (hs1.out.below hba2);have hg2 := Hd (grown_in (r := some b) (hba.trans (hba2.mono hba.size)));have hrb2 := Hd (hrb.below hba2);have hTT : T0 ≠ w1.heap.size := by have := hrb.lt; omega
 have hTT' := Hd hTT;have h1lo := Hd hba.size;have htb' := Hd htb;have h0 := Hd h;have hbT : b ≠ T0 := by omega
 have hT0' := Hd hT0;have c1 := hs1.out.c1;have c2 := hs2.out.c1;have f2 := hs2.out.frozen 1;obtain ⟨R, hR⟩ : ∃ R, chars (S.drop k) = R := ⟨_, rfl⟩;rw [hR];have hR' := Hd hR;have hT2b : Hid (w1.heap.size ≠ b) := Hd (by have := h1lo.out; omega);clear h hba hba2 hrb htb hTT hR
 go_enter Tryz.func161, Tryz.ntmps161
 go_wp2_with fail;clear c1 c2 f2;generalize w1.alloc (.cells #[.int .i64 4, .int .i64 (k : Nat), .string ⟨#[]⟩, .string ⟨#[]⟩, .slice none 0 0] 87) = w2 at hs2 hg2 htb' hrb2 ⊢;generalize w1.heap.size = T2 at htb' hTT' hT2b h1lo ⊢;clear hs1;have hlt2 := Hd htb'.out.lt;have hbw2 : Hid (b < w2.heap.size) := Hd hs2.out.lt
 go_loopg [4, 5] (S.length + 1) (fun m v4 v5 wr => ∃ (q f n c4 : Nat) (A4 : Option Addr) (o : Tx), k <= q /\ q <= S.length /\ S.length - q < m /\ v4 = .slice A4 n c4 /\ o.length <= 4 * (q - k) /\ Hid (S.length - q < f) /\ Hid ((textF f (S.drop q) o).shift (q - k) = textF (S.length - k + 1) (S.drop k) []) /\ Hid (Xc wr b S q A c vo) /\ Hid (w2.grownBy wr (some b)) /\ Hid (OwB wr w2.heap.size 5 (.slice A4 n c4) o))
 case atStart =>
  exact ⟨k, S.length - k + 1, 0, 0, none, [], by omega, hk, by omega, rfl, by simp, Hd (by omega), Hd (by rw [Nat.sub_self, Out.shift_zero]), hs2, Hd (World.grownBy.refl _ _), Hd (OwB.nil _ _ _)⟩
 case round =>
  obtain ⟨q, f, n, c4, A4, o, hkq, hql, hms, rfl, hol, hf, hr, hs, hg, ho⟩ := hrel;have c0 := hs.out.c0;have c1 := hs.out.c1;obtain ⟨f', rfl⟩ : ∃ f', f = f' + 1 := ⟨f - 1, by have := hf.out; omega⟩
  by_cases hlt : q < S.length
  ·have i0 : decide ((q : Int) < (S.length : Int)) = true := by simp; omega
   obtain ⟨ba, off, rfl, hx, hcell⟩ := hs.out.at_ hlt;generalize S[q] = x at hx hcell;have hx' := Hd hx;clear hx
   by_cases j6 : x = 60
   ·have j60 : ((x.toNat : Int) != 60) = false := by rw [j6]; rfl
    have hend : Hid (textF (f' + 1) (S.drop q) o = .ok o 0) := Hd (by rw [drop_at hx'.out, textF, if_pos j6]);clear j6;go_wp2_with fail
    go_big_quiet (fail)
    have hs4 := Hd (hs.out.below (Joins.below_draws _ wr nq));have hg4 := Hd (hg.out.trans (grown_in (Joins.below_draws _ wr nq)));have ho4 := Hd (OwB.below ho.out (Joins.below_draws _ wr nq));generalize wr.drewN nq = w4 at hs4 hg4 ho4 ⊢;clear hs hg ho c0 c1;have hcv : (convert 41 9 (.slice A4 n c4)).run Tryz.prog w4 = .ok (.string (strOf o)) w4 := Bs.conv (OwB.bs ho4.out) Tryz.underlying41 Tryz.underlying5 Tryz.underlying9;have htb4 := htb'.out.on hg4.out hT2b.out;have hrb4 := hrb2.out.on hg4.out hbT.symm;have z3 := htb4.cell 3;have zf := htb4.frozen 3;have hrb5 := Hd (hrb4.on (grown_set w4 ⟨T2, 3, none⟩ (.string (strOf o))) hTT'.out);have htb5 := Hd (tb_set3 (tx' := strOf o) htb4);have hfb : Below w.heap.size w4 (w4.setCell ⟨T2, 3, none⟩ (.string (strOf o))) := (Below.refl _ w4).setCell (p := ⟨T2, 3, none⟩) h1lo.out _;have hfar := h0.out.far (hg2.out.trans hg4.out) hs4.out hfb;have hs5 := Hd hfar.1;have hg5 := Hd hfar.2;clear htb4 hrb4 hfb hfar
    go_upto_region 17 with fail
    clear hcv z3 zf;generalize w4.setCell ⟨T2, 3, none⟩ (.string (strOf o)) = w5 at hs5 hg5 htb5 hrb5 ⊢;have z0 := htb5.out.cell 0;have z1 := htb5.out.cell 1;have z2 := htb5.out.cell 2;have z3 := htb5.out.cell 3;have z4 := htb5.out.cell 4;have y0 := hrb5.out.cell 0;have g0 := hrb5.out.frozen 0;have y1 := hrb5.out.cell 1;have g1 := hrb5.out.frozen 1;have y2 := hrb5.out.cell 2;have g2 := hrb5.out.frozen 2;have y3 := hrb5.out.cell 3;have g3 := hrb5.out.frozen 3;have y4 := hrb5.out.cell 4;have g4 := hrb5.out.frozen 4;go_wp2_with fail;have hTlo : w.heap.size <= T0 := by have := hT0'.out; omega
    have hset := tb_set (kd' := 4) (at' := (k : Nat)) (nm' := ⟨#[]⟩) (tx' := strOf o) (va' := .slice none 0 0) hrb5.out;have hfb := below_put' (Below.refl w.heap.size w5) hTlo 4 (k : Nat) ⟨#[]⟩ (strOf o) (.slice none 0 0);have hfar := h0.out.far hg5.out hs5.out hfb;refine bodyPost_ret (res_tb rfl hset rfl) rfl ?_;refine ⟨hfar.2, ?_⟩;have := hr.out;rw [hend.out] at this;have hR2 := hR'.out;unfold chars at hR2;rw [List.length_drop, <- this] at hR2;rw [<- hR2];refine ⟨.slice none 0 0, rfl, ?_, OwS.nil _ _ _⟩;rw [show k + (q - k + 0) = q by omega];exact hfar.1
   have j60 : ((x.toNat : Int) == 60) = false := by rw [show (60 : Int) = ((60 : UInt8).toNat : Int) from rfl, byte_eq, decide_eq_false j6]
   have m60 : ((x.toNat : Int) != 60) = true := by unfold bne; rw [j60]; rfl
   have j6' := Hd j6;clear j6 j60;go_wp2_with fail
   go_big_quiet (fail)
   have hs3 := Hd (hs.out.below (Joins.below_draws _ wr nq));have hg3 := Hd (hg.out.trans (grown_in (Joins.below_draws _ wr nq)));have ho3 := Hd (OwB.below ho.out (Joins.below_draws _ wr nq));generalize wr.drewN nq = w3 at hs3 hg3 ho3 ⊢;clear hs hg ho c0 c1 hcell m60 i0;have c0 := hs3.out.c0;have c1 := hs3.out.c1
   have hcell : w3.cell? ⟨ba, off + q, none⟩ = some (.int .u8 (x.toNat : Int)) := by
    obtain ⟨ba', off', he, hy, hc⟩ := hs3.out.at_ hlt;injection he with he;injection he with e1 e2;rw [hx'.out] at hy;injection hy with hy;rw [e1, e2, hy];exact hc
   go_wp2_with fail
   go_big_quiet (fail)
   have hs4 := Hd (hs3.out.below (Joins.below_draws _ w3 nq));have hg4 := Hd (hg3.out.trans (grown_in (Joins.below_draws _ w3 nq)));have ho4 := Hd (OwB.below ho3.out (Joins.below_draws _ w3 nq));generalize w3.drewN nq = w4 at hs4 hg4 ho4 ⊢;clear hs3 hg3 ho3 c0 c1 hcell;have c1 := hs4.out.c1;have f1 := hs4.out.frozen 1;have hon : o.length = n := (OwB.bs ho4.out).len
   by_cases j3 : x = 38
   ·have j38 : ((x.toNat : Int) == 38) = true := by rw [j3]; rfl
    have hx38 : S[q]? = some 38 := by rw [<- j3]; exact hx'.out
    have hx38' := Hd hx38;have j3' := Hd j3;clear hx38 j3;go_wp2_with fail;refine (reference_any w4 b S q _ c vo hs4.out hx38'.out hS).mono ?_;rintro e w5 ⟨hg5, hG⟩
    cases hrf : refR (S.drop (q + 1)) with
    | bad ec eo =>
     rw [hrf] at hG;subst hG;go_wp2_with fail;refine ⟨rfl, hg2.out.trans (hg4.out.trans hg5), ?_⟩;have := hr.out;rw [drop_at hx'.out, textF, if_neg j6'.out, if_pos j3'.out, hrf] at this;have hR2 := hR'.out;unfold chars at hR2;rw [List.length_drop, <- this] at hR2;rw [<- hR2];exact pan_eq (by omega)
    | ok v m =>
     rw [hrf] at hG;obtain ⟨rfl, hs5⟩ := hG;have hvl := refR_v hrf;have hml := refR_len hrf;rw [List.length_drop] at hml;have hs5' := Hd hs5;have hg45 := Hd (hg4.out.trans hg5);have ho5 := Hd (ow_kept ho4.out hg5 hbw2.out);have hrf' := Hd hrf;clear hs5 hg5 hrf c1 f1 hs4 hg4 ho4
     go_wp2_with (at_builtin; apply stop_here)
     refine Stop.go (append_string w5 rfl _ _ rfl w2.heap.size _ o rfl ho5.out v rfl (by omega) hg45.out.size ?_);intro v6 w6 ho6 hb6;obtain ⟨A6, c6, rfl⟩ := ownsRow_form ho6;have hs6 := hs2.out.far hg45.out hs5'.out hb6;have hss6 := Hd hs6.1;have hgg6 := Hd hs6.2;have ho6' := Hd ho6;clear ho6 hb6 hs6 hs5' hg45 ho5;go_wp2_with fail
     go_roundg (S.length - (q + m) + 1)
     case measure => omega
     case rel =>
      refine ⟨q + m, f', (o ++ v).length, c6, A6, o ++ v, by omega, by omega, by omega, by rw [List.length_append, hon], by rw [List.length_append]; omega, Hd (by have := hf.out; omega), Hd ?_, hss6, hgg6, ho6'⟩;have := hr.out;rw [drop_at hx'.out, textF, if_neg j6'.out, if_pos j3'.out, hrf'.out] at this;simp only at this;rw [Out.shift_shift, <- drop_at hx'.out, List.drop_drop] at this;rw [show q + m - k = q - k + m by omega];exact this
   have j38 : ((x.toNat : Int) == 38) = false := by
    have hj : ¬ x = 38 := j3;rw [show (38 : Int) = ((38 : UInt8).toNat : Int) from rfl, byte_eq, decide_eq_false hj]
   have j3' := Hd j3;clear j3
   by_cases j13 : x = 13
   ·have k13 : ((x.toNat : Int) == 13) = true := by rw [j13]; rfl
    have hli : Hid ((textF f' (S.drop (q + line (S.drop q))) (o ++ [10])).shift (q + line (S.drop q) - k) = textF (S.length - k + 1) (S.drop k) []) := Hd (by
     have := hr.out;rw [drop_at hx'.out, textF, if_neg j6'.out, if_neg j3'.out, if_pos j13, Out.shift_shift, <- drop_at hx'.out, List.drop_drop] at this;rw [show q + line (S.drop q) - k = q - k + line (S.drop q) by omega]
     exact this)
    have hline : 1 <= line (S.drop q) /\ q + line (S.drop q) <= S.length := by
     have := line_len (c := x) (S.drop (q + 1));rw [<- drop_at hx'.out, List.length_drop] at this;omega
    obtain ⟨LL, hLL⟩ : ∃ LL, line (S.drop q) = LL := ⟨_, rfl⟩;rw [hLL] at hli hline;have hLL' := Hd hLL;clear hLL j13;go_wp2_with fail;refine (line_any w4 b S q _ c vo hs4.out hlt hS).mono ?_;rintro e w5 ⟨rfl, hs5, hg5⟩;rw [hLL'.out] at hs5;have hs5' := Hd hs5;have hg45 := Hd (hg4.out.trans hg5);have ho5 := Hd (ow_kept ho4.out hg5 hbw2.out);clear hs5 hg5 c1 f1 hs4 hg4 ho4
    go_wp2_with (at_builtin; apply stop_here)
    refine Stop.go (append_bytes _ 41 5 Tryz.underlying41 info_u8 rfl _ _ rfl w2.heap.size _ o rfl (OwB.below ho5.out (below_alloc _ _)) _ _ _ [10] rfl (bs_lit _ _ _ _ _ _ rfl (by decide) rfl) (n + 1) (by rw [hon]) (by omega) (Nat.le_trans hg45.out.size (below_alloc _ _).size) ?_);intro A6 c6 w6 ho6 _ hb6';have hb6 : Below w2.heap.size w5 w6 := ((below_alloc w5 _).mono hg45.out.size).trans hb6';have hs6 := hs2.out.far hg45.out hs5'.out hb6;have hss6 := Hd hs6.1;have hgg6 := Hd hs6.2;have ho6' := Hd ho6;clear ho6 hb6 hb6' hs6;go_wp2_with fail
    go_roundg (S.length - (q + LL) + 1)
    case measure => omega
    case rel => exact ⟨q + LL, f', n + 1, c6, A6, o ++ [10], by omega, by omega, by omega, rfl, by rw [List.length_append]; simp; omega, Hd (by have := hf.out; omega), hli, hss6, hgg6, ho6'⟩
   have k13 : ((x.toNat : Int) == 13) = false := by rw [show (13 : Int) = ((13 : UInt8).toNat : Int) from rfl, byte_eq, decide_eq_false j13]
   by_cases hpx : Lib.hasPrefix (S.drop q) [93, 93, 62] = true
   ·have hx93 : x = 93 := by
     rw [drop_at hx'.out] at hpx;exact (prefix_head hpx).symm
    have k93 : ((x.toNat : Int) == 93) = true := by rw [hx93]; rfl
    have hpx' := Hd hpx
    have hbad : Hid (k + (q - k) = q /\ Out.bad 2 (q - k) = textF (S.length - k + 1) (S.drop k) []) := Hd ⟨by omega, by
     have := hr.out;rw [drop_at hx'.out, textF, if_neg j6'.out, if_neg j3'.out, if_neg j13, if_pos (by rw [<- drop_at hx'.out]; exact hpx)] at this
     exact this⟩
    clear hpx hx93 j13;go_wp2_with fail;refine (has_any w4 b S q _ c vo hs4.out (Nat.le_of_lt hlt) hS [93, 93, 62] (by decide)).mono ?_;rintro e w5 ⟨rfl, hb5⟩;rw [hpx'.out];have hs5 := Hd (hs4.out.below hb5);have hg5 := Hd (hg4.out.trans (grown_in hb5));clear hb5 c1 f1;have c1 := hs5.out.c1;go_wp2_with fail;refine (fail_any _ 2 (q : Nat)).mono ?_;rintro e w6 ⟨rfl, rfl⟩;go_wp2_with fail;refine ⟨rfl, hg2.out.trans hg5.out, ?_⟩;have hR2 := hR'.out;unfold chars at hR2;rw [List.length_drop, <- hbad.out.2] at hR2;rw [<- hR2];exact pan_eq (by omega)
   have hrr : Hid ((textF f' (S.drop (q + 1)) (o ++ [x])).shift (q + 1 - k) = textF (S.length - k + 1) (S.drop k) []) := Hd (by
    have := hr.out;rw [drop_at hx'.out, textF, if_neg j6'.out, if_neg j3'.out, if_neg j13, if_neg (by rw [<- drop_at hx'.out]; exact hpx), Out.shift_shift] at this;rw [show q + 1 - k = q - k + 1 by omega]
    exact this)
   have hpx' := Hd (Bool.eq_false_iff.2 hpx);clear j13 hpx
   by_cases j93 : x = 93
   ·have k93 : ((x.toNat : Int) == 93) = true := by rw [j93]; rfl
    clear j93;go_wp2_with fail;refine (has_any w4 b S q _ c vo hs4.out (Nat.le_of_lt hlt) hS [93, 93, 62] (by decide)).mono ?_;rintro e w5 ⟨rfl, hb5⟩;rw [hpx'.out];have hs5' := Hd (hs4.out.below hb5);have hg45 := Hd (hg4.out.trans (grown_in hb5));have ho5 := Hd (OwB.below ho4.out hb5);clear hb5 c1 f1 hs4 hg4 ho4
    go_wp2_with (at_builtin; apply stop_here)
    refine Stop.go (append_bytes _ 41 5 Tryz.underlying41 info_u8 rfl _ _ rfl w2.heap.size _ o rfl (OwB.below ho5.out (below_alloc _ _)) _ _ _ [x] rfl (bs_lit _ _ _ _ _ _ rfl (by decide) rfl) (n + 1) (by rw [hon]) (by omega) (Nat.le_trans hg45.out.size (below_alloc _ _).size) ?_);intro A6 c6 w6 ho6 _ hb6';have hb6 : Below w2.heap.size w5 w6 := ((below_alloc w5 _).mono hg45.out.size).trans hb6';have hs6 := hs2.out.far hg45.out hs5'.out hb6;have hss6 := Hd hs6.1;have hgg6 := Hd hs6.2;have ho6' := Hd ho6;clear ho6 hb6 hb6' hs6;have d1 := hss6.out.c1;have e1 := hss6.out.frozen 1;go_wp2_with fail;have h7 := hss6.out.set1 (q + 1);have hg7 := hgg6.out.trans h7.2;have ho7 := ow_kept ho6'.out (grown_set w6 ⟨b, 1, none⟩ (.int .i64 ((q + 1 : Nat) : Int))) hbw2.out
    go_roundg (S.length - (q + 1) + 1)
    case measure => omega
    case rel => exact ⟨q + 1, f', n + 1, c6, A6, o ++ [x], by omega, by omega, by omega, rfl, by rw [List.length_append]; simp; omega, Hd (by have := hf.out; omega), hrr, Hd h7.1, Hd hg7, Hd ho7⟩
   have k93 : ((x.toNat : Int) == 93) = false := by rw [show (93 : Int) = ((93 : UInt8).toNat : Int) from rfl, byte_eq, decide_eq_false j93]
   clear j93
   go_wp2_with (at_builtin; apply stop_here)
   refine Stop.go (append_bytes _ 41 5 Tryz.underlying41 info_u8 rfl _ _ rfl w2.heap.size _ o rfl (OwB.below ho4.out (below_alloc _ _)) _ _ _ [x] rfl (bs_lit _ _ _ _ _ _ rfl (by decide) rfl) (n + 1) (by rw [hon]) (by omega) (Nat.le_trans hg4.out.size (below_alloc _ _).size) ?_);intro A6 c6 w6 ho6 _ hb6';have hb6 : Below w2.heap.size w4 w6 := ((below_alloc w4 _).mono hg4.out.size).trans hb6';have hs6 := hs2.out.far hg4.out hs4.out hb6;have hss6 := Hd hs6.1;have hgg6 := Hd hs6.2;have ho6' := Hd ho6;clear ho6 hb6 hb6' hs6;have d1 := hss6.out.c1;have e1 := hss6.out.frozen 1;go_wp2_with fail;have h7 := hss6.out.set1 (q + 1);have hg7 := hgg6.out.trans h7.2;have ho7 := ow_kept ho6'.out (grown_set w6 ⟨b, 1, none⟩ (.int .i64 ((q + 1 : Nat) : Int))) hbw2.out
   go_roundg (S.length - (q + 1) + 1)
   case measure => omega
   case rel => exact ⟨q + 1, f', n + 1, c6, A6, o ++ [x], by omega, by omega, by omega, rfl, by rw [List.length_append]; simp; omega, Hd (by have := hf.out; omega), hrr, Hd h7.1, Hd hg7, Hd ho7⟩
  ·have i0 : decide ((q : Int) < (S.length : Int)) = false := by simp; omega
   have hend : Hid (textF (f' + 1) (S.drop q) o = .ok o 0) := Hd (by rw [drop_end (by omega)]; rfl);go_wp2_with fail
   go_big_quiet (fail)
   have hs4 := Hd (hs.out.below (Joins.below_draws _ wr nq));have hg4 := Hd (hg.out.trans (grown_in (Joins.below_draws _ wr nq)));have ho4 := Hd (OwB.below ho.out (Joins.below_draws _ wr nq));generalize wr.drewN nq = w4 at hs4 hg4 ho4 ⊢;clear hs hg ho c0 c1;have hcv : (convert 41 9 (.slice A4 n c4)).run Tryz.prog w4 = .ok (.string (strOf o)) w4 := Bs.conv (OwB.bs ho4.out) Tryz.underlying41 Tryz.underlying5 Tryz.underlying9;have htb4 := htb'.out.on hg4.out hT2b.out;have hrb4 := hrb2.out.on hg4.out hbT.symm;have z3 := htb4.cell 3;have zf := htb4.frozen 3;have hrb5 := Hd (hrb4.on (grown_set w4 ⟨T2, 3, none⟩ (.string (strOf o))) hTT'.out);have htb5 := Hd (tb_set3 (tx' := strOf o) htb4);have hfb : Below w.heap.size w4 (w4.setCell ⟨T2, 3, none⟩ (.string (strOf o))) := (Below.refl _ w4).setCell (p := ⟨T2, 3, none⟩) h1lo.out _;have hfar := h0.out.far (hg2.out.trans hg4.out) hs4.out hfb;have hs5 := Hd hfar.1;have hg5 := Hd hfar.2;clear htb4 hrb4 hfb hfar
   go_upto_region 17 with fail
   clear hcv z3 zf;generalize w4.setCell ⟨T2, 3, none⟩ (.string (strOf o)) = w5 at hs5 hg5 htb5 hrb5 ⊢;have z0 := htb5.out.cell 0;have z1 := htb5.out.cell 1;have z2 := htb5.out.cell 2;have z3 := htb5.out.cell 3;have z4 := htb5.out.cell 4;have y0 := hrb5.out.cell 0;have g0 := hrb5.out.frozen 0;have y1 := hrb5.out.cell 1;have g1 := hrb5.out.frozen 1;have y2 := hrb5.out.cell 2;have g2 := hrb5.out.frozen 2;have y3 := hrb5.out.cell 3;have g3 := hrb5.out.frozen 3;have y4 := hrb5.out.cell 4;have g4 := hrb5.out.frozen 4;go_wp2_with fail;have hTlo : w.heap.size <= T0 := by have := hT0'.out; omega
   have hset := tb_set (kd' := 4) (at' := (k : Nat)) (nm' := ⟨#[]⟩) (tx' := strOf o) (va' := .slice none 0 0) hrb5.out;have hfb := below_put' (Below.refl w.heap.size w5) hTlo 4 (k : Nat) ⟨#[]⟩ (strOf o) (.slice none 0 0);have hfar := h0.out.far hg5.out hs5.out hfb;refine bodyPost_ret (res_tb rfl hset rfl) rfl ?_;refine ⟨hfar.2, ?_⟩;have := hr.out;rw [hend.out] at this;have hR2 := hR'.out;unfold chars at hR2;rw [List.length_drop, <- this] at hR2;rw [<- hR2];refine ⟨.slice none 0 0, rfl, ?_, OwS.nil _ _ _⟩;rw [show k + (q - k + 0) = q by omega];exact hfar.1
end
end Go.Proofs.YtokdnhdfmgfkeaaGreatDoor.Xl
end

section
namespace Go.Proofs.YtokdnhdfmgfkeaaGreatDoor.Xl
open Go.RowKit UtfW
section
variable (w : World) (b : Nat) (S : Tx) (k : Nat) (A : Option Addr) (c : Nat) (vo : Value)
set_option maxRecDepth 100000 in
theorem upto_any (h : Xc w b S k A c vo) (hk : k <= S.length) (hS : S.length <= 65536) (p : Tx) (hp0 : 0 < p.length) (hp : p.length <= 65536) :
  Calls Tryz.prog 159 #[.pointer (some ⟨b, 0, none⟩), .string (strOf p)] w fun e w' => Gives w b S k A c vo (fun v => .string (strOf v)) (upto p (S.drop k)) e w' := by
 have hsz : (strOf p).size = p.length := strOf_size' p;have hlc := Rd.le h.bs;have hcm := Rd.max h.bs;have h' := Hd h;clear h;have hq : Hid (∀ x, Below w.heap.size w x -> x.cell? ⟨b, 0, none⟩ = some (.slice A S.length c) /\ x.cell? ⟨b, 1, none⟩ = some (.int .i64 (k : Nat))) := Hd fun x hx => ⟨(h'.out.below hx).c0, (h'.out.below hx).c1⟩
 have hdr : Hid (Below w.heap.size w w.drew) := Hd (Joins.below_draws w.heap.size w 1);obtain ⟨bd, cb, w1, hcv, hbs, hb1⟩ := conv_bytes w.drew p (by omega);have hb1' := Hd (hdr.out.trans (hb1.mono hdr.out.size))
 have hc : Hid (Calls Tryz.prog 177 #[.slice (offA A c k) (S.length - k) (c - k), .slice (some ⟨bd, 0, none⟩) p.length cb] w1 fun e w' => e = .returned (.int .i64 (idxV (find p (S.drop k)))) /\ ∃ q, w' = w1.drewN q) := Hd (by
  have hx := h'.out.below hb1'.out;have hf := Bs.from hx.bs hk (Nat.le_refl _);rw [List.take_of_length_le (by rw [List.length_drop]; omega)] at hf
  exact indexB_any w1 hx.us.ut hf hbs (by omega) hp0 (by omega))
 clear hbs hb1;unfold offA at hc;obtain ⟨A1, hA1⟩ : ∃ A1, (if c = k then A else Option.map (fun x => x.add k) A) = A1 := ⟨_, rfl⟩;rw [hA1] at hc
 cases hf : find p (S.drop k) with
 | none =>
  have hf' := Hd hf;rw [hf] at hc;unfold idxV at hc;clear hf
  go_enter Tryz.func159, Tryz.ntmps159
  go_wp2_with fail;refine Pl.wp_region_plan 11 (.take 0 (.take 1 (.take 2 (.take 3 (.take 4 (.take 5 (.take 6 (.take 7 (.take 8 (.take 9 (.run 10 .done))))))))))) (fun x => x.cell? ⟨b, 0, none⟩ = some (.slice A S.length c) /\ x.cell? ⟨b, 1, none⟩ = some (.int .i64 (k : Nat))) (by kernel_rfl) (by kernel_rfl) (by exact hq.out _ hdr.out) ?_;simp only [Pl.fill, Al_4, Al_5, Al_6, Al_7]
  iterate 10
   refine Pl.take_go ?_ (by rfl) (fun _ _ _ h => h) ?_ ?_
   rotate_left
   ·(intro x hSw; (try dsimp only at hSw); (try obtain ⟨s0, s1⟩ := hSw); go_simp; try with_reducible rfl)
   try simp only [Act.put, Al_1, Al_2, Al_3]
  refine Pl.run_go (fun K hK => ?_);go_simp;refine hK.out _ _ (Pl.more_go _ (fun _ h => h) (by exact hq.out _ hb1'.out) ?_);clear hK K;refine Pl.done_go ?_;go_wp2_with fail;refine hc.out.mono ?_;rintro e w2' ⟨rfl, q, rfl⟩;have hb2 := Hd (hb1'.out.trans ((Joins.below_draws _ w1 q).mono hb1'.out.size));have hs2 := Hd (h'.out.below hb2.out);generalize w1.drewN q = w2 at hb2 hs2 ⊢;clear hcv hc hq hdr;have c0 := hs2.out.c0;have c1 := hs2.out.c1;have f1 := hs2.out.frozen 1;go_wp2_with fail;refine (fail_any _ 6 S.length).mono ?_;rintro e w3 ⟨rfl, rfl⟩;go_wp2_with fail;refine ⟨rfl, grown_in hb2.out, ?_⟩;unfold upto;rw [hf'.out];simp only;rw [List.length_drop, Nat.add_sub_cancel' hk]
 | some n =>
  obtain ⟨hn1, hn2⟩ := find_len hf;rw [List.length_drop] at hn1;have hf' := Hd hf;have hn2' := Hd hn2;rw [hf] at hc;unfold idxV at hc;clear hf hn2;have i0 : decide ((n : Int) < 0) = false := by simp
  go_enter Tryz.func159, Tryz.ntmps159
  go_wp2_with fail;refine Pl.wp_region_plan 11 (.take 0 (.take 1 (.take 2 (.take 3 (.take 4 (.take 5 (.take 6 (.take 7 (.take 8 (.take 9 (.run 10 .done))))))))))) (fun x => x.cell? ⟨b, 0, none⟩ = some (.slice A S.length c) /\ x.cell? ⟨b, 1, none⟩ = some (.int .i64 (k : Nat))) (by kernel_rfl) (by kernel_rfl) (by exact hq.out _ hdr.out) ?_;simp only [Pl.fill, Al_4, Al_5, Al_6, Al_7]
  iterate 10
   refine Pl.take_go ?_ (by rfl) (fun _ _ _ h => h) ?_ ?_
   rotate_left
   ·(intro x hSw; (try dsimp only at hSw); (try obtain ⟨s0, s1⟩ := hSw); go_simp; try with_reducible rfl)
   try simp only [Act.put, Al_1, Al_2, Al_3]
  refine Pl.run_go (fun K hK => ?_);go_simp;refine hK.out _ _ (Pl.more_go _ (fun _ h => h) (by exact hq.out _ hb1'.out) ?_);clear hK K;refine Pl.done_go ?_;go_wp2_with fail;refine hc.out.mono ?_;rintro e w2' ⟨rfl, q, rfl⟩;have hb2 := Hd (hb1'.out.trans ((Joins.below_draws _ w1 q).mono hb1'.out.size));have hs2 := Hd (h'.out.below hb2.out);generalize w1.drewN q = w2 at hb2 hs2 ⊢;clear hcv hc hq hdr;have c0 := hs2.out.c0;have c1 := hs2.out.c1;have f1 := hs2.out.frozen 1;go_wp2_with fail;obtain ⟨m, hm⟩ : ∃ m, k + n = m := ⟨_, rfl⟩;have hmk := Hd (show m - k = n by omega);have hcut : Bs w2 (offA A c k) (m - k) (c - k) ((S.drop k).take (m - k)) := Bs.from hs2.out.bs (by omega) (by omega);unfold offA at hcut;rw [hA1] at hcut;have hmI : (k : Int) + (n : Int) = (m : Int) := by omega
  have q1 : (0 : Int) <= (k : Int) /\ (k : Int) <= (m : Int) := ⟨by omega, by omega⟩;have hq2 : Hid (∀ x, Below w2.heap.size w2 x -> x.cell? ⟨b, 0, none⟩ = some (.slice A S.length c) /\ x.cell? ⟨b, 1, none⟩ = some (.int .i64 (k : Nat))) := Hd fun x hx => ⟨(hs2.out.below hx).c0, (hs2.out.below hx).c1⟩
  have hdr2 : Hid (Below w2.heap.size w2 w2.drew) := Hd (Joins.below_draws w2.heap.size w2 1);refine Pl.wp_region_plan 14 (.take 0 (.take 1 (.take 2 (.take 3 (.take 4 (.take 5 (.take 6 (.take 7 (.take 8 (.take 9 (.take 10 (.take 11 (.take 12 (.take 13 .done)))))))))))))) (fun x => x.cell? ⟨b, 0, none⟩ = some (.slice A S.length c) /\ x.cell? ⟨b, 1, none⟩ = some (.int .i64 (k : Nat))) (by kernel_rfl) (by kernel_rfl) (by exact hq2.out _ hdr2.out) ?_;simp only [Pl.fill, Al_4, Al_5, Al_6, Al_7]
  iterate 14
   refine Pl.take_go ?_ (by rfl) (fun _ _ _ h => h) ?_ ?_
   rotate_left
   ·(intro x hSw; (try dsimp only at hSw); (try obtain ⟨s0, s1⟩ := hSw); go_simp; try with_reducible rfl)
   try simp only [Act.put, Al_1, Al_2, Al_3]
  refine Pl.done_go ?_;have hcv2 : (convert 41 9 (.slice A1 (m - k) (c - k))).run Tryz.prog w2.drew = .ok (.string (strOf ((S.drop k).take (m - k)))) w2.drew := Bs.conv (Bs.below hcut hdr2.out) Tryz.underlying41 Tryz.underlying5 Tryz.underlying9;have hs3 := Hd (hs2.out.below hdr2.out);have hb3 := Hd (hb2.out.trans (hdr2.out.mono hb2.out.size));have d1 := hs3.out.c1;have e1 := hs3.out.frozen 1;clear hdr2 hq2 c0 c1 f1;generalize w2.drew = w3 at hcv2 hs3 hb3 d1 e1 ⊢;go_wp2_with fail;go_ret;have h4 := hs3.out.set1 (k + (n + p.length));have ee : ((k : Int) + ((n : Int) + (p.length : Int))) = ((k + (n + p.length) : Nat) : Int) := by omega
  rw [ee];refine ⟨(grown_in hb3.out).trans h4.2, ?_⟩;unfold upto;rw [hf'.out, hmk.out];exact ⟨rfl, h4.1⟩
end
end Go.Proofs.YtokdnhdfmgfkeaaGreatDoor.Xl
end
