/- A put into a row of nodes, in memory. No program stands here. -/
import Derived.Test.YtokdnhdfmgfkeaaGreatDoorMXlLex
import Derived.Test.YtokdnhdfmgfkeaaGreatDoorMKyMath
import Derived.Test.YtokdnhdfmgfkeaaGreatDoorMRowS
import Derived.Test.YtokdnhdfmgfkeaaGreatDoorMXlCell
import Derived.Laws.OwnMore
section
namespace Go.Proofs.YtokdnhdfmgfkeaaGreatDoor.Xt
open Xl
open Go.Proofs.YtokdnhdfmgfkeaaGreatDoor (Ky.trim)

inductive Nd where
  | mk (kind : Int) (name text : Tx) (attrs : List At) (kids : List Nd)
def Nd.kind : Nd → Int | .mk k _ _ _ _ => k
def Nd.kids : Nd → List Nd | .mk _ _ _ _ ks => ks
def Nd.attrs : Nd → List At | .mk _ _ _ as_ _ => as_
def Nd.name : Nd → Tx | .mk _ n _ _ _ => n
def Nd.text : Nd → Tx | .mk _ _ t _ _ => t
def zero : Nd := .mk 0 [] [] [] []
def textN (s : Tx) : Nd := .mk 2 [] s [] []
structure Fr where
  name : Tx
  attrs : List At
  kids : List Nd
structure St where
  before : List Nd
  root : Nd
  has : Bool
  after : List Nd
  opn : List Fr
  text : Tx
  nodes : Nat
def St.start : St := ⟨[], zero, false, [], [], [], 0⟩

def put (s : St) (n : Nd) : St := match s.opn with
  | f :: F => { s with opn := { f with kids := f.kids ++ [n] } :: F }
  | [] => if n.kind = 1 then { s with root := n, has := true } else if s.has then { s with after := s.after ++ [n] } else { s with before := s.before ++ [n] }
def flush (s : St) : St := if s.text = [] then s else { put s (textN s.text) with text := [] }
def startT (s : St) (t : Tok) : Except Int St :=
  if 32 ≤ s.opn.length then .error 7
  else if 4096 < s.nodes + (1 + t.attrs.length) then .error 8
  else if s.opn = [] ∧ s.has = true then .error 2
  else
    let s2 := flush { s with nodes := s.nodes + (1 + t.attrs.length) }
    .ok { s2 with opn := ⟨t.name, t.attrs, []⟩ :: s2.opn, has := s2.has || decide (s2.opn = []) }
def endT (s : St) : St :=
  let s1 := flush s
  match s1.opn with
  | f :: F => put { s1 with opn := F } (.mk 1 f.name [] f.attrs f.kids)
  | [] => s1
def charsT (s : St) (t : Tok) : Except Int St :=
  if s.opn = [] then (if t.kind = 5 ∨ Ky.trim t.text ≠ [] then .error 2 else .ok s)
  else if s.text = [] ∧ t.text ≠ [] then (if 4096 < s.nodes + 1 then .error 8 else .ok { s with nodes := s.nodes + 1, text := s.text ++ t.text })
  else .ok { s with text := s.text ++ t.text }
def otherT (s : St) (t : Tok) (k : Int) : Except Int St :=
  if 4096 < s.nodes + 1 then .error 8 else .ok (put (flush { s with nodes := s.nodes + 1 }) (.mk k t.name t.text [] []))
def stepT (s : St) (t : Tok) : Except Int St :=
  if t.kind = 1 then startT s t
  else if t.kind = 2 then (startT s t).map endT
  else if t.kind = 3 then (match s.opn with
    | [] => .error 3
    | f :: _ => if f.name = t.name then .ok (endT s) else .error 3)
  else if t.kind = 6 then otherT s t 3
  else if t.kind = 7 then otherT s t 4
  else charsT s t
def runT : List Tok → St → Except (Int × Nat) St
  | [], s => .ok s
  | t :: l, s => match stepT s t with
    | .error e => .error (e, t.at_)
    | .ok s' => runT l s'
structure Doc where
  before : List Nd
  root : Nd
  after : List Nd
def noDoc : Doc := ⟨[], zero, []⟩
def parseT (len : Nat) (l : List Tok) : Int × Nat × Doc := match runT l .start with
  | .error (e, a) => (e, a, noDoc)
  | .ok s => if s.opn ≠ [] ∨ s.has = false then (6, len, noDoc) else (0, 0, ⟨s.before, s.root, s.after⟩)

/-! ### The document's way -/
theorem put_opn (s : St) (n : Nd) : (put s n).opn.map (·.name) = s.opn.map (·.name) := by
  unfold put
  split
  · rename_i f F h
    rw [h]
    rfl
  · split
    · rfl
    · split <;> rfl
theorem put_text (s : St) (n : Nd) : (put s n).text = s.text := by
  unfold put
  split
  · rfl
  · split
    · rfl
    · split <;> rfl
theorem put_has {s : St} {n : Nd} (h : s.opn = [] → n.kind ≠ 1 ∨ s.has = true) : (put s n).has = s.has := by
  unfold put
  split
  · rfl
  · rename_i h0
    split
    · rename_i h1
      rcases h h0 with h2 | h2
      · exact absurd h1 h2
      · exact h2.symm
    · split <;> rfl
theorem flush_opn (s : St) : (flush s).opn.map (·.name) = s.opn.map (·.name) := by
  unfold flush
  split
  · rfl
  · exact put_opn _ _
theorem flush_text (s : St) : (flush s).text = [] := by
  unfold flush
  split
  · assumption
  · rfl
theorem flush_has (s : St) : (flush s).has = s.has := by
  unfold flush
  split
  · rfl
  · exact put_has (n := textN s.text) fun _ => .inl (by simp [textN, Nd.kind])
theorem nil_of_names {s s' : St} (h : s.opn.map (·.name) = s'.opn.map (·.name)) : s.opn = [] ↔ s'.opn = [] := by
  rw [← List.map_eq_nil_iff (f := (·.name)), h, List.map_eq_nil_iff]
end Go.Proofs.YtokdnhdfmgfkeaaGreatDoor.Xt
end

section
namespace Go.Proofs.YtokdnhdfmgfkeaaGreatDoor.Xt
open Xl

/-! ### What is told of trees, plainly -/
mutual
def depthN : Nd → Nat
  | .mk k _ _ _ ks => if k = 1 then depthL ks + 1 else 0
def depthL : List Nd → Nat
  | [] => 0
  | x :: xs => max (depthN x) (depthL xs)
end
mutual
def countN : Nd → Nat
  | .mk _ _ _ as_ ks => 1 + as_.length + countL ks
def countL : List Nd → Nat
  | [] => 0
  | x :: xs => countN x + countL xs
end
theorem depthL_append : ∀ a b, depthL (a ++ b) = max (depthL a) (depthL b)
  | [], b => by simp [depthL]
  | x :: a, b => by simp only [List.cons_append, depthL, depthL_append a b]; omega
theorem countL_append : ∀ a b, countL (a ++ b) = countL a + countL b
  | [], b => by simp [countL]
  | x :: a, b => by simp only [List.cons_append, countL, countL_append a b]; omega
theorem kid_lt {k : Int} {nm tx : Tx} {as_ : List At} {ks : List Nd} {i : Nat} {x : Nd} (h : ks[i]? = some x) : SizeOf.sizeOf x < SizeOf.sizeOf (Nd.mk k nm tx as_ ks) := by
  have := List.sizeOf_lt_of_mem (List.mem_of_getElem? h)
  simp
  omega
end Go.Proofs.YtokdnhdfmgfkeaaGreatDoor.Xt
end

section
namespace Go.Proofs.YtokdnhdfmgfkeaaGreatDoor.Xt
open Go.RowKit UtfW Xl

theorem cell_same {w w' : World} {b i : Nat} (h : w'.heap[b]? = w.heap[b]?) : w'.cell? ⟨b, i, none⟩ = w.cell? ⟨b, i, none⟩ := by
  simp only [World.cell?, h]
theorem Sq.stay {α : Type} {El : World → List Value → α → Prop} {k : Nat} {w w' : World} {A : Option Addr} {n c : Nat} {l : List α} (h : Sq El k w A n c l) (hX : ∀ a, A = some a → 0 < n → w'.heap[a.block]? = w.heap[a.block]?) (hE : ∀ vs x, El w vs x → El w' vs x) : Sq El k w' A n c l :=
  ⟨h.len, h.le, h.max, h.nil, fun hn => by
    obtain ⟨b, off, e, hlt, hc⟩ := h.cell hn
    have hs : w'.heap[b]? = w.heap[b]? := hX ⟨b, off, none⟩ e hn
    refine ⟨b, off, e, ?_, fun i x hi => ?_⟩
    · rw [Array.getElem?_eq_getElem hlt] at hs
      exact (Array.getElem?_eq_some_iff.1 hs).1
    · obtain ⟨vs, h1, h2, h3⟩ := hc i x hi
      exact ⟨vs, h1, hE _ _ h2, fun j v hj => (cell_same hs).trans (h3 j v hj)⟩⟩

inductive NdI (X : Nat → Prop) (w : World) : List Value → Nd → Prop
  | mk (kind : Int) (nm tx : Tx) (as_ : List At) (ks : List Nd) (A : Option Addr) (ca : Nat) (A2 : Option Addr) (c2 : Nat) (f : Nat → List Value)
    (hA : Sq AtEl 2 w A as_.length ca as_) (hXA : ∀ a, A = some a → 0 < as_.length → X a.block)
    (hK : Sq (fun _ vs i => vs = f i) 5 w A2 ks.length c2 (List.range ks.length)) (hXK : ∀ a, A2 = some a → 0 < ks.length → X a.block)
    (hk : ∀ i x, ks[i]? = some x → NdI X w (f i) x) :
    NdI X w [.int .i64 kind, .string (strOf nm), .string (strOf tx), .slice A as_.length ca, .slice A2 ks.length c2] (.mk kind nm tx as_ ks)
abbrev NdE (X : Nat → Prop) : World → List Value → Nd → Prop := fun w => NdI X w

section
variable {X X' : Nat → Prop} {w w' : World} {vs : List Value} {n : Nd}
theorem NdI.stay (h : NdI X w vs n) (hX : ∀ k, X k → X' k ∧ w'.heap[k]? = w.heap[k]?) : NdI X' w' vs n := by
  induction h with
  | mk kind nm tx as_ ks A ca A2 c2 f hA hXA hK hXK hk ih =>
    exact .mk kind nm tx as_ ks A ca A2 c2 f (Sq.stay hA (fun a e h => (hX _ (hXA a e h)).2) (fun _ _ h => h)) (fun a e h => (hX _ (hXA a e h)).1) (Sq.stay hK (fun a e h => (hX _ (hXK a e h)).2) (fun _ _ h => h)) (fun a e h => (hX _ (hXK a e h)).1) ih
theorem NdI.one (h : NdI X w vs n) : ∀ u ∈ vs, u.oneCell' = true := by
  cases h
  intro u hu
  simp at hu
  rcases hu with rfl | rfl | rfl | rfl | rfl <;> rfl
theorem NdI.cells {kind : Int} {nm tx : Tx} {as_ : List At} {ks : List Nd} (h : NdI X w vs (.mk kind nm tx as_ ks)) : ∃ A ca A2 c2, vs = [.int .i64 kind, .string (strOf nm), .string (strOf tx), .slice A as_.length ca, .slice A2 ks.length c2] ∧
    Sq AtEl 2 w A as_.length ca as_ ∧ Sq (NdE X) 5 w A2 ks.length c2 ks ∧ (∀ a, A = some a → 0 < as_.length → X a.block) ∧ (∀ a, A2 = some a → 0 < ks.length → X a.block) := by
  cases h with
  | mk _ _ _ _ _ A ca A2 c2 f hA hXA hK hXK hk =>
    refine ⟨A, ca, A2, c2, rfl, hA, ?_, hXA, hXK⟩
    refine ⟨rfl, hK.le, hK.max, hK.nil, fun hn => ?_⟩
    obtain ⟨b, off, e, hlt, hc⟩ := hK.cell hn
    refine ⟨b, off, e, hlt, fun i x hi => ?_⟩
    have hil : i < ks.length := (List.getElem?_eq_some_iff.1 hi).1
    obtain ⟨us, h1, rfl, h3⟩ := hc i i (by rw [List.getElem?_range hil])
    exact ⟨f i, h1, hk i x hi, h3⟩
theorem NdI.make {kind : Int} {nm tx : Tx} {as_ : List At} {ks : List Nd} {A : Option Addr} {ca : Nat} {A2 : Option Addr} {c2 : Nat} (hA : Sq AtEl 2 w A as_.length ca as_) (hXA : ∀ a, A = some a → 0 < as_.length → X a.block)
    (hK : Sq (NdE X) 5 w A2 ks.length c2 ks) (hXK : ∀ a, A2 = some a → 0 < ks.length → X a.block) :
    NdI X w [.int .i64 kind, .string (strOf nm), .string (strOf tx), .slice A as_.length ca, .slice A2 ks.length c2] (.mk kind nm tx as_ ks) := by
  by_cases hn : 0 < ks.length
  · obtain ⟨b, off, e, hlt, hc⟩ := hK.cell hn
    have hf : ∀ i, ∃ us : List Value, i < ks.length → us.length = 5 ∧ (∀ x, ks[i]? = some x → NdI X w us x) ∧ ∀ j v, us[j]? = some v → w.cell? ⟨b, off + i * 5 + j, none⟩ = some v := fun i => by
      by_cases hi : i < ks.length
      · have hx : ks[i]? = some ks[i] := List.getElem?_eq_getElem hi
        obtain ⟨us, h1, h2, h3⟩ := hc i _ hx
        exact ⟨us, fun _ => ⟨h1, fun x hx2 => by rw [hx] at hx2; injection hx2 with hx2; rw [← hx2]; exact h2, h3⟩⟩
      · exact ⟨[], fun h => absurd h hi⟩
    obtain ⟨f, hf⟩ := Classical.axiomOfChoice hf
    refine .mk kind nm tx as_ ks A ca A2 c2 f hA hXA ⟨by simp, hK.le, hK.max, hK.nil, fun _ => ⟨b, off, e, hlt, fun i x hi => ?_⟩⟩ hXK (fun i x hi => ?_)
    · have hil : i < ks.length := by have := (List.getElem?_eq_some_iff.1 hi).1; simpa using this
      rw [List.getElem?_range hil] at hi
      injection hi with hi
      subst hi
      obtain ⟨g1, _, g3⟩ := hf i hil
      exact ⟨f i, g1, rfl, g3⟩
    · exact (hf i (List.getElem?_eq_some_iff.1 hi).1).2.1 x hi
  · have hks : ks = [] := List.eq_nil_of_length_eq_zero (by omega)
    subst hks
    exact .mk kind nm tx as_ [] A ca A2 c2 (fun _ => []) hA hXA ⟨rfl, hK.le, hK.max, hK.nil, fun h => absurd h hn⟩ hXK (fun i x hi => by simp at hi)
theorem NdI.later (h : NdI X w vs n) (hX : ∀ k, X k → k < w.heap.size) (hb : Below w.heap.size w w') : NdI X w' vs n := h.stay fun k hk => ⟨hk, hb.block k (hX k hk)⟩
end
end Go.Proofs.YtokdnhdfmgfkeaaGreatDoor.Xt
end

section
namespace Go.Proofs.YtokdnhdfmgfkeaaGreatDoor.Xt
open Go.RowKit UtfW Xl

inductive Ro where
  | no | bld | opn | bef | aft | nod (i : Nat) | kid (i : Nat) | fin
deriving DecidableEq
abbrev Rol := Nat → Ro
structure Pp where
  lo : Nat
  hi : Nat
instance : CoeOut Pp Nat := ⟨Pp.hi⟩
def Fin_ (ρ : Rol) (P0 : Pp) : Nat → Prop := fun k => (P0.lo ≤ k ∧ k < P0.hi) ∨ ρ k = .fin
theorem ownsRow_stay {w w' : World} {B E size n : Nat} {v : Value} {xs : List Value} (h : w.ownsRow B E size v n xs) (hs : ∀ k, v.ownBlock = some k → w'.heap[k]? = w.heap[k]?) : w'.ownsRow B E size v n xs := by
  obtain ⟨h1, h2⟩ := h
  refine ⟨h1, ?_⟩
  rcases h2 with h2 | ⟨g, cap, cur, hv, hB, hc, h3⟩
  · exact .inl h2
  · refine .inr ⟨g, cap, cur, hv, hB, (hs g (by rw [hv]; rfl)).trans hc, h3⟩
theorem OwS.stay {α : Type} {El : World → List Value → α → Prop} {El' : World → List Value → α → Prop} {k : Nat} {w w' : World} {B E : Nat} {v : Value} {l : List α} (h : OwS El k w B E v l) (hs : ∀ k, v.ownBlock = some k → w'.heap[k]? = w.heap[k]?) (hE : ∀ vs x, El w vs x → El' w' vs x) : OwS El' k w' B E v l := by
  obtain ⟨xs, h1, h2⟩ := h
  exact ⟨xs, ownsRow_stay h1 hs, h2.mono hE⟩
theorem ownsRow_shrink {w : World} {B E n : Nat} {A : Option Addr} {c : Nat} {xs : List Value} {x : Value} (h : w.ownsRow B E 1 (.slice A (n + 1) c) (n + 1) (xs ++ [x])) : w.ownsRow B E 1 (.slice A n c) n xs := by
  obtain ⟨h1, h2⟩ := h
  have hl : xs.length = n := by simp at h1; omega
  refine ⟨by omega, ?_⟩
  rcases h2 with ⟨_, h2⟩ | ⟨g, cap, cur, hv, hB, hc, hcap, hmax, hsz, ht⟩
  · omega
  · injection hv with e1 e2 e3
    subst e1; subst e3
    refine .inr ⟨g, c, cur, rfl, hB, hc, by omega, hmax, hsz, ?_⟩
    have : (cur.toList.take ((n + 1) * 1)).take n = (xs ++ [x]).take n := by rw [ht]
    rw [List.take_take, show min n ((n + 1) * 1) = n by omega, List.take_left' hl] at this
    rw [Nat.mul_one]
    exact this

section
variable (E PT BT : TypeId)
structure OwN (ρ : Rol) (P0 : Pp) (w : World) (r : Ro) (v : Value) (l : List Nd) : Prop where
  ow : OwS (NdE (Fin_ ρ P0)) 5 w P0 E v l
  rl : ∀ k, v.ownBlock = some k → ρ k = r
structure FrM (ρ : Rol) (P0 : Pp) (w : World) (i nb : Nat) (f : Fr) : Prop where
  ex : ∃ Aa ca kv, w.heap[nb]? = some (.cells #[.int .i64 1, .string (strOf f.name), .string ⟨#[]⟩, .slice Aa f.attrs.length ca, kv] E) ∧ Sq AtEl 2 w Aa f.attrs.length ca f.attrs ∧ (∀ a, Aa = some a → 0 < f.attrs.length → (P0.lo ≤ a.block ∧ a.block < P0.hi)) ∧ OwN E ρ P0 w (.kid i) kv f.kids
  rl : ρ nb = .nod i
structure BsR (H : Ro → Prop) (ρ : Rol) (P0 : Pp) (w : World) (b : Nat) (v1 v2 v3 : Value) (vr : List Value) (nb : List Nat) (s : St) : Prop where
  dom : ∀ k, ρ k ≠ .no → P0 ≤ k ∧ k < w.heap.size
  p0 : P0 ≤ w.heap.size
  rb : ρ b = .bld
  bef : ¬ H .bef → OwN E ρ P0 w .bef v1 s.before
  root : NdE (Fin_ ρ P0) w vr s.root
  aft : ¬ H .aft → OwN E ρ P0 w .aft v2 s.after
  opn : ¬ H .opn → w.ownsRow P0 PT 1 v3 nb.length (nb.map fun k => Value.pointer (some ⟨k, 0, none⟩)) ∧ ∀ k, v3.ownBlock = some k → ρ k = .opn
  len : nb.length = s.opn.length
  fr : ∀ i k f, ¬ H (.nod i) → ¬ H (.kid i) → nb[i]? = some k → s.opn.reverse[i]? = some f → FrM E ρ P0 w i k f
def Bb (w : World) (b : Nat) (v1 v2 v3 : Value) (vr : List Value) (s : St) : Prop := ∃ r0 r1 r2 r3 r4, vr = [r0, r1, r2, r3, r4] ∧ w.heap[b]? = some (.cells #[v1, r0, r1, r2, r3, r4, v2, v3, .string (strOf s.text), .int .i64 (s.nodes : Nat), .bool s.has] BT)

variable {E PT BT}
variable {ρ ρ' : Rol} {P0 : Pp} {w w' : World}
theorem fin_mem {k : Nat} (hd : ∀ k, ρ k ≠ .no → P0 ≤ k ∧ k < w.heap.size) (hp : P0 ≤ w.heap.size) (h : Fin_ ρ P0 k) : k < w.heap.size := by
  rcases h with h | h
  · omega
  · exact (hd k (by rw [h]; exact fun e => by cases e)).2
structure Turns (ρ ρ' : Rol) (P0 : Pp) (r : Ro) (w w' : World) : Prop where
  same : ∀ k, k < w.heap.size → (ρ k ≠ r ∨ k < P0) → w'.heap[k]? = w.heap[k]?
  role : ∀ k, ρ k ≠ .no → ρ' k = ρ k
  size : w.heap.size ≤ w'.heap.size
  dom : ∀ k, ρ' k ≠ .no → P0 ≤ k ∧ k < w'.heap.size
theorem NdI.turn {r : Ro} {vs : List Value} {n : Nd} (h : NdI (Fin_ ρ P0) w vs n) (hd : ∀ k, ρ k ≠ .no → P0 ≤ k ∧ k < w.heap.size) (hp : P0 ≤ w.heap.size) (hT : Turns ρ ρ' P0 r w w') (hr : r ≠ .fin) : NdI (Fin_ ρ' P0) w' vs n :=
  h.stay fun k hk => ⟨by
    rcases hk with hk | hk
    · exact .inl hk
    · exact .inr ((hT.role k (by rw [hk]; exact fun e => by cases e)).trans hk), hT.same k (fin_mem hd hp hk) (by
    rcases hk with hk | hk
    · exact .inr hk.2
    · exact .inl (by rw [hk]; exact hr.symm))⟩
theorem OwN.turn {r q : Ro} {v : Value} {l : List Nd} (h : OwN E ρ P0 w q v l) (hd : ∀ k, ρ k ≠ .no → P0 ≤ k ∧ k < w.heap.size) (hp : P0 ≤ w.heap.size) (hT : Turns ρ ρ' P0 r w w') (hr : r ≠ .fin) (hq : q ≠ r) (hn : q ≠ .no) : OwN E ρ' P0 w' q v l :=
  ⟨OwS.stay h.ow (fun k hk => hT.same k (OwS.lt h.ow k hk).2 (.inl (by rw [h.rl k hk]; exact hq))) (fun vs x hx => NdI.turn hx hd hp hT hr), fun k hk => (hT.role k (by rw [h.rl k hk]; exact hn)).trans (h.rl k hk)⟩
theorem FrM.turn {r : Ro} {i nb : Nat} {f : Fr} (h : FrM E ρ P0 w i nb f) (hd : ∀ k, ρ k ≠ .no → P0 ≤ k ∧ k < w.heap.size) (hp : P0 ≤ w.heap.size) (hT : Turns ρ ρ' P0 r w w') (hr : r ≠ .fin) (h1 : r ≠ .nod i) (h2 : r ≠ .kid i) : FrM E ρ' P0 w' i nb f := by
  obtain ⟨⟨Aa, ca, kv, g1, g2, g3, g4⟩, g5⟩ := h
  refine ⟨⟨Aa, ca, kv, (hT.same nb (Array.getElem?_eq_some_iff.1 g1).1 (.inl (by rw [g5]; exact h1.symm))).trans g1, Sq.stay g2 (fun a e hn => hT.same _ (by have := (g3 a e hn).2; omega) (.inr (g3 a e hn).2)) (fun _ _ h => h), g3, g4.turn hd hp hT hr h2.symm (fun e => by cases e)⟩, (hT.role nb (by rw [g5]; exact fun e => by cases e)).trans g5⟩

/-! ### Steps -/
variable {H H' : Ro → Prop} {b : Nat} {v1 v2 v3 : Value} {vr : List Value} {nb : List Nat} {s : St}
theorem BsR.weak (h : BsR E PT H ρ P0 w b v1 v2 v3 vr nb s) (hH : ∀ r, H r → H' r) : BsR E PT H' ρ P0 w b v1 v2 v3 vr nb s :=
  ⟨h.dom, h.p0, h.rb, fun k => h.bef fun e => k (hH _ e), h.root, fun k => h.aft fun e => k (hH _ e), fun k => h.opn fun e => k (hH _ e), h.len, fun i k f h1 h2 => h.fr i k f (fun e => h1 (hH _ e)) (fun e => h2 (hH _ e))⟩
theorem BsR.turn {r : Ro} (h : BsR E PT H ρ P0 w b v1 v2 v3 vr nb s) (hT : Turns ρ ρ' P0 r w w') (hr : r ≠ .fin) (hH : H r ∨ r = .bld ∨ r = .no) : BsR E PT H ρ' P0 w' b v1 v2 v3 vr nb s := by
  have hx : ∀ q, ¬ H q → q ≠ .bld → q ≠ .no → q ≠ r := fun q h1 h2 h3 e => by
    rcases hH with hH | hH | hH
    · exact h1 (e ▸ hH)
    · exact h2 (e.trans hH)
    · exact h3 (e.trans hH)
  refine ⟨hT.dom, Nat.le_trans h.p0 hT.size, (hT.role b (by rw [h.rb]; exact fun e => by cases e)).trans h.rb, fun k => (h.bef k).turn h.dom h.p0 hT hr (hx _ k (fun e => by cases e) (fun e => by cases e)) (fun e => by cases e),
    NdI.turn h.root h.dom h.p0 hT hr, fun k => (h.aft k).turn h.dom h.p0 hT hr (hx _ k (fun e => by cases e) (fun e => by cases e)) (fun e => by cases e), fun k => ?_, h.len, fun i k f h1 h2 g1 g2 => ?_⟩
  · obtain ⟨g1, g2⟩ := h.opn k
    refine ⟨ownsRow_stay g1 (fun j hj => hT.same j (World.ownsRow.lt g1 j hj).2 (.inl (by rw [g2 j hj]; exact hx _ k (fun e => by cases e) (fun e => by cases e)))), fun j hj => (hT.role j (by rw [g2 j hj]; exact fun e => by cases e)).trans (g2 j hj)⟩
  · exact (h.fr i k f h1 h2 g1 g2).turn h.dom h.p0 hT hr (hx _ h1 (fun e => by cases e) (fun e => by cases e)).symm (hx _ h2 (fun e => by cases e) (fun e => by cases e)).symm
def upd (ρ : Rol) (v : Value) (r : Ro) : Rol := fun k => if v.ownBlock = some k then r else ρ k
theorem Turns.below (hd : ∀ k, ρ k ≠ .no → P0 ≤ k ∧ k < w.heap.size) (hb : Below w.heap.size w w') (r : Ro) : Turns ρ ρ P0 r w w' :=
  ⟨fun k hk _ => hb.block k hk, fun _ _ => rfl, hb.size, fun k hk => ⟨(hd k hk).1, Nat.lt_of_lt_of_le (hd k hk).2 hb.size⟩⟩
theorem Turns.set (hd : ∀ k, ρ k ≠ .no → P0 ≤ k ∧ k < w.heap.size) {g : Nat} {r : Ro} (hg : ρ g = r) (hr : r ≠ .no) (i : Nat) (u : Value) : Turns ρ ρ P0 r w (w.setCell ⟨g, i, none⟩ u) := by
  have hG := grown_set w ⟨g, i, none⟩ u
  refine ⟨fun k hk h => hG.block k hk (fun e => ?_), fun _ _ => rfl, hG.size, fun k hk => ⟨(hd k hk).1, Nat.lt_of_lt_of_le (hd k hk).2 hG.size⟩⟩
  injection e with e
  have e' : k = g := e
  rcases h with h | h
  · exact h (by rw [e', hg])
  · have := (hd g (by rw [hg]; exact hr)).1
    omega
theorem Turns.grow (hd : ∀ k, ρ k ≠ .no → P0 ≤ k ∧ k < w.heap.size) (hp : P0 ≤ w.heap.size) {v v' : Value} {r : Ro} (hr : r ≠ .no) (hg : w.grownBy w' v.ownBlock) (hv : ∀ k, v.ownBlock = some k → ρ k = r) (hat : v'.ownBlock = v.ownBlock ∨ v'.ownBlock = some w.heap.size) (hlt : ∀ k, v'.ownBlock = some k → k < w'.heap.size) : Turns ρ (upd ρ v' r) P0 r w w' := by
  refine ⟨fun k hk h => hg.block k hk (fun e => ?_), fun k hk => ?_, hg.size, fun k hk => ?_⟩
  · have hk2 := hv k e.symm
    rcases h with h | h
    · exact h hk2
    · have := (hd k (by rw [hk2]; exact hr)).1
      omega
  · unfold upd
    split
    · rename_i e
      rcases hat with h | h
      · exact (hv k (h ▸ e)).symm
      · rw [h] at e
        injection e with e
        have := (hd k hk).2
        omega
    · rfl
  · unfold upd at hk
    split at hk
    · rename_i e
      refine ⟨?_, hlt k e⟩
      rcases hat with h | h
      · exact (hd k (by rw [hv k (h ▸ e)]; exact hr)).1
      · rw [h] at e
        injection e with e
        omega
    · exact ⟨(hd k hk).1, Nat.lt_of_lt_of_le (hd k hk).2 hg.size⟩
theorem OwN.grown {v v' : Value} {r : Ro} {l : List Nd} (hd : ∀ k, ρ k ≠ .no → P0 ≤ k ∧ k < w.heap.size) (hT : Turns ρ (upd ρ v' r) P0 r w w') (ho : OwS (NdE (Fin_ ρ P0)) 5 w' P0 E v' l) : OwN E (upd ρ v' r) P0 w' r v' l :=
  ⟨OwS.stay ho (fun _ _ => rfl) (fun vs x hx => hx.stay fun k hk => ⟨by
    rcases hk with hk | hk
    · exact .inl hk
    · exact .inr ((hT.role k (by rw [hk]; exact fun e => by cases e)).trans hk), rfl⟩), fun k hk => by unfold upd; rw [if_pos hk]⟩
end
end Go.Proofs.YtokdnhdfmgfkeaaGreatDoor.Xt
end

section
namespace Go.Proofs.YtokdnhdfmgfkeaaGreatDoor.Xt
open Go.RowKit UtfW Xl

section
variable {E PT BT : TypeId} {ρ ρ' : Rol} {P0 : Pp} {w w' : World} {H : Ro → Prop} {b : Nat} {v1 v2 v3 : Value} {vr : List Value} {nb : List Nat} {s : St}
abbrev None_ : Ro → Prop := fun _ => False
theorem rev_top {f : Fr} {F : List Fr} {j : Nat} (h : j < F.length) : (f :: F).reverse[j]? = F.reverse[j]? := by
  rw [List.reverse_cons, List.getElem?_append_left (by simpa using h)]
theorem rev_at {f : Fr} {F : List Fr} : (f :: F).reverse[F.length]? = some f := by
  rw [List.reverse_cons, List.getElem?_append_right (by simp)]
  simp
theorem rev_lt {f g : Fr} {F : List Fr} {j : Nat} (h : (f :: F).reverse[j]? = some g) : j ≤ F.length := by
  have := (List.getElem?_eq_some_iff.1 h).1
  simp at this
  omega
theorem BsR.fillTop {i k : Nat} {nb0 : List Nat} {f f' : Fr} {F : List Fr} (h : BsR E PT (fun r => r = .kid i ∨ r = .nod i) ρ P0 w b v1 v2 v3 vr (nb0 ++ [k]) s) (ho : s.opn = f :: F) (hi : i = F.length) (hF : FrM E ρ P0 w i k f') :
    BsR E PT None_ ρ P0 w b v1 v2 v3 vr (nb0 ++ [k]) { s with opn := f' :: F } := by
  have hl := h.len
  rw [ho] at hl
  simp at hl
  refine ⟨h.dom, h.p0, h.rb, fun _ => h.bef (by rintro (e | e) <;> cases e), h.root, fun _ => h.aft (by rintro (e | e) <;> cases e), fun _ => h.opn (by rintro (e | e) <;> cases e), by simp [hl], fun j x g _ _ h1 h2 => ?_⟩
  have hj := rev_lt h2
  by_cases e : j = i
  · subst e
    subst hi
    rw [List.getElem?_append_right (by omega)] at h1
    rw [show F.length - nb0.length = 0 by omega] at h1
    injection h1 with h1
    rw [rev_at] at h2
    injection h2 with h2
    rw [← h1, ← h2]
    exact hF
  · have hlt : j < F.length := by omega
    refine h.fr j x g ?_ ?_ h1 (by rw [ho, rev_top hlt]; rw [rev_top hlt] at h2; exact h2)
    · rintro (e2 | e2)
      · cases e2
      · injection e2 with e2; exact e e2
    · rintro (e2 | e2)
      · injection e2 with e2; exact e e2
      · cases e2
theorem BsR.setText (h : BsR E PT H ρ P0 w b v1 v2 v3 vr nb s) (t : Tx) (n : Nat) (hs : Bool) : BsR E PT H ρ P0 w b v1 v2 v3 vr nb { s with text := t, nodes := n, has := hs } :=
  ⟨h.dom, h.p0, h.rb, h.bef, h.root, h.aft, h.opn, h.len, h.fr⟩
theorem BsR.fillAft {v2' : Value} {l : List Nd} (h : BsR E PT (fun r => r = .aft) ρ P0 w b v1 v2 v3 vr nb s) (ho : OwN E ρ P0 w .aft v2' l) : BsR E PT None_ ρ P0 w b v1 v2' v3 vr nb { s with after := l } :=
  ⟨h.dom, h.p0, h.rb, fun _ => h.bef (fun e => by cases e), h.root, fun _ => ho, fun _ => h.opn (fun e => by cases e), h.len, fun i k f _ _ => h.fr i k f (fun e => by cases e) (fun e => by cases e)⟩
theorem BsR.fillBef {v1' : Value} {l : List Nd} (h : BsR E PT (fun r => r = .bef) ρ P0 w b v1 v2 v3 vr nb s) (ho : OwN E ρ P0 w .bef v1' l) : BsR E PT None_ ρ P0 w b v1' v2 v3 vr nb { s with before := l } :=
  ⟨h.dom, h.p0, h.rb, fun _ => ho, h.root, fun _ => h.aft (fun e => by cases e), fun _ => h.opn (fun e => by cases e), h.len, fun i k f _ _ => h.fr i k f (fun e => by cases e) (fun e => by cases e)⟩
theorem BsR.fillRoot {vr' : List Value} {n : Nd} (h : BsR E PT H ρ P0 w b v1 v2 v3 vr nb s) (ho : NdE (Fin_ ρ P0) w vr' n) : BsR E PT H ρ P0 w b v1 v2 v3 vr' nb { s with root := n } :=
  ⟨h.dom, h.p0, h.rb, h.bef, ho, h.aft, h.opn, h.len, h.fr⟩
theorem BsR.fillOpn {v3' : Value} {k : Nat} {f : Fr} (h : BsR E PT (fun r => r = .opn) ρ P0 w b v1 v2 v3 vr nb s) (ho : w.ownsRow P0 PT 1 v3' (nb ++ [k]).length ((nb ++ [k]).map fun k => Value.pointer (some ⟨k, 0, none⟩))) (hr : ∀ k, v3'.ownBlock = some k → ρ k = .opn) (hF : FrM E ρ P0 w s.opn.length k f) :
    BsR E PT None_ ρ P0 w b v1 v2 v3' vr (nb ++ [k]) { s with opn := f :: s.opn } := by
  have hl := h.len
  refine ⟨h.dom, h.p0, h.rb, fun _ => h.bef (fun e => by cases e), h.root, fun _ => h.aft (fun e => by cases e), fun _ => ⟨ho, hr⟩, by simp [hl], fun j x g _ _ h1 h2 => ?_⟩
  have hj := rev_lt h2
  by_cases e : j = s.opn.length
  · subst e
    rw [List.getElem?_append_right (by omega), hl, Nat.sub_self] at h1
    injection h1 with h1
    rw [rev_at] at h2
    injection h2 with h2
    rw [← h1, ← h2]
    exact hF
  · have hlt : j < s.opn.length := by omega
    rw [List.getElem?_append_left (by omega)] at h1
    rw [rev_top hlt] at h2
    exact h.fr j x g (fun e => by cases e) (fun e => by cases e) h1 h2
def fresh (ρ : Rol) (k : Nat) (r : Ro) : Rol := fun x => if x = k then r else ρ x
theorem Turns.fresh (hd : ∀ k, ρ k ≠ .no → P0 ≤ k ∧ k < w.heap.size) (hp : P0 ≤ w.heap.size) (o : Obj) (r q : Ro) : Turns ρ (fresh ρ w.heap.size r) P0 q w (w.alloc o) := by
  have hb := below_alloc w o
  refine ⟨fun k hk _ => hb.block k hk, fun k hk => ?_, hb.size, fun k hk => ?_⟩
  · unfold Xt.fresh
    rw [if_neg]
    intro e
    have := (hd k hk).2
    omega
  · unfold Xt.fresh at hk
    split at hk
    · rename_i e
      subst e
      exact ⟨hp, by simp⟩
    · exact ⟨(hd k hk).1, Nat.lt_of_lt_of_le (hd k hk).2 hb.size⟩
theorem BsR.top {nb0 : List Nat} {k : Nat} {f : Fr} {F : List Fr} (h : BsR E PT None_ ρ P0 w b v1 v2 v3 vr (nb0 ++ [k]) s) (ho : s.opn = f :: F) : FrM E ρ P0 w F.length k f := by
  have hl := h.len
  rw [ho] at hl
  simp at hl
  refine h.fr F.length k f id id ?_ (by rw [ho]; exact rev_at)
  rw [List.getElem?_append_right (by omega), show F.length - nb0.length = 0 by omega]
  rfl
theorem BsR.parted {f : Fr} {F : List Fr} (h : BsR E PT H ρ P0 w b v1 v2 v3 vr nb s) (ho : s.opn = f :: F) : ∃ nb0 k, nb = nb0 ++ [k] ∧ nb0.length = F.length := by
  have hl := h.len
  rw [ho] at hl
  rcases List.eq_nil_or_concat nb with rfl | ⟨nb0, k, rfl⟩
  · simp at hl
  · refine ⟨nb0, k, by simp, ?_⟩
    simp at hl
    omega
def done_ (ρ : Rol) (v : Value) : Rol := fun k => if v.ownBlock = some k then .fin else ρ k
theorem done_ne {v : Value} {q r : Ro} (hv : ∀ k, v.ownBlock = some k → ρ k = r) (hq : q ≠ r) {k : Nat} (hk : ρ k = q) : done_ ρ v k = q := by
  unfold done_
  rw [if_neg]
  · exact hk
  · intro e
    exact hq (hk.symm.trans (hv k e))
theorem fin_done {v : Value} {r : Ro} (hv : ∀ k, v.ownBlock = some k → ρ k = r) (hr : r ≠ .fin) {k : Nat} (hk : Fin_ ρ P0 k) : Fin_ (done_ ρ v) P0 k := by
  rcases hk with hk | hk
  · exact .inl hk
  · exact .inr (done_ne hv hr.symm hk)
theorem NdI.done {v : Value} {r : Ro} {vs : List Value} {n : Nd} (hv : ∀ k, v.ownBlock = some k → ρ k = r) (hr : r ≠ .fin) (h : NdI (Fin_ ρ P0) w vs n) : NdI (Fin_ (done_ ρ v) P0) w vs n := h.stay fun _ hk => ⟨fin_done hv hr hk, rfl⟩
theorem OwN.done {v u : Value} {r q : Ro} {l : List Nd} (hv : ∀ k, v.ownBlock = some k → ρ k = r) (hr : r ≠ .fin) (hq : q ≠ r) (h : OwN E ρ P0 w q u l) : OwN E (done_ ρ v) P0 w q u l :=
  ⟨OwS.stay h.ow (fun _ _ => rfl) (fun _ _ hx => NdI.done hv hr hx), fun k hk => done_ne hv hq (h.rl k hk)⟩
theorem Sq.mono_ {α : Type} {El El' : World → List Value → α → Prop} {k : Nat} {w : World} {A : Option Addr} {n c : Nat} {l : List α} (h : Sq El k w A n c l) (hE : ∀ vs x, El w vs x → El' w vs x) : Sq El' k w A n c l :=
  ⟨h.len, h.le, h.max, h.nil, fun hn => by
    obtain ⟨b, off, e, hb, hc⟩ := h.cell hn
    refine ⟨b, off, e, hb, fun i x hi => ?_⟩
    obtain ⟨vs, h1, h2, h3⟩ := hc i x hi
    exact ⟨vs, h1, hE _ _ h2, h3⟩⟩
theorem BsR.pop {nb0 : List Nat} {k : Nat} {f : Fr} {F : List Fr} (h : BsR E PT None_ ρ P0 w b v1 v2 v3 vr (nb0 ++ [k]) s) (ho : s.opn = f :: F) :
    ∃ Aa ca A2 c2 A3 c3, w.heap[k]? = some (.cells #[.int .i64 1, .string (strOf f.name), .string ⟨#[]⟩, .slice Aa f.attrs.length ca, .slice A2 f.kids.length c2] E) ∧ v3 = .slice A3 (nb0.length + 1) c3 ∧ ρ k = .nod F.length ∧ k ≠ b ∧
      ∃ ρ', NdE (Fin_ ρ' P0) w [.int .i64 1, .string (strOf f.name), .string ⟨#[]⟩, .slice Aa f.attrs.length ca, .slice A2 f.kids.length c2] (.mk 1 f.name [] f.attrs f.kids) ∧
        BsR E PT None_ ρ' P0 w b v1 v2 (.slice A3 nb0.length c3) vr nb0 { s with opn := F } ∧ ∀ j, ρ j = .no → ρ' j = .no := by
  obtain ⟨⟨Aa, ca, kv, g1, g2, g3, g4⟩, g5⟩ := h.top ho
  have hl := h.len
  rw [ho] at hl
  simp at hl
  obtain ⟨A2, c2, rfl⟩ := OwS.form g4.ow
  obtain ⟨p1, p2⟩ := h.opn id
  obtain ⟨A3, c3, rfl⟩ := ownsRow_form p1
  have hsq := OwS.sq' g4.ow (by decide)
  have hlen3 : (nb0 ++ [k]).length = nb0.length + 1 := by simp
  refine ⟨Aa, ca, A2, c2, A3, c3, g1, by rw [hlen3], g5, fun e => (by rw [e, h.rb] at g5; cases g5), done_ ρ (.slice A2 f.kids.length c2), ?_, ?_⟩
  · have hk : Sq (NdE (Fin_ (done_ ρ (.slice A2 f.kids.length c2)) P0)) 5 w A2 f.kids.length c2 f.kids := Sq.mono_ hsq (fun vs x hx => NdI.done g4.rl (fun e => by cases e) hx)
    exact NdI.make (tx := []) g2 (fun a e hn => .inl (g3 a e hn)) hk (fun a e _ => .inr (by unfold done_; rw [if_pos]; rw [e]; rfl))
  · have hr : Ro.kid F.length ≠ .fin := fun e => by cases e
    refine ⟨⟨fun j hj => h.dom j ?_, h.p0, done_ne g4.rl (fun e => by cases e) h.rb, fun _ => (h.bef id).done g4.rl hr (fun e => by cases e), NdI.done g4.rl hr h.root, fun _ => (h.aft id).done g4.rl hr (fun e => by cases e), fun _ => ⟨?_, ?_⟩, by simpa using hl, fun j x g _ _ h1 h2 => ?_⟩, fun j hj => done_ne g4.rl (fun e => by cases e) hj⟩
    · unfold done_ at hj
      split at hj
      · rename_i e
        rw [g4.rl j e]
        exact fun e => by cases e
      · exact hj
    · rw [hlen3, List.map_append] at p1
      exact ownsRow_shrink p1
    · intro j hj
      have : (Value.slice A3 (nb0 ++ [k]).length c3).ownBlock = some j := by
        cases A3 with
        | none => cases hj
        | some a => exact hj
      exact done_ne g4.rl (fun e => by cases e) (p2 j this)
    · have hj : j < F.length := by have := (List.getElem?_eq_some_iff.1 h2).1; simpa using this
      obtain ⟨⟨Aa', ca', kv', q1, q2, q3, q4⟩, q5⟩ := h.fr j x g id id (by rw [List.getElem?_append_left (by omega)]; exact h1) (by rw [ho, rev_top hj]; exact h2)
      have hne : ∀ r : Ro, r = .kid j ∨ r = .nod j → r ≠ .kid F.length := by
        rintro r (rfl | rfl) e
        · injection e with e; omega
        · cases e
      exact ⟨⟨Aa', ca', kv', q1, q2, q3, q4.done g4.rl hr (hne _ (.inl rfl))⟩, done_ne g4.rl (hne _ (.inr rfl)) q5⟩
end
end Go.Proofs.YtokdnhdfmgfkeaaGreatDoor.Xt
end

section
namespace Go.Proofs.YtokdnhdfmgfkeaaGreatDoor.Xt
open Go.RowKit UtfW Xl

theorem flat_set5 {u : Value} {j : Nat} (hj : j < 5) : ∀ {L : List (List Value)} {i : Nat} {vs : List Value}, (∀ v ∈ L, v.length = 5) → L[i]? = some vs → L.flatten.set (i * 5 + j) u = (L.set i (vs.set j u)).flatten
  | [], i, vs, _, h => by simp at h
  | a :: L, 0, vs, hL, h => by
    simp at h
    subst h
    have := hL a (List.mem_cons_self ..)
    rw [List.flatten_cons, Nat.zero_mul, Nat.zero_add, List.set_append_left _ _ (by omega)]
    rfl
  | a :: L, i + 1, vs, hL, h => by
    simp at h
    have ha := hL a (List.mem_cons_self ..)
    have hm : (i + 1) * 5 + j = a.length + (i * 5 + j) := by rw [Nat.succ_mul]; omega
    rw [List.flatten_cons, hm, List.set_append_right _ _ (by omega), Nat.add_sub_cancel_left, flat_set5 hj (fun v hv => hL v (List.mem_cons_of_mem _ hv)) h]
    rfl
def put5 (w : World) (g o : Nat) (r0 r1 r2 r3 r4 : Value) : World :=
  ((((w.setCell ⟨g, o, none⟩ r0).setCell ⟨g, o + 1, none⟩ r1).setCell ⟨g, o + 2, none⟩ r2).setCell ⟨g, o + 3, none⟩ r3).setCell ⟨g, o + 4, none⟩ r4
theorem grown_put5 (w : World) (g o : Nat) (r0 r1 r2 r3 r4 : Value) : w.grownBy (put5 w g o r0 r1 r2 r3 r4) (some g) :=
  ((((grown_set w ⟨g, o, none⟩ r0).trans (grown_set _ ⟨g, o + 1, none⟩ r1)).trans (grown_set _ ⟨g, o + 2, none⟩ r2)).trans (grown_set _ ⟨g, o + 3, none⟩ r3)).trans (grown_set _ ⟨g, o + 4, none⟩ r4)
theorem five {vs : List Value} (h : vs.length = 5) (r0 r1 r2 r3 r4 : Value) : ((((vs.set 0 r0).set 1 r1).set 2 r2).set 3 r3).set 4 r4 = [r0, r1, r2, r3, r4] := by
  match vs, h with
  | [a, b, c, d, e], _ => rfl
theorem OwS.last {α : Type} {El El' : World → List Value → α → Prop} {w : World} {B E g n c : Nat} {l : List α} {z x : α} {r0 r1 r2 r3 r4 : Value} (h : OwS El 5 w B E (.slice (some ⟨g, 0, none⟩) (n + 1) c) (l ++ [z])) (hn : l.length = n)
    (hE : ∀ vs y, El w vs y → El' (put5 w g (n * 5) r0 r1 r2 r3 r4) vs y) (hx : El' (put5 w g (n * 5) r0 r1 r2 r3 r4) [r0, r1, r2, r3, r4] x) :
    OwS El' 5 (put5 w g (n * 5) r0 r1 r2 r3 r4) B E (.slice (some ⟨g, 0, none⟩) (n + 1) c) (l ++ [x]) := by
  obtain ⟨xs, ho, L, rfl, hl, hk, he⟩ := h
  rw [List.length_append, List.length_singleton, hn] at hl
  have hLn : L[n]? = some L[n] := List.getElem?_eq_getElem (by omega)
  have h5 : (L[n]'(by omega)).length = 5 := hk _ (List.getElem_mem _)
  have hlen : (l ++ [z]).length = n + 1 := by simp [hn]
  rw [hlen] at ho
  have o1 := (ho.stored (n * 5 + 0) r0).1
  have o2 := (o1.stored (n * 5 + 1) r1).1
  have o3 := (o2.stored (n * 5 + 2) r2).1
  have o4 := (o3.stored (n * 5 + 3) r3).1
  have o5 := (o4.stored (n * 5 + 4) r4).1
  have e1 := flat_set5 (u := r0) (j := 0) (by decide) hk hLn
  have k1 : ∀ v ∈ L.set n ((L[n]'(by omega)).set 0 r0), v.length = 5 := fun v hv => by
    rcases List.mem_or_eq_of_mem_set hv with h | h
    · exact hk v h
    · rw [h, List.length_set]; exact h5
  have q1 : (L.set n ((L[n]'(by omega)).set 0 r0))[n]? = some ((L[n]'(by omega)).set 0 r0) := List.getElem?_set_self (by omega)
  have e2 := flat_set5 (u := r1) (j := 1) (by decide) k1 q1
  rw [List.set_set] at e2
  have k2 : ∀ v ∈ L.set n (((L[n]'(by omega)).set 0 r0).set 1 r1), v.length = 5 := fun v hv => by
    rcases List.mem_or_eq_of_mem_set hv with h | h
    · exact hk v h
    · rw [h, List.length_set, List.length_set]; exact h5
  have q2 : (L.set n (((L[n]'(by omega)).set 0 r0).set 1 r1))[n]? = some (((L[n]'(by omega)).set 0 r0).set 1 r1) := List.getElem?_set_self (by omega)
  have e3 := flat_set5 (u := r2) (j := 2) (by decide) k2 q2
  rw [List.set_set] at e3
  have k3 : ∀ v ∈ L.set n ((((L[n]'(by omega)).set 0 r0).set 1 r1).set 2 r2), v.length = 5 := fun v hv => by
    rcases List.mem_or_eq_of_mem_set hv with h | h
    · exact hk v h
    · rw [h, List.length_set, List.length_set, List.length_set]; exact h5
  have q3 : (L.set n ((((L[n]'(by omega)).set 0 r0).set 1 r1).set 2 r2))[n]? = some ((((L[n]'(by omega)).set 0 r0).set 1 r1).set 2 r2) := List.getElem?_set_self (by omega)
  have e4 := flat_set5 (u := r3) (j := 3) (by decide) k3 q3
  rw [List.set_set] at e4
  have k4 : ∀ v ∈ L.set n (((((L[n]'(by omega)).set 0 r0).set 1 r1).set 2 r2).set 3 r3), v.length = 5 := fun v hv => by
    rcases List.mem_or_eq_of_mem_set hv with h | h
    · exact hk v h
    · rw [h, List.length_set, List.length_set, List.length_set, List.length_set]; exact h5
  have q4 : (L.set n (((((L[n]'(by omega)).set 0 r0).set 1 r1).set 2 r2).set 3 r3))[n]? = some (((((L[n]'(by omega)).set 0 r0).set 1 r1).set 2 r2).set 3 r3) := List.getElem?_set_self (by omega)
  have e5 := flat_set5 (u := r4) (j := 4) (by decide) k4 q4
  rw [List.set_set, five h5] at e5
  rw [e1, e2, e3, e4, e5] at o5
  refine ⟨(L.set n [r0, r1, r2, r3, r4]).flatten, by rw [List.length_append, List.length_singleton, hn]; exact o5, L.set n [r0, r1, r2, r3, r4], rfl, by rw [List.length_set, List.length_append, List.length_singleton, hn, hl], fun v hv => ?_, fun i vs y hvs hy => ?_⟩
  · rcases List.mem_or_eq_of_mem_set hv with h | h
    · exact hk v h
    · rw [h]; rfl
  · by_cases e : i = n
    · subst e
      rw [List.getElem?_set_self (by omega)] at hvs
      injection hvs with hvs
      rw [List.getElem?_append_right (by omega), hn, Nat.sub_self] at hy
      injection hy with hy
      rw [← hvs, ← hy]
      exact hx
    · rw [List.getElem?_set_ne (fun h => e h.symm)] at hvs
      have hil : i < n := by
        have := (List.getElem?_eq_some_iff.1 hy).1
        simp [hn] at this
        omega
      refine hE vs y (he i vs y hvs ?_)
      rw [List.getElem?_append_left (by omega)] at hy ⊢
      exact hy
end Go.Proofs.YtokdnhdfmgfkeaaGreatDoor.Xt
end

section
namespace Go.Proofs.YtokdnhdfmgfkeaaGreatDoor.Xt
open Go.RowKit UtfW Xl

theorem setCell_comm (w : World) (a c : Addr) (u v : Value) (h : a.block ≠ c.block) : (w.setCell a u).setCell c v = (w.setCell c v).setCell a u := by
  unfold World.setCell
  simp only [World.mk.injEq, and_true, true_and]
  apply Array.ext_getElem?
  intro i
  simp only [Array.getElem?_modify]
  by_cases h1 : c.block = i <;> by_cases h2 : a.block = i
  · exact absurd (h2.trans h1.symm) h
  all_goals simp [h1, h2]
theorem put5_comm (w : World) (g o : Nat) (r0 r1 r2 r3 r4 : Value) (c : Addr) (u : Value) (h : g ≠ c.block) : put5 (w.setCell c u) g o r0 r1 r2 r3 r4 = (put5 w g o r0 r1 r2 r3 r4).setCell c u := by
  unfold put5
  rw [setCell_comm w c ⟨g, o, none⟩ _ _ (fun e => h e.symm), setCell_comm _ c ⟨g, o + 1, none⟩ _ _ (fun e => h e.symm), setCell_comm _ c ⟨g, o + 2, none⟩ _ _ (fun e => h e.symm), setCell_comm _ c ⟨g, o + 3, none⟩ _ _ (fun e => h e.symm), setCell_comm _ c ⟨g, o + 4, none⟩ _ _ (fun e => h e.symm)]
section
variable {E PT BT : TypeId} {ρ ρ' : Rol} {P0 : Pp} {w w' : World} {H : Ro → Prop} {b : Nat} {v1 v2 v3 : Value} {vr : List Value} {nb : List Nat} {s : St}
theorem Turns.on (hd : ∀ k, ρ k ≠ .no → P0 ≤ k ∧ k < w.heap.size) {g : Nat} {r : Ro} (hg : ρ g = r) (hr : r ≠ .no) (hG : w.grownBy w' (some g)) : Turns ρ ρ P0 r w w' := by
  refine ⟨fun k hk h => hG.block k hk (fun e => ?_), fun _ _ => rfl, hG.size, fun k hk => ⟨(hd k hk).1, Nat.lt_of_lt_of_le (hd k hk).2 hG.size⟩⟩
  injection e with e
  rcases h with h | h
  · exact h (by rw [e, hg])
  · have := (hd g (by rw [hg]; exact hr)).1
    omega
theorem Turns.fin {r : Ro} (hd : ∀ k, ρ k ≠ .no → P0 ≤ k ∧ k < w.heap.size) (hp : P0 ≤ w.heap.size) (hT : Turns ρ ρ' P0 r w w') (hr : r ≠ .fin) {k : Nat} (hk : Fin_ ρ P0 k) : Fin_ ρ' P0 k ∧ w'.heap[k]? = w.heap[k]? :=
  ⟨by
    rcases hk with hk | hk
    · exact .inl hk
    · exact .inr ((hT.role k (by rw [hk]; exact fun e => by cases e)).trans hk), hT.same k (fin_mem hd hp hk) (by
    rcases hk with hk | hk
    · exact .inr hk.2
    · exact .inl (by rw [hk]; exact hr.symm))⟩
def Kp (ρ : Rol) (w : World) (ρ' : Rol) (w' : World) : Prop := ∀ k, k < w.heap.size → ρ k = .no → w'.heap[k]? = w.heap[k]? ∧ ρ' k = .no
theorem Kp.refl (ρ : Rol) (w : World) : Kp ρ w ρ w := fun _ _ h => ⟨rfl, h⟩
theorem Kp.trans {ρ'' : Rol} {w'' : World} (h : Kp ρ w ρ' w') (h2 : Kp ρ' w' ρ'' w'') (hs : w.heap.size ≤ w'.heap.size) : Kp ρ w ρ'' w'' := fun k hk h0 => by
  obtain ⟨g1, g2⟩ := h k hk h0
  obtain ⟨g3, g4⟩ := h2 k (by omega) g2
  exact ⟨g3.trans g1, g4⟩
theorem Kp.below (hb : Below w.heap.size w w') : Kp ρ w ρ w' := fun k hk h0 => ⟨hb.block k hk, h0⟩
theorem Kp.on {r : Ro} (hT : Turns ρ ρ P0 r w w') (hr : r ≠ .no) : Kp ρ w ρ w' := fun k hk h0 => ⟨hT.same k hk (.inl (by rw [h0]; exact hr.symm)), h0⟩
theorem Turns.old {r : Ro} (h : Turns ρ ρ' P0 r w w') (hp : P0 ≤ w.heap.size) : ∀ k : Nat, k < P0 → w'.heap[k]? = w.heap[k]? := fun k hk => h.same k (by omega) (.inr hk)

theorem put_row {r : Ro} {g n c : Nat} {l : List Nd} {x : Nd} {rs0 rs1 rs2 rs3 rs4 : Value} (hr : r ≠ .fin ∧ r ≠ .no)
    (hB : BsR E PT H ρ P0 w b v1 v2 v3 vr nb s) (hH : H r)
    (hO : OwN E ρ P0 w r (.slice (some ⟨g, 0, none⟩) (n + 1) c) (l ++ [zero])) (hn : l.length = n)
    (hx : NdI (Fin_ ρ P0) w [rs0, rs1, rs2, rs3, rs4] x) :
    BsR E PT H ρ P0 (put5 w g (n * 5) rs0 rs1 rs2 rs3 rs4) b v1 v2 v3 vr nb s ∧ OwN E ρ P0 (put5 w g (n * 5) rs0 rs1 rs2 rs3 rs4) r (.slice (some ⟨g, 0, none⟩) (n + 1) c) (l ++ [x]) ∧
      Turns ρ ρ P0 r w (put5 w g (n * 5) rs0 rs1 rs2 rs3 rs4) := by
  have hg : ρ g = r := hO.rl g rfl
  have hT := Turns.on hB.dom hg hr.2 (grown_put5 w g (n * 5) rs0 rs1 rs2 rs3 rs4)
  refine ⟨hB.turn hT hr.1 (.inl hH), ⟨OwS.last hO.ow hn (fun vs y hy => NdI.turn hy hB.dom hB.p0 hT hr.1) (NdI.turn hx hB.dom hB.p0 hT hr.1), hO.rl⟩, hT⟩
theorem put_head {q : Ro} {l : List Nd} {v : Value} {i : Nat} (hq : q ≠ .no ∧ q ≠ .bld)
    (hB : BsR E PT H ρ P0 w b v1 v2 v3 vr nb s) (hO : OwN E ρ P0 w q v l) (u : Value) :
    BsR E PT H ρ P0 (w.setCell ⟨b, i, none⟩ u) b v1 v2 v3 vr nb s ∧ OwN E ρ P0 (w.setCell ⟨b, i, none⟩ u) q v l ∧ Turns ρ ρ P0 .bld w (w.setCell ⟨b, i, none⟩ u) := by
  have hT := Turns.on hB.dom hB.rb (fun e => by cases e) (grown_set w ⟨b, i, none⟩ u)
  exact ⟨hB.turn hT (fun e => by cases e) (.inr (.inl rfl)), hO.turn hB.dom hB.p0 hT (fun e => by cases e) hq.2 hq.1, hT⟩
theorem put_kid {i k j : Nat} {l : List Nd} {v : Value} (hk : ρ k = .nod i)
    (hB : BsR E PT H ρ P0 w b v1 v2 v3 vr nb s) (hH : H (.nod i)) (hO : OwN E ρ P0 w (.kid i) v l) (u : Value) :
    BsR E PT H ρ P0 (w.setCell ⟨k, j, none⟩ u) b v1 v2 v3 vr nb s ∧ OwN E ρ P0 (w.setCell ⟨k, j, none⟩ u) (.kid i) v l ∧ Turns ρ ρ P0 (.nod i) w (w.setCell ⟨k, j, none⟩ u) := by
  have hT := Turns.on hB.dom hk (fun e => by cases e) (grown_set w ⟨k, j, none⟩ u)
  exact ⟨hB.turn hT (fun e => by cases e) (.inl hH), hO.turn hB.dom hB.p0 hT (fun e => by cases e) (fun e => by cases e) (fun e => by cases e), hT⟩
theorem put_app {r : Ro} {v v' : Value} {l : List Nd} (hr : r ≠ .fin ∧ r ≠ .no)
    (hB : BsR E PT H ρ P0 w b v1 v2 v3 vr nb s) (hH : H r) (hO : OwN E ρ P0 w r v l) {l' : List Nd}
    (ho : OwS (NdE (Fin_ ρ P0)) 5 w' P0 E v' l') (hg : w.grownBy w' v.ownBlock) (hat : v'.ownBlock = v.ownBlock ∨ v'.ownBlock = some w.heap.size) :
    BsR E PT H (upd ρ v' r) P0 w' b v1 v2 v3 vr nb s ∧ OwN E (upd ρ v' r) P0 w' r v' l' ∧ Turns ρ (upd ρ v' r) P0 r w w' ∧ Kp ρ w (upd ρ v' r) w' := by
  have hT := Turns.grow hB.dom hB.p0 hr.2 hg hO.rl hat (fun k hk => (OwS.lt ho k hk).2)
  refine ⟨hB.turn hT hr.1 (.inl hH), OwN.grown (v := v) hB.dom hT ho, hT, fun k hk h0 => ⟨hT.same k hk (.inl (by rw [h0]; exact hr.2.symm)), ?_⟩⟩
  unfold upd
  rw [if_neg]
  · exact h0
  · intro e
    rcases hat with h | h
    · have := hO.rl k (h ▸ e)
      rw [h0] at this
      exact hr.2 this.symm
    · rw [h] at e
      injection e with e
      omega
theorem OwS.where_ {α : Type} {El : World → List Value → α → Prop} {w : World} {B E n c : Nat} {A : Option Addr} {l : List α} (h : OwS El 5 w B E (.slice A (n + 1) c) l) (hl : l.length = n + 1) :
    ∃ g cur, A = some ⟨g, 0, none⟩ ∧ B ≤ g ∧ w.heap[g]? = some (.cells cur E) ∧ (n + 1) * 5 ≤ cur.size ∧ ∀ x : World, x.heap[g]? = w.heap[g]? → x.frozen? ⟨g, n * 5, none⟩ = false ∧ x.frozen? ⟨g, n * 5 + 1, none⟩ = false ∧ x.frozen? ⟨g, n * 5 + 2, none⟩ = false ∧ x.frozen? ⟨g, n * 5 + 3, none⟩ = false ∧ x.frozen? ⟨g, n * 5 + 4, none⟩ = false ∧
      ∃ u0 u1 u2 u3 u4, x.cell? ⟨g, n * 5, none⟩ = some u0 ∧ x.cell? ⟨g, n * 5 + 1, none⟩ = some u1 ∧ x.cell? ⟨g, n * 5 + 2, none⟩ = some u2 ∧ x.cell? ⟨g, n * 5 + 3, none⟩ = some u3 ∧ x.cell? ⟨g, n * 5 + 4, none⟩ = some u4 := by
  obtain ⟨xs, ⟨h1, h2⟩, _⟩ := h
  rcases h2 with ⟨_, h2⟩ | ⟨g, cap, cur, hv, hB, hc, hcap, hmax, hsz, ht⟩
  · omega
  · injection hv with e1 e2 e3
    have hs : (n + 1) * 5 ≤ cur.size := by rw [hl] at hcap; rw [hsz]; exact Nat.mul_le_mul_right 5 hcap
    refine ⟨g, cur, e1, hB, hc, hs, fun x hx => ?_⟩
    have hc' : x.heap[g]? = some (.cells cur E (0, 0)) := hx.trans hc
    have hget : ∀ j, j < (n + 1) * 5 → ∃ u, x.cell? ⟨g, j, none⟩ = some u := fun j hj => ⟨cur[j]'(by omega), by simp [World.cell?, hc', Array.getElem?_eq_getElem (show j < cur.size by omega)]⟩
    obtain ⟨u0, q0⟩ := hget (n * 5) (by omega)
    obtain ⟨u1, q1⟩ := hget (n * 5 + 1) (by omega)
    obtain ⟨u2, q2⟩ := hget (n * 5 + 2) (by omega)
    obtain ⟨u3, q3⟩ := hget (n * 5 + 3) (by omega)
    obtain ⟨u4, q4⟩ := hget (n * 5 + 4) (by omega)
    exact ⟨frozen_of_row x g _ _ _ hc', frozen_of_row x g _ _ _ hc', frozen_of_row x g _ _ _ hc', frozen_of_row x g _ _ _ hc', frozen_of_row x g _ _ _ hc', u0, u1, u2, u3, u4, q0, q1, q2, q3, q4⟩
abbrev putW (w : World) (g n : Nat) (r0 r1 r2 r3 r4 : Value) (h i : Nat) (u : Value) : World := (put5 w g (n * 5) r0 r1 r2 r3 r4).setCell ⟨h, i, none⟩ u
def BsP (E PT BT : TypeId) (ρ : Rol) (P0 : Pp) (w : World) (b : Nat) (s : St) : Prop := ∃ v1 v2 v3 vr nb, BsR E PT None_ ρ P0 w b v1 v2 v3 vr nb s ∧ Bb BT w b v1 v2 v3 vr s
def BsW (E PT BT : TypeId) (ρ0 : Rol) (P0 : Pp) (w0 w : World) (b : Nat) (s : St) : Prop := ∃ ρ, BsP E PT BT ρ P0 w b s ∧ Kp ρ0 w0 ρ w
theorem BsW.from_ {w0 : World} (h : BsW E PT BT ρ P0 w w' b s) (hb : Below w0.heap.size w0 w) : BsW E PT BT ρ P0 w0 w' b s := by
  obtain ⟨ρ', h1, h2⟩ := h
  exact ⟨ρ', h1, fun k hk h0 => by
    obtain ⟨g1, g2⟩ := h2 k (Nat.lt_of_lt_of_le hk hb.size) h0
    exact ⟨g1.trans (hb.block k hk), g2⟩⟩
section
variable {g n c : Nat} {x : Nd} {q0 q1 q2 q3 q4 : Value}
theorem put_aft (hB : BsR E PT None_ ρ P0 w b v1 v2 v3 vr nb s) (hb : Bb BT w b v1 v2 v3 vr s) (hn : s.after.length = n)
    (ho : OwS (NdE (Fin_ ρ P0)) 5 w' P0 E (.slice (some ⟨g, 0, none⟩) (n + 1) c) (s.after ++ [zero])) (hg : w.grownBy w' v2.ownBlock) (hat : (Value.slice (some ⟨g, 0, none⟩) (n + 1) c).ownBlock = v2.ownBlock ∨ (Value.slice (some ⟨g, 0, none⟩) (n + 1) c).ownBlock = some w.heap.size)
    (hx : NdI (Fin_ ρ P0) w [q0, q1, q2, q3, q4] x) :
    g ≠ b ∧ Below P0 w (putW w' g n q0 q1 q2 q3 q4 b 6 (.slice (some ⟨g, 0, none⟩) (n + 1) c)) ∧ BsW E PT BT ρ P0 w (putW w' g n q0 q1 q2 q3 q4 b 6 (.slice (some ⟨g, 0, none⟩) (n + 1) c)) b { s with after := s.after ++ [x] } := by
  have h2 := hB.aft id
  have hB' : BsR E PT (fun r => r = .aft) ρ P0 w b v1 v2 v3 vr nb s := hB.weak (fun _ h => h.elim)
  obtain ⟨hB1, hO1, hT1, hK1⟩ := put_app ⟨fun e => (by cases e), fun e => (by cases e)⟩ hB' rfl h2 ho hg hat
  have hx1 := NdI.turn hx hB.dom hB.p0 hT1 (fun e => by cases e)
  obtain ⟨hB2, hO2, hT2⟩ := put_row ⟨fun e => (by cases e), fun e => (by cases e)⟩ hB1 rfl hO1 hn hx1
  obtain ⟨hB3, hO3, hT3⟩ := put_head (i := 6) ⟨fun e => (by cases e), fun e => (by cases e)⟩ hB2 hO2 (.slice (some ⟨g, 0, none⟩) (n + 1) c)
  obtain ⟨r0, r1, r2, r3, r4, rfl, hb⟩ := hb
  have hbw := (Array.getElem?_eq_some_iff.1 hb).1
  have hb1 := (hT1.same b hbw (.inl (by rw [hB.rb]; exact fun e => by cases e))).trans hb
  have hb2 := (hT2.same b (Array.getElem?_eq_some_iff.1 hb1).1 (.inl (by rw [hB1.rb]; exact fun e => by cases e))).trans hb1
  have hgb : g ≠ b := fun e => by
    have h1 := hO1.rl g rfl
    have h2 := hB1.rb
    rw [← e] at h2
    have := h1.symm.trans h2
    cases this
  have hP := (hB.dom b (by rw [hB.rb]; exact fun e => by cases e)).1
  have hPg := (hB1.dom g (by rw [hO1.rl g rfl]; exact fun e => by cases e)).1
  refine ⟨hgb, ((((Below.refl P0 w).grown hg hB.p0 (fun k hk => (OwS.lt h2.ow k hk).1)).grown (grown_put5 w' g (n * 5) q0 q1 q2 q3 q4) hB1.p0 (fun k hk => by injection hk with hk; omega)).grown (grown_set _ ⟨b, 6, none⟩ _) hB2.p0 (fun k hk => by injection hk with hk; have : b = k := hk; omega)), _, ⟨v1, _, v3, _, nb, hB3.fillAft hO3, r0, r1, r2, r3, r4, rfl, ?_⟩, ((hK1.trans (Kp.on hT2 (fun e => by cases e)) hT1.size).trans (Kp.on hT3 (fun e => by cases e)) (Nat.le_trans hT1.size hT2.size))⟩
  exact blk_setCell hb2 (i := 6) _
theorem put_bef (hB : BsR E PT None_ ρ P0 w b v1 v2 v3 vr nb s) (hb : Bb BT w b v1 v2 v3 vr s) (hn : s.before.length = n)
    (ho : OwS (NdE (Fin_ ρ P0)) 5 w' P0 E (.slice (some ⟨g, 0, none⟩) (n + 1) c) (s.before ++ [zero])) (hg : w.grownBy w' v1.ownBlock) (hat : (Value.slice (some ⟨g, 0, none⟩) (n + 1) c).ownBlock = v1.ownBlock ∨ (Value.slice (some ⟨g, 0, none⟩) (n + 1) c).ownBlock = some w.heap.size)
    (hx : NdI (Fin_ ρ P0) w [q0, q1, q2, q3, q4] x) :
    g ≠ b ∧ Below P0 w (putW w' g n q0 q1 q2 q3 q4 b 0 (.slice (some ⟨g, 0, none⟩) (n + 1) c)) ∧ BsW E PT BT ρ P0 w (putW w' g n q0 q1 q2 q3 q4 b 0 (.slice (some ⟨g, 0, none⟩) (n + 1) c)) b { s with before := s.before ++ [x] } := by
  have h2 := hB.bef id
  have hB' : BsR E PT (fun r => r = .bef) ρ P0 w b v1 v2 v3 vr nb s := hB.weak (fun _ h => h.elim)
  obtain ⟨hB1, hO1, hT1, hK1⟩ := put_app ⟨fun e => (by cases e), fun e => (by cases e)⟩ hB' rfl h2 ho hg hat
  have hx1 := NdI.turn hx hB.dom hB.p0 hT1 (fun e => by cases e)
  obtain ⟨hB2, hO2, hT2⟩ := put_row ⟨fun e => (by cases e), fun e => (by cases e)⟩ hB1 rfl hO1 hn hx1
  obtain ⟨hB3, hO3, hT3⟩ := put_head (i := 0) ⟨fun e => (by cases e), fun e => (by cases e)⟩ hB2 hO2 (.slice (some ⟨g, 0, none⟩) (n + 1) c)
  obtain ⟨r0, r1, r2, r3, r4, rfl, hb⟩ := hb
  have hbw := (Array.getElem?_eq_some_iff.1 hb).1
  have hb1 := (hT1.same b hbw (.inl (by rw [hB.rb]; exact fun e => by cases e))).trans hb
  have hb2 := (hT2.same b (Array.getElem?_eq_some_iff.1 hb1).1 (.inl (by rw [hB1.rb]; exact fun e => by cases e))).trans hb1
  have hgb : g ≠ b := fun e => by
    have h1 := hO1.rl g rfl
    have h2 := hB1.rb
    rw [← e] at h2
    have := h1.symm.trans h2
    cases this
  have hP := (hB.dom b (by rw [hB.rb]; exact fun e => by cases e)).1
  have hPg := (hB1.dom g (by rw [hO1.rl g rfl]; exact fun e => by cases e)).1
  refine ⟨hgb, ((((Below.refl P0 w).grown hg hB.p0 (fun k hk => (OwS.lt h2.ow k hk).1)).grown (grown_put5 w' g (n * 5) q0 q1 q2 q3 q4) hB1.p0 (fun k hk => by injection hk with hk; omega)).grown (grown_set _ ⟨b, 0, none⟩ _) hB2.p0 (fun k hk => by injection hk with hk; have : b = k := hk; omega)), _, ⟨_, v2, v3, _, nb, hB3.fillBef hO3, r0, r1, r2, r3, r4, rfl, ?_⟩, ((hK1.trans (Kp.on hT2 (fun e => by cases e)) hT1.size).trans (Kp.on hT3 (fun e => by cases e)) (Nat.le_trans hT1.size hT2.size))⟩
  exact blk_setCell hb2 (i := 0) _
set_option maxHeartbeats 400000 in
theorem put_kids {k : Nat} {nb0 : List Nat} {f : Fr} {F : List Fr} {Aa : Option Addr} {ca : Nat} {kv : Value} (hB : BsR E PT None_ ρ P0 w b v1 v2 v3 vr (nb0 ++ [k]) s) (hb : Bb BT w b v1 v2 v3 vr s) (hop : s.opn = f :: F) (hn : f.kids.length = n)
    (e1 : w.heap[k]? = some (.cells #[.int .i64 1, .string (strOf f.name), .string ⟨#[]⟩, .slice Aa f.attrs.length ca, kv] E)) (e2 : Sq AtEl 2 w Aa f.attrs.length ca f.attrs) (e3 : ∀ a, Aa = some a → 0 < f.attrs.length → (P0.lo ≤ a.block ∧ a.block < P0.hi)) (e4 : OwN E ρ P0 w (.kid F.length) kv f.kids) (e5 : ρ k = .nod F.length)
    (ho : OwS (NdE (Fin_ ρ P0)) 5 w' P0 E (.slice (some ⟨g, 0, none⟩) (n + 1) c) (f.kids ++ [zero])) (hg : w.grownBy w' kv.ownBlock) (hat : (Value.slice (some ⟨g, 0, none⟩) (n + 1) c).ownBlock = kv.ownBlock ∨ (Value.slice (some ⟨g, 0, none⟩) (n + 1) c).ownBlock = some w.heap.size)
    (hx : NdI (Fin_ ρ P0) w [q0, q1, q2, q3, q4] x) :
    g ≠ k ∧ Below P0 w (putW w' g n q0 q1 q2 q3 q4 k 4 (.slice (some ⟨g, 0, none⟩) (n + 1) c)) ∧ BsW E PT BT ρ P0 w (putW w' g n q0 q1 q2 q3 q4 k 4 (.slice (some ⟨g, 0, none⟩) (n + 1) c)) b { s with opn := { f with kids := f.kids ++ [x] } :: F } := by
  have hB' : BsR E PT (fun r => r = .kid F.length ∨ r = .nod F.length) ρ P0 w b v1 v2 v3 vr (nb0 ++ [k]) s := hB.weak (fun _ h => h.elim)
  obtain ⟨hB1, hO1, hT1, hK1⟩ := put_app (r := .kid F.length) ⟨fun e => (by cases e), fun e => (by cases e)⟩ hB' (.inl rfl) e4 ho hg hat
  have hx1 := NdI.turn hx hB.dom hB.p0 hT1 (fun e => by cases e)
  obtain ⟨hB2, hO2, hT2⟩ := put_row (r := .kid F.length) ⟨fun e => (by cases e), fun e => (by cases e)⟩ hB1 (.inl rfl) hO1 hn hx1
  have k1 : upd ρ (.slice (some ⟨g, 0, none⟩) (n + 1) c) (.kid F.length) k = .nod F.length := (hT1.role k (by rw [e5]; exact fun e => by cases e)).trans e5
  obtain ⟨hB3, hO3, hT3⟩ := put_kid (j := 4) k1 hB2 (.inr rfl) hO2 (.slice (some ⟨g, 0, none⟩) (n + 1) c)
  obtain ⟨r0, r1, r2, r3, r4, rfl, hb⟩ := hb
  have m1 := (hT1.same k (Array.getElem?_eq_some_iff.1 e1).1 (.inl (by rw [e5]; exact fun e => by cases e))).trans e1
  have m2 := (hT2.same k (Array.getElem?_eq_some_iff.1 m1).1 (.inl (by rw [k1]; exact fun e => by cases e))).trans m1
  have hb1 := (hT1.same b (Array.getElem?_eq_some_iff.1 hb).1 (.inl (by rw [hB.rb]; exact fun e => by cases e))).trans hb
  have hb2 := (hT2.same b (Array.getElem?_eq_some_iff.1 hb1).1 (.inl (by rw [hB1.rb]; exact fun e => by cases e))).trans hb1
  have hb3 := (hT3.same b (Array.getElem?_eq_some_iff.1 hb2).1 (.inl (by rw [hB1.rb]; exact fun e => by cases e))).trans hb2
  have hgk : g ≠ k := fun e => by
    have h1 := hO1.rl g rfl
    have h2 := k1
    rw [← e] at h2
    have := h1.symm.trans h2
    cases this
  have hP := (hB.dom k (by rw [e5]; exact fun e => by cases e)).1
  have hPg := (hB1.dom g (by rw [hO1.rl g rfl]; exact fun e => by cases e)).1
  have hold : ∀ j : Nat, j < P0 → (putW w' g n q0 q1 q2 q3 q4 k 4 (.slice (some ⟨g, 0, none⟩) (n + 1) c)).heap[j]? = w.heap[j]? := fun j hj => ((hT3.old hB2.p0 j hj).trans (hT2.old hB1.p0 j hj)).trans (hT1.old hB.p0 j hj)
  have hbel : Below P0 w (putW w' g n q0 q1 q2 q3 q4 k 4 (.slice (some ⟨g, 0, none⟩) (n + 1) c)) :=
    (((Below.refl P0 w).grown hg hB.p0 (fun j hj => (OwS.lt e4.ow j hj).1)).grown (grown_put5 w' g (n * 5) q0 q1 q2 q3 q4) hB1.p0 (fun j hj => by injection hj with hj; omega)).grown (grown_set _ ⟨k, 4, none⟩ _) hB2.p0 (fun j hj => by injection hj with hj; have : k = j := hj; omega)
  have m3 : (putW w' g n q0 q1 q2 q3 q4 k 4 (.slice (some ⟨g, 0, none⟩) (n + 1) c)).heap[k]? = some (.cells #[.int .i64 1, .string (strOf f.name), .string ⟨#[]⟩, .slice Aa f.attrs.length ca, .slice (some ⟨g, 0, none⟩) (n + 1) c] E) := blk_setCell m2 (i := 4) _
  have e2' : Sq AtEl 2 (putW w' g n q0 q1 q2 q3 q4 k 4 (.slice (some ⟨g, 0, none⟩) (n + 1) c)) Aa f.attrs.length ca f.attrs := (fun (W : World) (hW : ∀ j : Nat, j < P0 → W.heap[j]? = w.heap[j]?) => Sq.stay (w' := W) e2 (fun a ea hn => hW _ (e3 a ea hn).2) (fun _ _ h => h)) _ hold
  have hFr : FrM E (upd ρ (.slice (some ⟨g, 0, none⟩) (n + 1) c) (.kid F.length)) P0 (putW w' g n q0 q1 q2 q3 q4 k 4 (.slice (some ⟨g, 0, none⟩) (n + 1) c)) F.length k { f with kids := f.kids ++ [x] } := ⟨⟨Aa, ca, _, m3, e2', e3, hO3⟩, k1⟩
  have hfin := hB3.fillTop hop rfl hFr
  exact ⟨hgk, hbel, _, ⟨v1, v2, v3, _, nb0 ++ [k], hfin, r0, r1, r2, r3, r4, rfl, hb3⟩, ((hK1.trans (Kp.on hT2 (fun e => by cases e)) hT1.size).trans (Kp.on hT3 (fun e => by cases e)) (Nat.le_trans hT1.size hT2.size))⟩
end
end
end Go.Proofs.YtokdnhdfmgfkeaaGreatDoor.Xt
end
