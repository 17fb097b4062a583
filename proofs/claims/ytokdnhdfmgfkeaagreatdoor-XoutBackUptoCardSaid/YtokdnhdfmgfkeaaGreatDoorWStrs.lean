/- Slices of strings that read as lists. -/
import Derived.Test.YtokdnhdfmgfkeaaGreatDoorWXoSize
import Derived.Test.YtokdnhdfmgfkeaaGreatDoorWXnSt1
import Derived.Test.YtokdnhdfmgfkeaaGreatDoorWXnTok
import Derived.Test.YtokdnhdfmgfkeaaGreatDoorWXoBack
import Derived.Test.YtokdnhdfmgfkeaaGreatDoorWUtfEnc
import Derived.Deep.MidRow
import Derived.Test.YtokdnhdfmgfkeaaGreatDoorWUtfMath
import Derived.Test.YtokdnhdfmgfkeaaGreatDoorWXpDoc
import Derived.Test.YtokdnhdfmgfkeaaGreatDoorWErrWalk2
import Derived.Test.YtokdnhdfmgfkeaaGreatDoorWXpRc
import Derived.Test.YtokdnhdfmgfkeaaGreatDoorWRowS
import Derived.SliceStrings
set_option linter.unusedVariables false
set_option linter.unusedSimpArgs false
section
namespace Go.Proofs.YtokdnhdfmgfkeaaGreatDoor.Xt
open Go.RowKit UtfW Xl Xo
theorem Sm.endT {s : St} {N : Nat} (h : Sm s N) : Sm (Xt.endT s) (N + 2) := by
 have h1 := h.flush;unfold Xt.endT;simp only
 split
 ·rename_i f F ho
  have h2 : Sm { Xt.flush s with opn := F } (N + 1) := ⟨h1.bef, h1.aft, fun g hg => h1.kid g (by rw [ho]; exact List.mem_cons_of_mem _ hg)⟩;exact h2.put _
 ·exact h1.mono (by omega)
theorem Sm.startT {s s' : St} {t : Xl.Tok} {N : Nat} (h : Sm s N) (hs : startT s t = .ok s') : Sm s' (N + 1) := by
 unfold Xt.startT at hs
 split at hs
 ·cases hs
 ·split at hs
  ·cases hs
  ·split at hs
   ·cases hs
   ·injection hs with hs;have hf : Sm (Xt.flush { s with nodes := s.nodes + (1 + t.attrs.length) }) (N + 1) := Sm.flush ⟨h.bef, h.aft, h.kid⟩;subst hs;refine ⟨hf.bef, hf.aft, fun g hg => ?_⟩;rcases List.mem_cons.1 hg with rfl | hg
    ·exact Nat.zero_le _
    ·exact hf.kid g hg
theorem Sm.stepT {s s' : St} {t : Xl.Tok} {N : Nat} (h : Sm s N) (hs : Xt.stepT s t = .ok s') : Sm s' (N + 3) := by
 unfold Xt.stepT at hs
 split at hs
 ·exact (h.startT hs).mono (by omega)
 ·split at hs
  ·cases h1 : Xt.startT s t with
   | error e => rw [h1] at hs; cases hs
   | ok s1 =>
    rw [h1] at hs;injection hs with hs;rw [<- hs];exact (h.startT h1).endT
  ·split at hs
   ·split at hs
    ·cases hs
    ·split at hs
     ·injection hs with hs;rw [<- hs];exact h.endT.mono (by omega)
     ·cases hs
   ·have other : ∀ k : Int, otherT s t k = .ok s' -> Sm s' (N + 3) := fun k hs => by
     unfold otherT at hs
     split at hs
     ·cases hs
     ·injection hs with hs;have hf : Sm (Xt.flush { s with nodes := s.nodes + 1 }) (N + 1) := Sm.flush ⟨h.bef, h.aft, h.kid⟩;rw [<- hs];exact (hf.put _).mono (by omega)
    split at hs
    ·exact other 3 hs
    ·split at hs
     ·exact other 4 hs
     ·unfold charsT at hs
      split at hs
      ·split at hs
       ·cases hs
       ·injection hs with hs;rw [<- hs];exact h.mono (by omega)
      ·split at hs
       ·split at hs
        ·cases hs
        ·injection hs with hs;rw [<- hs];exact ⟨Nat.le_add_right_of_le h.bef, Nat.le_add_right_of_le h.aft, fun f hf => Nat.le_add_right_of_le (h.kid f hf)⟩
       ·injection hs with hs;rw [<- hs];exact ⟨Nat.le_add_right_of_le h.bef, Nat.le_add_right_of_le h.aft, fun f hf => Nat.le_add_right_of_le (h.kid f hf)⟩
theorem Sm.start_ : Sm .start 0 := ⟨Nat.le_refl _, Nat.le_refl _, fun f hf => by cases hf⟩
theorem esc_ge (v : Bool) : ∀ s : Tx, s.length <= (esc v s).length
 | [] => Nat.le_refl _
 | c :: s => by
  have h1 := esc_ge v s;rw [esc, List.length_append, List.length_cons]
  have h2 : 1 <= (esc1 v c).length := by
   rcases esc1_cases v c with ⟨e, _⟩ | ⟨e, he, _⟩
   ·rw [e]; simp
   ·rw [he]; simp
  omega
theorem text_phi (s : St) : s.text.length <= phi s := by
 have := esc_ge false s.text;unfold phi;omega
theorem runF_many : ∀ (f : Nat) {r : Tx} {k p : Nat} {ts us : List Xl.Tok}, Xl.runF f r k ts = (0, p, us) -> us.length <= ts.length + r.length
 | 0, r, k, p, ts, us, h => by
  injection h with _ h;injection h with _ h;rw [<- h];omega
 | f + 1, r, k, p, ts, us, h => by
  rw [Xl.runF] at h
  split at h
  ·injection h with _ h;injection h with _ h;rw [<- h];omega
  ·rename_i hne
   cases ht : Xl.token r with
   | bad c o =>
    rw [ht] at h;injection h with h1 h;injection h with h2 h;rw [<- h];simp
   | ok t n =>
    rw [ht] at h;obtain ⟨g1, g2⟩ := Xl.token_len ht hne;have g3 := runF_many f h;rw [List.length_append, List.length_drop] at g3;simp at g3;omega
theorem all_many {S : Tx} {ts : List Xl.Tok} {p : Nat} (h : Xl.allF S = (0, p, ts)) : ts.length <= S.length /\ S.length <= 65536 := by
 unfold Xl.allF at h
 split at h
 ·injection h with h _;exact absurd h (by decide)
 ·split at h
  ·injection h with h _;exact absurd h (by decide)
  ·cases hd : decl S with
   | bad c o =>
    rw [hd] at h;injection h with h1 h;injection h with h2 h;rw [<- h];exact ⟨Nat.zero_le _, by omega⟩
   | ok u n =>
    rw [hd] at h;have := runF_many _ h;rw [List.length_drop] at this;simp at this;omega
/-! ### Parse -/
def parseF (S : Tx) : Int × Nat × Doc := if (Xl.allF S).1 ≠ 0 then ((Xl.allF S).1, (Xl.allF S).2.1, noDoc) else parseT S.length (Xl.allF S).2.2
theorem runT_snoc : ∀ {a : List Xl.Tok} {s0 s : St} (t : Xl.Tok) (l : List Xl.Tok), Xt.runT a s0 = .ok s -> Xt.runT (a ++ t :: l) s0 = match Xt.stepT s t with
  | .error e => .error (e, t.at_)
  | .ok s' => Xt.runT l s'
 | [], s0, s, t, l, h => by
  injection h with h;subst h;rw [List.nil_append, Xt.runT]
  cases Xt.stepT s0 t <;> rfl
 | x :: a, s0, s, t, l, h => by
  rw [Xt.runT] at h;rw [List.cons_append, Xt.runT]
  cases hx : Xt.stepT s0 x with
  | error e => rw [hx] at h; cases h
  | ok s1 =>
   rw [hx] at h;exact runT_snoc t l h
theorem runT_take {ts : List Xl.Tok} {i : Nat} {t : Xl.Tok} {s s' : St} (hi : ts[i]? = some t) (h : Xt.runT (ts.take i) .start = .ok s) (hs : Xt.stepT s t = .ok s') : Xt.runT (ts.take (i + 1)) .start = .ok s' := by
 rw [take_snoc hi, runT_snoc t [] h, hs];rfl
theorem runT_bad {ts : List Xl.Tok} {i : Nat} {t : Xl.Tok} {s : St} {e : Int} (hi : ts[i]? = some t) (h : Xt.runT (ts.take i) .start = .ok s) (hs : Xt.stepT s t = .error e) : Xt.runT ts .start = .error (e, t.at_) := by
 have hl : ts = ts.take i ++ t :: ts.drop (i + 1) := by
  have hlt := (List.getElem?_eq_some_iff.1 hi).1;have he : ts[i] = t := (List.getElem?_eq_some_iff.1 hi).2;rw [<- he, List.getElem_cons_drop, List.take_append_drop]
 rw [hl, runT_snoc t _ h, hs]
structure Run (S : Tx) (ts : List Xl.Tok) (i : Nat) (s : St) : Prop where
 run : Xt.runT (ts.take i) .start = .ok s
 inv : Inv s
 sm : Sm s (3 * i)
 phi : phi s <= costs (ts.take i)
theorem run_0 (S : Tx) (ts : List Xl.Tok) : Run S ts 0 .start := ⟨rfl, inv_start, Sm.start_, by rw [phi_0]; exact Nat.zero_le _⟩
theorem costs_take : ∀ (ts : List Xl.Tok) (i : Nat), costs (ts.take i) <= costs ts
 | [], i => by simp
 | t :: l, 0 => by simp [costs]
 | t :: l, i + 1 => by
  rw [List.take_succ_cons, costs, costs];have := costs_take l i;omega
theorem Run.next {S : Tx} {ts : List Xl.Tok} {i : Nat} {s s' : St} {t : Xl.Tok} (h : Run S ts i s) (hi : ts[i]? = some t) (hP : TokP t) (hs : Xt.stepT s t = .ok s') : Run S ts (i + 1) s' := by
 refine ⟨runT_take hi h.run hs, h.inv.stepT hP.2.2 hs, h.sm.stepT hs, ?_⟩;have := phi_step hP.1 hs;have h2 := h.phi;rw [take_snoc hi, costs_snoc];omega
end Go.Proofs.YtokdnhdfmgfkeaaGreatDoor.Xt
end

section
namespace Go.Proofs.YtokdnhdfmgfkeaaGreatDoor.Xl
open Go.RowKit UtfW Er
end Go.Proofs.YtokdnhdfmgfkeaaGreatDoor.Xl
end

section
namespace Go.Proofs.YtokdnhdfmgfkeaaGreatDoor.Xl
open Go.RowKit UtfW Er
theorem cell_keep {w x : World} {b i : Nat} {v : Value} (h : w.cell? ⟨b, i, none⟩ = some v) (hb : Below w.heap.size w x) : x.cell? ⟨b, i, none⟩ = some v := by
 have hlt : b < w.heap.size := by
  refine Nat.lt_of_not_le fun hn => ?_
  simp [World.cell?, Array.getElem?_eq_none hn] at h
 have e := hb.block b hlt;simp only [World.cell?] at h ⊢;rw [e];exact h
section
variable (w : World) (S : Tx) (n : Int)
end
end Go.Proofs.YtokdnhdfmgfkeaaGreatDoor.Xl
end

section
namespace Go.Proofs.YtokdnhdfmgfkeaaGreatDoor.Xt
open Go.RowKit UtfW Xl Xo
def DocI (X : Nat -> Prop) (w : World) (v : Value) (d : Doc) : Prop := ∃ A1 c1 r0 r1 r2 r3 r4 A2 c2, v = .agg #[.slice A1 d.before.length c1, r0, r1, r2, r3, r4, .slice A2 d.after.length c2] ∧
 Sq (NdE X) 5 w A1 d.before.length c1 d.before /\ (∀ a, A1 = some a -> 0 < d.before.length -> X a.block) /\ NdI X w [r0, r1, r2, r3, r4] d.root /\ Sq (NdE X) 5 w A2 d.after.length c2 d.after /\ ∀ a, A2 = some a -> 0 < d.after.length -> X a.block
def zeroDoc : Value := .agg #[.slice none 0 0, .int .i64 0, .string ⟨#[]⟩, .string ⟨#[]⟩, .slice none 0 0, .slice none 0 0, .slice none 0 0]
theorem DocI.zero (X : Nat -> Prop) (w : World) : DocI X w zeroDoc noDoc :=
 ⟨none, 0, _, _, _, _, _, none, 0, rfl, Sq.none_ w, fun a e => (by cases e), zero_nd X w, Sq.none_ w, fun a e => (by cases e)⟩
def ParP (S : Tx) (w : World) (e : Ending) (w' : World) : Prop := Below w.heap.size w w' /\ ∃ vd ev, e = .returned (.tuple #[vd, ev]) ∧
 (((parseF S).1 = 0 /\ ev = .nilIface /\ DocI (fun k => w.heap.size <= k /\ k < w'.heap.size) w' vd (parseF S).2.2) \/ ((parseF S).1 ≠ 0 /\ (parseF S).2.2 = noDoc /\ vd = zeroDoc /\ Er.Fe w' w'.heap.size (parseF S).1 ((parseF S).2.1 : Nat) [xmlB] ev))
theorem setCell_same {w : World} {b i : Nat} {cs : Array Value} {E : TypeId} {fr : Nat × Nat} {v : Value} (h : w.heap[b]? = some (.cells cs E fr)) (hi : cs[i]? = some v) : w.setCell ⟨b, i, none⟩ v = w := by
 have hh : (w.setCell ⟨b, i, none⟩ v).heap = w.heap := by
  unfold World.setCell;simp only;apply Array.ext_getElem?;intro j;rw [Array.getElem?_modify]
  by_cases hj : b = j
  ·subst hj;rw [if_pos rfl, h];simp only [Option.map_some, Option.some.injEq, Obj.cells.injEq, and_true];apply Array.ext_getElem?;intro k;rw [if_neg (by simp), Array.getElem?_setIfInBounds]
   by_cases hk : i = k
   ·subst hk;have := (Array.getElem?_eq_some_iff.1 hi).1;rw [if_pos rfl, if_pos this, hi]
   ·rw [if_neg hk]
  ·rw [if_neg hj]
 obtain ⟨a1, a2, a3, a4⟩ := w;unfold World.setCell at hh ⊢;simp only at hh;rw [hh]
theorem doc_same {w : World} {D : Nat} (h : w.heap[D]? = some (.cells #[.slice none 0 0, .int .i64 0, .string ⟨#[]⟩, .string ⟨#[]⟩, .slice none 0 0, .slice none 0 0, .slice none 0 0] 27)) :
  w.setCell ⟨D, 0, none⟩ (.slice none 0 0) = w /\ w.setCell ⟨D, 1, none⟩ (.int .i64 0) = w /\ w.setCell ⟨D, 2, none⟩ (.string ⟨#[]⟩) = w /\ w.setCell ⟨D, 3, none⟩ (.string ⟨#[]⟩) = w /\ w.setCell ⟨D, 4, none⟩ (.slice none 0 0) = w /\ w.setCell ⟨D, 5, none⟩ (.slice none 0 0) = w /\ w.setCell ⟨D, 6, none⟩ (.slice none 0 0) = w :=
 ⟨setCell_same h rfl, setCell_same h rfl, setCell_same h rfl, setCell_same h rfl, setCell_same h rfl, setCell_same h rfl, setCell_same h rfl⟩
theorem res_doc {fn : Func} {p u : Tmp} (hf : fn.results = #[.cell p 27, .tmp u]) {tmps : Array Value} {w : World} {D : Nat} {a0 a1 a2 a3 a4 a5 a6 ok : Value}
  (h : w.heap[D]? = some (.cells #[a0, a1, a2, a3, a4, a5, a6] 27)) (hp : tmps.getD p undef = .pointer (some ⟨D, 0, none⟩)) (hu : tmps.getD u undef = ok) :
  (results fn tmps).run Tryz.prog w = .ok (.tuple #[.agg #[a0, a1, a2, a3, a4, a5, a6], ok]) w := by
 rw [results_cell_tmp hf, hp, hu];simp [asAddr, Result.andThen, run_loadVar_row w D _ _ _ _ _ h Tryz.underlying27 rfl (by kernel_rfl)]
theorem bs_start (w : World) (lo : Nat) : BsA (fun k => if k = w.heap.size then .bld else .no) ⟨lo, w.heap.size⟩ (w.alloc (.cells #[.slice none 0 0, .int .i64 0, .string ⟨#[]⟩, .string ⟨#[]⟩, .slice none 0 0, .slice none 0 0, .slice none 0 0, .slice none 0 0, .string ⟨#[]⟩, .int .i64 0, .bool false] 85)) w.heap.size .start := by
 have hb := below_alloc w (.cells #[.slice none 0 0, .int .i64 0, .string ⟨#[]⟩, .string ⟨#[]⟩, .slice none 0 0, .slice none 0 0, .slice none 0 0, .slice none 0 0, .string ⟨#[]⟩, .int .i64 0, .bool false] 85);refine ⟨.slice none 0 0, .slice none 0 0, .slice none 0 0, [.int .i64 0, .string ⟨#[]⟩, .string ⟨#[]⟩, .slice none 0 0, .slice none 0 0], [], ⟨fun k hk => ?_, hb.size, by simp, fun _ => ⟨OwS.nil _ _ _, fun k hk => (by cases hk)⟩, zero_nd _ _, fun _ => ⟨OwS.nil _ _ _, fun k hk => (by cases hk)⟩, fun _ => ⟨World.ownsRow_nil _ _ _ _, fun k hk => (by cases hk)⟩, rfl, fun i k f _ _ h => (by simp at h)⟩, _, _, _, _, _, rfl, heap_alloc_new w _⟩
 by_cases e : k = w.heap.size
 ·subst e;exact ⟨Nat.le_refl _, by simp⟩
 ·simp [e] at hk
theorem Sq.stay2 {α : Type} {El El' : World -> List Value -> α -> Prop} {k : Nat} {w w' : World} {A : Option Addr} {n c : Nat} {l : List α} (h : Sq El k w A n c l) (hX : ∀ a, A = some a -> 0 < n -> w'.heap[a.block]? = w.heap[a.block]?) (hE : ∀ vs x, El w vs x -> El' w' vs x) : Sq El' k w' A n c l :=
 ⟨h.len, h.le, h.max, h.nil, fun hn => by
  obtain ⟨b, off, e, hlt, hc⟩ := h.cell hn;have hs : w'.heap[b]? = w.heap[b]? := hX ⟨b, off, none⟩ e hn;refine ⟨b, off, e, ?_, fun i x hi => ?_⟩
  ·rw [Array.getElem?_eq_getElem hlt] at hs;exact (Array.getElem?_eq_some_iff.1 hs).1
  ·obtain ⟨vs, h1, h2, h3⟩ := hc i x hi
   exact ⟨vs, h1, hE _ _ h2, fun j v hj => (cell_same hs).trans (h3 j v hj)⟩⟩
theorem doc_fin {ρ : Rol} {P0 : Pp} {w : World} {b : Nat} {s : St} (h : BsA ρ P0 w b s) {lo0 D : Nat} (hD : D < P0.lo) (hlo : lo0 <= P0.lo) (hlh : P0.lo <= P0.hi) :
  ∃ A1 n1 c1 kd nm tx Ar na cr Ak nk ck A2 n2 c2 C, w.heap[b]? = some (.cells C 85) /\ C[0]? = some (.slice A1 n1 c1) /\ C[1]? = some (.int .i64 kd) /\ C[2]? = some (.string nm) /\ C[3]? = some (.string tx) /\ C[4]? = some (.slice Ar na cr) /\ C[5]? = some (.slice Ak nk ck) /\ C[6]? = some (.slice A2 n2 c2) ∧
   ∀ w', w.grownBy w' (some D) -> DocI (fun k => lo0 <= k /\ k < w'.heap.size) w' (.agg #[.slice A1 n1 c1, .int .i64 kd, .string nm, .string tx, .slice Ar na cr, .slice Ak nk ck, .slice A2 n2 c2]) ⟨s.before, s.root, s.after⟩ := by
 obtain ⟨v1, v2, v3, vr, nb, hR, r0, r1, r2, r3, r4, rfl, hB⟩ := h;obtain ⟨A1, c1, rfl⟩ := OwS.form (hR.bef id).ow;obtain ⟨A2, c2, rfl⟩ := OwS.form (hR.aft id).ow
 have hroot : ∃ kd nm tx Ar na cr Ak nk ck, [r0, r1, r2, r3, r4] = [.int .i64 kd, .string nm, .string tx, .slice Ar na cr, .slice Ak nk ck] := by
  have h0 := hR.root;generalize s.root = R at h0;obtain ⟨kd, nm, tx, as_, ks⟩ := R;obtain ⟨Ar, cr, Ak, ck, e, _⟩ := h0.cells;exact ⟨_, _, _, _, _, _, _, _, _, e⟩
 obtain ⟨kd, nm, tx, Ar, na, cr, Ak, nk, ck, e⟩ := hroot;have hrt := hR.root;rw [e] at hrt;injection e with e0 e;injection e with e1 e;injection e with e2 e;injection e with e3 e;injection e with e4 e;subst e0; subst e1; subst e2; subst e3; subst e4
 refine ⟨A1, _, c1, kd, nm, tx, Ar, na, cr, Ak, nk, ck, A2, _, c2, _, hB, rfl, rfl, rfl, rfl, rfl, rfl, rfl, fun w' hg => ?_⟩
 have hst : ∀ vs x, NdI (Fin_ ρ P0) w vs x -> NdI (fun k => lo0 <= k /\ k < w'.heap.size) w' vs x := fun vs x hx => hx.stay fun k hk => by
  have hl := fin_mem hR.dom hR.p0 hk
  have hge : P0.lo <= k := by
   rcases hk with hk | hk
   ·exact hk.1
   ·exact Nat.le_trans hlh (hR.dom k (by rw [hk]; exact fun e => by cases e)).1
  exact ⟨⟨Nat.le_trans hlo hge, Nat.lt_of_lt_of_le hl hg.size⟩, hg.block k hl (fun e => by injection e with e; omega)⟩
 have hrow : ∀ {A : Option Addr} {m c : Nat} {l : List Nd} {r : Ro}, OwN 25 ρ P0 w r (.slice A m c) l -> l.length = m -> Sq (NdE (fun k => lo0 <= k /\ k < w'.heap.size)) 5 w' A m c l /\ ∀ a, A = some a -> 0 < m -> lo0 <= a.block /\ a.block < w'.heap.size := fun {A m c l r} ho hl => by
  have hin : ∀ a, A = some a -> P0.hi <= a.block /\ a.block < w.heap.size := fun a e => OwS.lt ho.ow a.block (by rw [e]; rfl)
  exact ⟨Sq.stay2 (OwS.sq' ho.ow (by decide)) (fun a e hn => hg.block _ (hin a e).2 (fun e2 => by injection e2 with e2; have := (hin a e).1; omega)) hst, fun a e hn => ⟨Nat.le_trans hlo (Nat.le_trans hlh (hin a e).1), Nat.lt_of_lt_of_le (hin a e).2 hg.size⟩⟩
 obtain ⟨g1, g2⟩ := hrow (hR.bef id) rfl;obtain ⟨g3, g4⟩ := hrow (hR.aft id) rfl;exact ⟨A1, c1, _, _, _, _, _, A2, c2, rfl, g1, g2, hst _ _ hrt, g3, g4⟩
abbrev tokW (w : World) (k a n t v : Value) : World := w.alloc (.cells #[k, a, n, t, v] 87)
theorem tokW_below (w : World) (k a n t v : Value) : Below w.heap.size w (tokW w k a n t v) := below_alloc w _
theorem tokW_blk (w : World) (k a : Int) (n t : ByteArray) (v : Value) : (tokW w (.int .i64 k) (.int .i64 a) (.string n) (.string t) v).heap[w.heap.size]? = some (.cells #[.int .i64 k, .int .i64 a, .string n, .string t, v] 87) := heap_alloc_new w _
end Go.Proofs.YtokdnhdfmgfkeaaGreatDoor.Xt
end

section
namespace Go.Proofs.YtokdnhdfmgfkeaaGreatDoor.Xp
open Go.RowKit UtfW Xl Xo Xt
theorem doc_parts {X : Nat -> Prop} {w : World} {v : Value} {d : Doc} (h : DocI X w v d) : ∃ A1 n1 c1 kd nm tx Ar n5 cr Ak n6 ck A2 n2 c2, v = .agg #[.slice A1 n1 c1, .int .i64 kd, .string (strOf nm), .string (strOf tx), .slice Ar n5 cr, .slice Ak n6 ck, .slice A2 n2 c2] ∧
  Sq (NdE X) 5 w A1 n1 c1 d.before /\ (∀ a, A1 = some a -> 0 < n1 -> X a.block) /\ NdI X w [.int .i64 kd, .string (strOf nm), .string (strOf tx), .slice Ar n5 cr, .slice Ak n6 ck] d.root /\ Sq (NdE X) 5 w A2 n2 c2 d.after /\ (∀ a, A2 = some a -> 0 < n2 -> X a.block) /\ kd = d.root.kind := by
 obtain ⟨A1, c1, r0, r1, r2, r3, r4, A2, c2, rfl, h1, h2, h3, h4, h5⟩ := h;obtain ⟨bf, rt, af⟩ := d;obtain ⟨kd, nm, tx, as_, ks⟩ := rt;obtain ⟨Ar, cr, Ak, ck, e, -⟩ := NdI.cells h3;injection e with e0 e;injection e with e1 e;injection e with e2 e;injection e with e3 e;injection e with e4 e;subst e0 e1 e2 e3 e4;exact ⟨A1, _, c1, kd, nm, tx, Ar, _, cr, Ak, _, ck, A2, _, c2, rfl, h1, h2, h3, h4, h5, rfl⟩
theorem DocI.keep {X : Nat -> Prop} {w w' : World} {v : Value} {d : Doc} (h : DocI X w v d) (hs : ∀ k, X k -> w'.heap[k]? = w.heap[k]?) : DocI X w' v d := by
 obtain ⟨A1, c1, r0, r1, r2, r3, r4, A2, c2, rfl, h1, h2, h3, h4, h5⟩ := h;exact ⟨A1, c1, r0, r1, r2, r3, r4, A2, c2, rfl, Sq.stay h1 (fun a e hn => hs _ (h2 a e hn)) (fun vs y hy => NdI.stay hy fun k hk => ⟨hk, hs k hk⟩), h2, NdI.stay h3 (fun k hk => ⟨hk, hs k hk⟩), Sq.stay h4 (fun a e hn => hs _ (h5 a e hn)) (fun vs y hy => NdI.stay hy fun k hk => ⟨hk, hs k hk⟩), h5⟩
set_option maxHeartbeats 4000000 in
set_option maxRecDepth 100000 in
theorem written_any (X : Nat -> Prop) (w : World) (v : Value) (d : Doc) (hd : DocI X w v d) (hX : ∀ j, X j -> j < w.heap.size) (hlen : (writeD d).length <= 100000000000000) :
  Calls Tryz.prog 40 #[v] w fun e w' => e = .returned (.string (strOf (writeD d))) /\ Below w.heap.size w w' := by
 obtain ⟨A1, n1, c1, kd, nm, tx, Ar, n5, cr, Ak, n6, ck, A2, n2, c2, rfl, h1, h2, h3, h4, h5, -⟩ := doc_parts hd;have hba := below_alloc w (.cells #[.slice A1 n1 c1, .int .i64 kd, .string (strOf nm), .string (strOf tx), .slice Ar n5 cr, .slice Ak n6 ck, .slice A2 n2 c2] 27);have hnb := heap_alloc_new w (.cells #[.slice A1 n1 c1, .int .i64 kd, .string (strOf nm), .string (strOf tx), .slice Ar n5 cr, .slice Ak n6 ck, .slice A2 n2 c2] 27);obtain ⟨T, hT⟩ : ∃ T, w.heap.size = T := ⟨_, rfl⟩;obtain ⟨w1, hw1⟩ : ∃ w1, w.alloc (.cells #[.slice A1 n1 c1, .int .i64 kd, .string (strOf nm), .string (strOf tx), .slice Ar n5 cr, .slice Ak n6 ck, .slice A2 n2 c2] 27) = w1 := ⟨_, rfl⟩;rw [hw1] at hba hnb;rw [hT] at hnb;have y0 := Xp.cell_blk hnb (i := 0) rfl;have y1 := Xp.cell_blk hnb (i := 1) rfl;have y2 := Xp.cell_blk hnb (i := 2) rfl;have y3 := Xp.cell_blk hnb (i := 3) rfl;have y4 := Xp.cell_blk hnb (i := 4) rfl;have y5 := Xp.cell_blk hnb (i := 5) rfl;have y6 := Xp.cell_blk hnb (i := 6) rfl;have hlow : ∀ x, Below w1.heap.size w1 x -> Below w.heap.size w x := fun x hx => hba.trans (hx.mono hba.size)
 have hk : ∀ x, Below w1.heap.size w1 x -> ∀ k, X k -> x.heap[k]? = w.heap[k]? := fun x hx k hk => (hlow x hx).block k (hX k hk)
 obtain ⟨Z1, hZ1⟩ : ∃ Z, writeL d.before = Z := ⟨_, rfl⟩;obtain ⟨Z2, hZ2⟩ : ∃ Z, writeN d.root = Z := ⟨_, rfl⟩;obtain ⟨Z3, hZ3⟩ : ∃ Z, writeL d.after = Z := ⟨_, rfl⟩
 have hl9 : Z1.length + Z2.length + Z3.length <= 100000000000000 := by
  unfold writeD at hlen;rw [hZ1, hZ2, hZ3] at hlen;simp only [List.length_append] at hlen;omega
 have hcb := Hd (fun (x : World) (hx : Below w1.heap.size w1 x) => Nodes_any X x A1 n1 c1 d.before (Sq.stay h1 (fun a e hn => hk x hx _ (h2 a e hn)) fun vs y hy => NdI.stay hy fun k h => ⟨h, hk x hx k h⟩) h2 (fun j hj => Nat.lt_of_lt_of_le (hX j hj) (hlow x hx).size) (by rw [hZ1]; omega));have hcr := Hd (fun (x : World) (hx : Below w1.heap.size w1 x) => Node_any X x _ d.root (NdI.stay h3 fun k h => ⟨h, hk x hx k h⟩) (fun j hj => Nat.lt_of_lt_of_le (hX j hj) (hlow x hx).size) (by rw [hZ2]; omega));have hca := Hd (fun (x : World) (hx : Below w1.heap.size w1 x) => Nodes_any X x A2 n2 c2 d.after (Sq.stay h4 (fun a e hn => hk x hx _ (h5 a e hn)) fun vs y hy => NdI.stay hy fun k h => ⟨h, hk x hx k h⟩) h5 (fun j hj => Nat.lt_of_lt_of_le (hX j hj) (hlow x hx).size) (by rw [hZ3]; omega));rw [hZ1] at hcb;rw [hZ2] at hcr;rw [hZ3] at hca
 have hres : Hid (strOf (writeD d) = strOf Z1 ++ strOf Z2 ++ strOf Z3) := Hd (by
  unfold writeD
  rw [hZ1, hZ2, hZ3, strOf_add, strOf_add])
 have hz1 : ¬ 9223372036854775807 < (strOf Z1).size + (strOf Z2).size := by rw [strOf_size', strOf_size']; omega
 have hz2 : ¬ 9223372036854775807 < (strOf Z1 ++ strOf Z2).size + (strOf Z3).size := by rw [strOf_add, strOf_size', strOf_size', List.length_append]; omega
 have hz3 : ¬ 9223372036854775807 < (strOf Z1).size + (strOf Z2).size + (strOf Z3).size := by rw [strOf_size', strOf_size', strOf_size']; omega
 have hdr : Below w1.heap.size w1 w1.drew := Joins.below_draws w1.heap.size w1 1;have hbaH := Hd hba;clear hZ1 hZ2 hZ3 hlen hl9 h1 h2 h3 h4 h5 hk hlow hd hX hnb hba
 go_enter Tryz.func40, Tryz.ntmps40
 go_upto_region 1 with fail
 refine Pl.wp_region_plan 10 (.take 0 (.take 1 (.take 3 (.take 4 (.take 7 (.take 8 (.run 2 (.run 5 (.take 6 (.run 9 .done)))))))))) (fun x => Below w1.heap.size w1 x) (by kernel_rfl) (by kernel_rfl) (by exact hdr) ?_;simp only [Pl.fill, Al_4, Al_5, Al_6, Al_7]
 iterate 6
  refine Pl.take_go ?_ (by rfl) (fun _ _ _ h => h) ?_ ?_
  rotate_left
  ·(intro x hSw; have q0 := cell_keep y0 (hSw); have q1 := cell_keep y1 (hSw); have q2 := cell_keep y2 (hSw); have q3 := cell_keep y3 (hSw); have q4 := cell_keep y4 (hSw); have q5 := cell_keep y5 (hSw); have q6 := cell_keep y6 (hSw); go_simp; try with_reducible rfl)
  (try simp only [Act.put, Al_1, Al_2, Al_3])
 refine Pl.run_go (fun K hK => ?_);go_simp;refine (hcb.out w1.drew (hdr)).mono ?_;rintro e wa ⟨rfl, hbwa⟩;have hqwa : Hid (Below w1.heap.size w1 wa) := Hd (Below.trans (hdr) (hbwa.mono (Below.size (hdr))));dsimp only;refine hK.out _ _ (Pl.more_go (fun x => Below wa.heap.size wa x) (fun x hx => hqwa.out.trans (hx.mono hqwa.out.size)) (Below.refl _ _) ?_);clear hK K
 try simp only [Act.put, Al_1, Al_2, Al_3]
 refine Pl.run_go (fun K hK => ?_);go_simp;refine (hcr.out wa (hqwa.out)).mono ?_;rintro e wb ⟨rfl, hbwb⟩;have hqwb : Hid (Below w1.heap.size w1 wb) := Hd (Below.trans (hqwa.out) (hbwb.mono (Below.size (hqwa.out))));dsimp only;refine hK.out _ _ (Pl.more_go (fun x => Below wb.heap.size wb x) (fun x hx => hbwb.trans (hx.mono hbwb.size)) (Below.refl _ _) ?_);clear hK K
 try simp only [Act.put, Al_1, Al_2, Al_3]
 iterate 1
  refine Pl.take_go ?_ (by rfl) (fun _ _ _ h => h) ?_ ?_
  rotate_left
  ·(intro x hSw; have q0 := cell_keep y0 (hqwb.out.trans (hSw.mono hqwb.out.size)); have q1 := cell_keep y1 (hqwb.out.trans (hSw.mono hqwb.out.size)); have q2 := cell_keep y2 (hqwb.out.trans (hSw.mono hqwb.out.size)); have q3 := cell_keep y3 (hqwb.out.trans (hSw.mono hqwb.out.size)); have q4 := cell_keep y4 (hqwb.out.trans (hSw.mono hqwb.out.size)); have q5 := cell_keep y5 (hqwb.out.trans (hSw.mono hqwb.out.size)); have q6 := cell_keep y6 (hqwb.out.trans (hSw.mono hqwb.out.size)); go_simp; try with_reducible rfl)
  (try simp only [Act.put, Al_1, Al_2, Al_3])
 refine Pl.run_go (fun K hK => ?_);go_simp;refine (hca.out wb (hqwb.out)).mono ?_;rintro e wc ⟨rfl, hbwc⟩;have hqwc : Hid (Below w1.heap.size w1 wc) := Hd (Below.trans (hqwb.out) (hbwc.mono (Below.size (hqwb.out))));dsimp only;refine hK.out _ _ (Pl.more_go (fun x => Below wc.heap.size wc x) (fun x hx => hbwc.trans (hx.mono hbwc.size)) (Below.refl _ _) ?_);clear hK K
 try simp only [Act.put, Al_1, Al_2, Al_3]
 refine Pl.done_go ?_;have hfin := Xp.tu_ hbaH hqwc;clear hcb hcr hca y0 y1 y2 y3 y4 y5 y6 hbwa hbwb hbwc hdr;go_wp2_with fail;go_ret;exact ⟨by rw [hres.out]; rfl, hfin.out⟩
end Go.Proofs.YtokdnhdfmgfkeaaGreatDoor.Xp
end

section
namespace Go.Proofs.YtokdnhdfmgfkeaaGreatDoor.Xt
open Go.RowKit UtfW Xl Xo
section
variable (w : World) (hU : Un w) (A : Option Addr) (n c : Nat) (S : Tx) (hBs : Bs w A n c S) (hn : n <= 1000000)
include hU hBs hn
set_option maxHeartbeats 8000000 in
set_option maxRecDepth 100000 in
theorem parse_any : Calls Tryz.prog 25 #[.slice A n c] w fun e w' => ParP S w e w' := by
 have hl : S.length = n := hBs.len;have hba := below_alloc w (.cells #[.slice none 0 0, .int .i64 0, .string ⟨#[]⟩, .string ⟨#[]⟩, .slice none 0 0, .slice none 0 0, .slice none 0 0] 27);have hD := heap_alloc_new w (.cells #[.slice none 0 0, .int .i64 0, .string ⟨#[]⟩, .string ⟨#[]⟩, .slice none 0 0, .slice none 0 0, .slice none 0 0] 27);obtain ⟨D, hDe⟩ : ∃ D, w.heap.size = D := ⟨_, rfl⟩;obtain ⟨w1, hw1⟩ : ∃ w1, w.alloc (.cells #[.slice none 0 0, .int .i64 0, .string ⟨#[]⟩, .string ⟨#[]⟩, .slice none 0 0, .slice none 0 0, .slice none 0 0] 27) = w1 := ⟨_, rfl⟩;rw [hw1] at hba hD;rw [hDe] at hD;have hc := Hd (All_any w1 (hU.below hba) A n c S (Bs.below hBs hba) hn);obtain ⟨R, hR⟩ : ∃ R, parseF S = R := ⟨_, rfl⟩
 have hPar : ∀ (e : Ending) (w' : World), (Below w.heap.size w w' /\ ∃ vd ev, e = .returned (.tuple #[vd, ev]) /\ ((R.1 = 0 /\ ev = .nilIface /\ DocI (fun k => w.heap.size <= k /\ k < w'.heap.size) w' vd R.2.2) \/ (R.1 ≠ 0 /\ R.2.2 = noDoc /\ vd = zeroDoc /\ Er.Fe w' w'.heap.size R.1 (R.2.1 : Nat) [xmlB] ev))) -> ParP S w e w' := fun e w' h => by
  unfold ParP;rw [hR];exact h
 replace hPar := Hd hPar;have hDl : D < w1.heap.size := (Array.getElem?_eq_some_iff.1 hD).1;unfold parseF at hR;obtain ⟨cd, p, ts, hall⟩ : ∃ cd p ts, Xl.allF S = (cd, p, ts) := ⟨_, _, _, rfl⟩;rw [hall] at hR;simp only at hR;have hbaH := Hd hba;clear hU hBs
 by_cases hcd : cd = 0
 ·subst hcd;rw [if_neg (by simp)] at hR;subst hl;have hO := fun w2 e h => AllP.ok (w := w1) (w' := w2) (e := e) h hall
  obtain ⟨hP, hcost⟩ := all_P hall;obtain ⟨hmany, hS65⟩ := all_many hall;have hout := Hd (allF_out hall);obtain ⟨m, hm⟩ : ∃ m, ts.length = m := ⟨_, rfl⟩;rw [hm] at hmany hO;replace hO := Hd hO;replace hP := Hd hP;replace hcost := Hd hcost;replace hR := Hd hR;replace hm := Hd hm;have hDlo := Hd hDl;obtain ⟨L, hL⟩ : ∃ L, w1.heap.size = L := ⟨_, rfl⟩;clear hba hall
  go_enter Tryz.func25, Tryz.ntmps25
  go_wp2_with fail;refine hc.out.mono ?_;rintro e w2 hAP;obtain ⟨hb2, A2, c2, rfl, hTk⟩ := hO.out w2 e hAP;have hD2 := Hd ((hb2.block D hDl).trans hD);have hbs := bs_start w2 w1.heap.size;have hb3 := below_alloc w2 (.cells #[.slice none 0 0, .int .i64 0, .string ⟨#[]⟩, .string ⟨#[]⟩, .slice none 0 0, .slice none 0 0, .slice none 0 0, .slice none 0 0, .string ⟨#[]⟩, .int .i64 0, .bool false] 85);have hL2 := Hd hb2.size;have hbA := Hd (hbaH.out.trans (hb2.mono hbaH.out.size));have hDB := Hd (Nat.lt_of_lt_of_le hDl hb2.size);replace hTk := Hd hTk;obtain ⟨ρ0, hρ0⟩ : ∃ ρ0 : Rol, (fun k => if k = w2.heap.size then Ro.bld else .no) = ρ0 := ⟨_, rfl⟩;rw [hρ0] at hbs;obtain ⟨B, hB⟩ : ∃ B, w2.heap.size = B := ⟨_, rfl⟩;obtain ⟨w3, hw3⟩ : ∃ w3, w2.alloc (.cells #[.slice none 0 0, .int .i64 0, .string ⟨#[]⟩, .string ⟨#[]⟩, .slice none 0 0, .slice none 0 0, .slice none 0 0, .slice none 0 0, .string ⟨#[]⟩, .int .i64 0, .bool false] 85) = w3 := ⟨_, rfl⟩;rw [hw3] at hbs hb3;rw [hB] at hbs;obtain ⟨P0, hP0⟩ : ∃ P0 : Pp, Pp.mk w1.heap.size B = P0 := ⟨_, rfl⟩;rw [hP0] at hbs;have hPlo : Hid (P0.lo = w1.heap.size) := Hd (by rw [<- hP0]);have hPhi : Hid (P0.hi = w2.heap.size) := Hd (by rw [<- hP0, hB]);replace hbs := Hd hbs;replace hb3 := Hd hb3;have hm63 : m <= 100000 := by omega
  clear hρ0 hP0 hb2 hAP hD;go_wp2_with fail
  go_loopw [23] (fun v23 wr => ∃ (i : Nat) (ρr : Rol) (sr : St), i <= m /\ v23 = .int .i64 (i : Nat) /\ Hid (BsA ρr P0 wr B sr) /\ Hid (Run S ts i sr) /\ Hid (Below w2.heap.size w2 wr)) (fun v23 _ => m - (intOf v23).toNat)
  case atStart => exact ⟨0, ρ0, .start, Nat.zero_le _, rfl, hbs, Hd (run_0 S ts), hb3⟩
  case round =>
   obtain ⟨i, ρr, sr, hi, rfl, hBs, hRun, hbr⟩ := hrel
   by_cases hlt : i < m
   ·have i1 : decide ((i : Int) < (m : Int)) = true := by simp; omega
    have q1 : (i : Int) < (m : Int) := (by omega);obtain ⟨t, ht⟩ : ∃ t, ts[i]? = some t := ⟨ts[i]'(by rw [hm.out]; exact hlt), List.getElem?_eq_getElem (by rw [hm.out]; exact hlt)⟩;obtain ⟨b9, off, At_, ct, rfl, _, m0, m1, m2, m3, m4, hAt⟩ := tk_at hTk.out ht;have m0 := cell_keep m0 hbr.out;have m1 := cell_keep m1 hbr.out;have m2 := cell_keep m2 hbr.out;have m3 := cell_keep m3 hbr.out;have m4 := cell_keep m4 hbr.out;have htm := List.mem_of_getElem? ht;have htP := hP.out t htm;have htS := hout.out t htm;have hbt := tokW_below wr (.int .i64 (t.kind : Nat)) (.int .i64 (t.at_ : Nat)) (.string (strOf t.name)) (.string (strOf t.text)) (.slice At_ t.attrs.length ct);have hblk := tokW_blk wr (t.kind : Nat) (t.at_ : Nat) (strOf t.name) (strOf t.text) (.slice At_ t.attrs.length ct)
    have ht5 : TkP P0 (tokW wr (.int .i64 (t.kind : Nat)) (.int .i64 (t.at_ : Nat)) (.string (strOf t.name)) (.string (strOf t.text)) (.slice At_ t.attrs.length ct)) [.int .i64 (t.kind : Nat), .int .i64 (t.at_ : Nat), .string (strOf t.name), .string (strOf t.text), .slice At_ t.attrs.length ct] t :=
     ⟨At_, ct, rfl, ((OwS.sq' hAt (by decide)).below AtEl.to hbr.out).below AtEl.to hbt, fun a e _ => by
      have := OwS.lt hAt a.block (by rw [e]; rfl);rw [hPlo.out, hPhi.out]
      exact this⟩
    have h5 := BsA.later hBs.out hbt;have hnew := BsA.new hBs.out;have hinv := hRun.out.inv;have hcst := hRun.out.phi;have htx := text_phi sr;have hct := costs_take ts i;have hcs := hcost.out
    have hattr : t.kind = 1 \/ t.kind = 2 -> t.attrs.length <= 400000 := fun hk => by
     have g1 := writeA_len t.attrs
     have g2 : cost t <= costs ts := by
      have := costs_take ts (i + 1);rw [take_snoc ht, costs_snoc] at this;omega
     have g3 : (writeA t.attrs).length <= cost t := by
      unfold cost;rcases hk with hk | hk
      ·rw [if_pos hk]; omega
      ·rw [if_neg (by omega), if_pos hk]; omega
     omega
    have htt := htS.text;have hstep := token_any h5 ht5 hRun.out.sm (by omega) (by have := hinv.max; omega) hattr (by omega)
    cases hst : stepT sr t with
    | error x =>
     rw [hst] at hstep;have hx0 := step_no0 hst;have hx1 : (x != 0) = true := by simpa using hx0
     have hres : Hid (parseT S.length ts = (x, t.at_, noDoc)) := Hd (by
      unfold parseT
      rw [runT_bad ht hRun.out.run hst])
     replace hstep := Hd hstep;replace hbt := Hd hbt;replace hblk := Hd hblk;replace hnew := Hd hnew;clear h5 ht5 hinv hcst htx hct hcs hattr htt hst htP htS htm hAt;go_wp2_with fail;refine hstep.out.mono ?_;rintro e w6 ⟨c6, rfl, hb6, hc6, ρ6, hk6⟩;subst hc6;have hsame := (hk6 wr.heap.size (Array.getElem?_eq_some_iff.1 hblk.out).1 hnew.out).1;have x1 : w6.cell? ⟨wr.heap.size, 1, none⟩ = some (.int .i64 (t.at_ : Nat)) := cell_blk (hsame.trans hblk.out) rfl;have hw26 := Hd ((hbr.out.trans (hbt.out.mono hbr.out.size)).trans (by rw [<- hPhi.out]; exact hb6));clear hsame hk6 hb6 hstep m0 m1 m2 m3 m4;go_wp2_with fail;refine (Er.New_any _ (t.at_ : Nat) hx0 w6).mono ?_;rintro e w7 ⟨v7, rfl, hb7, hF7⟩;have hw27 := Hd (hw26.out.trans (hb7.mono hw26.out.size));clear hb7;go_wp2_with fail;refine (Er.Wrap_any xmlB _ _ _ _ w7 hF7).mono ?_;rintro e w8 ⟨v8, rfl, hb8, hF8⟩;have hw28 := hw27.out.trans (hb8.mono hw27.out.size);have hD8 := (hw28.block D hDB.out).trans hD2.out;obtain ⟨s0, s1, s2, s3, s4, s5, s6⟩ := doc_same hD8;have f0 := frozen_of_row w8 D 0 _ _ hD8;have z0 := cell_blk hD8 (i := 0) rfl;have f1 := frozen_of_row w8 D 1 _ _ hD8;have z1 := cell_blk hD8 (i := 1) rfl;have f2 := frozen_of_row w8 D 2 _ _ hD8;have z2 := cell_blk hD8 (i := 2) rfl;have f3 := frozen_of_row w8 D 3 _ _ hD8;have z3 := cell_blk hD8 (i := 3) rfl;have f4 := frozen_of_row w8 D 4 _ _ hD8;have z4 := cell_blk hD8 (i := 4) rfl;have f5 := frozen_of_row w8 D 5 _ _ hD8;have z5 := cell_blk hD8 (i := 5) rfl;have f6 := frozen_of_row w8 D 6 _ _ hD8;have z6 := cell_blk hD8 (i := 6) rfl;have hfin : Hid (ParP S w (.returned (.tuple #[zeroDoc, v8])) w8) := Hd (hPar.out _ _ ⟨hbA.out.trans (hw28.mono hbA.out.size), _, _, rfl, .inr (by rw [<- hR.out, hres.out]; exact ⟨hx0, rfl, rfl, hF8⟩)⟩);replace hD8 := Hd hD8;clear hw28 hb8 hF8 hF7;go_wp2_with fail
     (try simp only [Exit.inBlock, Exit.then])
     exact bodyPost_ret (res_doc (ok := v8) rfl hD8.out rfl rfl) rfl hfin.out
    | ok s' =>
     rw [hst] at hstep;have hnext := Hd (hRun.out.next ht htP hst);replace hstep := Hd hstep;replace hbt := Hd hbt;clear h5 ht5 hinv hcst htx hct hcs hattr htt hst htP htS htm hAt hblk hnew;go_wp2_with fail;refine hstep.out.mono ?_;rintro e w6 ⟨c6, rfl, hb6, hc6, ρ6, h6, hk6⟩;subst hc6;have hw26 := Hd ((hbr.out.trans (hbt.out.mono hbr.out.size)).trans (by rw [<- hPhi.out]; exact hb6));replace h6 := Hd h6;clear hk6 hb6 hstep m0 m1 m2 m3 m4;go_wp2_with fail;go_roundw
     case rel => exact ⟨i + 1, ρ6, s', by omega, by go_num, h6, hnext, hw26⟩
     case measure => simp [intOf]; omega
   ·have hie : i = m := (by omega);subst hie;have i1 : decide ((i : Int) < (i : Int)) = false := by simp
    have hrun : Hid (runT ts .start = .ok sr) := Hd (by
     have := hRun.out.run;rw [<- hm.out, List.take_length] at this
     exact this)
    obtain ⟨A7, c7, k7⟩ := BsA.c7 hBs.out;have k10 := BsA.c10 hBs.out
    by_cases hbad : sr.opn ≠ [] \/ sr.has = false
    ·have hres : Hid (parseT S.length ts = (6, S.length, noDoc)) := Hd (by
      unfold parseT;rw [hrun.out];simp only
      rw [if_pos hbad])
     have hw2r := hbr;have key : ∀ (X : Bool), True := fun _ => trivial
     by_cases ho : sr.opn = []
     ·have hhas : sr.has = false := hbad.resolve_left (fun e => e ho);rw [ho] at k7;rw [hhas] at k10;have d1 : decide ((((([] : List Fr).length : Nat)) : Int) > 0) = false := (by decide);clear hbad ho hhas key;go_wp2_with fail;refine (Er.New_any 6 (S.length : Nat) (by decide) wr).mono ?_;rintro e w7 ⟨v7, rfl, hb7, hF7⟩;have hw27 := Hd (hbr.out.trans (hb7.mono hbr.out.size));clear hb7;go_wp2_with fail;refine (Er.Wrap_any xmlB _ _ _ _ w7 hF7).mono ?_;rintro e w8 ⟨v8, rfl, hb8, hF8⟩;have hw28 := hw27.out.trans (hb8.mono hw27.out.size);have hD8 := (hw28.block D hDB.out).trans hD2.out;obtain ⟨s0, s1, s2, s3, s4, s5, s6⟩ := doc_same hD8;have f0 := frozen_of_row w8 D 0 _ _ hD8;have z0 := cell_blk hD8 (i := 0) rfl;have f1 := frozen_of_row w8 D 1 _ _ hD8;have z1 := cell_blk hD8 (i := 1) rfl;have f2 := frozen_of_row w8 D 2 _ _ hD8;have z2 := cell_blk hD8 (i := 2) rfl;have f3 := frozen_of_row w8 D 3 _ _ hD8;have z3 := cell_blk hD8 (i := 3) rfl;have f4 := frozen_of_row w8 D 4 _ _ hD8;have z4 := cell_blk hD8 (i := 4) rfl;have f5 := frozen_of_row w8 D 5 _ _ hD8;have z5 := cell_blk hD8 (i := 5) rfl;have f6 := frozen_of_row w8 D 6 _ _ hD8;have z6 := cell_blk hD8 (i := 6) rfl;have hfin : Hid (ParP S w (.returned (.tuple #[zeroDoc, v8])) w8) := Hd (hPar.out _ _ ⟨hbA.out.trans (hw28.mono hbA.out.size), _, _, rfl, .inr (by rw [<- hR.out, hres.out]; exact ⟨(by decide : (6 : Int) ≠ 0), rfl, rfl, hF8⟩)⟩);replace hD8 := Hd hD8;clear hw28 hb8 hF8 hF7;go_wp2_with fail
      (try simp only [Exit.inBlock, Exit.then])
      exact bodyPost_ret (res_doc (ok := v8) rfl hD8.out rfl rfl) rfl hfin.out
     ·obtain ⟨no, hno⟩ : ∃ no, sr.opn.length = no := ⟨_, rfl⟩;rw [hno] at k7
      have hn0 : 0 < no := by
       rcases Nat.eq_zero_or_pos no with h0 | h0
       ·rw [h0] at hno;exact absurd (List.eq_nil_of_length_eq_zero hno) ho
       ·exact h0
      have d1 : decide ((no : Int) > 0) = true := by simp; omega
      have d2 : decide ((0 : Int) < (no : Int)) = true := by simp; omega
      have d3 : decide (0 < no) = true := by simp; omega
      clear hbad ho hn0 hno key;go_wp2_with fail;refine (Er.New_any 6 (S.length : Nat) (by decide) wr).mono ?_;rintro e w7 ⟨v7, rfl, hb7, hF7⟩;have hw27 := Hd (hbr.out.trans (hb7.mono hbr.out.size));clear hb7;go_wp2_with fail;refine (Er.Wrap_any xmlB _ _ _ _ w7 hF7).mono ?_;rintro e w8 ⟨v8, rfl, hb8, hF8⟩;have hw28 := hw27.out.trans (hb8.mono hw27.out.size);have hD8 := (hw28.block D hDB.out).trans hD2.out;obtain ⟨s0, s1, s2, s3, s4, s5, s6⟩ := doc_same hD8;have f0 := frozen_of_row w8 D 0 _ _ hD8;have z0 := cell_blk hD8 (i := 0) rfl;have f1 := frozen_of_row w8 D 1 _ _ hD8;have z1 := cell_blk hD8 (i := 1) rfl;have f2 := frozen_of_row w8 D 2 _ _ hD8;have z2 := cell_blk hD8 (i := 2) rfl;have f3 := frozen_of_row w8 D 3 _ _ hD8;have z3 := cell_blk hD8 (i := 3) rfl;have f4 := frozen_of_row w8 D 4 _ _ hD8;have z4 := cell_blk hD8 (i := 4) rfl;have f5 := frozen_of_row w8 D 5 _ _ hD8;have z5 := cell_blk hD8 (i := 5) rfl;have f6 := frozen_of_row w8 D 6 _ _ hD8;have z6 := cell_blk hD8 (i := 6) rfl;have hfin : Hid (ParP S w (.returned (.tuple #[zeroDoc, v8])) w8) := Hd (hPar.out _ _ ⟨hbA.out.trans (hw28.mono hbA.out.size), _, _, rfl, .inr (by rw [<- hR.out, hres.out]; exact ⟨(by decide : (6 : Int) ≠ 0), rfl, rfl, hF8⟩)⟩);replace hD8 := Hd hD8;clear hw28 hb8 hF8 hF7;go_wp2_with fail
      (try simp only [Exit.inBlock, Exit.then])
      exact bodyPost_ret (res_doc (ok := v8) rfl hD8.out rfl rfl) rfl hfin.out
    ·have ho : sr.opn = [] := Classical.byContradiction fun e => hbad (.inl e)
     have hhas : sr.has = true := by
      cases hx : sr.has with
      | true => rfl
      | false => exact absurd (.inr hx) hbad
     have hres : Hid (parseT S.length ts = (0, 0, ⟨sr.before, sr.root, sr.after⟩)) := Hd (by
      unfold parseT;rw [hrun.out];simp only
      rw [if_neg hbad])
     rw [ho] at k7;rw [hhas] at k10;have d1 : decide ((((([] : List Fr).length : Nat)) : Int) > 0) = false := (by decide);obtain ⟨A1, n1, c1, kd, nm, tx, Ar, na, cr, Ak, nk, ck, A9, n9, c9, C, hC, y0, y1, y2, y3, y4, y5, y6, hdoc⟩ := doc_fin (lo0 := w.heap.size) (D := D) hBs.out (by rw [hPlo.out]; exact hDlo.out) (by rw [hPlo.out]; exact hbaH.out.size) (by rw [hPlo.out, hPhi.out]; exact hL2.out);have y0 := cell_blk hC y0;have y1 := cell_blk hC y1;have y2 := cell_blk hC y2;have y3 := cell_blk hC y3;have y4 := cell_blk hC y4;have y5 := cell_blk hC y5;have y6 := cell_blk hC y6;have hDr := (hbr.out.block D hDB.out).trans hD2.out;have f0 := frozen_of_row wr D 0 _ _ hDr;have z0 := cell_blk hDr (i := 0) rfl;have f1 := frozen_of_row wr D 1 _ _ hDr;have z1 := cell_blk hDr (i := 1) rfl;have f2 := frozen_of_row wr D 2 _ _ hDr;have z2 := cell_blk hDr (i := 2) rfl;have f3 := frozen_of_row wr D 3 _ _ hDr;have z3 := cell_blk hDr (i := 3) rfl;have f4 := frozen_of_row wr D 4 _ _ hDr;have z4 := cell_blk hDr (i := 4) rfl;have f5 := frozen_of_row wr D 5 _ _ hDr;have z5 := cell_blk hDr (i := 5) rfl;have f6 := frozen_of_row wr D 6 _ _ hDr;have z6 := cell_blk hDr (i := 6) rfl;have hBD : B ≠ D := by rw [<- hB]; have := hDB.out; omega
     replace hdoc := Hd hdoc;replace hDr := Hd hDr;clear hC hbad ho hhas;go_wp2_with fail
     (try simp only [Exit.inBlock, Exit.then])
     have hDf := blk_setCell (blk_setCell (blk_setCell (blk_setCell (blk_setCell (blk_setCell (blk_setCell hDr.out (i := 0) (.slice A1 n1 c1)) (i := 1) (.int .i64 kd)) (i := 2) (.string nm)) (i := 3) (.string tx)) (i := 4) (.slice Ar na cr)) (i := 5) (.slice Ak nk ck)) (i := 6) (.slice A9 n9 c9);refine bodyPost_ret (res_doc (ok := .nilIface) rfl hDf rfl rfl) rfl ?_;have hgr := ((((((grown_set wr ⟨D, 0, none⟩ (.slice A1 n1 c1)).trans (grown_set _ ⟨D, 1, none⟩ (.int .i64 kd))).trans (grown_set _ ⟨D, 2, none⟩ (.string nm))).trans (grown_set _ ⟨D, 3, none⟩ (.string tx))).trans (grown_set _ ⟨D, 4, none⟩ (.slice Ar na cr))).trans (grown_set _ ⟨D, 5, none⟩ (.slice Ak nk ck))).trans (grown_set _ ⟨D, 6, none⟩ (.slice A9 n9 c9));have hfd := hdoc.out _ hgr;have hbw := hbA.out.trans (hbr.out.mono hbA.out.size);refine hPar.out _ _ ⟨hbw.grown hgr hbw.size (fun k hk => by injection hk with hk; have hk : D = k := hk; omega), _, _, rfl, .inl ?_⟩;rw [<- hR.out, hres.out];exact ⟨rfl, rfl, hfd⟩
 ·rw [if_pos hcd] at hR;have hN := fun w2 e h => AllP.no (w := w1) (w' := w2) (e := e) h hall hcd
  replace hN := Hd hN;replace hR := Hd hR;replace hall := Hd hall;clear hba
  go_enter Tryz.func25, Tryz.ntmps25
  go_wp2_with fail;refine hc.out.mono ?_;rintro e w2 hAP;obtain ⟨hb2, v, rfl, hFe⟩ := hN.out w2 e hAP;obtain ⟨TI, ad, rfl⟩ := hFe.iface;have hD2 := (hb2.block D hDl).trans hD;obtain ⟨s0, s1, s2, s3, s4, s5, s6⟩ := doc_same hD2;have f0 := frozen_of_row w2 D 0 _ _ hD2;have z0 := cell_blk hD2 (i := 0) rfl;have f1 := frozen_of_row w2 D 1 _ _ hD2;have z1 := cell_blk hD2 (i := 1) rfl;have f2 := frozen_of_row w2 D 2 _ _ hD2;have z2 := cell_blk hD2 (i := 2) rfl;have f3 := frozen_of_row w2 D 3 _ _ hD2;have z3 := cell_blk hD2 (i := 3) rfl;have f4 := frozen_of_row w2 D 4 _ _ hD2;have z4 := cell_blk hD2 (i := 4) rfl;have f5 := frozen_of_row w2 D 5 _ _ hD2;have z5 := cell_blk hD2 (i := 5) rfl;have f6 := frozen_of_row w2 D 6 _ _ hD2;have z6 := cell_blk hD2 (i := 6) rfl;have hfin : Hid (ParP S w (.returned (.tuple #[zeroDoc, .iface TI (.pointer (some ad))])) w2) := Hd (hPar.out _ _ ⟨hbaH.out.trans (hb2.mono hbaH.out.size), _, _, rfl, .inr (by rw [<- hR.out]; exact ⟨hcd, rfl, rfl, hFe⟩)⟩);replace hD2 := Hd hD2;clear hb2 hFe hAP hD;go_wp2_with fail;exact bodyPost_ret (res_doc (ok := .iface TI (.pointer (some ad))) rfl hD2.out rfl rfl) rfl hfin.out
end
end Go.Proofs.YtokdnhdfmgfkeaaGreatDoor.Xt
end

section
namespace Go.Proofs.YtokdnhdfmgfkeaaGreatDoor.Xt
open Go.RowKit UtfW Xl
mutual
theorem depth_count : ∀ n : Nd, depthN n <= countN n
 | .mk k nm tx as_ ks => by
  have := depth_countL ks;rw [depthN, countN]
  split <;> omega
theorem depth_countL : ∀ l : List Nd, depthL l <= countL l
 | [] => Nat.le_refl _
 | x :: xs => by
  have h1 := depth_count x;have h2 := depth_countL xs;rw [depthL, countL];omega
end
theorem countL_take : ∀ (l : List Nd) (i : Nat), countL (l.take i) <= countL l
 | [], i => by simp
 | x :: l, 0 => by simp [countL]
 | x :: l, i + 1 => by
  have := countL_take l i;rw [List.take_succ_cons, countL, countL];omega
theorem count_kid {ks : List Nd} {i : Nat} {x : Nd} (h : ks[i]? = some x) : countL (ks.take i) + countN x <= countL ks := by
 have := countL_take ks (i + 1);rw [take_snoc h, countL_append] at this;simp [countL] at this;omega
theorem len_count : ∀ l : List Nd, l.length <= countL l
 | [] => Nat.le_refl _
 | x :: l => by
  obtain ⟨k, nm, tx, as_, ks⟩ := x;have := len_count l;rw [countL, countN, List.length_cons];omega
set_option maxHeartbeats 4000000 in
set_option maxRecDepth 100000 in
theorem depth_any : ∀ (k : Nat) (X : Nat -> Prop) (w : World) (vs : List Value) (n : Nd), SizeOf.sizeOf n <= k -> NdI X w vs n -> (∀ j, X j -> j < w.heap.size) -> countN n <= 1000000 →
  Calls Tryz.prog 33 #[.agg vs.toArray] w fun e w' => e = .returned (.int .i64 (depthN n : Nat)) /\ Below w.heap.size w w' := by
 intro k
 induction k with
 | zero =>
  intro X w vs n hk;obtain ⟨kd, nm, tx, as_, ks⟩ := n;simp at hk
 | succ k ih =>
  intro X w vs n hk hn hX hc;obtain ⟨kd, nm, tx, as_, ks⟩ := n;obtain ⟨A, ca, A2, c2, rfl, hA, hK, -, -⟩ := hn.cells;have hcl : countL ks + as_.length + 1 <= 1000000 := by rw [countN] at hc; omega
  have hlen := len_count ks;have hba := below_alloc w (.cells #[.int .i64 kd, .string (strOf nm), .string (strOf tx), .slice A as_.length ca, .slice A2 ks.length c2] 25);have hnb := heap_alloc_new w (.cells #[.int .i64 kd, .string (strOf nm), .string (strOf tx), .slice A as_.length ca, .slice A2 ks.length c2] 25);have ih := Hd ih;obtain ⟨T, hT⟩ : ∃ T, w.heap.size = T := ⟨_, rfl⟩;obtain ⟨w1, hw1⟩ : ∃ w1, w.alloc (.cells #[.int .i64 kd, .string (strOf nm), .string (strOf tx), .slice A as_.length ca, .slice A2 ks.length c2] 25) = w1 := ⟨_, rfl⟩;rw [hw1] at hba hnb;rw [hT] at hnb;have x0 : w1.cell? ⟨T, 0, none⟩ = some (.int .i64 kd) := cell_blk hnb rfl;have x3 : w1.cell? ⟨T, 3, none⟩ = some (.slice A as_.length ca) := cell_blk hnb rfl;have x4 : w1.cell? ⟨T, 4, none⟩ = some (.slice A2 ks.length c2) := cell_blk hnb rfl
  have hkid : Hid (∀ i x, ks[i]? = some x -> SizeOf.sizeOf x <= k) := Hd fun i x hx => by
   have := kid_lt (k := kd) (nm := nm) (tx := tx) (as_ := as_) hx;omega
  obtain ⟨m, hm⟩ : ∃ m, ks.length = m := ⟨_, rfl⟩;rw [hm] at x4 hK hlen;obtain ⟨la, hla⟩ : ∃ la, as_.length = la := ⟨_, rfl⟩;rw [hla] at x3 hcl;have hnbH := Hd hnb;have hXH := Hd hX;replace hK := Hd hK;have hTl : Hid (T < w1.heap.size) := Hd (Array.getElem?_eq_some_iff.1 hnb).1;replace hba := Hd hba;replace hm := Hd hm;replace hla := Hd hla;clear hnb hX hA hn hk hc
  by_cases hk1 : kd = 1
  ·subst hk1
   go_enter Tryz.func33, Tryz.ntmps33
   go_wp2_with fail
   go_loopw [3, 12] (fun va vi wr => ∃ i a : Nat, i <= m /\ vi = .int .i64 (i : Nat) /\ va = .int .i64 (a : Nat) /\ a <= 1000000 /\ Hid (a = depthL (ks.take i)) /\ Hid (Below w.heap.size w wr)) (fun _ vi _ => m - (intOf vi).toNat)
   case atStart => exact ⟨0, 0, Nat.zero_le _, rfl, rfl, Nat.zero_le _, Hd (by simp [depthL]), hba⟩
   case round =>
    obtain ⟨i, a, hi, rfl, rfl, ha9, ha, hb⟩ := hrel
    by_cases hlt : i < m
    ·have i1 : decide ((i : Int) < (m : Int)) = true := by simp; omega
     have q1 : (i : Int) < (m : Int) := by omega
     have hKr : Sq (NdE X) 5 wr A2 m c2 ks := Sq.stay hK.out (fun ad e hn => by
      obtain ⟨b, off, e2, hbl, _⟩ := hK.out.cell hn;rw [e] at e2;injection e2 with e2;rw [e2]
      exact hb.out.block b hbl) (fun vs x h => NdI.later h hXH.out hb.out)
     obtain ⟨b1, off1, x, vs1, rfl, _, hx1, _, hv1, hc1⟩ := hKr.at_ hlt;have hszx := hkid.out i x hx1;have hcx := count_kid hx1;have hX1 : ∀ j, X j -> j < wr.heap.size := fun j hj => Nat.lt_of_lt_of_le (hXH.out j hj) hb.out.size
     obtain ⟨kx, nx_, tx_, ax, kx_⟩ := x;obtain ⟨Ax, cax, A2x, c2x, rfl, -⟩ := hv1.cells;have m0 := hc1 0 _ rfl;have m1 := hc1 1 _ rfl;have m2 := hc1 2 _ rfl;have m3 := hc1 3 _ rfl;have m4 := hc1 4 _ rfl;rw [Nat.add_zero] at m0;have hbt := below_alloc wr (.cells #[.int .i64 kx, .string (strOf nx_), .string (strOf tx_), .slice Ax ax.length cax, .slice A2x kx_.length c2x] 25);have hrec := Hd (ih.out X (wr.alloc (.cells #[.int .i64 kx, .string (strOf nx_), .string (strOf tx_), .slice Ax ax.length cax, .slice A2x kx_.length c2x] 25)) _ _ hszx (NdI.later hv1 hX1 hbt) (fun j hj => Nat.lt_of_lt_of_le (hX1 j hj) hbt.size) (by omega));have hdc := depth_count (.mk kx nx_ tx_ ax kx_)
     have hnext : Hid (max a (depthN (.mk kx nx_ tx_ ax kx_)) = depthL (ks.take (i + 1))) := Hd (by
      rw [take_snoc hx1, depthL_append, ha.out]
      simp [depthL])
     have hbb := Hd (hb.out.trans (hbt.mono hb.out.size));obtain ⟨dx, hdx⟩ : ∃ dx, depthN (.mk kx nx_ tx_ ax kx_) = dx := ⟨_, rfl⟩;rw [hdx] at hrec hnext hdc;have hdx9 : dx <= 1000000 := (by omega);have haf := ha.out;have hsum : max a dx <= 1000000 := (by omega);clear haf hdx hdc hcx hszx hKr hv1 hx1 hc1 hX1 hbt;go_wp2_with fail;refine hrec.out.mono ?_;rintro e w5 ⟨rfl, hb5⟩;have hw5 := Hd (hbb.out.trans (hb5.mono hbb.out.size));clear hb5 m0 m1 m2 m3 m4;go_wp2_with fail;go_roundw
     case rel => exact ⟨i + 1, max a dx, by omega, by go_num, by (simp; omega), hsum, hnext, hw5⟩
     case measure => simp [intOf]; omega
    ·have hie : i = m := (by omega);subst hie;have i1 : decide ((i : Int) < (i : Int)) = false := by simp
     have hfin : Hid (depthN (.mk 1 nm tx as_ ks) = a + 1) := Hd (by
      rw [depthN, if_pos rfl, ha.out, <- hm.out, List.take_length])
     go_wp2_with fail;go_ret;exact ⟨by rw [hfin.out]; rfl, hb.out⟩
  ·have k1 : (kd != 1) = true := by simpa using hk1
   have hz : Hid (depthN (.mk kd nm tx as_ ks) = 0) := Hd (by rw [depthN, if_neg hk1])
   go_enter Tryz.func33, Tryz.ntmps33
   go_wp2_with fail;go_ret;exact ⟨by rw [hz.out]; rfl, hba.out⟩
set_option maxHeartbeats 4000000 in
set_option maxRecDepth 100000 in
theorem countN_any : ∀ (k : Nat) (X : Nat -> Prop) (w : World) (vs : List Value) (n : Nd), SizeOf.sizeOf n <= k -> NdI X w vs n -> (∀ j, X j -> j < w.heap.size) -> countN n <= 1000000 →
  Calls Tryz.prog 34 #[.agg vs.toArray] w fun e w' => e = .returned (.int .i64 (countN n : Nat)) /\ Below w.heap.size w w' := by
 intro k
 induction k with
 | zero =>
  intro X w vs n hk;obtain ⟨kd, nm, tx, as_, ks⟩ := n;simp at hk
 | succ k ih =>
  intro X w vs n hk hn hX hc;obtain ⟨kd, nm, tx, as_, ks⟩ := n;obtain ⟨A, ca, A2, c2, rfl, hA, hK, -, -⟩ := hn.cells;have hcl : countL ks + as_.length + 1 <= 1000000 := by rw [countN] at hc; omega
  have hlen := len_count ks;have hba := below_alloc w (.cells #[.int .i64 kd, .string (strOf nm), .string (strOf tx), .slice A as_.length ca, .slice A2 ks.length c2] 25);have hnb := heap_alloc_new w (.cells #[.int .i64 kd, .string (strOf nm), .string (strOf tx), .slice A as_.length ca, .slice A2 ks.length c2] 25);have ih := Hd ih;obtain ⟨T, hT⟩ : ∃ T, w.heap.size = T := ⟨_, rfl⟩;obtain ⟨w1, hw1⟩ : ∃ w1, w.alloc (.cells #[.int .i64 kd, .string (strOf nm), .string (strOf tx), .slice A as_.length ca, .slice A2 ks.length c2] 25) = w1 := ⟨_, rfl⟩;rw [hw1] at hba hnb;rw [hT] at hnb;have x0 : w1.cell? ⟨T, 0, none⟩ = some (.int .i64 kd) := cell_blk hnb rfl;have x3 : w1.cell? ⟨T, 3, none⟩ = some (.slice A as_.length ca) := cell_blk hnb rfl;have x4 : w1.cell? ⟨T, 4, none⟩ = some (.slice A2 ks.length c2) := cell_blk hnb rfl
  have hkid : Hid (∀ i x, ks[i]? = some x -> SizeOf.sizeOf x <= k) := Hd fun i x hx => by
   have := kid_lt (k := kd) (nm := nm) (tx := tx) (as_ := as_) hx;omega
  obtain ⟨m, hm⟩ : ∃ m, ks.length = m := ⟨_, rfl⟩;rw [hm] at x4 hK hlen;obtain ⟨la, hla⟩ : ∃ la, as_.length = la := ⟨_, rfl⟩;rw [hla] at x3 hcl;have hnbH := Hd hnb;have hXH := Hd hX;replace hK := Hd hK;have hTl : Hid (T < w1.heap.size) := Hd (Array.getElem?_eq_some_iff.1 hnb).1;replace hba := Hd hba;replace hm := Hd hm;replace hla := Hd hla;clear hnb hX hA hn hk hc
  go_enter Tryz.func34, Tryz.ntmps34
  go_wp2_with fail
  go_loopw [3, 13] (fun va vi wr => ∃ i a : Nat, i <= m /\ vi = .int .i64 (i : Nat) /\ va = .int .i64 (a : Nat) /\ a <= 1000000 /\ Hid (a = 1 + la + countL (ks.take i)) /\ Hid (Below w.heap.size w wr)) (fun _ vi _ => m - (intOf vi).toNat)
  case atStart => exact ⟨0, 1 + la, Nat.zero_le _, rfl, (by go_num), by omega, Hd (by simp [countL]), hba⟩
  case round =>
   obtain ⟨i, a, hi, rfl, rfl, ha9, ha, hb⟩ := hrel
   by_cases hlt : i < m
   ·have i1 : decide ((i : Int) < (m : Int)) = true := by simp; omega
    have q1 : (i : Int) < (m : Int) := by omega
    have hKr : Sq (NdE X) 5 wr A2 m c2 ks := Sq.stay hK.out (fun ad e hn => by
     obtain ⟨b, off, e2, hbl, _⟩ := hK.out.cell hn;rw [e] at e2;injection e2 with e2;rw [e2]
     exact hb.out.block b hbl) (fun vs x h => NdI.later h hXH.out hb.out)
    obtain ⟨b1, off1, x, vs1, rfl, _, hx1, _, hv1, hc1⟩ := hKr.at_ hlt;have hszx := hkid.out i x hx1;have hcx := count_kid hx1;have hX1 : ∀ j, X j -> j < wr.heap.size := fun j hj => Nat.lt_of_lt_of_le (hXH.out j hj) hb.out.size
    obtain ⟨kx, nx_, tx_, ax, kx_⟩ := x;obtain ⟨Ax, cax, A2x, c2x, rfl, -⟩ := hv1.cells;have m0 := hc1 0 _ rfl;have m1 := hc1 1 _ rfl;have m2 := hc1 2 _ rfl;have m3 := hc1 3 _ rfl;have m4 := hc1 4 _ rfl;rw [Nat.add_zero] at m0;have hbt := below_alloc wr (.cells #[.int .i64 kx, .string (strOf nx_), .string (strOf tx_), .slice Ax ax.length cax, .slice A2x kx_.length c2x] 25);have hrec := Hd (ih.out X (wr.alloc (.cells #[.int .i64 kx, .string (strOf nx_), .string (strOf tx_), .slice Ax ax.length cax, .slice A2x kx_.length c2x] 25)) _ _ hszx (NdI.later hv1 hX1 hbt) (fun j hj => Nat.lt_of_lt_of_le (hX1 j hj) hbt.size) (by omega));have hdc := depth_count (.mk kx nx_ tx_ ax kx_)
    have hnext : Hid (a + countN (.mk kx nx_ tx_ ax kx_) = 1 + la + countL (ks.take (i + 1))) := Hd (by
     rw [take_snoc hx1, countL_append, ha.out]
     simp [countL]; omega)
    have hbb := Hd (hb.out.trans (hbt.mono hb.out.size));obtain ⟨dx, hdx⟩ : ∃ dx, countN (.mk kx nx_ tx_ ax kx_) = dx := ⟨_, rfl⟩;rw [hdx] at hrec hnext;have hdx9 : dx <= 1000000 := by rw [<- hdx]; omega
    have haf := ha.out;have hsum : a + dx <= 1000000 := by rw [<- hdx, haf]; omega
    clear haf hdx hdc hcx hszx hKr hv1 hx1 hc1 hX1 hbt;go_wp2_with fail;refine hrec.out.mono ?_;rintro e w5 ⟨rfl, hb5⟩;have hw5 := Hd (hbb.out.trans (hb5.mono hbb.out.size));clear hb5 m0 m1 m2 m3 m4;go_wp2_with fail;go_roundw
    case rel => exact ⟨i + 1, a + dx, by omega, by go_num, by go_num, hsum, hnext, hw5⟩
    case measure => simp [intOf]; omega
   ·have hie : i = m := (by omega);subst hie;have i1 : decide ((i : Int) < (i : Int)) = false := by simp
    have hfin : Hid (countN (.mk kd nm tx as_ ks) = a) := Hd (by
     rw [countN, ha.out, <- hm.out, List.take_length, <- hla.out])
    go_wp2_with fail;go_ret;exact ⟨by rw [hfin.out]; rfl, hb.out⟩
set_option maxHeartbeats 4000000 in
set_option maxRecDepth 100000 in
theorem rdepth_any : ∀ (k : Nat) (X : Nat -> Prop) (w : World) (vs : List Value) (n : Nd), SizeOf.sizeOf n <= k -> NdI X w vs n -> (∀ j, X j -> j < w.heap.size) -> countN n <= 1000000 →
  Calls Tryz.prog 32 #[.agg vs.toArray] w fun e w' => e = .returned (.int .i64 (depthN n : Nat)) /\ Below w.heap.size w w' := by
 intro k
 induction k with
 | zero =>
  intro X w vs n hk;obtain ⟨kd, nm, tx, as_, ks⟩ := n;simp at hk
 | succ k ih =>
  intro X w vs n hk hn hX hc;obtain ⟨kd, nm, tx, as_, ks⟩ := n;obtain ⟨A, ca, A2, c2, rfl, hA, hK, -, -⟩ := hn.cells;have hcl : countL ks + as_.length + 1 <= 1000000 := by rw [countN] at hc; omega
  have hlen := len_count ks;have hba := below_alloc w (.cells #[.int .i64 kd, .string (strOf nm), .string (strOf tx), .slice A as_.length ca, .slice A2 ks.length c2] 25);have hnb := heap_alloc_new w (.cells #[.int .i64 kd, .string (strOf nm), .string (strOf tx), .slice A as_.length ca, .slice A2 ks.length c2] 25);have ih := Hd ih;obtain ⟨T, hT⟩ : ∃ T, w.heap.size = T := ⟨_, rfl⟩;obtain ⟨w1, hw1⟩ : ∃ w1, w.alloc (.cells #[.int .i64 kd, .string (strOf nm), .string (strOf tx), .slice A as_.length ca, .slice A2 ks.length c2] 25) = w1 := ⟨_, rfl⟩;rw [hw1] at hba hnb;rw [hT] at hnb;have x0 : w1.cell? ⟨T, 0, none⟩ = some (.int .i64 kd) := cell_blk hnb rfl;have x3 : w1.cell? ⟨T, 3, none⟩ = some (.slice A as_.length ca) := cell_blk hnb rfl;have x4 : w1.cell? ⟨T, 4, none⟩ = some (.slice A2 ks.length c2) := cell_blk hnb rfl
  have hkid : Hid (∀ i x, ks[i]? = some x -> SizeOf.sizeOf x <= k) := Hd fun i x hx => by
   have := kid_lt (k := kd) (nm := nm) (tx := tx) (as_ := as_) hx;omega
  obtain ⟨m, hm⟩ : ∃ m, ks.length = m := ⟨_, rfl⟩;rw [hm] at x4 hK hlen;obtain ⟨la, hla⟩ : ∃ la, as_.length = la := ⟨_, rfl⟩;rw [hla] at x3 hcl;have hnbH := Hd hnb;have hXH := Hd hX;replace hK := Hd hK;have hTl : Hid (T < w1.heap.size) := Hd (Array.getElem?_eq_some_iff.1 hnb).1;replace hba := Hd hba;replace hm := Hd hm;replace hla := Hd hla;clear hnb hX hA hn hk hc
  by_cases hk1 : kd = 1
  ·subst hk1
   go_enter Tryz.func32, Tryz.ntmps32
   go_wp2_with fail
   go_loopw [3, 4] (fun va vi wr => ∃ i a : Nat, i <= m /\ vi = .int .i64 (i : Nat) /\ va = .int .i64 (a : Nat) /\ a <= 1000000 /\ Hid (a = depthL (ks.take i)) /\ Hid (Below w1.heap.size w1 wr)) (fun _ vi _ => m - (intOf vi).toNat)
   case atStart => exact ⟨0, 0, Nat.zero_le _, rfl, rfl, Nat.zero_le _, Hd (by simp [depthL]), Hd (Below.refl _ _)⟩
   case round =>
    obtain ⟨i, a, hi, rfl, rfl, ha9, ha, hb1⟩ := hrel;have hb := Hd (hba.out.trans (hb1.out.mono hba.out.size));have y4 := cell_keep x4 hb1.out
    by_cases hlt : i < m
    ·have i1 : decide ((i : Int) < (m : Int)) = true := by simp; omega
     have q1 : (i : Int) < (m : Int) := by omega
     have hKr : Sq (NdE X) 5 wr A2 m c2 ks := Sq.stay hK.out (fun ad e hn => by
      obtain ⟨b, off, e2, hbl, _⟩ := hK.out.cell hn;rw [e] at e2;injection e2 with e2;rw [e2]
      exact hb.out.block b hbl) (fun vs x h => NdI.later h hXH.out hb.out)
     obtain ⟨b1, off1, x, vs1, rfl, _, hx1, _, hv1, hc1⟩ := hKr.at_ hlt;have hszx := hkid.out i x hx1;have hcx := count_kid hx1;have hX1 : ∀ j, X j -> j < wr.heap.size := fun j hj => Nat.lt_of_lt_of_le (hXH.out j hj) hb.out.size
     obtain ⟨kx, nx_, tx_, ax, kx_⟩ := x;obtain ⟨Ax, cax, A2x, c2x, rfl, -⟩ := hv1.cells;have m0 := hc1 0 _ rfl;have m1 := hc1 1 _ rfl;have m2 := hc1 2 _ rfl;have m3 := hc1 3 _ rfl;have m4 := hc1 4 _ rfl;rw [Nat.add_zero] at m0;have hrec := Hd (ih.out X wr _ _ hszx hv1 hX1 (by omega));have hdc := depth_count (.mk kx nx_ tx_ ax kx_)
     have hnext : Hid (max a (depthN (.mk kx nx_ tx_ ax kx_)) = depthL (ks.take (i + 1))) := Hd (by
      rw [take_snoc hx1, depthL_append, ha.out]
      simp [depthL])
     have hbb := Hd hb1.out;obtain ⟨dx, hdx⟩ : ∃ dx, depthN (.mk kx nx_ tx_ ax kx_) = dx := ⟨_, rfl⟩;rw [hdx] at hrec hnext hdc;have hdx9 : dx <= 1000000 := (by omega);have haf := ha.out;have hsum : max a dx <= 1000000 := (by omega);clear haf hdx hdc hcx hszx hKr hv1 hx1 hc1 hX1;go_wp2_with fail;refine hrec.out.mono ?_;rintro e w5 ⟨rfl, hb5⟩;have hw5 := Hd (hbb.out.trans (hb5.mono hbb.out.size));clear hb5 m0 m1 m2 m3 m4;go_wp2_with fail;go_roundw
     case rel => exact ⟨i + 1, max a dx, by omega, by go_num, by (simp; omega), hsum, hnext, hw5⟩
     case measure => simp [intOf]; omega
    ·have hie : i = m := (by omega);subst hie;have i1 : decide ((i : Int) < (i : Int)) = false := by simp
     have hfin : Hid (depthN (.mk 1 nm tx as_ ks) = a + 1) := Hd (by
      rw [depthN, if_pos rfl, ha.out, <- hm.out, List.take_length])
     go_wp2_with fail;go_ret;exact ⟨by rw [hfin.out]; rfl, hb.out⟩
  ·have k1 : (kd != 1) = true := by simpa using hk1
   have hz : Hid (depthN (.mk kd nm tx as_ ks) = 0) := Hd (by rw [depthN, if_neg hk1])
   go_enter Tryz.func32, Tryz.ntmps32
   go_wp2_with fail;go_ret;exact ⟨by rw [hz.out]; rfl, hba.out⟩
set_option maxHeartbeats 4000000 in
set_option maxRecDepth 100000 in
theorem rcount_any : ∀ (k : Nat) (X : Nat -> Prop) (w : World) (vs : List Value) (n : Nd), SizeOf.sizeOf n <= k -> NdI X w vs n -> (∀ j, X j -> j < w.heap.size) -> countN n <= 1000000 →
  Calls Tryz.prog 30 #[.agg vs.toArray] w fun e w' => e = .returned (.int .i64 (countN n : Nat)) /\ Below w.heap.size w w' := by
 intro k
 induction k with
 | zero =>
  intro X w vs n hk;obtain ⟨kd, nm, tx, as_, ks⟩ := n;simp at hk
 | succ k ih =>
  intro X w vs n hk hn hX hc;obtain ⟨kd, nm, tx, as_, ks⟩ := n;obtain ⟨A, ca, A2, c2, rfl, hA, hK, -, -⟩ := hn.cells;have hcl : countL ks + as_.length + 1 <= 1000000 := by rw [countN] at hc; omega
  have hlen := len_count ks;have hba := below_alloc w (.cells #[.int .i64 kd, .string (strOf nm), .string (strOf tx), .slice A as_.length ca, .slice A2 ks.length c2] 25);have hnb := heap_alloc_new w (.cells #[.int .i64 kd, .string (strOf nm), .string (strOf tx), .slice A as_.length ca, .slice A2 ks.length c2] 25);have ih := Hd ih;obtain ⟨T, hT⟩ : ∃ T, w.heap.size = T := ⟨_, rfl⟩;obtain ⟨w1, hw1⟩ : ∃ w1, w.alloc (.cells #[.int .i64 kd, .string (strOf nm), .string (strOf tx), .slice A as_.length ca, .slice A2 ks.length c2] 25) = w1 := ⟨_, rfl⟩;rw [hw1] at hba hnb;rw [hT] at hnb;have x0 : w1.cell? ⟨T, 0, none⟩ = some (.int .i64 kd) := cell_blk hnb rfl;have x3 : w1.cell? ⟨T, 3, none⟩ = some (.slice A as_.length ca) := cell_blk hnb rfl;have x4 : w1.cell? ⟨T, 4, none⟩ = some (.slice A2 ks.length c2) := cell_blk hnb rfl
  have hkid : Hid (∀ i x, ks[i]? = some x -> SizeOf.sizeOf x <= k) := Hd fun i x hx => by
   have := kid_lt (k := kd) (nm := nm) (tx := tx) (as_ := as_) hx;omega
  obtain ⟨m, hm⟩ : ∃ m, ks.length = m := ⟨_, rfl⟩;rw [hm] at x4 hK hlen;obtain ⟨la, hla⟩ : ∃ la, as_.length = la := ⟨_, rfl⟩;rw [hla] at x3 hcl;have hnbH := Hd hnb;have hXH := Hd hX;replace hK := Hd hK;have hTl : Hid (T < w1.heap.size) := Hd (Array.getElem?_eq_some_iff.1 hnb).1;replace hba := Hd hba;replace hm := Hd hm;replace hla := Hd hla;clear hnb hX hA hn hk hc
  go_enter Tryz.func30, Tryz.ntmps30
  go_wp2_with fail
  go_loopw [3, 4] (fun va vi wr => ∃ i a : Nat, i <= m /\ vi = .int .i64 (i : Nat) /\ va = .int .i64 (a : Nat) /\ a <= 1000000 /\ Hid (a = 1 + la + countL (ks.take i)) /\ Hid (Below w1.heap.size w1 wr)) (fun _ vi _ => m - (intOf vi).toNat)
  case atStart => exact ⟨0, 1 + la, Nat.zero_le _, rfl, (by go_num), by omega, Hd (by simp [countL]), Hd (Below.refl _ _)⟩
  case round =>
   obtain ⟨i, a, hi, rfl, rfl, ha9, ha, hb1⟩ := hrel;have hb := Hd (hba.out.trans (hb1.out.mono hba.out.size));have y4 := cell_keep x4 hb1.out
   by_cases hlt : i < m
   ·have i1 : decide ((i : Int) < (m : Int)) = true := by simp; omega
    have q1 : (i : Int) < (m : Int) := by omega
    have hKr : Sq (NdE X) 5 wr A2 m c2 ks := Sq.stay hK.out (fun ad e hn => by
     obtain ⟨b, off, e2, hbl, _⟩ := hK.out.cell hn;rw [e] at e2;injection e2 with e2;rw [e2]
     exact hb.out.block b hbl) (fun vs x h => NdI.later h hXH.out hb.out)
    obtain ⟨b1, off1, x, vs1, rfl, _, hx1, _, hv1, hc1⟩ := hKr.at_ hlt;have hszx := hkid.out i x hx1;have hcx := count_kid hx1;have hX1 : ∀ j, X j -> j < wr.heap.size := fun j hj => Nat.lt_of_lt_of_le (hXH.out j hj) hb.out.size
    obtain ⟨kx, nx_, tx_, ax, kx_⟩ := x;obtain ⟨Ax, cax, A2x, c2x, rfl, -⟩ := hv1.cells;have m0 := hc1 0 _ rfl;have m1 := hc1 1 _ rfl;have m2 := hc1 2 _ rfl;have m3 := hc1 3 _ rfl;have m4 := hc1 4 _ rfl;rw [Nat.add_zero] at m0;have hrec := Hd (ih.out X wr _ _ hszx hv1 hX1 (by omega));have hdc := depth_count (.mk kx nx_ tx_ ax kx_)
    have hnext : Hid (a + countN (.mk kx nx_ tx_ ax kx_) = 1 + la + countL (ks.take (i + 1))) := Hd (by
     rw [take_snoc hx1, countL_append, ha.out]
     simp [countL]; omega)
    have hbb := Hd hb1.out;obtain ⟨dx, hdx⟩ : ∃ dx, countN (.mk kx nx_ tx_ ax kx_) = dx := ⟨_, rfl⟩;rw [hdx] at hrec hnext;have hdx9 : dx <= 1000000 := by rw [<- hdx]; omega
    have haf := ha.out;have hsum : a + dx <= 1000000 := by rw [<- hdx, haf]; omega
    clear haf hdx hdc hcx hszx hKr hv1 hx1 hc1 hX1;go_wp2_with fail;refine hrec.out.mono ?_;rintro e w5 ⟨rfl, hb5⟩;have hw5 := Hd (hbb.out.trans (hb5.mono hbb.out.size));clear hb5 m0 m1 m2 m3 m4;go_wp2_with fail;go_roundw
    case rel => exact ⟨i + 1, a + dx, by omega, by go_num, by go_num, hsum, hnext, hw5⟩
    case measure => simp [intOf]; omega
   ·have hie : i = m := (by omega);subst hie;have i1 : decide ((i : Int) < (i : Int)) = false := by simp
    have hfin : Hid (countN (.mk kd nm tx as_ ks) = a) := Hd (by
     rw [countN, ha.out, <- hm.out, List.take_length, <- hla.out])
    go_wp2_with fail;go_ret;exact ⟨by rw [hfin.out]; rfl, hb.out⟩
end Go.Proofs.YtokdnhdfmgfkeaaGreatDoor.Xt
end

section
namespace Go.Proofs.YtokdnhdfmgfkeaaGreatDoor.Xp
open Go.RowKit UtfW Xl Xo Xt
structure DocB (d : Doc) : Prop where
 cnt : countN d.root <= 1000000
 bl : d.before.length <= 1000000
 al : d.after.length <= 1000000
 wr : (writeD d).length <= 100000000000000
 rs : smN d.root
 bs : smL d.before
 as_ : smL d.after
set_option maxHeartbeats 8000000 in
set_option maxRecDepth 100000 in
theorem May_any (X : Nat -> Prop) (w : World) (hU : Uv w) (v : Value) (d : Doc) (hd : DocI X w v d) (hX : ∀ j, X j -> j < w.heap.size) (hB : DocB d) :
  Calls Tryz.prog 14 #[v] w fun e w' => e = .returned (.bool (mayD d)) /\ Below w.heap.size w w' := by
 obtain ⟨A1, n1, c1, kd, nm, tx, Ar, n5, cr, Ak, n6, ck, A2, n2, c2, hv, h1, h2, h3, h4, h5, hkd⟩ := doc_parts hd;subst hv;have hl1 := h1.len;have hl2 := h4.len;have hba := below_alloc w (.cells #[.slice A1 n1 c1, .int .i64 kd, .string (strOf nm), .string (strOf tx), .slice Ar n5 cr, .slice Ak n6 ck, .slice A2 n2 c2] 27);have hnb := heap_alloc_new w (.cells #[.slice A1 n1 c1, .int .i64 kd, .string (strOf nm), .string (strOf tx), .slice Ar n5 cr, .slice Ak n6 ck, .slice A2 n2 c2] 27);obtain ⟨T, hT⟩ : ∃ T, w.heap.size = T := ⟨_, rfl⟩;obtain ⟨w1, hw1⟩ : ∃ w1, w.alloc (.cells #[.slice A1 n1 c1, .int .i64 kd, .string (strOf nm), .string (strOf tx), .slice Ar n5 cr, .slice Ak n6 ck, .slice A2 n2 c2] 27) = w1 := ⟨_, rfl⟩;rw [hw1] at hba hnb;rw [hT] at hnb;have hTb : Hid (∀ x, Below w1.heap.size w1 x -> x.heap[T]? = some (.cells #[.slice A1 n1 c1, .int .i64 kd, .string (strOf nm), .string (strOf tx), .slice Ar n5 cr, .slice Ak n6 ck, .slice A2 n2 c2] 27)) := Hd fun x hx => (hx.block T (Array.getElem?_eq_some_iff.1 hnb).1).trans hnb
 have hqw1 : Hid (Below w1.heap.size w1 w1) := Hd (Below.refl _ _);have hlow : ∀ x, Below w1.heap.size w1 x -> Below w.heap.size w x := fun x hx => hba.trans (hx.mono hba.size)
 have hXx : ∀ x, Below w1.heap.size w1 x -> ∀ j, X j -> j < x.heap.size := fun x hx j hj => Nat.lt_of_lt_of_le (hX j hj) (hlow x hx).size
 have hrx : ∀ x, Below w1.heap.size w1 x -> NdI X x [.int .i64 kd, .string (strOf nm), .string (strOf tx), .slice Ar n5 cr, .slice Ak n6 ck] d.root := fun x hx => NdI.later h3 hX (hlow x hx)
 have hcF := Hd (fun (x : World) (hx : Below w1.heap.size w1 x) => Fair_any _ X d.root (Nat.le_refl _) hB.rs _ x (hU.below (hlow x hx)) (hrx x hx) (hXx x hx));have hcB := Hd (fun (x : World) (hx : Below w1.heap.size w1 x) => misc_any X x (hU.below (hlow x hx)) A1 n1 c1 d.before (sq_keep h1 (hlow x hx) (fun vs y h => NdI.later h hX (hlow x hx))) (hXx x hx) hB.bs);have hcA := Hd (fun (x : World) (hx : Below w1.heap.size w1 x) => misc_any X x (hU.below (hlow x hx)) A2 n2 c2 d.after (sq_keep h4 (hlow x hx) (fun vs y h => NdI.later h hX (hlow x hx))) (hXx x hx) hB.as_);have hcC := Hd (fun (x : World) (hx : Below w1.heap.size w1 x) => countN_any _ X x _ d.root (Nat.le_refl _) (hrx x hx) (hXx x hx) hB.cnt);have hcD := Hd (fun (x : World) (hx : Below w1.heap.size w1 x) => depth_any _ X x _ d.root (Nat.le_refl _) (hrx x hx) (hXx x hx) hB.cnt);have hcW := Hd (fun (x : World) (hx : Below w1.heap.size w1 x) => written_any X x _ d (Xp.DocI.keep hd (fun k hk => (hlow x hx).block k (hX k hk))) (hXx x hx) hB.wr);have y0 := Xp.cell_blk hnb (i := 0) rfl;have y1 := Xp.cell_blk hnb (i := 1) rfl;have y2 := Xp.cell_blk hnb (i := 2) rfl;have y3 := Xp.cell_blk hnb (i := 3) rfl;have y4 := Xp.cell_blk hnb (i := 4) rfl;have y5 := Xp.cell_blk hnb (i := 5) rfl;have y6 := Xp.cell_blk hnb (i := 6) rfl;have hbaH := Hd hba;have b1 := hB.cnt;have b2 := hB.bl;have b3 := hB.al;have b4 := hB.wr;obtain ⟨R, hRe⟩ : ∃ R, mayD d = R := ⟨_, rfl⟩;unfold mayD at hRe;unfold mayD;rw [hRe];obtain ⟨FR, hFR⟩ : ∃ b, fairN d.root = b := ⟨_, rfl⟩;obtain ⟨MB, hMB⟩ : ∃ b, miscOk d.before = b := ⟨_, rfl⟩;obtain ⟨MA, hMA⟩ : ∃ b, miscOk d.after = b := ⟨_, rfl⟩;obtain ⟨CN, hCN⟩ : ∃ b, countN d.root = b := ⟨_, rfl⟩;obtain ⟨DN, hDN⟩ : ∃ b, depthN d.root = b := ⟨_, rfl⟩;obtain ⟨ST, hST⟩ : ∃ b, strOf (writeD d) = b := ⟨_, rfl⟩;have hsz : ST.size = (writeD d).length := by rw [<- hST]; exact strOf_size' _
 rw [hl1, hl2] at hRe;rw [hl1] at b2;rw [hl2] at b3;rw [hFR, hMB, hMA, hCN, hDN, <- hsz, <- hkd] at hRe;rw [hFR] at hcF;rw [hMB] at hcB;rw [hMA] at hcA;rw [hCN] at hcC b1;rw [hDN] at hcD;rw [hST] at hcW;have hR := Hd hRe;rw [<- hsz] at b4;obtain ⟨zs, hzs⟩ : ∃ z, ST.size = z := ⟨_, rfl⟩;rw [hzs] at b4;have hzs' := Hd hzs
 have hd1 : DN <= 1000000 := by
  have := depth_count d.root;rw [hCN, hDN] at this;omega
 clear hd hX hB h1 h2 h3 h4 h5 hkd hl1 hl2 hba hnb hlow hXx hrx hRe hU hFR hMB hMA hCN hDN hST hsz hzs
 by_cases k1 : kd = 1
 case' neg =>
  have k0 : (kd != 1) = true := by simpa using k1
  have hR := Hd (show false = R by rw [<- hR.out]; simp [k1]);clear k1
  go_enter Tryz.func14, Tryz.ntmps14
  have hRf : Hid (R = false) := Hd hR.out.symm;clear hR hcF hcB hcA hcC hcD hcW;go_wp2_with fail;go_ret;exact ⟨by rw [hRf.out]; rfl, hbaH.out⟩
 have k0 : (kd != 1) = false := by rw [k1]; rfl
 subst k1
 go_enter Tryz.func14, Tryz.ntmps14
 go_wp2_with fail;refine (hcF.out w1 hqw1.out).mono ?_;rintro e w2 ⟨rfl, hbw2⟩;have hqw2 := Xp.tr_ hqw1 hbw2;clear hbw2 y0 y1 y2 y3 y4 y5 y6;obtain ⟨y0, y1, y2, y3, y4, y5, y6⟩ := Xp.cz7 (hTb.out w2 hqw2.out)
 cases FR with
 | false =>
  have hRf : Hid (R = false) := Hd (by have h9 := hR.out; first | exact h9.symm | (rw [<- h9]; simp));have hfin := Xp.tu_ hbaH hqw2;clear hR;go_wp2_with fail
  (try simp only [Exit.inBlock, Exit.then])
  go_ret;exact ⟨by rw [hRf.out]; rfl, hfin.out⟩
 | true =>
  go_wp2_with fail;refine (hcB.out w2 hqw2.out).mono ?_;rintro e w3 ⟨rfl, hbw3⟩;have hqw3 := Xp.tr_ hqw2 hbw3;clear hbw3 y0 y1 y2 y3 y4 y5 y6;obtain ⟨y0, y1, y2, y3, y4, y5, y6⟩ := Xp.cz7 (hTb.out w3 hqw3.out)
  cases MB with
  | false =>
   have hRf : Hid (R = false) := Hd (by have h9 := hR.out; first | exact h9.symm | (rw [<- h9]; simp));have hfin := Xp.tu_ hbaH hqw3;clear hR;go_wp2_with fail
   (try simp only [Exit.inBlock, Exit.then])
   go_ret;exact ⟨by rw [hRf.out]; rfl, hfin.out⟩
  | true =>
   go_wp2_with fail;refine (hcA.out w3 hqw3.out).mono ?_;rintro e w4 ⟨rfl, hbw4⟩;have hqw4 := Xp.tr_ hqw3 hbw4;clear hbw4 y0 y1 y2 y3 y4 y5 y6;obtain ⟨y0, y1, y2, y3, y4, y5, y6⟩ := Xp.cz7 (hTb.out w4 hqw4.out)
   cases MA with
   | false =>
    have hRf : Hid (R = false) := Hd (by have h9 := hR.out; first | exact h9.symm | (rw [<- h9]; simp));have hfin := Xp.tu_ hbaH hqw4;clear hR;go_wp2_with fail
    (try simp only [Exit.inBlock, Exit.then])
    go_ret;exact ⟨by rw [hRf.out]; rfl, hfin.out⟩
   | true =>
    have hdr : Below w4.heap.size w4 w4.drew := Joins.below_draws w4.heap.size w4 1
    go_upto_region 3 with fail
    refine Pl.wp_region_plan 10 (.take 0 (.take 1 (.take 3 (.take 4 (.take 5 (.take 7 (.take 8 (.take 9 (.run 2 (.take 6 .done)))))))))) (fun x => Below w4.heap.size w4 x) (by kernel_rfl) (by kernel_rfl) (by exact hdr) ?_;simp only [Pl.fill, Al_4, Al_5, Al_6, Al_7]
    iterate 8
     refine Pl.take_go ?_ (by rfl) (fun _ _ _ h => h) ?_ ?_
     rotate_left
     ·(intro x hSw; have q0 := cell_keep y0 (hSw); have q1 := cell_keep y1 (hSw); have q2 := cell_keep y2 (hSw); have q3 := cell_keep y3 (hSw); have q4 := cell_keep y4 (hSw); have q5 := cell_keep y5 (hSw); have q6 := cell_keep y6 (hSw); go_simp; try with_reducible rfl)
     (try simp only [Act.put, Al_1, Al_2, Al_3])
    refine Pl.run_go (fun K hK => ?_);go_simp;refine (hcC.out w4.drew (hqw4.out.trans (hdr.mono hqw4.out.size))).mono ?_;rintro e w5 ⟨rfl, hbw5⟩;have hdw5 : Hid (Below w4.heap.size w4 w5) := Hd (hdr.trans (hbw5.mono hdr.size));have hqw5 := Xp.tu_ hqw4 hdw5;dsimp only;refine hK.out _ _ (Pl.more_go (fun x => Below w5.heap.size w5 x) (fun x hx => hdw5.out.trans (hx.mono hdw5.out.size)) (Below.refl _ _) ?_);clear hK K
    try simp only [Act.put, Al_1, Al_2, Al_3]
    iterate 1
     refine Pl.take_go ?_ (by rfl) (fun _ _ _ h => h) ?_ ?_
     rotate_left
     ·(intro x hSw; have q0 := cell_keep y0 (hdw5.out.trans (hSw.mono hdw5.out.size)); have q1 := cell_keep y1 (hdw5.out.trans (hSw.mono hdw5.out.size)); have q2 := cell_keep y2 (hdw5.out.trans (hSw.mono hdw5.out.size)); have q3 := cell_keep y3 (hdw5.out.trans (hSw.mono hdw5.out.size)); have q4 := cell_keep y4 (hdw5.out.trans (hSw.mono hdw5.out.size)); have q5 := cell_keep y5 (hdw5.out.trans (hSw.mono hdw5.out.size)); have q6 := cell_keep y6 (hdw5.out.trans (hSw.mono hdw5.out.size)); go_simp; try with_reducible rfl)
     (try simp only [Act.put, Al_1, Al_2, Al_3])
    refine Pl.done_go ?_;clear hbw5 hdw5 hdr hcC y0 y1 y2 y3 y4 y5 y6;obtain ⟨y0, y1, y2, y3, y4, y5, y6⟩ := Xp.cz7 (hTb.out w5 hqw5.out);go_wp2_with fail;refine (hcD.out w5 hqw5.out).mono ?_;rintro e w6 ⟨rfl, hbw6⟩;have hqw6 := Xp.tr_ hqw5 hbw6;clear hbw6 y0 y1 y2 y3 y4 y5 y6;obtain ⟨y0, y1, y2, y3, y4, y5, y6⟩ := Xp.cz7 (hTb.out w6 hqw6.out)
    by_cases j1 : DN <= 32
    case' neg =>
     have t1 : decide ((DN : Int) <= 32) = false := by simp; omega
     have hR := Hd (show false = R by rw [<- hR.out]; simp [j1]);have hRf : Hid (R = false) := Hd (by have h9 := hR.out; first | exact h9.symm | (rw [<- h9]; simp));have hfin := Xp.tu_ hbaH hqw6;clear hR;go_wp2_with fail
     (try simp only [Exit.inBlock, Exit.then])
     go_ret;exact ⟨by rw [hRf.out]; rfl, hfin.out⟩
    have t1 : decide ((DN : Int) <= 32) = true := by simp; omega
    by_cases j2 : CN + n1 + n2 <= 4096
    case' neg =>
     have t2 : decide ((CN : Int) + (n1 : Int) + (n2 : Int) <= 4096) = false := by simp; omega
     have hR := Hd (show false = R by rw [<- hR.out]; simp [j2]);have hRf : Hid (R = false) := Hd (by have h9 := hR.out; first | exact h9.symm | (rw [<- h9]; simp));have hfin := Xp.tu_ hbaH hqw6;clear hR;go_wp2_with fail
     (try simp only [Exit.inBlock, Exit.then])
     go_ret;exact ⟨by rw [hRf.out]; rfl, hfin.out⟩
    have t2 : decide ((CN : Int) + (n1 : Int) + (n2 : Int) <= 4096) = true := by simp; omega
    have hR := Hd (show (decide (zs <= 65536)) = R by rw [<- hR.out, hzs'.out]; simp [j1, j2]);clear j1 j2;go_wp2_with fail;refine (hcW.out w6 hqw6.out).mono ?_;rintro e w7 ⟨rfl, hbw7⟩;have hqw7 := Xp.tr_ hqw6 hbw7;clear hbw7 y0 y1 y2 y3 y4 y5 y6;obtain ⟨y0, y1, y2, y3, y4, y5, y6⟩ := Xp.cz7 (hTb.out w7 hqw7.out);have hfin := Xp.tu_ hbaH hqw7;have hzs := hzs'.out
    by_cases j3 : zs <= 65536
    ·have t3 : decide ((zs : Int) <= 65536) = true := by simp; omega
     have hRf : Hid (R = true) := Hd (by rw [<- hR.out]; simp [j3]);clear hR j3;go_wp2_with fail;go_ret;exact ⟨by rw [hRf.out]; rfl, hfin.out⟩
    ·have t3 : decide ((zs : Int) <= 65536) = false := by simp; omega
     have hRf : Hid (R = false) := Hd (by rw [<- hR.out]; simp [j3]);clear hR j3;go_wp2_with fail;go_ret;exact ⟨by rw [hRf.out]; rfl, hfin.out⟩
end Go.Proofs.YtokdnhdfmgfkeaaGreatDoor.Xp
end

section
namespace Go.Proofs.YtokdnhdfmgfkeaaGreatDoor.Xp
open Go.RowKit UtfW Xl Xo Xt
def writeB : ByteArray := ⟨#[119, 114, 105, 116, 101]⟩
def DocP (d : Doc) (w : World) (e : Ending) (w' : World) : Prop := Below w.heap.size w w' /\ ((mayD d = true /\ e = .returned (.tuple #[.string (strOf (writeD d)), .nilIface])) \/ (mayD d = false /\ ∃ v, e = .returned (.tuple #[.string ⟨#[]⟩, v]) /\ Er.Fe w' w'.heap.size 80 0 [writeB] v))
set_option maxHeartbeats 8000000 in
set_option maxRecDepth 100000 in
theorem Doc_any (X : Nat -> Prop) (w : World) (hU : Uv w) (v : Value) (d : Doc) (hd : DocI X w v d) (hX : ∀ j, X j -> j < w.heap.size) (hB : DocB d) :
  Calls Tryz.prog 13 #[v] w (DocP d w) := by
 obtain ⟨A1, n1, c1, kd, nm, tx, Ar, n5, cr, Ak, n6, ck, A2, n2, c2, hv, -⟩ := doc_parts hd;subst hv;have hba := below_alloc w (.cells #[.slice A1 n1 c1, .int .i64 kd, .string (strOf nm), .string (strOf tx), .slice Ar n5 cr, .slice Ak n6 ck, .slice A2 n2 c2] 27);have hnb := heap_alloc_new w (.cells #[.slice A1 n1 c1, .int .i64 kd, .string (strOf nm), .string (strOf tx), .slice Ar n5 cr, .slice Ak n6 ck, .slice A2 n2 c2] 27);obtain ⟨T, hT⟩ : ∃ T, w.heap.size = T := ⟨_, rfl⟩;obtain ⟨w1, hw1⟩ : ∃ w1, w.alloc (.cells #[.slice A1 n1 c1, .int .i64 kd, .string (strOf nm), .string (strOf tx), .slice Ar n5 cr, .slice Ak n6 ck, .slice A2 n2 c2] 27) = w1 := ⟨_, rfl⟩;rw [hw1] at hba hnb;rw [hT] at hnb;have hTb : Hid (∀ x, Below w1.heap.size w1 x -> x.heap[T]? = some (.cells #[.slice A1 n1 c1, .int .i64 kd, .string (strOf nm), .string (strOf tx), .slice Ar n5 cr, .slice Ak n6 ck, .slice A2 n2 c2] 27)) := Hd fun x hx => (hx.block T (Array.getElem?_eq_some_iff.1 hnb).1).trans hnb
 have hlow : ∀ x, Below w1.heap.size w1 x -> Below w.heap.size w x := fun x hx => hba.trans (hx.mono hba.size)
 have hXx : ∀ x, Below w1.heap.size w1 x -> ∀ j, X j -> j < x.heap.size := fun x hx j hj => Nat.lt_of_lt_of_le (hX j hj) (hlow x hx).size
 have hdx : ∀ x, Below w1.heap.size w1 x -> DocI X x (.agg #[.slice A1 n1 c1, .int .i64 kd, .string (strOf nm), .string (strOf tx), .slice Ar n5 cr, .slice Ak n6 ck, .slice A2 n2 c2]) d := fun x hx => Xp.DocI.keep hd (fun k hk => (hlow x hx).block k (hX k hk))
 have hcM := Hd (May_any X w1 (hU.below hba) _ d (hdx w1 (Below.refl _ _)) (hXx w1 (Below.refl _ _)) hB);have hcW := Hd (fun (x : World) (hx : Below w1.heap.size w1 x) => written_any X x _ d (hdx x hx) (hXx x hx) hB.wr);have y0 := Xp.cell_blk hnb (i := 0) rfl;have y1 := Xp.cell_blk hnb (i := 1) rfl;have y2 := Xp.cell_blk hnb (i := 2) rfl;have y3 := Xp.cell_blk hnb (i := 3) rfl;have y4 := Xp.cell_blk hnb (i := 4) rfl;have y5 := Xp.cell_blk hnb (i := 5) rfl;have y6 := Xp.cell_blk hnb (i := 6) rfl;have hbaH := Hd hba;obtain ⟨P, hP⟩ : ∃ P : Ending -> World -> Prop, (DocP d w) = P := ⟨_, rfl⟩;rw [hP];obtain ⟨M, hM⟩ : ∃ b, mayD d = b := ⟨_, rfl⟩;obtain ⟨ST, hST⟩ : ∃ b, strOf (writeD d) = b := ⟨_, rfl⟩;rw [hM] at hcM;rw [hST] at hcW
 have hok : Hid (M = true -> ∀ w', Below w.heap.size w w' -> P (.returned (.tuple #[.string ST, .nilIface])) w') := Hd fun e w' hw => by
  rw [<- hP];exact ⟨hw, .inl ⟨hM.trans e, by rw [hST]⟩⟩
 have hno : Hid (M = false -> ∀ w' v, Below w.heap.size w w' -> Er.Fe w' w'.heap.size 80 0 [writeB] v -> P (.returned (.tuple #[.string ⟨#[]⟩, v])) w') := Hd fun e w' v hw hf => by
  rw [<- hP];exact ⟨hw, .inr ⟨hM.trans e, v, rfl, hf⟩⟩
 clear hd hX hB hba hnb hlow hXx hdx hU hP hM hST
 go_enter Tryz.func13, Tryz.ntmps13
 go_wp2_with fail;refine hcM.out.mono ?_;rintro e w2 ⟨rfl, hb2⟩;have hq2 := Hd hb2;have hTb9 := hTb.out w2 hb2;clear hb2 y0 y1 y2 y3 y4 y5 y6;have y0 := Xp.cell_blk hTb9 (i := 0) rfl;have y1 := Xp.cell_blk hTb9 (i := 1) rfl;have y2 := Xp.cell_blk hTb9 (i := 2) rfl;have y3 := Xp.cell_blk hTb9 (i := 3) rfl;have y4 := Xp.cell_blk hTb9 (i := 4) rfl;have y5 := Xp.cell_blk hTb9 (i := 5) rfl;have y6 := Xp.cell_blk hTb9 (i := 6) rfl;clear hTb9
 cases M with
 | false =>
  clear y0 y1 y2 y3 y4 y5 y6;go_wp2_with fail;refine (Er.New_any 80 0 (by decide) w2).mono ?_;rintro e w7 ⟨v7, rfl, hb7, hF7⟩;have hq7 := Xp.tr_ hq2 hb7;clear hb7;go_wp2_with fail;refine (Er.Wrap_any writeB _ _ _ _ w7 hF7).mono ?_;rintro e w8 ⟨v8, rfl, hb8, hF8⟩;have hq8 := hq7.out.trans (hb8.mono hq7.out.size);have hfin : Hid (P (.returned (.tuple #[.string ⟨#[]⟩, v8])) w8) := Hd (hno.out (by simp) w8 v8 (hbaH.out.trans (hq8.mono hbaH.out.size)) hF8);clear hq8 hb8 hF8 hF7;go_wp2_with fail;exact hfin.out
 | true =>
  go_wp2_with fail;refine (hcW.out w2 hq2.out).mono ?_;rintro e w3 ⟨rfl, hb3⟩;have hfin : Hid (P (.returned (.tuple #[.string ST, .nilIface])) w3) := Hd (hok.out (by simp) w3 (hbaH.out.trans ((hq2.out.trans (hb3.mono hq2.out.size)).mono hbaH.out.size)));clear hb3;go_wp2_with fail;exact hfin.out
end Go.Proofs.YtokdnhdfmgfkeaaGreatDoor.Xp
end

section
namespace Go.Proofs.YtokdnhdfmgfkeaaGreatDoor.Xp
open Go.RowKit UtfW Xl Xo Xt
theorem writeA_mem : ∀ {l : List At} {a : At}, a ∈ l -> a.1.length <= (writeA l).length /\ a.2.length <= (writeA l).length
 | [], a, h => by cases h
 | x :: l, a, h => by
  rw [writeA];simp only [List.length_append, List.length_cons];rcases List.mem_cons.1 h with rfl | h
  ·have := Xp.esc_ge true a.2;omega
  ·have := writeA_mem h;omega
theorem writeA_ge : ∀ l : List At, l.length <= (writeA l).length
 | [] => Nat.le_refl _
 | x :: l => by
  have := writeA_ge l;rw [writeA, List.length_cons];simp only [List.length_append, List.length_cons];omega
theorem fairL_mem : ∀ {l : List Nd} {was : Int} {i : Nat} {x : Nd}, fairL was l = true -> l[i]? = some x -> fairN x = true
 | [], was, i, x, _, h => by simp at h
 | y :: l, was, 0, x, hf, h => by
  rw [fairL, Bool.and_eq_true, Bool.and_eq_true] at hf;injection h with h;rw [<- h];exact hf.1.1
 | y :: l, was, i + 1, x, hf, h => by
  rw [fairL, Bool.and_eq_true] at hf;exact fairL_mem hf.2 h
theorem writeL_mem : ∀ {l : List Nd} {i : Nat} {x : Nd}, l[i]? = some x -> (writeN x).length <= (writeL l).length
 | [], i, x, h => by simp at h
 | y :: l, 0, x, h => by
  injection h with h;rw [<- h, writeL, List.length_append];omega
 | y :: l, i + 1, x, h => by
  have := writeL_mem (l := l) (i := i) h;rw [writeL, List.length_append];omega
theorem fair_sm : ∀ (k : Nat) (n : Nd), SizeOf.sizeOf n <= k -> fairN n = true -> (writeN n).length <= 1000000 -> smN n := by
 intro k
 induction k with
 | zero =>
  intro n hk;obtain ⟨kd, nm, tx, as_, ks⟩ := n;simp at hk
 | succ k ih =>
  intro n hk hf hw;obtain ⟨kd, nm, tx, as_, ks⟩ := n;rw [fairN] at hf;rw [writeN] at hw;rw [smN]
  by_cases h1 : kd = 1
  ·rw [if_pos h1] at hf hw;simp only [Bool.and_eq_true, decide_eq_true_eq] at hf;obtain ⟨⟨⟨h2, h3⟩, h4⟩, h5⟩ := hf;subst h3;simp only [List.length_append, List.length_cons] at hw;refine ⟨by omega, by simp, ⟨by have := writeA_ge as_; omega, fun a ha => by have := writeA_mem ha; omega⟩, smL_of fun i x hx => ih x (by have := kid_lt (k := kd) (nm := nm) (tx := []) (as_ := as_) hx; omega) (fairL_mem h5 hx) ?_⟩;have h6 := writeL_mem hx
   have h7 : ks.isEmpty = false := by
    cases ks with
    | nil => simp at hx
    | cons a b => rfl
   rw [h7] at hw;simp only [Bool.false_eq_true, if_false, List.length_append, List.length_cons, List.length_nil] at hw;omega
  rw [if_neg h1] at hf hw
  by_cases h2 : kd = 2
  ·rw [if_pos h2] at hf hw;simp only [Bool.and_eq_true, decide_eq_true_eq, List.isEmpty_iff] at hf;obtain ⟨⟨⟨⟨rfl, rfl⟩, rfl⟩, _⟩, _⟩ := hf;have := Xp.esc_ge false tx;exact ⟨by simp, by omega, ⟨by simp, fun a ha => by cases ha⟩, by rw [smL]; trivial⟩
  rw [if_neg h2] at hf hw
  by_cases h3 : kd = 3
  ·rw [if_pos h3] at hf hw;simp only [Bool.and_eq_true, decide_eq_true_eq, List.isEmpty_iff] at hf;obtain ⟨⟨⟨⟨⟨rfl, rfl⟩, rfl⟩, _⟩, _⟩, _⟩ := hf;simp only [List.length_append] at hw;exact ⟨by simp, by omega, ⟨by simp, fun a ha => by cases ha⟩, by rw [smL]; trivial⟩
  rw [if_neg h3] at hf hw
  by_cases h4 : kd = 4
  ·rw [if_pos h4] at hf hw;simp only [Bool.and_eq_true, decide_eq_true_eq, List.isEmpty_iff] at hf;obtain ⟨⟨⟨⟨⟨⟨rfl, rfl⟩, _⟩, _⟩, _⟩, _⟩, _⟩ := hf;simp only [List.length_append, List.length_cons, List.length_nil] at hw;refine ⟨by omega, ?_, ⟨by simp, fun a ha => by cases ha⟩, by rw [smL]; trivial⟩
   by_cases ht : tx = []
   ·rw [ht]; simp
   ·rw [if_neg ht, List.length_cons] at hw;omega
  ·rw [if_neg h4] at hf;cases hf
theorem miscOk_mem : ∀ {l : List Nd} {i : Nat} {x : Nd}, miscOk l = true -> l[i]? = some x -> fairN x = true
 | [], i, x, _, h => by simp at h
 | y :: l, 0, x, hf, h => by
  rw [miscOk, Bool.and_eq_true, Bool.and_eq_true] at hf;injection h with h;rw [<- h];exact hf.1.2
 | y :: l, i + 1, x, hf, h => by
  rw [miscOk, Bool.and_eq_true] at hf;exact miscOk_mem hf.2 h
theorem may_docB {d : Doc} (h : mayD d = true) : DocB d /\ (writeD d).length <= 65536 := by
 unfold mayD at h;simp only [Bool.and_eq_true, decide_eq_true_eq] at h;obtain ⟨⟨⟨⟨⟨⟨h1, h2⟩, h3⟩, h4⟩, h5⟩, h6⟩, h7⟩ := h;have h8 := h7;unfold writeD at h8;simp only [List.length_append] at h8;refine ⟨⟨by omega, by omega, by omega, by omega, fair_sm _ _ (Nat.le_refl _) h2 (by omega), smL_of fun i x hx => fair_sm _ _ (Nat.le_refl _) (miscOk_mem h3 hx) ?_, smL_of fun i x hx => fair_sm _ _ (Nat.le_refl _) (miscOk_mem h4 hx) ?_⟩, h7⟩
 ·have := writeL_mem hx;omega
 ·have := writeL_mem hx;omega
theorem may_back {d : Doc} (h : mayD d = true) : parseF (writeD d) = (0, 0, d) := by
 obtain ⟨ts, h1, h2⟩ := back h;unfold parseF;rw [h1];simp [h2]
end Go.Proofs.YtokdnhdfmgfkeaaGreatDoor.Xp
end

section
namespace Go.Proofs.YtokdnhdfmgfkeaaGreatDoor.Xp
open Go.RowKit UtfW Xl Xo Xt
theorem writeL_app : ∀ a b : List Nd, writeL (a ++ b) = writeL a ++ writeL b
 | [], b => by rw [List.nil_append, writeL]; rfl
 | x :: a, b => by rw [List.cons_append, writeL, writeL, writeL_app a b, List.append_assoc]
theorem writeA_app : ∀ a b : List At, writeA (a ++ b) = writeA a ++ writeA b
 | [], b => rfl
 | x :: a, b => by
  rw [List.cons_append, writeA, writeA, writeA_app a b];simp
theorem writeL_take_ (l : List Nd) (k : Nat) : (writeL (l.take k)).length <= (writeL l).length := by
 conv => rhs; rw [<- List.take_append_drop k l, writeL_app, List.length_append]
 omega
theorem writeA_take_ (l : List At) (k : Nat) : (writeA (l.take k)).length <= (writeA l).length := by
 conv => rhs; rw [<- List.take_append_drop k l, writeA_app, List.length_append]
 omega
theorem writeL_one (x : Nd) : writeL [x] = writeN x := by rw [writeL, writeL, List.append_nil]
def RNodeAt (X : Nat -> Prop) (x : Nd) : Prop := ∀ (vs : List Value) (w' : World), NdI X w' vs x -> (∀ j, X j -> j < w'.heap.size) →
 Calls Tryz.prog 19 #[.agg vs.toArray] w' fun e w'' => e = .returned (.string (strOf (writeN x))) /\ Below w'.heap.size w' w''
set_option maxHeartbeats 4000000 in
set_option maxRecDepth 100000 in
theorem rnodes_any (X : Nat -> Prop) (w : World) (A : Option Addr) (n c : Nat) (l : List Nd) (hS : Sq (NdE X) 5 w A n c l) (hX : ∀ j, X j -> j < w.heap.size) (hF : ∀ (i : Nat) x, l[i]? = some x -> RNodeAt X x) (hlen : (writeL l).length <= 100000000000000) :
  Calls Tryz.prog 21 #[.slice A n c] w fun e w' => e = .returned (.string (strOf (writeL l))) /\ Below w.heap.size w w' := by
 have hln := Hd hS.len;have hlm : n <= 9223372036854775807 := Nat.le_trans hS.le hS.max;have hS' := Hd hS;have hX' := Hd hX;have hF' := Hd hF;have hlen' := Hd hlen;obtain ⟨R, hR⟩ : ∃ R, strOf (writeL l) = R := ⟨_, rfl⟩;rw [hR];have hR' := Hd hR;clear hS hX hF hR hlen
 go_enter Tryz.func21, Tryz.ntmps21
 go_wp2_with fail
 go_loopw [3, 4] (fun v3 vi wr => ∃ (i : Nat) (S : ByteArray), i <= n /\ vi = .int .i64 (i : Nat) /\ v3 = .string S /\ Hid (S = strOf (writeL (l.take i))) /\ Hid (Below w.heap.size w wr)) (fun _ vi _ => n - (intOf vi).toNat)
 case atStart => exact ⟨0, ⟨#[]⟩, Nat.zero_le _, rfl, rfl, Hd rfl, Hd (Below.refl _ _)⟩
 case round =>
  obtain ⟨i, S, hi, rfl, rfl, hSv, hb⟩ := hrel
  by_cases hlt : i < n
  ·have i1 : decide ((i : Int) < (n : Int)) = true := by simp; omega
   have q1 : (i : Int) < (n : Int) := by omega
   have hX1 : ∀ j, X j -> j < wr.heap.size := fun j hj => Nat.lt_of_lt_of_le (hX'.out j hj) hb.out.size
   have hKr := sq_keep hS'.out hb.out (fun vs x h => NdI.later h hX'.out hb.out);obtain ⟨b1, off1, x, vs1, rfl, _, hx1, _, hv1, hc1⟩ := hKr.at_ hlt;have hrec := Hd (hF'.out i x hx1 _ wr hv1 hX1);obtain ⟨Kx, hKx⟩ : ∃ K, strOf (writeN x) = K := ⟨_, rfl⟩;rw [hKx] at hrec;have htot := writeL_take_ l (i + 1);rw [take_snoc hx1, writeL_app, writeL_one, List.length_append] at htot;have hl9 := hlen'.out;have hSz : S.size = (writeL (l.take i)).length := by rw [hSv.out, strOf_size']
   have hKz : Kx.size = (writeN x).length := by rw [<- hKx, strOf_size']
   obtain ⟨S2, hS2⟩ : ∃ s, S ++ Kx = s := ⟨_, rfl⟩;have e2 := fun w => run_string_add_sum (P := Tryz.prog) w S Kx (by omega)
   rw [hS2] at e2;have hnext : Hid (S2 = strOf (writeL (l.take (i + 1)))) := Hd (by rw [<- hS2, hSv.out, <- hKx, strOf_add, take_snoc hx1, writeL_app, writeL_one]);obtain ⟨kx, nx_, tx_, ax, kx_⟩ := x;obtain ⟨Ax, cax, A2x, c2x, rfl, -⟩ := hv1.cells;have m0 := hc1 0 _ rfl;have m1 := hc1 1 _ rfl;have m2 := hc1 2 _ rfl;have m3 := hc1 3 _ rfl;have m4 := hc1 4 _ rfl;rw [Nat.add_zero] at m0;clear hX1 hKr hc1 hx1 hv1 hKx htot hl9 hSz hKz hS2 hSv;go_wp2_with fail;refine hrec.out.mono ?_;rintro e w5 ⟨rfl, hb5⟩;have hw5 := Xp.tr_ hb hb5;clear hb5 m0 m1 m2 m3 m4 hrec;go_wp2_with fail;go_roundw
   case rel => exact ⟨i + 1, S2, by omega, by go_num, rfl, hnext, hw5⟩
   case measure => simp [intOf]; omega
  ·have hie : i = n := by omega
   subst hie;have i1 : decide ((i : Int) < (i : Int)) = false := by simp
   have hRt : Hid (S = R) := Hd (by
    have h9 := hSv.out;rw [List.take_of_length_le (Nat.le_of_eq hln.out)] at h9
    rw [h9, hR'.out])
   clear hSv;go_wp2_with fail
   (try simp only [Exit.inBlock, Exit.then])
   go_ret;exact ⟨by rw [hRt.out]; rfl, hb.out⟩
set_option maxHeartbeats 16000000 in
set_option maxRecDepth 100000 in
theorem rNode_any : ∀ (k : Nat) (X : Nat -> Prop) (n : Nd), SizeOf.sizeOf n <= k -> smN n -> (writeN n).length <= 100000000000000 -> RNodeAt X n := by
 intro k
 induction k with
 | zero =>
  intro X n hk;obtain ⟨kd, nm, tx, as_, ks⟩ := n;simp at hk
 | succ k ih =>
  intro X n hk hsm hlen vs w hn hX;obtain ⟨kd, nm, tx, as_, ks⟩ := n;obtain ⟨A, ca, A2, c2, rfl, hA, hKs, hXA, hXK⟩ := hn.cells;rw [smN] at hsm;obtain ⟨z1, z2, z3, z4⟩ := hsm
  have hF : kd = 1 -> ∀ (i : Nat) x, ks[i]? = some x -> RNodeAt X x := fun hk1 i x hx => ih X x (by
   have := kid_lt (k := kd) (nm := nm) (tx := tx) (as_ := as_) hx
   omega) (smL_mem z4 hx) (by
   have h1 := writeL_mem hx;subst hk1;rw [writeN, if_pos rfl] at hlen
   have h2 : ks.isEmpty = false := by
    cases ks with
    | nil => simp at hx
    | cons a b => rfl
   rw [h2] at hlen;simp at hlen
   omega)
  have hL : kd = 1 -> (writeL ks).length <= 100000000000000 := fun hk1 => by
   subst hk1;rw [writeN, if_pos rfl] at hlen
   cases ks with
   | nil => rw [writeL]; simp
   | cons a b =>
    simp at hlen;omega
  clear ih hk z4;obtain ⟨n1, hn1⟩ : ∃ n, as_.length = n := ⟨_, rfl⟩;obtain ⟨n2, hn2⟩ : ∃ n, ks.length = n := ⟨_, rfl⟩;rw [hn1] at hA;rw [hn2] at hKs;rw [hn1, hn2];have hn1H := Hd hn1;have hn2H := Hd hn2;have hsA := Hd z3.2;have hm1 : n1 <= 1000000 := by rw [<- hn1]; exact z3.1
  clear hn1 hn2;obtain ⟨S1, hS1⟩ : ∃ S, strOf nm = S := ⟨_, rfl⟩;obtain ⟨S2, hS2⟩ : ∃ S, strOf tx = S := ⟨_, rfl⟩;rw [hS1, hS2];have S1z : S1.size = nm.length := by rw [<- hS1, strOf_size']
  have S2z : S2.size = tx.length := by rw [<- hS2, strOf_size']
  have hba := below_alloc w (.cells #[.int .i64 kd, .string S1, .string S2, .slice A n1 ca, .slice A2 n2 c2] 25);have hnb := heap_alloc_new w (.cells #[.int .i64 kd, .string S1, .string S2, .slice A n1 ca, .slice A2 n2 c2] 25);obtain ⟨T, hT⟩ : ∃ T, w.heap.size = T := ⟨_, rfl⟩;obtain ⟨w1, hw1⟩ : ∃ w1, w.alloc (.cells #[.int .i64 kd, .string S1, .string S2, .slice A n1 ca, .slice A2 n2 c2] 25) = w1 := ⟨_, rfl⟩;rw [hw1] at hba hnb;rw [hT] at hnb;have hTb : Hid (∀ x, Below w1.heap.size w1 x -> x.heap[T]? = some (.cells #[.int .i64 kd, .string S1, .string S2, .slice A n1 ca, .slice A2 n2 c2] 25)) := Hd fun x hx => (hx.block T (Array.getElem?_eq_some_iff.1 hnb).1).trans hnb
  have hlow : ∀ x, Below w1.heap.size w1 x -> Below w.heap.size w x := fun x hx => hba.trans (hx.mono hba.size)
  replace hA : Hid (∀ z, Below w1.heap.size w1 z -> Sq AtEl 2 z A n1 ca as_) := Hd fun z hz => hA.below AtEl.to (hlow z hz)
  have hK : Hid (∀ z, Below w1.heap.size w1 z -> kd = 1 -> Calls Tryz.prog 21 #[.slice A2 n2 c2] z fun e w' => e = .returned (.string (strOf (writeL ks))) /\ Below z.heap.size z w') := Hd fun z hz hk1 => rnodes_any X z A2 n2 c2 ks (sq_keep hKs (hlow z hz) (fun vs y h => NdI.later h hX (hlow z hz))) (fun j hj => Nat.lt_of_lt_of_le (hX j hj) (hlow z hz).size) (hF hk1) (hL hk1)
  have hec := Hd (fun (x : World) => resc_false tx z2 x);rw [hS2] at hec;have y0 : w1.cell? ⟨T, 0, none⟩ = some (.int .i64 kd) := Xp.cell_blk hnb rfl;have y1 : w1.cell? ⟨T, 1, none⟩ = some (.string S1) := Xp.cell_blk hnb rfl;have y2 : w1.cell? ⟨T, 2, none⟩ = some (.string S2) := Xp.cell_blk hnb rfl;have y3 : w1.cell? ⟨T, 3, none⟩ = some (.slice A n1 ca) := Xp.cell_blk hnb rfl;have y4 : w1.cell? ⟨T, 4, none⟩ = some (.slice A2 n2 c2) := Xp.cell_blk hnb rfl;have hbaH := Hd hba;have ez2 : S2.toList.isEmpty = tx.isEmpty := by rw [<- hS2, strOf_empty]
  have hS1H := Hd hS1;have hS2H := Hd hS2;clear hn hKs hXA hXK hX hlow hnb hba hS1 hS2 hF hL z3;obtain ⟨R, hRe⟩ : ∃ R, writeN (.mk kd nm tx as_ ks) = R := ⟨_, rfl⟩;rw [hRe];have hlenR : R.length <= 100000000000000 := by rw [<- hRe]; exact hlen
  clear hlen;rw [writeN] at hRe
  by_cases h1 : kd = 1
  ·subst h1;rw [if_pos rfl] at hRe;have k2 : ((1 : Int) == 2) = false := rfl;have k3 : ((1 : Int) == 3) = false := rfl;have k4 : ((1 : Int) == 4) = false := rfl;have k1 : ((1 : Int) != 1) = false := rfl;have hlR := hlenR;have hre := congrArg List.length hRe;simp only [List.length_append, List.length_cons] at hre;have hA9 := fun k => writeA_take_ as_ k
   have hAt : Hid (∀ k, nm.length + 1 + (writeA (as_.take k)).length <= R.length) := Hd fun k => by have := hA9 k; omega
   replace hRe := Hd hRe;replace hlenR := Hd hlenR;have hre9 := Hd hre;clear hA9 hec ez2;have hlR0 := hAt.out 0;obtain ⟨P0, h_P0⟩ : ∃ s, (ByteArray.mk #[60]) ++ S1 = s := ⟨_, rfl⟩;have e_P0 := fun w => run_string_add_sum (P := Tryz.prog) w ⟨#[60]⟩ S1 (by rw [show (ByteArray.mk #[60]).size = 1 from rfl]; omega)
   rw [h_P0] at e_P0;have z_P0 : P0.size = (ByteArray.mk #[60]).size + S1.size := by rw [<- h_P0, ByteArray.size_append]
   rw [show (ByteArray.mk #[60]).size = 1 from rfl] at z_P0;clear hlR hre hlR0 z_P0;replace h_P0 := Hd h_P0;replace hnL := Hd S1z;clear S1z S2z z1 z2
   go_enter Tryz.func19, Tryz.ntmps19
   go_wp2_with fail;clear e_P0 y0 y1 y2 y3 y4
   go_loopw [3, 4] (fun v3 v4 wr => ∃ (i : Nat) (S : ByteArray), i <= n1 /\ v4 = .int .i64 (i : Nat) /\ v3 = .string S /\ Hid (S = strOf (60 :: nm ++ writeA (as_.take i))) /\ Hid (Below w1.heap.size w1 wr)) (fun _ v4 _ => n1 - (intOf v4).toNat)
   case atStart => exact ⟨0, P0, Nat.zero_le _, rfl, rfl, Hd (by rw [<- h_P0.out, <- hS1H.out, show (ByteArray.mk #[60]) = strOf [60] from rfl, strOf_add]; simp [writeA]), Hd (Below.refl _ _)⟩
   case round =>
    obtain ⟨i, S, hi, rfl, rfl, hSv, hqwr⟩ := hrel;obtain ⟨y0, y1, y2, y3, y4⟩ := Xp.cz5 (hTb.out wr hqwr.out);have hSz : S.size = nm.length + 1 + (writeA (as_.take i)).length := (by rw [hSv.out, strOf_size', List.length_append, List.length_cons]);have hlR := hlenR.out
    by_cases hlt : i < n1
    ·have i1 : decide ((i : Int) < (n1 : Int)) = true := by simp; omega
     have q1 : (i : Int) < (n1 : Int) := (by omega);obtain ⟨b1, off1, rfl⟩ := sq_some (hA.out wr hqwr.out) (show 0 < n1 by omega);obtain ⟨ax, hx1, m0, m1⟩ := at_attr (hA.out wr hqwr.out) hlt;obtain ⟨hs1, hs2⟩ := hsA.out ax (List.mem_of_getElem? hx1);have hAt1 := hAt.out (i + 1);rw [take_snoc hx1, writeA_app, writeA, writeA, List.append_nil, List.length_append] at hAt1;simp only [List.length_append, List.length_cons, List.length_nil] at hAt1;have hesc := Hd (resc_true ax.2 hs2);obtain ⟨V1, hV1⟩ : ∃ s, strOf ax.1 = s := ⟨_, rfl⟩;obtain ⟨V2, hV2⟩ : ∃ s, strOf ax.2 = s := ⟨_, rfl⟩;obtain ⟨V3, hV3⟩ : ∃ s, strOf (esc true ax.2) = s := ⟨_, rfl⟩;have V1z : V1.size = ax.1.length := (by rw [<- hV1, strOf_size']);have V3z : V3.size = (esc true ax.2).length := (by rw [<- hV3, strOf_size']);rw [hV2, hV3] at hesc;rw [hV1] at m0;rw [hV2] at m1;obtain ⟨Sa, h_Sa⟩ : ∃ s, S ++ ⟨#[32]⟩ = s := ⟨_, rfl⟩;have e_Sa := fun w => run_string_add_sum (P := Tryz.prog) w S ⟨#[32]⟩ (by rw [show (ByteArray.mk #[32]).size = 1 from rfl]; omega)
     rw [h_Sa] at e_Sa;have z_Sa : Sa.size = S.size + (ByteArray.mk #[32]).size := (by rw [<- h_Sa, ByteArray.size_append]);rw [show (ByteArray.mk #[32]).size = 1 from rfl] at z_Sa;obtain ⟨Sb, h_Sb⟩ : ∃ s, Sa ++ V1 = s := ⟨_, rfl⟩;have e_Sb := fun w => run_string_add_sum (P := Tryz.prog) w Sa V1 (by omega)
     rw [h_Sb] at e_Sb;have z_Sb : Sb.size = Sa.size + V1.size := (by rw [<- h_Sb, ByteArray.size_append]);obtain ⟨Sc, h_Sc⟩ : ∃ s, Sb ++ ⟨#[61, 34]⟩ = s := ⟨_, rfl⟩;have e_Sc := fun w => run_string_add_sum (P := Tryz.prog) w Sb ⟨#[61, 34]⟩ (by rw [show (ByteArray.mk #[61, 34]).size = 2 from rfl]; omega)
     rw [h_Sc] at e_Sc;have z_Sc : Sc.size = Sb.size + (ByteArray.mk #[61, 34]).size := (by rw [<- h_Sc, ByteArray.size_append]);rw [show (ByteArray.mk #[61, 34]).size = 2 from rfl] at z_Sc;obtain ⟨Sd, h_Sd⟩ : ∃ s, Sc ++ V3 = s := ⟨_, rfl⟩;have e_Sd := fun w => run_string_add_sum (P := Tryz.prog) w Sc V3 (by omega)
     rw [h_Sd] at e_Sd;have z_Sd : Sd.size = Sc.size + V3.size := (by rw [<- h_Sd, ByteArray.size_append]);obtain ⟨Se, h_Se⟩ : ∃ s, Sd ++ ⟨#[34]⟩ = s := ⟨_, rfl⟩;have e_Se := fun w => run_string_add_sum (P := Tryz.prog) w Sd ⟨#[34]⟩ (by rw [show (ByteArray.mk #[34]).size = 1 from rfl]; omega)
     rw [h_Se] at e_Se;have z_Se : Se.size = Sd.size + (ByteArray.mk #[34]).size := (by rw [<- h_Se, ByteArray.size_append]);rw [show (ByteArray.mk #[34]).size = 1 from rfl] at z_Se
     have hnext : Hid (Se = strOf (60 :: nm ++ writeA (as_.take (i + 1)))) := Hd (by
      rw [<- h_Se, <- h_Sd, <- h_Sc, <- h_Sb, <- h_Sa, hSv.out, <- hV1, <- hV3, show (ByteArray.mk #[32]) = strOf [32] from rfl, show (ByteArray.mk #[61, 34]) = strOf [61, 34] from rfl, show (ByteArray.mk #[34]) = strOf [34] from rfl, strOf_add, strOf_add, strOf_add, strOf_add, strOf_add, take_snoc hx1, writeA_app, writeA, writeA]
      simp)
     have hdr : Hid (Below wr.heap.size wr wr.drew) := Hd (Joins.below_draws wr.heap.size wr 1)
     have hst : Hid (∀ z, Below wr.heap.size wr z -> z.cell? ⟨T, 3, none⟩ = some (.slice (some ⟨b1, off1, none⟩) n1 ca) /\ z.cell? ⟨b1, off1 + i * 2, none⟩ = some (.string V1) /\ z.cell? ⟨b1, off1 + i * 2 + 1, none⟩ = some (.string V2)) := Hd fun z hz => by
      have hz9 := hqwr.out.trans (hz.mono hqwr.out.size);rw [<- hV1, <- hV2];exact ⟨Xp.cell_blk (hTb.out z hz9) rfl, at_attr_ (hA.out z hz9) hx1⟩
     clear hx1 hs1 hs2 hAt1 hV1 hV2 hV3 V1z V3z hSz hlR z_Sa z_Sb z_Sc z_Sd z_Se h_Sa h_Sb h_Sc h_Sd h_Se hSv;go_wp2_with fail;refine Pl.wp_region_plan 17 (.take 0 (.take 1 (.take 2 (.take 3 (.take 4 (.take 5 (.take 6 (.take 7 (.take 8 (.take 9 (.take 10 (.take 11 (.take 12 (.take 13 (.take 14 (.take 15 (.run 16 .done))))))))))))))))) (fun x => x.cell? ⟨T, 3, none⟩ = some (.slice (some ⟨b1, off1, none⟩) n1 ca) /\ x.cell? ⟨b1, off1 + i * 2, none⟩ = some (.string V1) /\ x.cell? ⟨b1, off1 + i * 2 + 1, none⟩ = some (.string V2)) (by kernel_rfl) (by kernel_rfl) (by exact hst.out wr (Below.refl _ _)) ?_;simp only [Pl.fill, Al_4, Al_5, Al_6, Al_7]
     iterate 16
      refine Pl.take_go ?_ (by rfl) (fun _ _ _ h => h) ?_ ?_
      rotate_left
      ·(intro x hSw; (try dsimp only at hSw); go_simp; try with_reducible rfl)
      (try simp only [Act.put, Al_1, Al_2, Al_3])
     refine Pl.run_go (fun K hK => ?_);go_simp;refine (hesc.out _).mono ?_;rintro e w5 ⟨rfl, hb5⟩;have hqw5 := Hd (hqwr.out.trans ((hdr.out.trans (hb5.mono hdr.out.size)).mono hqwr.out.size));dsimp only;refine hK.out _ _ (Pl.more_go _ (fun _ h => h) (hst.out _ (hdr.out.trans (hb5.mono hdr.out.size))) ?_);clear hK K hb5 hst m0 m1 y0 y1 y2 y3 y4
     try simp only [Act.put, Al_1, Al_2, Al_3]
     refine Pl.done_go ?_;go_wp2_with fail;go_roundw
     case rel => exact ⟨i + 1, Se, by omega, by go_num, rfl, hnext, hqw5⟩
     case measure => simp [intOf]; omega
    ·have hie : i = n1 := (by omega);subst hie;have i1 : decide ((i : Int) < (i : Int)) = false := (by simp);have hre := hre9.out;rw [List.take_of_length_le (Nat.le_of_eq hn1H.out)] at hSz hSv;have hkd := Hd (hK.out wr.drew);rcases n2 with _ | n2
     ·obtain rfl : ks = [] := List.eq_nil_of_length_eq_zero hn2H.out;simp at hre;obtain ⟨Sa, h_Sa⟩ : ∃ s, S ++ ⟨#[47, 62]⟩ = s := ⟨_, rfl⟩;have e_Sa := fun w => run_string_add_sum (P := Tryz.prog) w S ⟨#[47, 62]⟩ (by rw [show (ByteArray.mk #[47, 62]).size = 2 from rfl]; omega)
      rw [h_Sa] at e_Sa;have z_Sa : Sa.size = S.size + (ByteArray.mk #[47, 62]).size := (by rw [<- h_Sa, ByteArray.size_append]);rw [show (ByteArray.mk #[47, 62]).size = 2 from rfl] at z_Sa
      have hRv : Hid (Sa = strOf R) := Hd (by
       rw [<- h_Sa, hSv.out, show (ByteArray.mk #[47, 62]) = strOf [47, 62] from rfl, strOf_add, <- hRe.out]
       simp)
      have hfin := Xp.tu_ hbaH hqwr;clear hSz hlR hre z_Sa h_Sa hSv;go_wp2_with fail
      (try simp only [Exit.inBlock, Exit.then])
      go_ret;exact ⟨by rw [hRv.out]; rfl, hfin.out⟩
     ·have hne : ks.isEmpty = false := by
       cases ks with
       | nil => have := hn2H.out; simp at this
       | cons a b => rfl
      rw [hne] at hre;simp at hre;obtain ⟨V, hV⟩ : ∃ s, strOf (writeL ks) = s := ⟨_, rfl⟩;have Vz : V.size = (writeL ks).length := (by rw [<- hV, strOf_size']);have S1z := hnL.out;rw [hV] at hkd;obtain ⟨Sa, h_Sa⟩ : ∃ s, S ++ ⟨#[62]⟩ = s := ⟨_, rfl⟩;have e_Sa := fun w => run_string_add_sum (P := Tryz.prog) w S ⟨#[62]⟩ (by rw [show (ByteArray.mk #[62]).size = 1 from rfl]; omega)
      rw [h_Sa] at e_Sa;have z_Sa : Sa.size = S.size + (ByteArray.mk #[62]).size := (by rw [<- h_Sa, ByteArray.size_append]);rw [show (ByteArray.mk #[62]).size = 1 from rfl] at z_Sa;obtain ⟨Sb, h_Sb⟩ : ∃ s, Sa ++ V = s := ⟨_, rfl⟩;have e_Sb := fun w => run_string_add_sum (P := Tryz.prog) w Sa V (by omega)
      rw [h_Sb] at e_Sb;have z_Sb : Sb.size = Sa.size + V.size := (by rw [<- h_Sb, ByteArray.size_append]);obtain ⟨Sc, h_Sc⟩ : ∃ s, Sb ++ ⟨#[60, 47]⟩ = s := ⟨_, rfl⟩;have e_Sc := fun w => run_string_add_sum (P := Tryz.prog) w Sb ⟨#[60, 47]⟩ (by rw [show (ByteArray.mk #[60, 47]).size = 2 from rfl]; omega)
      rw [h_Sc] at e_Sc;have z_Sc : Sc.size = Sb.size + (ByteArray.mk #[60, 47]).size := (by rw [<- h_Sc, ByteArray.size_append]);rw [show (ByteArray.mk #[60, 47]).size = 2 from rfl] at z_Sc;obtain ⟨Sd, h_Sd⟩ : ∃ s, Sc ++ S1 = s := ⟨_, rfl⟩;have e_Sd := fun w => run_string_add_sum (P := Tryz.prog) w Sc S1 (by omega)
      rw [h_Sd] at e_Sd;have z_Sd : Sd.size = Sc.size + S1.size := (by rw [<- h_Sd, ByteArray.size_append]);obtain ⟨Se, h_Se⟩ : ∃ s, Sd ++ ⟨#[62]⟩ = s := ⟨_, rfl⟩;have e_Se := fun w => run_string_add_sum (P := Tryz.prog) w Sd ⟨#[62]⟩ (by rw [show (ByteArray.mk #[62]).size = 1 from rfl]; omega)
      rw [h_Se] at e_Se;have z_Se : Se.size = Sd.size + (ByteArray.mk #[62]).size := (by rw [<- h_Se, ByteArray.size_append]);rw [show (ByteArray.mk #[62]).size = 1 from rfl] at z_Se
      have hRv : Hid (Se = strOf R) := Hd (by
       rw [<- h_Se, <- h_Sd, <- h_Sc, <- h_Sb, <- h_Sa, hSv.out, <- hV, <- hS1H.out, show (ByteArray.mk #[62]) = strOf [62] from rfl, show (ByteArray.mk #[60, 47]) = strOf [60, 47] from rfl, strOf_add, strOf_add, strOf_add, strOf_add, strOf_add, <- hRe.out, hne]
       simp)
      have hdr : Hid (Below wr.heap.size wr wr.drew) := Hd (Joins.below_draws wr.heap.size wr 1);have hkd9 := Hd (hkd.out (hqwr.out.trans (hdr.out.mono hqwr.out.size)) (by first | rfl | trivial));have hst : Hid (∀ z, Below wr.heap.size wr z -> z.cell? ⟨T, 4, none⟩ = some (.slice A2 (n2 + 1) c2) /\ z.cell? ⟨T, 1, none⟩ = some (.string S1)) := Hd fun z hz => ⟨Xp.cell_blk (hTb.out z (hqwr.out.trans (hz.mono hqwr.out.size))) rfl, Xp.cell_blk (hTb.out z (hqwr.out.trans (hz.mono hqwr.out.size))) rfl⟩
      clear hSz hlR hre z_Sa z_Sb z_Sc z_Sd z_Se h_Sa h_Sb h_Sc h_Sd h_Se hSv hV Vz S1z hkd;go_wp2_with fail;refine Pl.wp_region_plan 9 (.take 0 (.take 1 (.take 2 (.take 3 (.take 7 (.take 8 (.run 4 (.take 5 (.take 6 .done))))))))) (fun x => x.cell? ⟨T, 4, none⟩ = some (.slice A2 (n2 + 1) c2) /\ x.cell? ⟨T, 1, none⟩ = some (.string S1)) (by kernel_rfl) (by kernel_rfl) (by exact hst.out wr (Below.refl _ _)) ?_;simp only [Pl.fill, Al_4, Al_5, Al_6, Al_7]
      iterate 6
       refine Pl.take_go ?_ (by rfl) (fun _ _ _ h => h) ?_ ?_
       rotate_left
       ·(intro x hSw; (try dsimp only at hSw); go_simp; try with_reducible rfl)
       (try simp only [Act.put, Al_1, Al_2, Al_3])
      refine Pl.run_go (fun K hK => ?_);go_simp;refine hkd9.out.mono ?_;rintro e w5 ⟨rfl, hb5⟩;have hfin := Hd (hbaH.out.trans ((hqwr.out.trans ((hdr.out.trans (hb5.mono hdr.out.size)).mono hqwr.out.size)).mono hbaH.out.size));dsimp only;refine hK.out _ _ (Pl.more_go _ (fun _ h => h) (hst.out _ (hdr.out.trans (hb5.mono hdr.out.size))) ?_);clear hK K hb5 hst y0 y1 y2 y3 y4
      try simp only [Act.put, Al_1, Al_2, Al_3]
      iterate 2
       refine Pl.take_go ?_ (by rfl) (fun _ _ _ h => h) ?_ ?_
       rotate_left
       ·(intro x hSw; (try dsimp only at hSw); go_simp; try with_reducible rfl)
       (try simp only [Act.put, Al_1, Al_2, Al_3])
      refine Pl.done_go ?_;go_wp2_with fail
      (try simp only [Exit.inBlock, Exit.then])
      go_ret;exact ⟨by rw [hRv.out]; rfl, hfin.out⟩
  rw [if_neg h1] at hRe;have k1 : (kd != 1) = true := by simpa using h1
  clear hA hK hsA
  by_cases h2 : kd = 2
  ·subst h2;rw [if_pos rfl] at hRe;rw [hRe] at hec;replace hRe := Hd hRe;have k2 : ((2 : Int) == 2) = true := rfl;clear S1z S2z z1 z2 ez2 h1 hlenR
   go_enter Tryz.func19, Tryz.ntmps19
   go_wp2_with fail;refine (hec.out w1).mono ?_;rintro e w2 ⟨rfl, hb2⟩;have hfin := Xp.tr_ hbaH hb2;clear hb2 hec;go_wp2_with fail
   (try simp only [Exit.inBlock, Exit.then])
   go_ret;exact ⟨rfl, hfin.out⟩
  rw [if_neg h2] at hRe;have k2 : (kd == 2) = false := by simpa using h2
  clear hec
  by_cases h3 : kd = 3
  ·subst h3;rw [if_pos rfl] at hRe;have k3 : ((3 : Int) == 3) = true := rfl;obtain ⟨Sa, h_Sa⟩ : ∃ s, (ByteArray.mk #[60, 33, 45, 45]) ++ S2 = s := ⟨_, rfl⟩;have e_Sa := fun w => run_string_add_sum (P := Tryz.prog) w ⟨#[60, 33, 45, 45]⟩ S2 (by rw [show (ByteArray.mk #[60, 33, 45, 45]).size = 4 from rfl]; omega)
   rw [h_Sa] at e_Sa;have z_Sa : Sa.size = (ByteArray.mk #[60, 33, 45, 45]).size + S2.size := by rw [<- h_Sa, ByteArray.size_append]
   rw [show (ByteArray.mk #[60, 33, 45, 45]).size = 4 from rfl] at z_Sa;obtain ⟨Sb, h_Sb⟩ : ∃ s, Sa ++ ⟨#[45, 45, 62]⟩ = s := ⟨_, rfl⟩;have e_Sb := fun w => run_string_add_sum (P := Tryz.prog) w Sa ⟨#[45, 45, 62]⟩ (by rw [show (ByteArray.mk #[45, 45, 62]).size = 3 from rfl]; omega)
   rw [h_Sb] at e_Sb;have z_Sb : Sb.size = Sa.size + (ByteArray.mk #[45, 45, 62]).size := by rw [<- h_Sb, ByteArray.size_append]
   rw [show (ByteArray.mk #[45, 45, 62]).size = 3 from rfl] at z_Sb
   have hRv : Hid (Sb = strOf R) := Hd (by
    rw [<- h_Sb, <- h_Sa, <- hS2H.out, show (ByteArray.mk #[60, 33, 45, 45]) = strOf [60, 33, 45, 45] from rfl, show (ByteArray.mk #[45, 45, 62]) = strOf [45, 45, 62] from rfl, strOf_add, strOf_add, <- hRe])
   clear S1z S2z z1 z2 ez2 h1 h2 hRe hlenR z_Sa z_Sb h_Sa h_Sb
   go_enter Tryz.func19, Tryz.ntmps19
   go_wp2_with fail
   (try simp only [Exit.inBlock, Exit.then])
   go_ret;exact ⟨by rw [<- hRv.out]; rfl, hbaH.out⟩
  rw [if_neg h3] at hRe;have k3 : (kd == 3) = false := by simpa using h3
  by_cases h4 : kd = 4
  ·subst h4;rw [if_pos rfl] at hRe;have k4 : ((4 : Int) == 4) = true := rfl
   cases tx with
   | nil =>
    have e2 : S2.toList.isEmpty = true := ez2;obtain ⟨Sa, h_Sa⟩ : ∃ s, (ByteArray.mk #[60, 63]) ++ S1 = s := ⟨_, rfl⟩;have e_Sa := fun w => run_string_add_sum (P := Tryz.prog) w ⟨#[60, 63]⟩ S1 (by rw [show (ByteArray.mk #[60, 63]).size = 2 from rfl]; omega)
    rw [h_Sa] at e_Sa;have z_Sa : Sa.size = (ByteArray.mk #[60, 63]).size + S1.size := (by rw [<- h_Sa, ByteArray.size_append]);rw [show (ByteArray.mk #[60, 63]).size = 2 from rfl] at z_Sa;obtain ⟨Sb, h_Sb⟩ : ∃ s, Sa ++ ⟨#[63, 62]⟩ = s := ⟨_, rfl⟩;have e_Sb := fun w => run_string_add_sum (P := Tryz.prog) w Sa ⟨#[63, 62]⟩ (by rw [show (ByteArray.mk #[63, 62]).size = 2 from rfl]; omega)
    rw [h_Sb] at e_Sb;have z_Sb : Sb.size = Sa.size + (ByteArray.mk #[63, 62]).size := (by rw [<- h_Sb, ByteArray.size_append]);rw [show (ByteArray.mk #[63, 62]).size = 2 from rfl] at z_Sb
    have hRv : Hid (Sb = strOf R) := Hd (by
     rw [<- h_Sb, <- h_Sa, <- hS1H.out, show (ByteArray.mk #[60, 63]) = strOf [60, 63] from rfl, show (ByteArray.mk #[63, 62]) = strOf [63, 62] from rfl, strOf_add, strOf_add, <- hRe]
     simp)
    clear S1z S2z z1 z2 ez2 h1 h2 h3 hRe hlenR z_Sa z_Sb h_Sa h_Sb
    go_enter Tryz.func19, Tryz.ntmps19
    go_wp2_with fail
    (try simp only [Exit.inBlock, Exit.then])
    go_ret;exact ⟨by rw [<- hRv.out]; rfl, hbaH.out⟩
   | cons c0 r0 =>
    have e2 : S2.toList.isEmpty = false := ez2;obtain ⟨Sa, h_Sa⟩ : ∃ s, (ByteArray.mk #[60, 63]) ++ S1 = s := ⟨_, rfl⟩;have e_Sa := fun w => run_string_add_sum (P := Tryz.prog) w ⟨#[60, 63]⟩ S1 (by rw [show (ByteArray.mk #[60, 63]).size = 2 from rfl]; omega)
    rw [h_Sa] at e_Sa;have z_Sa : Sa.size = (ByteArray.mk #[60, 63]).size + S1.size := (by rw [<- h_Sa, ByteArray.size_append]);rw [show (ByteArray.mk #[60, 63]).size = 2 from rfl] at z_Sa;obtain ⟨Sb, h_Sb⟩ : ∃ s, Sa ++ ⟨#[32]⟩ = s := ⟨_, rfl⟩;have e_Sb := fun w => run_string_add_sum (P := Tryz.prog) w Sa ⟨#[32]⟩ (by rw [show (ByteArray.mk #[32]).size = 1 from rfl]; omega)
    rw [h_Sb] at e_Sb;have z_Sb : Sb.size = Sa.size + (ByteArray.mk #[32]).size := (by rw [<- h_Sb, ByteArray.size_append]);rw [show (ByteArray.mk #[32]).size = 1 from rfl] at z_Sb;obtain ⟨Sc, h_Sc⟩ : ∃ s, Sb ++ S2 = s := ⟨_, rfl⟩;have e_Sc := fun w => run_string_add_sum (P := Tryz.prog) w Sb S2 (by omega)
    rw [h_Sc] at e_Sc;have z_Sc : Sc.size = Sb.size + S2.size := (by rw [<- h_Sc, ByteArray.size_append]);obtain ⟨Sd, h_Sd⟩ : ∃ s, Sc ++ ⟨#[63, 62]⟩ = s := ⟨_, rfl⟩;have e_Sd := fun w => run_string_add_sum (P := Tryz.prog) w Sc ⟨#[63, 62]⟩ (by rw [show (ByteArray.mk #[63, 62]).size = 2 from rfl]; omega)
    rw [h_Sd] at e_Sd;have z_Sd : Sd.size = Sc.size + (ByteArray.mk #[63, 62]).size := (by rw [<- h_Sd, ByteArray.size_append]);rw [show (ByteArray.mk #[63, 62]).size = 2 from rfl] at z_Sd
    have hRv : Hid (Sd = strOf R) := Hd (by
     rw [<- h_Sd, <- h_Sc, <- h_Sb, <- h_Sa, <- hS1H.out, <- hS2H.out, show (ByteArray.mk #[60, 63]) = strOf [60, 63] from rfl, show (ByteArray.mk #[63, 62]) = strOf [63, 62] from rfl, show (ByteArray.mk #[32]) = strOf [32] from rfl, strOf_add, strOf_add, strOf_add, strOf_add, <- hRe]
     simp)
    clear S1z S2z z1 z2 ez2 h1 h2 h3 hRe hlenR z_Sa z_Sb z_Sc z_Sd h_Sa h_Sb h_Sc h_Sd
    go_enter Tryz.func19, Tryz.ntmps19
    go_wp2_with fail
    (try simp only [Exit.inBlock, Exit.then])
    go_ret;exact ⟨by rw [<- hRv.out]; rfl, hbaH.out⟩
  rw [if_neg h4] at hRe;have k4 : (kd == 4) = false := by simpa using h4
  subst hRe;clear S1z S2z z1 z2 ez2 h1 h2 h3 h4 hlenR
  go_enter Tryz.func19, Tryz.ntmps19
  go_wp2_with fail
  (try simp only [Exit.inBlock, Exit.then])
  go_ret;exact ⟨rfl, hbaH.out⟩
end Go.Proofs.YtokdnhdfmgfkeaaGreatDoor.Xp
end

section
namespace Go.Proofs.YtokdnhdfmgfkeaaGreatDoor.Xp
open Go.RowKit UtfW Xl Xo Xt
set_option maxHeartbeats 8000000 in
set_option maxRecDepth 100000 in
theorem rwritten_any (X : Nat -> Prop) (w : World) (v : Value) (d : Doc) (hd : DocI X w v d) (hX : ∀ j, X j -> j < w.heap.size) (h1 : smN d.root) (h2 : smL d.before) (h3 : smL d.after) (hlen : (writeD d).length <= 100000000000000) :
  Calls Tryz.prog 23 #[v] w fun e w' => e = .returned (.string (strOf (writeD d))) /\ Below w.heap.size w w' := by
 obtain ⟨A1, n1, c1, kd, nm, tx, Ar, n5, cr, Ak, n6, ck, A2, n2, c2, hv, hSb, -, hNd, hSa, -⟩ := doc_parts hd;subst hv;have hl := hlen;unfold writeD at hl;rw [List.length_append, List.length_append] at hl;obtain ⟨S1, hS1⟩ : ∃ S, strOf nm = S := ⟨_, rfl⟩;obtain ⟨S2, hS2⟩ : ∃ S, strOf tx = S := ⟨_, rfl⟩;rw [hS1, hS2] at hNd;rw [hS1, hS2];have hba := below_alloc w (.cells #[.slice A1 n1 c1, .int .i64 kd, .string S1, .string S2, .slice Ar n5 cr, .slice Ak n6 ck, .slice A2 n2 c2] 27);have hnb := heap_alloc_new w (.cells #[.slice A1 n1 c1, .int .i64 kd, .string S1, .string S2, .slice Ar n5 cr, .slice Ak n6 ck, .slice A2 n2 c2] 27);obtain ⟨T, hT⟩ : ∃ T, w.heap.size = T := ⟨_, rfl⟩;obtain ⟨w1, hw1⟩ : ∃ w1, w.alloc (.cells #[.slice A1 n1 c1, .int .i64 kd, .string S1, .string S2, .slice Ar n5 cr, .slice Ak n6 ck, .slice A2 n2 c2] 27) = w1 := ⟨_, rfl⟩;rw [hw1] at hba hnb;rw [hT] at hnb;have hlow : ∀ x, Below w1.heap.size w1 x -> Below w.heap.size w x := fun x hx => hba.trans (hx.mono hba.size)
 have hbX : ∀ x, Below w1.heap.size w1 x -> ∀ j, X j -> j < x.heap.size := fun x hx j hj => Nat.lt_of_lt_of_le (hX j hj) (hlow x hx).size
 have hcB := Hd (fun (x : World) (hx : Below w1.heap.size w1 x) => rnodes_any X x A1 n1 c1 d.before (sq_keep hSb (hlow x hx) (fun vs y h => NdI.later h hX (hlow x hx))) (hbX x hx) (fun i y hy => rNode_any _ X y (Nat.le_refl _) (smL_mem h2 hy) (by have := writeL_mem hy; omega)) (by omega));have hcA := Hd (fun (x : World) (hx : Below w1.heap.size w1 x) => rnodes_any X x A2 n2 c2 d.after (sq_keep hSa (hlow x hx) (fun vs y h => NdI.later h hX (hlow x hx))) (hbX x hx) (fun i y hy => rNode_any _ X y (Nat.le_refl _) (smL_mem h3 hy) (by have := writeL_mem hy; omega)) (by omega));have hcR := Hd (fun (x : World) (hx : Below w1.heap.size w1 x) => rNode_any _ X d.root (Nat.le_refl _) h1 (by omega) _ x (NdI.later hNd hX (hlow x hx)) (hbX x hx));obtain ⟨B, hB⟩ : ∃ s, strOf (writeL d.before) = s := ⟨_, rfl⟩;obtain ⟨N, hN⟩ : ∃ s, strOf (writeN d.root) = s := ⟨_, rfl⟩;obtain ⟨F, hF⟩ : ∃ s, strOf (writeL d.after) = s := ⟨_, rfl⟩;have Bz : B.size = (writeL d.before).length := by rw [<- hB, strOf_size']
 have Nz : N.size = (writeN d.root).length := by rw [<- hN, strOf_size']
 have Fz : F.size = (writeL d.after).length := by rw [<- hF, strOf_size']
 rw [hB] at hcB;rw [hN] at hcR;rw [hF] at hcA;obtain ⟨Sa, h_Sa⟩ : ∃ s, B ++ N = s := ⟨_, rfl⟩;have e_Sa := fun w => run_string_add_sum (P := Tryz.prog) w B N (by omega)
 rw [h_Sa] at e_Sa;have z_Sa : Sa.size = B.size + N.size := by rw [<- h_Sa, ByteArray.size_append]
 obtain ⟨Sb, h_Sb⟩ : ∃ s, Sa ++ F = s := ⟨_, rfl⟩;have e_Sb := fun w => run_string_add_sum (P := Tryz.prog) w Sa F (by omega)
 rw [h_Sb] at e_Sb
 have hRv : strOf (writeD d) = Sb := by
  rw [<- h_Sb, <- h_Sa, <- hB, <- hN, <- hF, strOf_add, strOf_add];rfl
 rw [hRv]
 have hst : Hid (∀ x, Below w1.heap.size w1 x -> x.cell? ⟨T, 0, none⟩ = some (.slice A1 n1 c1) /\ x.cell? ⟨T, 1, none⟩ = some (.int .i64 kd) /\ x.cell? ⟨T, 2, none⟩ = some (.string S1) /\ x.cell? ⟨T, 3, none⟩ = some (.string S2) /\ x.cell? ⟨T, 4, none⟩ = some (.slice Ar n5 cr) /\ x.cell? ⟨T, 5, none⟩ = some (.slice Ak n6 ck) /\ x.cell? ⟨T, 6, none⟩ = some (.slice A2 n2 c2)) := Hd fun x hx => by
  have hb := (hx.block T (Array.getElem?_eq_some_iff.1 hnb).1).trans hnb;exact ⟨Xp.cell_blk hb rfl, Xp.cell_blk hb rfl, Xp.cell_blk hb rfl, Xp.cell_blk hb rfl, Xp.cell_blk hb rfl, Xp.cell_blk hb rfl, Xp.cell_blk hb rfl⟩
 have hbaH := Hd hba;have hdr : Hid (Below w1.heap.size w1 w1.drew) := Hd (Joins.below_draws w1.heap.size w1 1);clear hd hX h1 h2 h3 hlen hl hNd hSb hSa hS1 hS2 hba hnb hlow hbX hB hN hF Bz Nz Fz h_Sa h_Sb z_Sa hRv
 go_enter Tryz.func23, Tryz.ntmps23
 go_upto_region 1 with fail
 refine Pl.wp_region_plan 10 (.take 0 (.take 1 (.take 3 (.take 4 (.take 7 (.take 8 (.run 2 (.run 5 (.take 6 (.run 9 .done)))))))))) (fun x => x.cell? ⟨T, 0, none⟩ = some (.slice A1 n1 c1) /\ x.cell? ⟨T, 1, none⟩ = some (.int .i64 kd) /\ x.cell? ⟨T, 2, none⟩ = some (.string S1) /\ x.cell? ⟨T, 3, none⟩ = some (.string S2) /\ x.cell? ⟨T, 4, none⟩ = some (.slice Ar n5 cr) /\ x.cell? ⟨T, 5, none⟩ = some (.slice Ak n6 ck) /\ x.cell? ⟨T, 6, none⟩ = some (.slice A2 n2 c2)) (by kernel_rfl) (by kernel_rfl) (by exact hst.out w1 (Below.refl _ _)) ?_;simp only [Pl.fill, Al_4, Al_5, Al_6, Al_7]
 iterate 6
  refine Pl.take_go ?_ (by rfl) (fun _ _ _ h => h) ?_ ?_
  rotate_left
  ·(intro x hSw; (try dsimp only at hSw); go_simp; try with_reducible rfl)
  (try simp only [Act.put, Al_1, Al_2, Al_3])
 refine Pl.run_go (fun K hK => ?_);go_simp;refine (hcB.out _ hdr.out).mono ?_;rintro e w3 ⟨rfl, hbw3⟩;have hqw3 := Xp.tr_ hdr hbw3;dsimp only;refine hK.out _ _ (Pl.more_go _ (fun _ h => h) (hst.out _ hqw3.out) ?_);clear hK K hbw3
 try simp only [Act.put, Al_1, Al_2, Al_3]
 refine Pl.run_go (fun K hK => ?_);go_simp;refine (hcR.out _ hqw3.out).mono ?_;rintro e w4 ⟨rfl, hbw4⟩;have hqw4 := Xp.tr_ hqw3 hbw4;dsimp only;refine hK.out _ _ (Pl.more_go _ (fun _ h => h) (hst.out _ hqw4.out) ?_);clear hK K hbw4
 try simp only [Act.put, Al_1, Al_2, Al_3]
 refine Pl.take_go ?_ (by rfl) (fun _ _ _ h => h) ?_ ?_
 rotate_left
 ·(intro x hSw; (try dsimp only at hSw); go_simp; try with_reducible rfl)
 (try simp only [Act.put, Al_1, Al_2, Al_3])
 refine Pl.run_go (fun K hK => ?_);go_simp;refine (hcA.out _ hqw4.out).mono ?_;rintro e w5 ⟨rfl, hbw5⟩;have hqw5 := Xp.tr_ hqw4 hbw5;dsimp only;refine hK.out _ _ (Pl.more_go _ (fun _ h => h) (hst.out _ hqw5.out) ?_);clear hK K hbw5
 try simp only [Act.put, Al_1, Al_2, Al_3]
 refine Pl.done_go ?_;have hfin := Xp.tu_ hbaH hqw5;go_wp2_with fail
 (try simp only [Exit.inBlock, Exit.then])
 go_ret;exact ⟨rfl, hfin.out⟩
end Go.Proofs.YtokdnhdfmgfkeaaGreatDoor.Xp
end

section
namespace Go.Proofs.YtokdnhdfmgfkeaaGreatDoor.Xp
open Go.RowKit UtfW Xl Xo Xt
theorem miscOk_snoc : ∀ (l : List Nd) (x : Nd), miscOk (l ++ [x]) = (miscOk l && ((decide (x.kind = 3) || decide (x.kind = 4)) && fairN x))
 | [], x => by
  simp only [List.nil_append, miscOk, Bool.and_true, Bool.true_and]
 | y :: l, x => by
  rw [List.cons_append, miscOk, miscOk, miscOk_snoc l];simp only [Bool.and_assoc]
set_option maxHeartbeats 32000000 in
set_option maxRecDepth 100000 in
theorem rMay_any (X : Nat -> Prop) (w : World) (v : Value) (d : Doc) (hd : DocI X w v d) (hX : ∀ j, X j -> j < w.heap.size) (hD : DocB d) :
  Calls Tryz.prog 15 #[v] w fun e w' => e = .returned (.bool (mayD d)) /\ Below w.heap.size w w' := by
 obtain ⟨A1, n1, c1, kd, nm, tx, Ar, n5, cr, Ak, n6, ck, A2, n2, c2, hv, hSb, -, hNd, hSa, -, hkd⟩ := doc_parts hd;subst hv;have hn1 := hSb.len;have hn2 := hSa.len;obtain ⟨S1, hS1⟩ : ∃ S, strOf nm = S := ⟨_, rfl⟩;obtain ⟨S2, hS2⟩ : ∃ S, strOf tx = S := ⟨_, rfl⟩;rw [hS1, hS2] at hNd hd;rw [hS1, hS2];have hba := below_alloc w (.cells #[.slice A1 n1 c1, .int .i64 kd, .string S1, .string S2, .slice Ar n5 cr, .slice Ak n6 ck, .slice A2 n2 c2] 27);have hnb := heap_alloc_new w (.cells #[.slice A1 n1 c1, .int .i64 kd, .string S1, .string S2, .slice Ar n5 cr, .slice Ak n6 ck, .slice A2 n2 c2] 27);obtain ⟨T, hT⟩ : ∃ T, w.heap.size = T := ⟨_, rfl⟩;obtain ⟨w1, hw1⟩ : ∃ w1, w.alloc (.cells #[.slice A1 n1 c1, .int .i64 kd, .string S1, .string S2, .slice Ar n5 cr, .slice Ak n6 ck, .slice A2 n2 c2] 27) = w1 := ⟨_, rfl⟩;rw [hw1] at hba hnb;rw [hT] at hnb;have hlow : ∀ x, Below w1.heap.size w1 x -> Below w.heap.size w x := fun x hx => hba.trans (hx.mono hba.size)
 have hbX : ∀ x, Below w1.heap.size w1 x -> ∀ j, X j -> j < x.heap.size := fun x hx j hj => Nat.lt_of_lt_of_le (hX j hj) (hlow x hx).size
 have hXb : Hid (∀ j, X j -> j < w1.heap.size) := Hd (hbX w1 (Below.refl _ _));have hTb : Hid (∀ x, Below w1.heap.size w1 x -> x.heap[T]? = some (.cells #[.slice A1 n1 c1, .int .i64 kd, .string S1, .string S2, .slice Ar n5 cr, .slice Ak n6 ck, .slice A2 n2 c2] 27)) := Hd fun x hx => (hx.block T (Array.getElem?_eq_some_iff.1 hnb).1).trans hnb
 have hcC := Hd (fun (x : World) (hx : Below w1.heap.size w1 x) => rcount_any _ X x _ d.root (Nat.le_refl _) (NdI.later hNd hX (hlow x hx)) (hbX x hx) hD.cnt);have hcD := Hd (fun (x : World) (hx : Below w1.heap.size w1 x) => rdepth_any _ X x _ d.root (Nat.le_refl _) (NdI.later hNd hX (hlow x hx)) (hbX x hx) hD.cnt);have hcF := Hd (fun (x : World) (hx : Below w1.heap.size w1 x) => rFair_any _ X d.root (Nat.le_refl _) hD.rs _ x (NdI.later hNd hX (hlow x hx)) (hbX x hx));have hcW := Hd (fun (x : World) (hx : Below w1.heap.size w1 x) => rwritten_any X x _ d (Xp.DocI.keep hd fun k hk => (hlow x hx).block k (hX k hk)) (hbX x hx) hD.rs hD.bs hD.as_ hD.wr);replace hSb : Hid (∀ x, Below w1.heap.size w1 x -> Sq (NdE X) 5 x A1 n1 c1 d.before) := Hd fun x hx => sq_keep hSb (hlow x hx) (fun vs y h => NdI.later h hX (hlow x hx))
 replace hSa : Hid (∀ x, Below w1.heap.size w1 x -> Sq (NdE X) 5 x A2 n2 c2 d.after) := Hd fun x hx => sq_keep hSa (hlow x hx) (fun vs y h => NdI.later h hX (hlow x hx))
 have hFb : Hid (∀ (i : Nat) y, d.before[i]? = some y -> RFairAt X y) := Hd fun i y hy => rFair_any _ X y (Nat.le_refl _) (smL_mem hD.bs hy)
 have hFa : Hid (∀ (i : Nat) y, d.after[i]? = some y -> RFairAt X y) := Hd fun i y hy => rFair_any _ X y (Nat.le_refl _) (smL_mem hD.as_ hy)
 have hbaH := Hd hba;have hbl := hD.bl;have hal := hD.al;have hcl := hD.cnt;have hdc := depth_count d.root;rw [hn1] at hbl;rw [hn2] at hal;obtain ⟨R, hR⟩ : ∃ R, mayD d = R := ⟨_, rfl⟩;rw [hR];unfold mayD at hR;rw [<- hkd, hn1, hn2] at hR;obtain ⟨Ws, hWs⟩ : ∃ s, strOf (writeD d) = s := ⟨_, rfl⟩;have hWz : Ws.size = (writeD d).length := by rw [<- hWs, strOf_size']
 rw [hWs] at hcW;obtain ⟨L, hLe⟩ : ∃ L, (writeD d).length = L := ⟨_, rfl⟩;rw [hLe] at hR hWz;obtain ⟨C, hC⟩ : ∃ C, countN d.root = C := ⟨_, rfl⟩;obtain ⟨DP, hDP⟩ : ∃ C, depthN d.root = C := ⟨_, rfl⟩;obtain ⟨FR, hFR⟩ : ∃ b, fairN d.root = b := ⟨_, rfl⟩;obtain ⟨bf, hbf⟩ : ∃ b, d.before = b := ⟨_, rfl⟩;obtain ⟨af, haf⟩ : ∃ b, d.after = b := ⟨_, rfl⟩;rw [hC] at hcC hR hcl hdc;rw [hDP] at hcD hR hdc;rw [hFR] at hcF hR;rw [hbf] at hSb hFb hn1 hR;rw [haf] at hSa hFa hn2 hR;have hn1H := Hd hn1;have hn2H := Hd hn2;have hR' := Hd hR;have hLb : L <= 100000000000000 := by rw [<- hLe]; exact hD.wr
 clear hd hX hNd hS1 hS2 hba hnb hlow hbX hn1 hn2 hR hWs hLe hC hDP hFR hbf haf hkd hD;obtain ⟨y0, y1, y2, y3, y4, y5, y6⟩ := Xp.cz7 (hTb.out w1 (Hd (Below.refl w1.heap.size w1)).out)
 go_enter Tryz.func15, Tryz.ntmps15
 go_wp2_with fail;refine (hcC.out w1 (Below.refl _ _)).mono ?_;rintro e w2 ⟨rfl, hb2⟩;have hq2 := Hd hb2;clear hb2 hcC y0 y1 y2 y3 y4 y5 y6;obtain ⟨y0, y1, y2, y3, y4, y5, y6⟩ := Xp.cz7 (hTb.out w2 hq2.out)
 by_cases h1 : kd = 1
 ·subst h1;have k1 : ((1 : Int) == 1) = true := rfl;go_wp2_with fail;refine (hcF.out w2 hq2.out).mono ?_;rintro e w3 ⟨rfl, hb3⟩;have hq3 := Xp.tr_ hq2 hb3;clear hb3 hcF y0 y1 y2 y3 y4 y5 y6;obtain ⟨y0, y1, y2, y3, y4, y5, y6⟩ := Xp.cz7 (hTb.out w3 hq3.out)
  cases FR with
  | false =>
   have hRf : Hid (R = false) := Hd (by rw [<- hR'.out]; simp);go_wp2_with fail;clear y0 y1 y2 y3 y4 y5 y6
   go_loopw [3, 4, 5] (fun v3 v4 v5 wr => ∃ i : Nat, i <= n1 /\ v5 = .int .i64 (i : Nat) /\ v3 = .int .i64 ((C + i : Nat) : Int) /\ v4 = .bool false /\ Hid (Below w1.heap.size w1 wr)) (fun _ _ v5 _ => n1 - (intOf v5).toNat)
   case atStart => exact ⟨0, by omega, rfl, rfl, rfl, hq3⟩
   case round =>
    obtain ⟨i, hi, rfl, rfl, rfl, hqwr⟩ := hrel;obtain ⟨y0, y1, y2, y3, y4, y5, y6⟩ := Xp.cz7 (hTb.out wr hqwr.out)
    by_cases hlt : i < n1
    ·have i1 : decide ((i : Int) < (n1 : Int)) = true := by simp; omega
     go_wp2_with fail;go_roundw
     case rel => exact ⟨i + 1, by omega, by go_num, by go_num, rfl, hqwr⟩
     case measure => simp [intOf]; omega
    ·have hie : i = n1 := (by omega);subst hie;have i1 : decide ((i : Int) < (i : Int)) = false := (by simp);go_wp2_with fail;clear y0 y1 y2 y3 y4 y5 y6
     go_loopw [3, 4, 6] (fun v3 v4 v6 wq => ∃ q : Nat, q <= n2 /\ v6 = .int .i64 (q : Nat) /\ v3 = .int .i64 ((C + i + q : Nat) : Int) /\ v4 = .bool false /\ Hid (Below w1.heap.size w1 wq)) (fun _ _ v6 _ => n2 - (intOf v6).toNat)
     case atStart => exact ⟨0, by omega, rfl, rfl, rfl, hqwr⟩
     case round =>
      obtain ⟨q, hq, rfl, rfl, rfl, hqwq⟩ := hrel;obtain ⟨y0, y1, y2, y3, y4, y5, y6⟩ := Xp.cz7 (hTb.out _ hqwq.out)
      by_cases hlt3 : q < n2
      ·have i3 : decide ((q : Int) < (n2 : Int)) = true := by simp; omega
       go_wp2_with fail;go_roundw
       case rel => exact ⟨q + 1, by omega, by go_num, by go_num, rfl, hqwq⟩
       case measure => simp [intOf]; omega
      ·have hie : q = n2 := (by omega);subst hie;have i3 : decide ((q : Int) < (q : Int)) = false := (by simp);have hfin := Xp.tu_ hbaH hqwq;go_wp2_with fail
       (try simp only [Exit.inBlock, Exit.then])
       go_ret;exact ⟨by rw [hRf.out]; rfl, by first | exact hfin.out | (have h9 := hfin.out; rw [hT] at h9; exact h9)⟩
  | true =>
   go_wp2_with fail;refine (hcD.out w3 hq3.out).mono ?_;rintro e w4 ⟨rfl, hb4⟩;have hq4 := Xp.tr_ hq3 hb4;clear hb4 hcD y0 y1 y2 y3 y4 y5 y6;obtain ⟨y0, y1, y2, y3, y4, y5, y6⟩ := Xp.cz7 (hTb.out w4 hq4.out)
   by_cases hdp : DP <= 32
   ·have d1 : decide ((DP : Int) <= 32) = true := by simp; omega
    have d2 : (DP : Int) <= 32 := by omega
    have hRT : Hid (R = (miscOk bf && miscOk af && decide (C + n1 + n2 <= 4096) && decide (L <= 65536))) := Hd (by
     rw [<- hR'.out, decide_eq_true hdp]
     simp)
    go_wp2_with fail;clear y0 y1 y2 y3 y4 y5 y6
    go_loopw [3, 4, 5] (fun v3 v4 v5 wr => ∃ (i : Nat) (OK : Bool), i <= n1 /\ v5 = .int .i64 (i : Nat) /\ v3 = .int .i64 ((C + i : Nat) : Int) /\ v4 = .bool OK /\ Hid (OK = (true && miscOk (bf.take i))) /\ Hid (Below w1.heap.size w1 wr)) (fun _ _ v5 _ => n1 - (intOf v5).toNat)
    case atStart => exact ⟨0, true, by omega, rfl, rfl, rfl, Hd rfl, hq4⟩
    case round =>
     obtain ⟨i, OK, hi, rfl, rfl, rfl, hok, hqwr⟩ := hrel;obtain ⟨y0, y1, y2, y3, y4, y5, y6⟩ := Xp.cz7 (hTb.out wr hqwr.out)
     by_cases hlt : i < n1
     ·have i1 : decide ((i : Int) < (n1 : Int)) = true := by simp; omega
      have q1 : (i : Int) < (n1 : Int) := by omega
      cases OK with
      | false =>
       have hnext : Hid (false = (true && miscOk (bf.take (i + 1)))) := Hd (by
        obtain ⟨x, hx⟩ : ∃ x, bf[i]? = some x := ⟨_, List.getElem?_eq_getElem (by rw [hn1H.out]; exact hlt)⟩
        rw [take_snoc hx, miscOk_snoc, <- Bool.and_assoc, <- hok.out, Bool.false_and])
       clear hok;go_wp2_with fail;go_roundw
       case rel => exact ⟨i + 1, false, by omega, by go_num, by go_num, rfl, hnext, hqwr⟩
       case measure => simp [intOf]; omega
      | true =>
       obtain ⟨b3, off3, x, vs3, rfl, _, hx3, _, hv3, hc3⟩ := (hSb.out _ hqwr.out).at_ hlt;have hfx := hFb.out i x hx3;have hxH3 := Hd hx3;have hbX := fun j (hj : X j) => Nat.lt_of_lt_of_le (hXb.out j hj) hqwr.out.size
       obtain ⟨kx, nx_, tx_, ax_, kx_⟩ := x;have hrec := Hd (hfx _ _ hv3 hbX);obtain ⟨Ax, cax, A2x, c2x, rfl, -⟩ := hv3.cells;have m0 := hc3 0 _ rfl;have m1 := hc3 1 _ rfl;have m2 := hc3 2 _ rfl;have m3 := hc3 3 _ rfl;have m4 := hc3 4 _ rfl;rw [Nat.add_zero] at m0;obtain ⟨FX, hFX⟩ : ∃ b, fairN (.mk kx nx_ tx_ ax_ kx_) = b := ⟨_, rfl⟩;rw [hFX] at hrec;have hFXH := Hd hFX;clear hc3 hx3 hfx hv3 hbX hFX;go_wp2_with fail;refine hrec.out.mono ?_;rintro e w6 ⟨rfl, hb6⟩;have hq6 := Xp.tr_ hqwr hb6;clear hb6 hrec m0 m1 m2 m3 m4 y0 y1 y2 y3 y4 y5 y6;obtain ⟨y0, y1, y2, y3, y4, y5, y6⟩ := Xp.cz7 (hTb.out w6 hq6.out);have k0 := at_kind (hSb.out w6 hq6.out) hlt hxH3.out;change w6.cell? _ = some (.int .i64 kx) at k0
       have hval : Hid ((true && miscOk (bf.take (i + 1))) = ((decide (kx = 3) || decide (kx = 4)) && FX)) := Hd (by
        rw [take_snoc hxH3.out, miscOk_snoc, <- Bool.and_assoc, <- hok.out, Bool.true_and, hFXH.out]
        rfl)
       clear hok hFXH
       cases FX with
       | false =>
        have hnext : Hid (false = (true && miscOk (bf.take (i + 1)))) := Hd (by rw [hval.out, Bool.and_false]);clear hval;go_wp2_with fail;go_roundw
        case rel => exact ⟨i + 1, false, by omega, by go_num, by go_num, rfl, hnext, hq6⟩
        case measure => simp [intOf]; omega
       | true =>
        by_cases h3 : kx = 3
        ·have r3 : (kx == 3) = true := by rw [h3]; rfl
         have hnext : Hid (true = (true && miscOk (bf.take (i + 1)))) := Hd (by rw [hval.out, h3]; rfl);clear hval h3;go_wp2_with fail;go_roundw
         case rel => exact ⟨i + 1, true, by omega, by go_num, by go_num, rfl, hnext, hq6⟩
         case measure => simp [intOf]; omega
        ·have r3 : (kx == 3) = false := by simpa using h3
         by_cases h4 : kx = 4
         ·have r4 : (kx == 4) = true := by rw [h4]; rfl
          have hnext : Hid (true = (true && miscOk (bf.take (i + 1)))) := Hd (by rw [hval.out, h4]; rfl);clear hval h3 h4;go_wp2_with fail;go_roundw
          case rel => exact ⟨i + 1, true, by omega, by go_num, by go_num, rfl, hnext, hq6⟩
          case measure => simp [intOf]; omega
         ·have r4 : (kx == 4) = false := (by simpa using h4);have hnext : Hid (false = (true && miscOk (bf.take (i + 1)))) := Hd (by rw [hval.out, decide_eq_false h3, decide_eq_false h4]; rfl);clear hval h3 h4;go_wp2_with fail;go_roundw
          case rel => exact ⟨i + 1, false, by omega, by go_num, by go_num, rfl, hnext, hq6⟩
          case measure => simp [intOf]; omega
     ·have hie : i = n1 := (by omega);subst hie;have i1 : decide ((i : Int) < (i : Int)) = false := by simp
      have hB1 : Hid (OK = miscOk bf) := Hd (by
       have h9 := hok.out
       rwa [List.take_of_length_le (Nat.le_of_eq hn1H.out), Bool.true_and] at h9)
      clear hok;go_wp2_with fail;clear y0 y1 y2 y3 y4 y5 y6
      go_loopw [3, 4, 6] (fun v3 v4 v6 wq => ∃ (q : Nat) (OK2 : Bool), q <= n2 /\ v6 = .int .i64 (q : Nat) /\ v3 = .int .i64 ((C + i + q : Nat) : Int) /\ v4 = .bool OK2 /\ Hid (OK2 = (OK && miscOk (af.take q))) /\ Hid (Below w1.heap.size w1 wq)) (fun _ _ v6 _ => n2 - (intOf v6).toNat)
      case atStart => exact ⟨0, OK, by omega, rfl, rfl, rfl, Hd (by simp [miscOk]), hqwr⟩
      case round =>
       obtain ⟨q, OK2, hq, rfl, rfl, rfl, hok, hqwq⟩ := hrel;obtain ⟨y0, y1, y2, y3, y4, y5, y6⟩ := Xp.cz7 (hTb.out _ hqwq.out)
       by_cases hlt : q < n2
       ·have i3 : decide ((q : Int) < (n2 : Int)) = true := by simp; omega
        have q3 : (q : Int) < (n2 : Int) := by omega
        cases OK2 with
        | false =>
         have hnext : Hid (false = (OK && miscOk (af.take (q + 1)))) := Hd (by
          obtain ⟨x, hx⟩ : ∃ x, af[q]? = some x := ⟨_, List.getElem?_eq_getElem (by rw [hn2H.out]; exact hlt)⟩
          rw [take_snoc hx, miscOk_snoc, <- Bool.and_assoc, <- hok.out, Bool.false_and])
         clear hok;go_wp2_with fail;go_roundw
         case rel => exact ⟨q + 1, false, by omega, by go_num, by go_num, rfl, hnext, hqwq⟩
         case measure => simp [intOf]; omega
        | true =>
         obtain ⟨b3, off3, x, vs3, rfl, _, hx3, _, hv3, hc3⟩ := (hSa.out _ hqwq.out).at_ hlt;have hfx := hFa.out q x hx3;have hxH3 := Hd hx3;have hbX := fun j (hj : X j) => Nat.lt_of_lt_of_le (hXb.out j hj) hqwq.out.size
         obtain ⟨kx, nx_, tx_, ax_, kx_⟩ := x;have hrec := Hd (hfx _ _ hv3 hbX);obtain ⟨Ax, cax, A2x, c2x, rfl, -⟩ := hv3.cells;have m0 := hc3 0 _ rfl;have m1 := hc3 1 _ rfl;have m2 := hc3 2 _ rfl;have m3 := hc3 3 _ rfl;have m4 := hc3 4 _ rfl;rw [Nat.add_zero] at m0;obtain ⟨FX, hFX⟩ : ∃ b, fairN (.mk kx nx_ tx_ ax_ kx_) = b := ⟨_, rfl⟩;rw [hFX] at hrec;have hFXH := Hd hFX;clear hc3 hx3 hfx hv3 hbX hFX;go_wp2_with fail;refine hrec.out.mono ?_;rintro e w7 ⟨rfl, hb6⟩;have hq6 := Xp.tr_ hqwq hb6;clear hb6 hrec m0 m1 m2 m3 m4 y0 y1 y2 y3 y4 y5 y6;obtain ⟨y0, y1, y2, y3, y4, y5, y6⟩ := Xp.cz7 (hTb.out w7 hq6.out);have k0 := at_kind (hSa.out w7 hq6.out) hlt hxH3.out;change w7.cell? _ = some (.int .i64 kx) at k0
         have hval : Hid ((OK && miscOk (af.take (q + 1))) = ((decide (kx = 3) || decide (kx = 4)) && FX)) := Hd (by
          rw [take_snoc hxH3.out, miscOk_snoc, <- Bool.and_assoc, <- hok.out, Bool.true_and, hFXH.out]
          rfl)
         clear hok hFXH
         cases FX with
         | false =>
          have hnext : Hid (false = (OK && miscOk (af.take (q + 1)))) := Hd (by rw [hval.out, Bool.and_false]);clear hval;go_wp2_with fail;go_roundw
          case rel => exact ⟨q + 1, false, by omega, by go_num, by go_num, rfl, hnext, hq6⟩
          case measure => simp [intOf]; omega
         | true =>
          by_cases h3 : kx = 3
          ·have r3 : (kx == 3) = true := by rw [h3]; rfl
           have hnext : Hid (true = (OK && miscOk (af.take (q + 1)))) := Hd (by rw [hval.out, h3]; rfl);clear hval h3;go_wp2_with fail;go_roundw
           case rel => exact ⟨q + 1, true, by omega, by go_num, by go_num, rfl, hnext, hq6⟩
           case measure => simp [intOf]; omega
          ·have r3 : (kx == 3) = false := by simpa using h3
           by_cases h4 : kx = 4
           ·have r4 : (kx == 4) = true := by rw [h4]; rfl
            have hnext : Hid (true = (OK && miscOk (af.take (q + 1)))) := Hd (by rw [hval.out, h4]; rfl);clear hval h3 h4;go_wp2_with fail;go_roundw
            case rel => exact ⟨q + 1, true, by omega, by go_num, by go_num, rfl, hnext, hq6⟩
            case measure => simp [intOf]; omega
           ·have r4 : (kx == 4) = false := (by simpa using h4);have hnext : Hid (false = (OK && miscOk (af.take (q + 1)))) := Hd (by rw [hval.out, decide_eq_false h3, decide_eq_false h4]; rfl);clear hval h3 h4;go_wp2_with fail;go_roundw
            case rel => exact ⟨q + 1, false, by omega, by go_num, by go_num, rfl, hnext, hq6⟩
            case measure => simp [intOf]; omega
       ·have hie : q = n2 := (by omega);subst hie;have i3 : decide ((q : Int) < (q : Int)) = false := by simp
        have hB2 : Hid (OK2 = (miscOk bf && miscOk af)) := Hd (by
         have h9 := hok.out
         rwa [List.take_of_length_le (Nat.le_of_eq hn2H.out), hB1.out] at h9)
        clear hok
        cases OK2 with
        | false =>
         have hRf : Hid (R = false) := Hd (by rw [hRT.out, <- hB2.out]; rfl);have hfin := Xp.tu_ hbaH hqwq;go_wp2_with fail
         (try simp only [Exit.inBlock, Exit.then])
         go_ret;exact ⟨by rw [hRf.out]; rfl, by first | exact hfin.out | (have h9 := hfin.out; rw [hT] at h9; exact h9)⟩
        | true =>
         by_cases hc : C + i + q <= 4096
         ·have c1' : decide (((C + i + q : Nat) : Int) <= 4096) = true := by simp; omega
          have c2' : ((C : Int) + (i : Int) + (q : Int)) <= 4096 := (by omega);have c3' : decide ((C : Int) + (i : Int) + (q : Int) <= 4096) = true := decide_eq_true c2';have hwr := Hd (hcW.out _ hqwq.out);go_wp2_with fail;refine hwr.out.mono ?_;rintro e w8 ⟨rfl, hb8⟩;have hfin := Hd (hbaH.out.trans ((hqwq.out.trans (hb8.mono hqwq.out.size)).mono hbaH.out.size));clear hb8 hwr
          by_cases hL : L <= 65536
          ·have l1' : decide ((L : Int) <= 65536) = true := by simp; omega
           have l2' : (L : Int) <= 65536 := (by omega);have hRf : Hid (R = true) := Hd (by rw [hRT.out, <- hB2.out, decide_eq_true hc, decide_eq_true hL]; rfl);go_wp2_with fail
           (try simp only [Exit.inBlock, Exit.then])
           go_ret;exact ⟨by rw [hRf.out]; rfl, by first | exact hfin.out | (have h9 := hfin.out; rw [hT] at h9; exact h9)⟩
          ·have l1' : decide ((L : Int) <= 65536) = false := by simp; omega
           have l2' : ¬ (L : Int) <= 65536 := (by omega);have hRf : Hid (R = false) := Hd (by rw [hRT.out, decide_eq_false hL, Bool.and_false]);go_wp2_with fail
           (try simp only [Exit.inBlock, Exit.then])
           go_ret;exact ⟨by rw [hRf.out]; rfl, by first | exact hfin.out | (have h9 := hfin.out; rw [hT] at h9; exact h9)⟩
         ·have c1' : decide (((C + i + q : Nat) : Int) <= 4096) = false := by simp; omega
          have c2' : ¬ ((C : Int) + (i : Int) + (q : Int)) <= 4096 := (by omega);have c3' : decide ((C : Int) + (i : Int) + (q : Int) <= 4096) = false := decide_eq_false c2';have hRf : Hid (R = false) := Hd (by rw [hRT.out, decide_eq_false hc, Bool.and_false, Bool.false_and]);have hfin := Xp.tu_ hbaH hqwq;go_wp2_with fail
          (try simp only [Exit.inBlock, Exit.then])
          go_ret;exact ⟨by rw [hRf.out]; rfl, by first | exact hfin.out | (have h9 := hfin.out; rw [hT] at h9; exact h9)⟩
   ·have d1 : decide ((DP : Int) <= 32) = false := by simp; omega
    have d2 : ¬ (DP : Int) <= 32 := (by omega);have hRf : Hid (R = false) := Hd (by rw [<- hR'.out, decide_eq_false hdp]; simp);go_wp2_with fail;clear y0 y1 y2 y3 y4 y5 y6
    go_loopw [3, 4, 5] (fun v3 v4 v5 wr => ∃ i : Nat, i <= n1 /\ v5 = .int .i64 (i : Nat) /\ v3 = .int .i64 ((C + i : Nat) : Int) /\ v4 = .bool false /\ Hid (Below w1.heap.size w1 wr)) (fun _ _ v5 _ => n1 - (intOf v5).toNat)
    case atStart => exact ⟨0, by omega, rfl, rfl, rfl, hq4⟩
    case round =>
     obtain ⟨i, hi, rfl, rfl, rfl, hqwr⟩ := hrel;obtain ⟨y0, y1, y2, y3, y4, y5, y6⟩ := Xp.cz7 (hTb.out wr hqwr.out)
     by_cases hlt : i < n1
     ·have i1 : decide ((i : Int) < (n1 : Int)) = true := by simp; omega
      go_wp2_with fail;go_roundw
      case rel => exact ⟨i + 1, by omega, by go_num, by go_num, rfl, hqwr⟩
      case measure => simp [intOf]; omega
     ·have hie : i = n1 := (by omega);subst hie;have i1 : decide ((i : Int) < (i : Int)) = false := (by simp);go_wp2_with fail;clear y0 y1 y2 y3 y4 y5 y6
      go_loopw [3, 4, 6] (fun v3 v4 v6 wq => ∃ q : Nat, q <= n2 /\ v6 = .int .i64 (q : Nat) /\ v3 = .int .i64 ((C + i + q : Nat) : Int) /\ v4 = .bool false /\ Hid (Below w1.heap.size w1 wq)) (fun _ _ v6 _ => n2 - (intOf v6).toNat)
      case atStart => exact ⟨0, by omega, rfl, rfl, rfl, hqwr⟩
      case round =>
       obtain ⟨q, hq, rfl, rfl, rfl, hqwq⟩ := hrel;obtain ⟨y0, y1, y2, y3, y4, y5, y6⟩ := Xp.cz7 (hTb.out _ hqwq.out)
       by_cases hlt3 : q < n2
       ·have i3 : decide ((q : Int) < (n2 : Int)) = true := by simp; omega
        go_wp2_with fail;go_roundw
        case rel => exact ⟨q + 1, by omega, by go_num, by go_num, rfl, hqwq⟩
        case measure => simp [intOf]; omega
       ·have hie : q = n2 := (by omega);subst hie;have i3 : decide ((q : Int) < (q : Int)) = false := (by simp);have hfin := Xp.tu_ hbaH hqwq;go_wp2_with fail
        (try simp only [Exit.inBlock, Exit.then])
        go_ret;exact ⟨by rw [hRf.out]; rfl, by first | exact hfin.out | (have h9 := hfin.out; rw [hT] at h9; exact h9)⟩
 ·have k1 : (kd == 1) = false := by simpa using h1
  have hRf : Hid (R = false) := Hd (by rw [<- hR'.out, decide_eq_false h1]; simp);clear h1;go_wp2_with fail;clear y0 y1 y2 y3 y4 y5 y6
  go_loopw [3, 4, 5] (fun v3 v4 v5 wr => ∃ i : Nat, i <= n1 /\ v5 = .int .i64 (i : Nat) /\ v3 = .int .i64 ((C + i : Nat) : Int) /\ v4 = .bool false /\ Hid (Below w1.heap.size w1 wr)) (fun _ _ v5 _ => n1 - (intOf v5).toNat)
  case atStart => exact ⟨0, by omega, rfl, rfl, rfl, hq2⟩
  case round =>
   obtain ⟨i, hi, rfl, rfl, rfl, hqwr⟩ := hrel;obtain ⟨y0, y1, y2, y3, y4, y5, y6⟩ := Xp.cz7 (hTb.out wr hqwr.out)
   by_cases hlt : i < n1
   ·have i1 : decide ((i : Int) < (n1 : Int)) = true := by simp; omega
    go_wp2_with fail;go_roundw
    case rel => exact ⟨i + 1, by omega, by go_num, by go_num, rfl, hqwr⟩
    case measure => simp [intOf]; omega
   ·have hie : i = n1 := (by omega);subst hie;have i1 : decide ((i : Int) < (i : Int)) = false := (by simp);go_wp2_with fail;clear y0 y1 y2 y3 y4 y5 y6
    go_loopw [3, 4, 6] (fun v3 v4 v6 wq => ∃ q : Nat, q <= n2 /\ v6 = .int .i64 (q : Nat) /\ v3 = .int .i64 ((C + i + q : Nat) : Int) /\ v4 = .bool false /\ Hid (Below w1.heap.size w1 wq)) (fun _ _ v6 _ => n2 - (intOf v6).toNat)
    case atStart => exact ⟨0, by omega, rfl, rfl, rfl, hqwr⟩
    case round =>
     obtain ⟨q, hq, rfl, rfl, rfl, hqwq⟩ := hrel;obtain ⟨y0, y1, y2, y3, y4, y5, y6⟩ := Xp.cz7 (hTb.out _ hqwq.out)
     by_cases hlt3 : q < n2
     ·have i3 : decide ((q : Int) < (n2 : Int)) = true := by simp; omega
      go_wp2_with fail;go_roundw
      case rel => exact ⟨q + 1, by omega, by go_num, by go_num, rfl, hqwq⟩
      case measure => simp [intOf]; omega
     ·have hie : q = n2 := (by omega);subst hie;have i3 : decide ((q : Int) < (q : Int)) = false := (by simp);have hfin := Xp.tu_ hbaH hqwq;go_wp2_with fail
      (try simp only [Exit.inBlock, Exit.then])
      go_ret;exact ⟨by rw [hRf.out]; rfl, by first | exact hfin.out | (have h9 := hfin.out; rw [hT] at h9; exact h9)⟩
end Go.Proofs.YtokdnhdfmgfkeaaGreatDoor.Xp
end

section
namespace Go.Proofs.YtokdnhdfmgfkeaaGreatDoor.Xt
open Go.RowKit UtfW Xl
theorem strOf_inj {a b : Tx} (h : strOf a = strOf b) : a = b := by
 have := congrArg (fun x : ByteArray => x.data.toList) h
 simpa [strOf] using this
theorem str_ne {a b : Tx} (h : a ≠ b) : ((strOf a).toList == (strOf b).toList) = false := by
 rw [str_beq, decide_eq_false_iff_not];exact fun e => h (strOf_inj e)
theorem at_neq (w : World) (x1 y1 x2 y2 : ByteArray) : (binOp .neq 55 (.agg #[.string x1, .string y1]) (.agg #[.string x2, .string y2])).run Tryz.prog w = .ok (.bool (!((x1.toList == x2.toList) && (y1.toList == y2.toList)))) w := by
 have hS : Tryz.prog.underlying 55 = some (.struct (Tryz.prog.fieldsOf 55)) := by kernel_rfl
 have hp : Tryz.prog.stoodInHeld 55 = false := by kernel_rfl
 rw [run_neq_struct, show (10000 : Nat) = 9999 + 1 from rfl, run_equalIn_agg w 9999 55 _ _ hS hp];simp only [Program.fieldsOf, Tryz.underlying55];go_simp
 by_cases h1 : x1.toList = x2.toList <;> by_cases h2 : y1.toList = y2.toList <;> simp [h1, h2]
theorem at_neq_ (w : World) (a b : At) : (binOp .neq 55 (.agg #[.string (strOf a.1), .string (strOf a.2)]) (.agg #[.string (strOf b.1), .string (strOf b.2)])).run Tryz.prog w = .ok (.bool (decide (a ≠ b))) w := by
 rw [at_neq, str_beq, str_beq]
 congr 2
 rw [<- Bool.decide_and, <- decide_not, decide_eq_decide];obtain ⟨a1, a2⟩ := a;obtain ⟨b1, b2⟩ := b;simp only [ne_eq, Prod.mk.injEq];constructor
 ·rintro h ⟨rfl, rfl⟩;exact h ⟨rfl, rfl⟩
 ·rintro h ⟨e1, e2⟩;exact h ⟨strOf_inj e1, strOf_inj e2⟩
theorem Sq.kept_ {α : Type} {El : World -> List Value -> α -> Prop} {k : Nat} {w w' : World} {A : Option Addr} {n c : Nat} {l : List α} (h : Sq El k w A n c l) (hb : Below w.heap.size w w') (hE : ∀ vs x, El w vs x -> El w' vs x) : Sq El k w' A n c l :=
 Sq.stay h (fun ad e hn => by
  obtain ⟨b, off, e2, hbl, _⟩ := h.cell hn;rw [e] at e2;injection e2 with e2;rw [e2]
  exact hb.block b hbl) hE
set_option maxHeartbeats 4000000 in
set_option maxRecDepth 100000 in
theorem rattrs_any (w : World) (A1 A2 : Option Addr) (n1 n2 c1 c2 : Nat) (l1 l2 : List At) (h1 : Sq AtEl 2 w A1 n1 c1 l1) (h2 : Sq AtEl 2 w A2 n2 c2 l2) :
  Calls Tryz.prog 70 #[.slice A1 n1 c1, .slice A2 n2 c2] w fun e w' => (∃ B : Bool, e = .returned (.bool B) /\ (B = true ↔ l1 = l2)) /\ Below w.heap.size w w' := by
 have hl1 := h1.len;have hl2 := h2.len;have hm1 := h1.max;have hle1 := h1.le;replace h1 := Hd h1;replace h2 := Hd h2
 by_cases hn : n1 = n2
 ·subst hn;replace hl1 := Hd hl1;replace hl2 := Hd hl2
  go_enter Tryz.func70, Tryz.ntmps70
  go_wp2_with fail
  go_loopw [5] (fun v5 wr => ∃ i : Nat, i <= n1 /\ v5 = .int .i64 (i : Nat) /\ Hid (l1.take i = l2.take i) /\ Hid (Below w.heap.size w wr)) (fun v5 _ => n1 - (intOf v5).toNat)
  case atStart => exact ⟨0, by omega, rfl, Hd rfl, Hd (Below.refl _ _)⟩
  case round =>
   obtain ⟨i, hi, rfl, hsame, hb⟩ := hrel
   by_cases hlt : i < n1
   ·have i1 : decide ((i : Int) < (n1 : Int)) = true := by simp; omega
    have q1 : (i : Int) < (n1 : Int) := (by omega);obtain ⟨b1, off1, ax, vs1, rfl, _, hx1, _, hv1, hc1⟩ := (h1.out.below AtEl.to hb.out).at_ hlt;obtain ⟨b2, off2, ay, vs2, rfl, _, hx2, _, hv2, hc2⟩ := (h2.out.below AtEl.to hb.out).at_ hlt;unfold AtEl at hv1 hv2;subst hv1;subst hv2;have m0 := hc1 0 _ rfl;have m1 := hc1 1 _ rfl;have m2 := hc2 0 _ rfl;have m3 := hc2 1 _ rfl;rw [Nat.add_zero] at m0 m2;have hbd := Hd (hb.out.trans ((Joins.below_draws wr.heap.size wr 1).mono hb.out.size));have hx1 := Hd hx1;have hx2 := Hd hx2;have hne := at_neq_ wr.drew ax ay;clear hc1 hc2;go_wp2_with fail;refine Pl.wp_region_plan 8 (.take 0 (.take 1 (.take 2 (.take 3 (.take 4 (.take 5 (.take 6 (.take 7 .done)))))))) (fun x => x.cell? ⟨b1, off1 + i * 2, none⟩ = some (.string (strOf ax.1)) /\ x.cell? ⟨b1, off1 + i * 2 + 1, none⟩ = some (.string (strOf ax.2)) /\ x.cell? ⟨b2, off2 + i * 2, none⟩ = some (.string (strOf ay.1)) /\ x.cell? ⟨b2, off2 + i * 2 + 1, none⟩ = some (.string (strOf ay.2))) (by kernel_rfl) (by kernel_rfl) (by exact ⟨m0, m1, m2, m3⟩) ?_;simp only [Pl.fill, Al_4, Al_5, Al_6, Al_7]
    iterate 8
     refine Pl.take_go ?_ (by rfl) (fun _ _ _ h => h) ?_ ?_
     rotate_left
     ·(intro x hSw; (try dsimp only at hSw); go_simp; try with_reducible rfl)
     try simp only [Act.put, Al_1, Al_2, Al_3]
    refine Pl.done_go ?_
    by_cases hxy : ax = ay
    ·have hnext : Hid (l1.take (i + 1) = l2.take (i + 1)) := Hd (by rw [take_snoc hx1.out, take_snoc hx2.out, hsame.out, hxy]);subst hxy;have hd : decide (ax ≠ ax) = false := (by simp);rw [hd] at hne;clear hd;go_wp2_with fail;go_roundw
     case rel => exact ⟨i + 1, by omega, by go_num, hnext, hbd⟩
     case measure => simp [intOf]; omega
    ·have hd : decide (ax ≠ ay) = true := (by simpa using hxy);rw [hd] at hne
     have hno : Hid (l1 ≠ l2) := Hd fun e => by
      rw [e] at hx1;have h3 := hx1.out.symm.trans hx2.out;injection h3 with h3;exact hxy h3
     by_cases e1 : ax.1 = ay.1
     ·have e2 : ax.2 ≠ ay.2 := fun e => hxy (Prod.ext e1 e)
      have f1 : (strOf ax.1).toList = (strOf ay.1).toList := by rw [e1]
      have f2 : ¬ (strOf ax.2).toList = (strOf ay.2).toList := by
       have := str_ne e2
       simpa using this
      clear hd hxy e1 e2;go_wp2_with fail
      (try simp only [Exit.inBlock, Exit.then])
      go_ret;exact ⟨⟨false, rfl, by simpa using hno.out⟩, hbd.out⟩
     ·have f1 : ¬ (strOf ax.1).toList = (strOf ay.1).toList := by
       have := str_ne e1
       simpa using this
      clear hd hxy e1;go_wp2_with fail
      (try simp only [Exit.inBlock, Exit.then])
      go_ret;exact ⟨⟨false, rfl, by simpa using hno.out⟩, hbd.out⟩
   ·have i1 : decide ((i : Int) < (n1 : Int)) = false := by simp; omega
    have hyes : Hid (l1 = l2) := Hd (by
     have h3 := hsame.out
     rwa [List.take_of_length_le (by rw [hl1.out]; omega), List.take_of_length_le (by rw [hl2.out]; omega)] at h3)
    go_wp2_with fail
    (try simp only [Exit.inBlock, Exit.then])
    go_ret;exact ⟨⟨true, rfl, by simpa using hyes.out⟩, hb.out⟩
 ·have d1 : ((n1 : Int) != (n2 : Int)) = true := bne_iff_ne.2 (fun e => hn (by omega));have hno : Hid (l1 ≠ l2) := Hd fun e => hn (by rw [<- hl1, <- hl2, e])
  clear hl1 hl2
  go_enter Tryz.func70, Tryz.ntmps70
  go_wp2_with fail;go_ret;exact ⟨⟨false, rfl, by simpa using hno.out⟩, Below.refl _ _⟩
set_option maxHeartbeats 8000000 in
set_option maxRecDepth 100000 in
theorem rsame_any : ∀ (k : Nat) (X Y : Nat -> Prop) (w : World) (vs us : List Value) (n m : Nd), SizeOf.sizeOf n <= k -> NdI X w vs n -> NdI Y w us m -> (∀ j, X j -> j < w.heap.size) -> (∀ j, Y j -> j < w.heap.size) →
  Calls Tryz.prog 37 #[.agg vs.toArray, .agg us.toArray] w fun e w' => (∃ B : Bool, e = .returned (.bool B) /\ (B = true ↔ n = m)) /\ Below w.heap.size w w' := by
 intro k
 induction k with
 | zero =>
  intro X Y w vs us n m hk;obtain ⟨kd, nm, tx, as_, ks⟩ := n;simp at hk
 | succ k ih =>
  intro X Y w vs us n m hk hn hm hX hY;obtain ⟨kd, nm, tx, as_, ks⟩ := n;obtain ⟨kd', nm', tx', as', ks'⟩ := m;obtain ⟨A, ca, A2, c2, rfl, hA, hK, -, -⟩ := hn.cells;obtain ⟨B, cb, B2, d2, rfl, hA', hK', -, -⟩ := hm.cells;have hba := below_alloc w (.cells #[.int .i64 kd, .string (strOf nm), .string (strOf tx), .slice A as_.length ca, .slice A2 ks.length c2] 25);have hnb := heap_alloc_new w (.cells #[.int .i64 kd, .string (strOf nm), .string (strOf tx), .slice A as_.length ca, .slice A2 ks.length c2] 25);obtain ⟨T, hT⟩ : ∃ T, w.heap.size = T := ⟨_, rfl⟩;obtain ⟨w1, hw1⟩ : ∃ w1, w.alloc (.cells #[.int .i64 kd, .string (strOf nm), .string (strOf tx), .slice A as_.length ca, .slice A2 ks.length c2] 25) = w1 := ⟨_, rfl⟩;rw [hw1] at hba hnb;rw [hT] at hnb;have hbb := below_alloc w1 (.cells #[.int .i64 kd', .string (strOf nm'), .string (strOf tx'), .slice B as'.length cb, .slice B2 ks'.length d2] 25);have hnc := heap_alloc_new w1 (.cells #[.int .i64 kd', .string (strOf nm'), .string (strOf tx'), .slice B as'.length cb, .slice B2 ks'.length d2] 25);obtain ⟨U, hU⟩ : ∃ U, w1.heap.size = U := ⟨_, rfl⟩;obtain ⟨w2, hw2⟩ : ∃ w2, w1.alloc (.cells #[.int .i64 kd', .string (strOf nm'), .string (strOf tx'), .slice B as'.length cb, .slice B2 ks'.length d2] 25) = w2 := ⟨_, rfl⟩;rw [hw2] at hbb hnc;rw [hU] at hnc;have hb02 := hba.trans (hbb.mono hba.size);have hnb2 := (hbb.block T (Array.getElem?_eq_some_iff.1 hnb).1).trans hnb;have x0 : w2.cell? ⟨T, 0, none⟩ = some (.int .i64 kd) := cell_blk hnb2 rfl;have x1 : w2.cell? ⟨T, 1, none⟩ = some (.string (strOf nm)) := cell_blk hnb2 rfl;have x2 : w2.cell? ⟨T, 2, none⟩ = some (.string (strOf tx)) := cell_blk hnb2 rfl;have x3 : w2.cell? ⟨T, 3, none⟩ = some (.slice A as_.length ca) := cell_blk hnb2 rfl
  have x4 : w2.cell? ⟨T, 4, none⟩ = some (.slice A2 ks.length c2) := cell_blk hnb2 rfl;have y0 : w2.cell? ⟨U, 0, none⟩ = some (.int .i64 kd') := cell_blk hnc rfl;have y1 : w2.cell? ⟨U, 1, none⟩ = some (.string (strOf nm')) := cell_blk hnc rfl;have y2 : w2.cell? ⟨U, 2, none⟩ = some (.string (strOf tx')) := cell_blk hnc rfl;have y3 : w2.cell? ⟨U, 3, none⟩ = some (.slice B as'.length cb) := cell_blk hnc rfl;have y4 : w2.cell? ⟨U, 4, none⟩ = some (.slice B2 ks'.length d2) := cell_blk hnc rfl
  have hkid : Hid (∀ i x, ks[i]? = some x -> SizeOf.sizeOf x <= k) := Hd fun i x hx => by
   have := kid_lt (k := kd) (nm := nm) (tx := tx) (as_ := as_) hx;omega
  have hATT := Hd (rattrs_any w2 A B as_.length as'.length ca cb as_ as' (hA.below AtEl.to hb02) (hA'.below AtEl.to hb02));replace ih := Hd ih;replace hK := Hd hK;replace hK' := Hd hK';replace hX := Hd hX;replace hY := Hd hY;replace hb02 := Hd hb02;have hTl := Hd hnb2;have hUl := Hd hnc;clear hba hbb hnb hnc hnb2 hA hA' hn hm hk;obtain ⟨S1, hS1⟩ : ∃ S, strOf nm = S := ⟨_, rfl⟩;obtain ⟨S2, hS2⟩ : ∃ S, strOf nm' = S := ⟨_, rfl⟩;obtain ⟨S3, hS3⟩ : ∃ S, strOf tx = S := ⟨_, rfl⟩;obtain ⟨S4, hS4⟩ : ∃ S, strOf tx' = S := ⟨_, rfl⟩;rw [hS1] at x1;rw [hS2] at y1;rw [hS3] at x2;rw [hS4] at y2
  have t1 : (S1.toList == S2.toList) = decide (nm = nm') := by
   rw [str_beq, <- hS1, <- hS2, decide_eq_decide];exact ⟨strOf_inj, fun e => by rw [e]⟩
  have t2 : (S3.toList == S4.toList) = decide (tx = tx') := by
   rw [str_beq, <- hS3, <- hS4, decide_eq_decide];exact ⟨strOf_inj, fun e => by rw [e]⟩
  clear hS1 hS2 hS3 hS4;obtain ⟨n1, hn1⟩ : ∃ n1, ks.length = n1 := ⟨_, rfl⟩;obtain ⟨n2, hn2⟩ : ∃ n2, ks'.length = n2 := ⟨_, rfl⟩;rw [hn1] at x4 hK;rw [hn2] at y4 hK';have hK1 := hK.out.max;have hK2 := hK.out.le;replace hn1 := Hd hn1;replace hn2 := Hd hn2
  by_cases e0 : kd = kd'
  ·subst e0;have k0 : (kd != kd) = false := by simp
   by_cases e1 : nm = nm'
   ·subst e1;have k1 : (S1.toList == S2.toList) = true := by rw [t1]; simp
    by_cases e2 : tx = tx'
    ·subst e2;have k2 : (S3.toList == S4.toList) = true := by rw [t2]; simp
     clear t1 t2
     go_enter Tryz.func37, Tryz.ntmps37
     go_wp2_with fail;refine hATT.out.mono ?_;rintro e w3 ⟨⟨BA, rfl, hBA⟩, hb3⟩
     by_cases e3 : as_ = as'
     ·subst e3;have hBt : BA = true := hBA.2 rfl;subst hBt;have x4 := cell_keep x4 hb3;have y4 := cell_keep y4 hb3;have hTl3 := Hd ((hb3.block T (Array.getElem?_eq_some_iff.1 hTl.out).1).trans hTl.out);have hUl3 := Hd ((hb3.block U (Array.getElem?_eq_some_iff.1 hUl.out).1).trans hUl.out);have hb03 := Hd (hb02.out.trans (hb3.mono hb02.out.size));clear hb3 hBA
      by_cases e4 : n1 = n2
      ·subst e4;have k4 : ((n1 : Int) != (n1 : Int)) = false := (by simp);go_wp2_with fail
       go_loopw [5] (fun v5 wr => ∃ i : Nat, i <= n1 /\ v5 = .int .i64 (i : Nat) /\ Hid (ks.take i = ks'.take i) /\ Hid (Below w3.heap.size w3 wr)) (fun v5 _ => n1 - (intOf v5).toNat)
       case atStart => exact ⟨0, Nat.zero_le _, rfl, Hd rfl, Hd (Below.refl _ _)⟩
       case round =>
        obtain ⟨i, hi, rfl, hsame, hb⟩ := hrel;have hb0r := Hd (hb03.out.trans (hb.out.mono hb03.out.size));have z4 := cell_keep x4 hb.out;have z5 := cell_keep y4 hb.out
        by_cases hlt : i < n1
        ·have i1 : decide ((i : Int) < (n1 : Int)) = true := by simp; omega
         have q1 : (i : Int) < (n1 : Int) := (by omega);have hKr := Sq.kept_ hK.out hb0r.out (fun vs x h => NdI.later h hX.out hb0r.out);have hKr' := Sq.kept_ hK'.out hb0r.out (fun vs x h => NdI.later h hY.out hb0r.out);obtain ⟨b1, off1, x, vs1, rfl, _, hx1, _, hv1, hc1⟩ := hKr.at_ hlt;obtain ⟨b2, off2, y, vs2, rfl, _, hx2, _, hv2, hc2⟩ := hKr'.at_ hlt;have hszx := hkid.out i x hx1;obtain ⟨xk, xn, xt, xa, xs⟩ := x;obtain ⟨yk, yn, yt, ya, ys⟩ := y;obtain ⟨Ax, cax, A2x, c2x, rfl, -⟩ := hv1.cells;obtain ⟨Bx, cbx, B2x, d2x, rfl, -⟩ := hv2.cells;have m0 := hc1 0 _ rfl;have m1 := hc1 1 _ rfl;have m2 := hc1 2 _ rfl;have m3 := hc1 3 _ rfl;have m4 := hc1 4 _ rfl;have p0 := hc2 0 _ rfl;have p1 := hc2 1 _ rfl;have p2 := hc2 2 _ rfl;have p3 := hc2 3 _ rfl;have p4 := hc2 4 _ rfl;rw [Nat.add_zero] at m0 p0;have hdr := Joins.below_draws wr.heap.size wr 1;have hX1 : ∀ j, X j -> j < wr.heap.size := fun j hj => Nat.lt_of_lt_of_le (hX.out j hj) hb0r.out.size
         have hY1 : ∀ j, Y j -> j < wr.heap.size := fun j hj => Nat.lt_of_lt_of_le (hY.out j hj) hb0r.out.size
         have hrec := Hd (ih.out X Y wr.drew _ _ _ _ hszx (NdI.later hv1 hX1 hdr) (NdI.later hv2 hY1 hdr) (fun j hj => Nat.lt_of_lt_of_le (hX1 j hj) hdr.size) (fun j hj => Nat.lt_of_lt_of_le (hY1 j hj) hdr.size));have hbd := Hd (hb.out.trans (hdr.mono hb.out.size));replace hx1 := Hd hx1;replace hx2 := Hd hx2;clear hKr hKr' hv1 hv2 hc1 hc2 hdr hX1 hY1 hszx;go_wp2_with fail;refine Pl.wp_region_plan 10 (.take 0 (.take 1 (.take 2 (.take 3 (.take 4 (.take 5 (.take 6 (.take 7 (.take 8 (.take 9 .done)))))))))) (fun x => x.cell? ⟨T, 4, none⟩ = some (.slice (some ⟨b1, off1, none⟩) n1 c2) /\ x.cell? ⟨U, 4, none⟩ = some (.slice (some ⟨b2, off2, none⟩) n1 d2) /\ x.cell? ⟨b1, off1 + i * 5, none⟩ = some (.int .i64 xk) /\ x.cell? ⟨b1, off1 + i * 5 + 1, none⟩ = some (.string (strOf xn)) /\ x.cell? ⟨b1, off1 + i * 5 + 2, none⟩ = some (.string (strOf xt)) /\ x.cell? ⟨b1, off1 + i * 5 + 3, none⟩ = some (.slice Ax xa.length cax) /\ x.cell? ⟨b1, off1 + i * 5 + 4, none⟩ = some (.slice A2x xs.length c2x) /\ x.cell? ⟨b2, off2 + i * 5, none⟩ = some (.int .i64 yk) /\ x.cell? ⟨b2, off2 + i * 5 + 1, none⟩ = some (.string (strOf yn)) /\ x.cell? ⟨b2, off2 + i * 5 + 2, none⟩ = some (.string (strOf yt)) /\ x.cell? ⟨b2, off2 + i * 5 + 3, none⟩ = some (.slice Bx ya.length cbx) /\ x.cell? ⟨b2, off2 + i * 5 + 4, none⟩ = some (.slice B2x ys.length d2x)) (by kernel_rfl) (by kernel_rfl) (by exact ⟨z4, z5, m0, m1, m2, m3, m4, p0, p1, p2, p3, p4⟩) ?_;simp only [Pl.fill, Al_4, Al_5, Al_6, Al_7]
         iterate 10
          refine Pl.take_go ?_ (by rfl) (fun _ _ _ h => h) ?_ ?_
          rotate_left
          ·(intro x hSw; (try dsimp only at hSw); go_simp; try with_reducible rfl)
          try simp only [Act.put, Al_1, Al_2, Al_3]
         refine Pl.done_go ?_;go_wp2_with fail;refine hrec.out.mono ?_;rintro e w5 ⟨⟨BB, rfl, hBB⟩, hb5⟩;have hw5 := Hd (hbd.out.trans (hb5.mono hbd.out.size));have hw05 := Hd (hb03.out.trans (hw5.out.mono hb03.out.size));clear hb5 m0 m1 m2 m3 m4 p0 p1 p2 p3 p4
         cases BB with
         | true =>
          have hxy := hBB.1 rfl;have hnext : Hid (ks.take (i + 1) = ks'.take (i + 1)) := Hd (by rw [take_snoc hx1.out, take_snoc hx2.out, hsame.out, hxy]);clear hBB hxy;go_wp2_with fail;go_roundw
          case rel => exact ⟨i + 1, by omega, by go_num, hnext, hw5⟩
          case measure => simp [intOf]; omega
         | false =>
          have hno : Hid (Nd.mk kd nm tx as_ ks ≠ Nd.mk kd nm tx as_ ks') := Hd fun e => by
           injection e with _ _ _ _ e;rw [e] at hx1;have h3 := hx1.out.symm.trans hx2.out;injection h3 with h3;exact absurd (hBB.2 h3) (by decide)
          clear hBB;go_wp2_with fail
          (try simp only [Exit.inBlock, Exit.then])
          go_ret;exact ⟨⟨false, rfl, by simpa using hno.out⟩, hw05.out⟩
        ·have i1 : decide ((i : Int) < (n1 : Int)) = false := by simp; omega
         have hyes : Hid (ks = ks') := Hd (by
          have h3 := hsame.out
          rwa [List.take_of_length_le (by rw [hn1.out]; omega), List.take_of_length_le (by rw [hn2.out]; omega)] at h3)
         go_wp2_with fail
         (try simp only [Exit.inBlock, Exit.then])
         go_ret;exact ⟨⟨true, rfl, by simpa using hyes.out⟩, hb0r.out⟩
      ·have k4 : ((n1 : Int) != (n2 : Int)) = true := bne_iff_ne.2 (fun e => e4 (by omega))
       have hno : Hid (Nd.mk kd nm tx as_ ks ≠ Nd.mk kd nm tx as_ ks') := Hd fun e => by
        injection e with _ _ _ _ e;exact e4 (by rw [<- hn1.out, <- hn2.out, e])
       go_wp2_with fail;go_ret;exact ⟨⟨false, rfl, by simpa using hno.out⟩, hb03.out⟩
     ·have hBf : BA = false := by
       cases BA with
       | false => rfl
       | true => exact absurd (hBA.1 rfl) e3
      subst hBf
      have hno : Hid (Nd.mk kd nm tx as_ ks ≠ Nd.mk kd nm tx as' ks') := Hd fun e => by
       injection e with _ _ _ e _;exact e3 e
      have hb03 := Hd (hb02.out.trans (hb3.mono hb02.out.size));clear hb3 hBA;go_wp2_with fail;go_ret;exact ⟨⟨false, rfl, by simpa using hno.out⟩, hb03.out⟩
    ·have k2 : (S3.toList == S4.toList) = false := by rw [t2]; simpa using e2
     have hno : Hid (Nd.mk kd nm tx as_ ks ≠ Nd.mk kd nm tx' as' ks') := Hd fun e => by
      injection e with _ _ e _ _;exact e2 e
     clear t1 t2
     go_enter Tryz.func37, Tryz.ntmps37
     go_wp2_with fail;go_ret;exact ⟨⟨false, rfl, by simpa using hno.out⟩, hb02.out⟩
   ·have k1 : (S1.toList == S2.toList) = false := by rw [t1]; simpa using e1
    have hno : Hid (Nd.mk kd nm tx as_ ks ≠ Nd.mk kd nm' tx' as' ks') := Hd fun e => by
     injection e with _ e _ _ _;exact e1 e
    clear t1 t2
    go_enter Tryz.func37, Tryz.ntmps37
    go_wp2_with fail;go_ret;exact ⟨⟨false, rfl, by simpa using hno.out⟩, hb02.out⟩
  ·have k0 : (kd != kd') = true := by simpa using e0
   have hno : Hid (Nd.mk kd nm tx as_ ks ≠ Nd.mk kd' nm' tx' as' ks') := Hd fun e => by
    injection e with e _ _ _ _;exact e0 e
   clear t1 t2
   go_enter Tryz.func37, Tryz.ntmps37
   go_wp2_with fail;go_ret;exact ⟨⟨false, rfl, by simpa using hno.out⟩, hb02.out⟩
end Go.Proofs.YtokdnhdfmgfkeaaGreatDoor.Xt
end

section
namespace Go.Proofs.YtokdnhdfmgfkeaaGreatDoor.Xt
open Go.RowKit UtfW Xl
end Go.Proofs.YtokdnhdfmgfkeaaGreatDoor.Xt
end

section
namespace Go.Proofs.YtokdnhdfmgfkeaaGreatDoor
open Go.RowKit Go.ChangeShapes
def Ss (w : World) (A : Option Addr) (n c : Nat) (ss : List ByteArray) : Prop := Rd w A n c (ss.map Value.string)
section
variable {w w' : World} {A : Option Addr} {n c : Nat} {ss : List ByteArray}
theorem Ss.len (h : Ss w A n c ss) : ss.length = n := by simpa using Rd.len h
theorem Ss.at_ {k : Nat} (h : Ss w A n c ss) (hk : k < n) :
  ∃ b off s, A = some ⟨b, off, none⟩ /\ b < w.heap.size /\ ss[k]? = some s /\ w.cell? ⟨b, off + k, none⟩ = some (.string s) := by
 obtain ⟨b, off, u, e, hb, hx, hc⟩ := Rd.at_ h hk;rw [List.getElem?_map, Option.map_eq_some_iff] at hx;obtain ⟨s, hs, rfl⟩ := hx;exact ⟨b, off, s, e, hb, hs, hc⟩
end
section
variable {H : Type} {enc : TypeId × Value -> H} {P : Program} {w : World} {t e : TypeId}
theorem Sized.string {s : ByteArray} (h : Sized P t (DataW.lit (H := H) (.string s.data.toList))) : s.size <= 140737488351232 := h s.size (by
 show s.size ∈ [s.data.toList.length]
 rw [Array.length_toList]
 exact List.mem_singleton.2 rfl)
end
end Go.Proofs.YtokdnhdfmgfkeaaGreatDoor
end
