/- The law XoutParsed. Printed by xp_lawp.py. -/
import Derived.Test.YtokdnhdfmgfkeaaGreatDoorMXoSize
import Derived.Test.YtokdnhdfmgfkeaaGreatDoorMXlRname
import Derived.Test.YtokdnhdfmgfkeaaGreatDoorMXnTok
import Derived.Test.YtokdnhdfmgfkeaaGreatDoorMXlValues
import Derived.Test.YtokdnhdfmgfkeaaGreatDoorMUtfEnc
import Derived.Deep.MidRow
import Derived.Test.YtokdnhdfmgfkeaaGreatDoorMXpDoc
import Derived.Test.YtokdnhdfmgfkeaaGreatDoorMErrWalk2
import Derived.Test.YtokdnhdfmgfkeaaGreatDoorMXtForest
section
namespace Go.Proofs.YtokdnhdfmgfkeaaGreatDoor.Xt
open Go.RowKit UtfW Xl Xo

theorem Sm.endT {s : St} {N : Nat} (h : Sm s N) : Sm (Xt.endT s) (N + 2) := by
  have h1 := h.flush
  unfold Xt.endT
  simp only
  split
  · rename_i f F ho
    have h2 : Sm { Xt.flush s with opn := F } (N + 1) := ⟨h1.bef, h1.aft, fun g hg => h1.kid g (by rw [ho]; exact List.mem_cons_of_mem _ hg)⟩
    exact h2.put _
  · exact h1.mono (by omega)
theorem Sm.startT {s s' : St} {t : Xl.Tok} {N : Nat} (h : Sm s N) (hs : startT s t = .ok s') : Sm s' (N + 1) := by
  unfold Xt.startT at hs
  split at hs
  · cases hs
  · split at hs
    · cases hs
    · split at hs
      · cases hs
      · injection hs with hs
        have hf : Sm (Xt.flush { s with nodes := s.nodes + (1 + t.attrs.length) }) (N + 1) := Sm.flush ⟨h.bef, h.aft, h.kid⟩
        subst hs
        refine ⟨hf.bef, hf.aft, fun g hg => ?_⟩
        rcases List.mem_cons.1 hg with rfl | hg
        · exact Nat.zero_le _
        · exact hf.kid g hg
theorem Sm.stepT {s s' : St} {t : Xl.Tok} {N : Nat} (h : Sm s N) (hs : Xt.stepT s t = .ok s') : Sm s' (N + 3) := by
  unfold Xt.stepT at hs
  split at hs
  · exact (h.startT hs).mono (by omega)
  · split at hs
    · cases h1 : Xt.startT s t with
      | error e => rw [h1] at hs; cases hs
      | ok s1 =>
        rw [h1] at hs
        injection hs with hs
        rw [← hs]
        exact (h.startT h1).endT
    · split at hs
      · split at hs
        · cases hs
        · split at hs
          · injection hs with hs
            rw [← hs]
            exact h.endT.mono (by omega)
          · cases hs
      · have other : ∀ k : Int, otherT s t k = .ok s' → Sm s' (N + 3) := fun k hs => by
          unfold otherT at hs
          split at hs
          · cases hs
          · injection hs with hs
            have hf : Sm (Xt.flush { s with nodes := s.nodes + 1 }) (N + 1) := Sm.flush ⟨h.bef, h.aft, h.kid⟩
            rw [← hs]
            exact (hf.put _).mono (by omega)
        split at hs
        · exact other 3 hs
        · split at hs
          · exact other 4 hs
          · unfold charsT at hs
            split at hs
            · split at hs
              · cases hs
              · injection hs with hs
                rw [← hs]
                exact h.mono (by omega)
            · split at hs
              · split at hs
                · cases hs
                · injection hs with hs
                  rw [← hs]
                  exact ⟨Nat.le_add_right_of_le h.bef, Nat.le_add_right_of_le h.aft, fun f hf => Nat.le_add_right_of_le (h.kid f hf)⟩
              · injection hs with hs
                rw [← hs]
                exact ⟨Nat.le_add_right_of_le h.bef, Nat.le_add_right_of_le h.aft, fun f hf => Nat.le_add_right_of_le (h.kid f hf)⟩
theorem Sm.start_ : Sm .start 0 := ⟨Nat.le_refl _, Nat.le_refl _, fun f hf => by cases hf⟩
theorem esc_ge (v : Bool) : ∀ s : Tx, s.length ≤ (esc v s).length
  | [] => Nat.le_refl _
  | c :: s => by
    have h1 := esc_ge v s
    rw [esc, List.length_append, List.length_cons]
    have h2 : 1 ≤ (esc1 v c).length := by
      rcases esc1_cases v c with ⟨e, _⟩ | ⟨e, he, _⟩
      · rw [e]; simp
      · rw [he]; simp
    omega
theorem text_phi (s : St) : s.text.length ≤ phi s := by
  have := esc_ge false s.text
  unfold phi
  omega
theorem runF_many : ∀ (f : Nat) {r : Tx} {k p : Nat} {ts us : List Xl.Tok}, Xl.runF f r k ts = (0, p, us) → us.length ≤ ts.length + r.length
  | 0, r, k, p, ts, us, h => by
    injection h with _ h
    injection h with _ h
    rw [← h]
    omega
  | f + 1, r, k, p, ts, us, h => by
    rw [Xl.runF] at h
    split at h
    · injection h with _ h
      injection h with _ h
      rw [← h]
      omega
    · rename_i hne
      cases ht : Xl.token r with
      | bad c o =>
        rw [ht] at h
        injection h with h1 h
        injection h with h2 h
        rw [← h]
        simp
      | ok t n =>
        rw [ht] at h
        obtain ⟨g1, g2⟩ := Xl.token_len ht hne
        have g3 := runF_many f h
        rw [List.length_append, List.length_drop] at g3
        simp at g3
        omega
theorem all_many {S : Tx} {ts : List Xl.Tok} {p : Nat} (h : Xl.allF S = (0, p, ts)) : ts.length ≤ S.length ∧ S.length ≤ 65536 := by
  unfold Xl.allF at h
  split at h
  · injection h with h _
    exact absurd h (by decide)
  · split at h
    · injection h with h _
      exact absurd h (by decide)
    · cases hd : decl S with
      | bad c o =>
        rw [hd] at h
        injection h with h1 h
        injection h with h2 h
        rw [← h]
        exact ⟨Nat.zero_le _, by omega⟩
      | ok u n =>
        rw [hd] at h
        have := runF_many _ h
        rw [List.length_drop] at this
        simp at this
        omega

/-! ### Parse -/
def parseF (S : Tx) : Int × Nat × Doc := if (Xl.allF S).1 ≠ 0 then ((Xl.allF S).1, (Xl.allF S).2.1, noDoc) else parseT S.length (Xl.allF S).2.2
theorem runT_snoc : ∀ {a : List Xl.Tok} {s0 s : St} (t : Xl.Tok) (l : List Xl.Tok), Xt.runT a s0 = .ok s → Xt.runT (a ++ t :: l) s0 = match Xt.stepT s t with
    | .error e => .error (e, t.at_)
    | .ok s' => Xt.runT l s'
  | [], s0, s, t, l, h => by
    injection h with h
    subst h
    rw [List.nil_append, Xt.runT]
    cases Xt.stepT s0 t <;> rfl
  | x :: a, s0, s, t, l, h => by
    rw [Xt.runT] at h
    rw [List.cons_append, Xt.runT]
    cases hx : Xt.stepT s0 x with
    | error e => rw [hx] at h; cases h
    | ok s1 =>
      rw [hx] at h
      exact runT_snoc t l h
theorem runT_take {ts : List Xl.Tok} {i : Nat} {t : Xl.Tok} {s s' : St} (hi : ts[i]? = some t) (h : Xt.runT (ts.take i) .start = .ok s) (hs : Xt.stepT s t = .ok s') : Xt.runT (ts.take (i + 1)) .start = .ok s' := by
  rw [take_snoc hi, runT_snoc t [] h, hs]
  rfl
theorem runT_bad {ts : List Xl.Tok} {i : Nat} {t : Xl.Tok} {s : St} {e : Int} (hi : ts[i]? = some t) (h : Xt.runT (ts.take i) .start = .ok s) (hs : Xt.stepT s t = .error e) : Xt.runT ts .start = .error (e, t.at_) := by
  have hl : ts = ts.take i ++ t :: ts.drop (i + 1) := by
    have hlt := (List.getElem?_eq_some_iff.1 hi).1
    have he : ts[i] = t := (List.getElem?_eq_some_iff.1 hi).2
    rw [← he, List.getElem_cons_drop, List.take_append_drop]
  rw [hl, runT_snoc t _ h, hs]
structure Run (S : Tx) (ts : List Xl.Tok) (i : Nat) (s : St) : Prop where
  run : Xt.runT (ts.take i) .start = .ok s
  inv : Inv s
  sm : Sm s (3 * i)
  phi : phi s ≤ costs (ts.take i)
theorem run_0 (S : Tx) (ts : List Xl.Tok) : Run S ts 0 .start := ⟨rfl, inv_start, Sm.start_, by rw [phi_0]; exact Nat.zero_le _⟩
theorem costs_take : ∀ (ts : List Xl.Tok) (i : Nat), costs (ts.take i) ≤ costs ts
  | [], i => by simp
  | t :: l, 0 => by simp [costs]
  | t :: l, i + 1 => by
    rw [List.take_succ_cons, costs, costs]
    have := costs_take l i
    omega
theorem Run.next {S : Tx} {ts : List Xl.Tok} {i : Nat} {s s' : St} {t : Xl.Tok} (h : Run S ts i s) (hi : ts[i]? = some t) (hP : TokP t) (hs : Xt.stepT s t = .ok s') : Run S ts (i + 1) s' := by
  refine ⟨runT_take hi h.run hs, h.inv.stepT hP.2.2 hs, h.sm.stepT hs, ?_⟩
  have := phi_step hP.1 hs
  have h2 := h.phi
  rw [take_snoc hi, costs_snoc]
  omega
end Go.Proofs.YtokdnhdfmgfkeaaGreatDoor.Xt
end

section
namespace Go.Proofs.YtokdnhdfmgfkeaaGreatDoor.Xl
open Go.RowKit UtfW Er

end Go.Proofs.YtokdnhdfmgfkeaaGreatDoor.Xl
end

section
namespace Go.Proofs.YtokdnhdfmgfkeaaGreatDoor.Xl
open Go.RowKit UtfW Er

theorem cell_keep {w x : World} {b i : Nat} {v : Value} (h : w.cell? ⟨b, i, none⟩ = some v) (hb : Below w.heap.size w x) : x.cell? ⟨b, i, none⟩ = some v := by
  have hlt : b < w.heap.size := by
    refine Nat.lt_of_not_le fun hn => ?_
    simp [World.cell?, Array.getElem?_eq_none hn] at h
  have e := hb.block b hlt
  simp only [World.cell?] at h ⊢
  rw [e]
  exact h
section
variable (w : World) (S : Tx) (n : Int)
end
end Go.Proofs.YtokdnhdfmgfkeaaGreatDoor.Xl
end

section
namespace Go.Proofs.YtokdnhdfmgfkeaaGreatDoor.Xt
open Go.RowKit UtfW Xl Xo

def DocI (X : Nat → Prop) (w : World) (v : Value) (d : Doc) : Prop := ∃ A1 c1 r0 r1 r2 r3 r4 A2 c2, v = .agg #[.slice A1 d.before.length c1, r0, r1, r2, r3, r4, .slice A2 d.after.length c2] ∧
  Sq (NdE X) 5 w A1 d.before.length c1 d.before ∧ (∀ a, A1 = some a → 0 < d.before.length → X a.block) ∧ NdI X w [r0, r1, r2, r3, r4] d.root ∧ Sq (NdE X) 5 w A2 d.after.length c2 d.after ∧ ∀ a, A2 = some a → 0 < d.after.length → X a.block
def zeroDoc : Value := .agg #[.slice none 0 0, .int .i64 0, .string ⟨#[]⟩, .string ⟨#[]⟩, .slice none 0 0, .slice none 0 0, .slice none 0 0]
theorem DocI.zero (X : Nat → Prop) (w : World) : DocI X w zeroDoc noDoc :=
  ⟨none, 0, _, _, _, _, _, none, 0, rfl, Sq.none_ w, fun a e => (by cases e), zero_nd X w, Sq.none_ w, fun a e => (by cases e)⟩
def ParP (S : Tx) (w : World) (e : Ending) (w' : World) : Prop := Below w.heap.size w w' ∧ ∃ vd ev, e = .returned (.tuple #[vd, ev]) ∧
  (((parseF S).1 = 0 ∧ ev = .nilIface ∧ DocI (fun k => w.heap.size ≤ k ∧ k < w'.heap.size) w' vd (parseF S).2.2) ∨ ((parseF S).1 ≠ 0 ∧ (parseF S).2.2 = noDoc ∧ vd = zeroDoc ∧ Er.Fe w' w'.heap.size (parseF S).1 ((parseF S).2.1 : Nat) [xmlB] ev))
theorem setCell_same {w : World} {b i : Nat} {cs : Array Value} {E : TypeId} {fr : Nat × Nat} {v : Value} (h : w.heap[b]? = some (.cells cs E fr)) (hi : cs[i]? = some v) : w.setCell ⟨b, i, none⟩ v = w := by
  have hh : (w.setCell ⟨b, i, none⟩ v).heap = w.heap := by
    unfold World.setCell
    simp only
    apply Array.ext_getElem?
    intro j
    rw [Array.getElem?_modify]
    by_cases hj : b = j
    · subst hj
      rw [if_pos rfl, h]
      simp only [Option.map_some, Option.some.injEq, Obj.cells.injEq, and_true]
      apply Array.ext_getElem?
      intro k
      rw [if_neg (by simp), Array.getElem?_setIfInBounds]
      by_cases hk : i = k
      · subst hk
        have := (Array.getElem?_eq_some_iff.1 hi).1
        rw [if_pos rfl, if_pos this, hi]
      · rw [if_neg hk]
    · rw [if_neg hj]
  obtain ⟨a1, a2, a3, a4⟩ := w
  unfold World.setCell at hh ⊢
  simp only at hh
  rw [hh]
theorem doc_same {w : World} {D : Nat} (h : w.heap[D]? = some (.cells #[.slice none 0 0, .int .i64 0, .string ⟨#[]⟩, .string ⟨#[]⟩, .slice none 0 0, .slice none 0 0, .slice none 0 0] 27)) :
    w.setCell ⟨D, 0, none⟩ (.slice none 0 0) = w ∧ w.setCell ⟨D, 1, none⟩ (.int .i64 0) = w ∧ w.setCell ⟨D, 2, none⟩ (.string ⟨#[]⟩) = w ∧ w.setCell ⟨D, 3, none⟩ (.string ⟨#[]⟩) = w ∧ w.setCell ⟨D, 4, none⟩ (.slice none 0 0) = w ∧ w.setCell ⟨D, 5, none⟩ (.slice none 0 0) = w ∧ w.setCell ⟨D, 6, none⟩ (.slice none 0 0) = w :=
  ⟨setCell_same h rfl, setCell_same h rfl, setCell_same h rfl, setCell_same h rfl, setCell_same h rfl, setCell_same h rfl, setCell_same h rfl⟩
theorem res_doc {fn : Func} {p u : Tmp} (hf : fn.results = #[.cell p 27, .tmp u]) {tmps : Array Value} {w : World} {D : Nat} {a0 a1 a2 a3 a4 a5 a6 ok : Value}
    (h : w.heap[D]? = some (.cells #[a0, a1, a2, a3, a4, a5, a6] 27)) (hp : tmps.getD p undef = .pointer (some ⟨D, 0, none⟩)) (hu : tmps.getD u undef = ok) :
    (results fn tmps).run Tryz.prog w = .ok (.tuple #[.agg #[a0, a1, a2, a3, a4, a5, a6], ok]) w := by
  rw [results_cell_tmp hf, hp, hu]
  simp [asAddr, Result.andThen, run_loadVar_row w D _ _ _ _ _ h Tryz.underlying27 rfl (by kernel_rfl)]
theorem bs_start (w : World) (lo : Nat) : BsA (fun k => if k = w.heap.size then .bld else .no) ⟨lo, w.heap.size⟩ (w.alloc (.cells #[.slice none 0 0, .int .i64 0, .string ⟨#[]⟩, .string ⟨#[]⟩, .slice none 0 0, .slice none 0 0, .slice none 0 0, .slice none 0 0, .string ⟨#[]⟩, .int .i64 0, .bool false] 85)) w.heap.size .start := by
  have hb := below_alloc w (.cells #[.slice none 0 0, .int .i64 0, .string ⟨#[]⟩, .string ⟨#[]⟩, .slice none 0 0, .slice none 0 0, .slice none 0 0, .slice none 0 0, .string ⟨#[]⟩, .int .i64 0, .bool false] 85)
  refine ⟨.slice none 0 0, .slice none 0 0, .slice none 0 0, [.int .i64 0, .string ⟨#[]⟩, .string ⟨#[]⟩, .slice none 0 0, .slice none 0 0], [], ⟨fun k hk => ?_, hb.size, by simp, fun _ => ⟨OwS.nil _ _ _, fun k hk => (by cases hk)⟩, zero_nd _ _, fun _ => ⟨OwS.nil _ _ _, fun k hk => (by cases hk)⟩, fun _ => ⟨World.ownsRow_nil _ _ _ _, fun k hk => (by cases hk)⟩, rfl, fun i k f _ _ h => (by simp at h)⟩, _, _, _, _, _, rfl, heap_alloc_new w _⟩
  by_cases e : k = w.heap.size
  · subst e
    exact ⟨Nat.le_refl _, by simp⟩
  · simp [e] at hk
theorem Sq.stay2 {α : Type} {El El' : World → List Value → α → Prop} {k : Nat} {w w' : World} {A : Option Addr} {n c : Nat} {l : List α} (h : Sq El k w A n c l) (hX : ∀ a, A = some a → 0 < n → w'.heap[a.block]? = w.heap[a.block]?) (hE : ∀ vs x, El w vs x → El' w' vs x) : Sq El' k w' A n c l :=
  ⟨h.len, h.le, h.max, h.nil, fun hn => by
    obtain ⟨b, off, e, hlt, hc⟩ := h.cell hn
    have hs : w'.heap[b]? = w.heap[b]? := hX ⟨b, off, none⟩ e hn
    refine ⟨b, off, e, ?_, fun i x hi => ?_⟩
    · rw [Array.getElem?_eq_getElem hlt] at hs
      exact (Array.getElem?_eq_some_iff.1 hs).1
    · obtain ⟨vs, h1, h2, h3⟩ := hc i x hi
      exact ⟨vs, h1, hE _ _ h2, fun j v hj => (cell_same hs).trans (h3 j v hj)⟩⟩
theorem doc_fin {ρ : Rol} {P0 : Pp} {w : World} {b : Nat} {s : St} (h : BsA ρ P0 w b s) {lo0 D : Nat} (hD : D < P0.lo) (hlo : lo0 ≤ P0.lo) (hlh : P0.lo ≤ P0.hi) :
    ∃ A1 n1 c1 kd nm tx Ar na cr Ak nk ck A2 n2 c2 C, w.heap[b]? = some (.cells C 85) ∧ C[0]? = some (.slice A1 n1 c1) ∧ C[1]? = some (.int .i64 kd) ∧ C[2]? = some (.string nm) ∧ C[3]? = some (.string tx) ∧ C[4]? = some (.slice Ar na cr) ∧ C[5]? = some (.slice Ak nk ck) ∧ C[6]? = some (.slice A2 n2 c2) ∧
      ∀ w', w.grownBy w' (some D) → DocI (fun k => lo0 ≤ k ∧ k < w'.heap.size) w' (.agg #[.slice A1 n1 c1, .int .i64 kd, .string nm, .string tx, .slice Ar na cr, .slice Ak nk ck, .slice A2 n2 c2]) ⟨s.before, s.root, s.after⟩ := by
  obtain ⟨v1, v2, v3, vr, nb, hR, r0, r1, r2, r3, r4, rfl, hB⟩ := h
  obtain ⟨A1, c1, rfl⟩ := OwS.form (hR.bef id).ow
  obtain ⟨A2, c2, rfl⟩ := OwS.form (hR.aft id).ow
  have hroot : ∃ kd nm tx Ar na cr Ak nk ck, [r0, r1, r2, r3, r4] = [.int .i64 kd, .string nm, .string tx, .slice Ar na cr, .slice Ak nk ck] := by
    have h0 := hR.root
    generalize s.root = R at h0
    obtain ⟨kd, nm, tx, as_, ks⟩ := R
    obtain ⟨Ar, cr, Ak, ck, e, _⟩ := h0.cells
    exact ⟨_, _, _, _, _, _, _, _, _, e⟩
  obtain ⟨kd, nm, tx, Ar, na, cr, Ak, nk, ck, e⟩ := hroot
  have hrt := hR.root
  rw [e] at hrt
  injection e with e0 e
  injection e with e1 e
  injection e with e2 e
  injection e with e3 e
  injection e with e4 e
  subst e0; subst e1; subst e2; subst e3; subst e4
  refine ⟨A1, _, c1, kd, nm, tx, Ar, na, cr, Ak, nk, ck, A2, _, c2, _, hB, rfl, rfl, rfl, rfl, rfl, rfl, rfl, fun w' hg => ?_⟩
  have hst : ∀ vs x, NdI (Fin_ ρ P0) w vs x → NdI (fun k => lo0 ≤ k ∧ k < w'.heap.size) w' vs x := fun vs x hx => hx.stay fun k hk => by
    have hl := fin_mem hR.dom hR.p0 hk
    have hge : P0.lo ≤ k := by
      rcases hk with hk | hk
      · exact hk.1
      · exact Nat.le_trans hlh (hR.dom k (by rw [hk]; exact fun e => by cases e)).1
    exact ⟨⟨Nat.le_trans hlo hge, Nat.lt_of_lt_of_le hl hg.size⟩, hg.block k hl (fun e => by injection e with e; omega)⟩
  have hrow : ∀ {A : Option Addr} {m c : Nat} {l : List Nd} {r : Ro}, OwN 25 ρ P0 w r (.slice A m c) l → l.length = m → Sq (NdE (fun k => lo0 ≤ k ∧ k < w'.heap.size)) 5 w' A m c l ∧ ∀ a, A = some a → 0 < m → lo0 ≤ a.block ∧ a.block < w'.heap.size := fun {A m c l r} ho hl => by
    have hin : ∀ a, A = some a → P0.hi ≤ a.block ∧ a.block < w.heap.size := fun a e => OwS.lt ho.ow a.block (by rw [e]; rfl)
    exact ⟨Sq.stay2 (OwS.sq' ho.ow (by decide)) (fun a e hn => hg.block _ (hin a e).2 (fun e2 => by injection e2 with e2; have := (hin a e).1; omega)) hst, fun a e hn => ⟨Nat.le_trans hlo (Nat.le_trans hlh (hin a e).1), Nat.lt_of_lt_of_le (hin a e).2 hg.size⟩⟩
  obtain ⟨g1, g2⟩ := hrow (hR.bef id) rfl
  obtain ⟨g3, g4⟩ := hrow (hR.aft id) rfl
  exact ⟨A1, c1, _, _, _, _, _, A2, c2, rfl, g1, g2, hst _ _ hrt, g3, g4⟩
abbrev tokW (w : World) (k a n t v : Value) : World := w.alloc (.cells #[k, a, n, t, v] 87)
theorem tokW_below (w : World) (k a n t v : Value) : Below w.heap.size w (tokW w k a n t v) := below_alloc w _
theorem tokW_blk (w : World) (k a : Int) (n t : ByteArray) (v : Value) : (tokW w (.int .i64 k) (.int .i64 a) (.string n) (.string t) v).heap[w.heap.size]? = some (.cells #[.int .i64 k, .int .i64 a, .string n, .string t, v] 87) := heap_alloc_new w _
end Go.Proofs.YtokdnhdfmgfkeaaGreatDoor.Xt
end

section
namespace Go.Proofs.YtokdnhdfmgfkeaaGreatDoor.Xp
open Go.RowKit UtfW Xl Xo Xt

theorem doc_parts {X : Nat → Prop} {w : World} {v : Value} {d : Doc} (h : DocI X w v d) : ∃ A1 n1 c1 kd nm tx Ar n5 cr Ak n6 ck A2 n2 c2, v = .agg #[.slice A1 n1 c1, .int .i64 kd, .string (strOf nm), .string (strOf tx), .slice Ar n5 cr, .slice Ak n6 ck, .slice A2 n2 c2] ∧
    Sq (NdE X) 5 w A1 n1 c1 d.before ∧ (∀ a, A1 = some a → 0 < n1 → X a.block) ∧ NdI X w [.int .i64 kd, .string (strOf nm), .string (strOf tx), .slice Ar n5 cr, .slice Ak n6 ck] d.root ∧ Sq (NdE X) 5 w A2 n2 c2 d.after ∧ (∀ a, A2 = some a → 0 < n2 → X a.block) ∧ kd = d.root.kind := by
  obtain ⟨A1, c1, r0, r1, r2, r3, r4, A2, c2, rfl, h1, h2, h3, h4, h5⟩ := h
  obtain ⟨bf, rt, af⟩ := d
  obtain ⟨kd, nm, tx, as_, ks⟩ := rt
  obtain ⟨Ar, cr, Ak, ck, e, -⟩ := NdI.cells h3
  injection e with e0 e
  injection e with e1 e
  injection e with e2 e
  injection e with e3 e
  injection e with e4 e
  subst e0 e1 e2 e3 e4
  exact ⟨A1, _, c1, kd, nm, tx, Ar, _, cr, Ak, _, ck, A2, _, c2, rfl, h1, h2, h3, h4, h5, rfl⟩
theorem DocI.keep {X : Nat → Prop} {w w' : World} {v : Value} {d : Doc} (h : DocI X w v d) (hs : ∀ k, X k → w'.heap[k]? = w.heap[k]?) : DocI X w' v d := by
  obtain ⟨A1, c1, r0, r1, r2, r3, r4, A2, c2, rfl, h1, h2, h3, h4, h5⟩ := h
  exact ⟨A1, c1, r0, r1, r2, r3, r4, A2, c2, rfl, Sq.stay h1 (fun a e hn => hs _ (h2 a e hn)) (fun vs y hy => NdI.stay hy fun k hk => ⟨hk, hs k hk⟩), h2, NdI.stay h3 (fun k hk => ⟨hk, hs k hk⟩), Sq.stay h4 (fun a e hn => hs _ (h5 a e hn)) (fun vs y hy => NdI.stay hy fun k hk => ⟨hk, hs k hk⟩), h5⟩
set_option maxHeartbeats 4000000 in
set_option maxRecDepth 100000 in
theorem written_any (X : Nat → Prop) (w : World) (v : Value) (d : Doc) (hd : DocI X w v d) (hX : ∀ j, X j → j < w.heap.size) (hlen : (writeD d).length ≤ 100000000000000) :
    Calls Tryz.prog 40 #[v] w fun e w' => e = .returned (.string (strOf (writeD d))) ∧ Below w.heap.size w w' := by
  obtain ⟨A1, n1, c1, kd, nm, tx, Ar, n5, cr, Ak, n6, ck, A2, n2, c2, rfl, h1, h2, h3, h4, h5, -⟩ := doc_parts hd
  have hba := below_alloc w (.cells #[.slice A1 n1 c1, .int .i64 kd, .string (strOf nm), .string (strOf tx), .slice Ar n5 cr, .slice Ak n6 ck, .slice A2 n2 c2] 27)
  have hnb := heap_alloc_new w (.cells #[.slice A1 n1 c1, .int .i64 kd, .string (strOf nm), .string (strOf tx), .slice Ar n5 cr, .slice Ak n6 ck, .slice A2 n2 c2] 27)
  obtain ⟨T, hT⟩ : ∃ T, w.heap.size = T := ⟨_, rfl⟩
  obtain ⟨w1, hw1⟩ : ∃ w1, w.alloc (.cells #[.slice A1 n1 c1, .int .i64 kd, .string (strOf nm), .string (strOf tx), .slice Ar n5 cr, .slice Ak n6 ck, .slice A2 n2 c2] 27) = w1 := ⟨_, rfl⟩
  rw [hw1] at hba hnb
  rw [hT] at hnb
  have y0 := Xp.cell_blk hnb (i := 0) rfl
  have y1 := Xp.cell_blk hnb (i := 1) rfl
  have y2 := Xp.cell_blk hnb (i := 2) rfl
  have y3 := Xp.cell_blk hnb (i := 3) rfl
  have y4 := Xp.cell_blk hnb (i := 4) rfl
  have y5 := Xp.cell_blk hnb (i := 5) rfl
  have y6 := Xp.cell_blk hnb (i := 6) rfl
  have hlow : ∀ x, Below w1.heap.size w1 x → Below w.heap.size w x := fun x hx => hba.trans (hx.mono hba.size)
  have hk : ∀ x, Below w1.heap.size w1 x → ∀ k, X k → x.heap[k]? = w.heap[k]? := fun x hx k hk => (hlow x hx).block k (hX k hk)
  obtain ⟨Z1, hZ1⟩ : ∃ Z, writeL d.before = Z := ⟨_, rfl⟩
  obtain ⟨Z2, hZ2⟩ : ∃ Z, writeN d.root = Z := ⟨_, rfl⟩
  obtain ⟨Z3, hZ3⟩ : ∃ Z, writeL d.after = Z := ⟨_, rfl⟩
  have hl9 : Z1.length + Z2.length + Z3.length ≤ 100000000000000 := by
    unfold writeD at hlen
    rw [hZ1, hZ2, hZ3] at hlen
    simp only [List.length_append] at hlen
    omega
  have hcb := Lib.hid (fun (x : World) (hx : Below w1.heap.size w1 x) => Nodes_any X x A1 n1 c1 d.before (Sq.stay h1 (fun a e hn => hk x hx _ (h2 a e hn)) fun vs y hy => NdI.stay hy fun k h => ⟨h, hk x hx k h⟩) h2 (fun j hj => Nat.lt_of_lt_of_le (hX j hj) (hlow x hx).size) (by rw [hZ1]; omega))
  have hcr := Lib.hid (fun (x : World) (hx : Below w1.heap.size w1 x) => Node_any X x _ d.root (NdI.stay h3 fun k h => ⟨h, hk x hx k h⟩) (fun j hj => Nat.lt_of_lt_of_le (hX j hj) (hlow x hx).size) (by rw [hZ2]; omega))
  have hca := Lib.hid (fun (x : World) (hx : Below w1.heap.size w1 x) => Nodes_any X x A2 n2 c2 d.after (Sq.stay h4 (fun a e hn => hk x hx _ (h5 a e hn)) fun vs y hy => NdI.stay hy fun k h => ⟨h, hk x hx k h⟩) h5 (fun j hj => Nat.lt_of_lt_of_le (hX j hj) (hlow x hx).size) (by rw [hZ3]; omega))
  rw [hZ1] at hcb
  rw [hZ2] at hcr
  rw [hZ3] at hca
  have hres : Hid (strOf (writeD d) = strOf Z1 ++ strOf Z2 ++ strOf Z3) := Lib.hid (by
    unfold writeD
    rw [hZ1, hZ2, hZ3, strOf_add, strOf_add])
  have hz1 : ¬ 9223372036854775807 < (strOf Z1).size + (strOf Z2).size := by rw [strOf_size', strOf_size']; omega
  have hz2 : ¬ 9223372036854775807 < (strOf Z1 ++ strOf Z2).size + (strOf Z3).size := by rw [strOf_add, strOf_size', strOf_size', List.length_append]; omega
  have hz3 : ¬ 9223372036854775807 < (strOf Z1).size + (strOf Z2).size + (strOf Z3).size := by rw [strOf_size', strOf_size', strOf_size']; omega
  have hdr : Below w1.heap.size w1 w1.drew := Joins.below_draws w1.heap.size w1 1
  have hbaH := Lib.hid hba
  clear hZ1 hZ2 hZ3 hlen hl9 h1 h2 h3 h4 h5 hk hlow hd hX hnb hba
  go_enter Tryz.func40, Tryz.ntmps40
  go_upto_region 1 with fail
  refine Pl.wp_region_plan 10 (.take 0 (.take 1 (.take 3 (.take 4 (.take 7 (.take 8 (.run 2 (.run 5 (.take 6 (.run 9 .done)))))))))) (fun x => Below w1.heap.size w1 x) (by kernel_rfl) (by kernel_rfl) (by exact hdr) ?_
  simp only [Pl.fill, List.getElem?_cons_zero, List.getElem?_cons_succ, List.drop_succ_cons, List.drop_zero]
  iterate 6
    refine Pl.take_go ?_ (by rfl) (fun _ _ _ h => h) ?_ ?_
    rotate_left
    · (intro x hSw; have q0 := cell_keep y0 (hSw); have q1 := cell_keep y1 (hSw); have q2 := cell_keep y2 (hSw); have q3 := cell_keep y3 (hSw); have q4 := cell_keep y4 (hSw); have q5 := cell_keep y5 (hSw); have q6 := cell_keep y6 (hSw); go_simp; try with_reducible rfl)
    (try simp only [Act.put, List.setIfInBounds_toArray, List.set_cons_zero, List.set_cons_succ])
  refine Pl.run_go (fun K hK => ?_)
  go_simp
  refine (hcb.out w1.drew (hdr)).mono ?_
  rintro e wa ⟨rfl, hbwa⟩
  have hqwa : Hid (Below w1.heap.size w1 wa) := Lib.hid (Below.trans (hdr) (hbwa.mono (Below.size (hdr))))
  dsimp only
  refine hK.out _ _ (Pl.more_go (fun x => Below wa.heap.size wa x) (fun x hx => hqwa.out.trans (hx.mono hqwa.out.size)) (Below.refl _ _) ?_)
  clear hK K
  try simp only [Act.put, List.setIfInBounds_toArray, List.set_cons_zero, List.set_cons_succ]
  refine Pl.run_go (fun K hK => ?_)
  go_simp
  refine (hcr.out wa (hqwa.out)).mono ?_
  rintro e wb ⟨rfl, hbwb⟩
  have hqwb : Hid (Below w1.heap.size w1 wb) := Lib.hid (Below.trans (hqwa.out) (hbwb.mono (Below.size (hqwa.out))))
  dsimp only
  refine hK.out _ _ (Pl.more_go (fun x => Below wb.heap.size wb x) (fun x hx => hbwb.trans (hx.mono hbwb.size)) (Below.refl _ _) ?_)
  clear hK K
  try simp only [Act.put, List.setIfInBounds_toArray, List.set_cons_zero, List.set_cons_succ]
  iterate 1
    refine Pl.take_go ?_ (by rfl) (fun _ _ _ h => h) ?_ ?_
    rotate_left
    · (intro x hSw; have q0 := cell_keep y0 (hqwb.out.trans (hSw.mono hqwb.out.size)); have q1 := cell_keep y1 (hqwb.out.trans (hSw.mono hqwb.out.size)); have q2 := cell_keep y2 (hqwb.out.trans (hSw.mono hqwb.out.size)); have q3 := cell_keep y3 (hqwb.out.trans (hSw.mono hqwb.out.size)); have q4 := cell_keep y4 (hqwb.out.trans (hSw.mono hqwb.out.size)); have q5 := cell_keep y5 (hqwb.out.trans (hSw.mono hqwb.out.size)); have q6 := cell_keep y6 (hqwb.out.trans (hSw.mono hqwb.out.size)); go_simp; try with_reducible rfl)
    (try simp only [Act.put, List.setIfInBounds_toArray, List.set_cons_zero, List.set_cons_succ])
  refine Pl.run_go (fun K hK => ?_)
  go_simp
  refine (hca.out wb (hqwb.out)).mono ?_
  rintro e wc ⟨rfl, hbwc⟩
  have hqwc : Hid (Below w1.heap.size w1 wc) := Lib.hid (Below.trans (hqwb.out) (hbwc.mono (Below.size (hqwb.out))))
  dsimp only
  refine hK.out _ _ (Pl.more_go (fun x => Below wc.heap.size wc x) (fun x hx => hbwc.trans (hx.mono hbwc.size)) (Below.refl _ _) ?_)
  clear hK K
  try simp only [Act.put, List.setIfInBounds_toArray, List.set_cons_zero, List.set_cons_succ]
  refine Pl.done_go ?_
  have hfin := Lib.hid (hbaH.out.trans (hqwc.out.mono hbaH.out.size))
  clear hcb hcr hca y0 y1 y2 y3 y4 y5 y6 hbwa hbwb hbwc hdr
  go_wp2_with fail
  go_ret
  exact ⟨by rw [hres.out]; rfl, hfin.out⟩
end Go.Proofs.YtokdnhdfmgfkeaaGreatDoor.Xp
end

section
namespace Go.Proofs.YtokdnhdfmgfkeaaGreatDoor.Xt
open Go.RowKit UtfW Xl Xo

section
variable (w : World) (hU : Un w) (A : Option Addr) (n c : Nat) (S : Tx) (hBs : Bs w A n c S) (hn : n ≤ 1000000)
include hU hBs hn
set_option maxHeartbeats 8000000 in
set_option maxRecDepth 100000 in
theorem parse_any : Calls Tryz.prog 25 #[.slice A n c] w fun e w' => ParP S w e w' := by
  have hl : S.length = n := hBs.len
  have hba := below_alloc w (.cells #[.slice none 0 0, .int .i64 0, .string ⟨#[]⟩, .string ⟨#[]⟩, .slice none 0 0, .slice none 0 0, .slice none 0 0] 27)
  have hD := heap_alloc_new w (.cells #[.slice none 0 0, .int .i64 0, .string ⟨#[]⟩, .string ⟨#[]⟩, .slice none 0 0, .slice none 0 0, .slice none 0 0] 27)
  obtain ⟨D, hDe⟩ : ∃ D, w.heap.size = D := ⟨_, rfl⟩
  obtain ⟨w1, hw1⟩ : ∃ w1, w.alloc (.cells #[.slice none 0 0, .int .i64 0, .string ⟨#[]⟩, .string ⟨#[]⟩, .slice none 0 0, .slice none 0 0, .slice none 0 0] 27) = w1 := ⟨_, rfl⟩
  rw [hw1] at hba hD
  rw [hDe] at hD
  have hc := Lib.hid (All_any w1 (hU.below hba) A n c S (Bs.below hBs hba) hn)
  obtain ⟨R, hR⟩ : ∃ R, parseF S = R := ⟨_, rfl⟩
  have hPar : ∀ (e : Ending) (w' : World), (Below w.heap.size w w' ∧ ∃ vd ev, e = .returned (.tuple #[vd, ev]) ∧ ((R.1 = 0 ∧ ev = .nilIface ∧ DocI (fun k => w.heap.size ≤ k ∧ k < w'.heap.size) w' vd R.2.2) ∨ (R.1 ≠ 0 ∧ R.2.2 = noDoc ∧ vd = zeroDoc ∧ Er.Fe w' w'.heap.size R.1 (R.2.1 : Nat) [xmlB] ev))) → ParP S w e w' := fun e w' h => by
    unfold ParP
    rw [hR]
    exact h
  replace hPar := Lib.hid hPar
  have hDl : D < w1.heap.size := (Array.getElem?_eq_some_iff.1 hD).1
  unfold parseF at hR
  obtain ⟨cd, p, ts, hall⟩ : ∃ cd p ts, Xl.allF S = (cd, p, ts) := ⟨_, _, _, rfl⟩
  rw [hall] at hR
  simp only at hR
  have hbaH := Lib.hid hba
  clear hU hBs
  by_cases hcd : cd = 0
  · subst hcd
    rw [if_neg (by simp)] at hR
    subst hl
    have hO := fun w2 e h => AllP.ok (w := w1) (w' := w2) (e := e) h hall
    obtain ⟨hP, hcost⟩ := all_P hall
    obtain ⟨hmany, hS65⟩ := all_many hall
    have hout := Lib.hid (allF_out hall)
    obtain ⟨m, hm⟩ : ∃ m, ts.length = m := ⟨_, rfl⟩
    rw [hm] at hmany hO
    replace hO := Lib.hid hO
    replace hP := Lib.hid hP
    replace hcost := Lib.hid hcost
    replace hR := Lib.hid hR
    replace hm := Lib.hid hm
    have hDlo := Lib.hid hDl
    obtain ⟨L, hL⟩ : ∃ L, w1.heap.size = L := ⟨_, rfl⟩
    clear hba hall
    go_enter Tryz.func25, Tryz.ntmps25
    go_wp2_with fail
    refine hc.out.mono ?_
    rintro e w2 hAP
    obtain ⟨hb2, A2, c2, rfl, hTk⟩ := hO.out w2 e hAP
    have hD2 := Lib.hid ((hb2.block D hDl).trans hD)
    have hbs := bs_start w2 w1.heap.size
    have hb3 := below_alloc w2 (.cells #[.slice none 0 0, .int .i64 0, .string ⟨#[]⟩, .string ⟨#[]⟩, .slice none 0 0, .slice none 0 0, .slice none 0 0, .slice none 0 0, .string ⟨#[]⟩, .int .i64 0, .bool false] 85)
    have hL2 := Lib.hid hb2.size
    have hbA := Lib.hid (hbaH.out.trans (hb2.mono hbaH.out.size))
    have hDB := Lib.hid (Nat.lt_of_lt_of_le hDl hb2.size)
    replace hTk := Lib.hid hTk
    obtain ⟨ρ0, hρ0⟩ : ∃ ρ0 : Rol, (fun k => if k = w2.heap.size then Ro.bld else .no) = ρ0 := ⟨_, rfl⟩
    rw [hρ0] at hbs
    obtain ⟨B, hB⟩ : ∃ B, w2.heap.size = B := ⟨_, rfl⟩
    obtain ⟨w3, hw3⟩ : ∃ w3, w2.alloc (.cells #[.slice none 0 0, .int .i64 0, .string ⟨#[]⟩, .string ⟨#[]⟩, .slice none 0 0, .slice none 0 0, .slice none 0 0, .slice none 0 0, .string ⟨#[]⟩, .int .i64 0, .bool false] 85) = w3 := ⟨_, rfl⟩
    rw [hw3] at hbs hb3
    rw [hB] at hbs
    obtain ⟨P0, hP0⟩ : ∃ P0 : Pp, Pp.mk w1.heap.size B = P0 := ⟨_, rfl⟩
    rw [hP0] at hbs
    have hPlo : Hid (P0.lo = w1.heap.size) := Lib.hid (by rw [← hP0])
    have hPhi : Hid (P0.hi = w2.heap.size) := Lib.hid (by rw [← hP0, hB])
    replace hbs := Lib.hid hbs
    replace hb3 := Lib.hid hb3
    have hm63 : m ≤ 100000 := by omega
    clear hρ0 hP0 hb2 hAP hD
    go_wp2_with fail
    go_loopw [23] (fun v23 wr => ∃ (i : Nat) (ρr : Rol) (sr : St), i ≤ m ∧ v23 = .int .i64 (i : Nat) ∧ Hid (BsA ρr P0 wr B sr) ∧ Hid (Run S ts i sr) ∧ Hid (Below w2.heap.size w2 wr)) (fun v23 _ => m - (intOf v23).toNat)
    case atStart => exact ⟨0, ρ0, .start, Nat.zero_le _, rfl, hbs, Lib.hid (run_0 S ts), hb3⟩
    case round =>
      obtain ⟨i, ρr, sr, hi, rfl, hBs, hRun, hbr⟩ := hrel
      by_cases hlt : i < m
      · have i1 : decide ((i : Int) < (m : Int)) = true := by simp; omega
        have q1 : (i : Int) < (m : Int) := by omega
        obtain ⟨t, ht⟩ : ∃ t, ts[i]? = some t := ⟨ts[i]'(by rw [hm.out]; exact hlt), List.getElem?_eq_getElem (by rw [hm.out]; exact hlt)⟩
        obtain ⟨b9, off, At_, ct, rfl, _, m0, m1, m2, m3, m4, hAt⟩ := tk_at hTk.out ht
        have m0 := cell_keep m0 hbr.out
        have m1 := cell_keep m1 hbr.out
        have m2 := cell_keep m2 hbr.out
        have m3 := cell_keep m3 hbr.out
        have m4 := cell_keep m4 hbr.out
        have htm := List.mem_of_getElem? ht
        have htP := hP.out t htm
        have htS := hout.out t htm
        have hbt := tokW_below wr (.int .i64 (t.kind : Nat)) (.int .i64 (t.at_ : Nat)) (.string (strOf t.name)) (.string (strOf t.text)) (.slice At_ t.attrs.length ct)
        have hblk := tokW_blk wr (t.kind : Nat) (t.at_ : Nat) (strOf t.name) (strOf t.text) (.slice At_ t.attrs.length ct)
        have ht5 : TkP P0 (tokW wr (.int .i64 (t.kind : Nat)) (.int .i64 (t.at_ : Nat)) (.string (strOf t.name)) (.string (strOf t.text)) (.slice At_ t.attrs.length ct)) [.int .i64 (t.kind : Nat), .int .i64 (t.at_ : Nat), .string (strOf t.name), .string (strOf t.text), .slice At_ t.attrs.length ct] t :=
          ⟨At_, ct, rfl, ((OwS.sq' hAt (by decide)).below AtEl.to hbr.out).below AtEl.to hbt, fun a e _ => by
            have := OwS.lt hAt a.block (by rw [e]; rfl)
            rw [hPlo.out, hPhi.out]
            exact this⟩
        have h5 := BsA.later hBs.out hbt
        have hnew := BsA.new hBs.out
        have hinv := hRun.out.inv
        have hcst := hRun.out.phi
        have htx := text_phi sr
        have hct := costs_take ts i
        have hcs := hcost.out
        have hattr : t.kind = 1 ∨ t.kind = 2 → t.attrs.length ≤ 400000 := fun hk => by
          have g1 := writeA_len t.attrs
          have g2 : cost t ≤ costs ts := by
            have := costs_take ts (i + 1)
            rw [take_snoc ht, costs_snoc] at this
            omega
          have g3 : (writeA t.attrs).length ≤ cost t := by
            unfold cost
            rcases hk with hk | hk
            · rw [if_pos hk]; omega
            · rw [if_neg (by omega), if_pos hk]; omega
          omega
        have htt := htS.text
        have hstep := token_any h5 ht5 hRun.out.sm (by omega) (by have := hinv.max; omega) hattr (by omega)
        cases hst : stepT sr t with
        | error x =>
          rw [hst] at hstep
          have hx0 := step_no0 hst
          have hx1 : (x != 0) = true := by simpa using hx0
          have hres : Hid (parseT S.length ts = (x, t.at_, noDoc)) := Lib.hid (by
            unfold parseT
            rw [runT_bad ht hRun.out.run hst])
          replace hstep := Lib.hid hstep
          replace hbt := Lib.hid hbt
          replace hblk := Lib.hid hblk
          replace hnew := Lib.hid hnew
          clear h5 ht5 hinv hcst htx hct hcs hattr htt hst htP htS htm hAt
          go_wp2_with fail
          refine hstep.out.mono ?_
          rintro e w6 ⟨c6, rfl, hb6, hc6, ρ6, hk6⟩
          subst hc6
          have hsame := (hk6 wr.heap.size (Array.getElem?_eq_some_iff.1 hblk.out).1 hnew.out).1
          have x1 : w6.cell? ⟨wr.heap.size, 1, none⟩ = some (.int .i64 (t.at_ : Nat)) := cell_blk (hsame.trans hblk.out) rfl
          have hw26 := Lib.hid ((hbr.out.trans (hbt.out.mono hbr.out.size)).trans (by rw [← hPhi.out]; exact hb6))
          clear hsame hk6 hb6 hstep m0 m1 m2 m3 m4
          go_wp2_with fail
          refine (Er.New_any _ (t.at_ : Nat) hx0 w6).mono ?_
          rintro e w7 ⟨v7, rfl, hb7, hF7⟩
          have hw27 := Lib.hid (hw26.out.trans (hb7.mono hw26.out.size))
          clear hb7
          go_wp2_with fail
          refine (Er.Wrap_any xmlB _ _ _ _ w7 hF7).mono ?_
          rintro e w8 ⟨v8, rfl, hb8, hF8⟩
          have hw28 := hw27.out.trans (hb8.mono hw27.out.size)
          have hD8 := (hw28.block D hDB.out).trans hD2.out
          obtain ⟨s0, s1, s2, s3, s4, s5, s6⟩ := doc_same hD8
          have f0 := frozen_of_row w8 D 0 _ _ hD8
          have z0 := cell_blk hD8 (i := 0) rfl
          have f1 := frozen_of_row w8 D 1 _ _ hD8
          have z1 := cell_blk hD8 (i := 1) rfl
          have f2 := frozen_of_row w8 D 2 _ _ hD8
          have z2 := cell_blk hD8 (i := 2) rfl
          have f3 := frozen_of_row w8 D 3 _ _ hD8
          have z3 := cell_blk hD8 (i := 3) rfl
          have f4 := frozen_of_row w8 D 4 _ _ hD8
          have z4 := cell_blk hD8 (i := 4) rfl
          have f5 := frozen_of_row w8 D 5 _ _ hD8
          have z5 := cell_blk hD8 (i := 5) rfl
          have f6 := frozen_of_row w8 D 6 _ _ hD8
          have z6 := cell_blk hD8 (i := 6) rfl
          have hfin : Hid (ParP S w (.returned (.tuple #[zeroDoc, v8])) w8) := Lib.hid (hPar.out _ _ ⟨hbA.out.trans (hw28.mono hbA.out.size), _, _, rfl, .inr (by rw [← hR.out, hres.out]; exact ⟨hx0, rfl, rfl, hF8⟩)⟩)
          replace hD8 := Lib.hid hD8
          clear hw28 hb8 hF8 hF7
          go_wp2_with fail
          (try simp only [Exit.inBlock, Exit.then])
          exact bodyPost_ret (res_doc (ok := v8) rfl hD8.out rfl rfl) rfl hfin.out
        | ok s' =>
          rw [hst] at hstep
          have hnext := Lib.hid (hRun.out.next ht htP hst)
          replace hstep := Lib.hid hstep
          replace hbt := Lib.hid hbt
          clear h5 ht5 hinv hcst htx hct hcs hattr htt hst htP htS htm hAt hblk hnew
          go_wp2_with fail
          refine hstep.out.mono ?_
          rintro e w6 ⟨c6, rfl, hb6, hc6, ρ6, h6, hk6⟩
          subst hc6
          have hw26 := Lib.hid ((hbr.out.trans (hbt.out.mono hbr.out.size)).trans (by rw [← hPhi.out]; exact hb6))
          replace h6 := Lib.hid h6
          clear hk6 hb6 hstep m0 m1 m2 m3 m4
          go_wp2_with fail
          go_roundw
          case rel => exact ⟨i + 1, ρ6, s', by omega, by go_num, h6, hnext, hw26⟩
          case measure => simp [intOf]; omega
      · have hie : i = m := by omega
        subst hie
        have i1 : decide ((i : Int) < (i : Int)) = false := by simp
        have hrun : Hid (runT ts .start = .ok sr) := Lib.hid (by
          have := hRun.out.run
          rw [← hm.out, List.take_length] at this
          exact this)
        obtain ⟨A7, c7, k7⟩ := BsA.c7 hBs.out
        have k10 := BsA.c10 hBs.out
        by_cases hbad : sr.opn ≠ [] ∨ sr.has = false
        · have hres : Hid (parseT S.length ts = (6, S.length, noDoc)) := Lib.hid (by
            unfold parseT
            rw [hrun.out]
            simp only
            rw [if_pos hbad])
          have hw2r := hbr
          have key : ∀ (X : Bool), True := fun _ => trivial
          by_cases ho : sr.opn = []
          · have hhas : sr.has = false := hbad.resolve_left (fun e => e ho)
            rw [ho] at k7
            rw [hhas] at k10
            have d1 : decide ((((([] : List Fr).length : Nat)) : Int) > 0) = false := by decide
            clear hbad ho hhas key
            go_wp2_with fail
            refine (Er.New_any 6 (S.length : Nat) (by decide) wr).mono ?_
            rintro e w7 ⟨v7, rfl, hb7, hF7⟩
            have hw27 := Lib.hid (hbr.out.trans (hb7.mono hbr.out.size))
            clear hb7
            go_wp2_with fail
            refine (Er.Wrap_any xmlB _ _ _ _ w7 hF7).mono ?_
            rintro e w8 ⟨v8, rfl, hb8, hF8⟩
            have hw28 := hw27.out.trans (hb8.mono hw27.out.size)
            have hD8 := (hw28.block D hDB.out).trans hD2.out
            obtain ⟨s0, s1, s2, s3, s4, s5, s6⟩ := doc_same hD8
            have f0 := frozen_of_row w8 D 0 _ _ hD8
            have z0 := cell_blk hD8 (i := 0) rfl
            have f1 := frozen_of_row w8 D 1 _ _ hD8
            have z1 := cell_blk hD8 (i := 1) rfl
            have f2 := frozen_of_row w8 D 2 _ _ hD8
            have z2 := cell_blk hD8 (i := 2) rfl
            have f3 := frozen_of_row w8 D 3 _ _ hD8
            have z3 := cell_blk hD8 (i := 3) rfl
            have f4 := frozen_of_row w8 D 4 _ _ hD8
            have z4 := cell_blk hD8 (i := 4) rfl
            have f5 := frozen_of_row w8 D 5 _ _ hD8
            have z5 := cell_blk hD8 (i := 5) rfl
            have f6 := frozen_of_row w8 D 6 _ _ hD8
            have z6 := cell_blk hD8 (i := 6) rfl
            have hfin : Hid (ParP S w (.returned (.tuple #[zeroDoc, v8])) w8) := Lib.hid (hPar.out _ _ ⟨hbA.out.trans (hw28.mono hbA.out.size), _, _, rfl, .inr (by rw [← hR.out, hres.out]; exact ⟨(by decide : (6 : Int) ≠ 0), rfl, rfl, hF8⟩)⟩)
            replace hD8 := Lib.hid hD8
            clear hw28 hb8 hF8 hF7
            go_wp2_with fail
            (try simp only [Exit.inBlock, Exit.then])
            exact bodyPost_ret (res_doc (ok := v8) rfl hD8.out rfl rfl) rfl hfin.out
          · obtain ⟨no, hno⟩ : ∃ no, sr.opn.length = no := ⟨_, rfl⟩
            rw [hno] at k7
            have hn0 : 0 < no := by
              rcases Nat.eq_zero_or_pos no with h0 | h0
              · rw [h0] at hno
                exact absurd (List.eq_nil_of_length_eq_zero hno) ho
              · exact h0
            have d1 : decide ((no : Int) > 0) = true := by simp; omega
            have d2 : decide ((0 : Int) < (no : Int)) = true := by simp; omega
            have d3 : decide (0 < no) = true := by simp; omega
            clear hbad ho hn0 hno key
            go_wp2_with fail
            refine (Er.New_any 6 (S.length : Nat) (by decide) wr).mono ?_
            rintro e w7 ⟨v7, rfl, hb7, hF7⟩
            have hw27 := Lib.hid (hbr.out.trans (hb7.mono hbr.out.size))
            clear hb7
            go_wp2_with fail
            refine (Er.Wrap_any xmlB _ _ _ _ w7 hF7).mono ?_
            rintro e w8 ⟨v8, rfl, hb8, hF8⟩
            have hw28 := hw27.out.trans (hb8.mono hw27.out.size)
            have hD8 := (hw28.block D hDB.out).trans hD2.out
            obtain ⟨s0, s1, s2, s3, s4, s5, s6⟩ := doc_same hD8
            have f0 := frozen_of_row w8 D 0 _ _ hD8
            have z0 := cell_blk hD8 (i := 0) rfl
            have f1 := frozen_of_row w8 D 1 _ _ hD8
            have z1 := cell_blk hD8 (i := 1) rfl
            have f2 := frozen_of_row w8 D 2 _ _ hD8
            have z2 := cell_blk hD8 (i := 2) rfl
            have f3 := frozen_of_row w8 D 3 _ _ hD8
            have z3 := cell_blk hD8 (i := 3) rfl
            have f4 := frozen_of_row w8 D 4 _ _ hD8
            have z4 := cell_blk hD8 (i := 4) rfl
            have f5 := frozen_of_row w8 D 5 _ _ hD8
            have z5 := cell_blk hD8 (i := 5) rfl
            have f6 := frozen_of_row w8 D 6 _ _ hD8
            have z6 := cell_blk hD8 (i := 6) rfl
            have hfin : Hid (ParP S w (.returned (.tuple #[zeroDoc, v8])) w8) := Lib.hid (hPar.out _ _ ⟨hbA.out.trans (hw28.mono hbA.out.size), _, _, rfl, .inr (by rw [← hR.out, hres.out]; exact ⟨(by decide : (6 : Int) ≠ 0), rfl, rfl, hF8⟩)⟩)
            replace hD8 := Lib.hid hD8
            clear hw28 hb8 hF8 hF7
            go_wp2_with fail
            (try simp only [Exit.inBlock, Exit.then])
            exact bodyPost_ret (res_doc (ok := v8) rfl hD8.out rfl rfl) rfl hfin.out
        · have ho : sr.opn = [] := Classical.byContradiction fun e => hbad (.inl e)
          have hhas : sr.has = true := by
            cases hx : sr.has with
            | true => rfl
            | false => exact absurd (.inr hx) hbad
          have hres : Hid (parseT S.length ts = (0, 0, ⟨sr.before, sr.root, sr.after⟩)) := Lib.hid (by
            unfold parseT
            rw [hrun.out]
            simp only
            rw [if_neg hbad])
          rw [ho] at k7
          rw [hhas] at k10
          have d1 : decide ((((([] : List Fr).length : Nat)) : Int) > 0) = false := by decide
          obtain ⟨A1, n1, c1, kd, nm, tx, Ar, na, cr, Ak, nk, ck, A9, n9, c9, C, hC, y0, y1, y2, y3, y4, y5, y6, hdoc⟩ := doc_fin (lo0 := w.heap.size) (D := D) hBs.out (by rw [hPlo.out]; exact hDlo.out) (by rw [hPlo.out]; exact hbaH.out.size) (by rw [hPlo.out, hPhi.out]; exact hL2.out)
          have y0 := cell_blk hC y0
          have y1 := cell_blk hC y1
          have y2 := cell_blk hC y2
          have y3 := cell_blk hC y3
          have y4 := cell_blk hC y4
          have y5 := cell_blk hC y5
          have y6 := cell_blk hC y6
          have hDr := (hbr.out.block D hDB.out).trans hD2.out
          have f0 := frozen_of_row wr D 0 _ _ hDr
          have z0 := cell_blk hDr (i := 0) rfl
          have f1 := frozen_of_row wr D 1 _ _ hDr
          have z1 := cell_blk hDr (i := 1) rfl
          have f2 := frozen_of_row wr D 2 _ _ hDr
          have z2 := cell_blk hDr (i := 2) rfl
          have f3 := frozen_of_row wr D 3 _ _ hDr
          have z3 := cell_blk hDr (i := 3) rfl
          have f4 := frozen_of_row wr D 4 _ _ hDr
          have z4 := cell_blk hDr (i := 4) rfl
          have f5 := frozen_of_row wr D 5 _ _ hDr
          have z5 := cell_blk hDr (i := 5) rfl
          have f6 := frozen_of_row wr D 6 _ _ hDr
          have z6 := cell_blk hDr (i := 6) rfl
          have hBD : B ≠ D := by rw [← hB]; have := hDB.out; omega
          replace hdoc := Lib.hid hdoc
          replace hDr := Lib.hid hDr
          clear hC hbad ho hhas
          go_wp2_with fail
          (try simp only [Exit.inBlock, Exit.then])
          have hDf := blk_setCell (blk_setCell (blk_setCell (blk_setCell (blk_setCell (blk_setCell (blk_setCell hDr.out (i := 0) (.slice A1 n1 c1)) (i := 1) (.int .i64 kd)) (i := 2) (.string nm)) (i := 3) (.string tx)) (i := 4) (.slice Ar na cr)) (i := 5) (.slice Ak nk ck)) (i := 6) (.slice A9 n9 c9)
          refine bodyPost_ret (res_doc (ok := .nilIface) rfl hDf rfl rfl) rfl ?_
          have hgr := ((((((grown_set wr ⟨D, 0, none⟩ (.slice A1 n1 c1)).trans (grown_set _ ⟨D, 1, none⟩ (.int .i64 kd))).trans (grown_set _ ⟨D, 2, none⟩ (.string nm))).trans (grown_set _ ⟨D, 3, none⟩ (.string tx))).trans (grown_set _ ⟨D, 4, none⟩ (.slice Ar na cr))).trans (grown_set _ ⟨D, 5, none⟩ (.slice Ak nk ck))).trans (grown_set _ ⟨D, 6, none⟩ (.slice A9 n9 c9))
          have hfd := hdoc.out _ hgr
          have hbw := hbA.out.trans (hbr.out.mono hbA.out.size)
          refine hPar.out _ _ ⟨hbw.grown hgr hbw.size (fun k hk => by injection hk with hk; have hk : D = k := hk; omega), _, _, rfl, .inl ?_⟩
          rw [← hR.out, hres.out]
          exact ⟨rfl, rfl, hfd⟩
  · rw [if_pos hcd] at hR
    have hN := fun w2 e h => AllP.no (w := w1) (w' := w2) (e := e) h hall hcd
    replace hN := Lib.hid hN
    replace hR := Lib.hid hR
    replace hall := Lib.hid hall
    clear hba
    go_enter Tryz.func25, Tryz.ntmps25
    go_wp2_with fail
    refine hc.out.mono ?_
    rintro e w2 hAP
    obtain ⟨hb2, v, rfl, hFe⟩ := hN.out w2 e hAP
    obtain ⟨TI, ad, rfl⟩ := hFe.iface
    have hD2 := (hb2.block D hDl).trans hD
    obtain ⟨s0, s1, s2, s3, s4, s5, s6⟩ := doc_same hD2
    have f0 := frozen_of_row w2 D 0 _ _ hD2
    have z0 := cell_blk hD2 (i := 0) rfl
    have f1 := frozen_of_row w2 D 1 _ _ hD2
    have z1 := cell_blk hD2 (i := 1) rfl
    have f2 := frozen_of_row w2 D 2 _ _ hD2
    have z2 := cell_blk hD2 (i := 2) rfl
    have f3 := frozen_of_row w2 D 3 _ _ hD2
    have z3 := cell_blk hD2 (i := 3) rfl
    have f4 := frozen_of_row w2 D 4 _ _ hD2
    have z4 := cell_blk hD2 (i := 4) rfl
    have f5 := frozen_of_row w2 D 5 _ _ hD2
    have z5 := cell_blk hD2 (i := 5) rfl
    have f6 := frozen_of_row w2 D 6 _ _ hD2
    have z6 := cell_blk hD2 (i := 6) rfl
    have hfin : Hid (ParP S w (.returned (.tuple #[zeroDoc, .iface TI (.pointer (some ad))])) w2) := Lib.hid (hPar.out _ _ ⟨hbaH.out.trans (hb2.mono hbaH.out.size), _, _, rfl, .inr (by rw [← hR.out]; exact ⟨hcd, rfl, rfl, hFe⟩)⟩)
    replace hD2 := Lib.hid hD2
    clear hb2 hFe hAP hD
    go_wp2_with fail
    exact bodyPost_ret (res_doc (ok := .iface TI (.pointer (some ad))) rfl hD2.out rfl rfl) rfl hfin.out
end
end Go.Proofs.YtokdnhdfmgfkeaaGreatDoor.Xt
end

section
namespace Go.Proofs.YtokdnhdfmgfkeaaGreatDoor.Xt
open Go.RowKit UtfW Xl

mutual
theorem depth_count : ∀ n : Nd, depthN n ≤ countN n
  | .mk k nm tx as_ ks => by
    have := depth_countL ks
    rw [depthN, countN]
    split <;> omega
theorem depth_countL : ∀ l : List Nd, depthL l ≤ countL l
  | [] => Nat.le_refl _
  | x :: xs => by
    have h1 := depth_count x
    have h2 := depth_countL xs
    rw [depthL, countL]
    omega
end
theorem countL_take : ∀ (l : List Nd) (i : Nat), countL (l.take i) ≤ countL l
  | [], i => by simp
  | x :: l, 0 => by simp [countL]
  | x :: l, i + 1 => by
    have := countL_take l i
    rw [List.take_succ_cons, countL, countL]
    omega
theorem count_kid {ks : List Nd} {i : Nat} {x : Nd} (h : ks[i]? = some x) : countL (ks.take i) + countN x ≤ countL ks := by
  have := countL_take ks (i + 1)
  rw [take_snoc h, countL_append] at this
  simp [countL] at this
  omega
theorem len_count : ∀ l : List Nd, l.length ≤ countL l
  | [] => Nat.le_refl _
  | x :: l => by
    obtain ⟨k, nm, tx, as_, ks⟩ := x
    have := len_count l
    rw [countL, countN, List.length_cons]
    omega
set_option maxHeartbeats 4000000 in
set_option maxRecDepth 100000 in
theorem depth_any : ∀ (k : Nat) (X : Nat → Prop) (w : World) (vs : List Value) (n : Nd), SizeOf.sizeOf n ≤ k → NdI X w vs n → (∀ j, X j → j < w.heap.size) → countN n ≤ 1000000 →
    Calls Tryz.prog 33 #[.agg vs.toArray] w fun e w' => e = .returned (.int .i64 (depthN n : Nat)) ∧ Below w.heap.size w w' := by
  intro k
  induction k with
  | zero =>
    intro X w vs n hk
    obtain ⟨kd, nm, tx, as_, ks⟩ := n
    simp at hk
  | succ k ih =>
    intro X w vs n hk hn hX hc
    obtain ⟨kd, nm, tx, as_, ks⟩ := n
    obtain ⟨A, ca, A2, c2, rfl, hA, hK, -, -⟩ := hn.cells
    have hcl : countL ks + as_.length + 1 ≤ 1000000 := by rw [countN] at hc; omega
    have hlen := len_count ks
    have hba := below_alloc w (.cells #[.int .i64 kd, .string (strOf nm), .string (strOf tx), .slice A as_.length ca, .slice A2 ks.length c2] 25)
    have hnb := heap_alloc_new w (.cells #[.int .i64 kd, .string (strOf nm), .string (strOf tx), .slice A as_.length ca, .slice A2 ks.length c2] 25)
    have ih := Lib.hid ih
    obtain ⟨T, hT⟩ : ∃ T, w.heap.size = T := ⟨_, rfl⟩
    obtain ⟨w1, hw1⟩ : ∃ w1, w.alloc (.cells #[.int .i64 kd, .string (strOf nm), .string (strOf tx), .slice A as_.length ca, .slice A2 ks.length c2] 25) = w1 := ⟨_, rfl⟩
    rw [hw1] at hba hnb
    rw [hT] at hnb
    have x0 : w1.cell? ⟨T, 0, none⟩ = some (.int .i64 kd) := cell_blk hnb rfl
    have x3 : w1.cell? ⟨T, 3, none⟩ = some (.slice A as_.length ca) := cell_blk hnb rfl
    have x4 : w1.cell? ⟨T, 4, none⟩ = some (.slice A2 ks.length c2) := cell_blk hnb rfl
    have hkid : Hid (∀ i x, ks[i]? = some x → SizeOf.sizeOf x ≤ k) := Lib.hid fun i x hx => by
      have := kid_lt (k := kd) (nm := nm) (tx := tx) (as_ := as_) hx
      omega
    obtain ⟨m, hm⟩ : ∃ m, ks.length = m := ⟨_, rfl⟩
    rw [hm] at x4 hK hlen
    obtain ⟨la, hla⟩ : ∃ la, as_.length = la := ⟨_, rfl⟩
    rw [hla] at x3 hcl
    have hnbH := Lib.hid hnb
    have hXH := Lib.hid hX
    replace hK := Lib.hid hK
    have hTl : Hid (T < w1.heap.size) := Lib.hid (Array.getElem?_eq_some_iff.1 hnb).1
    replace hba := Lib.hid hba
    replace hm := Lib.hid hm
    replace hla := Lib.hid hla
    clear hnb hX hA hn hk hc
    by_cases hk1 : kd = 1
    · subst hk1
      go_enter Tryz.func33, Tryz.ntmps33
      go_wp2_with fail
      go_loopw [3, 12] (fun va vi wr => ∃ i a : Nat, i ≤ m ∧ vi = .int .i64 (i : Nat) ∧ va = .int .i64 (a : Nat) ∧ a ≤ 1000000 ∧ Hid (a = depthL (ks.take i)) ∧ Hid (Below w.heap.size w wr)) (fun _ vi _ => m - (intOf vi).toNat)
      case atStart => exact ⟨0, 0, Nat.zero_le _, rfl, rfl, Nat.zero_le _, Lib.hid (by simp [depthL]), hba⟩
      case round =>
        obtain ⟨i, a, hi, rfl, rfl, ha9, ha, hb⟩ := hrel
        by_cases hlt : i < m
        · have i1 : decide ((i : Int) < (m : Int)) = true := by simp; omega
          have q1 : (i : Int) < (m : Int) := by omega
          have hKr : Sq (NdE X) 5 wr A2 m c2 ks := Sq.stay hK.out (fun ad e hn => by
            obtain ⟨b, off, e2, hbl, _⟩ := hK.out.cell hn
            rw [e] at e2
            injection e2 with e2
            rw [e2]
            exact hb.out.block b hbl) (fun vs x h => NdI.later h hXH.out hb.out)
          obtain ⟨b1, off1, x, vs1, rfl, _, hx1, _, hv1, hc1⟩ := hKr.at_ hlt
          have hszx := hkid.out i x hx1
          have hcx := count_kid hx1
          have hX1 : ∀ j, X j → j < wr.heap.size := fun j hj => Nat.lt_of_lt_of_le (hXH.out j hj) hb.out.size
          obtain ⟨kx, nx_, tx_, ax, kx_⟩ := x
          obtain ⟨Ax, cax, A2x, c2x, rfl, -⟩ := hv1.cells
          have m0 := hc1 0 _ rfl
          have m1 := hc1 1 _ rfl
          have m2 := hc1 2 _ rfl
          have m3 := hc1 3 _ rfl
          have m4 := hc1 4 _ rfl
          rw [Nat.add_zero] at m0
          have hbt := below_alloc wr (.cells #[.int .i64 kx, .string (strOf nx_), .string (strOf tx_), .slice Ax ax.length cax, .slice A2x kx_.length c2x] 25)
          have hrec := Lib.hid (ih.out X (wr.alloc (.cells #[.int .i64 kx, .string (strOf nx_), .string (strOf tx_), .slice Ax ax.length cax, .slice A2x kx_.length c2x] 25)) _ _ hszx (NdI.later hv1 hX1 hbt) (fun j hj => Nat.lt_of_lt_of_le (hX1 j hj) hbt.size) (by omega))
          have hdc := depth_count (.mk kx nx_ tx_ ax kx_)
          have hnext : Hid (max a (depthN (.mk kx nx_ tx_ ax kx_)) = depthL (ks.take (i + 1))) := Lib.hid (by
            rw [take_snoc hx1, depthL_append, ha.out]
            simp [depthL])
          have hbb := Lib.hid (hb.out.trans (hbt.mono hb.out.size))
          obtain ⟨dx, hdx⟩ : ∃ dx, depthN (.mk kx nx_ tx_ ax kx_) = dx := ⟨_, rfl⟩
          rw [hdx] at hrec hnext hdc
          have hdx9 : dx ≤ 1000000 := by omega
          have haf := ha.out
          have hsum : max a dx ≤ 1000000 := by omega
          clear haf hdx hdc hcx hszx hKr hv1 hx1 hc1 hX1 hbt
          go_wp2_with fail
          refine hrec.out.mono ?_
          rintro e w5 ⟨rfl, hb5⟩
          have hw5 := Lib.hid (hbb.out.trans (hb5.mono hbb.out.size))
          clear hb5 m0 m1 m2 m3 m4
          go_wp2_with fail
          go_roundw
          case rel => exact ⟨i + 1, max a dx, by omega, by go_num, by (simp; omega), hsum, hnext, hw5⟩
          case measure => simp [intOf]; omega
        · have hie : i = m := by omega
          subst hie
          have i1 : decide ((i : Int) < (i : Int)) = false := by simp
          have hfin : Hid (depthN (.mk 1 nm tx as_ ks) = a + 1) := Lib.hid (by
            rw [depthN, if_pos rfl, ha.out, ← hm.out, List.take_length])
          go_wp2_with fail
          go_ret
          exact ⟨by rw [hfin.out]; rfl, hb.out⟩
    · have k1 : (kd != 1) = true := by simpa using hk1
      have hz : Hid (depthN (.mk kd nm tx as_ ks) = 0) := Lib.hid (by rw [depthN, if_neg hk1])
      go_enter Tryz.func33, Tryz.ntmps33
      go_wp2_with fail
      go_ret
      exact ⟨by rw [hz.out]; rfl, hba.out⟩
set_option maxHeartbeats 4000000 in
set_option maxRecDepth 100000 in
theorem countN_any : ∀ (k : Nat) (X : Nat → Prop) (w : World) (vs : List Value) (n : Nd), SizeOf.sizeOf n ≤ k → NdI X w vs n → (∀ j, X j → j < w.heap.size) → countN n ≤ 1000000 →
    Calls Tryz.prog 34 #[.agg vs.toArray] w fun e w' => e = .returned (.int .i64 (countN n : Nat)) ∧ Below w.heap.size w w' := by
  intro k
  induction k with
  | zero =>
    intro X w vs n hk
    obtain ⟨kd, nm, tx, as_, ks⟩ := n
    simp at hk
  | succ k ih =>
    intro X w vs n hk hn hX hc
    obtain ⟨kd, nm, tx, as_, ks⟩ := n
    obtain ⟨A, ca, A2, c2, rfl, hA, hK, -, -⟩ := hn.cells
    have hcl : countL ks + as_.length + 1 ≤ 1000000 := by rw [countN] at hc; omega
    have hlen := len_count ks
    have hba := below_alloc w (.cells #[.int .i64 kd, .string (strOf nm), .string (strOf tx), .slice A as_.length ca, .slice A2 ks.length c2] 25)
    have hnb := heap_alloc_new w (.cells #[.int .i64 kd, .string (strOf nm), .string (strOf tx), .slice A as_.length ca, .slice A2 ks.length c2] 25)
    have ih := Lib.hid ih
    obtain ⟨T, hT⟩ : ∃ T, w.heap.size = T := ⟨_, rfl⟩
    obtain ⟨w1, hw1⟩ : ∃ w1, w.alloc (.cells #[.int .i64 kd, .string (strOf nm), .string (strOf tx), .slice A as_.length ca, .slice A2 ks.length c2] 25) = w1 := ⟨_, rfl⟩
    rw [hw1] at hba hnb
    rw [hT] at hnb
    have x0 : w1.cell? ⟨T, 0, none⟩ = some (.int .i64 kd) := cell_blk hnb rfl
    have x3 : w1.cell? ⟨T, 3, none⟩ = some (.slice A as_.length ca) := cell_blk hnb rfl
    have x4 : w1.cell? ⟨T, 4, none⟩ = some (.slice A2 ks.length c2) := cell_blk hnb rfl
    have hkid : Hid (∀ i x, ks[i]? = some x → SizeOf.sizeOf x ≤ k) := Lib.hid fun i x hx => by
      have := kid_lt (k := kd) (nm := nm) (tx := tx) (as_ := as_) hx
      omega
    obtain ⟨m, hm⟩ : ∃ m, ks.length = m := ⟨_, rfl⟩
    rw [hm] at x4 hK hlen
    obtain ⟨la, hla⟩ : ∃ la, as_.length = la := ⟨_, rfl⟩
    rw [hla] at x3 hcl
    have hnbH := Lib.hid hnb
    have hXH := Lib.hid hX
    replace hK := Lib.hid hK
    have hTl : Hid (T < w1.heap.size) := Lib.hid (Array.getElem?_eq_some_iff.1 hnb).1
    replace hba := Lib.hid hba
    replace hm := Lib.hid hm
    replace hla := Lib.hid hla
    clear hnb hX hA hn hk hc
    go_enter Tryz.func34, Tryz.ntmps34
    go_wp2_with fail
    go_loopw [3, 13] (fun va vi wr => ∃ i a : Nat, i ≤ m ∧ vi = .int .i64 (i : Nat) ∧ va = .int .i64 (a : Nat) ∧ a ≤ 1000000 ∧ Hid (a = 1 + la + countL (ks.take i)) ∧ Hid (Below w.heap.size w wr)) (fun _ vi _ => m - (intOf vi).toNat)
    case atStart => exact ⟨0, 1 + la, Nat.zero_le _, rfl, (by go_num), by omega, Lib.hid (by simp [countL]), hba⟩
    case round =>
      obtain ⟨i, a, hi, rfl, rfl, ha9, ha, hb⟩ := hrel
      by_cases hlt : i < m
      · have i1 : decide ((i : Int) < (m : Int)) = true := by simp; omega
        have q1 : (i : Int) < (m : Int) := by omega
        have hKr : Sq (NdE X) 5 wr A2 m c2 ks := Sq.stay hK.out (fun ad e hn => by
          obtain ⟨b, off, e2, hbl, _⟩ := hK.out.cell hn
          rw [e] at e2
          injection e2 with e2
          rw [e2]
          exact hb.out.block b hbl) (fun vs x h => NdI.later h hXH.out hb.out)
        obtain ⟨b1, off1, x, vs1, rfl, _, hx1, _, hv1, hc1⟩ := hKr.at_ hlt
        have hszx := hkid.out i x hx1
        have hcx := count_kid hx1
        have hX1 : ∀ j, X j → j < wr.heap.size := fun j hj => Nat.lt_of_lt_of_le (hXH.out j hj) hb.out.size
        obtain ⟨kx, nx_, tx_, ax, kx_⟩ := x
        obtain ⟨Ax, cax, A2x, c2x, rfl, -⟩ := hv1.cells
        have m0 := hc1 0 _ rfl
        have m1 := hc1 1 _ rfl
        have m2 := hc1 2 _ rfl
        have m3 := hc1 3 _ rfl
        have m4 := hc1 4 _ rfl
        rw [Nat.add_zero] at m0
        have hbt := below_alloc wr (.cells #[.int .i64 kx, .string (strOf nx_), .string (strOf tx_), .slice Ax ax.length cax, .slice A2x kx_.length c2x] 25)
        have hrec := Lib.hid (ih.out X (wr.alloc (.cells #[.int .i64 kx, .string (strOf nx_), .string (strOf tx_), .slice Ax ax.length cax, .slice A2x kx_.length c2x] 25)) _ _ hszx (NdI.later hv1 hX1 hbt) (fun j hj => Nat.lt_of_lt_of_le (hX1 j hj) hbt.size) (by omega))
        have hdc := depth_count (.mk kx nx_ tx_ ax kx_)
        have hnext : Hid (a + countN (.mk kx nx_ tx_ ax kx_) = 1 + la + countL (ks.take (i + 1))) := Lib.hid (by
          rw [take_snoc hx1, countL_append, ha.out]
          simp [countL]; omega)
        have hbb := Lib.hid (hb.out.trans (hbt.mono hb.out.size))
        obtain ⟨dx, hdx⟩ : ∃ dx, countN (.mk kx nx_ tx_ ax kx_) = dx := ⟨_, rfl⟩
        rw [hdx] at hrec hnext
        have hdx9 : dx ≤ 1000000 := by rw [← hdx]; omega
        have haf := ha.out
        have hsum : a + dx ≤ 1000000 := by rw [← hdx, haf]; omega
        clear haf hdx hdc hcx hszx hKr hv1 hx1 hc1 hX1 hbt
        go_wp2_with fail
        refine hrec.out.mono ?_
        rintro e w5 ⟨rfl, hb5⟩
        have hw5 := Lib.hid (hbb.out.trans (hb5.mono hbb.out.size))
        clear hb5 m0 m1 m2 m3 m4
        go_wp2_with fail
        go_roundw
        case rel => exact ⟨i + 1, a + dx, by omega, by go_num, by go_num, hsum, hnext, hw5⟩
        case measure => simp [intOf]; omega
      · have hie : i = m := by omega
        subst hie
        have i1 : decide ((i : Int) < (i : Int)) = false := by simp
        have hfin : Hid (countN (.mk kd nm tx as_ ks) = a) := Lib.hid (by
          rw [countN, ha.out, ← hm.out, List.take_length, ← hla.out])
        go_wp2_with fail
        go_ret
        exact ⟨by rw [hfin.out]; rfl, hb.out⟩
end Go.Proofs.YtokdnhdfmgfkeaaGreatDoor.Xt
end

section
namespace Go.Proofs.YtokdnhdfmgfkeaaGreatDoor.Xp
open Go.RowKit UtfW Xl Xo Xt

structure DocB (d : Doc) : Prop where
  cnt : countN d.root ≤ 1000000
  bl : d.before.length ≤ 1000000
  al : d.after.length ≤ 1000000
  wr : (writeD d).length ≤ 100000000000000
  rs : smN d.root
  bs : smL d.before
  as_ : smL d.after
set_option maxHeartbeats 8000000 in
set_option maxRecDepth 100000 in
theorem May_any (X : Nat → Prop) (w : World) (hU : Un w) (v : Value) (d : Doc) (hd : DocI X w v d) (hX : ∀ j, X j → j < w.heap.size) (hB : DocB d) :
    Calls Tryz.prog 14 #[v] w fun e w' => e = .returned (.bool (mayD d)) ∧ Below w.heap.size w w' := by
  obtain ⟨A1, n1, c1, kd, nm, tx, Ar, n5, cr, Ak, n6, ck, A2, n2, c2, hv, h1, h2, h3, h4, h5, hkd⟩ := doc_parts hd
  subst hv
  have hl1 := h1.len
  have hl2 := h4.len
  have hba := below_alloc w (.cells #[.slice A1 n1 c1, .int .i64 kd, .string (strOf nm), .string (strOf tx), .slice Ar n5 cr, .slice Ak n6 ck, .slice A2 n2 c2] 27)
  have hnb := heap_alloc_new w (.cells #[.slice A1 n1 c1, .int .i64 kd, .string (strOf nm), .string (strOf tx), .slice Ar n5 cr, .slice Ak n6 ck, .slice A2 n2 c2] 27)
  obtain ⟨T, hT⟩ : ∃ T, w.heap.size = T := ⟨_, rfl⟩
  obtain ⟨w1, hw1⟩ : ∃ w1, w.alloc (.cells #[.slice A1 n1 c1, .int .i64 kd, .string (strOf nm), .string (strOf tx), .slice Ar n5 cr, .slice Ak n6 ck, .slice A2 n2 c2] 27) = w1 := ⟨_, rfl⟩
  rw [hw1] at hba hnb
  rw [hT] at hnb
  have hTb : Hid (∀ x, Below w1.heap.size w1 x → x.heap[T]? = some (.cells #[.slice A1 n1 c1, .int .i64 kd, .string (strOf nm), .string (strOf tx), .slice Ar n5 cr, .slice Ak n6 ck, .slice A2 n2 c2] 27)) := Lib.hid fun x hx => (hx.block T (Array.getElem?_eq_some_iff.1 hnb).1).trans hnb
  have hqw1 : Hid (Below w1.heap.size w1 w1) := Lib.hid (Below.refl _ _)
  have hlow : ∀ x, Below w1.heap.size w1 x → Below w.heap.size w x := fun x hx => hba.trans (hx.mono hba.size)
  have hXx : ∀ x, Below w1.heap.size w1 x → ∀ j, X j → j < x.heap.size := fun x hx j hj => Nat.lt_of_lt_of_le (hX j hj) (hlow x hx).size
  have hrx : ∀ x, Below w1.heap.size w1 x → NdI X x [.int .i64 kd, .string (strOf nm), .string (strOf tx), .slice Ar n5 cr, .slice Ak n6 ck] d.root := fun x hx => NdI.later h3 hX (hlow x hx)
  have hcF := Lib.hid (fun (x : World) (hx : Below w1.heap.size w1 x) => Fair_any _ X d.root (Nat.le_refl _) hB.rs _ x (hU.below (hlow x hx)) (hrx x hx) (hXx x hx))
  have hcB := Lib.hid (fun (x : World) (hx : Below w1.heap.size w1 x) => misc_any X x (hU.below (hlow x hx)) A1 n1 c1 d.before (sq_keep h1 (hlow x hx) (fun vs y h => NdI.later h hX (hlow x hx))) (hXx x hx) hB.bs)
  have hcA := Lib.hid (fun (x : World) (hx : Below w1.heap.size w1 x) => misc_any X x (hU.below (hlow x hx)) A2 n2 c2 d.after (sq_keep h4 (hlow x hx) (fun vs y h => NdI.later h hX (hlow x hx))) (hXx x hx) hB.as_)
  have hcC := Lib.hid (fun (x : World) (hx : Below w1.heap.size w1 x) => countN_any _ X x _ d.root (Nat.le_refl _) (hrx x hx) (hXx x hx) hB.cnt)
  have hcD := Lib.hid (fun (x : World) (hx : Below w1.heap.size w1 x) => depth_any _ X x _ d.root (Nat.le_refl _) (hrx x hx) (hXx x hx) hB.cnt)
  have hcW := Lib.hid (fun (x : World) (hx : Below w1.heap.size w1 x) => written_any X x _ d (Xp.DocI.keep hd (fun k hk => (hlow x hx).block k (hX k hk))) (hXx x hx) hB.wr)
  have y0 := Xp.cell_blk hnb (i := 0) rfl
  have y1 := Xp.cell_blk hnb (i := 1) rfl
  have y2 := Xp.cell_blk hnb (i := 2) rfl
  have y3 := Xp.cell_blk hnb (i := 3) rfl
  have y4 := Xp.cell_blk hnb (i := 4) rfl
  have y5 := Xp.cell_blk hnb (i := 5) rfl
  have y6 := Xp.cell_blk hnb (i := 6) rfl
  have hbaH := Lib.hid hba
  have b1 := hB.cnt
  have b2 := hB.bl
  have b3 := hB.al
  have b4 := hB.wr
  obtain ⟨R, hRe⟩ : ∃ R, mayD d = R := ⟨_, rfl⟩
  unfold mayD at hRe
  unfold mayD
  rw [hRe]
  obtain ⟨FR, hFR⟩ : ∃ b, fairN d.root = b := ⟨_, rfl⟩
  obtain ⟨MB, hMB⟩ : ∃ b, miscOk d.before = b := ⟨_, rfl⟩
  obtain ⟨MA, hMA⟩ : ∃ b, miscOk d.after = b := ⟨_, rfl⟩
  obtain ⟨CN, hCN⟩ : ∃ b, countN d.root = b := ⟨_, rfl⟩
  obtain ⟨DN, hDN⟩ : ∃ b, depthN d.root = b := ⟨_, rfl⟩
  obtain ⟨ST, hST⟩ : ∃ b, strOf (writeD d) = b := ⟨_, rfl⟩
  have hsz : ST.size = (writeD d).length := by rw [← hST]; exact strOf_size' _
  rw [hl1, hl2] at hRe
  rw [hl1] at b2
  rw [hl2] at b3
  rw [hFR, hMB, hMA, hCN, hDN, ← hsz, ← hkd] at hRe
  rw [hFR] at hcF
  rw [hMB] at hcB
  rw [hMA] at hcA
  rw [hCN] at hcC b1
  rw [hDN] at hcD
  rw [hST] at hcW
  have hR := Lib.hid hRe
  rw [← hsz] at b4
  obtain ⟨zs, hzs⟩ : ∃ z, ST.size = z := ⟨_, rfl⟩
  rw [hzs] at b4
  have hzs' := Lib.hid hzs
  have hd1 : DN ≤ 1000000 := by
    have := depth_count d.root
    rw [hCN, hDN] at this
    omega
  clear hd hX hB h1 h2 h3 h4 h5 hkd hl1 hl2 hba hnb hlow hXx hrx hRe hU hFR hMB hMA hCN hDN hST hsz hzs
  by_cases k1 : kd = 1
  case' neg =>
    have k0 : (kd != 1) = true := by simpa using k1
    have hR := Lib.hid (show false = R by rw [← hR.out]; simp [k1])
    clear k1
    go_enter Tryz.func14, Tryz.ntmps14
    have hRf : Hid (R = false) := Lib.hid hR.out.symm
    clear hR hcF hcB hcA hcC hcD hcW
    go_wp2_with fail
    go_ret
    exact ⟨by rw [hRf.out]; rfl, hbaH.out⟩
  have k0 : (kd != 1) = false := by rw [k1]; rfl
  subst k1
  go_enter Tryz.func14, Tryz.ntmps14
  go_wp2_with fail
  refine (hcF.out w1 hqw1.out).mono ?_
  rintro e w2 ⟨rfl, hbw2⟩
  have hqw2 := Lib.hid (hqw1.out.trans (hbw2.mono hqw1.out.size))
  clear hbw2 y0 y1 y2 y3 y4 y5 y6
  have hTb9 := hTb.out w2 hqw2.out
  have y0 := Xp.cell_blk hTb9 (i := 0) rfl
  have y1 := Xp.cell_blk hTb9 (i := 1) rfl
  have y2 := Xp.cell_blk hTb9 (i := 2) rfl
  have y3 := Xp.cell_blk hTb9 (i := 3) rfl
  have y4 := Xp.cell_blk hTb9 (i := 4) rfl
  have y5 := Xp.cell_blk hTb9 (i := 5) rfl
  have y6 := Xp.cell_blk hTb9 (i := 6) rfl
  clear hTb9
  cases FR with
  | false =>
    have hRf : Hid (R = false) := Lib.hid (by have h9 := hR.out; first | exact h9.symm | (rw [← h9]; simp))
    have hfin := Lib.hid (hbaH.out.trans (hqw2.out.mono hbaH.out.size))
    clear hR
    go_wp2_with fail
    (try simp only [Exit.inBlock, Exit.then])
    go_ret
    exact ⟨by rw [hRf.out]; rfl, hfin.out⟩
  | true =>
    go_wp2_with fail
    refine (hcB.out w2 hqw2.out).mono ?_
    rintro e w3 ⟨rfl, hbw3⟩
    have hqw3 := Lib.hid (hqw2.out.trans (hbw3.mono hqw2.out.size))
    clear hbw3 y0 y1 y2 y3 y4 y5 y6
    have hTb9 := hTb.out w3 hqw3.out
    have y0 := Xp.cell_blk hTb9 (i := 0) rfl
    have y1 := Xp.cell_blk hTb9 (i := 1) rfl
    have y2 := Xp.cell_blk hTb9 (i := 2) rfl
    have y3 := Xp.cell_blk hTb9 (i := 3) rfl
    have y4 := Xp.cell_blk hTb9 (i := 4) rfl
    have y5 := Xp.cell_blk hTb9 (i := 5) rfl
    have y6 := Xp.cell_blk hTb9 (i := 6) rfl
    clear hTb9
    cases MB with
    | false =>
      have hRf : Hid (R = false) := Lib.hid (by have h9 := hR.out; first | exact h9.symm | (rw [← h9]; simp))
      have hfin := Lib.hid (hbaH.out.trans (hqw3.out.mono hbaH.out.size))
      clear hR
      go_wp2_with fail
      (try simp only [Exit.inBlock, Exit.then])
      go_ret
      exact ⟨by rw [hRf.out]; rfl, hfin.out⟩
    | true =>
      go_wp2_with fail
      refine (hcA.out w3 hqw3.out).mono ?_
      rintro e w4 ⟨rfl, hbw4⟩
      have hqw4 := Lib.hid (hqw3.out.trans (hbw4.mono hqw3.out.size))
      clear hbw4 y0 y1 y2 y3 y4 y5 y6
      have hTb9 := hTb.out w4 hqw4.out
      have y0 := Xp.cell_blk hTb9 (i := 0) rfl
      have y1 := Xp.cell_blk hTb9 (i := 1) rfl
      have y2 := Xp.cell_blk hTb9 (i := 2) rfl
      have y3 := Xp.cell_blk hTb9 (i := 3) rfl
      have y4 := Xp.cell_blk hTb9 (i := 4) rfl
      have y5 := Xp.cell_blk hTb9 (i := 5) rfl
      have y6 := Xp.cell_blk hTb9 (i := 6) rfl
      clear hTb9
      cases MA with
      | false =>
        have hRf : Hid (R = false) := Lib.hid (by have h9 := hR.out; first | exact h9.symm | (rw [← h9]; simp))
        have hfin := Lib.hid (hbaH.out.trans (hqw4.out.mono hbaH.out.size))
        clear hR
        go_wp2_with fail
        (try simp only [Exit.inBlock, Exit.then])
        go_ret
        exact ⟨by rw [hRf.out]; rfl, hfin.out⟩
      | true =>
        have hdr : Below w4.heap.size w4 w4.drew := Joins.below_draws w4.heap.size w4 1
        go_upto_region 3 with fail
        refine Pl.wp_region_plan 10 (.take 0 (.take 1 (.take 3 (.take 4 (.take 5 (.take 7 (.take 8 (.take 9 (.run 2 (.take 6 .done)))))))))) (fun x => Below w4.heap.size w4 x) (by kernel_rfl) (by kernel_rfl) (by exact hdr) ?_
        simp only [Pl.fill, List.getElem?_cons_zero, List.getElem?_cons_succ, List.drop_succ_cons, List.drop_zero]
        iterate 8
          refine Pl.take_go ?_ (by rfl) (fun _ _ _ h => h) ?_ ?_
          rotate_left
          · (intro x hSw; have q0 := cell_keep y0 (hSw); have q1 := cell_keep y1 (hSw); have q2 := cell_keep y2 (hSw); have q3 := cell_keep y3 (hSw); have q4 := cell_keep y4 (hSw); have q5 := cell_keep y5 (hSw); have q6 := cell_keep y6 (hSw); go_simp; try with_reducible rfl)
          (try simp only [Act.put, List.setIfInBounds_toArray, List.set_cons_zero, List.set_cons_succ])
        refine Pl.run_go (fun K hK => ?_)
        go_simp
        refine (hcC.out w4.drew (hqw4.out.trans (hdr.mono hqw4.out.size))).mono ?_
        rintro e w5 ⟨rfl, hbw5⟩
        have hdw5 : Hid (Below w4.heap.size w4 w5) := Lib.hid (hdr.trans (hbw5.mono hdr.size))
        have hqw5 := Lib.hid (hqw4.out.trans (hdw5.out.mono hqw4.out.size))
        dsimp only
        refine hK.out _ _ (Pl.more_go (fun x => Below w5.heap.size w5 x) (fun x hx => hdw5.out.trans (hx.mono hdw5.out.size)) (Below.refl _ _) ?_)
        clear hK K
        try simp only [Act.put, List.setIfInBounds_toArray, List.set_cons_zero, List.set_cons_succ]
        iterate 1
          refine Pl.take_go ?_ (by rfl) (fun _ _ _ h => h) ?_ ?_
          rotate_left
          · (intro x hSw; have q0 := cell_keep y0 (hdw5.out.trans (hSw.mono hdw5.out.size)); have q1 := cell_keep y1 (hdw5.out.trans (hSw.mono hdw5.out.size)); have q2 := cell_keep y2 (hdw5.out.trans (hSw.mono hdw5.out.size)); have q3 := cell_keep y3 (hdw5.out.trans (hSw.mono hdw5.out.size)); have q4 := cell_keep y4 (hdw5.out.trans (hSw.mono hdw5.out.size)); have q5 := cell_keep y5 (hdw5.out.trans (hSw.mono hdw5.out.size)); have q6 := cell_keep y6 (hdw5.out.trans (hSw.mono hdw5.out.size)); go_simp; try with_reducible rfl)
          (try simp only [Act.put, List.setIfInBounds_toArray, List.set_cons_zero, List.set_cons_succ])
        refine Pl.done_go ?_
        clear hbw5 hdw5 hdr hcC y0 y1 y2 y3 y4 y5 y6
        have hTb9 := hTb.out w5 hqw5.out
        have y0 := Xp.cell_blk hTb9 (i := 0) rfl
        have y1 := Xp.cell_blk hTb9 (i := 1) rfl
        have y2 := Xp.cell_blk hTb9 (i := 2) rfl
        have y3 := Xp.cell_blk hTb9 (i := 3) rfl
        have y4 := Xp.cell_blk hTb9 (i := 4) rfl
        have y5 := Xp.cell_blk hTb9 (i := 5) rfl
        have y6 := Xp.cell_blk hTb9 (i := 6) rfl
        clear hTb9
        go_wp2_with fail
        refine (hcD.out w5 hqw5.out).mono ?_
        rintro e w6 ⟨rfl, hbw6⟩
        have hqw6 := Lib.hid (hqw5.out.trans (hbw6.mono hqw5.out.size))
        clear hbw6 y0 y1 y2 y3 y4 y5 y6
        have hTb9 := hTb.out w6 hqw6.out
        have y0 := Xp.cell_blk hTb9 (i := 0) rfl
        have y1 := Xp.cell_blk hTb9 (i := 1) rfl
        have y2 := Xp.cell_blk hTb9 (i := 2) rfl
        have y3 := Xp.cell_blk hTb9 (i := 3) rfl
        have y4 := Xp.cell_blk hTb9 (i := 4) rfl
        have y5 := Xp.cell_blk hTb9 (i := 5) rfl
        have y6 := Xp.cell_blk hTb9 (i := 6) rfl
        clear hTb9
        by_cases j1 : DN ≤ 32
        case' neg =>
          have t1 : decide ((DN : Int) ≤ 32) = false := by simp; omega
          have hR := Lib.hid (show false = R by rw [← hR.out]; simp [j1])
          have hRf : Hid (R = false) := Lib.hid (by have h9 := hR.out; first | exact h9.symm | (rw [← h9]; simp))
          have hfin := Lib.hid (hbaH.out.trans (hqw6.out.mono hbaH.out.size))
          clear hR
          go_wp2_with fail
          (try simp only [Exit.inBlock, Exit.then])
          go_ret
          exact ⟨by rw [hRf.out]; rfl, hfin.out⟩
        have t1 : decide ((DN : Int) ≤ 32) = true := by simp; omega
        by_cases j2 : CN + n1 + n2 ≤ 4096
        case' neg =>
          have t2 : decide ((CN : Int) + (n1 : Int) + (n2 : Int) ≤ 4096) = false := by simp; omega
          have hR := Lib.hid (show false = R by rw [← hR.out]; simp [j2])
          have hRf : Hid (R = false) := Lib.hid (by have h9 := hR.out; first | exact h9.symm | (rw [← h9]; simp))
          have hfin := Lib.hid (hbaH.out.trans (hqw6.out.mono hbaH.out.size))
          clear hR
          go_wp2_with fail
          (try simp only [Exit.inBlock, Exit.then])
          go_ret
          exact ⟨by rw [hRf.out]; rfl, hfin.out⟩
        have t2 : decide ((CN : Int) + (n1 : Int) + (n2 : Int) ≤ 4096) = true := by simp; omega
        have hR := Lib.hid (show (decide (zs ≤ 65536)) = R by rw [← hR.out, hzs'.out]; simp [j1, j2])
        clear j1 j2
        go_wp2_with fail
        refine (hcW.out w6 hqw6.out).mono ?_
        rintro e w7 ⟨rfl, hbw7⟩
        have hqw7 := Lib.hid (hqw6.out.trans (hbw7.mono hqw6.out.size))
        clear hbw7 y0 y1 y2 y3 y4 y5 y6
        have hTb9 := hTb.out w7 hqw7.out
        have y0 := Xp.cell_blk hTb9 (i := 0) rfl
        have y1 := Xp.cell_blk hTb9 (i := 1) rfl
        have y2 := Xp.cell_blk hTb9 (i := 2) rfl
        have y3 := Xp.cell_blk hTb9 (i := 3) rfl
        have y4 := Xp.cell_blk hTb9 (i := 4) rfl
        have y5 := Xp.cell_blk hTb9 (i := 5) rfl
        have y6 := Xp.cell_blk hTb9 (i := 6) rfl
        clear hTb9
        have hfin := Lib.hid (hbaH.out.trans (hqw7.out.mono hbaH.out.size))
        have hzs := hzs'.out
        by_cases j3 : zs ≤ 65536
        · have t3 : decide ((zs : Int) ≤ 65536) = true := by simp; omega
          have hRf : Hid (R = true) := Lib.hid (by rw [← hR.out]; simp [j3])
          clear hR j3
          go_wp2_with fail
          go_ret
          exact ⟨by rw [hRf.out]; rfl, hfin.out⟩
        · have t3 : decide ((zs : Int) ≤ 65536) = false := by simp; omega
          have hRf : Hid (R = false) := Lib.hid (by rw [← hR.out]; simp [j3])
          clear hR j3
          go_wp2_with fail
          go_ret
          exact ⟨by rw [hRf.out]; rfl, hfin.out⟩
end Go.Proofs.YtokdnhdfmgfkeaaGreatDoor.Xp
end

section
namespace Go.Proofs.YtokdnhdfmgfkeaaGreatDoor.Xp
open Go.RowKit UtfW Xl Xo Xt

def writeB : ByteArray := ⟨#[119, 114, 105, 116, 101]⟩
def DocP (d : Doc) (w : World) (e : Ending) (w' : World) : Prop := Below w.heap.size w w' ∧ ((mayD d = true ∧ e = .returned (.tuple #[.string (strOf (writeD d)), .nilIface])) ∨ (mayD d = false ∧ ∃ v, e = .returned (.tuple #[.string ⟨#[]⟩, v]) ∧ Er.Fe w' w'.heap.size 80 0 [writeB] v))
set_option maxHeartbeats 8000000 in
set_option maxRecDepth 100000 in
theorem Doc_any (X : Nat → Prop) (w : World) (hU : Un w) (v : Value) (d : Doc) (hd : DocI X w v d) (hX : ∀ j, X j → j < w.heap.size) (hB : DocB d) :
    Calls Tryz.prog 13 #[v] w (DocP d w) := by
  obtain ⟨A1, n1, c1, kd, nm, tx, Ar, n5, cr, Ak, n6, ck, A2, n2, c2, hv, -⟩ := doc_parts hd
  subst hv
  have hba := below_alloc w (.cells #[.slice A1 n1 c1, .int .i64 kd, .string (strOf nm), .string (strOf tx), .slice Ar n5 cr, .slice Ak n6 ck, .slice A2 n2 c2] 27)
  have hnb := heap_alloc_new w (.cells #[.slice A1 n1 c1, .int .i64 kd, .string (strOf nm), .string (strOf tx), .slice Ar n5 cr, .slice Ak n6 ck, .slice A2 n2 c2] 27)
  obtain ⟨T, hT⟩ : ∃ T, w.heap.size = T := ⟨_, rfl⟩
  obtain ⟨w1, hw1⟩ : ∃ w1, w.alloc (.cells #[.slice A1 n1 c1, .int .i64 kd, .string (strOf nm), .string (strOf tx), .slice Ar n5 cr, .slice Ak n6 ck, .slice A2 n2 c2] 27) = w1 := ⟨_, rfl⟩
  rw [hw1] at hba hnb
  rw [hT] at hnb
  have hTb : Hid (∀ x, Below w1.heap.size w1 x → x.heap[T]? = some (.cells #[.slice A1 n1 c1, .int .i64 kd, .string (strOf nm), .string (strOf tx), .slice Ar n5 cr, .slice Ak n6 ck, .slice A2 n2 c2] 27)) := Lib.hid fun x hx => (hx.block T (Array.getElem?_eq_some_iff.1 hnb).1).trans hnb
  have hlow : ∀ x, Below w1.heap.size w1 x → Below w.heap.size w x := fun x hx => hba.trans (hx.mono hba.size)
  have hXx : ∀ x, Below w1.heap.size w1 x → ∀ j, X j → j < x.heap.size := fun x hx j hj => Nat.lt_of_lt_of_le (hX j hj) (hlow x hx).size
  have hdx : ∀ x, Below w1.heap.size w1 x → DocI X x (.agg #[.slice A1 n1 c1, .int .i64 kd, .string (strOf nm), .string (strOf tx), .slice Ar n5 cr, .slice Ak n6 ck, .slice A2 n2 c2]) d := fun x hx => Xp.DocI.keep hd (fun k hk => (hlow x hx).block k (hX k hk))
  have hcM := Lib.hid (May_any X w1 (hU.below hba) _ d (hdx w1 (Below.refl _ _)) (hXx w1 (Below.refl _ _)) hB)
  have hcW := Lib.hid (fun (x : World) (hx : Below w1.heap.size w1 x) => written_any X x _ d (hdx x hx) (hXx x hx) hB.wr)
  have y0 := Xp.cell_blk hnb (i := 0) rfl
  have y1 := Xp.cell_blk hnb (i := 1) rfl
  have y2 := Xp.cell_blk hnb (i := 2) rfl
  have y3 := Xp.cell_blk hnb (i := 3) rfl
  have y4 := Xp.cell_blk hnb (i := 4) rfl
  have y5 := Xp.cell_blk hnb (i := 5) rfl
  have y6 := Xp.cell_blk hnb (i := 6) rfl
  have hbaH := Lib.hid hba
  obtain ⟨P, hP⟩ : ∃ P : Ending → World → Prop, (DocP d w) = P := ⟨_, rfl⟩
  rw [hP]
  obtain ⟨M, hM⟩ : ∃ b, mayD d = b := ⟨_, rfl⟩
  obtain ⟨ST, hST⟩ : ∃ b, strOf (writeD d) = b := ⟨_, rfl⟩
  rw [hM] at hcM
  rw [hST] at hcW
  have hok : Hid (M = true → ∀ w', Below w.heap.size w w' → P (.returned (.tuple #[.string ST, .nilIface])) w') := Lib.hid fun e w' hw => by
    rw [← hP]
    exact ⟨hw, .inl ⟨hM.trans e, by rw [hST]⟩⟩
  have hno : Hid (M = false → ∀ w' v, Below w.heap.size w w' → Er.Fe w' w'.heap.size 80 0 [writeB] v → P (.returned (.tuple #[.string ⟨#[]⟩, v])) w') := Lib.hid fun e w' v hw hf => by
    rw [← hP]
    exact ⟨hw, .inr ⟨hM.trans e, v, rfl, hf⟩⟩
  clear hd hX hB hba hnb hlow hXx hdx hU hP hM hST
  go_enter Tryz.func13, Tryz.ntmps13
  go_wp2_with fail
  refine hcM.out.mono ?_
  rintro e w2 ⟨rfl, hb2⟩
  have hq2 := Lib.hid hb2
  have hTb9 := hTb.out w2 hb2
  clear hb2 y0 y1 y2 y3 y4 y5 y6
  have y0 := Xp.cell_blk hTb9 (i := 0) rfl
  have y1 := Xp.cell_blk hTb9 (i := 1) rfl
  have y2 := Xp.cell_blk hTb9 (i := 2) rfl
  have y3 := Xp.cell_blk hTb9 (i := 3) rfl
  have y4 := Xp.cell_blk hTb9 (i := 4) rfl
  have y5 := Xp.cell_blk hTb9 (i := 5) rfl
  have y6 := Xp.cell_blk hTb9 (i := 6) rfl
  clear hTb9
  cases M with
  | false =>
    clear y0 y1 y2 y3 y4 y5 y6
    go_wp2_with fail
    refine (Er.New_any 80 0 (by decide) w2).mono ?_
    rintro e w7 ⟨v7, rfl, hb7, hF7⟩
    have hq7 := Lib.hid (hq2.out.trans (hb7.mono hq2.out.size))
    clear hb7
    go_wp2_with fail
    refine (Er.Wrap_any writeB _ _ _ _ w7 hF7).mono ?_
    rintro e w8 ⟨v8, rfl, hb8, hF8⟩
    have hq8 := hq7.out.trans (hb8.mono hq7.out.size)
    have hfin : Hid (P (.returned (.tuple #[.string ⟨#[]⟩, v8])) w8) := Lib.hid (hno.out (by simp) w8 v8 (hbaH.out.trans (hq8.mono hbaH.out.size)) hF8)
    clear hq8 hb8 hF8 hF7
    go_wp2_with fail
    exact hfin.out
  | true =>
    go_wp2_with fail
    refine (hcW.out w2 hq2.out).mono ?_
    rintro e w3 ⟨rfl, hb3⟩
    have hfin : Hid (P (.returned (.tuple #[.string ST, .nilIface])) w3) := Lib.hid (hok.out (by simp) w3 (hbaH.out.trans ((hq2.out.trans (hb3.mono hq2.out.size)).mono hbaH.out.size)))
    clear hb3
    go_wp2_with fail
    exact hfin.out
end Go.Proofs.YtokdnhdfmgfkeaaGreatDoor.Xp
end

section
namespace Go.Proofs.YtokdnhdfmgfkeaaGreatDoor.Xp
open Go.RowKit UtfW Xl Xo Xt

theorem writeA_mem : ∀ {l : List At} {a : At}, a ∈ l → a.1.length ≤ (writeA l).length ∧ a.2.length ≤ (writeA l).length
  | [], a, h => by cases h
  | x :: l, a, h => by
    rw [writeA]
    simp only [List.length_append, List.length_cons]
    rcases List.mem_cons.1 h with rfl | h
    · have := Xp.esc_ge true a.2
      omega
    · have := writeA_mem h
      omega
theorem writeA_ge : ∀ l : List At, l.length ≤ (writeA l).length
  | [] => Nat.le_refl _
  | x :: l => by
    have := writeA_ge l
    rw [writeA, List.length_cons]
    simp only [List.length_append, List.length_cons]
    omega
theorem fairL_mem : ∀ {l : List Nd} {was : Int} {i : Nat} {x : Nd}, fairL was l = true → l[i]? = some x → fairN x = true
  | [], was, i, x, _, h => by simp at h
  | y :: l, was, 0, x, hf, h => by
    rw [fairL, Bool.and_eq_true, Bool.and_eq_true] at hf
    injection h with h
    rw [← h]
    exact hf.1.1
  | y :: l, was, i + 1, x, hf, h => by
    rw [fairL, Bool.and_eq_true] at hf
    exact fairL_mem hf.2 h
theorem writeL_mem : ∀ {l : List Nd} {i : Nat} {x : Nd}, l[i]? = some x → (writeN x).length ≤ (writeL l).length
  | [], i, x, h => by simp at h
  | y :: l, 0, x, h => by
    injection h with h
    rw [← h, writeL, List.length_append]
    omega
  | y :: l, i + 1, x, h => by
    have := writeL_mem (l := l) (i := i) h
    rw [writeL, List.length_append]
    omega
theorem fair_sm : ∀ (k : Nat) (n : Nd), SizeOf.sizeOf n ≤ k → fairN n = true → (writeN n).length ≤ 1000000 → smN n := by
  intro k
  induction k with
  | zero =>
    intro n hk
    obtain ⟨kd, nm, tx, as_, ks⟩ := n
    simp at hk
  | succ k ih =>
    intro n hk hf hw
    obtain ⟨kd, nm, tx, as_, ks⟩ := n
    rw [fairN] at hf
    rw [writeN] at hw
    rw [smN]
    by_cases h1 : kd = 1
    · rw [if_pos h1] at hf hw
      simp only [Bool.and_eq_true, decide_eq_true_eq] at hf
      obtain ⟨⟨⟨h2, h3⟩, h4⟩, h5⟩ := hf
      subst h3
      simp only [List.length_append, List.length_cons] at hw
      refine ⟨by omega, by simp, ⟨by have := writeA_ge as_; omega, fun a ha => by have := writeA_mem ha; omega⟩, smL_of fun i x hx => ih x (by have := kid_lt (k := kd) (nm := nm) (tx := []) (as_ := as_) hx; omega) (fairL_mem h5 hx) ?_⟩
      have h6 := writeL_mem hx
      have h7 : ks.isEmpty = false := by
        cases ks with
        | nil => simp at hx
        | cons a b => rfl
      rw [h7] at hw
      simp only [Bool.false_eq_true, if_false, List.length_append, List.length_cons, List.length_nil] at hw
      omega
    rw [if_neg h1] at hf hw
    by_cases h2 : kd = 2
    · rw [if_pos h2] at hf hw
      simp only [Bool.and_eq_true, decide_eq_true_eq, List.isEmpty_iff] at hf
      obtain ⟨⟨⟨⟨rfl, rfl⟩, rfl⟩, _⟩, _⟩ := hf
      have := Xp.esc_ge false tx
      exact ⟨by simp, by omega, ⟨by simp, fun a ha => by cases ha⟩, by rw [smL]; trivial⟩
    rw [if_neg h2] at hf hw
    by_cases h3 : kd = 3
    · rw [if_pos h3] at hf hw
      simp only [Bool.and_eq_true, decide_eq_true_eq, List.isEmpty_iff] at hf
      obtain ⟨⟨⟨⟨⟨rfl, rfl⟩, rfl⟩, _⟩, _⟩, _⟩ := hf
      simp only [List.length_append] at hw
      exact ⟨by simp, by omega, ⟨by simp, fun a ha => by cases ha⟩, by rw [smL]; trivial⟩
    rw [if_neg h3] at hf hw
    by_cases h4 : kd = 4
    · rw [if_pos h4] at hf hw
      simp only [Bool.and_eq_true, decide_eq_true_eq, List.isEmpty_iff] at hf
      obtain ⟨⟨⟨⟨⟨⟨rfl, rfl⟩, _⟩, _⟩, _⟩, _⟩, _⟩ := hf
      simp only [List.length_append, List.length_cons, List.length_nil] at hw
      refine ⟨by omega, ?_, ⟨by simp, fun a ha => by cases ha⟩, by rw [smL]; trivial⟩
      by_cases ht : tx = []
      · rw [ht]; simp
      · rw [if_neg ht, List.length_cons] at hw
        omega
    · rw [if_neg h4] at hf
      cases hf
theorem miscOk_mem : ∀ {l : List Nd} {i : Nat} {x : Nd}, miscOk l = true → l[i]? = some x → fairN x = true
  | [], i, x, _, h => by simp at h
  | y :: l, 0, x, hf, h => by
    rw [miscOk, Bool.and_eq_true, Bool.and_eq_true] at hf
    injection h with h
    rw [← h]
    exact hf.1.2
  | y :: l, i + 1, x, hf, h => by
    rw [miscOk, Bool.and_eq_true] at hf
    exact miscOk_mem hf.2 h
theorem may_docB {d : Doc} (h : mayD d = true) : DocB d ∧ (writeD d).length ≤ 65536 := by
  unfold mayD at h
  simp only [Bool.and_eq_true, decide_eq_true_eq] at h
  obtain ⟨⟨⟨⟨⟨⟨h1, h2⟩, h3⟩, h4⟩, h5⟩, h6⟩, h7⟩ := h
  have h8 := h7
  unfold writeD at h8
  simp only [List.length_append] at h8
  refine ⟨⟨by omega, by omega, by omega, by omega, fair_sm _ _ (Nat.le_refl _) h2 (by omega), smL_of fun i x hx => fair_sm _ _ (Nat.le_refl _) (miscOk_mem h3 hx) ?_, smL_of fun i x hx => fair_sm _ _ (Nat.le_refl _) (miscOk_mem h4 hx) ?_⟩, h7⟩
  · have := writeL_mem hx
    omega
  · have := writeL_mem hx
    omega
theorem may_back {d : Doc} (h : mayD d = true) : parseF (writeD d) = (0, 0, d) := by
  obtain ⟨ts, h1, h2⟩ := back h
  unfold parseF
  rw [h1]
  simp [h2]
theorem parseF_may {S : Tx} {p : Nat} {d : Doc} (hS : S.length ≤ 8192) (h : parseF S = (0, p, d)) : mayD d = true := by
  unfold parseF at h
  split at h
  · rename_i hne
    injection h with h _
    exact absurd h hne
  · rename_i he
    have he : (Xl.allF S).1 = 0 := Classical.byContradiction he
    have hall : Xl.allF S = (0, (Xl.allF S).2.1, (Xl.allF S).2.2) := by rw [← he]
    exact parsed_may hS hall h
end Go.Proofs.YtokdnhdfmgfkeaaGreatDoor.Xp
end

section
namespace Go.Proofs.YtokdnhdfmgfkeaaGreatDoor.Xt
open Xl UtfW
open Go.Proofs.YtokdnhdfmgfkeaaGreatDoor.Qx (V)

/-! ### The builder over them -/
end Go.Proofs.YtokdnhdfmgfkeaaGreatDoor.Xt
end

section
namespace Go.Proofs.YtokdnhdfmgfkeaaGreatDoor.Xt
open Go.RowKit UtfW Xl Er

theorem ParP.ok {S : Tx} {w w' : World} {e : Ending} {p : Nat} {d : Doc} (h : ParP S w e w') (hr : parseF S = (0, p, d)) : Below w.heap.size w w' ∧ ∃ vd, e = .returned (.tuple #[vd, .nilIface]) ∧ DocI (fun k => w.heap.size ≤ k ∧ k < w'.heap.size) w' vd d := by
  obtain ⟨h1, vd, ev, rfl, h2⟩ := h
  rw [hr] at h2
  rcases h2 with ⟨_, rfl, h3⟩ | ⟨h3, _⟩
  · exact ⟨h1, vd, rfl, h3⟩
  · exact absurd rfl h3
theorem ParP.no {S : Tx} {w w' : World} {e : Ending} {cd : Int} {p : Nat} {d : Doc} (h : ParP S w e w') (hr : parseF S = (cd, p, d)) (hc : cd ≠ 0) : Below w.heap.size w w' ∧ d = noDoc ∧ ∃ v, e = .returned (.tuple #[zeroDoc, v]) ∧ Er.Fe w' w'.heap.size cd (p : Nat) [xmlB] v := by
  obtain ⟨h1, vd, ev, rfl, h2⟩ := h
  rw [hr] at h2
  rcases h2 with ⟨h3, _⟩ | ⟨_, h3, rfl, h4⟩
  · exact absurd h3 hc
  · exact ⟨h1, h3, ev, rfl, h4⟩
end Go.Proofs.YtokdnhdfmgfkeaaGreatDoor.Xt
end

section
namespace Go.Proofs.YtokdnhdfmgfkeaaGreatDoor.Xp
open Go.RowKit UtfW Xl Xo Xt Er

def aw1 : Doc := ⟨[], .mk 1 [97] [] [([120], [49, 32, 60, 32, 50])] [.mk 2 [] [97, 32, 38, 32, 98] [] []], []⟩
set_option maxRecDepth 100000 in
theorem aw1_may : mayD aw1 = true := by decide +kernel
set_option maxRecDepth 100000 in
theorem aw1_wr : writeD aw1 = [60, 97, 32, 120, 61, 34, 49, 32, 38, 108, 116, 59, 32, 50, 34, 62, 97, 32, 38, 97, 109, 112, 59, 32, 98, 60, 47, 97, 62] := by decide +kernel
set_option maxRecDepth 100000 in
theorem aw2_may : mayD noDoc = false := by decide +kernel
theorem docB_no : DocB noDoc := ⟨by decide, by decide, by decide, by decide +kernel, by
  show smN zero
  unfold zero
  rw [smN]
  exact ⟨by simp, by simp, ⟨by simp, fun a ha => by cases ha⟩, by rw [smL]; trivial⟩, by
  show smL []
  rw [smL]; trivial, by
  show smL []
  rw [smL]; trivial⟩
theorem DocP.ok {d : Doc} {w w' : World} {e : Ending} (h : DocP d w e w') (hm : mayD d = true) : Below w.heap.size w w' ∧ e = .returned (.tuple #[.string (strOf (writeD d)), .nilIface]) := by
  obtain ⟨h1, h2 | h2⟩ := h
  · exact ⟨h1, h2.2⟩
  · rw [hm] at h2
    cases h2.1
theorem DocP.no {d : Doc} {w w' : World} {e : Ending} (h : DocP d w e w') (hm : mayD d = false) : Below w.heap.size w w' ∧ ∃ v, e = .returned (.tuple #[.string ⟨#[]⟩, v]) ∧ Er.Fe w' w'.heap.size 80 0 [writeB] v := by
  obtain ⟨h1, h2 | h2⟩ := h
  · rw [hm] at h2
    cases h2.1
  · exact ⟨h1, h2.2⟩
set_option maxHeartbeats 4000000 in
set_option maxRecDepth 100000 in
theorem awake11 (w : World) (hU : Un w) (hE : En w.heap.size w) :
    Calls Tryz.prog 11 #[] w fun e w' => e = .returned (.bool true) ∧ Below w.heap.size w w' := by
  obtain ⟨b, hb⟩ : ∃ b, w.heap.size = b := ⟨_, rfl⟩
  have hb1 := below_alloc w (.cells #[.string ⟨#[120]⟩, .string ⟨#[49, 32, 60, 32, 50]⟩] 55)
  have hs1 : Sq AtEl 2 (w.alloc (.cells #[.string ⟨#[120]⟩, .string ⟨#[49, 32, 60, 32, 50]⟩] 55)) (some ⟨w.heap.size, 0, none⟩) 1 1 [([120], [49, 32, 60, 32, 50])] :=
    sq_one w [.string ⟨#[120]⟩, .string ⟨#[49, 32, 60, 32, 50]⟩] ([120], [49, 32, 60, 32, 50]) 55 (0, 0) rfl rfl
  have hz1 : (w.alloc (.cells #[.string ⟨#[120]⟩, .string ⟨#[49, 32, 60, 32, 50]⟩] 55)).heap.size = w.heap.size + 1 := World.size_alloc _ _
  obtain ⟨w1, hw1⟩ : ∃ w1, w.alloc (.cells #[.string ⟨#[120]⟩, .string ⟨#[49, 32, 60, 32, 50]⟩] 55) = w1 := ⟨_, rfl⟩
  rw [hw1] at hb1 hs1 hz1
  have hb2 := below_alloc w1 (.cells #[.int .i64 2, .string ⟨#[]⟩, .string ⟨#[97, 32, 38, 32, 98]⟩, .slice none 0 0, .slice none 0 0] 25)
  have hs2 : Sq (NdE (fun k => k < b + 2)) 5 (w1.alloc (.cells #[.int .i64 2, .string ⟨#[]⟩, .string ⟨#[97, 32, 38, 32, 98]⟩, .slice none 0 0, .slice none 0 0] 25)) (some ⟨w1.heap.size, 0, none⟩) 1 1 [Nd.mk 2 [] [97, 32, 38, 32, 98] [] []] :=
    sq_one w1 [.int .i64 2, .string ⟨#[]⟩, .string ⟨#[97, 32, 38, 32, 98]⟩, .slice none 0 0, .slice none 0 0] (Nd.mk 2 [] [97, 32, 38, 32, 98] [] []) 25 (0, 0) rfl (NdI.make (nm := []) (tx := [97, 32, 38, 32, 98]) (as_ := []) (ks := []) (Sq.none_ _) (fun a e => by cases e) (Sq.none_ _) (fun a e => by cases e))
  have hz2 : (w1.alloc (.cells #[.int .i64 2, .string ⟨#[]⟩, .string ⟨#[97, 32, 38, 32, 98]⟩, .slice none 0 0, .slice none 0 0] 25)).heap.size = w1.heap.size + 1 := World.size_alloc _ _
  obtain ⟨w2, hw2⟩ : ∃ w2, w1.alloc (.cells #[.int .i64 2, .string ⟨#[]⟩, .string ⟨#[97, 32, 38, 32, 98]⟩, .slice none 0 0, .slice none 0 0] 25) = w2 := ⟨_, rfl⟩
  rw [hw2] at hb2 hs2 hz2
  rw [hz1] at hs2 hz2
  have hb3 := below_alloc w2 (.cells #[.int .i64 1, .string ⟨#[97]⟩, .string ⟨#[]⟩, .slice (some ⟨w.heap.size, 0, none⟩) 1 1, .slice (some ⟨w.heap.size + 1, 0, none⟩) 1 1] 25)
  have hz3 : (w2.alloc (.cells #[.int .i64 1, .string ⟨#[97]⟩, .string ⟨#[]⟩, .slice (some ⟨w.heap.size, 0, none⟩) 1 1, .slice (some ⟨w.heap.size + 1, 0, none⟩) 1 1] 25)).heap.size = w2.heap.size + 1 := World.size_alloc _ _
  obtain ⟨w3, hw3⟩ : ∃ w3, w2.alloc (.cells #[.int .i64 1, .string ⟨#[97]⟩, .string ⟨#[]⟩, .slice (some ⟨w.heap.size, 0, none⟩) 1 1, .slice (some ⟨w.heap.size + 1, 0, none⟩) 1 1] 25) = w3 := ⟨_, rfl⟩
  rw [hw3] at hb3 hz3
  have h13 := hb2.trans (hb3.mono hb2.size)
  have hx3 := hb1.trans (h13.mono hb1.size)
  have q1 : ∀ a, (some ⟨w.heap.size, 0, none⟩ : Option Addr) = some a → 0 < 1 → a.block < b + 2 := fun a e _ => by
    injection e with e
    rw [← e, ← hb]
    show w.heap.size < w.heap.size + 2
    omega
  have q2 : ∀ a, (some ⟨w.heap.size + 1, 0, none⟩ : Option Addr) = some a → 0 < 1 → a.block < b + 2 := fun a e _ => by
    injection e with e
    rw [← e, ← hb]
    show w.heap.size + 1 < w.heap.size + 2
    omega
  have hn3 : NdI (fun k => k < b + 2) w3 [.int .i64 1, .string ⟨#[97]⟩, .string ⟨#[]⟩, .slice (some ⟨w.heap.size, 0, none⟩) 1 1, .slice (some ⟨w.heap.size + 1, 0, none⟩) 1 1] (Nd.mk 1 [97] [] [([120], [49, 32, 60, 32, 50])] [Nd.mk 2 [] [97, 32, 38, 32, 98] [] []]) :=
    NdI.make (nm := [97]) (tx := []) (as_ := [([120], [49, 32, 60, 32, 50])]) (ks := [Nd.mk 2 [] [97, 32, 38, 32, 98] [] []]) (hs1.below AtEl.to h13) q1 (sq_keep hs2 hb3 (fun vs x h => NdI.later h (fun k hk => by rw [hz2, hb]; omega) hb3)) q2
  have hd3 : DocI (fun k => k < b + 2) w3 (.agg #[.slice none 0 0, .int .i64 1, .string ⟨#[97]⟩, .string ⟨#[]⟩, .slice (some ⟨w.heap.size, 0, none⟩) 1 1, .slice (some ⟨w.heap.size + 1, 0, none⟩) 1 1, .slice none 0 0]) aw1 :=
    ⟨none, 0, _, _, _, _, _, none, 0, rfl, Sq.none_ _, fun a e => (by cases e), hn3, Sq.none_ _, fun a e => (by cases e)⟩
  have hdc := Lib.hid (Doc_any _ w3 (hU.below hx3) _ aw1 hd3 (fun j hj => by rw [hz3, hz2, hb]; omega) (may_docB aw1_may).1)
  have hx3H := Lib.hid hx3
  have hUH := Lib.hid hU
  have hEH := Lib.hid hE
  clear q1 q2 hb1 hs1 hz1 hb2 hs2 hz2 hb3 hz3 h13 hx3 hn3 hd3 hU hE hb
  subst hw3
  subst hw2
  subst hw1
  go_enter Tryz.func11, Tryz.ntmps11
  go_wp2_with fail
  refine hdc.out.mono ?_
  intro e4 w4 h4
  obtain ⟨hb4, rfl⟩ := h4.ok aw1_may
  have hx4 := Lib.hid (hx3H.out.trans (hb4.mono hx3H.out.size))
  rw [aw1_wr]
  have str1 : ((strOf [60, 97, 32, 120, 61, 34, 49, 32, 38, 108, 116, 59, 32, 50, 34, 62, 97, 32, 38, 97, 109, 112, 59, 32, 98, 60, 47, 97, 62]).toList == [60, 97, 32, 120, 61, 34, 49, 32, 38, 108, 116, 59, 32, 50, 34, 62, 97, 32, 38, 97, 109, 112, 59, 32, 98, 60, 47, 97, 62]) = true := by rw [str_eqL]; decide
  clear h4 hb4 hdc
  generalize strOf [60, 97, 32, 120, 61, 34, 49, 32, 38, 108, 116, 59, 32, 50, 34, 62, 97, 32, 38, 97, 109, 112, 59, 32, 98, 60, 47, 97, 62] = ST at str1 ⊢
  have hd2 := Lib.hid (Doc_any (fun _ => False) w4 (hUH.out.below hx4.out) _ noDoc (DocI.zero _ _) (fun j h => h.elim) docB_no)
  unfold zeroDoc at hd2
  go_wp2_with fail
  refine hd2.out.mono ?_
  intro e5 w5 h5
  obtain ⟨hb5, v, rfl, hf⟩ := h5.no aw2_may
  obtain ⟨T5, a5, rfl⟩ := hf.iface
  have hx5 := Lib.hid (hx4.out.trans (hb5.mono hx4.out.size))
  have hcc := Lib.hid (Code_any 80 0 _ _ w.heap.size w5 (hEH.out.on hx5.out) hf)
  clear h5 hb5 hf hd2
  go_wp2_with fail
  refine hcc.out.mono ?_
  rintro e w6 ⟨rfl, hb6⟩
  have hfin := Lib.hid (hx5.out.trans (hb6.mono hx5.out.size))
  clear hb6 hcc
  go_wp2_with fail
  go_ret
  exact ⟨rfl, hfin.out⟩
end Go.Proofs.YtokdnhdfmgfkeaaGreatDoor.Xp
end

section
namespace Go.Proofs.YtokdnhdfmgfkeaaGreatDoor.Xt
open Go.RowKit UtfW Xl

theorem strOf_inj {a b : Tx} (h : strOf a = strOf b) : a = b := by
  have := congrArg (fun x : ByteArray => x.data.toList) h
  simpa [strOf] using this
theorem str_ne {a b : Tx} (h : a ≠ b) : ((strOf a).toList == (strOf b).toList) = false := by
  rw [str_beq, decide_eq_false_iff_not]
  exact fun e => h (strOf_inj e)
theorem at_neq (w : World) (x1 y1 x2 y2 : ByteArray) : (binOp .neq 55 (.agg #[.string x1, .string y1]) (.agg #[.string x2, .string y2])).run Tryz.prog w = .ok (.bool (!((x1.toList == x2.toList) && (y1.toList == y2.toList)))) w := by
  have hS : Tryz.prog.underlying 55 = some (.struct (Tryz.prog.fieldsOf 55)) := by kernel_rfl
  have hp : Tryz.prog.stoodInHeld 55 = false := by kernel_rfl
  rw [run_neq_struct, show (10000 : Nat) = 9999 + 1 from rfl, run_equalIn_agg w 9999 55 _ _ hS hp]
  simp only [Program.fieldsOf, Tryz.underlying55]
  go_simp
  by_cases h1 : x1.toList = x2.toList <;> by_cases h2 : y1.toList = y2.toList <;> simp [h1, h2]
theorem at_neq_ (w : World) (a b : At) : (binOp .neq 55 (.agg #[.string (strOf a.1), .string (strOf a.2)]) (.agg #[.string (strOf b.1), .string (strOf b.2)])).run Tryz.prog w = .ok (.bool (decide (a ≠ b))) w := by
  rw [at_neq, str_beq, str_beq]
  congr 2
  rw [← Bool.decide_and, ← decide_not, decide_eq_decide]
  obtain ⟨a1, a2⟩ := a
  obtain ⟨b1, b2⟩ := b
  simp only [ne_eq, Prod.mk.injEq]
  constructor
  · rintro h ⟨rfl, rfl⟩
    exact h ⟨rfl, rfl⟩
  · rintro h ⟨e1, e2⟩
    exact h ⟨strOf_inj e1, strOf_inj e2⟩
theorem Sq.kept_ {α : Type} {El : World → List Value → α → Prop} {k : Nat} {w w' : World} {A : Option Addr} {n c : Nat} {l : List α} (h : Sq El k w A n c l) (hb : Below w.heap.size w w') (hE : ∀ vs x, El w vs x → El w' vs x) : Sq El k w' A n c l :=
  Sq.stay h (fun ad e hn => by
    obtain ⟨b, off, e2, hbl, _⟩ := h.cell hn
    rw [e] at e2
    injection e2 with e2
    rw [e2]
    exact hb.block b hbl) hE
set_option maxHeartbeats 4000000 in
set_option maxRecDepth 100000 in
theorem rattrs_any (w : World) (A1 A2 : Option Addr) (n1 n2 c1 c2 : Nat) (l1 l2 : List At) (h1 : Sq AtEl 2 w A1 n1 c1 l1) (h2 : Sq AtEl 2 w A2 n2 c2 l2) :
    Calls Tryz.prog 70 #[.slice A1 n1 c1, .slice A2 n2 c2] w fun e w' => (∃ B : Bool, e = .returned (.bool B) ∧ (B = true ↔ l1 = l2)) ∧ Below w.heap.size w w' := by
  have hl1 := h1.len
  have hl2 := h2.len
  have hm1 := h1.max
  have hle1 := h1.le
  replace h1 := Lib.hid h1
  replace h2 := Lib.hid h2
  by_cases hn : n1 = n2
  · subst hn
    replace hl1 := Lib.hid hl1
    replace hl2 := Lib.hid hl2
    go_enter Tryz.func70, Tryz.ntmps70
    go_wp2_with fail
    go_loopw [5] (fun v5 wr => ∃ i : Nat, i ≤ n1 ∧ v5 = .int .i64 (i : Nat) ∧ Hid (l1.take i = l2.take i) ∧ Hid (Below w.heap.size w wr)) (fun v5 _ => n1 - (intOf v5).toNat)
    case atStart => exact ⟨0, by omega, rfl, Lib.hid rfl, Lib.hid (Below.refl _ _)⟩
    case round =>
      obtain ⟨i, hi, rfl, hsame, hb⟩ := hrel
      by_cases hlt : i < n1
      · have i1 : decide ((i : Int) < (n1 : Int)) = true := by simp; omega
        have q1 : (i : Int) < (n1 : Int) := by omega
        obtain ⟨b1, off1, ax, vs1, rfl, _, hx1, _, hv1, hc1⟩ := (h1.out.below AtEl.to hb.out).at_ hlt
        obtain ⟨b2, off2, ay, vs2, rfl, _, hx2, _, hv2, hc2⟩ := (h2.out.below AtEl.to hb.out).at_ hlt
        unfold AtEl at hv1 hv2
        subst hv1
        subst hv2
        have m0 := hc1 0 _ rfl
        have m1 := hc1 1 _ rfl
        have m2 := hc2 0 _ rfl
        have m3 := hc2 1 _ rfl
        rw [Nat.add_zero] at m0 m2
        have hbd := Lib.hid (hb.out.trans ((Joins.below_draws wr.heap.size wr 1).mono hb.out.size))
        have hx1 := Lib.hid hx1
        have hx2 := Lib.hid hx2
        have hne := at_neq_ wr.drew ax ay
        clear hc1 hc2
        go_wp2_with fail
        refine Pl.wp_region_plan 8 (.take 0 (.take 1 (.take 2 (.take 3 (.take 4 (.take 5 (.take 6 (.take 7 .done)))))))) (fun x => x.cell? ⟨b1, off1 + i * 2, none⟩ = some (.string (strOf ax.1)) ∧ x.cell? ⟨b1, off1 + i * 2 + 1, none⟩ = some (.string (strOf ax.2)) ∧ x.cell? ⟨b2, off2 + i * 2, none⟩ = some (.string (strOf ay.1)) ∧ x.cell? ⟨b2, off2 + i * 2 + 1, none⟩ = some (.string (strOf ay.2))) (by kernel_rfl) (by kernel_rfl) (by exact ⟨m0, m1, m2, m3⟩) ?_
        simp only [Pl.fill, List.getElem?_cons_zero, List.getElem?_cons_succ, List.drop_succ_cons, List.drop_zero]
        iterate 8
          refine Pl.take_go ?_ (by rfl) (fun _ _ _ h => h) ?_ ?_
          rotate_left
          · (intro x hSw; (try dsimp only at hSw); go_simp; try with_reducible rfl)
          try simp only [Act.put, List.setIfInBounds_toArray, List.set_cons_zero, List.set_cons_succ]
        refine Pl.done_go ?_
        by_cases hxy : ax = ay
        · have hnext : Hid (l1.take (i + 1) = l2.take (i + 1)) := Lib.hid (by rw [take_snoc hx1.out, take_snoc hx2.out, hsame.out, hxy])
          subst hxy
          have hd : decide (ax ≠ ax) = false := by simp
          rw [hd] at hne
          clear hd
          go_wp2_with fail
          go_roundw
          case rel => exact ⟨i + 1, by omega, by go_num, hnext, hbd⟩
          case measure => simp [intOf]; omega
        · have hd : decide (ax ≠ ay) = true := by simpa using hxy
          rw [hd] at hne
          have hno : Hid (l1 ≠ l2) := Lib.hid fun e => by
            rw [e] at hx1
            have h3 := hx1.out.symm.trans hx2.out
            injection h3 with h3
            exact hxy h3
          by_cases e1 : ax.1 = ay.1
          · have e2 : ax.2 ≠ ay.2 := fun e => hxy (Prod.ext e1 e)
            have f1 : (strOf ax.1).toList = (strOf ay.1).toList := by rw [e1]
            have f2 : ¬ (strOf ax.2).toList = (strOf ay.2).toList := by
              have := str_ne e2
              simpa using this
            clear hd hxy e1 e2
            go_wp2_with fail
            (try simp only [Exit.inBlock, Exit.then])
            go_ret
            exact ⟨⟨false, rfl, by simpa using hno.out⟩, hbd.out⟩
          · have f1 : ¬ (strOf ax.1).toList = (strOf ay.1).toList := by
              have := str_ne e1
              simpa using this
            clear hd hxy e1
            go_wp2_with fail
            (try simp only [Exit.inBlock, Exit.then])
            go_ret
            exact ⟨⟨false, rfl, by simpa using hno.out⟩, hbd.out⟩
      · have i1 : decide ((i : Int) < (n1 : Int)) = false := by simp; omega
        have hyes : Hid (l1 = l2) := Lib.hid (by
          have h3 := hsame.out
          rwa [List.take_of_length_le (by rw [hl1.out]; omega), List.take_of_length_le (by rw [hl2.out]; omega)] at h3)
        go_wp2_with fail
        (try simp only [Exit.inBlock, Exit.then])
        go_ret
        exact ⟨⟨true, rfl, by simpa using hyes.out⟩, hb.out⟩
  · have d1 : ((n1 : Int) != (n2 : Int)) = true := bne_iff_ne.2 (fun e => hn (by omega))
    have hno : Hid (l1 ≠ l2) := Lib.hid fun e => hn (by rw [← hl1, ← hl2, e])
    clear hl1 hl2
    go_enter Tryz.func70, Tryz.ntmps70
    go_wp2_with fail
    go_ret
    exact ⟨⟨false, rfl, by simpa using hno.out⟩, Below.refl _ _⟩
set_option maxHeartbeats 8000000 in
set_option maxRecDepth 100000 in
theorem rsame_any : ∀ (k : Nat) (X Y : Nat → Prop) (w : World) (vs us : List Value) (n m : Nd), SizeOf.sizeOf n ≤ k → NdI X w vs n → NdI Y w us m → (∀ j, X j → j < w.heap.size) → (∀ j, Y j → j < w.heap.size) →
    Calls Tryz.prog 37 #[.agg vs.toArray, .agg us.toArray] w fun e w' => (∃ B : Bool, e = .returned (.bool B) ∧ (B = true ↔ n = m)) ∧ Below w.heap.size w w' := by
  intro k
  induction k with
  | zero =>
    intro X Y w vs us n m hk
    obtain ⟨kd, nm, tx, as_, ks⟩ := n
    simp at hk
  | succ k ih =>
    intro X Y w vs us n m hk hn hm hX hY
    obtain ⟨kd, nm, tx, as_, ks⟩ := n
    obtain ⟨kd', nm', tx', as', ks'⟩ := m
    obtain ⟨A, ca, A2, c2, rfl, hA, hK, -, -⟩ := hn.cells
    obtain ⟨B, cb, B2, d2, rfl, hA', hK', -, -⟩ := hm.cells
    have hba := below_alloc w (.cells #[.int .i64 kd, .string (strOf nm), .string (strOf tx), .slice A as_.length ca, .slice A2 ks.length c2] 25)
    have hnb := heap_alloc_new w (.cells #[.int .i64 kd, .string (strOf nm), .string (strOf tx), .slice A as_.length ca, .slice A2 ks.length c2] 25)
    obtain ⟨T, hT⟩ : ∃ T, w.heap.size = T := ⟨_, rfl⟩
    obtain ⟨w1, hw1⟩ : ∃ w1, w.alloc (.cells #[.int .i64 kd, .string (strOf nm), .string (strOf tx), .slice A as_.length ca, .slice A2 ks.length c2] 25) = w1 := ⟨_, rfl⟩
    rw [hw1] at hba hnb
    rw [hT] at hnb
    have hbb := below_alloc w1 (.cells #[.int .i64 kd', .string (strOf nm'), .string (strOf tx'), .slice B as'.length cb, .slice B2 ks'.length d2] 25)
    have hnc := heap_alloc_new w1 (.cells #[.int .i64 kd', .string (strOf nm'), .string (strOf tx'), .slice B as'.length cb, .slice B2 ks'.length d2] 25)
    obtain ⟨U, hU⟩ : ∃ U, w1.heap.size = U := ⟨_, rfl⟩
    obtain ⟨w2, hw2⟩ : ∃ w2, w1.alloc (.cells #[.int .i64 kd', .string (strOf nm'), .string (strOf tx'), .slice B as'.length cb, .slice B2 ks'.length d2] 25) = w2 := ⟨_, rfl⟩
    rw [hw2] at hbb hnc
    rw [hU] at hnc
    have hb02 := hba.trans (hbb.mono hba.size)
    have hnb2 := (hbb.block T (Array.getElem?_eq_some_iff.1 hnb).1).trans hnb
    have x0 : w2.cell? ⟨T, 0, none⟩ = some (.int .i64 kd) := cell_blk hnb2 rfl
    have x1 : w2.cell? ⟨T, 1, none⟩ = some (.string (strOf nm)) := cell_blk hnb2 rfl
    have x2 : w2.cell? ⟨T, 2, none⟩ = some (.string (strOf tx)) := cell_blk hnb2 rfl
    have x3 : w2.cell? ⟨T, 3, none⟩ = some (.slice A as_.length ca) := cell_blk hnb2 rfl
    have x4 : w2.cell? ⟨T, 4, none⟩ = some (.slice A2 ks.length c2) := cell_blk hnb2 rfl
    have y0 : w2.cell? ⟨U, 0, none⟩ = some (.int .i64 kd') := cell_blk hnc rfl
    have y1 : w2.cell? ⟨U, 1, none⟩ = some (.string (strOf nm')) := cell_blk hnc rfl
    have y2 : w2.cell? ⟨U, 2, none⟩ = some (.string (strOf tx')) := cell_blk hnc rfl
    have y3 : w2.cell? ⟨U, 3, none⟩ = some (.slice B as'.length cb) := cell_blk hnc rfl
    have y4 : w2.cell? ⟨U, 4, none⟩ = some (.slice B2 ks'.length d2) := cell_blk hnc rfl
    have hkid : Hid (∀ i x, ks[i]? = some x → SizeOf.sizeOf x ≤ k) := Lib.hid fun i x hx => by
      have := kid_lt (k := kd) (nm := nm) (tx := tx) (as_ := as_) hx
      omega
    have hATT := Lib.hid (rattrs_any w2 A B as_.length as'.length ca cb as_ as' (hA.below AtEl.to hb02) (hA'.below AtEl.to hb02))
    replace ih := Lib.hid ih
    replace hK := Lib.hid hK
    replace hK' := Lib.hid hK'
    replace hX := Lib.hid hX
    replace hY := Lib.hid hY
    replace hb02 := Lib.hid hb02
    have hTl := Lib.hid hnb2
    have hUl := Lib.hid hnc
    clear hba hbb hnb hnc hnb2 hA hA' hn hm hk
    obtain ⟨S1, hS1⟩ : ∃ S, strOf nm = S := ⟨_, rfl⟩
    obtain ⟨S2, hS2⟩ : ∃ S, strOf nm' = S := ⟨_, rfl⟩
    obtain ⟨S3, hS3⟩ : ∃ S, strOf tx = S := ⟨_, rfl⟩
    obtain ⟨S4, hS4⟩ : ∃ S, strOf tx' = S := ⟨_, rfl⟩
    rw [hS1] at x1
    rw [hS2] at y1
    rw [hS3] at x2
    rw [hS4] at y2
    have t1 : (S1.toList == S2.toList) = decide (nm = nm') := by
      rw [str_beq, ← hS1, ← hS2, decide_eq_decide]
      exact ⟨strOf_inj, fun e => by rw [e]⟩
    have t2 : (S3.toList == S4.toList) = decide (tx = tx') := by
      rw [str_beq, ← hS3, ← hS4, decide_eq_decide]
      exact ⟨strOf_inj, fun e => by rw [e]⟩
    clear hS1 hS2 hS3 hS4
    obtain ⟨n1, hn1⟩ : ∃ n1, ks.length = n1 := ⟨_, rfl⟩
    obtain ⟨n2, hn2⟩ : ∃ n2, ks'.length = n2 := ⟨_, rfl⟩
    rw [hn1] at x4 hK
    rw [hn2] at y4 hK'
    have hK1 := hK.out.max
    have hK2 := hK.out.le
    replace hn1 := Lib.hid hn1
    replace hn2 := Lib.hid hn2
    by_cases e0 : kd = kd'
    · subst e0
      have k0 : (kd != kd) = false := by simp
      by_cases e1 : nm = nm'
      · subst e1
        have k1 : (S1.toList == S2.toList) = true := by rw [t1]; simp
        by_cases e2 : tx = tx'
        · subst e2
          have k2 : (S3.toList == S4.toList) = true := by rw [t2]; simp
          clear t1 t2
          go_enter Tryz.func37, Tryz.ntmps37
          go_wp2_with fail
          refine hATT.out.mono ?_
          rintro e w3 ⟨⟨BA, rfl, hBA⟩, hb3⟩
          by_cases e3 : as_ = as'
          · subst e3
            have hBt : BA = true := hBA.2 rfl
            subst hBt
            have x4 := cell_keep x4 hb3
            have y4 := cell_keep y4 hb3
            have hTl3 := Lib.hid ((hb3.block T (Array.getElem?_eq_some_iff.1 hTl.out).1).trans hTl.out)
            have hUl3 := Lib.hid ((hb3.block U (Array.getElem?_eq_some_iff.1 hUl.out).1).trans hUl.out)
            have hb03 := Lib.hid (hb02.out.trans (hb3.mono hb02.out.size))
            clear hb3 hBA
            by_cases e4 : n1 = n2
            · subst e4
              have k4 : ((n1 : Int) != (n1 : Int)) = false := by simp
              go_wp2_with fail
              go_loopw [5] (fun v5 wr => ∃ i : Nat, i ≤ n1 ∧ v5 = .int .i64 (i : Nat) ∧ Hid (ks.take i = ks'.take i) ∧ Hid (Below w3.heap.size w3 wr)) (fun v5 _ => n1 - (intOf v5).toNat)
              case atStart => exact ⟨0, Nat.zero_le _, rfl, Lib.hid rfl, Lib.hid (Below.refl _ _)⟩
              case round =>
                obtain ⟨i, hi, rfl, hsame, hb⟩ := hrel
                have hb0r := Lib.hid (hb03.out.trans (hb.out.mono hb03.out.size))
                have z4 := cell_keep x4 hb.out
                have z5 := cell_keep y4 hb.out
                by_cases hlt : i < n1
                · have i1 : decide ((i : Int) < (n1 : Int)) = true := by simp; omega
                  have q1 : (i : Int) < (n1 : Int) := by omega
                  have hKr := Sq.kept_ hK.out hb0r.out (fun vs x h => NdI.later h hX.out hb0r.out)
                  have hKr' := Sq.kept_ hK'.out hb0r.out (fun vs x h => NdI.later h hY.out hb0r.out)
                  obtain ⟨b1, off1, x, vs1, rfl, _, hx1, _, hv1, hc1⟩ := hKr.at_ hlt
                  obtain ⟨b2, off2, y, vs2, rfl, _, hx2, _, hv2, hc2⟩ := hKr'.at_ hlt
                  have hszx := hkid.out i x hx1
                  obtain ⟨xk, xn, xt, xa, xs⟩ := x
                  obtain ⟨yk, yn, yt, ya, ys⟩ := y
                  obtain ⟨Ax, cax, A2x, c2x, rfl, -⟩ := hv1.cells
                  obtain ⟨Bx, cbx, B2x, d2x, rfl, -⟩ := hv2.cells
                  have m0 := hc1 0 _ rfl
                  have m1 := hc1 1 _ rfl
                  have m2 := hc1 2 _ rfl
                  have m3 := hc1 3 _ rfl
                  have m4 := hc1 4 _ rfl
                  have p0 := hc2 0 _ rfl
                  have p1 := hc2 1 _ rfl
                  have p2 := hc2 2 _ rfl
                  have p3 := hc2 3 _ rfl
                  have p4 := hc2 4 _ rfl
                  rw [Nat.add_zero] at m0 p0
                  have hdr := Joins.below_draws wr.heap.size wr 1
                  have hX1 : ∀ j, X j → j < wr.heap.size := fun j hj => Nat.lt_of_lt_of_le (hX.out j hj) hb0r.out.size
                  have hY1 : ∀ j, Y j → j < wr.heap.size := fun j hj => Nat.lt_of_lt_of_le (hY.out j hj) hb0r.out.size
                  have hrec := Lib.hid (ih.out X Y wr.drew _ _ _ _ hszx (NdI.later hv1 hX1 hdr) (NdI.later hv2 hY1 hdr) (fun j hj => Nat.lt_of_lt_of_le (hX1 j hj) hdr.size) (fun j hj => Nat.lt_of_lt_of_le (hY1 j hj) hdr.size))
                  have hbd := Lib.hid (hb.out.trans (hdr.mono hb.out.size))
                  replace hx1 := Lib.hid hx1
                  replace hx2 := Lib.hid hx2
                  clear hKr hKr' hv1 hv2 hc1 hc2 hdr hX1 hY1 hszx
                  go_wp2_with fail
                  refine Pl.wp_region_plan 10 (.take 0 (.take 1 (.take 2 (.take 3 (.take 4 (.take 5 (.take 6 (.take 7 (.take 8 (.take 9 .done)))))))))) (fun x => x.cell? ⟨T, 4, none⟩ = some (.slice (some ⟨b1, off1, none⟩) n1 c2) ∧ x.cell? ⟨U, 4, none⟩ = some (.slice (some ⟨b2, off2, none⟩) n1 d2) ∧ x.cell? ⟨b1, off1 + i * 5, none⟩ = some (.int .i64 xk) ∧ x.cell? ⟨b1, off1 + i * 5 + 1, none⟩ = some (.string (strOf xn)) ∧ x.cell? ⟨b1, off1 + i * 5 + 2, none⟩ = some (.string (strOf xt)) ∧ x.cell? ⟨b1, off1 + i * 5 + 3, none⟩ = some (.slice Ax xa.length cax) ∧ x.cell? ⟨b1, off1 + i * 5 + 4, none⟩ = some (.slice A2x xs.length c2x) ∧ x.cell? ⟨b2, off2 + i * 5, none⟩ = some (.int .i64 yk) ∧ x.cell? ⟨b2, off2 + i * 5 + 1, none⟩ = some (.string (strOf yn)) ∧ x.cell? ⟨b2, off2 + i * 5 + 2, none⟩ = some (.string (strOf yt)) ∧ x.cell? ⟨b2, off2 + i * 5 + 3, none⟩ = some (.slice Bx ya.length cbx) ∧ x.cell? ⟨b2, off2 + i * 5 + 4, none⟩ = some (.slice B2x ys.length d2x)) (by kernel_rfl) (by kernel_rfl) (by exact ⟨z4, z5, m0, m1, m2, m3, m4, p0, p1, p2, p3, p4⟩) ?_
                  simp only [Pl.fill, List.getElem?_cons_zero, List.getElem?_cons_succ, List.drop_succ_cons, List.drop_zero]
                  iterate 10
                    refine Pl.take_go ?_ (by rfl) (fun _ _ _ h => h) ?_ ?_
                    rotate_left
                    · (intro x hSw; (try dsimp only at hSw); go_simp; try with_reducible rfl)
                    try simp only [Act.put, List.setIfInBounds_toArray, List.set_cons_zero, List.set_cons_succ]
                  refine Pl.done_go ?_
                  go_wp2_with fail
                  refine hrec.out.mono ?_
                  rintro e w5 ⟨⟨BB, rfl, hBB⟩, hb5⟩
                  have hw5 := Lib.hid (hbd.out.trans (hb5.mono hbd.out.size))
                  have hw05 := Lib.hid (hb03.out.trans (hw5.out.mono hb03.out.size))
                  clear hb5 m0 m1 m2 m3 m4 p0 p1 p2 p3 p4
                  cases BB with
                  | true =>
                    have hxy := hBB.1 rfl
                    have hnext : Hid (ks.take (i + 1) = ks'.take (i + 1)) := Lib.hid (by rw [take_snoc hx1.out, take_snoc hx2.out, hsame.out, hxy])
                    clear hBB hxy
                    go_wp2_with fail
                    go_roundw
                    case rel => exact ⟨i + 1, by omega, by go_num, hnext, hw5⟩
                    case measure => simp [intOf]; omega
                  | false =>
                    have hno : Hid (Nd.mk kd nm tx as_ ks ≠ Nd.mk kd nm tx as_ ks') := Lib.hid fun e => by
                      injection e with _ _ _ _ e
                      rw [e] at hx1
                      have h3 := hx1.out.symm.trans hx2.out
                      injection h3 with h3
                      exact absurd (hBB.2 h3) (by decide)
                    clear hBB
                    go_wp2_with fail
                    (try simp only [Exit.inBlock, Exit.then])
                    go_ret
                    exact ⟨⟨false, rfl, by simpa using hno.out⟩, hw05.out⟩
                · have i1 : decide ((i : Int) < (n1 : Int)) = false := by simp; omega
                  have hyes : Hid (ks = ks') := Lib.hid (by
                    have h3 := hsame.out
                    rwa [List.take_of_length_le (by rw [hn1.out]; omega), List.take_of_length_le (by rw [hn2.out]; omega)] at h3)
                  go_wp2_with fail
                  (try simp only [Exit.inBlock, Exit.then])
                  go_ret
                  exact ⟨⟨true, rfl, by simpa using hyes.out⟩, hb0r.out⟩
            · have k4 : ((n1 : Int) != (n2 : Int)) = true := bne_iff_ne.2 (fun e => e4 (by omega))
              have hno : Hid (Nd.mk kd nm tx as_ ks ≠ Nd.mk kd nm tx as_ ks') := Lib.hid fun e => by
                injection e with _ _ _ _ e
                exact e4 (by rw [← hn1.out, ← hn2.out, e])
              go_wp2_with fail
              go_ret
              exact ⟨⟨false, rfl, by simpa using hno.out⟩, hb03.out⟩
          · have hBf : BA = false := by
              cases BA with
              | false => rfl
              | true => exact absurd (hBA.1 rfl) e3
            subst hBf
            have hno : Hid (Nd.mk kd nm tx as_ ks ≠ Nd.mk kd nm tx as' ks') := Lib.hid fun e => by
              injection e with _ _ _ e _
              exact e3 e
            have hb03 := Lib.hid (hb02.out.trans (hb3.mono hb02.out.size))
            clear hb3 hBA
            go_wp2_with fail
            go_ret
            exact ⟨⟨false, rfl, by simpa using hno.out⟩, hb03.out⟩
        · have k2 : (S3.toList == S4.toList) = false := by rw [t2]; simpa using e2
          have hno : Hid (Nd.mk kd nm tx as_ ks ≠ Nd.mk kd nm tx' as' ks') := Lib.hid fun e => by
            injection e with _ _ e _ _
            exact e2 e
          clear t1 t2
          go_enter Tryz.func37, Tryz.ntmps37
          go_wp2_with fail
          go_ret
          exact ⟨⟨false, rfl, by simpa using hno.out⟩, hb02.out⟩
      · have k1 : (S1.toList == S2.toList) = false := by rw [t1]; simpa using e1
        have hno : Hid (Nd.mk kd nm tx as_ ks ≠ Nd.mk kd nm' tx' as' ks') := Lib.hid fun e => by
          injection e with _ e _ _ _
          exact e1 e
        clear t1 t2
        go_enter Tryz.func37, Tryz.ntmps37
        go_wp2_with fail
        go_ret
        exact ⟨⟨false, rfl, by simpa using hno.out⟩, hb02.out⟩
    · have k0 : (kd != kd') = true := by simpa using e0
      have hno : Hid (Nd.mk kd nm tx as_ ks ≠ Nd.mk kd' nm' tx' as' ks') := Lib.hid fun e => by
        injection e with e _ _ _ _
        exact e0 e
      clear t1 t2
      go_enter Tryz.func37, Tryz.ntmps37
      go_wp2_with fail
      go_ret
      exact ⟨⟨false, rfl, by simpa using hno.out⟩, hb02.out⟩
end Go.Proofs.YtokdnhdfmgfkeaaGreatDoor.Xt
end

section
namespace Go.Proofs.YtokdnhdfmgfkeaaGreatDoor.Xt
open Go.RowKit UtfW Xl Xo

section
variable {X Y : Nat → Prop} (w : World)
set_option maxHeartbeats 2000000 in
theorem rnodes_any (A1 A2 : Option Addr) (n1 n2 c1 c2 : Nat) (l1 l2 : List Nd) (h1 : Sq (NdE X) 5 w A1 n1 c1 l1) (h2 : Sq (NdE Y) 5 w A2 n2 c2 l2) (hX1 : ∀ a, A1 = some a → 0 < n1 → X a.block) (hY1 : ∀ a, A2 = some a → 0 < n2 → Y a.block)
    (hX : ∀ j, X j → j < w.heap.size) (hY : ∀ j, Y j → j < w.heap.size) :
    Calls Tryz.prog 66 #[.slice A1 n1 c1, .slice A2 n2 c2] w fun e w' => (∃ B : Bool, e = .returned (.bool B) ∧ (B = true ↔ l1 = l2)) ∧ Below w.heap.size w w' := by
  have hl1 := h1.len
  have hl2 := h2.len
  subst hl1
  subst hl2
  have m1 : NdI X w [.int .i64 0, .string (strOf []), .string (strOf []), .slice none 0 0, .slice A1 l1.length c1] (.mk 0 [] [] [] l1) := NdI.make (as_ := []) (Sq.none_ w) (fun a e => by cases e) h1 hX1
  have m2 : NdI Y w [.int .i64 0, .string (strOf []), .string (strOf []), .slice none 0 0, .slice A2 l2.length c2] (.mk 0 [] [] [] l2) := NdI.make (as_ := []) (Sq.none_ w) (fun a e => by cases e) h2 hY1
  have hs := Lib.hid (rsame_any _ X Y w _ _ _ _ (Nat.le_refl _) m1 m2 hX hY)
  clear h1 h2 m1 m2 hX hY hX1 hY1
  go_enter Tryz.func66, Tryz.ntmps66
  go_wp2_with fail
  refine hs.out.mono ?_
  rintro e w1 ⟨⟨B, rfl, hB⟩, hb⟩
  have hb' := Lib.hid hb
  have hB' : Hid (B = true ↔ l1 = l2) := Lib.hid ⟨fun h => by have := hB.1 h; injection this, fun h => hB.2 (by rw [h])⟩
  clear hb hB
  go_wp2_with fail
  go_ret
  exact ⟨⟨B, rfl, hB'.out⟩, hb'.out⟩
end
structure DocS (X : Nat → Prop) (w : World) (A1 : Option Addr) (c1 : Nat) (kd : Int) (nm tx : Tx) (as_ : List At) (ks : List Nd) (Ar : Option Addr) (cr : Nat) (Ak : Option Addr) (ck : Nat) (A2 : Option Addr) (c2 : Nat) (bf af : List Nd) : Prop where
  bef : Sq (NdE X) 5 w A1 bf.length c1 bf
  befX : ∀ a, A1 = some a → 0 < bf.length → X a.block
  root : NdI X w [.int .i64 kd, .string (strOf nm), .string (strOf tx), .slice Ar as_.length cr, .slice Ak ks.length ck] (.mk kd nm tx as_ ks)
  aft : Sq (NdE X) 5 w A2 af.length c2 af
  aftX : ∀ a, A2 = some a → 0 < af.length → X a.block
theorem DocI.parts {X : Nat → Prop} {w : World} {v : Value} {d : Doc} (h : DocI X w v d) : ∃ A1 c1 kd nm tx as_ ks Ar cr Ak ck A2 c2, v = .agg #[.slice A1 d.before.length c1, .int .i64 kd, .string (strOf nm), .string (strOf tx), .slice Ar as_.length cr, .slice Ak ks.length ck, .slice A2 d.after.length c2] ∧ d.root = .mk kd nm tx as_ ks ∧
    DocS X w A1 c1 kd nm tx as_ ks Ar cr Ak ck A2 c2 d.before d.after := by
  obtain ⟨A1, c1, r0, r1, r2, r3, r4, A2, c2, rfl, h1, h1x, h2, h3, h3x⟩ := h
  obtain ⟨bf, rt, af⟩ := d
  obtain ⟨kd, nm, tx, as_, ks⟩ := rt
  obtain ⟨Ar, cr, Ak, ck, e, g1, g2, _⟩ := h2.cells
  injection e with e0 e
  injection e with e1 e
  injection e with e2 e
  injection e with e3 e
  injection e with e4 e
  subst e0; subst e1; subst e2; subst e3; subst e4
  exact ⟨A1, c1, kd, nm, tx, as_, ks, Ar, cr, Ak, ck, A2, c2, rfl, rfl, h1, h1x, h2, h3, h3x⟩
theorem DocS.later {X : Nat → Prop} {w w' : World} {A1 : Option Addr} {c1 : Nat} {kd : Int} {nm tx : Tx} {as_ : List At} {ks : List Nd} {Ar : Option Addr} {cr : Nat} {Ak : Option Addr} {ck : Nat} {A2 : Option Addr} {c2 : Nat} {bf af : List Nd} (h : DocS X w A1 c1 kd nm tx as_ ks Ar cr Ak ck A2 c2 bf af) (hX : ∀ j, X j → j < w.heap.size) (hb : Below w.heap.size w w') :
    DocS X w' A1 c1 kd nm tx as_ ks Ar cr Ak ck A2 c2 bf af :=
  ⟨Sq.kept_ h.bef hb (fun _ _ hx => NdI.later hx hX hb), h.befX, NdI.later h.root hX hb, Sq.kept_ h.aft hb (fun _ _ hx => NdI.later hx hX hb), h.aftX⟩
set_option maxHeartbeats 8000000 in
set_option maxRecDepth 100000 in
theorem rdocs_any {X Y : Nat → Prop} (w : World) (v u : Value) (d d' : Doc) (h1 : DocI X w v d) (h2 : DocI Y w u d') (hX : ∀ j, X j → j < w.heap.size) (hY : ∀ j, Y j → j < w.heap.size) :
    Calls Tryz.prog 28 #[v, u] w fun e w' => (∃ B : Bool, e = .returned (.bool B) ∧ (B = true ↔ d = d')) ∧ Below w.heap.size w w' := by
  obtain ⟨A1, c1, kd, nm, tx, as_, ks, Ar, cr, Ak, ck, A2, c2, rfl, hr, hS⟩ := h1.parts
  obtain ⟨B1, d1, kd', nm', tx', as', ks', Br, dr, Bk, dk, B2, d2, rfl, hr', hS'⟩ := h2.parts
  obtain ⟨bf, rt, af⟩ := d
  obtain ⟨bf', rt', af'⟩ := d'
  simp only at hr hr' hS hS'
  subst hr
  subst hr'
  clear h1 h2
  obtain ⟨n1, hn1⟩ : ∃ n1, bf.length = n1 := ⟨_, rfl⟩
  obtain ⟨n2, hn2⟩ : ∃ n2, af.length = n2 := ⟨_, rfl⟩
  obtain ⟨n3, hn3⟩ : ∃ n3, bf'.length = n3 := ⟨_, rfl⟩
  obtain ⟨n4, hn4⟩ : ∃ n4, af'.length = n4 := ⟨_, rfl⟩
  obtain ⟨n5, hn5⟩ : ∃ n5, as_.length = n5 := ⟨_, rfl⟩
  obtain ⟨n6, hn6⟩ : ∃ n6, ks.length = n6 := ⟨_, rfl⟩
  obtain ⟨n7, hn7⟩ : ∃ n7, as'.length = n7 := ⟨_, rfl⟩
  obtain ⟨n8, hn8⟩ : ∃ n8, ks'.length = n8 := ⟨_, rfl⟩
  simp only [hn1, hn2, hn3, hn4, hn5, hn6, hn7, hn8]
  have hba := below_alloc w (.cells #[.slice A1 n1 c1, .int .i64 kd, .string (strOf nm), .string (strOf tx), .slice Ar n5 cr, .slice Ak n6 ck, .slice A2 n2 c2] 27)
  have hnb := heap_alloc_new w (.cells #[.slice A1 n1 c1, .int .i64 kd, .string (strOf nm), .string (strOf tx), .slice Ar n5 cr, .slice Ak n6 ck, .slice A2 n2 c2] 27)
  obtain ⟨T, hT⟩ : ∃ T, w.heap.size = T := ⟨_, rfl⟩
  obtain ⟨w1, hw1⟩ : ∃ w1, w.alloc (.cells #[.slice A1 n1 c1, .int .i64 kd, .string (strOf nm), .string (strOf tx), .slice Ar n5 cr, .slice Ak n6 ck, .slice A2 n2 c2] 27) = w1 := ⟨_, rfl⟩
  rw [hw1] at hba hnb
  rw [hT] at hnb
  have hbb := below_alloc w1 (.cells #[.slice B1 n3 d1, .int .i64 kd', .string (strOf nm'), .string (strOf tx'), .slice Br n7 dr, .slice Bk n8 dk, .slice B2 n4 d2] 27)
  have hnc := heap_alloc_new w1 (.cells #[.slice B1 n3 d1, .int .i64 kd', .string (strOf nm'), .string (strOf tx'), .slice Br n7 dr, .slice Bk n8 dk, .slice B2 n4 d2] 27)
  obtain ⟨U, hU⟩ : ∃ U, w1.heap.size = U := ⟨_, rfl⟩
  obtain ⟨w2, hw2⟩ : ∃ w2, w1.alloc (.cells #[.slice B1 n3 d1, .int .i64 kd', .string (strOf nm'), .string (strOf tx'), .slice Br n7 dr, .slice Bk n8 dk, .slice B2 n4 d2] 27) = w2 := ⟨_, rfl⟩
  rw [hw2] at hbb hnc
  rw [hU] at hnc
  have hb02 := hba.trans (hbb.mono hba.size)
  have hnb2 := (hbb.block T (Array.getElem?_eq_some_iff.1 hnb).1).trans hnb
  have hX2 : ∀ j, X j → j < w2.heap.size := fun j hj => Nat.lt_of_lt_of_le (hX j hj) hb02.size
  have hY2 : ∀ j, Y j → j < w2.heap.size := fun j hj => Nat.lt_of_lt_of_le (hY j hj) hb02.size
  have hS2 := hS.later hX hb02
  have hS2' := hS'.later hY hb02
  have cN := rnodes_any w2 A1 B1 _ _ c1 d1 bf bf' hS2.bef hS2'.bef hS2.befX hS2'.befX hX2 hY2
  have cS := fun z (hz : Below w2.heap.size w2 z) => rsame_any _ X Y z _ _ _ _ (Nat.le_refl _) (hS2.later hX2 hz).root (hS2'.later hY2 hz).root (fun j hj => Nat.lt_of_lt_of_le (hX2 j hj) hz.size) (fun j hj => Nat.lt_of_lt_of_le (hY2 j hj) hz.size)
  have cM := fun z (hz : Below w2.heap.size w2 z) => rnodes_any z A2 B2 _ _ c2 d2 af af' (hS2.later hX2 hz).aft (hS2'.later hY2 hz).aft hS2.aftX hS2'.aftX (fun j hj => Nat.lt_of_lt_of_le (hX2 j hj) hz.size) (fun j hj => Nat.lt_of_lt_of_le (hY2 j hj) hz.size)
  rw [hn1, hn3] at cN
  rw [hn5, hn6, hn7, hn8] at cS
  rw [hn2, hn4] at cM
  have x0 : w2.cell? ⟨T, 0, none⟩ = some (.slice A1 n1 c1) := cell_blk hnb2 rfl
  have y0 : w2.cell? ⟨U, 0, none⟩ = some (.slice B1 n3 d1) := cell_blk hnc rfl
  replace cN := Lib.hid cN
  replace cS := Lib.hid cS
  replace cM := Lib.hid cM
  replace hnb2 := Lib.hid hnb2
  replace hnc := Lib.hid hnc
  replace hb02 := Lib.hid hb02
  clear hS hS' hS2 hS2' hX2 hY2 hX hY hba hbb hnb hn1 hn2 hn3 hn4 hn5 hn6 hn7 hn8
  go_enter Tryz.func28, Tryz.ntmps28
  go_wp2_with fail
  refine cN.out.mono ?_
  rintro e w3 ⟨⟨b1, rfl, hB1⟩, hb3⟩
  have hT3 := (hb3.block T (Array.getElem?_eq_some_iff.1 hnb2.out).1).trans hnb2.out
  have hU3 := (hb3.block U (Array.getElem?_eq_some_iff.1 hnc.out).1).trans hnc.out
  have hb03 := Lib.hid (hb02.out.trans (hb3.mono hb02.out.size))
  cases b1 with
  | false =>
    have hno : Hid (Doc.mk bf (.mk kd nm tx as_ ks) af ≠ Doc.mk bf' (.mk kd' nm' tx' as' ks') af') := Lib.hid fun e => by
      injection e with e1 _ _
      exact absurd (hB1.2 e1) (by decide)
    clear hb3 hB1 hT3 hU3
    go_wp2_with fail
    go_ret
    exact ⟨⟨false, rfl, by simpa using hno.out⟩, hb03.out⟩
  | true =>
    have e1 := Lib.hid (hB1.1 rfl)
    have p1 := cell_blk hT3 (i := 1) rfl
    have p2 := cell_blk hT3 (i := 2) rfl
    have p3 := cell_blk hT3 (i := 3) rfl
    have p4 := cell_blk hT3 (i := 4) rfl
    have p5 := cell_blk hT3 (i := 5) rfl
    have r1 := cell_blk hU3 (i := 1) rfl
    have r2 := cell_blk hU3 (i := 2) rfl
    have r3 := cell_blk hU3 (i := 3) rfl
    have r4 := cell_blk hU3 (i := 4) rfl
    have r5 := cell_blk hU3 (i := 5) rfl
    have cS3 := Lib.hid (cS.out w3 hb3)
    replace hb3 := Lib.hid hb3
    clear hB1 hT3 hU3
    go_wp2_with fail
    refine cS3.out.mono ?_
    rintro e w4 ⟨⟨b2, rfl, hB2⟩, hb4⟩
    have hb24 := hb3.out.trans (hb4.mono hb3.out.size)
    have hT4 := (hb24.block T (Array.getElem?_eq_some_iff.1 hnb2.out).1).trans hnb2.out
    have hU4 := (hb24.block U (Array.getElem?_eq_some_iff.1 hnc.out).1).trans hnc.out
    have hb04 := Lib.hid (hb03.out.trans (hb4.mono hb03.out.size))
    cases b2 with
    | false =>
      have hno : Hid (Doc.mk bf (.mk kd nm tx as_ ks) af ≠ Doc.mk bf' (.mk kd' nm' tx' as' ks') af') := Lib.hid fun e => by
        injection e with _ e1 _
        exact absurd (hB2.2 e1) (by decide)
      clear hb4 hB2 hT4 hU4 hb24
      go_wp2_with fail
      go_ret
      exact ⟨⟨false, rfl, by simpa using hno.out⟩, hb04.out⟩
    | true =>
      have e2 := Lib.hid (hB2.1 rfl)
      have p6 := cell_blk hT4 (i := 6) rfl
      have r6 := cell_blk hU4 (i := 6) rfl
      have cM4 := Lib.hid (cM.out w4 hb24)
      clear hb4 hB2 hT4 hU4 hb24
      go_wp2_with fail
      refine cM4.out.mono ?_
      rintro e w5 ⟨⟨b3, rfl, hB3⟩, hb5⟩
      have hb05 := Lib.hid (hb04.out.trans (hb5.mono hb04.out.size))
      have hfin : Hid (b3 = true ↔ Doc.mk bf (.mk kd nm tx as_ ks) af = Doc.mk bf' (.mk kd' nm' tx' as' ks') af') := Lib.hid ⟨fun h => by rw [e1.out, e2.out, hB3.1 h], fun h => by
        injection h with _ _ h
        exact hB3.2 h⟩
      clear hb5 hB3
      go_wp2_with fail
      go_ret
      exact ⟨⟨b3, rfl, hfin.out⟩, hb05.out⟩
end Go.Proofs.YtokdnhdfmgfkeaaGreatDoor.Xt
end

section
namespace Go.Proofs.YtokdnhdfmgfkeaaGreatDoor.Xp
open Go.RowKit UtfW Xl Xo Xt Er

theorem par_both {w0 w w' : World} {S : Tx} {e : Ending} {cd : Int} {p : Nat} {d : Doc} (hE : En w0.heap.size w0) (hb0 : Below w0.heap.size w0 w) (h : ParP S w e w') (hr : parseF S = (cd, p, d)) :
    Below w.heap.size w w' ∧ ∃ vd ev, e = .returned (.tuple #[vd, ev]) ∧ DocI (fun k => k < w'.heap.size) w' vd d ∧
      (∀ y, Below w'.heap.size w' y → Calls Tryz.prog 22 #[ev] y fun e z => e = .returned (.int .i64 cd) ∧ Below y.heap.size y z) := by
  by_cases hc : cd = 0
  · subst hc
    obtain ⟨hb, vd, rfl, hd⟩ := h.ok hr
    obtain ⟨A1, c1, r0, r1, r2, r3, r4, A2, c2, rfl, h1, h2, h3, h4, h5⟩ := hd
    refine ⟨hb, _, _, rfl, ⟨A1, c1, r0, r1, r2, r3, r4, A2, c2, rfl, ?_, fun a e hn => (h2 a e hn).2, NdI.stay h3 fun k hk => ⟨hk.2, rfl⟩, ?_, fun a e hn => (h5 a e hn).2⟩, fun y _ => Code_ok y⟩
    · exact Sq.stay2 h1 (fun a e hn => rfl) fun vs x hx => NdI.stay hx fun k hk => ⟨hk.2, rfl⟩
    · exact Sq.stay2 h4 (fun a e hn => rfl) fun vs x hx => NdI.stay hx fun k hk => ⟨hk.2, rfl⟩
  · obtain ⟨hb, rfl, v, rfl, hf⟩ := h.no hr hc
    refine ⟨hb, _, _, rfl, DocI.zero _ _, fun y hy => ?_⟩
    exact Code_any cd p _ _ w0.heap.size y (hE.on (hb0.trans ((hb.trans (hy.mono hb.size)).mono hb0.size))) (Fe.later hf hy)
end Go.Proofs.YtokdnhdfmgfkeaaGreatDoor.Xp
end

section
namespace Go.Proofs.YtokdnhdfmgfkeaaGreatDoor.Xp
open Go.RowKit UtfW Xl Xo Xt Er

section
variable (w : World)
set_option maxHeartbeats 8000000 in
set_option maxRecDepth 100000 in
theorem parsed_law (hU : Un w) (hE : En w.heap.size w) (A : Option Addr) (n c : Nat) (S : Tx) (hBs : Bs w A n c S) :
    Calls Tryz.prog 9 #[.slice A n c] w fun e w' => e = .returned (.bool true) ∧ Below w.heap.size w w' := by
  have haw := Lib.hid (awake11 w hU hE)
  have hl : S.length = n := hBs.len
  by_cases hbig : n > 8192
  · have g1 : decide ((n : Int) > 8192) = true := by simp; omega
    have g2 : decide ((8192 : Int) < (n : Int)) = true := by simp; omega
    clear hU hE hBs
    go_enter Tryz.func9, Tryz.ntmps9
    go_wp2_with fail
    refine haw.out.mono ?_
    rintro e9 w1 ⟨rfl, hb1⟩
    replace hb1 := Lib.hid hb1
    go_wp2_with fail
    go_ret
    exact ⟨rfl, hb1.out⟩
  have g1 : decide ((n : Int) > 8192) = false := by simp; omega
  have g2 : decide ((8192 : Int) < (n : Int)) = false := by simp; omega
  replace hBs := Lib.hid hBs
  replace hU := Lib.hid hU
  replace hE := Lib.hid hE
  have hla := Lib.hid hl
  have hn9 : n ≤ 8192 := by omega
  have hn9 := Lib.hid hn9
  clear hl hbig
  go_enter Tryz.func9, Tryz.ntmps9
  go_wp2_with fail
  refine haw.out.mono ?_
  rintro e9 w1 ⟨rfl, hb1⟩
  have hpc := Lib.hid (parse_any w1 (hU.out.below hb1) A n c S (hBs.out.below hb1) (by have := hn9.out; omega))
  replace hb1 := Lib.hid hb1
  clear haw hBs
  go_wp2_with fail
  refine hpc.out.mono ?_
  intro e3 w3 h3
  cases hpf : parseF S with
  | mk cd r =>
  obtain ⟨p, d⟩ := r
  obtain ⟨hb3, vd, ev, rfl, hdo, hco⟩ := par_both hE.out hb1.out h3 hpf
  obtain ⟨A1, n1, c1, kd, nm, tx, Ar, n5, cr, Ak, n6, ck, A2, n2, c2, hv, -⟩ := doc_parts hdo
  subst hv
  have hba := below_alloc w3 (.cells #[.slice A1 n1 c1, .int .i64 kd, .string (strOf nm), .string (strOf tx), .slice Ar n5 cr, .slice Ak n6 ck, .slice A2 n2 c2] 27)
  have hnb := heap_alloc_new w3 (.cells #[.slice A1 n1 c1, .int .i64 kd, .string (strOf nm), .string (strOf tx), .slice Ar n5 cr, .slice Ak n6 ck, .slice A2 n2 c2] 27)
  have hx4 := Lib.hid (hb1.out.trans ((hb3.trans (hba.mono hb3.size)).mono hb1.out.size))
  have hco4 := Lib.hid (hco (w3.alloc (.cells #[.slice A1 n1 c1, .int .i64 kd, .string (strOf nm), .string (strOf tx), .slice Ar n5 cr, .slice Ak n6 ck, .slice A2 n2 c2] 27)) hba)
  have hdo4 : Hid (∀ y, Below (w3.alloc (.cells #[.slice A1 n1 c1, .int .i64 kd, .string (strOf nm), .string (strOf tx), .slice Ar n5 cr, .slice Ak n6 ck, .slice A2 n2 c2] 27)).heap.size (w3.alloc (.cells #[.slice A1 n1 c1, .int .i64 kd, .string (strOf nm), .string (strOf tx), .slice Ar n5 cr, .slice Ak n6 ck, .slice A2 n2 c2] 27)) y → DocI (fun k => k < w3.heap.size) y (.agg #[.slice A1 n1 c1, .int .i64 kd, .string (strOf nm), .string (strOf tx), .slice Ar n5 cr, .slice Ak n6 ck, .slice A2 n2 c2]) d) := Lib.hid fun y hy => Xp.DocI.keep hdo fun k hk => (hy.block k (Nat.lt_of_lt_of_le hk hba.size)).trans (hba.block k hk)
  have hsz4 : Hid (w3.heap.size ≤ (w3.alloc (.cells #[.slice A1 n1 c1, .int .i64 kd, .string (strOf nm), .string (strOf tx), .slice Ar n5 cr, .slice Ak n6 ck, .slice A2 n2 c2] 27)).heap.size) := Lib.hid hba.size
  replace hpf := Lib.hid hpf
  replace hnb := Lib.hid hnb
  clear hb3 h3 hdo hco hba hpc
  go_upto_region 6 with fail
  change Code.wp _ _ _ _ (w3.alloc (.cells #[.slice A1 n1 c1, .int .i64 kd, .string (strOf nm), .string (strOf tx), .slice Ar n5 cr, .slice Ak n6 ck, .slice A2 n2 c2] 27))
  generalize w3.alloc (.cells #[.slice A1 n1 c1, .int .i64 kd, .string (strOf nm), .string (strOf tx), .slice Ar n5 cr, .slice Ak n6 ck, .slice A2 n2 c2] 27) = w4 at hx4 hco4 hdo4 hsz4 hnb ⊢
  generalize w3.heap.size = T at hnb hdo4 hsz4 ⊢
  go_wp2_with fail
  refine hco4.out.mono ?_
  rintro e5 w5 ⟨rfl, hb5⟩
  have hx5 := Lib.hid (hx4.out.trans (hb5.mono hx4.out.size))
  by_cases hcd : cd = 0
  case' neg =>
    have k0 : (cd != 0) = true := by simpa using hcd
    clear hb5
    go_wp2_with fail
    go_ret
    exact ⟨rfl, hx5.out⟩
  subst hcd
  have hmay := parseF_may (by rw [hla.out]; exact hn9.out) hpf.out
  obtain ⟨hdB, hwl⟩ := may_docB hmay
  have hbk := may_back hmay
  have hT5 := (hb5.block T (Array.getElem?_eq_some_iff.1 hnb.out).1).trans hnb.out
  have y0 := Xp.cell_blk hT5 (i := 0) rfl
  have y1 := Xp.cell_blk hT5 (i := 1) rfl
  have y2 := Xp.cell_blk hT5 (i := 2) rfl
  have y3 := Xp.cell_blk hT5 (i := 3) rfl
  have y4 := Xp.cell_blk hT5 (i := 4) rfl
  have y5 := Xp.cell_blk hT5 (i := 5) rfl
  have y6 := Xp.cell_blk hT5 (i := 6) rfl
  have hdc := Lib.hid (Doc_any _ w5 (hU.out.below hx5.out) _ d (hdo4.out w5 hb5) (fun k hk => Nat.lt_of_lt_of_le hk (Nat.le_trans hsz4.out hb5.size)) hdB)
  have hd5 := Lib.hid hb5
  obtain ⟨Z, hZ⟩ : ∃ Z, writeD d = Z := ⟨_, rfl⟩
  rw [hZ] at hwl hbk
  replace hbk := Lib.hid hbk
  replace hwl := Lib.hid hwl
  replace hmay := Lib.hid hmay
  replace hdB := Lib.hid hdB
  replace hZ := Lib.hid hZ
  clear hb5 hT5 hco4 hpf
  go_wp2_with fail
  refine hdc.out.mono ?_
  intro e6 w6 h6
  obtain ⟨hb6, rfl⟩ := h6.ok hmay.out
  rw [hZ.out]
  have hx6 := Lib.hid (hx5.out.trans (hb6.mono hx5.out.size))
  have hd6 := Lib.hid (hd5.out.trans (hb6.mono hd5.out.size))
  clear h6 hb6 hdc y0 y1 y2 y3 y4 y5 y6
  go_wp2_with fail
  refine (Code_ok w6).mono ?_
  rintro e7 w7 ⟨rfl, hb7⟩
  have hx7 := Lib.hid (hx6.out.trans (hb7.mono hx6.out.size))
  have hd7 := Lib.hid (hd6.out.trans (hb7.mono hd6.out.size))
  clear hb7
  have e1 : (strOf Z).data.toList = Z := by simp [strOf]
  have hsz : (strOf Z).size = Z.length := strOf_size' Z
  obtain ⟨hbs, hbl⟩ := bs_convert w7 (strOf Z) (by rw [hsz]; have := hwl.out; omega)
  rw [e1] at hbs
  have hcv := Lib.run_convert_string_bytes (P := Tryz.prog) w7 9 41 5 (strOf Z) Tryz.underlying9 Tryz.underlying41 Tryz.underlying5
  have hx8 := Lib.hid (hx7.out.trans (hbl.mono hx7.out.size))
  have hd8 := Lib.hid (hd7.out.trans (hbl.mono hd7.out.size))
  have hpc := Lib.hid (parse_any (Lib.bytesWorld w7 5 (strOf Z)) (hU.out.below hx8.out) _ _ _ Z hbs (by rw [hsz]; have := hwl.out; omega))
  clear hbs hbl e1 hsz
  go_wp2_with fail
  refine hpc.out.mono ?_
  intro e9 w9 h9
  obtain ⟨hb9, vd', ev', rfl, hdo', hco'⟩ := par_both hE.out hx8.out h9 hbk.out
  obtain ⟨A1', n1', c1', kd', nm', tx', Ar', n5', cr', Ak', n6', ck', A2', n2', c2', hv', -⟩ := doc_parts hdo'
  subst hv'
  have hba := below_alloc w9 (.cells #[.slice A1' n1' c1', .int .i64 kd', .string (strOf nm'), .string (strOf tx'), .slice Ar' n5' cr', .slice Ak' n6' ck', .slice A2' n2' c2'] 27)
  have hnb2 := heap_alloc_new w9 (.cells #[.slice A1' n1' c1', .int .i64 kd', .string (strOf nm'), .string (strOf tx'), .slice Ar' n5' cr', .slice Ak' n6' ck', .slice A2' n2' c2'] 27)
  have h910 := hb9.trans (hba.mono hb9.size)
  have hx10 := Lib.hid (hx8.out.trans (h910.mono hx8.out.size))
  have hd10 := Lib.hid (hd8.out.trans (h910.mono hd8.out.size))
  have hco10 : Hid (∀ y, Below (w9.alloc (.cells #[.slice A1' n1' c1', .int .i64 kd', .string (strOf nm'), .string (strOf tx'), .slice Ar' n5' cr', .slice Ak' n6' ck', .slice A2' n2' c2'] 27)).heap.size (w9.alloc (.cells #[.slice A1' n1' c1', .int .i64 kd', .string (strOf nm'), .string (strOf tx'), .slice Ar' n5' cr', .slice Ak' n6' ck', .slice A2' n2' c2'] 27)) y → Calls Tryz.prog 22 #[ev'] y fun e z => e = .returned (.int .i64 0) ∧ Below y.heap.size y z) := Lib.hid fun y hy => hco' y (hba.trans (hy.mono hba.size))
  have hdo10 : Hid (∀ y, Below (w9.alloc (.cells #[.slice A1' n1' c1', .int .i64 kd', .string (strOf nm'), .string (strOf tx'), .slice Ar' n5' cr', .slice Ak' n6' ck', .slice A2' n2' c2'] 27)).heap.size (w9.alloc (.cells #[.slice A1' n1' c1', .int .i64 kd', .string (strOf nm'), .string (strOf tx'), .slice Ar' n5' cr', .slice Ak' n6' ck', .slice A2' n2' c2'] 27)) y → DocI (fun k => k < w9.heap.size) y (.agg #[.slice A1' n1' c1', .int .i64 kd', .string (strOf nm'), .string (strOf tx'), .slice Ar' n5' cr', .slice Ak' n6' ck', .slice A2' n2' c2']) d) := Lib.hid fun y hy => Xp.DocI.keep hdo' fun k hk => (hy.block k (Nat.lt_of_lt_of_le hk hba.size)).trans (hba.block k hk)
  have hsz10 : Hid (w9.heap.size ≤ (w9.alloc (.cells #[.slice A1' n1' c1', .int .i64 kd', .string (strOf nm'), .string (strOf tx'), .slice Ar' n5' cr', .slice Ak' n6' ck', .slice A2' n2' c2'] 27)).heap.size) := Lib.hid hba.size
  replace hnb2 := Lib.hid hnb2
  clear hb9 h9 hdo' hco' hba h910 hpc hcv
  go_upto_region 12 with fail
  change Code.wp _ _ _ _ (w9.alloc (.cells #[.slice A1' n1' c1', .int .i64 kd', .string (strOf nm'), .string (strOf tx'), .slice Ar' n5' cr', .slice Ak' n6' ck', .slice A2' n2' c2'] 27))
  generalize w9.alloc (.cells #[.slice A1' n1' c1', .int .i64 kd', .string (strOf nm'), .string (strOf tx'), .slice Ar' n5' cr', .slice Ak' n6' ck', .slice A2' n2' c2'] 27) = w10 at hx10 hd10 hco10 hdo10 hsz10 hnb2 ⊢
  generalize w9.heap.size = T2 at hnb2 hdo10 hsz10 ⊢
  have hT10 := hnb2.out
  have z0 := Xp.cell_blk hT10 (i := 0) rfl
  have z1 := Xp.cell_blk hT10 (i := 1) rfl
  have z2 := Xp.cell_blk hT10 (i := 2) rfl
  have z3 := Xp.cell_blk hT10 (i := 3) rfl
  have z4 := Xp.cell_blk hT10 (i := 4) rfl
  have z5 := Xp.cell_blk hT10 (i := 5) rfl
  have z6 := Xp.cell_blk hT10 (i := 6) rfl
  have hdc := Lib.hid (Doc_any _ w10 (hU.out.below hx10.out) _ d (hdo10.out w10 (Below.refl _ _)) (fun k hk => Nat.lt_of_lt_of_le hk hsz10.out) hdB.out)
  clear hT10
  go_wp2_with fail
  refine hdc.out.mono ?_
  intro e11 w11 h11
  obtain ⟨hb11, rfl⟩ := h11.ok hmay.out
  rw [hZ.out]
  have hx11 := Lib.hid (hx10.out.trans (hb11.mono hx10.out.size))
  have hd11 := Lib.hid (hd10.out.trans (hb11.mono hd10.out.size))
  have he11 := Lib.hid hb11
  have hcc := Lib.hid (hco10.out w11 hb11)
  obtain ⟨ST, hST⟩ : ∃ s, strOf Z = s := ⟨_, rfl⟩
  have jS : (ST.toList == ST.toList) = true := by simp
  rw [hST]
  clear h11 hb11 hdc z0 z1 z2 z3 z4 z5 z6 hST hco10
  go_wp2_with fail
  refine hcc.out.mono ?_
  rintro e12 w12 ⟨rfl, hb12⟩
  have hx12 := Lib.hid (hx11.out.trans (hb12.mono hx11.out.size))
  have hd12 := Lib.hid (hd11.out.trans (hb12.mono hd11.out.size))
  have he12 := Lib.hid (he11.out.trans (hb12.mono he11.out.size))
  have hT1 := (hd12.out.block T (Array.getElem?_eq_some_iff.1 hnb.out).1).trans hnb.out
  have hT2 := (he12.out.block T2 (Array.getElem?_eq_some_iff.1 hnb2.out).1).trans hnb2.out
  have y0 := Xp.cell_blk hT1 (i := 0) rfl
  have y1 := Xp.cell_blk hT1 (i := 1) rfl
  have y2 := Xp.cell_blk hT1 (i := 2) rfl
  have y3 := Xp.cell_blk hT1 (i := 3) rfl
  have y4 := Xp.cell_blk hT1 (i := 4) rfl
  have y5 := Xp.cell_blk hT1 (i := 5) rfl
  have y6 := Xp.cell_blk hT1 (i := 6) rfl
  have z0 := Xp.cell_blk hT2 (i := 0) rfl
  have z1 := Xp.cell_blk hT2 (i := 1) rfl
  have z2 := Xp.cell_blk hT2 (i := 2) rfl
  have z3 := Xp.cell_blk hT2 (i := 3) rfl
  have z4 := Xp.cell_blk hT2 (i := 4) rfl
  have z5 := Xp.cell_blk hT2 (i := 5) rfl
  have z6 := Xp.cell_blk hT2 (i := 6) rfl
  have hrd := Lib.hid (rdocs_any w12 _ _ d d (hdo10.out w12 he12.out) (hdo4.out w12 hd12.out) (fun k hk => Nat.lt_of_lt_of_le hk (Nat.le_trans hsz10.out he12.out.size)) (fun k hk => Nat.lt_of_lt_of_le hk (Nat.le_trans hsz4.out hd12.out.size)))
  clear hb12 hT1 hT2 hcc hdo4 hdo10
  go_wp2_with fail
  refine hrd.out.mono ?_
  rintro e13 w13 ⟨⟨B, rfl, hB⟩, hb13⟩
  have hBt : B = true := by simpa using hB
  subst hBt
  have hx13 := Lib.hid (hx12.out.trans (hb13.mono hx12.out.size))
  clear hb13 hB hrd y0 y1 y2 y3 y4 y5 y6 z0 z1 z2 z3 z4 z5 z6
  go_wp2_with fail
  refine (Code_ok w13).mono ?_
  rintro e14 w14 ⟨rfl, hb14⟩
  have hfin := Lib.hid (hx13.out.trans (hb14.mono hx13.out.size))
  clear hb14
  go_wp2_with fail
  go_ret
  exact ⟨rfl, hfin.out⟩
end
end Go.Proofs.YtokdnhdfmgfkeaaGreatDoor.Xp
end
