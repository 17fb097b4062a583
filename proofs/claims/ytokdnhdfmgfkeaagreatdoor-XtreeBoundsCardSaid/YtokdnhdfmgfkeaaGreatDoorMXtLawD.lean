/- The law XtreeDeep. Printed by xt_lawd.py. -/
import Derived.Test.YtokdnhdfmgfkeaaGreatDoorMXoSize
import Derived.Test.YtokdnhdfmgfkeaaGreatDoorMXnSt1
import Derived.Test.YtokdnhdfmgfkeaaGreatDoorMXnTok
import Derived.Test.YtokdnhdfmgfkeaaGreatDoorMXlValues
import Derived.Test.YtokdnhdfmgfkeaaGreatDoorMUtfEnc
import Derived.Deep.MidRow
import Derived.Test.YtokdnhdfmgfkeaaGreatDoorMXlNumber
section
namespace Go.Proofs.YtokdnhdfmgfkeaaGreatDoor.Xt
open Go.RowKit UtfW Xl Xo

theorem Sm.endT {s : St} {N : Nat} (h : Sm s N) : Sm (Xt.endT s) (N + 2) := by
  have h1 := h.flush
  unfold Xt.endT
  simp only
  split
  · rename_i f F ho
    have h2 : Sm { Xt.flush s with opn := F } (N + 1) := ⟨h1.bef, h1.aft, fun g hg => h1.kid g (by rw [ho]; exact List.mem_cons_of_mem _ hg)⟩
    exact h2.put _
  · exact h1.mono (by omega)
theorem Sm.startT {s s' : St} {t : Xl.Tok} {N : Nat} (h : Sm s N) (hs : startT s t = .ok s') : Sm s' (N + 1) := by
  unfold Xt.startT at hs
  split at hs
  · cases hs
  · split at hs
    · cases hs
    · split at hs
      · cases hs
      · injection hs with hs
        have hf : Sm (Xt.flush { s with nodes := s.nodes + (1 + t.attrs.length) }) (N + 1) := Sm.flush ⟨h.bef, h.aft, h.kid⟩
        subst hs
        refine ⟨hf.bef, hf.aft, fun g hg => ?_⟩
        rcases List.mem_cons.1 hg with rfl | hg
        · exact Nat.zero_le _
        · exact hf.kid g hg
theorem Sm.stepT {s s' : St} {t : Xl.Tok} {N : Nat} (h : Sm s N) (hs : Xt.stepT s t = .ok s') : Sm s' (N + 3) := by
  unfold Xt.stepT at hs
  split at hs
  · exact (h.startT hs).mono (by omega)
  · split at hs
    · cases h1 : Xt.startT s t with
      | error e => rw [h1] at hs; cases hs
      | ok s1 =>
        rw [h1] at hs
        injection hs with hs
        rw [← hs]
        exact (h.startT h1).endT
    · split at hs
      · split at hs
        · cases hs
        · split at hs
          · injection hs with hs
            rw [← hs]
            exact h.endT.mono (by omega)
          · cases hs
      · have other : ∀ k : Int, otherT s t k = .ok s' → Sm s' (N + 3) := fun k hs => by
          unfold otherT at hs
          split at hs
          · cases hs
          · injection hs with hs
            have hf : Sm (Xt.flush { s with nodes := s.nodes + 1 }) (N + 1) := Sm.flush ⟨h.bef, h.aft, h.kid⟩
            rw [← hs]
            exact (hf.put _).mono (by omega)
        split at hs
        · exact other 3 hs
        · split at hs
          · exact other 4 hs
          · unfold charsT at hs
            split at hs
            · split at hs
              · cases hs
              · injection hs with hs
                rw [← hs]
                exact h.mono (by omega)
            · split at hs
              · split at hs
                · cases hs
                · injection hs with hs
                  rw [← hs]
                  exact ⟨Nat.le_add_right_of_le h.bef, Nat.le_add_right_of_le h.aft, fun f hf => Nat.le_add_right_of_le (h.kid f hf)⟩
              · injection hs with hs
                rw [← hs]
                exact ⟨Nat.le_add_right_of_le h.bef, Nat.le_add_right_of_le h.aft, fun f hf => Nat.le_add_right_of_le (h.kid f hf)⟩
theorem Sm.start_ : Sm .start 0 := ⟨Nat.le_refl _, Nat.le_refl _, fun f hf => by cases hf⟩
theorem esc_ge (v : Bool) : ∀ s : Tx, s.length ≤ (esc v s).length
  | [] => Nat.le_refl _
  | c :: s => by
    have h1 := esc_ge v s
    rw [esc, List.length_append, List.length_cons]
    have h2 : 1 ≤ (esc1 v c).length := by
      rcases esc1_cases v c with ⟨e, _⟩ | ⟨e, he, _⟩
      · rw [e]; simp
      · rw [he]; simp
    omega
theorem text_phi (s : St) : s.text.length ≤ phi s := by
  have := esc_ge false s.text
  unfold phi
  omega
theorem runF_many : ∀ (f : Nat) {r : Tx} {k p : Nat} {ts us : List Xl.Tok}, Xl.runF f r k ts = (0, p, us) → us.length ≤ ts.length + r.length
  | 0, r, k, p, ts, us, h => by
    injection h with _ h
    injection h with _ h
    rw [← h]
    omega
  | f + 1, r, k, p, ts, us, h => by
    rw [Xl.runF] at h
    split at h
    · injection h with _ h
      injection h with _ h
      rw [← h]
      omega
    · rename_i hne
      cases ht : Xl.token r with
      | bad c o =>
        rw [ht] at h
        injection h with h1 h
        injection h with h2 h
        rw [← h]
        simp
      | ok t n =>
        rw [ht] at h
        obtain ⟨g1, g2⟩ := Xl.token_len ht hne
        have g3 := runF_many f h
        rw [List.length_append, List.length_drop] at g3
        simp at g3
        omega
theorem all_many {S : Tx} {ts : List Xl.Tok} {p : Nat} (h : Xl.allF S = (0, p, ts)) : ts.length ≤ S.length ∧ S.length ≤ 65536 := by
  unfold Xl.allF at h
  split at h
  · injection h with h _
    exact absurd h (by decide)
  · split at h
    · injection h with h _
      exact absurd h (by decide)
    · cases hd : decl S with
      | bad c o =>
        rw [hd] at h
        injection h with h1 h
        injection h with h2 h
        rw [← h]
        exact ⟨Nat.zero_le _, by omega⟩
      | ok u n =>
        rw [hd] at h
        have := runF_many _ h
        rw [List.length_drop] at this
        simp at this
        omega

/-! ### Parse -/
def parseF (S : Tx) : Int × Nat × Doc := if (Xl.allF S).1 ≠ 0 then ((Xl.allF S).1, (Xl.allF S).2.1, noDoc) else parseT S.length (Xl.allF S).2.2
theorem runT_snoc : ∀ {a : List Xl.Tok} {s0 s : St} (t : Xl.Tok) (l : List Xl.Tok), Xt.runT a s0 = .ok s → Xt.runT (a ++ t :: l) s0 = match Xt.stepT s t with
    | .error e => .error (e, t.at_)
    | .ok s' => Xt.runT l s'
  | [], s0, s, t, l, h => by
    injection h with h
    subst h
    rw [List.nil_append, Xt.runT]
    cases Xt.stepT s0 t <;> rfl
  | x :: a, s0, s, t, l, h => by
    rw [Xt.runT] at h
    rw [List.cons_append, Xt.runT]
    cases hx : Xt.stepT s0 x with
    | error e => rw [hx] at h; cases h
    | ok s1 =>
      rw [hx] at h
      exact runT_snoc t l h
theorem runT_take {ts : List Xl.Tok} {i : Nat} {t : Xl.Tok} {s s' : St} (hi : ts[i]? = some t) (h : Xt.runT (ts.take i) .start = .ok s) (hs : Xt.stepT s t = .ok s') : Xt.runT (ts.take (i + 1)) .start = .ok s' := by
  rw [take_snoc hi, runT_snoc t [] h, hs]
  rfl
theorem runT_bad {ts : List Xl.Tok} {i : Nat} {t : Xl.Tok} {s : St} {e : Int} (hi : ts[i]? = some t) (h : Xt.runT (ts.take i) .start = .ok s) (hs : Xt.stepT s t = .error e) : Xt.runT ts .start = .error (e, t.at_) := by
  have hl : ts = ts.take i ++ t :: ts.drop (i + 1) := by
    have hlt := (List.getElem?_eq_some_iff.1 hi).1
    have he : ts[i] = t := (List.getElem?_eq_some_iff.1 hi).2
    rw [← he, List.getElem_cons_drop, List.take_append_drop]
  rw [hl, runT_snoc t _ h, hs]
/-- What holds of the builder as it goes over tokens. -/
structure Run (S : Tx) (ts : List Xl.Tok) (i : Nat) (s : St) : Prop where
  run : Xt.runT (ts.take i) .start = .ok s
  inv : Inv s
  sm : Sm s (3 * i)
  phi : phi s ≤ costs (ts.take i)
theorem run_0 (S : Tx) (ts : List Xl.Tok) : Run S ts 0 .start := ⟨rfl, inv_start, Sm.start_, by rw [phi_0]; exact Nat.zero_le _⟩
theorem costs_take : ∀ (ts : List Xl.Tok) (i : Nat), costs (ts.take i) ≤ costs ts
  | [], i => by simp
  | t :: l, 0 => by simp [costs]
  | t :: l, i + 1 => by
    rw [List.take_succ_cons, costs, costs]
    have := costs_take l i
    omega
theorem Run.next {S : Tx} {ts : List Xl.Tok} {i : Nat} {s s' : St} {t : Xl.Tok} (h : Run S ts i s) (hi : ts[i]? = some t) (hP : TokP t) (hs : Xt.stepT s t = .ok s') : Run S ts (i + 1) s' := by
  refine ⟨runT_take hi h.run hs, h.inv.stepT hP.2.2 hs, h.sm.stepT hs, ?_⟩
  have := phi_step hP.1 hs
  have h2 := h.phi
  rw [take_snoc hi, costs_snoc]
  omega
end Go.Proofs.YtokdnhdfmgfkeaaGreatDoor.Xt
end

section
namespace Go.Proofs.YtokdnhdfmgfkeaaGreatDoor.Xl
open Go.RowKit UtfW Er

theorem hexc_cut {d : Nat} (h : d < 16) : (strOf [48, 49, 50, 51, 52, 53, 54, 55, 56, 57, 97, 98, 99, 100, 101, 102]).extract d (d + 1) = strOf [hexc d] := by
  rw [strOf_cut, show d + 1 - d = 1 by omega]
  have : ∀ d : Fin 16, (([48, 49, 50, 51, 52, 53, 54, 55, 56, 57, 97, 98, 99, 100, 101, 102] : Tx).drop d.val).take 1 = [hexc d.val] := by decide
  rw [this ⟨d, h⟩]
end Go.Proofs.YtokdnhdfmgfkeaaGreatDoor.Xl
end

section
namespace Go.Proofs.YtokdnhdfmgfkeaaGreatDoor.Xl
open Go.RowKit UtfW Er

theorem cell_keep {w x : World} {b i : Nat} {v : Value} (h : w.cell? ⟨b, i, none⟩ = some v) (hb : Below w.heap.size w x) : x.cell? ⟨b, i, none⟩ = some v := by
  have hlt : b < w.heap.size := by
    refine Nat.lt_of_not_le fun hn => ?_
    simp [World.cell?, Array.getElem?_eq_none hn] at h
  have e := hb.block b hlt
  simp only [World.cell?] at h ⊢
  rw [e]
  exact h
section
variable (w : World) (S : Tx) (n : Int)
end
end Go.Proofs.YtokdnhdfmgfkeaaGreatDoor.Xl
end

section
namespace Go.Proofs.YtokdnhdfmgfkeaaGreatDoor.Xt
open Go.RowKit UtfW Xl Xo

/-- A document in memory. -/
def DocI (X : Nat → Prop) (w : World) (v : Value) (d : Doc) : Prop := ∃ A1 c1 r0 r1 r2 r3 r4 A2 c2, v = .agg #[.slice A1 d.before.length c1, r0, r1, r2, r3, r4, .slice A2 d.after.length c2] ∧
  Sq (NdE X) 5 w A1 d.before.length c1 d.before ∧ (∀ a, A1 = some a → 0 < d.before.length → X a.block) ∧ NdI X w [r0, r1, r2, r3, r4] d.root ∧ Sq (NdE X) 5 w A2 d.after.length c2 d.after ∧ ∀ a, A2 = some a → 0 < d.after.length → X a.block
def zeroDoc : Value := .agg #[.slice none 0 0, .int .i64 0, .string ⟨#[]⟩, .string ⟨#[]⟩, .slice none 0 0, .slice none 0 0, .slice none 0 0]
theorem DocI.zero (X : Nat → Prop) (w : World) : DocI X w zeroDoc noDoc :=
  ⟨none, 0, _, _, _, _, _, none, 0, rfl, Sq.none_ w, fun a e => (by cases e), zero_nd X w, Sq.none_ w, fun a e => (by cases e)⟩
/-- What Parse gives. -/
def ParP (S : Tx) (w : World) (e : Ending) (w' : World) : Prop := Below w.heap.size w w' ∧ ∃ vd ev, e = .returned (.tuple #[vd, ev]) ∧
  (((parseF S).1 = 0 ∧ ev = .nilIface ∧ DocI (fun k => w.heap.size ≤ k ∧ k < w'.heap.size) w' vd (parseF S).2.2) ∨ ((parseF S).1 ≠ 0 ∧ (parseF S).2.2 = noDoc ∧ vd = zeroDoc ∧ Er.Fe w' w'.heap.size (parseF S).1 ((parseF S).2.1 : Nat) [xmlB] ev))
theorem setCell_same {w : World} {b i : Nat} {cs : Array Value} {E : TypeId} {fr : Nat × Nat} {v : Value} (h : w.heap[b]? = some (.cells cs E fr)) (hi : cs[i]? = some v) : w.setCell ⟨b, i, none⟩ v = w := by
  have hh : (w.setCell ⟨b, i, none⟩ v).heap = w.heap := by
    unfold World.setCell
    simp only
    apply Array.ext_getElem?
    intro j
    rw [Array.getElem?_modify]
    by_cases hj : b = j
    · subst hj
      rw [if_pos rfl, h]
      simp only [Option.map_some, Option.some.injEq, Obj.cells.injEq, and_true]
      apply Array.ext_getElem?
      intro k
      rw [if_neg (by simp), Array.getElem?_setIfInBounds]
      by_cases hk : i = k
      · subst hk
        have := (Array.getElem?_eq_some_iff.1 hi).1
        rw [if_pos rfl, if_pos this, hi]
      · rw [if_neg hk]
    · rw [if_neg hj]
  obtain ⟨a1, a2, a3, a4⟩ := w
  unfold World.setCell at hh ⊢
  simp only at hh
  rw [hh]
theorem doc_same {w : World} {D : Nat} (h : w.heap[D]? = some (.cells #[.slice none 0 0, .int .i64 0, .string ⟨#[]⟩, .string ⟨#[]⟩, .slice none 0 0, .slice none 0 0, .slice none 0 0] 27)) :
    w.setCell ⟨D, 0, none⟩ (.slice none 0 0) = w ∧ w.setCell ⟨D, 1, none⟩ (.int .i64 0) = w ∧ w.setCell ⟨D, 2, none⟩ (.string ⟨#[]⟩) = w ∧ w.setCell ⟨D, 3, none⟩ (.string ⟨#[]⟩) = w ∧ w.setCell ⟨D, 4, none⟩ (.slice none 0 0) = w ∧ w.setCell ⟨D, 5, none⟩ (.slice none 0 0) = w ∧ w.setCell ⟨D, 6, none⟩ (.slice none 0 0) = w :=
  ⟨setCell_same h rfl, setCell_same h rfl, setCell_same h rfl, setCell_same h rfl, setCell_same h rfl, setCell_same h rfl, setCell_same h rfl⟩
theorem res_doc {fn : Func} {p u : Tmp} (hf : fn.results = #[.cell p 27, .tmp u]) {tmps : Array Value} {w : World} {D : Nat} {a0 a1 a2 a3 a4 a5 a6 ok : Value}
    (h : w.heap[D]? = some (.cells #[a0, a1, a2, a3, a4, a5, a6] 27)) (hp : tmps.getD p undef = .pointer (some ⟨D, 0, none⟩)) (hu : tmps.getD u undef = ok) :
    (results fn tmps).run Tryz.prog w = .ok (.tuple #[.agg #[a0, a1, a2, a3, a4, a5, a6], ok]) w := by
  rw [results_cell_tmp hf, hp, hu]
  simp [asAddr, Result.andThen, run_loadVar_row w D _ _ _ _ _ h Tryz.underlying27 rfl (by kernel_rfl)]
/-- A builder that begins. -/
theorem bs_start (w : World) (lo : Nat) : BsA (fun k => if k = w.heap.size then .bld else .no) ⟨lo, w.heap.size⟩ (w.alloc (.cells #[.slice none 0 0, .int .i64 0, .string ⟨#[]⟩, .string ⟨#[]⟩, .slice none 0 0, .slice none 0 0, .slice none 0 0, .slice none 0 0, .string ⟨#[]⟩, .int .i64 0, .bool false] 85)) w.heap.size .start := by
  have hb := below_alloc w (.cells #[.slice none 0 0, .int .i64 0, .string ⟨#[]⟩, .string ⟨#[]⟩, .slice none 0 0, .slice none 0 0, .slice none 0 0, .slice none 0 0, .string ⟨#[]⟩, .int .i64 0, .bool false] 85)
  refine ⟨.slice none 0 0, .slice none 0 0, .slice none 0 0, [.int .i64 0, .string ⟨#[]⟩, .string ⟨#[]⟩, .slice none 0 0, .slice none 0 0], [], ⟨fun k hk => ?_, hb.size, by simp, fun _ => ⟨OwS.nil _ _ _, fun k hk => (by cases hk)⟩, zero_nd _ _, fun _ => ⟨OwS.nil _ _ _, fun k hk => (by cases hk)⟩, fun _ => ⟨World.ownsRow_nil _ _ _ _, fun k hk => (by cases hk)⟩, rfl, fun i k f _ _ h => (by simp at h)⟩, _, _, _, _, _, rfl, heap_alloc_new w _⟩
  by_cases e : k = w.heap.size
  · subst e
    exact ⟨Nat.le_refl _, by simp⟩
  · simp [e] at hk
theorem Sq.stay2 {α : Type} {El El' : World → List Value → α → Prop} {k : Nat} {w w' : World} {A : Option Addr} {n c : Nat} {l : List α} (h : Sq El k w A n c l) (hX : ∀ a, A = some a → 0 < n → w'.heap[a.block]? = w.heap[a.block]?) (hE : ∀ vs x, El w vs x → El' w' vs x) : Sq El' k w' A n c l :=
  ⟨h.len, h.le, h.max, h.nil, fun hn => by
    obtain ⟨b, off, e, hlt, hc⟩ := h.cell hn
    have hs : w'.heap[b]? = w.heap[b]? := hX ⟨b, off, none⟩ e hn
    refine ⟨b, off, e, ?_, fun i x hi => ?_⟩
    · rw [Array.getElem?_eq_getElem hlt] at hs
      exact (Array.getElem?_eq_some_iff.1 hs).1
    · obtain ⟨vs, h1, h2, h3⟩ := hc i x hi
      exact ⟨vs, h1, hE _ _ h2, fun j v hj => (cell_same hs).trans (h3 j v hj)⟩⟩
/-- The document that the builder holds at the end. -/
theorem doc_fin {ρ : Rol} {P0 : Pp} {w : World} {b : Nat} {s : St} (h : BsA ρ P0 w b s) {lo0 D : Nat} (hD : D < P0.lo) (hlo : lo0 ≤ P0.lo) (hlh : P0.lo ≤ P0.hi) :
    ∃ A1 n1 c1 kd nm tx Ar na cr Ak nk ck A2 n2 c2 C, w.heap[b]? = some (.cells C 85) ∧ C[0]? = some (.slice A1 n1 c1) ∧ C[1]? = some (.int .i64 kd) ∧ C[2]? = some (.string nm) ∧ C[3]? = some (.string tx) ∧ C[4]? = some (.slice Ar na cr) ∧ C[5]? = some (.slice Ak nk ck) ∧ C[6]? = some (.slice A2 n2 c2) ∧
      ∀ w', w.grownBy w' (some D) → DocI (fun k => lo0 ≤ k ∧ k < w'.heap.size) w' (.agg #[.slice A1 n1 c1, .int .i64 kd, .string nm, .string tx, .slice Ar na cr, .slice Ak nk ck, .slice A2 n2 c2]) ⟨s.before, s.root, s.after⟩ := by
  obtain ⟨v1, v2, v3, vr, nb, hR, r0, r1, r2, r3, r4, rfl, hB⟩ := h
  obtain ⟨A1, c1, rfl⟩ := OwS.form (hR.bef id).ow
  obtain ⟨A2, c2, rfl⟩ := OwS.form (hR.aft id).ow
  have hroot : ∃ kd nm tx Ar na cr Ak nk ck, [r0, r1, r2, r3, r4] = [.int .i64 kd, .string nm, .string tx, .slice Ar na cr, .slice Ak nk ck] := by
    have h0 := hR.root
    generalize s.root = R at h0
    obtain ⟨kd, nm, tx, as_, ks⟩ := R
    obtain ⟨Ar, cr, Ak, ck, e, _⟩ := h0.cells
    exact ⟨_, _, _, _, _, _, _, _, _, e⟩
  obtain ⟨kd, nm, tx, Ar, na, cr, Ak, nk, ck, e⟩ := hroot
  have hrt := hR.root
  rw [e] at hrt
  injection e with e0 e
  injection e with e1 e
  injection e with e2 e
  injection e with e3 e
  injection e with e4 e
  subst e0; subst e1; subst e2; subst e3; subst e4
  refine ⟨A1, _, c1, kd, nm, tx, Ar, na, cr, Ak, nk, ck, A2, _, c2, _, hB, rfl, rfl, rfl, rfl, rfl, rfl, rfl, fun w' hg => ?_⟩
  have hst : ∀ vs x, NdI (Fin_ ρ P0) w vs x → NdI (fun k => lo0 ≤ k ∧ k < w'.heap.size) w' vs x := fun vs x hx => hx.stay fun k hk => by
    have hl := fin_mem hR.dom hR.p0 hk
    have hge : P0.lo ≤ k := by
      rcases hk with hk | hk
      · exact hk.1
      · exact Nat.le_trans hlh (hR.dom k (by rw [hk]; exact fun e => by cases e)).1
    exact ⟨⟨Nat.le_trans hlo hge, Nat.lt_of_lt_of_le hl hg.size⟩, hg.block k hl (fun e => by injection e with e; omega)⟩
  have hrow : ∀ {A : Option Addr} {m c : Nat} {l : List Nd} {r : Ro}, OwN 25 ρ P0 w r (.slice A m c) l → l.length = m → Sq (NdE (fun k => lo0 ≤ k ∧ k < w'.heap.size)) 5 w' A m c l ∧ ∀ a, A = some a → 0 < m → lo0 ≤ a.block ∧ a.block < w'.heap.size := fun {A m c l r} ho hl => by
    have hin : ∀ a, A = some a → P0.hi ≤ a.block ∧ a.block < w.heap.size := fun a e => OwS.lt ho.ow a.block (by rw [e]; rfl)
    exact ⟨Sq.stay2 (OwS.sq' ho.ow (by decide)) (fun a e hn => hg.block _ (hin a e).2 (fun e2 => by injection e2 with e2; have := (hin a e).1; omega)) hst, fun a e hn => ⟨Nat.le_trans hlo (Nat.le_trans hlh (hin a e).1), Nat.lt_of_lt_of_le (hin a e).2 hg.size⟩⟩
  obtain ⟨g1, g2⟩ := hrow (hR.bef id) rfl
  obtain ⟨g3, g4⟩ := hrow (hR.aft id) rfl
  exact ⟨A1, c1, _, _, _, _, _, A2, c2, rfl, g1, g2, hst _ _ hrt, g3, g4⟩
/-- The world behind the making of a round's own token. -/
abbrev tokW (w : World) (k a n t v : Value) : World := w.alloc (.cells #[k, a, n, t, v] 87)
theorem tokW_below (w : World) (k a n t v : Value) : Below w.heap.size w (tokW w k a n t v) := below_alloc w _
theorem tokW_blk (w : World) (k a : Int) (n t : ByteArray) (v : Value) : (tokW w (.int .i64 k) (.int .i64 a) (.string n) (.string t) v).heap[w.heap.size]? = some (.cells #[.int .i64 k, .int .i64 a, .string n, .string t, v] 87) := heap_alloc_new w _
end Go.Proofs.YtokdnhdfmgfkeaaGreatDoor.Xt
end

section
namespace Go.Proofs.YtokdnhdfmgfkeaaGreatDoor.Xt
open Go.RowKit UtfW Xl Xo

section
variable (w : World) (hU : Un w) (A : Option Addr) (n c : Nat) (S : Tx) (hBs : Bs w A n c S) (hn : n ≤ 1000000)
include hU hBs hn
set_option maxHeartbeats 8000000 in
set_option maxRecDepth 100000 in
theorem parse_any : Calls Tryz.prog 25 #[.slice A n c] w fun e w' => ParP S w e w' := by
  have hl : S.length = n := hBs.len
  have hba := below_alloc w (.cells #[.slice none 0 0, .int .i64 0, .string ⟨#[]⟩, .string ⟨#[]⟩, .slice none 0 0, .slice none 0 0, .slice none 0 0] 27)
  have hD := heap_alloc_new w (.cells #[.slice none 0 0, .int .i64 0, .string ⟨#[]⟩, .string ⟨#[]⟩, .slice none 0 0, .slice none 0 0, .slice none 0 0] 27)
  obtain ⟨D, hDe⟩ : ∃ D, w.heap.size = D := ⟨_, rfl⟩
  obtain ⟨w1, hw1⟩ : ∃ w1, w.alloc (.cells #[.slice none 0 0, .int .i64 0, .string ⟨#[]⟩, .string ⟨#[]⟩, .slice none 0 0, .slice none 0 0, .slice none 0 0] 27) = w1 := ⟨_, rfl⟩
  rw [hw1] at hba hD
  rw [hDe] at hD
  have hc := Lib.hid (All_any w1 (hU.below hba) A n c S (Bs.below hBs hba) hn)
  obtain ⟨R, hR⟩ : ∃ R, parseF S = R := ⟨_, rfl⟩
  have hPar : ∀ (e : Ending) (w' : World), (Below w.heap.size w w' ∧ ∃ vd ev, e = .returned (.tuple #[vd, ev]) ∧ ((R.1 = 0 ∧ ev = .nilIface ∧ DocI (fun k => w.heap.size ≤ k ∧ k < w'.heap.size) w' vd R.2.2) ∨ (R.1 ≠ 0 ∧ R.2.2 = noDoc ∧ vd = zeroDoc ∧ Er.Fe w' w'.heap.size R.1 (R.2.1 : Nat) [xmlB] ev))) → ParP S w e w' := fun e w' h => by
    unfold ParP
    rw [hR]
    exact h
  replace hPar := Lib.hid hPar
  have hDl : D < w1.heap.size := (Array.getElem?_eq_some_iff.1 hD).1
  unfold parseF at hR
  obtain ⟨cd, p, ts, hall⟩ : ∃ cd p ts, Xl.allF S = (cd, p, ts) := ⟨_, _, _, rfl⟩
  rw [hall] at hR
  simp only at hR
  have hbaH := Lib.hid hba
  clear hU hBs
  by_cases hcd : cd = 0
  · subst hcd
    rw [if_neg (by simp)] at hR
    subst hl
    have hO := fun w2 e h => AllP.ok (w := w1) (w' := w2) (e := e) h hall
    obtain ⟨hP, hcost⟩ := all_P hall
    obtain ⟨hmany, hS65⟩ := all_many hall
    have hout := Lib.hid (allF_out hall)
    obtain ⟨m, hm⟩ : ∃ m, ts.length = m := ⟨_, rfl⟩
    rw [hm] at hmany hO
    replace hO := Lib.hid hO
    replace hP := Lib.hid hP
    replace hcost := Lib.hid hcost
    replace hR := Lib.hid hR
    replace hm := Lib.hid hm
    have hDlo := Lib.hid hDl
    obtain ⟨L, hL⟩ : ∃ L, w1.heap.size = L := ⟨_, rfl⟩
    clear hba hall
    go_enter Tryz.func25, Tryz.ntmps25
    go_wp2_with fail
    refine hc.out.mono ?_
    rintro e w2 hAP
    obtain ⟨hb2, A2, c2, rfl, hTk⟩ := hO.out w2 e hAP
    have hD2 := Lib.hid ((hb2.block D hDl).trans hD)
    have hbs := bs_start w2 w1.heap.size
    have hb3 := below_alloc w2 (.cells #[.slice none 0 0, .int .i64 0, .string ⟨#[]⟩, .string ⟨#[]⟩, .slice none 0 0, .slice none 0 0, .slice none 0 0, .slice none 0 0, .string ⟨#[]⟩, .int .i64 0, .bool false] 85)
    have hL2 := Lib.hid hb2.size
    have hbA := Lib.hid (hbaH.out.trans (hb2.mono hbaH.out.size))
    have hDB := Lib.hid (Nat.lt_of_lt_of_le hDl hb2.size)
    replace hTk := Lib.hid hTk
    obtain ⟨ρ0, hρ0⟩ : ∃ ρ0 : Rol, (fun k => if k = w2.heap.size then Ro.bld else .no) = ρ0 := ⟨_, rfl⟩
    rw [hρ0] at hbs
    obtain ⟨B, hB⟩ : ∃ B, w2.heap.size = B := ⟨_, rfl⟩
    obtain ⟨w3, hw3⟩ : ∃ w3, w2.alloc (.cells #[.slice none 0 0, .int .i64 0, .string ⟨#[]⟩, .string ⟨#[]⟩, .slice none 0 0, .slice none 0 0, .slice none 0 0, .slice none 0 0, .string ⟨#[]⟩, .int .i64 0, .bool false] 85) = w3 := ⟨_, rfl⟩
    rw [hw3] at hbs hb3
    rw [hB] at hbs
    obtain ⟨P0, hP0⟩ : ∃ P0 : Pp, Pp.mk w1.heap.size B = P0 := ⟨_, rfl⟩
    rw [hP0] at hbs
    have hPlo : Hid (P0.lo = w1.heap.size) := Lib.hid (by rw [← hP0])
    have hPhi : Hid (P0.hi = w2.heap.size) := Lib.hid (by rw [← hP0, hB])
    replace hbs := Lib.hid hbs
    replace hb3 := Lib.hid hb3
    have hm63 : m ≤ 100000 := by omega
    clear hρ0 hP0 hb2 hAP hD
    go_wp2_with fail
    go_loopw [23] (fun v23 wr => ∃ (i : Nat) (ρr : Rol) (sr : St), i ≤ m ∧ v23 = .int .i64 (i : Nat) ∧ Hid (BsA ρr P0 wr B sr) ∧ Hid (Run S ts i sr) ∧ Hid (Below w2.heap.size w2 wr)) (fun v23 _ => m - (intOf v23).toNat)
    case atStart => exact ⟨0, ρ0, .start, Nat.zero_le _, rfl, hbs, Lib.hid (run_0 S ts), hb3⟩
    case round =>
      obtain ⟨i, ρr, sr, hi, rfl, hBs, hRun, hbr⟩ := hrel
      by_cases hlt : i < m
      · have i1 : decide ((i : Int) < (m : Int)) = true := by simp; omega
        have q1 : (i : Int) < (m : Int) := by omega
        obtain ⟨t, ht⟩ : ∃ t, ts[i]? = some t := ⟨ts[i]'(by rw [hm.out]; exact hlt), List.getElem?_eq_getElem (by rw [hm.out]; exact hlt)⟩
        obtain ⟨b9, off, At_, ct, rfl, _, m0, m1, m2, m3, m4, hAt⟩ := tk_at hTk.out ht
        have m0 := cell_keep m0 hbr.out
        have m1 := cell_keep m1 hbr.out
        have m2 := cell_keep m2 hbr.out
        have m3 := cell_keep m3 hbr.out
        have m4 := cell_keep m4 hbr.out
        have htm := List.mem_of_getElem? ht
        have htP := hP.out t htm
        have htS := hout.out t htm
        have hbt := tokW_below wr (.int .i64 (t.kind : Nat)) (.int .i64 (t.at_ : Nat)) (.string (strOf t.name)) (.string (strOf t.text)) (.slice At_ t.attrs.length ct)
        have hblk := tokW_blk wr (t.kind : Nat) (t.at_ : Nat) (strOf t.name) (strOf t.text) (.slice At_ t.attrs.length ct)
        have ht5 : TkP P0 (tokW wr (.int .i64 (t.kind : Nat)) (.int .i64 (t.at_ : Nat)) (.string (strOf t.name)) (.string (strOf t.text)) (.slice At_ t.attrs.length ct)) [.int .i64 (t.kind : Nat), .int .i64 (t.at_ : Nat), .string (strOf t.name), .string (strOf t.text), .slice At_ t.attrs.length ct] t :=
          ⟨At_, ct, rfl, ((OwS.sq' hAt (by decide)).below AtEl.to hbr.out).below AtEl.to hbt, fun a e _ => by
            have := OwS.lt hAt a.block (by rw [e]; rfl)
            rw [hPlo.out, hPhi.out]
            exact this⟩
        have h5 := BsA.later hBs.out hbt
        have hnew := BsA.new hBs.out
        have hinv := hRun.out.inv
        have hcst := hRun.out.phi
        have htx := text_phi sr
        have hct := costs_take ts i
        have hcs := hcost.out
        have hattr : t.kind = 1 ∨ t.kind = 2 → t.attrs.length ≤ 400000 := fun hk => by
          have g1 := writeA_len t.attrs
          have g2 : cost t ≤ costs ts := by
            have := costs_take ts (i + 1)
            rw [take_snoc ht, costs_snoc] at this
            omega
          have g3 : (writeA t.attrs).length ≤ cost t := by
            unfold cost
            rcases hk with hk | hk
            · rw [if_pos hk]; omega
            · rw [if_neg (by omega), if_pos hk]; omega
          omega
        have htt := htS.text
        have hstep := token_any h5 ht5 hRun.out.sm (by omega) (by have := hinv.max; omega) hattr (by omega)
        cases hst : stepT sr t with
        | error x =>
          rw [hst] at hstep
          have hx0 := step_no0 hst
          have hx1 : (x != 0) = true := by simpa using hx0
          have hres : Hid (parseT S.length ts = (x, t.at_, noDoc)) := Lib.hid (by
            unfold parseT
            rw [runT_bad ht hRun.out.run hst])
          replace hstep := Lib.hid hstep
          replace hbt := Lib.hid hbt
          replace hblk := Lib.hid hblk
          replace hnew := Lib.hid hnew
          clear h5 ht5 hinv hcst htx hct hcs hattr htt hst htP htS htm hAt
          go_wp2_with fail
          refine hstep.out.mono ?_
          rintro e w6 ⟨c6, rfl, hb6, hc6, ρ6, hk6⟩
          subst hc6
          have hsame := (hk6 wr.heap.size (Array.getElem?_eq_some_iff.1 hblk.out).1 hnew.out).1
          have x1 : w6.cell? ⟨wr.heap.size, 1, none⟩ = some (.int .i64 (t.at_ : Nat)) := cell_blk (hsame.trans hblk.out) rfl
          have hw26 := Lib.hid ((hbr.out.trans (hbt.out.mono hbr.out.size)).trans (by rw [← hPhi.out]; exact hb6))
          clear hsame hk6 hb6 hstep m0 m1 m2 m3 m4
          go_wp2_with fail
          refine (Er.New_any _ (t.at_ : Nat) hx0 w6).mono ?_
          rintro e w7 ⟨v7, rfl, hb7, hF7⟩
          have hw27 := Lib.hid (hw26.out.trans (hb7.mono hw26.out.size))
          clear hb7
          go_wp2_with fail
          refine (Er.Wrap_any xmlB _ _ _ _ w7 hF7).mono ?_
          rintro e w8 ⟨v8, rfl, hb8, hF8⟩
          have hw28 := hw27.out.trans (hb8.mono hw27.out.size)
          have hD8 := (hw28.block D hDB.out).trans hD2.out
          obtain ⟨s0, s1, s2, s3, s4, s5, s6⟩ := doc_same hD8
          have f0 := frozen_of_row w8 D 0 _ _ hD8
          have z0 := cell_blk hD8 (i := 0) rfl
          have f1 := frozen_of_row w8 D 1 _ _ hD8
          have z1 := cell_blk hD8 (i := 1) rfl
          have f2 := frozen_of_row w8 D 2 _ _ hD8
          have z2 := cell_blk hD8 (i := 2) rfl
          have f3 := frozen_of_row w8 D 3 _ _ hD8
          have z3 := cell_blk hD8 (i := 3) rfl
          have f4 := frozen_of_row w8 D 4 _ _ hD8
          have z4 := cell_blk hD8 (i := 4) rfl
          have f5 := frozen_of_row w8 D 5 _ _ hD8
          have z5 := cell_blk hD8 (i := 5) rfl
          have f6 := frozen_of_row w8 D 6 _ _ hD8
          have z6 := cell_blk hD8 (i := 6) rfl
          have hfin : Hid (ParP S w (.returned (.tuple #[zeroDoc, v8])) w8) := Lib.hid (hPar.out _ _ ⟨hbA.out.trans (hw28.mono hbA.out.size), _, _, rfl, .inr (by rw [← hR.out, hres.out]; exact ⟨hx0, rfl, rfl, hF8⟩)⟩)
          replace hD8 := Lib.hid hD8
          clear hw28 hb8 hF8 hF7
          go_wp2_with fail
          (try simp only [Exit.inBlock, Exit.then])
          exact bodyPost_ret (res_doc (ok := v8) rfl hD8.out rfl rfl) rfl hfin.out
        | ok s' =>
          rw [hst] at hstep
          have hnext := Lib.hid (hRun.out.next ht htP hst)
          replace hstep := Lib.hid hstep
          replace hbt := Lib.hid hbt
          clear h5 ht5 hinv hcst htx hct hcs hattr htt hst htP htS htm hAt hblk hnew
          go_wp2_with fail
          refine hstep.out.mono ?_
          rintro e w6 ⟨c6, rfl, hb6, hc6, ρ6, h6, hk6⟩
          subst hc6
          have hw26 := Lib.hid ((hbr.out.trans (hbt.out.mono hbr.out.size)).trans (by rw [← hPhi.out]; exact hb6))
          replace h6 := Lib.hid h6
          clear hk6 hb6 hstep m0 m1 m2 m3 m4
          go_wp2_with fail
          go_roundw
          case rel => exact ⟨i + 1, ρ6, s', by omega, by go_num, h6, hnext, hw26⟩
          case measure => simp [intOf]; omega
      · have hie : i = m := by omega
        subst hie
        have i1 : decide ((i : Int) < (i : Int)) = false := by simp
        have hrun : Hid (runT ts .start = .ok sr) := Lib.hid (by
          have := hRun.out.run
          rw [← hm.out, List.take_length] at this
          exact this)
        obtain ⟨A7, c7, k7⟩ := BsA.c7 hBs.out
        have k10 := BsA.c10 hBs.out
        by_cases hbad : sr.opn ≠ [] ∨ sr.has = false
        · have hres : Hid (parseT S.length ts = (6, S.length, noDoc)) := Lib.hid (by
            unfold parseT
            rw [hrun.out]
            simp only
            rw [if_pos hbad])
          have hw2r := hbr
          have key : ∀ (X : Bool), True := fun _ => trivial
          by_cases ho : sr.opn = []
          · have hhas : sr.has = false := hbad.resolve_left (fun e => e ho)
            rw [ho] at k7
            rw [hhas] at k10
            have d1 : decide ((((([] : List Fr).length : Nat)) : Int) > 0) = false := by decide
            clear hbad ho hhas key
            go_wp2_with fail
            refine (Er.New_any 6 (S.length : Nat) (by decide) wr).mono ?_
            rintro e w7 ⟨v7, rfl, hb7, hF7⟩
            have hw27 := Lib.hid (hbr.out.trans (hb7.mono hbr.out.size))
            clear hb7
            go_wp2_with fail
            refine (Er.Wrap_any xmlB _ _ _ _ w7 hF7).mono ?_
            rintro e w8 ⟨v8, rfl, hb8, hF8⟩
            have hw28 := hw27.out.trans (hb8.mono hw27.out.size)
            have hD8 := (hw28.block D hDB.out).trans hD2.out
            obtain ⟨s0, s1, s2, s3, s4, s5, s6⟩ := doc_same hD8
            have f0 := frozen_of_row w8 D 0 _ _ hD8
            have z0 := cell_blk hD8 (i := 0) rfl
            have f1 := frozen_of_row w8 D 1 _ _ hD8
            have z1 := cell_blk hD8 (i := 1) rfl
            have f2 := frozen_of_row w8 D 2 _ _ hD8
            have z2 := cell_blk hD8 (i := 2) rfl
            have f3 := frozen_of_row w8 D 3 _ _ hD8
            have z3 := cell_blk hD8 (i := 3) rfl
            have f4 := frozen_of_row w8 D 4 _ _ hD8
            have z4 := cell_blk hD8 (i := 4) rfl
            have f5 := frozen_of_row w8 D 5 _ _ hD8
            have z5 := cell_blk hD8 (i := 5) rfl
            have f6 := frozen_of_row w8 D 6 _ _ hD8
            have z6 := cell_blk hD8 (i := 6) rfl
            have hfin : Hid (ParP S w (.returned (.tuple #[zeroDoc, v8])) w8) := Lib.hid (hPar.out _ _ ⟨hbA.out.trans (hw28.mono hbA.out.size), _, _, rfl, .inr (by rw [← hR.out, hres.out]; exact ⟨(by decide : (6 : Int) ≠ 0), rfl, rfl, hF8⟩)⟩)
            replace hD8 := Lib.hid hD8
            clear hw28 hb8 hF8 hF7
            go_wp2_with fail
            (try simp only [Exit.inBlock, Exit.then])
            exact bodyPost_ret (res_doc (ok := v8) rfl hD8.out rfl rfl) rfl hfin.out
          · obtain ⟨no, hno⟩ : ∃ no, sr.opn.length = no := ⟨_, rfl⟩
            rw [hno] at k7
            have hn0 : 0 < no := by
              rcases Nat.eq_zero_or_pos no with h0 | h0
              · rw [h0] at hno
                exact absurd (List.eq_nil_of_length_eq_zero hno) ho
              · exact h0
            have d1 : decide ((no : Int) > 0) = true := by simp; omega
            have d2 : decide ((0 : Int) < (no : Int)) = true := by simp; omega
            have d3 : decide (0 < no) = true := by simp; omega
            clear hbad ho hn0 hno key
            go_wp2_with fail
            refine (Er.New_any 6 (S.length : Nat) (by decide) wr).mono ?_
            rintro e w7 ⟨v7, rfl, hb7, hF7⟩
            have hw27 := Lib.hid (hbr.out.trans (hb7.mono hbr.out.size))
            clear hb7
            go_wp2_with fail
            refine (Er.Wrap_any xmlB _ _ _ _ w7 hF7).mono ?_
            rintro e w8 ⟨v8, rfl, hb8, hF8⟩
            have hw28 := hw27.out.trans (hb8.mono hw27.out.size)
            have hD8 := (hw28.block D hDB.out).trans hD2.out
            obtain ⟨s0, s1, s2, s3, s4, s5, s6⟩ := doc_same hD8
            have f0 := frozen_of_row w8 D 0 _ _ hD8
            have z0 := cell_blk hD8 (i := 0) rfl
            have f1 := frozen_of_row w8 D 1 _ _ hD8
            have z1 := cell_blk hD8 (i := 1) rfl
            have f2 := frozen_of_row w8 D 2 _ _ hD8
            have z2 := cell_blk hD8 (i := 2) rfl
            have f3 := frozen_of_row w8 D 3 _ _ hD8
            have z3 := cell_blk hD8 (i := 3) rfl
            have f4 := frozen_of_row w8 D 4 _ _ hD8
            have z4 := cell_blk hD8 (i := 4) rfl
            have f5 := frozen_of_row w8 D 5 _ _ hD8
            have z5 := cell_blk hD8 (i := 5) rfl
            have f6 := frozen_of_row w8 D 6 _ _ hD8
            have z6 := cell_blk hD8 (i := 6) rfl
            have hfin : Hid (ParP S w (.returned (.tuple #[zeroDoc, v8])) w8) := Lib.hid (hPar.out _ _ ⟨hbA.out.trans (hw28.mono hbA.out.size), _, _, rfl, .inr (by rw [← hR.out, hres.out]; exact ⟨(by decide : (6 : Int) ≠ 0), rfl, rfl, hF8⟩)⟩)
            replace hD8 := Lib.hid hD8
            clear hw28 hb8 hF8 hF7
            go_wp2_with fail
            (try simp only [Exit.inBlock, Exit.then])
            exact bodyPost_ret (res_doc (ok := v8) rfl hD8.out rfl rfl) rfl hfin.out
        · have ho : sr.opn = [] := Classical.byContradiction fun e => hbad (.inl e)
          have hhas : sr.has = true := by
            cases hx : sr.has with
            | true => rfl
            | false => exact absurd (.inr hx) hbad
          have hres : Hid (parseT S.length ts = (0, 0, ⟨sr.before, sr.root, sr.after⟩)) := Lib.hid (by
            unfold parseT
            rw [hrun.out]
            simp only
            rw [if_neg hbad])
          rw [ho] at k7
          rw [hhas] at k10
          have d1 : decide ((((([] : List Fr).length : Nat)) : Int) > 0) = false := by decide
          obtain ⟨A1, n1, c1, kd, nm, tx, Ar, na, cr, Ak, nk, ck, A9, n9, c9, C, hC, y0, y1, y2, y3, y4, y5, y6, hdoc⟩ := doc_fin (lo0 := w.heap.size) (D := D) hBs.out (by rw [hPlo.out]; exact hDlo.out) (by rw [hPlo.out]; exact hbaH.out.size) (by rw [hPlo.out, hPhi.out]; exact hL2.out)
          have y0 := cell_blk hC y0
          have y1 := cell_blk hC y1
          have y2 := cell_blk hC y2
          have y3 := cell_blk hC y3
          have y4 := cell_blk hC y4
          have y5 := cell_blk hC y5
          have y6 := cell_blk hC y6
          have hDr := (hbr.out.block D hDB.out).trans hD2.out
          have f0 := frozen_of_row wr D 0 _ _ hDr
          have z0 := cell_blk hDr (i := 0) rfl
          have f1 := frozen_of_row wr D 1 _ _ hDr
          have z1 := cell_blk hDr (i := 1) rfl
          have f2 := frozen_of_row wr D 2 _ _ hDr
          have z2 := cell_blk hDr (i := 2) rfl
          have f3 := frozen_of_row wr D 3 _ _ hDr
          have z3 := cell_blk hDr (i := 3) rfl
          have f4 := frozen_of_row wr D 4 _ _ hDr
          have z4 := cell_blk hDr (i := 4) rfl
          have f5 := frozen_of_row wr D 5 _ _ hDr
          have z5 := cell_blk hDr (i := 5) rfl
          have f6 := frozen_of_row wr D 6 _ _ hDr
          have z6 := cell_blk hDr (i := 6) rfl
          have hBD : B ≠ D := by rw [← hB]; have := hDB.out; omega
          replace hdoc := Lib.hid hdoc
          replace hDr := Lib.hid hDr
          clear hC hbad ho hhas
          go_wp2_with fail
          (try simp only [Exit.inBlock, Exit.then])
          have hDf := blk_setCell (blk_setCell (blk_setCell (blk_setCell (blk_setCell (blk_setCell (blk_setCell hDr.out (i := 0) (.slice A1 n1 c1)) (i := 1) (.int .i64 kd)) (i := 2) (.string nm)) (i := 3) (.string tx)) (i := 4) (.slice Ar na cr)) (i := 5) (.slice Ak nk ck)) (i := 6) (.slice A9 n9 c9)
          refine bodyPost_ret (res_doc (ok := .nilIface) rfl hDf rfl rfl) rfl ?_
          have hgr := ((((((grown_set wr ⟨D, 0, none⟩ (.slice A1 n1 c1)).trans (grown_set _ ⟨D, 1, none⟩ (.int .i64 kd))).trans (grown_set _ ⟨D, 2, none⟩ (.string nm))).trans (grown_set _ ⟨D, 3, none⟩ (.string tx))).trans (grown_set _ ⟨D, 4, none⟩ (.slice Ar na cr))).trans (grown_set _ ⟨D, 5, none⟩ (.slice Ak nk ck))).trans (grown_set _ ⟨D, 6, none⟩ (.slice A9 n9 c9))
          have hfd := hdoc.out _ hgr
          have hbw := hbA.out.trans (hbr.out.mono hbA.out.size)
          refine hPar.out _ _ ⟨hbw.grown hgr hbw.size (fun k hk => by injection hk with hk; have hk : D = k := hk; omega), _, _, rfl, .inl ?_⟩
          rw [← hR.out, hres.out]
          exact ⟨rfl, rfl, hfd⟩
  · rw [if_pos hcd] at hR
    have hN := fun w2 e h => AllP.no (w := w1) (w' := w2) (e := e) h hall hcd
    replace hN := Lib.hid hN
    replace hR := Lib.hid hR
    replace hall := Lib.hid hall
    clear hba
    go_enter Tryz.func25, Tryz.ntmps25
    go_wp2_with fail
    refine hc.out.mono ?_
    rintro e w2 hAP
    obtain ⟨hb2, v, rfl, hFe⟩ := hN.out w2 e hAP
    obtain ⟨TI, ad, rfl⟩ := hFe.iface
    have hD2 := (hb2.block D hDl).trans hD
    obtain ⟨s0, s1, s2, s3, s4, s5, s6⟩ := doc_same hD2
    have f0 := frozen_of_row w2 D 0 _ _ hD2
    have z0 := cell_blk hD2 (i := 0) rfl
    have f1 := frozen_of_row w2 D 1 _ _ hD2
    have z1 := cell_blk hD2 (i := 1) rfl
    have f2 := frozen_of_row w2 D 2 _ _ hD2
    have z2 := cell_blk hD2 (i := 2) rfl
    have f3 := frozen_of_row w2 D 3 _ _ hD2
    have z3 := cell_blk hD2 (i := 3) rfl
    have f4 := frozen_of_row w2 D 4 _ _ hD2
    have z4 := cell_blk hD2 (i := 4) rfl
    have f5 := frozen_of_row w2 D 5 _ _ hD2
    have z5 := cell_blk hD2 (i := 5) rfl
    have f6 := frozen_of_row w2 D 6 _ _ hD2
    have z6 := cell_blk hD2 (i := 6) rfl
    have hfin : Hid (ParP S w (.returned (.tuple #[zeroDoc, .iface TI (.pointer (some ad))])) w2) := Lib.hid (hPar.out _ _ ⟨hbaH.out.trans (hb2.mono hbaH.out.size), _, _, rfl, .inr (by rw [← hR.out]; exact ⟨hcd, rfl, rfl, hFe⟩)⟩)
    replace hD2 := Lib.hid hD2
    clear hb2 hFe hAP hD
    go_wp2_with fail
    exact bodyPost_ret (res_doc (ok := .iface TI (.pointer (some ad))) rfl hD2.out rfl rfl) rfl hfin.out
end
end Go.Proofs.YtokdnhdfmgfkeaaGreatDoor.Xt
end

section
namespace Go.Proofs.YtokdnhdfmgfkeaaGreatDoor.Xt
open Go.RowKit UtfW Xl

mutual
theorem depth_count : ∀ n : Nd, depthN n ≤ countN n
  | .mk k nm tx as_ ks => by
    have := depth_countL ks
    rw [depthN, countN]
    split <;> omega
theorem depth_countL : ∀ l : List Nd, depthL l ≤ countL l
  | [] => Nat.le_refl _
  | x :: xs => by
    have h1 := depth_count x
    have h2 := depth_countL xs
    rw [depthL, countL]
    omega
end
theorem countL_take : ∀ (l : List Nd) (i : Nat), countL (l.take i) ≤ countL l
  | [], i => by simp
  | x :: l, 0 => by simp [countL]
  | x :: l, i + 1 => by
    have := countL_take l i
    rw [List.take_succ_cons, countL, countL]
    omega
theorem count_kid {ks : List Nd} {i : Nat} {x : Nd} (h : ks[i]? = some x) : countL (ks.take i) + countN x ≤ countL ks := by
  have := countL_take ks (i + 1)
  rw [take_snoc h, countL_append] at this
  simp [countL] at this
  omega
theorem len_count : ∀ l : List Nd, l.length ≤ countL l
  | [] => Nat.le_refl _
  | x :: l => by
    obtain ⟨k, nm, tx, as_, ks⟩ := x
    have := len_count l
    rw [countL, countN, List.length_cons]
    omega
set_option maxHeartbeats 4000000 in
set_option maxRecDepth 100000 in
theorem depth_any : ∀ (k : Nat) (X : Nat → Prop) (w : World) (vs : List Value) (n : Nd), SizeOf.sizeOf n ≤ k → NdI X w vs n → (∀ j, X j → j < w.heap.size) → countN n ≤ 1000000 →
    Calls Tryz.prog 33 #[.agg vs.toArray] w fun e w' => e = .returned (.int .i64 (depthN n : Nat)) ∧ Below w.heap.size w w' := by
  intro k
  induction k with
  | zero =>
    intro X w vs n hk
    obtain ⟨kd, nm, tx, as_, ks⟩ := n
    simp at hk
  | succ k ih =>
    intro X w vs n hk hn hX hc
    obtain ⟨kd, nm, tx, as_, ks⟩ := n
    obtain ⟨A, ca, A2, c2, rfl, hA, hK, -, -⟩ := hn.cells
    have hcl : countL ks + as_.length + 1 ≤ 1000000 := by rw [countN] at hc; omega
    have hlen := len_count ks
    have hba := below_alloc w (.cells #[.int .i64 kd, .string (strOf nm), .string (strOf tx), .slice A as_.length ca, .slice A2 ks.length c2] 25)
    have hnb := heap_alloc_new w (.cells #[.int .i64 kd, .string (strOf nm), .string (strOf tx), .slice A as_.length ca, .slice A2 ks.length c2] 25)
    have ih := Lib.hid ih
    obtain ⟨T, hT⟩ : ∃ T, w.heap.size = T := ⟨_, rfl⟩
    obtain ⟨w1, hw1⟩ : ∃ w1, w.alloc (.cells #[.int .i64 kd, .string (strOf nm), .string (strOf tx), .slice A as_.length ca, .slice A2 ks.length c2] 25) = w1 := ⟨_, rfl⟩
    rw [hw1] at hba hnb
    rw [hT] at hnb
    have x0 : w1.cell? ⟨T, 0, none⟩ = some (.int .i64 kd) := cell_blk hnb rfl
    have x3 : w1.cell? ⟨T, 3, none⟩ = some (.slice A as_.length ca) := cell_blk hnb rfl
    have x4 : w1.cell? ⟨T, 4, none⟩ = some (.slice A2 ks.length c2) := cell_blk hnb rfl
    have hkid : Hid (∀ i x, ks[i]? = some x → SizeOf.sizeOf x ≤ k) := Lib.hid fun i x hx => by
      have := kid_lt (k := kd) (nm := nm) (tx := tx) (as_ := as_) hx
      omega
    obtain ⟨m, hm⟩ : ∃ m, ks.length = m := ⟨_, rfl⟩
    rw [hm] at x4 hK hlen
    obtain ⟨la, hla⟩ : ∃ la, as_.length = la := ⟨_, rfl⟩
    rw [hla] at x3 hcl
    have hnbH := Lib.hid hnb
    have hXH := Lib.hid hX
    replace hK := Lib.hid hK
    have hTl : Hid (T < w1.heap.size) := Lib.hid (Array.getElem?_eq_some_iff.1 hnb).1
    replace hba := Lib.hid hba
    replace hm := Lib.hid hm
    replace hla := Lib.hid hla
    clear hnb hX hA hn hk hc
    by_cases hk1 : kd = 1
    · subst hk1
      go_enter Tryz.func33, Tryz.ntmps33
      go_wp2_with fail
      go_loopw [3, 12] (fun va vi wr => ∃ i a : Nat, i ≤ m ∧ vi = .int .i64 (i : Nat) ∧ va = .int .i64 (a : Nat) ∧ a ≤ 1000000 ∧ Hid (a = depthL (ks.take i)) ∧ Hid (Below w.heap.size w wr)) (fun _ vi _ => m - (intOf vi).toNat)
      case atStart => exact ⟨0, 0, Nat.zero_le _, rfl, rfl, Nat.zero_le _, Lib.hid (by simp [depthL]), hba⟩
      case round =>
        obtain ⟨i, a, hi, rfl, rfl, ha9, ha, hb⟩ := hrel
        by_cases hlt : i < m
        · have i1 : decide ((i : Int) < (m : Int)) = true := by simp; omega
          have q1 : (i : Int) < (m : Int) := by omega
          have hKr : Sq (NdE X) 5 wr A2 m c2 ks := Sq.stay hK.out (fun ad e hn => by
            obtain ⟨b, off, e2, hbl, _⟩ := hK.out.cell hn
            rw [e] at e2
            injection e2 with e2
            rw [e2]
            exact hb.out.block b hbl) (fun vs x h => NdI.later h hXH.out hb.out)
          obtain ⟨b1, off1, x, vs1, rfl, _, hx1, _, hv1, hc1⟩ := hKr.at_ hlt
          have hszx := hkid.out i x hx1
          have hcx := count_kid hx1
          have hX1 : ∀ j, X j → j < wr.heap.size := fun j hj => Nat.lt_of_lt_of_le (hXH.out j hj) hb.out.size
          obtain ⟨kx, nx_, tx_, ax, kx_⟩ := x
          obtain ⟨Ax, cax, A2x, c2x, rfl, -⟩ := hv1.cells
          have m0 := hc1 0 _ rfl
          have m1 := hc1 1 _ rfl
          have m2 := hc1 2 _ rfl
          have m3 := hc1 3 _ rfl
          have m4 := hc1 4 _ rfl
          rw [Nat.add_zero] at m0
          have hbt := below_alloc wr (.cells #[.int .i64 kx, .string (strOf nx_), .string (strOf tx_), .slice Ax ax.length cax, .slice A2x kx_.length c2x] 25)
          have hrec := Lib.hid (ih.out X (wr.alloc (.cells #[.int .i64 kx, .string (strOf nx_), .string (strOf tx_), .slice Ax ax.length cax, .slice A2x kx_.length c2x] 25)) _ _ hszx (NdI.later hv1 hX1 hbt) (fun j hj => Nat.lt_of_lt_of_le (hX1 j hj) hbt.size) (by omega))
          have hdc := depth_count (.mk kx nx_ tx_ ax kx_)
          have hnext : Hid (max a (depthN (.mk kx nx_ tx_ ax kx_)) = depthL (ks.take (i + 1))) := Lib.hid (by
            rw [take_snoc hx1, depthL_append, ha.out]
            simp [depthL])
          have hbb := Lib.hid (hb.out.trans (hbt.mono hb.out.size))
          obtain ⟨dx, hdx⟩ : ∃ dx, depthN (.mk kx nx_ tx_ ax kx_) = dx := ⟨_, rfl⟩
          rw [hdx] at hrec hnext hdc
          have hdx9 : dx ≤ 1000000 := by omega
          have haf := ha.out
          have hsum : max a dx ≤ 1000000 := by omega
          clear haf hdx hdc hcx hszx hKr hv1 hx1 hc1 hX1 hbt
          go_wp2_with fail
          refine hrec.out.mono ?_
          rintro e w5 ⟨rfl, hb5⟩
          have hw5 := Lib.hid (hbb.out.trans (hb5.mono hbb.out.size))
          clear hb5 m0 m1 m2 m3 m4
          go_wp2_with fail
          go_roundw
          case rel => exact ⟨i + 1, max a dx, by omega, by go_num, by (simp; omega), hsum, hnext, hw5⟩
          case measure => simp [intOf]; omega
        · have hie : i = m := by omega
          subst hie
          have i1 : decide ((i : Int) < (i : Int)) = false := by simp
          have hfin : Hid (depthN (.mk 1 nm tx as_ ks) = a + 1) := Lib.hid (by
            rw [depthN, if_pos rfl, ha.out, ← hm.out, List.take_length])
          go_wp2_with fail
          go_ret
          exact ⟨by rw [hfin.out]; rfl, hb.out⟩
    · have k1 : (kd != 1) = true := by simpa using hk1
      have hz : Hid (depthN (.mk kd nm tx as_ ks) = 0) := Lib.hid (by rw [depthN, if_neg hk1])
      go_enter Tryz.func33, Tryz.ntmps33
      go_wp2_with fail
      go_ret
      exact ⟨by rw [hz.out]; rfl, hba.out⟩
set_option maxHeartbeats 4000000 in
set_option maxRecDepth 100000 in
theorem countN_any : ∀ (k : Nat) (X : Nat → Prop) (w : World) (vs : List Value) (n : Nd), SizeOf.sizeOf n ≤ k → NdI X w vs n → (∀ j, X j → j < w.heap.size) → countN n ≤ 1000000 →
    Calls Tryz.prog 34 #[.agg vs.toArray] w fun e w' => e = .returned (.int .i64 (countN n : Nat)) ∧ Below w.heap.size w w' := by
  intro k
  induction k with
  | zero =>
    intro X w vs n hk
    obtain ⟨kd, nm, tx, as_, ks⟩ := n
    simp at hk
  | succ k ih =>
    intro X w vs n hk hn hX hc
    obtain ⟨kd, nm, tx, as_, ks⟩ := n
    obtain ⟨A, ca, A2, c2, rfl, hA, hK, -, -⟩ := hn.cells
    have hcl : countL ks + as_.length + 1 ≤ 1000000 := by rw [countN] at hc; omega
    have hlen := len_count ks
    have hba := below_alloc w (.cells #[.int .i64 kd, .string (strOf nm), .string (strOf tx), .slice A as_.length ca, .slice A2 ks.length c2] 25)
    have hnb := heap_alloc_new w (.cells #[.int .i64 kd, .string (strOf nm), .string (strOf tx), .slice A as_.length ca, .slice A2 ks.length c2] 25)
    have ih := Lib.hid ih
    obtain ⟨T, hT⟩ : ∃ T, w.heap.size = T := ⟨_, rfl⟩
    obtain ⟨w1, hw1⟩ : ∃ w1, w.alloc (.cells #[.int .i64 kd, .string (strOf nm), .string (strOf tx), .slice A as_.length ca, .slice A2 ks.length c2] 25) = w1 := ⟨_, rfl⟩
    rw [hw1] at hba hnb
    rw [hT] at hnb
    have x0 : w1.cell? ⟨T, 0, none⟩ = some (.int .i64 kd) := cell_blk hnb rfl
    have x3 : w1.cell? ⟨T, 3, none⟩ = some (.slice A as_.length ca) := cell_blk hnb rfl
    have x4 : w1.cell? ⟨T, 4, none⟩ = some (.slice A2 ks.length c2) := cell_blk hnb rfl
    have hkid : Hid (∀ i x, ks[i]? = some x → SizeOf.sizeOf x ≤ k) := Lib.hid fun i x hx => by
      have := kid_lt (k := kd) (nm := nm) (tx := tx) (as_ := as_) hx
      omega
    obtain ⟨m, hm⟩ : ∃ m, ks.length = m := ⟨_, rfl⟩
    rw [hm] at x4 hK hlen
    obtain ⟨la, hla⟩ : ∃ la, as_.length = la := ⟨_, rfl⟩
    rw [hla] at x3 hcl
    have hnbH := Lib.hid hnb
    have hXH := Lib.hid hX
    replace hK := Lib.hid hK
    have hTl : Hid (T < w1.heap.size) := Lib.hid (Array.getElem?_eq_some_iff.1 hnb).1
    replace hba := Lib.hid hba
    replace hm := Lib.hid hm
    replace hla := Lib.hid hla
    clear hnb hX hA hn hk hc
    go_enter Tryz.func34, Tryz.ntmps34
    go_wp2_with fail
    go_loopw [3, 13] (fun va vi wr => ∃ i a : Nat, i ≤ m ∧ vi = .int .i64 (i : Nat) ∧ va = .int .i64 (a : Nat) ∧ a ≤ 1000000 ∧ Hid (a = 1 + la + countL (ks.take i)) ∧ Hid (Below w.heap.size w wr)) (fun _ vi _ => m - (intOf vi).toNat)
    case atStart => exact ⟨0, 1 + la, Nat.zero_le _, rfl, (by go_num), by omega, Lib.hid (by simp [countL]), hba⟩
    case round =>
      obtain ⟨i, a, hi, rfl, rfl, ha9, ha, hb⟩ := hrel
      by_cases hlt : i < m
      · have i1 : decide ((i : Int) < (m : Int)) = true := by simp; omega
        have q1 : (i : Int) < (m : Int) := by omega
        have hKr : Sq (NdE X) 5 wr A2 m c2 ks := Sq.stay hK.out (fun ad e hn => by
          obtain ⟨b, off, e2, hbl, _⟩ := hK.out.cell hn
          rw [e] at e2
          injection e2 with e2
          rw [e2]
          exact hb.out.block b hbl) (fun vs x h => NdI.later h hXH.out hb.out)
        obtain ⟨b1, off1, x, vs1, rfl, _, hx1, _, hv1, hc1⟩ := hKr.at_ hlt
        have hszx := hkid.out i x hx1
        have hcx := count_kid hx1
        have hX1 : ∀ j, X j → j < wr.heap.size := fun j hj => Nat.lt_of_lt_of_le (hXH.out j hj) hb.out.size
        obtain ⟨kx, nx_, tx_, ax, kx_⟩ := x
        obtain ⟨Ax, cax, A2x, c2x, rfl, -⟩ := hv1.cells
        have m0 := hc1 0 _ rfl
        have m1 := hc1 1 _ rfl
        have m2 := hc1 2 _ rfl
        have m3 := hc1 3 _ rfl
        have m4 := hc1 4 _ rfl
        rw [Nat.add_zero] at m0
        have hbt := below_alloc wr (.cells #[.int .i64 kx, .string (strOf nx_), .string (strOf tx_), .slice Ax ax.length cax, .slice A2x kx_.length c2x] 25)
        have hrec := Lib.hid (ih.out X (wr.alloc (.cells #[.int .i64 kx, .string (strOf nx_), .string (strOf tx_), .slice Ax ax.length cax, .slice A2x kx_.length c2x] 25)) _ _ hszx (NdI.later hv1 hX1 hbt) (fun j hj => Nat.lt_of_lt_of_le (hX1 j hj) hbt.size) (by omega))
        have hdc := depth_count (.mk kx nx_ tx_ ax kx_)
        have hnext : Hid (a + countN (.mk kx nx_ tx_ ax kx_) = 1 + la + countL (ks.take (i + 1))) := Lib.hid (by
          rw [take_snoc hx1, countL_append, ha.out]
          simp [countL]; omega)
        have hbb := Lib.hid (hb.out.trans (hbt.mono hb.out.size))
        obtain ⟨dx, hdx⟩ : ∃ dx, countN (.mk kx nx_ tx_ ax kx_) = dx := ⟨_, rfl⟩
        rw [hdx] at hrec hnext
        have hdx9 : dx ≤ 1000000 := by rw [← hdx]; omega
        have haf := ha.out
        have hsum : a + dx ≤ 1000000 := by rw [← hdx, haf]; omega
        clear haf hdx hdc hcx hszx hKr hv1 hx1 hc1 hX1 hbt
        go_wp2_with fail
        refine hrec.out.mono ?_
        rintro e w5 ⟨rfl, hb5⟩
        have hw5 := Lib.hid (hbb.out.trans (hb5.mono hbb.out.size))
        clear hb5 m0 m1 m2 m3 m4
        go_wp2_with fail
        go_roundw
        case rel => exact ⟨i + 1, a + dx, by omega, by go_num, by go_num, hsum, hnext, hw5⟩
        case measure => simp [intOf]; omega
      · have hie : i = m := by omega
        subst hie
        have i1 : decide ((i : Int) < (i : Int)) = false := by simp
        have hfin : Hid (countN (.mk kd nm tx as_ ks) = a) := Lib.hid (by
          rw [countN, ha.out, ← hm.out, List.take_length, ← hla.out])
        go_wp2_with fail
        go_ret
        exact ⟨by rw [hfin.out]; rfl, hb.out⟩
set_option maxHeartbeats 4000000 in
set_option maxRecDepth 100000 in
theorem rdepth_any : ∀ (k : Nat) (X : Nat → Prop) (w : World) (vs : List Value) (n : Nd), SizeOf.sizeOf n ≤ k → NdI X w vs n → (∀ j, X j → j < w.heap.size) → countN n ≤ 1000000 →
    Calls Tryz.prog 32 #[.agg vs.toArray] w fun e w' => e = .returned (.int .i64 (depthN n : Nat)) ∧ Below w.heap.size w w' := by
  intro k
  induction k with
  | zero =>
    intro X w vs n hk
    obtain ⟨kd, nm, tx, as_, ks⟩ := n
    simp at hk
  | succ k ih =>
    intro X w vs n hk hn hX hc
    obtain ⟨kd, nm, tx, as_, ks⟩ := n
    obtain ⟨A, ca, A2, c2, rfl, hA, hK, -, -⟩ := hn.cells
    have hcl : countL ks + as_.length + 1 ≤ 1000000 := by rw [countN] at hc; omega
    have hlen := len_count ks
    have hba := below_alloc w (.cells #[.int .i64 kd, .string (strOf nm), .string (strOf tx), .slice A as_.length ca, .slice A2 ks.length c2] 25)
    have hnb := heap_alloc_new w (.cells #[.int .i64 kd, .string (strOf nm), .string (strOf tx), .slice A as_.length ca, .slice A2 ks.length c2] 25)
    have ih := Lib.hid ih
    obtain ⟨T, hT⟩ : ∃ T, w.heap.size = T := ⟨_, rfl⟩
    obtain ⟨w1, hw1⟩ : ∃ w1, w.alloc (.cells #[.int .i64 kd, .string (strOf nm), .string (strOf tx), .slice A as_.length ca, .slice A2 ks.length c2] 25) = w1 := ⟨_, rfl⟩
    rw [hw1] at hba hnb
    rw [hT] at hnb
    have x0 : w1.cell? ⟨T, 0, none⟩ = some (.int .i64 kd) := cell_blk hnb rfl
    have x3 : w1.cell? ⟨T, 3, none⟩ = some (.slice A as_.length ca) := cell_blk hnb rfl
    have x4 : w1.cell? ⟨T, 4, none⟩ = some (.slice A2 ks.length c2) := cell_blk hnb rfl
    have hkid : Hid (∀ i x, ks[i]? = some x → SizeOf.sizeOf x ≤ k) := Lib.hid fun i x hx => by
      have := kid_lt (k := kd) (nm := nm) (tx := tx) (as_ := as_) hx
      omega
    obtain ⟨m, hm⟩ : ∃ m, ks.length = m := ⟨_, rfl⟩
    rw [hm] at x4 hK hlen
    obtain ⟨la, hla⟩ : ∃ la, as_.length = la := ⟨_, rfl⟩
    rw [hla] at x3 hcl
    have hnbH := Lib.hid hnb
    have hXH := Lib.hid hX
    replace hK := Lib.hid hK
    have hTl : Hid (T < w1.heap.size) := Lib.hid (Array.getElem?_eq_some_iff.1 hnb).1
    replace hba := Lib.hid hba
    replace hm := Lib.hid hm
    replace hla := Lib.hid hla
    clear hnb hX hA hn hk hc
    by_cases hk1 : kd = 1
    · subst hk1
      go_enter Tryz.func32, Tryz.ntmps32
      go_wp2_with fail
      go_loopw [3, 4] (fun va vi wr => ∃ i a : Nat, i ≤ m ∧ vi = .int .i64 (i : Nat) ∧ va = .int .i64 (a : Nat) ∧ a ≤ 1000000 ∧ Hid (a = depthL (ks.take i)) ∧ Hid (Below w1.heap.size w1 wr)) (fun _ vi _ => m - (intOf vi).toNat)
      case atStart => exact ⟨0, 0, Nat.zero_le _, rfl, rfl, Nat.zero_le _, Lib.hid (by simp [depthL]), Lib.hid (Below.refl _ _)⟩
      case round =>
        obtain ⟨i, a, hi, rfl, rfl, ha9, ha, hb1⟩ := hrel
        have hb := Lib.hid (hba.out.trans (hb1.out.mono hba.out.size))
        have y4 := cell_keep x4 hb1.out
        by_cases hlt : i < m
        · have i1 : decide ((i : Int) < (m : Int)) = true := by simp; omega
          have q1 : (i : Int) < (m : Int) := by omega
          have hKr : Sq (NdE X) 5 wr A2 m c2 ks := Sq.stay hK.out (fun ad e hn => by
            obtain ⟨b, off, e2, hbl, _⟩ := hK.out.cell hn
            rw [e] at e2
            injection e2 with e2
            rw [e2]
            exact hb.out.block b hbl) (fun vs x h => NdI.later h hXH.out hb.out)
          obtain ⟨b1, off1, x, vs1, rfl, _, hx1, _, hv1, hc1⟩ := hKr.at_ hlt
          have hszx := hkid.out i x hx1
          have hcx := count_kid hx1
          have hX1 : ∀ j, X j → j < wr.heap.size := fun j hj => Nat.lt_of_lt_of_le (hXH.out j hj) hb.out.size
          obtain ⟨kx, nx_, tx_, ax, kx_⟩ := x
          obtain ⟨Ax, cax, A2x, c2x, rfl, -⟩ := hv1.cells
          have m0 := hc1 0 _ rfl
          have m1 := hc1 1 _ rfl
          have m2 := hc1 2 _ rfl
          have m3 := hc1 3 _ rfl
          have m4 := hc1 4 _ rfl
          rw [Nat.add_zero] at m0
          have hrec := Lib.hid (ih.out X wr _ _ hszx hv1 hX1 (by omega))
          have hdc := depth_count (.mk kx nx_ tx_ ax kx_)
          have hnext : Hid (max a (depthN (.mk kx nx_ tx_ ax kx_)) = depthL (ks.take (i + 1))) := Lib.hid (by
            rw [take_snoc hx1, depthL_append, ha.out]
            simp [depthL])
          have hbb := Lib.hid hb1.out
          obtain ⟨dx, hdx⟩ : ∃ dx, depthN (.mk kx nx_ tx_ ax kx_) = dx := ⟨_, rfl⟩
          rw [hdx] at hrec hnext hdc
          have hdx9 : dx ≤ 1000000 := by omega
          have haf := ha.out
          have hsum : max a dx ≤ 1000000 := by omega
          clear haf hdx hdc hcx hszx hKr hv1 hx1 hc1 hX1
          go_wp2_with fail
          refine hrec.out.mono ?_
          rintro e w5 ⟨rfl, hb5⟩
          have hw5 := Lib.hid (hbb.out.trans (hb5.mono hbb.out.size))
          clear hb5 m0 m1 m2 m3 m4
          go_wp2_with fail
          go_roundw
          case rel => exact ⟨i + 1, max a dx, by omega, by go_num, by (simp; omega), hsum, hnext, hw5⟩
          case measure => simp [intOf]; omega
        · have hie : i = m := by omega
          subst hie
          have i1 : decide ((i : Int) < (i : Int)) = false := by simp
          have hfin : Hid (depthN (.mk 1 nm tx as_ ks) = a + 1) := Lib.hid (by
            rw [depthN, if_pos rfl, ha.out, ← hm.out, List.take_length])
          go_wp2_with fail
          go_ret
          exact ⟨by rw [hfin.out]; rfl, hb.out⟩
    · have k1 : (kd != 1) = true := by simpa using hk1
      have hz : Hid (depthN (.mk kd nm tx as_ ks) = 0) := Lib.hid (by rw [depthN, if_neg hk1])
      go_enter Tryz.func32, Tryz.ntmps32
      go_wp2_with fail
      go_ret
      exact ⟨by rw [hz.out]; rfl, hba.out⟩
set_option maxHeartbeats 4000000 in
set_option maxRecDepth 100000 in
theorem rcount_any : ∀ (k : Nat) (X : Nat → Prop) (w : World) (vs : List Value) (n : Nd), SizeOf.sizeOf n ≤ k → NdI X w vs n → (∀ j, X j → j < w.heap.size) → countN n ≤ 1000000 →
    Calls Tryz.prog 30 #[.agg vs.toArray] w fun e w' => e = .returned (.int .i64 (countN n : Nat)) ∧ Below w.heap.size w w' := by
  intro k
  induction k with
  | zero =>
    intro X w vs n hk
    obtain ⟨kd, nm, tx, as_, ks⟩ := n
    simp at hk
  | succ k ih =>
    intro X w vs n hk hn hX hc
    obtain ⟨kd, nm, tx, as_, ks⟩ := n
    obtain ⟨A, ca, A2, c2, rfl, hA, hK, -, -⟩ := hn.cells
    have hcl : countL ks + as_.length + 1 ≤ 1000000 := by rw [countN] at hc; omega
    have hlen := len_count ks
    have hba := below_alloc w (.cells #[.int .i64 kd, .string (strOf nm), .string (strOf tx), .slice A as_.length ca, .slice A2 ks.length c2] 25)
    have hnb := heap_alloc_new w (.cells #[.int .i64 kd, .string (strOf nm), .string (strOf tx), .slice A as_.length ca, .slice A2 ks.length c2] 25)
    have ih := Lib.hid ih
    obtain ⟨T, hT⟩ : ∃ T, w.heap.size = T := ⟨_, rfl⟩
    obtain ⟨w1, hw1⟩ : ∃ w1, w.alloc (.cells #[.int .i64 kd, .string (strOf nm), .string (strOf tx), .slice A as_.length ca, .slice A2 ks.length c2] 25) = w1 := ⟨_, rfl⟩
    rw [hw1] at hba hnb
    rw [hT] at hnb
    have x0 : w1.cell? ⟨T, 0, none⟩ = some (.int .i64 kd) := cell_blk hnb rfl
    have x3 : w1.cell? ⟨T, 3, none⟩ = some (.slice A as_.length ca) := cell_blk hnb rfl
    have x4 : w1.cell? ⟨T, 4, none⟩ = some (.slice A2 ks.length c2) := cell_blk hnb rfl
    have hkid : Hid (∀ i x, ks[i]? = some x → SizeOf.sizeOf x ≤ k) := Lib.hid fun i x hx => by
      have := kid_lt (k := kd) (nm := nm) (tx := tx) (as_ := as_) hx
      omega
    obtain ⟨m, hm⟩ : ∃ m, ks.length = m := ⟨_, rfl⟩
    rw [hm] at x4 hK hlen
    obtain ⟨la, hla⟩ : ∃ la, as_.length = la := ⟨_, rfl⟩
    rw [hla] at x3 hcl
    have hnbH := Lib.hid hnb
    have hXH := Lib.hid hX
    replace hK := Lib.hid hK
    have hTl : Hid (T < w1.heap.size) := Lib.hid (Array.getElem?_eq_some_iff.1 hnb).1
    replace hba := Lib.hid hba
    replace hm := Lib.hid hm
    replace hla := Lib.hid hla
    clear hnb hX hA hn hk hc
    go_enter Tryz.func30, Tryz.ntmps30
    go_wp2_with fail
    go_loopw [3, 4] (fun va vi wr => ∃ i a : Nat, i ≤ m ∧ vi = .int .i64 (i : Nat) ∧ va = .int .i64 (a : Nat) ∧ a ≤ 1000000 ∧ Hid (a = 1 + la + countL (ks.take i)) ∧ Hid (Below w1.heap.size w1 wr)) (fun _ vi _ => m - (intOf vi).toNat)
    case atStart => exact ⟨0, 1 + la, Nat.zero_le _, rfl, (by go_num), by omega, Lib.hid (by simp [countL]), Lib.hid (Below.refl _ _)⟩
    case round =>
      obtain ⟨i, a, hi, rfl, rfl, ha9, ha, hb1⟩ := hrel
      have hb := Lib.hid (hba.out.trans (hb1.out.mono hba.out.size))
      have y4 := cell_keep x4 hb1.out
      by_cases hlt : i < m
      · have i1 : decide ((i : Int) < (m : Int)) = true := by simp; omega
        have q1 : (i : Int) < (m : Int) := by omega
        have hKr : Sq (NdE X) 5 wr A2 m c2 ks := Sq.stay hK.out (fun ad e hn => by
          obtain ⟨b, off, e2, hbl, _⟩ := hK.out.cell hn
          rw [e] at e2
          injection e2 with e2
          rw [e2]
          exact hb.out.block b hbl) (fun vs x h => NdI.later h hXH.out hb.out)
        obtain ⟨b1, off1, x, vs1, rfl, _, hx1, _, hv1, hc1⟩ := hKr.at_ hlt
        have hszx := hkid.out i x hx1
        have hcx := count_kid hx1
        have hX1 : ∀ j, X j → j < wr.heap.size := fun j hj => Nat.lt_of_lt_of_le (hXH.out j hj) hb.out.size
        obtain ⟨kx, nx_, tx_, ax, kx_⟩ := x
        obtain ⟨Ax, cax, A2x, c2x, rfl, -⟩ := hv1.cells
        have m0 := hc1 0 _ rfl
        have m1 := hc1 1 _ rfl
        have m2 := hc1 2 _ rfl
        have m3 := hc1 3 _ rfl
        have m4 := hc1 4 _ rfl
        rw [Nat.add_zero] at m0
        have hrec := Lib.hid (ih.out X wr _ _ hszx hv1 hX1 (by omega))
        have hdc := depth_count (.mk kx nx_ tx_ ax kx_)
        have hnext : Hid (a + countN (.mk kx nx_ tx_ ax kx_) = 1 + la + countL (ks.take (i + 1))) := Lib.hid (by
          rw [take_snoc hx1, countL_append, ha.out]
          simp [countL]; omega)
        have hbb := Lib.hid hb1.out
        obtain ⟨dx, hdx⟩ : ∃ dx, countN (.mk kx nx_ tx_ ax kx_) = dx := ⟨_, rfl⟩
        rw [hdx] at hrec hnext
        have hdx9 : dx ≤ 1000000 := by rw [← hdx]; omega
        have haf := ha.out
        have hsum : a + dx ≤ 1000000 := by rw [← hdx, haf]; omega
        clear haf hdx hdc hcx hszx hKr hv1 hx1 hc1 hX1
        go_wp2_with fail
        refine hrec.out.mono ?_
        rintro e w5 ⟨rfl, hb5⟩
        have hw5 := Lib.hid (hbb.out.trans (hb5.mono hbb.out.size))
        clear hb5 m0 m1 m2 m3 m4
        go_wp2_with fail
        go_roundw
        case rel => exact ⟨i + 1, a + dx, by omega, by go_num, by go_num, hsum, hnext, hw5⟩
        case measure => simp [intOf]; omega
      · have hie : i = m := by omega
        subst hie
        have i1 : decide ((i : Int) < (i : Int)) = false := by simp
        have hfin : Hid (countN (.mk kd nm tx as_ ks) = a) := Lib.hid (by
          rw [countN, ha.out, ← hm.out, List.take_length, ← hla.out])
        go_wp2_with fail
        go_ret
        exact ⟨by rw [hfin.out]; rfl, hb.out⟩
end Go.Proofs.YtokdnhdfmgfkeaaGreatDoor.Xt
end

section
namespace Go.Proofs.YtokdnhdfmgfkeaaGreatDoor.Xt
open Xl UtfW
open Go.Proofs.YtokdnhdfmgfkeaaGreatDoor.Qx (V badW_V)

def oT (r : Tx) : Tx := 60 :: 97 :: 62 :: r
def eT (r : Tx) : Tx := 60 :: 97 :: 47 :: 62 :: r
def cT (r : Tx) : Tx := 60 :: 47 :: 97 :: 62 :: r
theorem name_a (b : UInt8) (t : Tx) (hb : b = 62 ∨ b = 47) : name (97 :: b :: t) = .ok [97] 1 := by
  rcases hb with rfl | rfl <;> exact name_1 97 _ _ (by decide) (by decide) (by decide) (by decide) (by decide) (by decide)
theorem tok_o (r : Tx) : token (oT r) = .ok ⟨1, 0, [97], [], []⟩ 3 := by
  unfold token oT
  rw [if_neg (by simp), if_neg (by simp [Lib.hasPrefix, List.isPrefixOf]), if_neg (by simp [Lib.hasPrefix, List.isPrefixOf]), if_neg (by simp [Lib.hasPrefix, List.isPrefixOf])]
  unfold tag
  rw [List.drop_succ_cons, List.drop_zero, name_a 62 r (.inl rfl)]
  simp only [Nat.reduceAdd, List.drop_succ_cons, List.drop_zero]
  have hb : blanks (62 :: r) = 0 := blanks_0 (by decide)
  have hd : (62 :: r).drop (blanks (62 :: r)) = 62 :: r := by rw [hb]; rfl
  rw [tagF_cons _ [] hd, if_pos rfl, hb]
  rfl
theorem tok_e (r : Tx) : token (eT r) = .ok ⟨2, 0, [97], [], []⟩ 4 := by
  unfold token eT
  rw [if_neg (by simp), if_neg (by simp [Lib.hasPrefix, List.isPrefixOf]), if_neg (by simp [Lib.hasPrefix, List.isPrefixOf]), if_neg (by simp [Lib.hasPrefix, List.isPrefixOf])]
  unfold tag
  rw [List.drop_succ_cons, List.drop_zero, name_a 47 _ (.inr rfl)]
  simp only [Nat.reduceAdd, List.drop_succ_cons, List.drop_zero]
  have hb : blanks (47 :: 62 :: r) = 0 := blanks_0 (by decide)
  have hd : (47 :: 62 :: r).drop (blanks (47 :: 62 :: r)) = 47 :: 62 :: r := by rw [hb]; rfl
  rw [tagF_cons _ [] hd, if_neg (by decide), if_pos rfl, hb]
  rfl
theorem tok_c (r : Tx) : token (cT r) = .ok ⟨3, 0, [97], [], []⟩ 4 := by
  unfold token cT
  rw [if_neg (by simp), if_neg (by simp [Lib.hasPrefix, List.isPrefixOf]), if_neg (by simp [Lib.hasPrefix, List.isPrefixOf]), if_pos (by simp [Lib.hasPrefix, List.isPrefixOf])]
  unfold Xl.endT
  rw [List.drop_succ_cons, List.drop_succ_cons, List.drop_zero, name_a 62 r (.inl rfl)]
  have hb : blanks (62 :: r) = 0 := blanks_0 (by decide)
  simp only [Nat.reduceAdd, List.drop_succ_cons, List.drop_zero, hb, Nat.add_zero]
  rfl

def opens : Nat → Tx → Tx
  | 0, r => r
  | j + 1, r => oT (opens j r)
def closes : Nat → Tx
  | 0 => []
  | j + 1 => cT (closes j)
def doc_ (k : Nat) (e : Bool) : Tx := opens k (if e then eT (closes k) else closes k)
def openT (q : Nat) : Nat → List Tok
  | 0 => []
  | j + 1 => ⟨1, q, [97], [], []⟩ :: openT (q + 3) j
def closeT (q : Nat) : Nat → List Tok
  | 0 => []
  | j + 1 => ⟨3, q, [97], [], []⟩ :: closeT (q + 4) j
def toks (k : Nat) (e : Bool) : List Tok := openT 0 k ++ (if e then ⟨2, 3 * k, [97], [], []⟩ :: closeT (3 * k + 4) k else closeT (3 * k) k)
theorem opens_len : ∀ j r, (opens j r).length = 3 * j + r.length
  | 0, r => by simp [opens]
  | j + 1, r => by simp only [opens, oT, List.length_cons, opens_len j r]; omega
theorem closes_len : ∀ j, (closes j).length = 4 * j
  | 0 => rfl
  | j + 1 => by simp only [closes, cT, List.length_cons, closes_len j]; omega
theorem run_opens : ∀ (j : Nat) {f q : Nat} {r : Tx} {ts : List Tok}, runF (f + j) (opens j r) q ts = runF f r (q + 3 * j) (ts ++ openT q j)
  | 0, f, q, r, ts => by simp [opens, openT]
  | j + 1, f, q, r, ts => by
    show runF ((f + j) + 1) (oT (opens j r)) q ts = _
    rw [runF, if_neg (by unfold oT; simp), tok_o]
    simp only
    have : (oT (opens j r)).drop 3 = opens j r := rfl
    rw [this, run_opens j]
    simp only [openT, List.append_assoc, List.singleton_append]
    congr 1
    omega
theorem run_closes : ∀ (j : Nat) {f q : Nat} {ts : List Tok}, runF (f + 1 + j) (closes j) q ts = (0, 0, ts ++ closeT q j)
  | 0, f, q, ts => by
    simp only [closes, closeT, List.append_nil, Nat.add_zero]
    rw [runF, if_pos rfl]
  | j + 1, f, q, ts => by
    show runF ((f + 1 + j) + 1) (cT (closes j)) q ts = _
    rw [runF, if_neg (by unfold cT; simp), tok_c]
    simp only
    have : (cT (closes j)).drop 4 = closes j := rfl
    rw [this, run_closes j]
    simp only [closeT, List.append_assoc, List.singleton_append]
theorem opens_mem : ∀ j r (c : UInt8), c ∈ opens j r → c = 60 ∨ c = 97 ∨ c = 62 ∨ c ∈ r
  | 0, r, c, h => .inr (.inr (.inr h))
  | j + 1, r, c, h => by
    simp only [opens, oT, List.mem_cons] at h
    rcases h with h | h | h | h
    · exact .inl h
    · exact .inr (.inl h)
    · exact .inr (.inr (.inl h))
    · exact opens_mem j r c h
theorem closes_mem : ∀ j (c : UInt8), c ∈ closes j → c = 60 ∨ c = 97 ∨ c = 62 ∨ c = 47
  | 0, c, h => by cases h
  | j + 1, c, h => by
    simp only [closes, cT, List.mem_cons] at h
    rcases h with h | h | h | h | h
    · exact .inl h
    · exact .inr (.inr (.inr h))
    · exact .inr (.inl h)
    · exact .inr (.inr (.inl h))
    · exact closes_mem j c h
theorem doc_V (k : Nat) (e : Bool) : V (doc_ k e) := by
  refine V.all fun c hc => ?_
  have : c = 60 ∨ c = 97 ∨ c = 62 ∨ c = 47 := by
    unfold doc_ at hc
    rcases opens_mem k _ c hc with h | h | h | h
    · exact .inl h
    · exact .inr (.inl h)
    · exact .inr (.inr (.inl h))
    · cases e with
      | false => exact closes_mem k c h
      | true =>
        simp only [if_true, eT, List.mem_cons] at h
        rcases h with h | h | h | h | h
        · exact .inl h
        · exact .inr (.inl h)
        · exact .inr (.inr (.inr h))
        · exact .inr (.inr (.inl h))
        · exact closes_mem k c h
  rcases this with rfl | rfl | rfl | rfl <;> exact ⟨by decide, by decide⟩
theorem doc_len (k : Nat) (e : Bool) : (doc_ k e).length = 7 * k + (if e then 4 else 0) := by
  unfold doc_
  rw [opens_len]
  cases e with
  | false => simp only [Bool.false_eq_true, if_false, closes_len]; omega
  | true => simp only [if_true, eT, List.length_cons, closes_len]; omega
theorem doc_decl (k : Nat) (e : Bool) : decl (doc_ k e) = .ok () 0 := by
  unfold decl
  rw [if_neg]
  rintro ⟨hp, _⟩
  unfold doc_ at hp
  cases k with
  | zero =>
    cases e with
    | false => simp [opens, closes, Lib.hasPrefix, xmlT, List.isPrefixOf] at hp
    | true => simp [opens, eT, Lib.hasPrefix, xmlT, List.isPrefixOf] at hp
  | succ k => simp [opens, oT, Lib.hasPrefix, xmlT, List.isPrefixOf] at hp
theorem doc_toks {k : Nat} (hk : k ≤ 50) (e : Bool) : allF (doc_ k e) = (0, 0, toks k e) := by
  have hl := doc_len k e
  have hb : badW (doc_ k e) 0 = -1 := badW_V (doc_V k e)
  unfold allF
  rw [if_neg (by rw [hl]; split <;> omega), if_neg (by omega), doc_decl]
  simp only [List.drop_zero]
  rw [hl]
  unfold doc_ toks
  cases e with
  | false =>
    simp only [Bool.false_eq_true, if_false]
    rw [show 7 * k + 0 + 1 = (5 * k + 1 + k) + k by omega, run_opens, run_closes]
    simp
  | true =>
    simp only [if_true]
    rw [show 7 * k + 4 + 1 = ((5 * k + 3 + 1 + k) + 1) + k by omega, run_opens, runF, if_neg (by unfold eT; simp), tok_e]
    simp only
    have : (eT (closes k)).drop 4 = closes k := rfl
    rw [this, run_closes]
    simp

/-! ### The builder over them -/
def fr0 : Fr := ⟨[97], [], []⟩
def elA (ks : List Nd) : Nd := .mk 1 [97] [] [] ks
def stK (m : Nat) : St := ⟨[], zero, decide (0 < m), [], List.replicate m fr0, [], m⟩
def stC (j : Nat) (ks : List Nd) (N : Nat) : St := ⟨[], zero, true, [], ⟨[97], [], ks⟩ :: List.replicate j fr0, [], N⟩
def wrapN : Nat → Nd → Nd
  | 0, x => x
  | j + 1, x => wrapN j (elA [x])
theorem run_step {s s' : St} {t : Tok} {l : List Tok} (h : stepT s t = .ok s') : runT (t :: l) s = runT l s' := by
  rw [runT, h]
theorem run_err {s : St} {t : Tok} {l : List Tok} {e : Int} (h : stepT s t = .error e) : runT (t :: l) s = .error (e, t.at_) := by
  rw [runT, h]
theorem start_k {m kd q : Nat} (h : m < 32) : startT (stK m) ⟨kd, q, [97], [], []⟩ = .ok (stK (m + 1)) := by
  unfold startT
  rw [if_neg (by simp [stK]; omega), if_neg (by simp [stK]; omega), if_neg]
  · rw [flush_id (by rfl)]
    simp only [stK, List.length_nil, Nat.add_zero]
    congr 1
    congr 1
    · cases m with
      | zero => rfl
      | succ m => simp
  · rintro ⟨h1, h2⟩
    cases m with
    | zero => simp [stK] at h2
    | succ m => simp [stK] at h1
theorem start_f {kd q : Nat} : startT (stK 32) ⟨kd, q, [97], [], []⟩ = .error 7 := by
  unfold startT
  rw [if_pos (by simp [stK])]
theorem run_openT : ∀ (j : Nat) {q m : Nat} {l : List Tok}, m + j ≤ 32 → runT (openT q j ++ l) (stK m) = runT l (stK (m + j))
  | 0, q, m, l, h => rfl
  | j + 1, q, m, l, h => by
    show runT (⟨1, q, [97], [], []⟩ :: (openT (q + 3) j ++ l)) (stK m) = _
    have : stepT (stK m) ⟨1, q, [97], [], []⟩ = .ok (stK (m + 1)) := by
      unfold stepT
      rw [if_pos rfl, start_k (by omega)]
    rw [run_step this, run_openT j (by omega), show m + 1 + j = m + (j + 1) by omega]
theorem run_openF : ∀ (j : Nat) {q m : Nat} {l : List Tok}, m ≤ 32 → 32 < m + j → runT (openT q j ++ l) (stK m) = .error (7, q + 3 * (32 - m))
  | 0, q, m, l, h, h2 => absurd h2 (by omega)
  | j + 1, q, m, l, h, h2 => by
    show runT (⟨1, q, [97], [], []⟩ :: (openT (q + 3) j ++ l)) (stK m) = _
    by_cases hm : m = 32
    · subst hm
      have : stepT (stK 32) ⟨1, q, [97], [], []⟩ = .error 7 := by
        unfold stepT
        rw [if_pos rfl, start_f]
      rw [run_err this]
      rfl
    · have : stepT (stK m) ⟨1, q, [97], [], []⟩ = .ok (stK (m + 1)) := by
        unfold stepT
        rw [if_pos rfl, start_k (by omega)]
      rw [run_step this, run_openF j (by omega) (by omega)]
      congr 2
      omega
theorem end_c (j : Nat) (ks : List Nd) (N : Nat) : endT (stC (j + 1) ks N) = stC j [elA ks] N := by
  unfold endT
  rw [flush_id (by rfl)]
  rfl
theorem end_0 (ks : List Nd) (N : Nat) : endT (stC 0 ks N) = ⟨[], elA ks, true, [], [], [], N⟩ := by
  unfold endT
  rw [flush_id (by rfl)]
  rfl
theorem run_closeT : ∀ (j : Nat) {q : Nat} {ks : List Nd} {N : Nat}, runT (closeT q (j + 1)) (stC j ks N) = .ok ⟨[], wrapN j (elA ks), true, [], [], [], N⟩
  | 0, q, ks, N => by
    show runT [⟨3, q, [97], [], []⟩] (stC 0 ks N) = _
    have : stepT (stC 0 ks N) ⟨3, q, [97], [], []⟩ = .ok ⟨[], elA ks, true, [], [], [], N⟩ := by
      unfold stepT
      rw [if_neg (by simp), if_neg (by simp), if_pos (by rfl), ← end_0]
      rfl
    rw [run_step this]
    rfl
  | j + 1, q, ks, N => by
    show runT (⟨3, q, [97], [], []⟩ :: closeT (q + 4) (j + 1)) (stC (j + 1) ks N) = _
    have : stepT (stC (j + 1) ks N) ⟨3, q, [97], [], []⟩ = .ok (stC j [elA ks] N) := by
      unfold stepT
      rw [if_neg (by simp), if_neg (by simp), if_pos (by rfl), ← end_c]
      rfl
    rw [run_step this, run_closeT j]
    rfl
theorem wrap_count : ∀ (j : Nat) (x : Nd), countN (wrapN j x) = countN x + j
  | 0, x => rfl
  | j + 1, x => by
    show countN (wrapN j (elA [x])) = _
    rw [wrap_count j]
    have : countN (elA [x]) = countN x + 1 := by simp [elA, countN, countL]; omega
    omega
theorem wrap_depth : ∀ (j : Nat) (x : Nd), depthN (wrapN j x) = depthN x + j
  | 0, x => rfl
  | j + 1, x => by
    show depthN (wrapN j (elA [x])) = _
    rw [wrap_depth j]
    have : depthN (elA [x]) = depthN x + 1 := by simp [elA, depthN, depthL]
    omega
theorem elA_count : countN (elA []) = 1 := rfl
theorem elA_depth : depthN (elA []) = 1 := rfl
theorem stK_C {k : Nat} (h : 0 < k) : stK k = stC (k - 1) [] k := by
  obtain ⟨j, rfl⟩ : ∃ j, k = j + 1 := ⟨k - 1, by omega⟩
  unfold stK stC
  simp [List.replicate_succ, fr0]
theorem step_e {k q : Nat} (h : k < 32) : stepT (stK k) ⟨2, q, [97], [], []⟩ = .ok (endT (stK (k + 1))) := by
  unfold stepT
  rw [if_neg (by simp), if_pos rfl, start_k h]
  rfl
/-- What the law's documents are. -/
theorem deep_none (len : Nat) : parseT len (toks 0 false) = (6, len, noDoc) := by
  unfold parseT toks openT closeT
  simp [runT, St.start]
theorem deep_bad {k len : Nat} {e : Bool} (h : 32 < k + (if e then 1 else 0)) : parseT len (toks k e) = (7, 96, noDoc) := by
  have hs : St.start = stK 0 := rfl
  unfold parseT toks
  rw [hs]
  by_cases hk : 32 < k
  · rw [run_openF k (by omega) (by omega)]
  · cases e with
    | false => simp at h; omega
    | true =>
      have hk2 : k = 32 := by simp at h; omega
      subst hk2
      rw [run_openT 32 (by omega)]
      simp only [if_true]
      have : stepT (stK (0 + 32)) ⟨2, 3 * 32, [97], [], []⟩ = .error 7 := by
        unfold stepT
        rw [if_neg (by simp), if_pos rfl, show stK (0 + 32) = stK 32 from rfl, start_f]
        rfl
      rw [run_err this]
theorem deep_ok {k len : Nat} {e : Bool} (h : k + (if e then 1 else 0) ≤ 32) (h0 : 0 < k + (if e then 1 else 0)) : ∃ d : Doc, parseT len (toks k e) = (0, 0, d) ∧ depthN d.root = k + (if e then 1 else 0) ∧ countN d.root = k + (if e then 1 else 0) := by
  have hs : St.start = stK 0 := rfl
  unfold parseT toks
  rw [hs]
  cases e with
  | false =>
    simp only [Bool.false_eq_true, if_false, Nat.add_zero] at h h0 ⊢
    obtain ⟨j, rfl⟩ : ∃ j, k = j + 1 := ⟨k - 1, by omega⟩
    rw [run_openT (j + 1) (by omega), Nat.zero_add, stK_C (by omega), Nat.add_sub_cancel, run_closeT j]
    refine ⟨_, rfl, ?_, ?_⟩
    · show depthN (wrapN j (elA [])) = _
      rw [wrap_depth, elA_depth]; omega
    · show countN (wrapN j (elA [])) = _
      rw [wrap_count, elA_count]; omega
  | true =>
    simp only [if_true] at h h0 ⊢
    rw [run_openT k (by omega), Nat.zero_add]
    rw [run_step (step_e (by omega)), stK_C (by omega : 0 < k + 1), Nat.add_sub_cancel]
    cases k with
    | zero =>
      rw [end_0]
      exact ⟨_, rfl, rfl, rfl⟩
    | succ j =>
      rw [end_c, run_closeT j]
      refine ⟨_, rfl, ?_, ?_⟩
      · show depthN (wrapN j (elA [elA []])) = _
        rw [wrap_depth]
        have : depthN (elA [elA []]) = 2 := rfl
        omega
      · show countN (wrapN j (elA [elA []])) = _
        rw [wrap_count]
        have : countN (elA [elA []]) = 2 := rfl
        omega
end Go.Proofs.YtokdnhdfmgfkeaaGreatDoor.Xt
end

section
namespace Go.Proofs.YtokdnhdfmgfkeaaGreatDoor.Xt
open Go.RowKit UtfW Xl Er

theorem ParP.ok {S : Tx} {w w' : World} {e : Ending} {p : Nat} {d : Doc} (h : ParP S w e w') (hr : parseF S = (0, p, d)) : Below w.heap.size w w' ∧ ∃ vd, e = .returned (.tuple #[vd, .nilIface]) ∧ DocI (fun k => w.heap.size ≤ k ∧ k < w'.heap.size) w' vd d := by
  obtain ⟨h1, vd, ev, rfl, h2⟩ := h
  rw [hr] at h2
  rcases h2 with ⟨_, rfl, h3⟩ | ⟨h3, _⟩
  · exact ⟨h1, vd, rfl, h3⟩
  · exact absurd rfl h3
theorem ParP.no {S : Tx} {w w' : World} {e : Ending} {cd : Int} {p : Nat} {d : Doc} (h : ParP S w e w') (hr : parseF S = (cd, p, d)) (hc : cd ≠ 0) : Below w.heap.size w w' ∧ d = noDoc ∧ ∃ v, e = .returned (.tuple #[zeroDoc, v]) ∧ Er.Fe w' w'.heap.size cd (p : Nat) [xmlB] v := by
  obtain ⟨h1, vd, ev, rfl, h2⟩ := h
  rw [hr] at h2
  rcases h2 with ⟨h3, _⟩ | ⟨_, h3, rfl, h4⟩
  · exact absurd h3 hc
  · exact ⟨h1, h3, ev, rfl, h4⟩
theorem DocI.open_ {X : Nat → Prop} {w : World} {v : Value} {d : Doc} (h : DocI X w v d) : ∃ A1 c1 Ar cr Ak ck A2 c2, v = .agg #[.slice A1 d.before.length c1, .int .i64 d.root.kind, .string (strOf d.root.name), .string (strOf d.root.text), .slice Ar d.root.attrs.length cr, .slice Ak d.root.kids.length ck, .slice A2 d.after.length c2] ∧
    NdI X w [.int .i64 d.root.kind, .string (strOf d.root.name), .string (strOf d.root.text), .slice Ar d.root.attrs.length cr, .slice Ak d.root.kids.length ck] d.root ∧ Sq (NdE X) 5 w Ak d.root.kids.length ck d.root.kids ∧ Sq (NdE X) 5 w A1 d.before.length c1 d.before ∧ Sq (NdE X) 5 w A2 d.after.length c2 d.after := by
  obtain ⟨A1, c1, r0, r1, r2, r3, r4, A2, c2, rfl, h1, _, h2, h3, _⟩ := h
  obtain ⟨bf, rt, af⟩ := d
  obtain ⟨kd, nm, tx, as_, ks⟩ := rt
  obtain ⟨Ar, cr, Ak, ck, e, g1, g2, _⟩ := h2.cells
  injection e with e0 e
  injection e with e1 e
  injection e with e2 e
  injection e with e3 e
  injection e with e4 e
  subst e0; subst e1; subst e2; subst e3; subst e4
  exact ⟨A1, c1, Ar, cr, Ak, ck, A2, c2, rfl, h2, g2, h1, h3⟩
def aw1 : Tx := [60, 97, 62, 120, 60, 33, 91, 67, 68, 65, 84, 65, 91, 121, 93, 93, 62, 60, 98, 47, 62, 60, 47, 97, 62]
def aw2 : Tx := [60, 97, 62, 60, 47, 98, 62]
def awD : Doc := ⟨[], .mk 1 [97] [] [] [textN [120, 121], .mk 1 [98] [] [] []], []⟩
theorem aw1_all : Xl.allF aw1 = (0, 0, [⟨1, 0, [97], [], []⟩, ⟨4, 3, [], [120], []⟩, ⟨5, 4, [], [121], []⟩, ⟨2, 17, [98], [], []⟩, ⟨3, 21, [97], [], []⟩]) := by decide +kernel
theorem aw2_all : Xl.allF aw2 = (0, 0, [⟨1, 0, [97], [], []⟩, ⟨3, 3, [98], [], []⟩]) := by decide +kernel
theorem aw1_eq : parseF aw1 = (0, 0, awD) := by
  unfold parseF
  rw [aw1_all]
  rfl
theorem aw2_eq : parseF aw2 = (3, 3, noDoc) := by
  unfold parseF
  rw [aw2_all]
  rfl
set_option maxHeartbeats 4000000 in
set_option maxRecDepth 100000 in
theorem awake10 (w : World) (hU : Un w) (hE : En w.heap.size w) :
    Calls Tryz.prog 24 #[] w fun e w' => e = .returned (.bool true) ∧ Below w.heap.size w w' := by
  have kc := fun (w : World) (C : Array Value) (n c : Nat) => Lib.run_convert_bytes_const (P := Tryz.prog) w 41 5 C n c Tryz.underlying41 Tryz.underlying5
  go_enter Tryz.func24, Tryz.ntmps24
  go_wp2_with fail
  refine (parse_any _ (hU.below (below_alloc _ _)) _ 25 25 aw1 (bs_lit _ _ _ _ _ _ rfl (by decide) rfl) (by decide)).mono ?_
  intro e w1 h1
  obtain ⟨hb1, vd, rfl, hd⟩ := h1.ok aw1_eq
  obtain ⟨A1, c1, Ar, cr, Ak, ck, A2, c2, rfl, -, hk, -, -⟩ := hd.open_
  have hx1 := (below_alloc w _).trans (hb1.mono (below_alloc w _).size)
  have hba := below_alloc w1 (.cells #[.slice A1 0 c1, .int .i64 1, .string (strOf [97]), .string (strOf []), .slice Ar 0 cr, .slice Ak 2 ck, .slice A2 0 c2] 27)
  have hnb := heap_alloc_new w1 (.cells #[.slice A1 0 c1, .int .i64 1, .string (strOf [97]), .string (strOf []), .slice Ar 0 cr, .slice Ak 2 ck, .slice A2 0 c2] 27)
  change Sq _ 5 w1 Ak 2 ck [textN [120, 121], .mk 1 [98] [] [] []] at hk
  have hk2 := Lib.hid (Sq.stay (w' := w1.alloc (.cells #[.slice A1 0 c1, .int .i64 1, .string (strOf [97]), .string (strOf []), .slice Ar 0 cr, .slice Ak 2 ck, .slice A2 0 c2] 27)) hk (fun ad e hn => by
      obtain ⟨b, off, e2, hbl, _⟩ := hk.cell hn
      rw [e] at e2
      injection e2 with e2
      rw [e2]
      exact hba.block b hbl) (fun vs x h => NdI.later h (fun k hk => hk.2) hba))
  replace hx1 := Lib.hid (hx1.trans (hba.mono hx1.size))
  replace hnb := Lib.hid hnb
  clear hb1 h1 hd hk hba
  go_upto_region 2 with fail
  change Code.wp _ _ _ _ (w1.alloc (.cells #[.slice A1 0 c1, .int .i64 1, .string (strOf [97]), .string (strOf []), .slice Ar 0 cr, .slice Ak 2 ck, .slice A2 0 c2] 27))
  generalize w1.alloc (.cells #[.slice A1 0 c1, .int .i64 1, .string (strOf [97]), .string (strOf []), .slice Ar 0 cr, .slice Ak 2 ck, .slice A2 0 c2] 27) = w2 at hx1 hnb hk2 ⊢
  generalize w1.heap.size = D at hnb ⊢
  go_wp2_with fail
  refine (parse_any _ ((hU.below hx1.out).below (below_alloc _ _)) _ 7 7 aw2 (bs_lit _ _ _ _ _ _ rfl (by decide) rfl) (by decide)).mono ?_
  intro e w3 h3
  obtain ⟨hb3, -, v, rfl, f3⟩ := h3.no aw2_eq (by decide)
  unfold zeroDoc
  obtain ⟨T2, a2, rfl⟩ := f3.iface
  have hb23 := (below_alloc w2 _).trans (hb3.mono (below_alloc w2 _).size)
  have hbz := below_alloc w3 (.cells #[.slice none 0 0, .int .i64 0, .string ⟨#[]⟩, .string ⟨#[]⟩, .slice none 0 0, .slice none 0 0, .slice none 0 0] 27)
  have hb24 := hb23.trans (hbz.mono hb23.size)
  have hx4 := Lib.hid (hx1.out.trans (hb24.mono hx1.out.size))
  have f4 := Lib.hid (Fe.later f3 hbz)
  have hD4 := (hb24.block D (Array.getElem?_eq_some_iff.1 hnb.out).1).trans hnb.out
  obtain ⟨b5, off5, x5, vs5, rfl, _, hx5, _, hv5, hc5⟩ := (hk2.out.at_ (i := 0) (by decide))
  injection hx5 with hx5
  subst hx5
  obtain ⟨A5, c5, A6, c6, rfl, -⟩ := hv5.cells
  have k5 := cell_keep (hc5 2 _ rfl) hb24
  have z5 := cell_blk hD4 (i := 5) rfl
  have str1 : ((strOf [120, 121]).toList == [120, 121]) = true := by rw [str_eqL]; decide
  replace hbz := Lib.hid hbz
  clear hb3 h3 f3 hb23 hb24 hv5 hc5 hnb hk2 hD4
  go_wp2_with fail
  refine (Code_any 3 3 _ _ w.heap.size (w3.alloc (.cells #[.slice none 0 0, .int .i64 0, .string ⟨#[]⟩, .string ⟨#[]⟩, .slice none 0 0, .slice none 0 0, .slice none 0 0] 27)) (hE.on hx4.out) f4.out).mono ?_
  rintro e w5 ⟨rfl, hb5⟩
  have f5 := Lib.hid (Fe.later f4.out hb5)
  have hx5 := Lib.hid (hx4.out.trans (hb5.mono hx4.out.size))
  clear hb5 f4
  go_wp2_with fail
  refine (At_any 3 3 _ _ w.heap.size w5 (hE.on hx5.out) f5.out).mono ?_
  rintro e w6 ⟨rfl, hb6⟩
  have hx6 := Lib.hid (hx5.out.trans (hb6.mono hx5.out.size))
  clear hb6 f5
  go_wp2_with fail
  go_ret
  exact ⟨rfl, hx6.out⟩
end Go.Proofs.YtokdnhdfmgfkeaaGreatDoor.Xt
end

section
namespace Go.Proofs.YtokdnhdfmgfkeaaGreatDoor.Xt
open Go.RowKit UtfW Xl Er

def rep : Nat → Tx → Tx
  | 0, _ => []
  | k + 1, l => rep k l ++ l
theorem rep_len (l : Tx) : ∀ k, (rep k l).length = k * l.length
  | 0 => by simp [rep]
  | k + 1 => by rw [rep, List.length_append, rep_len l k, Nat.succ_mul]
theorem opens_rep : ∀ (k : Nat) (r : Tx), opens k r = rep k [60, 97, 62] ++ r
  | 0, r => rfl
  | k + 1, r => by
    have key : ∀ (k : Nat) (r : Tx), oT (rep k [60, 97, 62] ++ r) = rep (k + 1) [60, 97, 62] ++ r := by
      intro k
      induction k with
      | zero => intro r; rfl
      | succ k ih =>
        intro r
        have := ih ([60, 97, 62] ++ r)
        rw [rep, List.append_assoc, this, rep, rep, rep]
        simp
    rw [opens, opens_rep k r, key]
theorem closes_rep : ∀ k : Nat, closes k = rep k [60, 47, 97, 62]
  | 0 => rfl
  | k + 1 => by
    have key : ∀ k : Nat, cT (rep k [60, 47, 97, 62]) = rep (k + 1) [60, 47, 97, 62] := by
      intro k
      induction k with
      | zero => rfl
      | succ k ih =>
        have e : rep (k + 1) [60, 47, 97, 62] = rep k [60, 47, 97, 62] ++ [60, 47, 97, 62] := rfl
        rw [e]
        show cT (rep k [60, 47, 97, 62]) ++ [60, 47, 97, 62] = rep (k + 1 + 1) [60, 47, 97, 62]
        rw [ih]
        rfl
    rw [closes, closes_rep k, key]
theorem doc_rep (k : Nat) (e : Bool) : doc_ k e = (if e then rep k [60, 97, 62] ++ [60, 97, 47, 62] else rep k [60, 97, 62]) ++ rep k [60, 47, 97, 62] := by
  unfold doc_
  rw [opens_rep, closes_rep]
  cases e with
  | true => simp [eT]
  | false => simp
theorem parse_doc {k : Nat} (hk : k ≤ 50) (e : Bool) : parseF (doc_ k e) = parseT (doc_ k e).length (toks k e) := by
  unfold parseF
  rw [doc_toks hk e]
  rfl
section
variable (w : World)
set_option maxHeartbeats 8000000 in
set_option maxRecDepth 100000 in
theorem deep_law (hU : Un w) (hE : En w.heap.size w) (nn : Nat) (hnn : nn < 256) (e : Bool) :
    Calls Tryz.prog 6 #[.int .u8 (nn : Nat), .bool e] w fun e w' => e = .returned (.bool true) ∧ Below w.heap.size w w' := by
  have haw := Lib.hid (awake10 w hU hE)
  replace hU := Lib.hid hU
  replace hE := Lib.hid hE
  obtain ⟨K, hK⟩ : ∃ K, nn % 50 = K := ⟨_, rfl⟩
  have hK50 : K < 50 := by omega
  have hrem : (nn : Int) % 50 = (K : Int) := by omega
  have hrem2 : Int.tmod (nn : Int) 50 = (K : Int) := by rw [Int.tmod_eq_emod_of_nonneg (by omega)]; omega
  clear hK
  have hcv : ∀ (w : World) (l : Tx), l.length ≤ 281474976710656 → ∃ bd cb w', (convert 9 41 (.string (strOf l))).run Tryz.prog w = .ok (.slice (some ⟨bd, 0, none⟩) l.length cb) w' ∧ Bs w' (some ⟨bd, 0, none⟩) l.length cb l ∧ Below w.heap.size w w' := conv_bytes
  replace hcv := Lib.hid hcv
  go_enter Tryz.func6, Tryz.ntmps6
  go_wp2_with fail
  refine haw.out.mono ?_
  rintro e9 w1 ⟨rfl, hb1⟩
  replace hb1 := Lib.hid hb1
  clear haw
  go_wp2_with fail
  go_loop [6, 7] (fun v6 v7 => ∃ i : Nat, i ≤ K ∧ v7 = .int .i64 (i : Nat) ∧ v6 = .string (strOf (rep i [60, 97, 62]))) (fun _ v7 => K - (intOf v7).toNat)
  case atStart => exact ⟨0, Nat.zero_le _, rfl, rfl⟩
  case round =>
    obtain ⟨i, hi, rfl, rfl⟩ := hrel
    by_cases hlt : i < K
    · have i1 : decide ((i : Int) < (K : Int)) = true := by simp; omega
      have hadd : ∀ x, (Op.stringOp .add (strOf (rep i [60, 97, 62])) ⟨#[60, 97, 62]⟩).run Tryz.prog x = .ok (.string (strOf (rep (i + 1) [60, 97, 62]))) x := fun x => add_str x (rep i [60, 97, 62]) [60, 97, 62] (by rw [rep_len]; simp; omega)
      obtain ⟨S1, hS1⟩ : ∃ S, strOf (rep i [60, 97, 62]) = S := ⟨_, rfl⟩
      obtain ⟨S2, hS2⟩ : ∃ S, strOf (rep (i + 1) [60, 97, 62]) = S := ⟨_, rfl⟩
      rw [hS1, hS2] at hadd
      rw [hS1]
      replace hS2 := Lib.hid hS2
      clear hS1
      go_wp2_with fail
      go_round
      case rel => exact ⟨i + 1, by omega, by go_num, by rw [hS2.out]⟩
      case measure => simp [intOf]; omega
    · have hie : i = K := by omega
      subst hie
      have i1 : decide ((i : Int) < (i : Int)) = false := by simp
      cases e with
      | true =>
        have hadd0 : ∀ x, (Op.stringOp .add (strOf (rep i [60, 97, 62])) ⟨#[60, 97, 47, 62]⟩).run Tryz.prog x = .ok (.string (strOf (rep i [60, 97, 62] ++ [60, 97, 47, 62]))) x := fun x => add_str x (rep i [60, 97, 62]) [60, 97, 47, 62] (by rw [rep_len]; simp; omega)
        have hM : Hid (doc_ i true = (rep i [60, 97, 62] ++ [60, 97, 47, 62]) ++ rep i [60, 47, 97, 62]) := Lib.hid (doc_rep i true)
        have hMl : (rep i [60, 97, 62] ++ [60, 97, 47, 62]).length ≤ 400 := by rw [List.length_append, rep_len]; simp; omega
        obtain ⟨M, hMe⟩ : ∃ M, rep i [60, 97, 62] ++ [60, 97, 47, 62] = M := ⟨_, rfl⟩
        rw [hMe] at hM hMl hadd0
        obtain ⟨S0, hS0⟩ : ∃ S, strOf (rep i [60, 97, 62]) = S := ⟨_, rfl⟩
        rw [hS0] at hadd0
        rw [hS0]
        clear hS0 hMe
        go_wp2_with fail
        go_loop [6, 8] (fun v6 v8 => ∃ j : Nat, j ≤ i ∧ v8 = .int .i64 (j : Nat) ∧ v6 = .string (strOf (M ++ rep j [60, 47, 97, 62]))) (fun _ v8 => i - (intOf v8).toNat)
        case atStart => exact ⟨0, Nat.zero_le _, rfl, by simp [rep]⟩
        case round =>
          obtain ⟨j, hj, rfl, rfl⟩ := hrel
          by_cases hlt2 : j < i
          · have i2 : decide ((j : Int) < (i : Int)) = true := by simp; omega
            have hadd : ∀ x, (Op.stringOp .add (strOf (M ++ rep j [60, 47, 97, 62])) ⟨#[60, 47, 97, 62]⟩).run Tryz.prog x = .ok (.string (strOf (M ++ rep (j + 1) [60, 47, 97, 62]))) x := fun x => by
              have := add_str x (M ++ rep j [60, 47, 97, 62]) [60, 47, 97, 62] (by rw [List.length_append, rep_len]; simp; omega)
              rw [List.append_assoc] at this
              exact this
            obtain ⟨S1, hS1⟩ : ∃ S, strOf (M ++ rep j [60, 47, 97, 62]) = S := ⟨_, rfl⟩
            obtain ⟨S2, hS2⟩ : ∃ S, strOf (M ++ rep (j + 1) [60, 47, 97, 62]) = S := ⟨_, rfl⟩
            rw [hS1, hS2] at hadd
            rw [hS1]
            replace hS2 := Lib.hid hS2
            clear hS1
            go_wp2_with fail
            go_round
            case rel => exact ⟨j + 1, by omega, by go_num, by rw [hS2.out]⟩
            case measure => simp [intOf]; omega
          · have hje : j = i := by omega
            subst hje
            have i2 : decide ((j : Int) < (j : Int)) = false := by simp
            rw [← hM.out]
            have hdl : (doc_ j true).length ≤ 1000 := by
              have := doc_len j true
              simp at this
              omega
            have hpar := Lib.hid (parse_doc (k := j) (by omega) true)
            have hdlen := Lib.hid (doc_len j true)
            obtain ⟨bd, cb, w2, hcv2, hbs2, hb2⟩ := hcv.out w1 (doc_ j true) (by omega)
            have hb12 := Lib.hid (hb1.out.trans (hb2.mono hb1.out.size))
            have hpc := Lib.hid (parse_any w2 (hU.out.below hb12.out) (some ⟨bd, 0, none⟩) (doc_ j true).length cb (doc_ j true) hbs2 (by omega))
            obtain ⟨DL, hDL⟩ : ∃ DL, (doc_ j true).length = DL := ⟨_, rfl⟩
            rw [hDL] at hcv2 hpc hpar
            replace hDL := Lib.hid hDL
            obtain ⟨S9, hS9⟩ : ∃ S, strOf (doc_ j true) = S := ⟨_, rfl⟩
            rw [hS9] at hcv2
            rw [hS9]
            clear hS9 hb2 hbs2 hM hMl hcv
            have z0 : (((j : Int) + 1) == 0) = false := by simp; omega
            by_cases h32 : 32 < j + 1
            · have z1 : decide ((j : Int) + 1 > 32) = true := by simp; omega
              have z2 : decide ((32 : Int) < (j : Int) + 1) = true := by simp; omega
              have hres : Hid (parseF (doc_ j true) = (7, 96, noDoc)) := Lib.hid (by rw [hpar.out]; exact deep_bad (by simp <;> omega))
              go_wp2_with fail
              refine hpc.out.mono ?_
              intro e3 w3 h3
              obtain ⟨hb3, -, v, rfl, f3⟩ := h3.no hres.out (by decide)
              obtain ⟨T2, a2, rfl⟩ := f3.iface
              unfold zeroDoc
              have hbz := below_alloc w3 (.cells #[.slice none 0 0, .int .i64 0, .string ⟨#[]⟩, .string ⟨#[]⟩, .slice none 0 0, .slice none 0 0, .slice none 0 0] 27)
              have hx4 := Lib.hid (hb12.out.trans ((hb3.trans (hbz.mono hb3.size)).mono hb12.out.size))
              have f4 := Lib.hid (Fe.later f3 hbz)
              clear hb3 h3 f3 hbz hpc
              go_wp2_with fail
              refine (Code_any 7 96 _ _ w.heap.size (w3.alloc (.cells #[.slice none 0 0, .int .i64 0, .string ⟨#[]⟩, .string ⟨#[]⟩, .slice none 0 0, .slice none 0 0, .slice none 0 0] 27)) (hE.out.on hx4.out) f4.out).mono ?_
              rintro e5 w5 ⟨rfl, hb5⟩
              have f5 := Lib.hid (Fe.later f4.out hb5)
              have hx5 := Lib.hid (hx4.out.trans (hb5.mono hx4.out.size))
              clear hb5 f4
              go_wp2_with fail
              refine (At_any 7 96 _ _ w.heap.size w5 (hE.out.on hx5.out) f5.out).mono ?_
              rintro e6 w6 ⟨rfl, hb6⟩
              have hx6 := Lib.hid (hx5.out.trans (hb6.mono hx5.out.size))
              clear hb6 f5
              go_wp2_with fail
              go_ret
              exact ⟨rfl, hx6.out⟩
            · have z1 : decide ((j : Int) + 1 > 32) = false := by simp; omega
              have z2 : decide ((32 : Int) < (j : Int) + 1) = false := by simp; omega
              obtain ⟨d, hd1, hd2, hd3⟩ := deep_ok (k := j) (len := DL) (e := true) (by simp <;> omega) (by simp <;> omega)
              have hres : Hid (parseF (doc_ j true) = (0, 0, d)) := Lib.hid (by rw [hpar.out]; exact hd1)
              have hd2 : depthN d.root = j + 1 := by simpa using hd2
              have hd3 : countN d.root = j + 1 := by simpa using hd3
              go_wp2_with fail
              refine hpc.out.mono ?_
              intro e3 w3 h3
              obtain ⟨hb3, vd, rfl, hdo⟩ := h3.ok hres.out
              obtain ⟨A1, c1, Ar, cr, Ak, ck, A2, c2, rfl, hnd, -, -, -⟩ := hdo.open_
              obtain ⟨bf, rt, af⟩ := d
              obtain ⟨kd, nm, tx, as_, ks⟩ := rt
              have hba := below_alloc w3 (.cells #[.slice A1 bf.length c1, .int .i64 kd, .string (strOf nm), .string (strOf tx), .slice Ar as_.length cr, .slice Ak ks.length ck, .slice A2 af.length c2] 27)
              have hnb := heap_alloc_new w3 (.cells #[.slice A1 bf.length c1, .int .i64 kd, .string (strOf nm), .string (strOf tx), .slice Ar as_.length cr, .slice Ak ks.length ck, .slice A2 af.length c2] 27)
              have hx4 := Lib.hid (hb12.out.trans ((hb3.trans (hba.mono hb3.size)).mono hb12.out.size))
              have hnd4 := NdI.later hnd (fun k hk => hk.2) hba
              have hX4 : ∀ j, (w2.heap.size ≤ j ∧ j < w3.heap.size) → j < (w3.alloc (.cells #[.slice A1 bf.length c1, .int .i64 kd, .string (strOf nm), .string (strOf tx), .slice Ar as_.length cr, .slice Ak ks.length ck, .slice A2 af.length c2] 27)).heap.size := fun j hj => Nat.lt_of_lt_of_le hj.2 hba.size
              have hdc := depth_count (.mk kd nm tx as_ ks)
              have hd2 : depthN (.mk kd nm tx as_ ks) = j + 1 := hd2
              have hd3 : countN (.mk kd nm tx as_ ks) = j + 1 := hd3
              have cd := fun z hz => depth_any (SizeOf.sizeOf (Nd.mk kd nm tx as_ ks)) _ z _ _ (Nat.le_refl _) (NdI.later hnd4 hX4 hz) (fun j hj => Nat.lt_of_lt_of_le (hX4 j hj) hz.size) (by omega)
              have cc := fun z hz => countN_any (SizeOf.sizeOf (Nd.mk kd nm tx as_ ks)) _ z _ _ (Nat.le_refl _) (NdI.later hnd4 hX4 hz) (fun j hj => Nat.lt_of_lt_of_le (hX4 j hj) hz.size) (by omega)
              rw [hd2] at cd
              rw [hd3] at cc
              replace cd := Lib.hid cd
              replace cc := Lib.hid cc
              replace hnb := Lib.hid hnb
              clear hb3 h3 hdo hba hnd hnd4 hX4 hpc hd1 hd2 hd3 hdc
              go_upto_region 16 with fail
              change Code.wp _ _ _ _ (w3.alloc (.cells #[.slice A1 bf.length c1, .int .i64 kd, .string (strOf nm), .string (strOf tx), .slice Ar as_.length cr, .slice Ak ks.length ck, .slice A2 af.length c2] 27))
              generalize w3.alloc (.cells #[.slice A1 bf.length c1, .int .i64 kd, .string (strOf nm), .string (strOf tx), .slice Ar as_.length cr, .slice Ak ks.length ck, .slice A2 af.length c2] 27) = w4 at hx4 cd cc hnb ⊢
              generalize w3.heap.size = D at hnb ⊢
              go_wp2_with fail
              refine (Code_ok w4).mono ?_
              rintro e5 w5 ⟨rfl, hb5⟩
              have hD5 := (hb5.block D (Array.getElem?_eq_some_iff.1 hnb.out).1).trans hnb.out
              have y1 := cell_blk hD5 (i := 1) rfl
              have y2 := cell_blk hD5 (i := 2) rfl
              have y3 := cell_blk hD5 (i := 3) rfl
              have y4 := cell_blk hD5 (i := 4) rfl
              have y5 := cell_blk hD5 (i := 5) rfl
              have cd5 := Lib.hid (cd.out w5 hb5)
              replace hb5 := Lib.hid hb5
              have hx5 := Lib.hid (hx4.out.trans (hb5.out.mono hx4.out.size))
              clear hD5
              go_wp2_with fail
              refine cd5.out.mono ?_
              rintro e6 w6 ⟨rfl, hb6⟩
              have hb46 := hb5.out.trans (hb6.mono hb5.out.size)
              have hD6 := (hb46.block D (Array.getElem?_eq_some_iff.1 hnb.out).1).trans hnb.out
              have y1' := cell_blk hD6 (i := 1) rfl
              have y2' := cell_blk hD6 (i := 2) rfl
              have y3' := cell_blk hD6 (i := 3) rfl
              have y4' := cell_blk hD6 (i := 4) rfl
              have y5' := cell_blk hD6 (i := 5) rfl
              have cc6 := Lib.hid (cc.out w6 hb46)
              have hx6 := Lib.hid (hx5.out.trans (hb6.mono hx5.out.size))
              clear hD6 hb46 hb6
              go_wp2_with fail
              refine cc6.out.mono ?_
              rintro e7 w7 ⟨rfl, hb7⟩
              have hx7 := Lib.hid (hx6.out.trans (hb7.mono hx6.out.size))
              clear hb7
              go_wp2_with fail
              go_ret
              exact ⟨rfl, hx7.out⟩
      | false =>
        have hM : Hid (doc_ i false = rep i [60, 97, 62] ++ rep i [60, 47, 97, 62]) := Lib.hid (doc_rep i false)
        have hMl : (rep i [60, 97, 62]).length ≤ 400 := by rw [rep_len]; simp; omega
        obtain ⟨M, hMe⟩ : ∃ M, rep i [60, 97, 62] = M := ⟨_, rfl⟩
        rw [hMe] at hM hMl
        rw [hMe]
        clear hMe
        go_wp2_with fail
        go_loop [6, 8] (fun v6 v8 => ∃ j : Nat, j ≤ i ∧ v8 = .int .i64 (j : Nat) ∧ v6 = .string (strOf (M ++ rep j [60, 47, 97, 62]))) (fun _ v8 => i - (intOf v8).toNat)
        case atStart => exact ⟨0, Nat.zero_le _, rfl, by simp [rep]⟩
        case round =>
          obtain ⟨j, hj, rfl, rfl⟩ := hrel
          by_cases hlt2 : j < i
          · have i2 : decide ((j : Int) < (i : Int)) = true := by simp; omega
            have hadd : ∀ x, (Op.stringOp .add (strOf (M ++ rep j [60, 47, 97, 62])) ⟨#[60, 47, 97, 62]⟩).run Tryz.prog x = .ok (.string (strOf (M ++ rep (j + 1) [60, 47, 97, 62]))) x := fun x => by
              have := add_str x (M ++ rep j [60, 47, 97, 62]) [60, 47, 97, 62] (by rw [List.length_append, rep_len]; simp; omega)
              rw [List.append_assoc] at this
              exact this
            obtain ⟨S1, hS1⟩ : ∃ S, strOf (M ++ rep j [60, 47, 97, 62]) = S := ⟨_, rfl⟩
            obtain ⟨S2, hS2⟩ : ∃ S, strOf (M ++ rep (j + 1) [60, 47, 97, 62]) = S := ⟨_, rfl⟩
            rw [hS1, hS2] at hadd
            rw [hS1]
            replace hS2 := Lib.hid hS2
            clear hS1
            go_wp2_with fail
            go_round
            case rel => exact ⟨j + 1, by omega, by go_num, by rw [hS2.out]⟩
            case measure => simp [intOf]; omega
          · have hje : j = i := by omega
            subst hje
            have i2 : decide ((j : Int) < (j : Int)) = false := by simp
            rw [← hM.out]
            have hdl : (doc_ j false).length ≤ 1000 := by
              have := doc_len j false
              simp at this
              omega
            have hpar := Lib.hid (parse_doc (k := j) (by omega) false)
            have hdlen := Lib.hid (doc_len j false)
            obtain ⟨bd, cb, w2, hcv2, hbs2, hb2⟩ := hcv.out w1 (doc_ j false) (by omega)
            have hb12 := Lib.hid (hb1.out.trans (hb2.mono hb1.out.size))
            have hpc := Lib.hid (parse_any w2 (hU.out.below hb12.out) (some ⟨bd, 0, none⟩) (doc_ j false).length cb (doc_ j false) hbs2 (by omega))
            obtain ⟨DL, hDL⟩ : ∃ DL, (doc_ j false).length = DL := ⟨_, rfl⟩
            rw [hDL] at hcv2 hpc hpar
            replace hDL := Lib.hid hDL
            obtain ⟨S9, hS9⟩ : ∃ S, strOf (doc_ j false) = S := ⟨_, rfl⟩
            rw [hS9] at hcv2
            rw [hS9]
            clear hS9 hb2 hbs2 hM hMl hcv
            by_cases hz : j = 0
            · subst hz
              have hDL0 : DL = 0 := by
                have h1 := hdlen.out
                rw [hDL.out] at h1
                simpa using h1
              subst hDL0
              have hres : Hid (parseF (doc_ 0 false) = (6, 0, noDoc)) := Lib.hid (by rw [hpar.out]; exact deep_none 0)
              go_wp2_with fail
              refine hpc.out.mono ?_
              intro e3 w3 h3
              obtain ⟨hb3, -, v, rfl, f3⟩ := h3.no hres.out (by decide)
              obtain ⟨T2, a2, rfl⟩ := f3.iface
              unfold zeroDoc
              have hbz := below_alloc w3 (.cells #[.slice none 0 0, .int .i64 0, .string ⟨#[]⟩, .string ⟨#[]⟩, .slice none 0 0, .slice none 0 0, .slice none 0 0] 27)
              have hx4 := Lib.hid (hb12.out.trans ((hb3.trans (hbz.mono hb3.size)).mono hb12.out.size))
              have f4 := Lib.hid (Fe.later f3 hbz)
              clear hb3 h3 f3 hbz hpc
              go_wp2_with fail
              refine (Code_any 6 0 _ _ w.heap.size (w3.alloc (.cells #[.slice none 0 0, .int .i64 0, .string ⟨#[]⟩, .string ⟨#[]⟩, .slice none 0 0, .slice none 0 0, .slice none 0 0] 27)) (hE.out.on hx4.out) f4.out).mono ?_
              rintro e5 w5 ⟨rfl, hb5⟩
              have f5 := Lib.hid (Fe.later f4.out hb5)
              have hx5 := Lib.hid (hx4.out.trans (hb5.mono hx4.out.size))
              clear hb5 f4
              go_wp2_with fail
              refine (At_any 6 0 _ _ w.heap.size w5 (hE.out.on hx5.out) f5.out).mono ?_
              rintro e6 w6 ⟨rfl, hb6⟩
              have hx6 := Lib.hid (hx5.out.trans (hb6.mono hx5.out.size))
              clear hb6 f5
              go_wp2_with fail
              go_ret
              exact ⟨rfl, hx6.out⟩
            · have z0 : ((j : Int) == 0) = false := by simp; omega
              by_cases h32 : 32 < j
              · have z1 : decide ((j : Int) > 32) = true := by simp; omega
                have z2 : decide ((32 : Int) < (j : Int)) = true := by simp; omega
                have z3 : decide (32 < j) = true := by simp; omega
                have hres : Hid (parseF (doc_ j false) = (7, 96, noDoc)) := Lib.hid (by rw [hpar.out]; exact deep_bad (by simp <;> omega))
                go_wp2_with fail
                refine hpc.out.mono ?_
                intro e3 w3 h3
                obtain ⟨hb3, -, v, rfl, f3⟩ := h3.no hres.out (by decide)
                obtain ⟨T2, a2, rfl⟩ := f3.iface
                unfold zeroDoc
                have hbz := below_alloc w3 (.cells #[.slice none 0 0, .int .i64 0, .string ⟨#[]⟩, .string ⟨#[]⟩, .slice none 0 0, .slice none 0 0, .slice none 0 0] 27)
                have hx4 := Lib.hid (hb12.out.trans ((hb3.trans (hbz.mono hb3.size)).mono hb12.out.size))
                have f4 := Lib.hid (Fe.later f3 hbz)
                clear hb3 h3 f3 hbz hpc
                go_wp2_with fail
                refine (Code_any 7 96 _ _ w.heap.size (w3.alloc (.cells #[.slice none 0 0, .int .i64 0, .string ⟨#[]⟩, .string ⟨#[]⟩, .slice none 0 0, .slice none 0 0, .slice none 0 0] 27)) (hE.out.on hx4.out) f4.out).mono ?_
                rintro e5 w5 ⟨rfl, hb5⟩
                have f5 := Lib.hid (Fe.later f4.out hb5)
                have hx5 := Lib.hid (hx4.out.trans (hb5.mono hx4.out.size))
                clear hb5 f4
                go_wp2_with fail
                refine (At_any 7 96 _ _ w.heap.size w5 (hE.out.on hx5.out) f5.out).mono ?_
                rintro e6 w6 ⟨rfl, hb6⟩
                have hx6 := Lib.hid (hx5.out.trans (hb6.mono hx5.out.size))
                clear hb6 f5
                go_wp2_with fail
                go_ret
                exact ⟨rfl, hx6.out⟩
              · have z1 : decide ((j : Int) > 32) = false := by simp; omega
                have z2 : decide ((32 : Int) < (j : Int)) = false := by simp; omega
                have z3 : decide (32 < j) = false := by simp; omega
                obtain ⟨d, hd1, hd2, hd3⟩ := deep_ok (k := j) (len := DL) (e := false) (by simp <;> omega) (by simp <;> omega)
                have hres : Hid (parseF (doc_ j false) = (0, 0, d)) := Lib.hid (by rw [hpar.out]; exact hd1)
                have hd2 : depthN d.root = j := by simpa using hd2
                have hd3 : countN d.root = j := by simpa using hd3
                go_wp2_with fail
                refine hpc.out.mono ?_
                intro e3 w3 h3
                obtain ⟨hb3, vd, rfl, hdo⟩ := h3.ok hres.out
                obtain ⟨A1, c1, Ar, cr, Ak, ck, A2, c2, rfl, hnd, -, -, -⟩ := hdo.open_
                obtain ⟨bf, rt, af⟩ := d
                obtain ⟨kd, nm, tx, as_, ks⟩ := rt
                have hba := below_alloc w3 (.cells #[.slice A1 bf.length c1, .int .i64 kd, .string (strOf nm), .string (strOf tx), .slice Ar as_.length cr, .slice Ak ks.length ck, .slice A2 af.length c2] 27)
                have hnb := heap_alloc_new w3 (.cells #[.slice A1 bf.length c1, .int .i64 kd, .string (strOf nm), .string (strOf tx), .slice Ar as_.length cr, .slice Ak ks.length ck, .slice A2 af.length c2] 27)
                have hx4 := Lib.hid (hb12.out.trans ((hb3.trans (hba.mono hb3.size)).mono hb12.out.size))
                have hnd4 := NdI.later hnd (fun k hk => hk.2) hba
                have hX4 : ∀ j, (w2.heap.size ≤ j ∧ j < w3.heap.size) → j < (w3.alloc (.cells #[.slice A1 bf.length c1, .int .i64 kd, .string (strOf nm), .string (strOf tx), .slice Ar as_.length cr, .slice Ak ks.length ck, .slice A2 af.length c2] 27)).heap.size := fun j hj => Nat.lt_of_lt_of_le hj.2 hba.size
                have hdc := depth_count (.mk kd nm tx as_ ks)
                have hd2 : depthN (.mk kd nm tx as_ ks) = j := hd2
                have hd3 : countN (.mk kd nm tx as_ ks) = j := hd3
                have cd := fun z hz => depth_any (SizeOf.sizeOf (Nd.mk kd nm tx as_ ks)) _ z _ _ (Nat.le_refl _) (NdI.later hnd4 hX4 hz) (fun j hj => Nat.lt_of_lt_of_le (hX4 j hj) hz.size) (by omega)
                have cc := fun z hz => countN_any (SizeOf.sizeOf (Nd.mk kd nm tx as_ ks)) _ z _ _ (Nat.le_refl _) (NdI.later hnd4 hX4 hz) (fun j hj => Nat.lt_of_lt_of_le (hX4 j hj) hz.size) (by omega)
                rw [hd2] at cd
                rw [hd3] at cc
                replace cd := Lib.hid cd
                replace cc := Lib.hid cc
                replace hnb := Lib.hid hnb
                clear hb3 h3 hdo hba hnd hnd4 hX4 hpc hd1 hd2 hd3 hdc
                go_upto_region 16 with fail
                change Code.wp _ _ _ _ (w3.alloc (.cells #[.slice A1 bf.length c1, .int .i64 kd, .string (strOf nm), .string (strOf tx), .slice Ar as_.length cr, .slice Ak ks.length ck, .slice A2 af.length c2] 27))
                generalize w3.alloc (.cells #[.slice A1 bf.length c1, .int .i64 kd, .string (strOf nm), .string (strOf tx), .slice Ar as_.length cr, .slice Ak ks.length ck, .slice A2 af.length c2] 27) = w4 at hx4 cd cc hnb ⊢
                generalize w3.heap.size = D at hnb ⊢
                go_wp2_with fail
                refine (Code_ok w4).mono ?_
                rintro e5 w5 ⟨rfl, hb5⟩
                have hD5 := (hb5.block D (Array.getElem?_eq_some_iff.1 hnb.out).1).trans hnb.out
                have y1 := cell_blk hD5 (i := 1) rfl
                have y2 := cell_blk hD5 (i := 2) rfl
                have y3 := cell_blk hD5 (i := 3) rfl
                have y4 := cell_blk hD5 (i := 4) rfl
                have y5 := cell_blk hD5 (i := 5) rfl
                have cd5 := Lib.hid (cd.out w5 hb5)
                replace hb5 := Lib.hid hb5
                have hx5 := Lib.hid (hx4.out.trans (hb5.out.mono hx4.out.size))
                clear hD5
                go_wp2_with fail
                refine cd5.out.mono ?_
                rintro e6 w6 ⟨rfl, hb6⟩
                have hb46 := hb5.out.trans (hb6.mono hb5.out.size)
                have hD6 := (hb46.block D (Array.getElem?_eq_some_iff.1 hnb.out).1).trans hnb.out
                have y1' := cell_blk hD6 (i := 1) rfl
                have y2' := cell_blk hD6 (i := 2) rfl
                have y3' := cell_blk hD6 (i := 3) rfl
                have y4' := cell_blk hD6 (i := 4) rfl
                have y5' := cell_blk hD6 (i := 5) rfl
                have cc6 := Lib.hid (cc.out w6 hb46)
                have hx6 := Lib.hid (hx5.out.trans (hb6.mono hx5.out.size))
                clear hD6 hb46 hb6
                go_wp2_with fail
                refine cc6.out.mono ?_
                rintro e7 w7 ⟨rfl, hb7⟩
                have hx7 := Lib.hid (hx6.out.trans (hb7.mono hx6.out.size))
                clear hb7
                go_wp2_with fail
                go_ret
                exact ⟨rfl, hx7.out⟩
end
end Go.Proofs.YtokdnhdfmgfkeaaGreatDoor.Xt
end
