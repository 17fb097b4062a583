/- Numbers as texts: strconv.Itoa by the library's contract; eight digits. -/
import Derived.Test.YtdnfnkicmfkkmaaGreatDoorVStrLaws
import Derived.Test.YtdnfnkicmfkkmaaGreatDoorVXtW
import Derived.Test.YtdnfnkicmfkkmaaGreatDoorVXpDoc
import Derived.Test.YtdnfnkicmfkkmaaGreatDoorVXnSt1
import Derived.Test.YtdnfnkicmfkkmaaGreatDoorVNoRf
import Derived.Test.YtdnfnkicmfkkmaaGreatDoorVUtfEnc
import Derived.Test.YtdnfnkicmfkkmaaGreatDoorVKyRb
import Derived.Test.YtdnfnkicmfkkmaaGreatDoorVKyLine
import Derived.Test.YtdnfnkicmfkkmaaGreatDoorVVwMem
import Derived.Test.YtdnfnkicmfkkmaaGreatDoorVKyRd
import Derived.Shelf.Strconv.Itoa3
import Derived.Shelf.Lay
import Derived.Ground.NamesProg
import Derived.Test.YtdnfnkicmfkkmaaGreatDoorProg
import Derived.WalkKit
import Derived.Below
import Derived.Lib.AppendIntMem
import Derived.Lib.SmallJoins
import Derived.Lib.ItoaLen
import Derived.Laws.Concat
set_option linter.unusedVariables false
set_option linter.unusedSimpArgs false
section
namespace Go.Proofs.YtdnfnkicmfkkmaaGreatDoor.No
open Go.RowKit UtfW Xl Xt Xo
open Go.Proofs.YtdnfnkicmfkkmaaGreatDoor (Ky.Rl Ky.frontB)
theorem wA_perm {a b : List At} (h : a.Perm b) : wA a = wA b := by
 induction h with
 | nil => rfl
 | cons x _ ih => rw [wA, wA, ih]
 | swap x y l => simp only [wA]; omega
 | trans _ _ h1 h2 => exact h1.trans h2
theorem wL_perm {a b : List Nd} (h : a.Perm b) : wL a = wL b := by
 induction h with
 | nil => rfl
 | cons x _ ih => rw [wL, wL, ih]
 | swap x y l => simp only [wL]; omega
 | trans _ _ h1 h2 => exact h1.trans h2
mutual
theorem contentN_w : ∀ n : Nd, wN (contentN n) = wN n
 | .mk k nm tx as_ ks => by
  simp only [contentN];rw [wN, wN, wA_perm (attrsN_perm as_), contentL_w ks]
theorem contentL_w : ∀ l : List Nd, wL (contentL l) = wL l
 | [] => by simp only [contentL]
 | x :: xs => by
  simp only [contentL];rw [wL, wL, contentN_w x, contentL_w xs]
end
mutual
theorem normN_w (l : List Ky.Rl) : ∀ (n : Nd) (path : List Tx) (first : Nat) (x : Nd), normN l path first n = .ok x -> wN x <= wN n
 | .mk k nm tx as_ ks, path, first, x, he => by
  unfold normN at he
  split at he
  ·obtain rfl : _ = x := Except.ok.inj he;rw [wN, wN, wA_perm (attrsN_perm as_), contentL_w ks, List.length_nil];omega
  ·cases hL : normL l path first (first + 1) [] ks with
   | error e => rw [hL] at he; simp at he
   | ok out =>
    rw [hL] at he;obtain rfl : _ = x := Except.ok.inj he;have h := normL_w l ks path first (first + 1) [] out hL;rw [wN, wN, wA_perm (attrsN_perm as_), List.length_nil];rw [List.map_nil] at h;simp only [wL] at h;omega
theorem normL_w (l : List Ky.Rl) : ∀ (ks : List Nd) (path : List Tx) (first at_ : Nat) (out out' : List (Stp × Nd)), normL l path first at_ out ks = .ok out' -> wL (out'.map (·.2)) <= wL (out.map (·.2)) + wL ks
 | [], path, first, at_, out, out', he => by
  unfold normL at he;obtain rfl := Except.ok.inj he;omega
 | k :: ks, path, first, at_, out, out', he => by
  unfold normL at he;rw [wL]
  split at he
  ·simp at he
  ·split at he
   ·have := normL_w l ks path first at_ out out' he;omega
   ·cases hr : ruleOf l (path ++ [k.name]) with
    | none => rw [hr] at he; simp at he
    | some r =>
     rw [hr] at he;simp only at he
     cases hn : normN l (path ++ [k.name]) at_ k with
     | error e => rw [hn] at he; simp at he
     | ok kid =>
      rw [hn] at he;simp only at he;have h1 := normN_w l k (path ++ [k.name]) at_ kid hn
      cases hkey : keyR kid r.2 with
      | none => rw [hkey] at he; simp at he
      | some key =>
       rw [hkey] at he;simp only at he
       split at he
       ·simp at he
       ·have h2 := normL_w l ks path first _ _ out' he;have h3 := wL_perm ((insS_perm (k.name, key) kid out).map (·.2));rw [List.map_cons, wL] at h3;have h4 : wL ((insS (k.name, key) kid out).map (·.2)) = wN kid + wL (out.map (·.2)) := h3;omega
end
theorem NormR_w {l : List Ky.Rl} {n x : Nd} (h : NormR l n = .ok x) : wN x <= wN n := by
 unfold NormR at h
 split at h
 ·simp at h
 ·split at h
  ·simp at h
  ·split at h
   ·simp at h
   ·split at h
    ·simp at h
    ·split at h
     ·simp at h
     ·exact normN_w _ n _ 0 x h
end Go.Proofs.YtdnfnkicmfkkmaaGreatDoor.No
end

section

end

section

end

section

end

section
namespace Go.Proofs.YtdnfnkicmfkkmaaGreatDoor.Xt
open Go.RowKit UtfW Xl Xo
theorem results_cell3 {fn : Func} {p u v : Tmp} {ty : TypeId} (h : fn.results = #[.cell p ty, .tmp u, .tmp v]) (tmps : Array Value) (P : Program) (w : World) :
  (results fn tmps).run P w = ((asAddr (tmps.getD p undef)).run P w).andThen fun a w₁ => ((loadVar ty a).run P w₁).andThen fun x w₂ => .ok (.tuple #[x, tmps.getD u undef, tmps.getD v undef]) w₂ := by
 simp only [results, h];simp [Sem.run_bind, Result.andThen]
/-! ### The document that is filled, at its end -/
end Go.Proofs.YtdnfnkicmfkkmaaGreatDoor.Xt
end

section
namespace Go.Proofs.YtdnfnkicmfkkmaaGreatDoor.No
open Go.RowKit UtfW Xl Xt Xo
open Go.Proofs.YtdnfnkicmfkkmaaGreatDoor.Ky (Ts OwX tv Rs Rl)
/-! ### How long keys are -/
theorem wA_val : ∀ {l : List At} {a : At}, a ∈ l -> a.2.length <= wA l
 | x :: l, a, h => by
  rw [wA];rcases List.mem_cons.1 h with rfl | h
  ·omega
  ·have := wA_val h;omega
theorem valueP_len : ∀ (ps : List Tx) (n : Nd) (v : Tx), valueP ps n = some v -> v.length <= 10 * wN n
 | [], n, v, h => by
  cases n with
  | mk kd nm tx as_ ks =>
   unfold valueP at h;injection h with h;subst h;have := Xp.wL_wr ks;rw [wN]
   show (writeL ks).length <= _
   omega
 | p :: ps, n, v, h => by
  cases n with
  | mk kd nm tx as_ ks =>
   unfold valueP at h
   split at h
   ·obtain ⟨a, ha, rfl⟩ := Option.map_eq_some_iff.1 h;have := wA_val (List.mem_of_find?_eq_some ha);rw [wN];have h2 : wA (Nd.mk kd nm tx as_ ks).attrs = wA as_ := rfl;omega
   ·split at h
    ·rename_i x hx
     have hm : x ∈ onlyK ks p := by rw [show onlyK (Nd.mk kd nm tx as_ ks).kids p = onlyK ks p from rfl] at hx; rw [hx]; simp
     have h1 := valueP_len ps x v h;have h2 := wL_mem (onlyK_mem hm);rw [wN];omega
    ·cases h
theorem valueR_len {n : Nd} {p v : Tx} (h : valueR n p = some v) : v.length <= 10 * wN n := by
 unfold valueR at h
 split at h
 ·injection h with h;subst h;exact valueP_len [] n _ (by unfold valueP; rfl)
 ·exact valueP_len _ n v h
theorem keyR_vals {n : Nd} : ∀ {ks l : List Tx}, keyR n ks = some l -> ∀ v ∈ l, v.length <= 10 * wN n
 | [], l, h, v, hv => by simp only [keyR] at h; injection h with h; subst h; simp at hv
 | k :: ks, l, h, v, hv => by
  simp only [keyR] at h
  cases hk : valueR n k with
  | none => rw [hk] at h; simp at h
  | some u =>
   rw [hk] at h;simp only at h;obtain ⟨m, hm, rfl⟩ := Option.map_eq_some_iff.1 h;rcases List.mem_cons.1 hv with rfl | hv
   ·exact valueR_len hk
   ·exact keyR_vals hm v hv
/-! ### Three results, the first of them in memory -/
theorem res_nd3 {fn : Func} {p u v : Tmp} (hf : fn.results = #[.cell p 26, .tmp u, .tmp v]) {tmps : Array Value} {w : World} {D : Nat} {a0 a1 a2 a3 a4 x y : Value}
  (h : w.heap[D]? = some (.cells #[a0, a1, a2, a3, a4] 26)) (hp : tmps.getD p undef = .pointer (some ⟨D, 0, none⟩)) (hu : tmps.getD u undef = x) (hv : tmps.getD v undef = y) :
  (results fn tmps).run Tryz.prog w = .ok (.tuple #[.agg #[a0, a1, a2, a3, a4], x, y]) w := by
 rw [results_cell3 hf, hp, hu, hv];simp [asAddr, Result.andThen, run_loadVar_row w D _ _ _ _ _ h Tryz.underlying26 rfl (by kernel_rfl)]
theorem set5 {w : World} {b E : Nat} {a0 a1 a2 a3 a4 : Value} (h : w.heap[b]? = some (.cells #[a0, a1, a2, a3, a4] E)) (v0 v1 v2 v3 v4 : Value) :
  ((((((w.setCell ⟨b, 0, none⟩ v0).setCell ⟨b, 1, none⟩ v1).setCell ⟨b, 2, none⟩ v2).setCell ⟨b, 3, none⟩ v3).setCell ⟨b, 4, none⟩ v4).heap[b]? = some (.cells #[v0, v1, v2, v3, v4] E)) ∧
  (∀ k, k ≠ b -> ((((((w.setCell ⟨b, 0, none⟩ v0).setCell ⟨b, 1, none⟩ v1).setCell ⟨b, 2, none⟩ v2).setCell ⟨b, 3, none⟩ v3).setCell ⟨b, 4, none⟩ v4).heap[k]? = w.heap[k]?)) ∧
  (((((w.setCell ⟨b, 0, none⟩ v0).setCell ⟨b, 1, none⟩ v1).setCell ⟨b, 2, none⟩ v2).setCell ⟨b, 3, none⟩ v3).setCell ⟨b, 4, none⟩ v4).heap.size = w.heap.size := by
 refine ⟨?_, fun k hk => ?_, ?_⟩
 ·exact blk_setCell (blk_setCell (blk_setCell (blk_setCell (blk_setCell h (i := 0) v0) (i := 1) v1) (i := 2) v2) (i := 3) v3) (i := 4) v4
 ·rw [set_other hk, set_other hk, set_other hk, set_other hk, set_other hk]
 ·rw [set_size, set_size, set_size, set_size, set_size]
theorem Below.set5 {B : Nat} {w0 w : World} {b : Nat} (h : Below B w0 w) (hB : B <= b) (v0 v1 v2 v3 v4 : Value) :
  Below B w0 (((((w.setCell ⟨b, 0, none⟩ v0).setCell ⟨b, 1, none⟩ v1).setCell ⟨b, 2, none⟩ v2).setCell ⟨b, 3, none⟩ v3).setCell ⟨b, 4, none⟩ v4) :=
 ((((h.setCell (p := ⟨b, 0, none⟩) hB _).setCell (p := ⟨b, 1, none⟩) hB _).setCell (p := ⟨b, 2, none⟩) hB _).setCell (p := ⟨b, 3, none⟩) hB _).setCell (p := ⟨b, 4, none⟩) hB _
theorem nd_same {w : World} {D E : Nat} (h : w.heap[D]? = some (.cells #[.int .i64 0, .string ⟨#[]⟩, .string ⟨#[]⟩, .slice none 0 0, .slice none 0 0] E)) :
  w.setCell ⟨D, 0, none⟩ (.int .i64 0) = w /\ w.setCell ⟨D, 1, none⟩ (.string ⟨#[]⟩) = w /\ w.setCell ⟨D, 2, none⟩ (.string ⟨#[]⟩) = w /\ w.setCell ⟨D, 3, none⟩ (.slice none 0 0) = w /\ w.setCell ⟨D, 4, none⟩ (.slice none 0 0) = w :=
 ⟨setCell_same h rfl, setCell_same h rfl, setCell_same h rfl, setCell_same h rfl, setCell_same h rfl⟩
theorem outg_of_outr {B0 B : Nat} {x : World} {v : Value} {ks : List Nd} (h : OutR ⟨0, B0⟩ B x v ks) : OutG NdE 5 26 B0 B x v ks :=
 ⟨OwS.stay h.1 (fun _ _ => rfl) (fun vs y hy => NdI.stay hy fun k hk => ⟨hk.elim (fun h => .inl h.2) .inr, rfl⟩), h.2.1, h.2.2⟩
/-! ### The element that is made -/
structure Pn (T B0 C D : Nat) (nc : Array Value) (S1 : ByteArray) (Aa : Option Addr) (la ca : Nat) (al : List At) (x : World) (Av : Option Addr) (mv cv : Nat) (ss : List Stp) (Ao : Option Addr) (m co : Nat) (ns : List Nd) : Prop where
 tb : x.heap[T]? = some (.cells nc 26)
 rb : x.heap[T + 1]? = some (.cells #[.int .i64 0, .string ⟨#[]⟩, .string ⟨#[]⟩, .slice none 0 0, .slice none 0 0] 26)
 db : x.heap[D]? = some (.cells #[.int .i64 1, .string S1, .string ⟨#[]⟩, .slice Aa la ca, .slice Ao m co] 26)
 ow : OwS AtEl 2 x (T + 2) 68 (.slice Aa la ca) al
 ne : (Value.slice Aa la ca).ownBlock ≠ some D /\ ∀ b, (Value.slice Aa la ca).ownBlock = some b -> b < C
 st : OutG StX 2 100 0 C x (.slice Av mv cv) ss
 ki : OutG NdE 5 26 B0 C x (.slice Ao m co) ns
 ord : B0 <= T /\ T + 2 <= D /\ D < C /\ C <= x.heap.size
section
variable {T B0 C D : Nat} {nc : Array Value} {S1 : ByteArray} {Aa : Option Addr} {la ca : Nat} {al : List At} {x x' : World} {Av Av' : Option Addr} {mv mv' cv cv' : Nat} {ss ss' : List Stp} {Ao Ao' : Option Addr} {co co' m m' : Nat} {ns ns' : List Nd}
theorem Pn.below (h : Pn T B0 C D nc S1 Aa la ca al x Av mv cv ss Ao m co ns) (hb : Below x.heap.size x x') : Pn T B0 C D nc S1 Aa la ca al x' Av mv cv ss Ao m co ns :=
  ⟨(hb.block T (by have := h.ord; omega)).trans h.tb, (hb.block (T + 1) (by have := h.ord; omega)).trans h.rb, (hb.block D (by have := h.ord; omega)).trans h.db, h.ow.below hb AtEl.to, h.ne,
    h.st.below elt_st hb, h.ki.below elt_nd hb, ⟨h.ord.1, h.ord.2.1, h.ord.2.2.1, Nat.le_trans h.ord.2.2.2 hb.size⟩⟩
theorem Pn.put (h : Pn T B0 C D nc S1 Aa la ca al x Av mv cv ss Ao m co ns) (hb : Below x.heap.size x x') (st' : OutG StX 2 100 0 C x' (.slice Av' mv' cv') ss') (ki' : OutG NdE 5 26 B0 C x' (.slice Ao' m' co') ns') :
  Pn T B0 C D nc S1 Aa la ca al (x'.setCell ⟨D, 4, none⟩ (.slice Ao' m' co')) Av' mv' cv' ss' Ao' m' co' ns' := by
 have h' := h.below hb;obtain ⟨o1, o2, o3, o4⟩ := h'.ord
 refine ⟨(set_other (by omega)).trans h'.tb, (set_other (by omega)).trans h'.rb, blk_setCell h'.db (i := 4) _, OwS.stay h'.ow (fun k hk => set_other fun e => h'.ne.1 (by rw [hk, e])) AtEl.to, h'.ne,
  st'.same elt_st (fun k hk => set_other (by omega)) (by rw [set_size]; exact Nat.le_refl _), ki'.same elt_nd (fun k hk => set_other (by omega)) (by rw [set_size]; exact Nat.le_refl _), ⟨o1, o2, o3, by rw [set_size]; exact o4⟩⟩
theorem Pn.cells (h : Pn T B0 C D nc S1 Aa la ca al x Av mv cv ss Ao m co ns) : x.cell? ⟨D, 0, none⟩ = some (.int .i64 1) /\ x.cell? ⟨D, 1, none⟩ = some (.string S1) /\ x.cell? ⟨D, 2, none⟩ = some (.string ⟨#[]⟩) /\ x.cell? ⟨D, 3, none⟩ = some (.slice Aa la ca) /\ x.cell? ⟨D, 4, none⟩ = some (.slice Ao m co) :=
 ⟨Xp.cell_blk h.db (i := 0) rfl, Xp.cell_blk h.db (i := 1) rfl, Xp.cell_blk h.db (i := 2) rfl, Xp.cell_blk h.db (i := 3) rfl, Xp.cell_blk h.db (i := 4) rfl⟩
theorem Pn.fin (h : Pn T B0 C D nc S1 Aa la ca al x Av mv cv ss Ao m co ns) {nm : Tx} (hS : strOf nm = S1) (hla : al.length = la) (hs : ∀ k, k ≠ T + 1 -> x'.heap[k]? = x.heap[k]?) (hz : x'.heap.size = x.heap.size) :
  NdI (fun k => k < B0 \/ (T <= k /\ k < x'.heap.size)) x' [.int .i64 1, .string S1, .string ⟨#[]⟩, .slice Aa la ca, .slice Ao m co] (.mk 1 nm [] al ns) := by
 obtain ⟨o1, o2, o3, o4⟩ := h.ord;have k1 : OutG NdE 5 26 B0 C x' (.slice Ao m co) ns := h.ki.same elt_nd (fun k hk => hs k (by omega)) (by omega);have ks := k1.1.sq' (by omega);have ow' : OwS AtEl 2 x' (T + 2) 68 (.slice Aa la ca) al := OwS.stay h.ow (fun k hk => hs k (by have := (h.ow.lt k hk).1; omega)) AtEl.to;have ha := ow'.sq' (by omega);refine nd_make hS rfl hla (by rw [<- ks.len]) (by rw [hla]; exact ha) (fun a e hn => ?_) (Sq.mono_ ks fun vs y hy => NdI.stay hy fun k hk => ⟨?_, rfl⟩) (fun a e hn => ?_)
 ·have := ow'.lt _ (ow'.own_ e);exact .inr ⟨by omega, this.2⟩
 ·rcases hk with hk | hk
  ·exact .inl hk
  ·exact .inr ⟨by omega, hk.2.1⟩
 ·have := k1.1.lt _ (k1.1.own_ e);exact .inr ⟨by omega, this.2⟩
end
/-! ### The loop over the children, step by step -/
section
variable {l : List Ky.Rl} {path : List Tx} {first at_ : Nat} {out : List (Stp × Nd)} {ks : List Nd} {k : Nat} {y : Nd}
theorem drop_at (h : ks[k]? = some y) : ks.drop k = y :: ks.drop (k + 1) := by
 obtain ⟨h1, h2⟩ := List.getElem?_eq_some_iff.1 h;rw [List.drop_eq_getElem_cons h1, h2]
theorem normL_blank (h : ks[k]? = some y) (h1 : y.kind = 2) (h2 : Ky.trim y.text ≠ []) : normL l path first at_ out (ks.drop k) = .error (24, first) := by
 rw [drop_at h, normL, if_pos ⟨h1, h2⟩]
theorem normL_skip (h : ks[k]? = some y) (h1 : y.kind = 2 -> Ky.trim y.text = []) (h2 : y.kind ≠ 1) : normL l path first at_ out (ks.drop k) = normL l path first at_ out (ks.drop (k + 1)) := by
 rw [drop_at h, normL, if_neg (fun h => h.2 (h1 h.1)), if_pos h2]
theorem normL_norule (h : ks[k]? = some y) (h2 : y.kind = 1) (h3 : ruleOf l (path ++ [y.name]) = none) : normL l path first at_ out (ks.drop k) = .error (24, at_) := by
 rw [drop_at h, normL, if_neg (fun h => by omega), if_neg (by omega), h3]
theorem normL_bad {r : Ky.Rl} {c : Int × Nat} (h : ks[k]? = some y) (h2 : y.kind = 1) (h3 : ruleOf l (path ++ [y.name]) = some r) (h4 : normN l (path ++ [y.name]) at_ y = .error c) : normL l path first at_ out (ks.drop k) = .error c := by
 rw [drop_at h, normL, if_neg (fun h => by omega), if_neg (by omega), h3];simp only [h4]
theorem normL_nokey {r : Ky.Rl} {kid : Nd} (h : ks[k]? = some y) (h2 : y.kind = 1) (h3 : ruleOf l (path ++ [y.name]) = some r) (h4 : normN l (path ++ [y.name]) at_ y = .ok kid) (h5 : keyR kid r.2 = none) : normL l path first at_ out (ks.drop k) = .error (22, at_) := by
 rw [drop_at h, normL, if_neg (fun h => by omega), if_neg (by omega), h3];simp only [h4, h5]
theorem normL_twice {r : Ky.Rl} {kid : Nd} {key : List Tx} (h : ks[k]? = some y) (h2 : y.kind = 1) (h3 : ruleOf l (path ++ [y.name]) = some r) (h4 : normN l (path ++ [y.name]) at_ y = .ok kid) (h5 : keyR kid r.2 = some key) {j : Nat} {o : Stp × Nd} (h6 : out[j]? = some o) (h7 : o.1 = (y.name, key)) : normL l path first at_ out (ks.drop k) = .error (23, at_) := by
 rw [drop_at h, normL, if_neg (fun h => by omega), if_neg (by omega), h3];simp only [h4, h5];rw [if_pos (List.any_eq_true.2 ⟨o, List.mem_of_getElem? h6, decide_eq_true h7⟩)]
theorem normL_on {r : Ky.Rl} {kid : Nd} {key : List Tx} (h : ks[k]? = some y) (h2 : y.kind = 1) (h3 : ruleOf l (path ++ [y.name]) = some r) (h4 : normN l (path ++ [y.name]) at_ y = .ok kid) (h5 : keyR kid r.2 = some key) (h6 : ∀ o ∈ out, o.1 ≠ (y.name, key)) : normL l path first at_ out (ks.drop k) = normL l path first (at_ + elementsN y) (insS (y.name, key) kid out) (ks.drop (k + 1)) := by
 rw [drop_at h, normL, if_neg (fun h => by omega), if_neg (by omega), h3];simp only [h4, h5];rw [if_neg];intro h7;obtain ⟨o, ho, h8⟩ := List.any_eq_true.1 h7;exact h6 o ho (of_decide_eq_true h8)
theorem filter_snoc {s : Stp} {j : Nat} {o : Stp × Nd} (h : out[j]? = some o) : ((out.take (j + 1)).filter fun o => ahead o.1 s).length = ((out.take j).filter fun o => ahead o.1 s).length + (if ahead o.1 s = true then 1 else 0) := by
 rw [take_snoc h, List.filter_append, List.length_append]
 congr 1
 cases ha : ahead o.1 s <;> simp [ha]
theorem insS_map1 (s : Stp) (n : Nd) (p : Nat) (hp : placeS s out = p) : (insS s n out).map (·.1) = (out.map (·.1)).take p ++ [s] ++ (out.map (·.1)).drop p := by
 subst hp;unfold insS;simp [List.map_take, List.map_drop]
theorem insS_map2 (s : Stp) (n : Nd) (p : Nat) (hp : placeS s out = p) : (insS s n out).map (·.2) = (out.map (·.2)).take p ++ [n] ++ (out.map (·.2)).drop p := by
 subst hp;unfold insS;simp [List.map_take, List.map_drop]
end
section
variable {l : List Ky.Rl} {path : List Tx} {first : Nat} {k : Int} {nm tx : Tx} {as_ : List At} {ks : List Nd}
theorem normN_front (h : Ky.frontB l path = true) : normN l path first (.mk k nm tx as_ ks) = .ok (.mk 1 nm [] (attrsN as_) (contentL ks)) := by
 rw [normN, if_pos h]
theorem normN_err {c : Int × Nat} (h : Ky.frontB l path = false) (he : normL l path first (first + 1) [] ks = .error c) : normN l path first (.mk k nm tx as_ ks) = .error c := by
 rw [normN, if_neg (by rw [h]; decide), he]
theorem normN_okk {out : List (Stp × Nd)} (h : Ky.frontB l path = false) (he : normL l path first (first + 1) [] ks = .ok out) : normN l path first (.mk k nm tx as_ ks) = .ok (.mk 1 nm [] (attrsN as_) (out.map (·.2))) := by
 rw [normN, if_neg (by rw [h]; decide), he]
end
def NormP (B0 B : Nat) (r : Except (Int × Nat) Nd) (e : Ending) (w' : World) : Prop := match r with
 | .error (cd, p) => cd ≠ 0 /\ e = .returned (.tuple #[.agg #[.int .i64 0, .string ⟨#[]⟩, .string ⟨#[]⟩, .slice none 0 0, .slice none 0 0], .int .i64 cd, .int .i64 (p : Nat)])
 | .ok x => ∃ vs : List Value, e = .returned (.tuple #[.agg vs.toArray, .int .i64 0, .int .i64 0]) /\ NdI (fun k => k < B0 \/ (B <= k /\ k < w'.heap.size)) w' vs x
end Go.Proofs.YtdnfnkicmfkkmaaGreatDoor.No
end

section
namespace Go.Proofs.YtdnfnkicmfkkmaaGreatDoor.No
open Go.RowKit UtfW Xl Xt Xo
open Go.Proofs.YtdnfnkicmfkkmaaGreatDoor.Ky (Ts OwX tv Rs Rl)
theorem res_nd2 {fn : Func} {p u : Tmp} (hf : fn.results = #[.cell p 26, .tmp u]) {tmps : Array Value} {w : World} {D : Nat} {a0 a1 a2 a3 a4 x : Value}
  (h : w.heap[D]? = some (.cells #[a0, a1, a2, a3, a4] 26)) (hp : tmps.getD p undef = .pointer (some ⟨D, 0, none⟩)) (hu : tmps.getD u undef = x) :
  (results fn tmps).run Tryz.prog w = .ok (.tuple #[.agg #[a0, a1, a2, a3, a4], x]) w := by
 rw [results_cell_tmp hf, hp, hu];simp [asAddr, Result.andThen, run_loadVar_row w D _ _ _ _ _ h Tryz.underlying26 rfl (by kernel_rfl)]
set_option maxHeartbeats 20000000 in
set_option maxRecDepth 100000 in
theorem only_any (X : Nat -> Prop) (w : World) (vs : List Value) (n : Nd) (p : Tx) (hn : NdI X w vs n) (hX : ∀ j, X j -> j < w.heap.size) :
  Calls Tryz.prog 136 #[.agg vs.toArray, .string (strOf p)] w fun e w' => (∃ (o0 : Int) (o1 o2 : ByteArray) (o3 : Option Addr) (o4 o5 : Nat) (o6 : Option Addr) (o7 o8 : Nat) (b : Bool), e = .returned (.tuple #[.agg #[.int .i64 o0, .string o1, .string o2, .slice o3 o4 o5, .slice o6 o7 o8], .bool b]) /\ (b = true -> ∃ x, onlyK n.kids p = [x] /\ NdI X w' [.int .i64 o0, .string o1, .string o2, .slice o3 o4 o5, .slice o6 o7 o8] x) /\ (b = false -> ∀ x, onlyK n.kids p ≠ [x])) /\ Below w.heap.size w w' := by
 obtain ⟨kd, nm, tx, as_, kz, ekn⟩ : ∃ kd nm tx as_ kz, n = Nd.mk kd nm tx as_ kz := by cases n; exact ⟨_, _, _, _, _, rfl⟩
 have hn0 := hn;rw [ekn] at hn;obtain ⟨Ai, ci, Ak, ck, rfl, hA, hK, hXA, hXK⟩ := hn.cells;obtain ⟨li, hli⟩ : ∃ la, as_.length = la := ⟨_, rfl⟩;obtain ⟨lk, hlk⟩ : ∃ lk, kz.length = lk := ⟨_, rfl⟩;obtain ⟨S1, hS1⟩ : ∃ S, strOf nm = S := ⟨_, rfl⟩;obtain ⟨S2, hS2⟩ : ∃ S, strOf tx = S := ⟨_, rfl⟩;rw [hli, hlk, hS1, hS2];rw [hli] at hA;rw [hlk] at hK;obtain ⟨T, hT⟩ : ∃ T, w.heap.size = T := ⟨_, rfl⟩;obtain ⟨w1, hw1⟩ : ∃ w1, w.alloc (.cells #[.int .i64 kd, .string S1, .string S2, .slice Ai li ci, .slice Ak lk ck] 26) = w1 := ⟨_, rfl⟩;have hs1 : w1.heap.size = T + 1 := by rw [<- hw1, World.size_alloc, hT]
 have hb1 : Below w.heap.size w w1 := by rw [<- hw1]; exact (Below.refl _ _).alloc (Nat.le_refl _) _
 have hk1 : w1.heap[T]? = some (.cells #[.int .i64 kd, .string S1, .string S2, .slice Ai li ci, .slice Ak lk ck] 26) := by rw [<- hw1, <- hT]; exact heap_alloc_new w _
 obtain ⟨w2, hw2⟩ : ∃ w2, w1.alloc (.cells #[.int .i64 0, .string ⟨#[]⟩, .string ⟨#[]⟩, .slice none 0 0, .slice none 0 0] 26) = w2 := ⟨_, rfl⟩;obtain ⟨w3, hw3⟩ : ∃ w3, w2.alloc (.cells #[.int .i64 0, .string ⟨#[]⟩, .string ⟨#[]⟩, .slice none 0 0, .slice none 0 0] 26) = w3 := ⟨_, rfl⟩;have hs2 : w2.heap.size = T + 2 := by rw [<- hw2, World.size_alloc, hs1]
 have hb2 : Below w1.heap.size w1 w2 := by rw [<- hw2]; exact (Below.refl _ _).alloc (Nat.le_refl _) _
 have hb3 : Below w2.heap.size w2 w3 := by rw [<- hw3]; exact (Below.refl _ _).alloc (Nat.le_refl _) _
 have hk2 : w2.heap[T + 1]? = some (.cells #[.int .i64 0, .string ⟨#[]⟩, .string ⟨#[]⟩, .slice none 0 0, .slice none 0 0] 26) := by rw [<- hw2, <- hs1]; exact heap_alloc_new w1 _
 have hk3 : w3.heap[T + 2]? = some (.cells #[.int .i64 0, .string ⟨#[]⟩, .string ⟨#[]⟩, .slice none 0 0, .slice none 0 0] 26) := by rw [<- hw3, <- hs2]; exact heap_alloc_new w2 _
 have hbw : Below w.heap.size w w2 := hb1.trans (hb2.mono hb1.size)
 have hall : Hid (∀ x, Below w2.heap.size w2 x -> x.cell? ⟨T, 4, none⟩ = some (.slice Ak lk ck) /\ x.heap[T + 1]? = some (.cells #[.int .i64 0, .string ⟨#[]⟩, .string ⟨#[]⟩, .slice none 0 0, .slice none 0 0] 26) /\ Sq (NdE X) 5 x Ak lk ck kz) := Hd fun x hx => by
  have g1 := (hx.block T (by omega)).trans ((hb2.block T (by omega)).trans hk1);have hwx := hbw.trans (hx.mono hbw.size);exact ⟨Xp.cell_blk g1 (i := 4) rfl, (hx.block (T + 1) (by omega)).trans hk2, Xp.sq_keep hK hwx fun vs y h => NdI.later h hX hwx⟩
 have hst : Hid (∃ (o0 : Int) (o1 o2 : ByteArray) (o3 : Option Addr) (o4 o5 : Nat) (o6 : Option Addr) (o7 o8 : Nat), w3.heap[T + 2]? = some (.cells #[.int .i64 o0, .string o1, .string o2, .slice o3 o4 o5, .slice o6 o7 o8] 26) /\ ∀ l0 z, onlyK (kz.take 0) p = l0 ++ [z] -> NdI X w3 [.int .i64 o0, .string o1, .string o2, .slice o3 o4 o5, .slice o6 o7 o8] z) := Hd ⟨_, _, _, _, _, _, _, _, _, hk3, fun l0 z h => by simp [onlyK] at h⟩;have hb23 := Hd hb3;have hlkH := Hd hlk;have hbwH := Hd hbw;have hTw := Hd hT;have hs2H := Hd hs2;have hXH : Hid (∀ j, X j -> j < T) := Hd (by rw [<- hT]; exact hX);have hkn : Hid (n.kids = kz) := Hd (by rw [ekn]; rfl);obtain ⟨KS, hKS⟩ : ∃ KS, n.kids = KS := ⟨_, rfl⟩;rw [hKS];have hKSH : Hid (KS = kz) := Hd (by rw [<- hKS]; exact hkn.out);obtain ⟨PS, hPS⟩ : ∃ S, strOf p = S := ⟨_, rfl⟩;rw [hPS];have hPSH := Hd hPS;have l1 := hK.le;have l2 := hK.max;have u4 := (hall.out w2 (Below.refl _ _)).1;have u4' := (hall.out w3 hb3).1;clear hA hK hXA hXK hn hn0 ekn hli hlk hS1 hS2 hb1 hb2 hb3 hk1 hk2 hk3 hbw hX hKS hPS
 go_enter Tryz.func136, Tryz.ntmps136
 go_wp2_with fail;clear hw1 hw2 hw3 hT hs1 hs2 u4 u4'
 go_loopw [7, 13] (fun vm vi wr => ∃ k m : Nat, k <= lk /\ m <= k /\ vi = .int .i64 k /\ vm = .int .i64 m /\ Hid ((onlyK (kz.take k) p).length = m) /\ Hid (∃ (o0 : Int) (o1 o2 : ByteArray) (o3 : Option Addr) (o4 o5 : Nat) (o6 : Option Addr) (o7 o8 : Nat), wr.heap[T + 2]? = some (.cells #[.int .i64 o0, .string o1, .string o2, .slice o3 o4 o5, .slice o6 o7 o8] 26) /\ ∀ l0 z, onlyK (kz.take k) p = l0 ++ [z] -> NdI X wr [.int .i64 o0, .string o1, .string o2, .slice o3 o4 o5, .slice o6 o7 o8] z) /\ Hid (Below w2.heap.size w2 wr)) (fun _ i _ => lk - (intOf i).toNat)
 case atStart => exact ⟨0, 0, by omega, by omega, rfl, rfl, Hd (by simp [onlyK]), hst, hb23⟩
 case round =>
  obtain ⟨k, m, hk, hmk, rfl, rfl, hml, hv, hb⟩ := hrel;clear hst hb23;obtain ⟨t4, hrb, hKx⟩ := hall.out wr hb.out;obtain ⟨o0, o1, o2, o3, o4, o5, o6, o7, o8, hOb, hlast⟩ := hv.out
  by_cases hlt : k < lk
  ·have i1 : decide ((k : Int) < (lk : Int)) = true := by rw [decide_eq_true_eq]; omega
   have i2 : decide (k < lk) = true := by rw [decide_eq_true_eq]; omega
   have i3 : (k : Int) < (lk : Int) := by omega
   obtain ⟨b, off, y, ys, eA, hbl, hy, hys, hel, hcs⟩ := hKx.at_ hlt;subst eA;obtain ⟨kd2, nm2, tx2, as2, kz2, ey⟩ : ∃ kd nm tx as_ kz, y = Nd.mk kd nm tx as_ kz := by cases y; exact ⟨_, _, _, _, _, rfl⟩
   have hel0 := Hd hel;rw [ey] at hel;obtain ⟨Aa2, ca2, Ak2, ck2, rfl, _⟩ := hel.cells;obtain ⟨la2, hla2⟩ : ∃ la, as2.length = la := ⟨_, rfl⟩;obtain ⟨lk2, hlk2⟩ : ∃ lk, kz2.length = lk := ⟨_, rfl⟩;obtain ⟨U1, hU1⟩ : ∃ S, strOf nm2 = S := ⟨_, rfl⟩;obtain ⟨U2, hU2⟩ : ∃ S, strOf tx2 = S := ⟨_, rfl⟩;rw [hla2, hlk2, hU1, hU2] at hel0;have m0 : wr.cell? ⟨b, off + k * 5, none⟩ = some (.int .i64 kd2) := hcs 0 _ rfl;have m1 : wr.cell? ⟨b, off + k * 5 + 1, none⟩ = some (.string U1) := by rw [<- hU1]; exact hcs 1 _ rfl
   have m2 : wr.cell? ⟨b, off + k * 5 + 2, none⟩ = some (.string U2) := by rw [<- hU2]; exact hcs 2 _ rfl
   have m3 : wr.cell? ⟨b, off + k * 5 + 3, none⟩ = some (.slice Aa2 la2 ca2) := by rw [<- hla2]; exact hcs 3 _ rfl
   have m4 : wr.cell? ⟨b, off + k * 5 + 4, none⟩ = some (.slice Ak2 lk2 ck2) := by rw [<- hlk2]; exact hcs 4 _ rfl
   have hy' := Hd hy;clear hcs hys hel hy hbl hU1 hU2 hla2 hlk2 ey;obtain ⟨N, hN⟩ : ∃ N, wr.heap.size = N := ⟨_, rfl⟩;obtain ⟨w5, hw5⟩ : ∃ w5, wr.alloc (.cells #[.int .i64 kd2, .string U1, .string U2, .slice Aa2 la2 ca2, .slice Ak2 lk2 ck2] 26) = w5 := ⟨_, rfl⟩;have hb5 : Below wr.heap.size wr w5 := by rw [<- hw5]; exact (Below.refl _ _).alloc (Nat.le_refl _) _
   have hnb : w5.heap[N]? = some (.cells #[.int .i64 kd2, .string U1, .string U2, .slice Aa2 la2 ca2, .slice Ak2 lk2 ck2] 26) := by rw [<- hw5, <- hN]; exact heap_alloc_new wr _
   have hX5 : ∀ j, X j -> j < wr.heap.size := fun j hj => by have := hXH.out j hj; have := hb.out.size; have := hs2H.out; omega
   have hO5 := (hb5.block (T + 2) (Array.getElem?_eq_some_iff.1 hOb).1).trans hOb;have hel5 := Hd (hel0.out.later hX5 hb5);have hlast5 : Hid (∀ l0 z, onlyK (kz.take k) p = l0 ++ [z] -> NdI X w5 [.int .i64 o0, .string o1, .string o2, .slice o3 o4 o5, .slice o6 o7 o8] z) := Hd fun l0 z hz => (hlast l0 z hz).later hX5 hb5
   have hbw5 := Hd (hb.out.trans (hb5.mono hb.out.size));have n0 := Xp.cell_blk hnb (i := 0) rfl;have n1 := Xp.cell_blk hnb (i := 1) rfl;have n2 := Xp.cell_blk hnb (i := 2) rfl;have n3 := Xp.cell_blk hnb (i := 3) rfl;have n4 := Xp.cell_blk hnb (i := 4) rfl;have hsn := Hd (onlyK_snoc (p := p) hy'.out);have hse := Ky.str_eq y.name p;rw [hPSH.out] at hse
   have hU1y : strOf y.name = U1 := by
    have h1 := hel0.out
    cases y with
    | mk a b c d e =>
     obtain ⟨_, _, _, _, e1, _⟩ := h1.cells;injection e1 with e1 e2;injection e2 with e2 e3;injection e2 with e2;exact e2.symm
   have hky : y.kind = kd2 := by
    have h1 := hel0.out
    cases y with
    | mk a b c d e =>
     obtain ⟨_, _, _, _, e1, _⟩ := h1.cells;injection e1 with e1 e2;injection e1 with _ e1;exact e1.symm
   rw [hU1y] at hse;have hkyH := Hd hky;have hO5H := Hd hO5;clear hKx hlast hOb hel0 hnb hX5 hU1y hky hb5 hrb hv
   by_cases hc : kd2 = 1
   ·subst hc
    cases hd : decide (y.name = p) with
    | true =>
     rw [hd] at hse;have ho := hO5;have g0 := Xp.cell_blk ho (i := 0) rfl;have g1 := Xp.cell_blk ho (i := 1) rfl;have g2 := Xp.cell_blk ho (i := 2) rfl;have g3 := Xp.cell_blk ho (i := 3) rfl;have g4 := Xp.cell_blk ho (i := 4) rfl;have zf := fun i => frozen_of_row w5 (T + 2) i _ _ ho
     obtain ⟨s1, s2, s3⟩ := set5 ho (.int .i64 1) (.string U1) (.string U2) (.slice Aa2 la2 ca2) (.slice Ak2 lk2 ck2);have hbS := Below.set5 (b := T + 2) hbw5.out (by have := hs2H.out; omega) (.int .i64 1) (.string U1) (.string U2) (.slice Aa2 la2 ca2) (.slice Ak2 lk2 ck2);have hnx : onlyK (kz.take (k + 1)) p = onlyK (kz.take k) p ++ [y] := (by rw [hsn.out, if_pos ⟨hkyH.out, of_decide_eq_true hd⟩]);have hel6 : NdI X (World.setCell (World.setCell (World.setCell (World.setCell (World.setCell w5 ⟨(T + 2), 0, none⟩ (.int .i64 1)) ⟨(T + 2), 1, none⟩ (.string U1)) ⟨(T + 2), 2, none⟩ (.string U2)) ⟨(T + 2), 3, none⟩ (.slice Aa2 la2 ca2)) ⟨(T + 2), 4, none⟩ (.slice Ak2 lk2 ck2)) [.int .i64 1, .string U1, .string U2, .slice Aa2 la2 ca2, .slice Ak2 lk2 ck2] y := hel5.out.stay fun q hq => ⟨hq, s2 q (by have := hXH.out q hq; omega)⟩
     obtain ⟨w9, hw9⟩ : ∃ w9, (World.setCell (World.setCell (World.setCell (World.setCell (World.setCell w5 ⟨(T + 2), 0, none⟩ (.int .i64 1)) ⟨(T + 2), 1, none⟩ (.string U1)) ⟨(T + 2), 2, none⟩ (.string U2)) ⟨(T + 2), 3, none⟩ (.slice Aa2 la2 ca2)) ⟨(T + 2), 4, none⟩ (.slice Ak2 lk2 ck2)) = w9 := ⟨_, rfl⟩;rw [hw9] at s1 hbS hel6;have hw9H := Hd hw9
     have hrel2 : Hid (∃ (o0 : Int) (o1 o2 : ByteArray) (o3 : Option Addr) (o4 o5 : Nat) (o6 : Option Addr) (o7 o8 : Nat), w9.heap[T + 2]? = some (.cells #[.int .i64 o0, .string o1, .string o2, .slice o3 o4 o5, .slice o6 o7 o8] 26) /\ ∀ l0 z, onlyK (kz.take (k + 1)) p = l0 ++ [z] -> NdI X w9 [.int .i64 o0, .string o1, .string o2, .slice o3 o4 o5, .slice o6 o7 o8] z) := Hd ⟨_, _, _, _, _, _, _, _, _, s1, fun l0 z hz => by
      rw [hnx] at hz;have h9 := (List.append_inj' hz rfl).2;injection h9 with h9;subst h9
      exact hel6⟩
     have hml2 : Hid ((onlyK (kz.take (k + 1)) p).length = m + 1) := Hd (by rw [hnx, List.length_append, hml.out]; rfl);have hbSH := Hd hbS;clear hd s1 s2 s3 hbS hnx hel6 hw9 ho;go_wp2_with fail;clear hw5 hN;go_roundw
     case rel =>
      rw [hw9H.out];exact ⟨k + 1, m + 1, by omega, by omega, by go_num, by go_num, hml2, hrel2, hbSH⟩
     case measure => simp [intOf]; omega
    | false =>
     rw [hd] at hse;have hnx : onlyK (kz.take (k + 1)) p = onlyK (kz.take k) p := (by rw [hsn.out, if_neg (fun h => of_decide_eq_false hd h.2), List.append_nil]);have hrel2 : Hid (∃ (o0 : Int) (o1 o2 : ByteArray) (o3 : Option Addr) (o4 o5 : Nat) (o6 : Option Addr) (o7 o8 : Nat), w5.heap[T + 2]? = some (.cells #[.int .i64 o0, .string o1, .string o2, .slice o3 o4 o5, .slice o6 o7 o8] 26) /\ ∀ l0 z, onlyK (kz.take (k + 1)) p = l0 ++ [z] -> NdI X w5 [.int .i64 o0, .string o1, .string o2, .slice o3 o4 o5, .slice o6 o7 o8] z) := Hd ⟨_, _, _, _, _, _, _, _, _, hO5H.out, fun l0 z hz => hlast5.out l0 z (by rw [<- hnx]; exact hz)⟩;have hml2 : Hid ((onlyK (kz.take (k + 1)) p).length = m) := Hd (by rw [hnx]; exact hml.out);clear hd hnx hO5;go_wp2_with fail;clear hw5 hN;go_roundw
     case rel => exact ⟨k + 1, m, by omega, by omega, by go_num, rfl, hml2, hrel2, hbw5⟩
     case measure => simp [intOf]; omega
   ·have hnx : onlyK (kz.take (k + 1)) p = onlyK (kz.take k) p := (by rw [hsn.out, if_neg (fun h => hc (by rw [<- hkyH.out]; exact h.1)), List.append_nil]);have hrel2 : Hid (∃ (o0 : Int) (o1 o2 : ByteArray) (o3 : Option Addr) (o4 o5 : Nat) (o6 : Option Addr) (o7 o8 : Nat), w5.heap[T + 2]? = some (.cells #[.int .i64 o0, .string o1, .string o2, .slice o3 o4 o5, .slice o6 o7 o8] 26) /\ ∀ l0 z, onlyK (kz.take (k + 1)) p = l0 ++ [z] -> NdI X w5 [.int .i64 o0, .string o1, .string o2, .slice o3 o4 o5, .slice o6 o7 o8] z) := Hd ⟨_, _, _, _, _, _, _, _, _, hO5H.out, fun l0 z hz => hlast5.out l0 z (by rw [<- hnx]; exact hz)⟩;have hml2 : Hid ((onlyK (kz.take (k + 1)) p).length = m) := Hd (by rw [hnx]; exact hml.out);have e5 : (kd2 == 1) = false := (by simpa using hc);clear hnx hO5 hc hse;go_wp2_with fail;clear hw5 hN;go_roundw
    case rel => exact ⟨k + 1, m, by omega, by omega, by go_num, rfl, hml2, hrel2, hbw5⟩
    case measure => simp [intOf]; omega
  ·have i1 : decide ((k : Int) < (lk : Int)) = false := by rw [decide_eq_false_iff_not]; omega
   have i2 : decide (k < lk) = false := by rw [decide_eq_false_iff_not]; omega
   have e1 : k = lk := by omega
   subst e1;have hall2 : kz.take k = kz := List.take_of_length_le (by rw [hlkH.out]; exact Nat.le_refl _);rw [hall2] at hlast;have hml2 : Hid ((onlyK kz p).length = m) := Hd (by have := hml.out; rwa [hall2] at this);have g0 := Xp.cell_blk hOb (i := 0) rfl;have g1 := Xp.cell_blk hOb (i := 1) rfl;have g2 := Xp.cell_blk hOb (i := 2) rfl;have g3 := Xp.cell_blk hOb (i := 3) rfl;have g4 := Xp.cell_blk hOb (i := 4) rfl;have y0 := Xp.cell_blk hrb (i := 0) rfl;have y1 := Xp.cell_blk hrb (i := 1) rfl;have y2 := Xp.cell_blk hrb (i := 2) rfl;have y3 := Xp.cell_blk hrb (i := 3) rfl;have y4 := Xp.cell_blk hrb (i := 4) rfl;have zf := fun i => frozen_of_row wr (T + 1) i _ _ hrb
   obtain ⟨s1, s2, s3⟩ := set5 hrb (.int .i64 o0) (.string o1) (.string o2) (.slice o3 o4 o5) (.slice o6 o7 o8);have hs1H := Hd s1;have hbF := Hd (Below.set5 (b := T + 1) (hbwH.out.trans (hb.out.mono hbwH.out.size)) (by have := hTw.out; omega) (.int .i64 o0) (.string o1) (.string o2) (.slice o3 o4 o5) (.slice o6 o7 o8));have hlast6 : Hid (∀ l0 z, onlyK kz p = l0 ++ [z] -> NdI X (World.setCell (World.setCell (World.setCell (World.setCell (World.setCell wr ⟨(T + 1), 0, none⟩ (.int .i64 o0)) ⟨(T + 1), 1, none⟩ (.string o1)) ⟨(T + 1), 2, none⟩ (.string o2)) ⟨(T + 1), 3, none⟩ (.slice o3 o4 o5)) ⟨(T + 1), 4, none⟩ (.slice o6 o7 o8)) [.int .i64 o0, .string o1, .string o2, .slice o3 o4 o5, .slice o6 o7 o8] z) := Hd fun l0 z hz => (hlast l0 z hz).stay fun q hq => ⟨hq, s2 q (by have := hXH.out q hq; omega)⟩
   clear hKx hlast hOb hrb hall2 s1 s2 s3 hv
   by_cases hm1 : m = 1
   ·have e8 : ((m : Int) == 1) = true := by rw [beq_iff_eq]; omega
    have hm1H := Hd hm1;clear hm1;go_wp2_with fail;refine bodyPost_ret (res_nd2 (x := .bool true) rfl hs1H.out rfl rfl) rfl ⟨⟨_, _, _, _, _, _, _, _, _, true, rfl, fun _ => ?_, fun hm => by cases hm⟩, hbF.out⟩;have h2 := hml2.out;rw [hm1H.out] at h2;obtain ⟨z, hz⟩ := List.length_eq_one_iff.1 h2;exact ⟨z, by rw [hKSH.out]; exact hz, hlast6.out [] z hz⟩
   ·have e8 : ((m : Int) == 1) = false := by rw [beq_eq_false_iff_ne]; omega
    have hm1H := Hd hm1;clear hm1;go_wp2_with fail;refine bodyPost_ret (res_nd2 (x := .bool false) rfl hs1H.out rfl rfl) rfl ⟨⟨_, _, _, _, _, _, _, _, _, false, rfl, fun hm => (by cases hm), fun _ z hz => ?_⟩, hbF.out⟩;rw [hKSH.out] at hz;have h2 := hml2.out;rw [hz] at h2;exact hm1H.out h2.symm
set_option maxHeartbeats 20000000 in
set_option maxRecDepth 100000 in
theorem nattr_any (X : Nat -> Prop) (w : World) (vs : List Value) (n : Nd) (p : Tx) (hn : NdI X w vs n) (hX : ∀ j, X j -> j < w.heap.size) :
  Calls Tryz.prog 135 #[.agg vs.toArray, .string (strOf p)] w fun e w' => e = .returned (.tuple #[.string (strOf (((n.attrs.find? fun a => decide (a.1 = p)).map (·.2)).getD [])), .bool ((n.attrs.find? fun a => decide (a.1 = p)).map (·.2)).isSome]) /\ Below w.heap.size w w' := by
 obtain ⟨R, hR⟩ : ∃ R, (n.attrs.find? fun a => decide (a.1 = p)).map (·.2) = R := ⟨_, rfl⟩;rw [hR];obtain ⟨kd, nm, tx, as_, kz, ekn⟩ : ∃ kd nm tx as_ kz, n = Nd.mk kd nm tx as_ kz := by cases n; exact ⟨_, _, _, _, _, rfl⟩
 have hn0 := hn;rw [ekn] at hn;obtain ⟨Ai, ci, Ak, ck, rfl, hA, hK, hXA, hXK⟩ := hn.cells;obtain ⟨li, hli⟩ : ∃ la, as_.length = la := ⟨_, rfl⟩;obtain ⟨lk, hlk⟩ : ∃ lk, kz.length = lk := ⟨_, rfl⟩;obtain ⟨S1, hS1⟩ : ∃ S, strOf nm = S := ⟨_, rfl⟩;obtain ⟨S2, hS2⟩ : ∃ S, strOf tx = S := ⟨_, rfl⟩;rw [hli, hlk, hS1, hS2];rw [hli] at hA;rw [hlk] at hK;obtain ⟨T, hT⟩ : ∃ T, w.heap.size = T := ⟨_, rfl⟩;obtain ⟨w1, hw1⟩ : ∃ w1, w.alloc (.cells #[.int .i64 kd, .string S1, .string S2, .slice Ai li ci, .slice Ak lk ck] 26) = w1 := ⟨_, rfl⟩;have hs1 : w1.heap.size = T + 1 := by rw [<- hw1, World.size_alloc, hT]
 have hb1 : Below w.heap.size w w1 := by rw [<- hw1]; exact (Below.refl _ _).alloc (Nat.le_refl _) _
 have hk1 : w1.heap[T]? = some (.cells #[.int .i64 kd, .string S1, .string S2, .slice Ai li ci, .slice Ak lk ck] 26) := by rw [<- hw1, <- hT]; exact heap_alloc_new w _
 have hall : Hid (∀ x, Below w1.heap.size w1 x -> x.cell? ⟨T, 3, none⟩ = some (.slice Ai li ci) /\ Sq AtEl 2 x Ai li ci as_) := Hd fun x hx => by
  have g1 := (hx.block T (by omega)).trans hk1;exact ⟨Xp.cell_blk g1 (i := 3) rfl, hA.below AtEl.to (hb1.trans (hx.mono hb1.size))⟩
 have hRH : Hid (R = (as_.find? fun a => decide (a.1 = p)).map (·.2)) := Hd (by rw [<- hR, ekn]; rfl);have hb1H := Hd hb1;have hTw := Hd hT;have hlH := Hd hli;obtain ⟨PS, hPS⟩ : ∃ S, strOf p = S := ⟨_, rfl⟩;rw [hPS];have hPSH := Hd hPS;have l1 := hA.le;have l2 := hA.max;have u3 := (hall.out w1 (Below.refl _ _)).1;clear hA hK hXA hXK hn hn0 ekn hli hlk hS1 hS2 hb1 hk1 hX hPS hR
 go_enter Tryz.func135, Tryz.ntmps135
 go_wp2_with fail;clear hw1 hT hs1 u3
 go_loopw [11] (fun vi wr => ∃ k : Nat, k <= li /\ vi = .int .i64 k /\ Hid (∀ (q : Nat) z, q < k -> as_[q]? = some z -> z.1 ≠ p) /\ Hid (Below w1.heap.size w1 wr)) (fun i _ => li - (intOf i).toNat)
 case atStart => exact ⟨0, by omega, rfl, Hd (fun q z hq => absurd hq (by omega)), Hd (Below.refl _ _)⟩
 case round =>
  obtain ⟨k, hk, rfl, hno, hb⟩ := hrel;obtain ⟨u3, hAx⟩ := hall.out wr hb.out
  by_cases hlt : k < li
  ·have i1 : decide ((k : Int) < (li : Int)) = true := by rw [decide_eq_true_eq]; omega
   have i2 : decide (k < li) = true := by rw [decide_eq_true_eq]; omega
   have i3 : (k : Int) < (li : Int) := by omega
   obtain ⟨b, off, y, ys, eA, hbl, hy, hys, rfl, hcs⟩ := hAx.at_ hlt;subst eA;obtain ⟨y1, y2⟩ := y;have m0 : wr.cell? ⟨b, off + k * 2, none⟩ = some (.string (strOf y1)) := hcs 0 _ rfl;have m1 : wr.cell? ⟨b, off + k * 2 + 1, none⟩ = some (.string (strOf y2)) := hcs 1 _ rfl;have hse := Ky.str_eq y1 p;obtain ⟨U1, hU1⟩ : ∃ S, strOf y1 = S := ⟨_, rfl⟩;rw [hU1] at m0;rw [hU1, hPSH.out] at hse;have hbl5 := below_alloc wr (.cells #[.string U1, .string (strOf y2)] 68);have hb5 := Hd (hb.out.trans (hbl5.mono hb.out.size));have hyH := Hd hy;clear hcs hys hbl hAx hU1 hy hbl5
   cases hd : decide (y1 = p) with
   | true =>
    rw [hd] at hse;have hv : Hid (R = some y2) := Hd (by rw [hRH.out, find_at hno.out hyH.out (of_decide_eq_true hd)]; rfl);clear hd;go_wp2_with fail
    go_ret2
    exact ⟨by rw [hv.out]; rfl, hb1H.out.trans (hb5.out.mono hb1H.out.size)⟩
   | false =>
    rw [hd] at hse
    have hno2 : Hid (∀ (q : Nat) z, q < k + 1 -> as_[q]? = some z -> z.1 ≠ p) := Hd fun q z hq hz => by
     by_cases e : q = k
     ·subst e;rw [hyH.out] at hz;injection hz with hz;rw [<- hz];exact of_decide_eq_false hd
     ·exact hno.out q z (by omega) hz
    clear hd;go_wp2_with fail;go_roundw
    case rel => exact ⟨k + 1, by omega, by go_num, hno2, hb5⟩
    case measure => simp [intOf]; omega
  ·have i1 : decide ((k : Int) < (li : Int)) = false := by rw [decide_eq_false_iff_not]; omega
   have i2 : decide (k < li) = false := by rw [decide_eq_false_iff_not]; omega
   have e1 : k = li := by omega
   subst e1;have hv : Hid (R = none) := Hd (by rw [hRH.out, find_none_of fun q z hz => hno.out q z (by have := (List.getElem?_eq_some_iff.1 hz).1; have := hlH.out; omega) hz]; rfl);clear hAx;go_wp2_with fail
   go_ret2
   exact ⟨by rw [hv.out]; rfl, hb1H.out.trans (hb.out.mono hb1H.out.size)⟩
end Go.Proofs.YtdnfnkicmfkkmaaGreatDoor.No
end

section
namespace Go.Proofs.YtdnfnkicmfkkmaaGreatDoor.No
open Go.RowKit UtfW Xl Xt Xo
open Go.Proofs.YtdnfnkicmfkkmaaGreatDoor.Ky (Ts OwX tv Rs Rl)
theorem pre_at (pr : Tx) : Lib.trimPrefix (64 :: pr) [64] = pr /\ Lib.hasPrefix (64 :: pr) [64] = true := by
 have h : Lib.hasPrefix (64 :: pr) [64] = true := by unfold Lib.hasPrefix; simp
 refine ⟨?_, h⟩;unfold Lib.trimPrefix;rw [if_pos h];rfl
theorem pre_no {p : Tx} (h : p.head? ≠ some 64) : Lib.trimPrefix p [64] = p /\ Lib.hasPrefix p [64] = false := by
 have h2 : Lib.hasPrefix p [64] = false := by
  cases p with
  | nil => rfl
  | cons c p =>
   have hc : c ≠ 64 := fun e => h (by rw [e]; rfl)
   rw [Bool.eq_false_iff];intro h9;simp [Lib.hasPrefix] at h9;exact hc (by first | exact h9 | exact h9.symm)
 refine ⟨?_, h2⟩;unfold Lib.trimPrefix;rw [h2];rfl
theorem drop_head {α : Type} {ps : List α} {k : Nat} {p : α} (h : ps[k]? = some p) : ps.drop k = p :: ps.drop (k + 1) := by
 obtain ⟨h1, h2⟩ := List.getElem?_eq_some_iff.1 h;rw [List.drop_eq_getElem_cons h1, h2]
theorem VCur.parts {T : Nat} {X : Nat -> Prop} {x : World} {cur : Nd} (h : VCur T X x cur) : ∃ kd nm tx as_ kz Aa la ca Ak lk ck S1 S2, cur = .mk kd nm tx as_ kz /\ kz.length = lk /\ x.heap[T]? = some (.cells #[.int .i64 kd, .string S1, .string S2, .slice Aa la ca, .slice Ak lk ck] 26) ∧
  NdI X x [.int .i64 kd, .string S1, .string S2, .slice Aa la ca, .slice Ak lk ck] cur /\ Sq (NdE X) 5 x Ak lk ck kz /\ ∀ a, Ak = some a -> 0 < lk -> X a.block := by
 obtain ⟨vs, h1, h2⟩ := h
 cases cur with
 | mk kd nm tx as_ kz =>
  have h3 := h2;obtain ⟨Aa, ca, Ak, ck, rfl, hA, hK, _, hXK⟩ := h2.cells;exact ⟨kd, nm, tx, as_, kz, Aa, _, ca, Ak, _, ck, _, _, rfl, rfl, h1, h3, hK, hXK⟩
set_option maxHeartbeats 20000000 in
set_option maxRecDepth 100000 in
theorem nvalue_parts (X : Nat -> Prop) (w : World) (hU : Ut w) (vs : List Value) (n : Nd) (ps : List Tx) (path : Tx) (hn : NdI X w vs n) (hX : ∀ j, X j -> j < w.heap.size) (hw : wN n <= 1000000) (hpl : path.length <= 900000) (hdot : path ≠ [46]) (hps : Ky.split 47 path = ps) :
  Calls Tryz.prog 99 #[.agg vs.toArray, .string (strOf path)] w fun e w' => e = .returned (.tuple #[.string (strOf ((valueP ps n).getD [])), .bool (valueP ps n).isSome]) /\ Below w.heap.size w w' := by
 have hse : ((strOf path).toList == [46]) = false := by
  rw [Lib.toList_data, strOf_data'];exact beq_eq_false_iff_ne.2 hdot
 obtain ⟨R, hR⟩ : ∃ R, valueP ps n = R := ⟨_, rfl⟩;rw [hR];obtain ⟨T, hT⟩ : ∃ T, w.heap.size = T := ⟨_, rfl⟩;obtain ⟨v0, v1, v2, v3, v4, rfl⟩ : ∃ a b c d e, vs = [a, b, c, d, e] := list5_of hn.len;obtain ⟨w1, hw1⟩ : ∃ w1, w.alloc (.cells #[v0, v1, v2, v3, v4] 26) = w1 := ⟨_, rfl⟩;have hs1 : w1.heap.size = T + 1 := by rw [<- hw1, World.size_alloc, hT]
 have hb1 : Below w.heap.size w w1 := by rw [<- hw1]; exact (Below.refl _ _).alloc (Nat.le_refl _) _
 have hk1 : w1.heap[T]? = some (.cells #[v0, v1, v2, v3, v4] 26) := by rw [<- hw1, <- hT]; exact heap_alloc_new w _
 have hvc : Hid (VCur T X w1 n) := Hd ⟨_, hk1, hn.later hX hb1⟩;have hsp := Hd (Ky.split_any 47 (strOf path) (by rw [strOf_size']; omega) w1 (hU.below hb1));rw [strOf_data', hps] at hsp;obtain ⟨PS, hPS⟩ : ∃ S, strOf path = S := ⟨_, rfl⟩;rw [hPS] at hse hsp;rw [hPS];have hRH := Hd hR;have hb1H := Hd hb1;have hTw := Hd hT;have hs1H := Hd hs1;have hwH := Hd hw;have hXH : Hid (∀ j, X j -> j < T) := Hd (by rw [<- hT]; exact hX);clear hn hX hw hpl hdot hps hR hPS hb1 hk1 hU
 go_enter Tryz.func99, Tryz.ntmps99
 go_wp2_with fail;refine hsp.out.mono ?_;rintro e w2 ⟨np, hnp, hnp1, hnp0, rfl, how, hb2⟩;have hbw2 := Hd (hb1H.out.trans (hb2.mono hb1H.out.size));have how2 : Hid (OwX w2 (T + 1) 9 (.slice (some ⟨T + 1, 0, none⟩) np np) ps) := Hd (by have := how; rw [hs1] at this; exact this);rw [hs1];have hvc2 : Hid (VCur T X w2 n) := Hd (hvc.out.stay (hb2.block T (by omega)) fun q hq => hb2.block q (by have := hXH.out q hq; omega));have hnpH := Hd hnp;clear hw1 hT hs1 hnp how hb2 hsp hvc hse;go_wp2_with fail
 go_loopw [20] (fun vi wr => ∃ k : Nat, k <= np /\ vi = .int .i64 k /\ Hid (∃ cur, VCur T X wr cur /\ valueP (ps.drop k) cur = R /\ wN cur <= 1000000) /\ Hid (OwX wr (T + 1) 9 (.slice (some ⟨T + 1, 0, none⟩) np np) ps) /\ Hid (Below w.heap.size w wr)) (fun i _ => np - (intOf i).toNat)
 case atStart => exact ⟨0, by omega, rfl, Hd ⟨n, hvc2.out, by rw [List.drop_zero]; exact hRH.out, hwH.out⟩, how2, hbw2⟩
 case round =>
  obtain ⟨k, hk, rfl, hcur, how, hb⟩ := hrel;clear hvc2 how2 hbw2;obtain ⟨cur, hvc, hval, hwc⟩ := hcur.out;obtain ⟨kd, nm, tx, as_, kz, Ai, li, ci, Ak, lk, ck, S1, S2, ecur, hlk, hTb, hnd, hK, hXK⟩ := hvc.parts;have t0 := Xp.cell_blk hTb (i := 0) rfl;have t1 := Xp.cell_blk hTb (i := 1) rfl;have t2 := Xp.cell_blk hTb (i := 2) rfl;have t3 := Xp.cell_blk hTb (i := 3) rfl;have t4 := Xp.cell_blk hTb (i := 4) rfl;have hXr : ∀ j, X j -> j < wr.heap.size := fun j hj => Nat.lt_trans (hXH.out j hj) (Array.getElem?_eq_some_iff.1 hTb).1
  have hndH := Hd hnd;have hTbH := Hd hTb;have hXrH := Hd hXr
  by_cases hlt : k < np
  ·have i1 : decide ((k : Int) < (np : Int)) = true := by rw [decide_eq_true_eq]; omega
   have i2 : decide (k < np) = true := by rw [decide_eq_true_eq]; omega
   have i3 : (k : Int) < (np : Int) := by omega
   obtain ⟨b, off, p, eA, hbl, hp, k0⟩ := how.out.rd.at_ hlt;injection eA with eA;injection eA with eA1 eA2;subst eA1 eA2;rw [Nat.zero_add] at k0;have hdrop := drop_head hp;obtain ⟨S, hS⟩ : ∃ S, strOf p = S := ⟨_, rfl⟩;rw [Ky.tv, hS] at k0;have hcp := Ky.cutPrefix_any S ⟨#[64]⟩ wr;rw [<- hS, strOf_data'] at hcp;rw [hS] at hcp;have hattr := nattr_any X wr [.int .i64 kd, .string S1, .string S2, .slice Ai li ci, .slice Ak lk ck] cur p.tail hnd hXr;have honly := Hd (only_any X wr [.int .i64 kd, .string S1, .string S2, .slice Ai li ci, .slice Ak lk ck] cur p hnd hXr);rw [hS] at honly;have hvalH := Hd hval;have hwcH := Hd hwc;have hdropH := Hd hdrop;have ecurH := Hd ecur;have hhp : wr.heap.size = wr.heap.size := rfl
   by_cases hc : p.head? = some 64
   ·obtain ⟨pr, rfl⟩ : ∃ pr, p = 64 :: pr := by cases p with | nil => simp at hc | cons a q => simp at hc; exact ⟨q, by rw [hc]⟩
    have hq := pre_at pr;rw [show (⟨#[64]⟩ : ByteArray).data.toList = [64] from rfl, hq.1, hq.2] at hcp;have hRf : Hid (R = (cur.attrs.find? fun a => decide (a.1 = pr)).map (·.2)) := Hd (by rw [<- hval, hdrop, valueP, if_pos hc]; rfl);have hattrH : Hid (Calls Tryz.prog 135 #[.agg #[.int .i64 kd, .string S1, .string S2, .slice Ai li ci, .slice Ak lk ck], .string (strOf pr)] wr fun e w' => e = .returned (.tuple #[.string (strOf (R.getD [])), .bool R.isSome]) /\ Below wr.heap.size wr w') := Hd (by rw [hRf.out]; exact hattr);obtain ⟨PR, hPR⟩ : ∃ S, strOf pr = S := ⟨_, rfl⟩;rw [hPR] at hcp hattrH;have hcpH := Hd hcp;clear hcp hattr honly hval hwc hdrop hq hc hS hp hbl hTb hnd hXr hK hXK hvc hcur hPR ecur hhp;go_wp2_with fail;refine hcpH.out.mono ?_;rintro e w3 ⟨rfl, rfl⟩;go_wp2_with fail;refine hattrH.out.mono ?_;rintro e w4 ⟨rfl, hb4⟩;have hb4H := Hd (hb.out.trans (hb4.mono hb.out.size));clear hb4;go_wp2_with fail
    go_ret2
    exact ⟨rfl, hb4H.out⟩
   ·have hq := pre_no hc;rw [show (⟨#[64]⟩ : ByteArray).data.toList = [64] from rfl, hq.1, hq.2, hS] at hcp
    have hRf : Hid (R = match onlyK cur.kids p with | [x] => valueP (ps.drop (k + 1)) x | _ => none) := Hd (by
     rw [<- hval, hdrop, valueP, if_neg hc]
     cases onlyK cur.kids p with
     | nil => rfl
     | cons a l => cases l <;> rfl)
    have hcpH := Hd hcp;clear hcp hattr hval hwc hdrop hq hc hS hp hbl hTb hnd hXr hK hXK hvc hcur ecur hhp;go_wp2_with fail;refine hcpH.out.mono ?_;rintro e w3 ⟨rfl, rfl⟩;go_wp2_with fail;refine honly.out.mono ?_;rintro e w4 ⟨⟨o0, o1, o2, o3, o4, o5, o6, o7, o8, bb, rfl, hT1, hF1⟩, hb4⟩;have hTb4 := (hb4.block T (Array.getElem?_eq_some_iff.1 hTbH.out).1).trans hTbH.out;have hbw4 := hb.out.trans (hb4.mono hb.out.size);have how4 := how.out.below hb4;have hsz4 := hb4.size;clear t0 t1 t2 t3 t4 k0
    cases bb with
    | false =>
     have hv : Hid (R = none) := Hd (by
      rw [hRf.out]
      split
      ·rename_i x hx
       exact absurd hx (hF1 rfl x)
      ·rfl)
     have hbl := below_alloc w4 (.cells #[.int .i64 o0, .string o1, .string o2, .slice o3 o4 o5, .slice o6 o7 o8] 26);have hb5 := Hd (hbw4.trans (hbl.mono hbw4.size));clear hT1 hF1 hTb4 hbw4 how4 hbl hb4 hsz4;go_wp2_with fail
     go_ret2
     exact ⟨by rw [hv.out]; rfl, hb5.out⟩
    | true =>
     obtain ⟨x, hx, hxn⟩ := hT1 rfl;have hv : Hid (valueP (ps.drop (k + 1)) x = R) := Hd (by rw [hRf.out, hx])
     have hwx : Hid (wN x <= 1000000) := Hd (by
      have h1 := wL_mem (onlyK_mem (p := p) (x := x) (ks := cur.kids) (by rw [hx]; simp));have h2 := hwcH.out;have h3 : wL cur.kids <= wN cur := by cases cur with | mk a b c d e => rw [wN]; show wL e <= _; omega
      omega)
     obtain ⟨N, hN⟩ : ∃ N, w4.heap.size = N := ⟨_, rfl⟩;obtain ⟨w5, hw5⟩ : ∃ w5, w4.alloc (.cells #[.int .i64 o0, .string o1, .string o2, .slice o3 o4 o5, .slice o6 o7 o8] 26) = w5 := ⟨_, rfl⟩;have hb5 : Below w4.heap.size w4 w5 := by rw [<- hw5]; exact (Below.refl _ _).alloc (Nat.le_refl _) _
     have hnb : w5.heap[N]? = some (.cells #[.int .i64 o0, .string o1, .string o2, .slice o3 o4 o5, .slice o6 o7 o8] 26) := by rw [<- hw5, <- hN]; exact heap_alloc_new w4 _
     have hX4 : ∀ j, X j -> j < w4.heap.size := fun j hj => Nat.lt_of_lt_of_le (hXrH.out j hj) hsz4
     have hTb5 := (hb5.block T (Array.getElem?_eq_some_iff.1 hTb4).1).trans hTb4;have hxn5 := hxn.later hX4 hb5;have how5 := how4.below hb5;have hbw5 := hbw4.trans (hb5.mono hbw4.size);have n0 := Xp.cell_blk hnb (i := 0) rfl;have n1 := Xp.cell_blk hnb (i := 1) rfl;have n2 := Xp.cell_blk hnb (i := 2) rfl;have n3 := Xp.cell_blk hnb (i := 3) rfl;have n4 := Xp.cell_blk hnb (i := 4) rfl;have t0 := Xp.cell_blk hTb5 (i := 0) rfl;have t1 := Xp.cell_blk hTb5 (i := 1) rfl;have t2 := Xp.cell_blk hTb5 (i := 2) rfl;have t3 := Xp.cell_blk hTb5 (i := 3) rfl;have t4 := Xp.cell_blk hTb5 (i := 4) rfl;have zf := fun i => frozen_of_row w5 T i _ _ hTb5
     obtain ⟨s1, s2, s3⟩ := set5 hTb5 (.int .i64 o0) (.string o1) (.string o2) (.slice o3 o4 o5) (.slice o6 o7 o8);have hbS := Below.set5 (b := T) hbw5 (by rw [hTw.out]; exact Nat.le_refl _) (.int .i64 o0) (.string o1) (.string o2) (.slice o3 o4 o5) (.slice o6 o7 o8);have how6 : OwX (World.setCell (World.setCell (World.setCell (World.setCell (World.setCell w5 ⟨T, 0, none⟩ (.int .i64 o0)) ⟨T, 1, none⟩ (.string o1)) ⟨T, 2, none⟩ (.string o2)) ⟨T, 3, none⟩ (.slice o3 o4 o5)) ⟨T, 4, none⟩ (.slice o6 o7 o8)) (T + 1) 9 (.slice (some ⟨T + 1, 0, none⟩) np np) ps := own_set (own_set (own_set (own_set (own_set how5 (Nat.lt_succ_self T) 0 _) (Nat.lt_succ_self T) 1 _) (Nat.lt_succ_self T) 2 _) (Nat.lt_succ_self T) 3 _) (Nat.lt_succ_self T) 4 _;have hvc6 : VCur T X (World.setCell (World.setCell (World.setCell (World.setCell (World.setCell w5 ⟨T, 0, none⟩ (.int .i64 o0)) ⟨T, 1, none⟩ (.string o1)) ⟨T, 2, none⟩ (.string o2)) ⟨T, 3, none⟩ (.slice o3 o4 o5)) ⟨T, 4, none⟩ (.slice o6 o7 o8)) x := ⟨_, s1, hxn5.stay fun q hq => ⟨hq, s2 q (Nat.ne_of_lt (hXH.out q hq))⟩⟩;obtain ⟨w9, hw9⟩ : ∃ w9, (World.setCell (World.setCell (World.setCell (World.setCell (World.setCell w5 ⟨T, 0, none⟩ (.int .i64 o0)) ⟨T, 1, none⟩ (.string o1)) ⟨T, 2, none⟩ (.string o2)) ⟨T, 3, none⟩ (.slice o3 o4 o5)) ⟨T, 4, none⟩ (.slice o6 o7 o8)) = w9 := ⟨_, rfl⟩;rw [hw9] at hbS how6 hvc6;have hw9H := Hd hw9;have hbSH := Hd hbS;have how6H := Hd how6;have hvc6H := Hd hvc6;clear hT1 hF1 hTb4 hbw4 how4 hb4 hsz4 hb5 hnb hX4 hTb5 hxn5 how5 hbw5 s1 s2 s3 hbS how6 hvc6 hw9 hx hxn;go_wp2_with fail;clear hw5 hN;go_roundw
     case rel =>
      rw [hw9H.out];exact ⟨k + 1, by omega, by go_num, Hd ⟨x, hvc6H.out, hv.out, hwx.out⟩, how6H, hbSH⟩
     case measure => simp [intOf]; omega
  ·have i1 : decide ((k : Int) < (np : Int)) = false := by rw [decide_eq_false_iff_not]; omega
   have i2 : decide (k < np) = false := by rw [decide_eq_false_iff_not]; omega
   have e1 : k = np := by omega
   subst e1;have hv : Hid (R = some (writeL kz)) := Hd (by rw [<- hval, List.drop_of_length_le (by rw [hnpH.out]; exact Nat.le_refl _), valueP, ecur]; rfl)
   have hnodes := Hd (Xp.Nodes_any X wr Ak lk ck kz hK hXK hXr (by
    have h1 := Xp.wL_wr kz;have h2 : wL kz <= wN cur := by rw [ecur, wN]; omega
    omega))
   clear hval hwc hTb hnd hXr hK hXK hvc hcur ecur;go_wp2_with fail;refine hnodes.out.mono ?_;rintro e w3 ⟨rfl, hb3⟩;have hb3H := Hd (hb.out.trans (hb3.mono hb.out.size));clear hb3;go_wp2_with fail
   go_ret2
   exact ⟨by rw [hv.out]; rfl, hb3H.out⟩
set_option maxHeartbeats 8000000 in
set_option maxRecDepth 100000 in
theorem nvalue_any (X : Nat -> Prop) (w : World) (hU : Ut w) (vs : List Value) (n : Nd) (path : Tx) (hn : NdI X w vs n) (hX : ∀ j, X j -> j < w.heap.size) (hw : wN n <= 1000000) (hpl : path.length <= 900000) :
  Calls Tryz.prog 99 #[.agg vs.toArray, .string (strOf path)] w fun e w' => e = .returned (.tuple #[.string (strOf ((valueR n path).getD [])), .bool (valueR n path).isSome]) /\ Below w.heap.size w w' := by
 by_cases hdot : path = [46]
 ·have hv : valueR n path = some (writeL n.kids) := by unfold valueR; rw [if_pos hdot]
  rw [hv]
  have hse : ((strOf path).toList == [46]) = true := by
   rw [Lib.toList_data, strOf_data', hdot];rfl
  obtain ⟨PS, hPS⟩ : ∃ S, strOf path = S := ⟨_, rfl⟩;rw [hPS] at hse;rw [hPS];obtain ⟨T, hT⟩ : ∃ T, w.heap.size = T := ⟨_, rfl⟩;obtain ⟨v0, v1, v2, v3, v4, rfl⟩ : ∃ a b c d e, vs = [a, b, c, d, e] := list5_of hn.len;obtain ⟨w1, hw1⟩ : ∃ w1, w.alloc (.cells #[v0, v1, v2, v3, v4] 26) = w1 := ⟨_, rfl⟩;have hb1 : Below w.heap.size w w1 := by rw [<- hw1]; exact (Below.refl _ _).alloc (Nat.le_refl _) _
  have hk1 : w1.heap[T]? = some (.cells #[v0, v1, v2, v3, v4] 26) := by rw [<- hw1, <- hT]; exact heap_alloc_new w _
  have hvc : VCur T X w1 n := ⟨_, hk1, hn.later hX hb1⟩;obtain ⟨kd, nm, tx, as_, kz, Ai, li, ci, Ak, lk, ck, S1, S2, ecur, hlk, hTb, hnd, hK, hXK⟩ := hvc.parts;rw [hTb] at hk1;injection hk1 with hk1;injection hk1 with hk1
  obtain ⟨rfl, rfl, rfl, rfl, rfl⟩ : v0 = .int .i64 kd /\ v1 = .string S1 /\ v2 = .string S2 /\ v3 = .slice Ai li ci /\ v4 = .slice Ak lk ck := by
   have := hk1;simp at this;exact ⟨this.1.symm, this.2.1.symm, this.2.2.1.symm, this.2.2.2.1.symm, this.2.2.2.2.symm⟩
  have t4 := Xp.cell_blk hTb (i := 4) rfl;have hkz : n.kids = kz := by rw [ecur]; rfl
  rw [hkz]
  have hnodes := Hd (Xp.Nodes_any X w1 Ak lk ck kz hK hXK (fun j hj => Nat.lt_of_lt_of_le (hX j hj) hb1.size) (by
   have h1 := Xp.wL_wr kz;have h2 : wL kz <= wN n := by rw [ecur, wN]; omega
   omega))
  have hb1H := Hd hb1;clear hn hX hw hpl hdot hv hPS hb1 hTb hvc hnd hK hXK ecur hkz hU
  go_enter Tryz.func99, Tryz.ntmps99
  go_wp2_with fail;refine hnodes.out.mono ?_;rintro e w3 ⟨rfl, hb3⟩;have hb3H := Hd (hb1H.out.trans (hb3.mono hb1H.out.size));clear hb3 hw1 hT;go_wp2_with fail
  go_ret2
  exact ⟨rfl, hb3H.out⟩
 ·have hv : valueR n path = valueP (Ky.split 47 path) n := by unfold valueR; rw [if_neg hdot]
  rw [hv];exact nvalue_parts X w hU vs n _ path hn hX hw hpl hdot rfl
end Go.Proofs.YtdnfnkicmfkkmaaGreatDoor.No
end

section
namespace Go.Proofs.YtdnfnkicmfkkmaaGreatDoor.No
open Go.RowKit UtfW Xl Xt Xo
open Go.Proofs.YtdnfnkicmfkkmaaGreatDoor.Ky (Ts OwX tv Rs Rl)
theorem find_rule (l : List Ky.Rl) (p : List Tx) : Ky.findR l p = ruleOf l p := rfl
theorem has_rule {l : List Ky.Rl} {p : List Tx} {r : Ky.Rl} (h : ruleOf l p = some r) : Ky.hasB l p = true := by
 rw [<- Ky.find_has, find_rule, h];rfl
theorem keyR_some {n : Nd} : ∀ {ks l : List Tx}, keyR n ks = some l -> ∀ k ∈ ks, (valueR n k).isSome = true
 | [], l, h, k, hk => by simp at hk
 | a :: ks, l, h, k, hk => by
  simp only [keyR] at h
  cases hv : valueR n a with
  | none => rw [hv] at h; simp at h
  | some u =>
   rw [hv] at h;simp only at h;obtain ⟨m, hm, rfl⟩ := Option.map_eq_some_iff.1 h;rcases List.mem_cons.1 hk with rfl | hk
   ·rw [hv]; rfl
   ·exact keyR_some hm k hk
theorem keyR_take {n : Nd} : ∀ {ks l : List Tx} {k : Nat}, keyR n ks = some l -> keyR n (ks.take k) = some (l.take k)
 | ks, l, 0, h => by simp [keyR]
 | [], l, k + 1, h => by simp only [keyR] at h; injection h with h; subst h; simp [keyR]
 | a :: ks, l, k + 1, h => by
  simp only [keyR] at h
  cases hv : valueR n a with
  | none => rw [hv] at h; simp at h
  | some u =>
   rw [hv] at h;simp only at h;obtain ⟨m, hm, rfl⟩ := Option.map_eq_some_iff.1 h;simp only [List.take_succ_cons, keyR, hv, keyR_take (k := k) hm];rfl
set_option maxHeartbeats 20000000 in
set_option maxRecDepth 100000 in
theorem pKey_any (X : Nat -> Prop) (w : World) (hU : Ut w) (Al : Option Addr) (nl cl : Nat) (l : List Ky.Rl) (Ap : Option Addr) (np cp : Nat) (path : List Tx) (vs : List Value) (n : Nd) (r : Ky.Rl) (key : List Tx) (hl : Rs w Al nl cl l) (hp : Ts w Ap np cp path) (hS : ∀ r ∈ l, r.1.length <= 900000 /\ r.2.length <= 900000 /\ ∀ k ∈ r.2, k.length <= 900000)
  (hn : NdI X w vs n) (hX : ∀ j, X j -> j < w.heap.size) (hw : wN n <= 1000000) (hr : ruleOf l path = some r) (hk : keyR n r.2 = some key) :
  Calls Tryz.prog 55 #[.slice Al nl cl, .slice Ap np cp, .agg vs.toArray] w fun e w' => (∃ A c, e = .returned (.tuple #[.slice A key.length c, .nilIface]) /\ OwX w' w.heap.size 9 (.slice A key.length c) key) /\ Below w.heap.size w w' := by
 obtain ⟨kd, nm, tx, as_, kz, ekn⟩ : ∃ kd nm tx as_ kz, n = Nd.mk kd nm tx as_ kz := by cases n; exact ⟨_, _, _, _, _, rfl⟩
 have hn0 := hn;rw [ekn] at hn;obtain ⟨Ai, ci, Ak, ck, rfl, -⟩ := hn.cells;obtain ⟨li, hli⟩ : ∃ la, as_.length = la := ⟨_, rfl⟩;obtain ⟨lk, hlk⟩ : ∃ lk, kz.length = lk := ⟨_, rfl⟩;obtain ⟨S1, hS1⟩ : ∃ S, strOf nm = S := ⟨_, rfl⟩;obtain ⟨S2, hS2⟩ : ∃ S, strOf tx = S := ⟨_, rfl⟩;rw [hli, hlk, hS1, hS2] at hn0;rw [hli, hlk, hS1, hS2];obtain ⟨T, hT⟩ : ∃ T, w.heap.size = T := ⟨_, rfl⟩;obtain ⟨w1, hw1⟩ : ∃ w1, w.alloc (.cells #[.int .i64 kd, .string S1, .string S2, .slice Ai li ci, .slice Ak lk ck] 26) = w1 := ⟨_, rfl⟩;have hs1 : w1.heap.size = T + 1 := by rw [<- hw1, World.size_alloc, hT]
 have hb1 : Below w.heap.size w w1 := by rw [<- hw1]; exact (Below.refl _ _).alloc (Nat.le_refl _) _
 have hk1 : w1.heap[T]? = some (.cells #[.int .i64 kd, .string S1, .string S2, .slice Ai li ci, .slice Ak lk ck] 26) := by rw [<- hw1, <- hT]; exact heap_alloc_new w _
 have hrm := rule_mem hr;have hrs := hS r hrm.1;have hfind := Ky.Find_any Al nl cl l Ap np cp path w1 (hl.below hb1) (hp.below hb1) (fun r hr => by have := hS r hr; omega)
 have hval : Hid (∀ x q, Below w1.heap.size w1 x -> q ∈ r.2 -> Calls Tryz.prog 99 #[.agg #[.int .i64 kd, .string S1, .string S2, .slice Ai li ci, .slice Ak lk ck], .string (strOf q)] x fun e w' => e = .returned (.tuple #[.string (strOf ((valueR n q).getD [])), .bool true]) /\ Below x.heap.size x w') := Hd fun x q hx hq => by
  have hwx := hb1.trans (hx.mono hb1.size);have h1 := nvalue_any X x (hU.below hwx) [.int .i64 kd, .string S1, .string S2, .slice Ai li ci, .slice Ak lk ck] n q (hn0.later hX hwx) (fun j hj => Nat.lt_of_lt_of_le (hX j hj) hwx.size) hw (hrs.2.2 q hq);rw [keyR_some hk q hq] at h1;exact h1
 have hcell : Hid (∀ x, Below w1.heap.size w1 x -> x.heap[T]? = some (.cells #[.int .i64 kd, .string S1, .string S2, .slice Ai li ci, .slice Ak lk ck] 26)) := Hd fun x hx => (hx.block T (by omega)).trans hk1
 obtain ⟨ks, hks⟩ : ∃ ks, r.2 = ks := ⟨_, rfl⟩;rw [hks] at hk hval hrs;obtain ⟨nk, hnk⟩ : ∃ nk, ks.length = nk := ⟨_, rfl⟩;have hkl : key.length = nk := by rw [keyR_len hk]; exact hnk
 rw [hkl];have hkH := Hd hk;have hnkH := Hd hnk;have hklH := Hd hkl;have hksH := Hd hks;have hrH := Hd hr;have hb1H := Hd hb1;have hTw := Hd hT;have hs1H := Hd hs1;have hnk9 : nk <= 900000 := by rw [<- hnk]; exact hrs.2.1
 have hhas := has_rule hr
 have hfindH : Hid (Calls Tryz.prog 97 #[.slice Al nl cl, .slice Ap np cp] w1 fun e w' => ∃ A n c A' c', e = .returned (.tuple #[.agg #[.slice A n c, .slice A' nk c'], .bool true]) /\ Below w1.heap.size w1 w' /\ Ts w' A' nk c' ks) := Hd (hfind.mono (by
  rintro e w' ⟨A, n, c, A', n', c', e1, hb, ht⟩;obtain ⟨t1, t2⟩ := ht r hr;have hl2 : n' = nk := by rw [<- t2.len, hks]; exact hnk
  subst hl2;rw [hhas] at e1;rw [hks] at t2
  exact ⟨A, n, c, A', c', e1, hb, t2⟩))
 clear hn hn0 hX hw hS hl hp hr hk hks hnk hkl hli hlk hS1 hS2 hb1 hk1 hrm hrs hfind hU ekn hhas
 go_enter Tryz.func55, Tryz.ntmps55
 go_wp2_with fail;clear hw1 hT hs1;refine hfindH.out.mono ?_;rintro e w2 ⟨A1, n1, c1, A2, c2, rfl, hb2, ht2⟩;obtain ⟨R, hR⟩ : ∃ R, w2.heap.size = R := ⟨_, rfl⟩;obtain ⟨w3, hw3⟩ : ∃ w3, w2.alloc (.cells #[.slice A1 n1 c1, .slice A2 nk c2] 70) = w3 := ⟨_, rfl⟩;have hb3 : Below w2.heap.size w2 w3 := by rw [<- hw3]; exact (Below.refl _ _).alloc (Nat.le_refl _) _
 have hk3 : w3.heap[R]? = some (.cells #[.slice A1 n1 c1, .slice A2 nk c2] 70) := by rw [<- hw3, <- hR]; exact heap_alloc_new w2 _
 have hb13 : Below w1.heap.size w1 w3 := hb2.trans (hb3.mono hb2.size);have u1 := Xp.cell_blk hk3 (i := 1) rfl;have htk : Hid (∀ x, Below w3.heap.size w3 x -> Ts x A2 nk c2 ks) := Hd fun x hx => (ht2.below hb3).below hx
 have hb13H := Hd hb13;have l1 := ht2.le;have l2 := Rd.max ht2;clear hb2 ht2 hb3 hk3 hb13 hfindH;go_wp2_with fail;clear hw3 hR u1
 go_loopw [10, 27] (fun v i wr => ∃ (k : Nat) (Ao : Option Addr) (co : Nat), k <= nk /\ i = .int .i64 k /\ v = .slice Ao k co /\ Hid (OwX wr w3.heap.size 9 (.slice Ao k co) (key.take k)) /\ Hid (Below w3.heap.size w3 wr)) (fun _ i _ => nk - (intOf i).toNat)
 case atStart => exact ⟨0, none, 0, by omega, rfl, rfl, Hd (OwX.nil _ _ _), Hd (Below.refl _ _)⟩
 case round =>
  obtain ⟨k, Ao, co, hk, rfl, rfl, how, hb⟩ := hrel
  by_cases hlt : k < nk
  ·have i1 : decide ((k : Int) < (nk : Int)) = true := by rw [decide_eq_true_eq]; omega
   have i2 : decide (k < nk) = true := by rw [decide_eq_true_eq]; omega
   have i3 : (k : Int) < (nk : Int) := by omega
   obtain ⟨b, off, q, eA, hbl, hq, sk⟩ := (htk.out wr hb.out).at_ hlt;subst eA;have hbw1 := hb13H.out.trans (hb.out.mono hb13H.out.size);have hT1 := hcell.out wr hbw1;have t0 := Xp.cell_blk hT1 (i := 0) rfl;have t1 := Xp.cell_blk hT1 (i := 1) rfl;have t2 := Xp.cell_blk hT1 (i := 2) rfl;have t3 := Xp.cell_blk hT1 (i := 3) rfl;have t4 := Xp.cell_blk hT1 (i := 4) rfl;have hvc := Hd (hval.out wr q hbw1 (List.mem_of_getElem? hq));obtain ⟨val, hv⟩ : ∃ val, valueR n q = some val := Option.isSome_iff_exists.1 (keyR_some hkH.out q (List.mem_of_getElem? hq));rw [hv] at hvc
   have hkv : Hid (key.take (k + 1) = key.take k ++ [val]) := Hd (by
    have h1 := keyR_take (k := k + 1) hkH.out;rw [take_snoc hq, keyR_snoc, keyR_take (k := k) hkH.out] at h1;simp only [hv, Option.map_some, Option.some.injEq] at h1
    exact h1.symm)
   obtain ⟨QS, hQS⟩ : ∃ S, strOf q = S := ⟨_, rfl⟩;rw [Ky.tv, hQS] at sk;rw [hQS] at hvc;have hkl2 : Hid ((key.take k).length = k) := Hd (by rw [List.length_take, hklH.out]; omega);clear hT1 hq hv hQS hbl hbw1;go_wp2_with fail;refine hvc.out.mono ?_;rintro e w4 ⟨rfl, hb4⟩;have hb4H := Hd (hb.out.trans (hb4.mono hb.out.size));have how4 := how.out.below hb4;have hbl4 := below_alloc w4 (.cells #[.string (strOf val)] 9);have hlit := Hd (Ky.ts_lit w4 (strOf val) val 9 (0, 0) rfl);have how5 := Hd (how4.below hbl4);have hb5 := Hd (hb4H.out.trans (hbl4.mono hb4H.out.size));clear hb4 how4 hbl4 t0 t1 t2 t3 t4 sk hvc
   go_wp2_with (at_builtin; apply stop_here)
   refine Stop.go (Ky.append_ts _ 33 9 Tryz.underlying33 Ky.str_info rfl _ _ rfl w3.heap.size _ (key.take k) rfl how5.out _ 1 1 [val] rfl hlit.out (k + 1) (by rw [hkl2.out]) (by omega) hb5.out.size ?_);intro A8 c8 x8 ho8 hg8 hb8;have hb9 := Hd (hb5.out.trans hb8);have ho9 : Hid (OwX x8 w3.heap.size 9 (.slice A8 (k + 1) c8) (key.take (k + 1))) := Hd (by rw [hkv.out]; exact ho8);clear ho8 hg8 hb8;go_wp2_with fail;go_roundw
   case rel => exact ⟨k + 1, A8, c8, by omega, by go_num, rfl, ho9, hb9⟩
   case measure => simp [intOf]; omega
  ·have i1 : decide ((k : Int) < (nk : Int)) = false := by rw [decide_eq_false_iff_not]; omega
   have i2 : decide (k < nk) = false := by rw [decide_eq_false_iff_not]; omega
   have e1 : k = nk := by omega
   subst e1
   have how2 : Hid (OwX wr w.heap.size 9 (.slice Ao k co) key) := Hd (by
    have h1 := how.out;rw [List.take_of_length_le (by rw [hklH.out]; exact Nat.le_refl _)] at h1
    exact h1.down (by have := hb1H.out.size; have := hb13H.out.size; omega))
   have hbF := Hd (hb1H.out.trans ((hb13H.out.trans (hb.out.mono hb13H.out.size)).mono hb1H.out.size));go_wp2_with fail
   go_ret2
   exact ⟨⟨Ao, co, rfl, how2.out⟩, hbF.out⟩
end Go.Proofs.YtdnfnkicmfkkmaaGreatDoor.No
end

section
namespace Go.Proofs.YtdnfnkicmfkkmaaGreatDoor.Vw
open Go.RowKit UtfW Xl Xt Xo No
open Go.Proofs.YtdnfnkicmfkkmaaGreatDoor (Ky.frontB Ky.Rl)
structure Bk (B b : Nat) (v v' : Value) (w w' : World) : Prop where
 bel : Below B w w'
 keep : ∀ k, k < w.heap.size -> k ≠ b -> v.ownBlock ≠ some k -> w'.heap[k]? = w.heap[k]?
 own : ∀ k, v'.ownBlock = some k -> v.ownBlock = some k \/ w.heap.size <= k
def Apart (b : Nat) (v : Value) (w : World) (k : Nat) : Prop := k < w.heap.size /\ k ≠ b /\ v.ownBlock ≠ some k
section
variable {B b : Nat} {v v' v'' : Value} {w w' w'' : World}
theorem Bk.refl : Bk B b v v w w := ⟨Below.refl _ _, fun _ _ _ _ => rfl, fun _ h => .inl h⟩
theorem Bk.trans (h1 : Bk B b v v' w w') (h2 : Bk B b v' v'' w' w'') : Bk B b v v'' w w'' := by
 refine ⟨h1.bel.trans h2.bel, fun k hk hb hv => ?_, fun k hk => ?_⟩
 ·rw [h2.keep k (Nat.lt_of_lt_of_le hk h1.bel.size) hb (fun e => by rcases h1.own k e with e | e; exact hv e; omega), h1.keep k hk hb hv]
 ·rcases h2.own k hk with e | e
  ·exact h1.own k e
  ·exact .inr (Nat.le_trans h1.bel.size e)
theorem Bk.of_below (h : Below w.heap.size w w') (hb : B <= w.heap.size) : Bk B b v v w w' := ⟨h.mono hb, fun k hk _ _ => h.block k hk, fun _ h => .inl h⟩
theorem Bk.apart (h : Bk B b v v' w w') {k : Nat} (hk : Apart b v w k) : Apart b v' w' k /\ w'.heap[k]? = w.heap[k]? :=
 ⟨⟨Nat.lt_of_lt_of_le hk.1 h.bel.size, hk.2.1, fun e => by rcases h.own k e with e | e; exact hk.2.2 e; have := hk.1; omega⟩, h.keep k hk.1 hk.2.1 hk.2.2⟩
theorem Bk.grown (hg : w.grownBy w' v.ownBlock) (hb : Below B w w') (hv : v'.ownBlock = v.ownBlock \/ v'.ownBlock = some w.heap.size) : Bk B b v v' w w' :=
 ⟨hb, fun k hk _ hne => hg.block k hk (fun e => hne e.symm), fun k hk => by
  rcases hv with e | e
  ·exact .inl (by rw [<- e]; exact hk)
  ·rw [e] at hk;injection hk with hk
   exact .inr (by omega)⟩
theorem Bk.set {i : Nat} {u : Value} (h : B <= b) : Bk B b v v w (w.setCell ⟨b, i, none⟩ u) := ⟨(Below.refl B w).setCell (p := ⟨b, i, none⟩) h _, fun k _ hk _ => set_other hk, fun _ h => .inl h⟩
theorem Bk.setOwn {g i : Nat} {u : Value} (hg : v.ownBlock = some g) (hb : B <= g) : Bk B b v v w (w.setCell ⟨g, i, none⟩ u) := ⟨(Below.refl B w).setCell (p := ⟨g, i, none⟩) hb _, fun k _ _ hk => set_other (fun e => hk (by rw [hg, e])), fun _ h => .inl h⟩
end
section
variable {B b : Nat} {rv v v' : Value} {l l' : List Q} {w w' : World}
theorem Vb.own_apart (h : Vb B b rv v l w) {k : Nat} (hk : w.heap.size <= k) {w' : World} (hk' : k < w'.heap.size) : Apart b v w' k := by
 refine ⟨hk', by have := h.lt; omega, fun e => ?_⟩;have := (h.row_lt k e).2;omega
theorem Vb.put {A' : Option Addr} {n' c' : Nat} (h : Vb B b rv v l w) (hg : w.grownBy w' v.ownBlock) (ho : OwS QEl 6 w' B 41 (.slice A' n' c') l') (hv : (Value.slice A' n' c').ownBlock = v.ownBlock \/ (Value.slice A' n' c').ownBlock = some w.heap.size) :
  Vb B b rv (.slice A' n' c') l' (w'.setCell ⟨b, 1, none⟩ (.slice A' n' c')) := by
 have hb : w'.heap[b]? = some (.cells #[rv, v] 78) := (hg.block b h.lt (fun e => h.ne e.symm)).trans h.blk
 have hne : (Value.slice A' n' c').ownBlock ≠ some b := by
  rcases hv with e | e
  ·rw [e]; exact h.ne
  ·rw [e]; intro e2; injection e2 with e2; have := h.lt; omega
 refine ⟨blk_setCell hb (i := 1) _, OwS.stay ho (fun k hk => set_other fun e => hne (by rw [hk, e])) QEl.to, hne, h.leb⟩
end
theorem info_q : (Tryz.prog.info? 41).map (fun i => (i.zero, i.size, i.bytes)) = some (some (.agg #[.int .i64 0, .string ⟨#[]⟩, .string ⟨#[]⟩, .int .i64 0, .int .i64 0, .string ⟨#[]⟩]), 6, 72) := by kernel_rfl
set_option maxHeartbeats 20000000 in
set_option maxRecDepth 100000 in
theorem vput_any (B b : Nat) (rv v : Value) (out : List Q) (w : World) (kd : Int) (nm tx : Tx) (pa f0 : Int) (ph : Tx) (h : Vb B b rv v out w) (hN : out.length <= 10000000) :
    Calls Tryz.prog 100 #[.pointer (some ⟨b, 0, none⟩), .agg #[.int .i64 kd, .string (strOf nm), .string (strOf tx), .int .i64 pa, .int .i64 f0, .string (strOf ph)]] w fun e w' => e = .returned (.int .i64 (out.length : Nat)) /\ ∃ v', Vb B b rv v' (out ++ [⟨kd, nm, tx, pa, out.length + 1, ph⟩]) w' /\ Bk B b v v' w w' := by
  obtain ⟨A, c, rfl⟩ := h.len;obtain ⟨m, hm⟩ : ∃ m, out.length = m := ⟨_, rfl⟩;rw [hm] at h hN ⊢;obtain ⟨S1, hS1⟩ : ∃ S, strOf nm = S := ⟨_, rfl⟩;obtain ⟨S2, hS2⟩ : ∃ S, strOf tx = S := ⟨_, rfl⟩;obtain ⟨S3, hS3⟩ : ∃ S, strOf ph = S := ⟨_, rfl⟩;rw [hS1, hS2, hS3];obtain ⟨T, hT⟩ : ∃ T, w.heap.size = T := ⟨_, rfl⟩;obtain ⟨w1, hw1⟩ : ∃ w1, w.alloc (.cells #[.int .i64 kd, .string S1, .string S2, .int .i64 pa, .int .i64 f0, .string S3] 41) = w1 := ⟨_, rfl⟩;have hb1 : Below w.heap.size w w1 := by rw [<- hw1]; exact (Below.refl _ _).alloc (Nat.le_refl _) _
  have hk1 : w1.heap[T]? = some (.cells #[.int .i64 kd, .string S1, .string S2, .int .i64 pa, .int .i64 f0, .string S3] 41) := by rw [<- hw1, <- hT]; exact heap_alloc_new w _
  have h1 := h.below hb1;have y1 := Xp.cell_blk h1.blk (i := 1) rfl;have t4 := Xp.cell_blk hk1 (i := 4) rfl;have zf := fun i => frozen_of_row w1 T i _ _ hk1
  have hk2 := blk_setCell hk1 (i := 4) (.int .i64 (m + 1));have hb2 : Below w.heap.size w (w1.setCell ⟨T, 4, none⟩ (.int .i64 (m + 1))) := hb1.setCell (p := ⟨T, 4, none⟩) (by rw [hT]; exact Nat.le_refl _) _;obtain ⟨w2, hw2⟩ : ∃ w2, w1.setCell ⟨T, 4, none⟩ (.int .i64 (m + 1)) = w2 := ⟨_, rfl⟩;rw [hw2] at hk2 hb2;have hk2 : w2.heap[T]? = some (.cells #[.int .i64 kd, .string S1, .string S2, .int .i64 pa, .int .i64 (m + 1), .string S3] 41) := hk2;have h2 := h.below hb2;have z1 := Xp.cell_blk h2.blk (i := 1) rfl;have u0 := Xp.cell_blk hk2 (i := 0) rfl;have u1 := Xp.cell_blk hk2 (i := 1) rfl;have u2 := Xp.cell_blk hk2 (i := 2) rfl;have u3 := Xp.cell_blk hk2 (i := 3) rfl;have u4 := Xp.cell_blk hk2 (i := 4) rfl;have u5 := Xp.cell_blk hk2 (i := 5) rfl;have hT2 : Hid (T < w2.heap.size) := Hd (Array.getElem?_eq_some_iff.1 hk2).1;have hh2 := Hd h2;have hb2H := Hd hb2;have hmH := Hd hm;have hS1H := Hd hS1;have hS2H := Hd hS2;have hS3H := Hd hS3;have hbT : Hid (B <= w.heap.size) := Hd h.leB;have hleb : Hid (B <= b) := Hd h.leb;have hTb : Hid (T ≠ b /\ (Value.slice A m c).ownBlock ≠ some T) := Hd ⟨by have := h.lt; omega, fun e => by have := (h.row_lt T e).2; omega⟩;have hsq := h.own.sq' (by omega);have l1 := hsq.le;have l2 := hsq.max;clear h h1 h2 hk1 hk2 hb1 hb2 hm hS1 hS2 hS3 hsq
  go_enter Tryz.func100, Tryz.ntmps100
  go_wp2_with fail;clear hw1 hw2 hT y1 t4 zf;refine Pl.wp_region_plan 8 (.take 0 (.take 1 (.take 2 (.take 3 (.take 4 (.take 5 (.run 6 (.run 7 .done)))))))) (fun x => x.cell? ⟨b, 1, none⟩ = some (.slice A m c) /\ x.cell? ⟨T, 0, none⟩ = some (.int .i64 kd) /\ x.cell? ⟨T, 1, none⟩ = some (.string S1) /\ x.cell? ⟨T, 2, none⟩ = some (.string S2) /\ x.cell? ⟨T, 3, none⟩ = some (.int .i64 pa) /\ x.cell? ⟨T, 4, none⟩ = some (.int .i64 (m + 1)) /\ x.cell? ⟨T, 5, none⟩ = some (.string S3)) (by kernel_rfl) (by kernel_rfl) (by exact ⟨z1, u0, u1, u2, u3, u4, u5⟩) ?_;simp only [Pl.fill, Al_4, Al_5, Al_6, Al_7]
  iterate 6
    first
    | (refine Pl.take_go ?_ (by rfl) (fun _ _ _ h => h) ?_ ?_
       rotate_left
       · (intro x hSw; (try (dsimp only at hSw)); go_simp; try with_reducible rfl)
       (try simp only [Act.put, Al_1, Al_2, Al_3]))
    | (refine Pl.take_skip (by rfl) (fun _ _ _ h => h) ?_
       (try simp only [Act.put, Al_1, Al_2, Al_3]))
  refine Pl.run_go (fun K hK => ?_);go_simp;have hbl3 : Below w2.heap.size w2 (w2.drew.alloc (.cells #[.int .i64 kd, .string S1, .string S2, .int .i64 pa, .int .i64 (m + 1), .string S3] 41)) := (show Below w2.heap.size w2 w2.drew from Joins.below_draws w2.heap.size w2 1).trans (below_alloc w2.drew _)
  have hz : Hid (Sq QEl 6 (w2.drew.alloc (.cells #[.int .i64 kd, .string S1, .string S2, .int .i64 pa, .int .i64 (m + 1), .string S3] 41)) (some ⟨w2.drew.heap.size, 0, none⟩) 1 1 [(⟨kd, nm, tx, pa, m + 1, ph⟩ : Q)]) := Hd (sq_one (El := QEl) (k := 6) w2.drew [.int .i64 kd, .string S1, .string S2, .int .i64 pa, .int .i64 (m + 1), .string S3] ⟨kd, nm, tx, pa, m + 1, ph⟩ 41 (0, 0) rfl (by
    show ([.int .i64 kd, .string S1, .string S2, .int .i64 pa, .int .i64 (m + 1), .string S3] : List Value) = [.int .i64 kd, .string (strOf nm), .string (strOf tx), .int .i64 pa, .int .i64 ((m + 1 : Nat)), .string (strOf ph)]
    rw [hS1H.out, hS2H.out, hS3H.out]
    rfl))
  have h3 := Hd (hh2.out.below hbl3);have hbl3H := Hd hbl3;have hall : Hid (∀ x, Below w2.heap.size w2 x -> x.cell? ⟨T, 0, none⟩ = some (.int .i64 kd) /\ x.cell? ⟨T, 1, none⟩ = some (.string S1) /\ x.cell? ⟨T, 2, none⟩ = some (.string S2) /\ x.cell? ⟨T, 3, none⟩ = some (.int .i64 pa) /\ x.cell? ⟨T, 4, none⟩ = some (.int .i64 (m + 1)) /\ x.cell? ⟨T, 5, none⟩ = some (.string S3)) := Hd fun x hx => ⟨(hx.cell (p := ⟨T, 0, none⟩) hT2.out).trans u0, (hx.cell (p := ⟨T, 1, none⟩) hT2.out).trans u1, (hx.cell (p := ⟨T, 2, none⟩) hT2.out).trans u2, (hx.cell (p := ⟨T, 3, none⟩) hT2.out).trans u3, (hx.cell (p := ⟨T, 4, none⟩) hT2.out).trans u4, (hx.cell (p := ⟨T, 5, none⟩) hT2.out).trans u5⟩
  have g1 : (w2.drew.alloc (.cells #[.int .i64 kd, .string S1, .string S2, .int .i64 pa, .int .i64 (m + 1), .string S3] 41)).cell? ⟨b, 1, none⟩ = some (.slice A m c) := Xp.cell_blk h3.out.blk (i := 1) rfl;obtain ⟨c0, c1, c2, c3, c4, c5⟩ := hall.out _ hbl3;have hTo : Hid (Apart b (.slice A m c) (w2.drew.alloc (.cells #[.int .i64 kd, .string S1, .string S2, .int .i64 pa, .int .i64 (m + 1), .string S3] 41)) T) := Hd ⟨Nat.lt_of_lt_of_le hT2.out hbl3.size, hTb.out.1, hTb.out.2⟩;clear hbl3;refine hK.out _ _ (Pl.more_go _ (fun _ h => h) (by exact ⟨g1, c0, c1, c2, c3, c4, c5⟩) ?_);clear hK K
  try simp only [Act.put, Al_1, Al_2, Al_3]
  refine Pl.run_list (fun K hK => ?_);refine append_sq (El := QEl) (k := 6) _ 30 41 (.agg #[.int .i64 0, .string ⟨#[]⟩, .string ⟨#[]⟩, .int .i64 0, .int .i64 0, .string ⟨#[]⟩]) 72 Tryz.underlying30 info_q rfl (by omega) rfl _ _ rfl B (.slice A m c) out rfl h3.out.own _ 1 1 [(⟨kd, nm, tx, pa, m + 1, ph⟩ : Q)] rfl hz.out QEl.one (fun _ _ => QEl.to) (m + 1) (by rw [hmH.out]) (by omega) (by omega) h3.out.leB ?_;intro A8 c8 x8 ho hg hb8 hv;have k1 := h3.out.put hg ho hv;have k2 : Bk B b (.slice A m c) (.slice A8 (m + 1) c8) w (x8.setCell ⟨b, 1, none⟩ (.slice A8 (m + 1) c8)) := ((Bk.of_below (hb2H.out.trans (hbl3H.out.mono hb2H.out.size)) hbT.out).trans (Bk.grown hg hb8 hv)).trans (Bk.set hleb.out);have hb9 := (hg.block b h3.out.lt (fun e => h3.out.ne e.symm)).trans h3.out.blk;have g2 := Xp.cell_blk hb9 (i := 1) rfl;have zf := fun i => frozen_of_row x8 b i _ _ hb9
  have hT8 : x8.heap[T]? = _ := hg.block T hTo.out.1 (fun e => hTo.out.2.2 e.symm);have d0 := (World.cell?_of_block (a := ⟨T, 0, none⟩) hT8).trans c0;have d1 := (World.cell?_of_block (a := ⟨T, 1, none⟩) hT8).trans c1;have d2 := (World.cell?_of_block (a := ⟨T, 2, none⟩) hT8).trans c2;have d3 := (World.cell?_of_block (a := ⟨T, 3, none⟩) hT8).trans c3;have d4 := (World.cell?_of_block (a := ⟨T, 4, none⟩) hT8).trans c4;have d5 := (World.cell?_of_block (a := ⟨T, 5, none⟩) hT8).trans c5;have k1H := Hd k1;have k2H := Hd k2;obtain ⟨w9, hw9⟩ : ∃ w9, x8.setCell ⟨b, 1, none⟩ (.slice A8 (m + 1) c8) = w9 := ⟨_, rfl⟩;rw [hw9] at k1H k2H;have e1 := Xp.cell_blk k1H.out.blk (i := 1) rfl;clear ho hg hb8 hv k1 k2 hb9 hT8 h3 hz g1 c0 c1 c2 c3 c4 c5;refine hK.out _ _ (Pl.more_go _ (fun _ h => h) (by exact ⟨g2, d0, d1, d2, d3, d4, d5⟩) ?_);clear hK K
  try simp only [Act.put, Al_1, Al_2, Al_3]
  refine Pl.done_go ?_;clear z1 u0 u1 u2 u3 u4 u5 d0 d1 d2 d3 d4 d5;go_wp2_with fail;go_ret;exact ⟨by simp, _, k1H.out, k2H.out⟩
set_option maxHeartbeats 20000000 in
set_option maxRecDepth 100000 in
theorem vshut_any (B b : Nat) (rv v : Value) (out : List Q) (w : World) (at_ : Nat) (q : Q) (h : Vb B b rv v out w) (hN : out.length <= 10000000) (hq : out[at_]? = some q) :
    Calls Tryz.prog 30 #[.pointer (some ⟨b, 0, none⟩), .int .i64 (at_ : Nat)] w fun e w' => (∃ r, e = .returned r) /\ Vb B b rv v (out.set at_ ⟨q.kind, q.name, q.text, q.parent, out.length, q.path⟩) w' /\ Bk B b v v w w' := by
  obtain ⟨A, c, rfl⟩ := h.len;obtain ⟨m, hm⟩ : ∃ m, out.length = m := ⟨_, rfl⟩;rw [hm] at h hN ⊢;have hat : at_ < m := by rw [<- hm]; exact (List.getElem?_eq_some_iff.1 hq).1
  have hown : OwS QEl 6 w B 41 (.slice A m c) out := h.own;obtain ⟨g, x, vs, eA, hbg, hgl, hx, hvs, hel, hcs, hfr, hset⟩ := hown.elem hat (by omega);subst eA;rw [hq] at hx;injection hx with hx;subst hx;obtain rfl : vs = _ := hel;have y4 : w.cell? ⟨g, at_ * 6 + 4, none⟩ = some (.int .i64 (q.fin : Nat)) := hcs 4 _ rfl;have hgb : b ≠ g := fun e => h.ne (by rw [e]; rfl)
  obtain ⟨k1, k2⟩ := hset 4 (.int .i64 (m : Nat)) ⟨q.kind, q.name, q.text, q.parent, m, q.path⟩ (by omega) (fun _ _ h => h) (fun vs _ h9 => by
    obtain rfl : vs = _ := h9
    rfl)
  have hvb : Vb B b rv (.slice (some ⟨g, 0, none⟩) m c) (out.set at_ ⟨q.kind, q.name, q.text, q.parent, m, q.path⟩) (w.drew.setCell ⟨g, at_ * 6 + 4, none⟩ (.int .i64 (m : Nat))) := ⟨(set_other hgb).trans h.blk, k1, h.ne, h.leb⟩;have hbk : Bk B b (.slice (some ⟨g, 0, none⟩) m c) (.slice (some ⟨g, 0, none⟩) m c) w (w.drew.setCell ⟨g, at_ * 6 + 4, none⟩ (.int .i64 (m : Nat))) := (Bk.of_below (show Below w.heap.size w w.drew from Joins.below_draws w.heap.size w 1) (h.leB)).trans (Bk.setOwn rfl hbg);have y1 := Xp.cell_blk h.blk (i := 1) rfl;have hvbH := Hd hvb;have hbkH := Hd hbk;have hi : (at_ : Int) < (m : Int) := by omega
  have hz := fun i => hfr i
  have hsq := hown.sq' (by omega);have l1 := hsq.le;have l2 := hsq.max;have d1 : w.drew.cell? ⟨b, 1, none⟩ = some (.slice (some ⟨g, 0, none⟩) m c) := y1;have d4 : w.drew.cell? ⟨g, at_ * 6 + 4, none⟩ = some (.int .i64 (q.fin : Nat)) := y4;have hzd : ∀ i, w.drew.frozen? ⟨g, i, none⟩ = false := hfr;clear h hq hown hbg hgl hvs hcs hfr hset k1 k2 hvb hbk hsq hm hgb hz
  go_enter Tryz.func30, Tryz.ntmps30
  go_wp2_with fail;refine Pl.wp_region_plan 10 (.take 0 (.take 1 (.take 2 (.take 3 (.take 4 (.take 5 (.take 6 (.take 7 (.take 8 (.take 9 .done)))))))))) (fun x => x.cell? ⟨b, 1, none⟩ = some (.slice (some ⟨g, 0, none⟩) m c)) (by kernel_rfl) (by kernel_rfl) (by exact y1) ?_;simp only [Pl.fill, Al_4, Al_5, Al_6, Al_7]
  iterate 10
    first
    | (refine Pl.take_go ?_ (by rfl) (fun _ _ _ h => h) ?_ ?_
       rotate_left
       · (intro x hSw; (try (dsimp only at hSw)); go_simp; try with_reducible rfl)
       (try simp only [Act.put, Al_1, Al_2, Al_3]))
    | (refine Pl.take_skip (by rfl) (fun _ _ _ h => h) ?_
       (try simp only [Act.put, Al_1, Al_2, Al_3]))
  refine Pl.done_go ?_;clear y1 y4;go_wp2_with fail
  go_end0
  exact ⟨⟨_, rfl⟩, hvbH.out, hbkH.out⟩
theorem add_txt (w : World) (a b : Tx) (h : a.length + b.length <= 9223372036854775807) : (Op.stringOp .add (strOf a) (strOf b)).run Tryz.prog w = .ok (.string (strOf (a ++ b))) w := by
 have := run_string_add_sum (P := Tryz.prog) w (strOf a) (strOf b) (by rw [strOf_size', strOf_size']; exact h);rw [strOf_add] at this;exact this
set_option maxHeartbeats 20000000 in
set_option maxRecDepth 100000 in
theorem vbelow_any (B b : Nat) (rv v : Value) (out : List Q) (w : World) (pa : Nat) (q : Q) (t : Tx) (h : Vb B b rv v out w) (hq : out[pa]? = some q) (hl : q.path.length + t.length <= 1000000000000) :
  Calls Tryz.prog 57 #[.pointer (some ⟨b, 0, none⟩), .int .i64 (pa : Nat), .string (strOf t)] w fun e w' => e = .returned (.string (strOf ((if pa = 0 then [] else q.path) ++ 47 :: t))) /\ w' = w := by
 obtain ⟨A, c, rfl⟩ := h.len;obtain ⟨m, hm⟩ : ∃ m, out.length = m := ⟨_, rfl⟩;rw [hm] at h;have hat : pa < m := by rw [<- hm]; exact (List.getElem?_eq_some_iff.1 hq).1
 have hown : OwS QEl 6 w B 41 (.slice A m c) out := h.own;obtain ⟨g, x, vs, eA, hbg, hgl, hx, hvs, hel, hcs, hfr, hset⟩ := hown.elem hat (by omega);subst eA;rw [hq] at hx;injection hx with hx;subst hx;obtain rfl : vs = _ := hel;have y5 : w.cell? ⟨g, pa * 6 + 5, none⟩ = some (.string (strOf q.path)) := hcs 5 _ rfl;have y1 := Xp.cell_blk h.blk (i := 1) rfl;have hi : (pa : Int) < (m : Int) := by omega
 have hsq := hown.sq' (by omega);have l1 := hsq.le;have l2 := hsq.max;have a1 := add_txt w [47] t (by simp; omega);have a2 := add_txt w q.path [47] (by simp; omega);have a3 := add_txt w (q.path ++ [47]) t (by simp; omega);rw [show strOf [47] = (⟨#[47]⟩ : ByteArray) from rfl] at a1 a2;obtain ⟨R, hR⟩ : ∃ R, (if pa = 0 then [] else q.path) ++ 47 :: t = R := ⟨_, rfl⟩;rw [hR];have hRH := Hd hR
 by_cases h0 : pa = 0
 ·subst h0;have hr : Hid (strOf ([47] ++ t) = strOf R) := Hd (by rw [<- hR, if_pos rfl]; rfl);obtain ⟨RS, hRS⟩ : ∃ S, strOf ([47] ++ t) = S := ⟨_, rfl⟩;obtain ⟨TS, hTS⟩ : ∃ S, strOf t = S := ⟨_, rfl⟩;rw [hRS] at hr a1;rw [hTS] at a1 ⊢;clear h hq hown hbg hgl hvs hcs hfr hset hsq hm a2 a3 hR hRS hTS
  go_enter Tryz.func57, Tryz.ntmps57
  go_wp2_with fail;go_ret;exact ⟨by rw [hr.out]; rfl, rfl⟩
 ·have hr : Hid (strOf (q.path ++ [47] ++ t) = strOf R) := Hd (by rw [<- hR, if_neg h0, List.append_assoc]; rfl);have e0 : ((pa : Int) == 0) = false := by rw [beq_eq_false_iff_ne]; omega
  obtain ⟨RS, hRS⟩ : ∃ S, strOf (q.path ++ [47] ++ t) = S := ⟨_, rfl⟩;obtain ⟨TS, hTS⟩ : ∃ S, strOf t = S := ⟨_, rfl⟩;obtain ⟨PS, hPS⟩ : ∃ S, strOf q.path = S := ⟨_, rfl⟩;obtain ⟨P2, hP2⟩ : ∃ S, strOf (q.path ++ [47]) = S := ⟨_, rfl⟩;rw [hRS] at hr a3;rw [hTS, hP2] at a3;rw [hTS];rw [hPS, hP2] at a2;rw [hPS] at y5;clear h hq hown hbg hgl hvs hcs hfr hset hsq hm a1 hR hRS hTS hPS hP2 h0
  go_enter Tryz.func57, Tryz.ntmps57
  go_wp2_with fail;go_ret;exact ⟨by rw [hr.out]; rfl, rfl⟩
end Go.Proofs.YtdnfnkicmfkkmaaGreatDoor.Vw
end

section
namespace Go.Proofs.YtdnfnkicmfkkmaaGreatDoor.Vw
open Go.RowKit UtfW Xl Xt Xo No
open Go.Proofs.YtdnfnkicmfkkmaaGreatDoor (Ky.frontB Ky.Rl)
open Go.Proofs.YtdnfnkicmfkkmaaGreatDoor.Ky (Ts OwX tv join)
theorem joinBig_any (A : Option Addr) (n c : Nat) (ts : List Tx) (sep : ByteArray) (w : World) (h : Ts w A n c ts) (hN : n <= 1000000)
  (hlen : (join sep.data.toList ts).length <= 100000000000000) :
  Calls Tryz.prog 102 #[.slice A n c, .string sep] w fun e w' => e = .returned (.string (strOf (join sep.data.toList ts))) /\ Below w.heap.size w w' := by
 have hl := h.len;have hle := Rd.le h
 by_cases h0 : n = 0
 ·subst h0;obtain rfl : ts = [] := List.length_eq_zero_iff.1 hl;refine (Any.strings_Join_none Tryz.lays156 Tryz.extra156 A c sep w).mono ?_;rintro e w' ⟨rfl, rfl⟩;exact ⟨rfl, Below.refl _ _⟩
 ·obtain ⟨b, off, rfl, hb, hc⟩ := Rd.cell h (by omega)
  have e : (ts.map strOf).map (·.data.toList) = ts := by
   rw [List.map_map];have e : ((fun x : ByteArray => x.data.toList) ∘ strOf) = id := funext fun x => rfl
   rw [e, List.map_id]
  have hl' : (ts.map strOf).length = n := by rw [List.length_map]; exact hl
  have h9 := Any.strings_Join Tryz.lays156 Tryz.extra156 b off c (ts.map strOf) sep w (fun j x hx => by
   rw [List.getElem?_map, Option.map_eq_some_iff] at hx;obtain ⟨t, ht, rfl⟩ := hx
   exact hc j _ (by rw [List.getElem?_map, ht]; rfl)) hb (by omega) (by omega) (by rw [e, Ky.join_eq]; omega)
  rw [e, Ky.join_eq, hl'] at h9;exact h9
theorem escV_snoc (s : Tx) (c : UInt8) : escV (s ++ [c]) = escV s ++ esc1 c := by
 unfold escV;rw [List.flatMap_append];simp
theorem escV_len (s : Tx) : (escV s).length <= 2 * s.length := by
 induction s with
 | nil => simp [escV]
 | cons c s ih =>
  unfold escV at ih ⊢;rw [List.flatMap_cons, List.length_append, List.length_cons];have : (esc1 c).length <= 2 := by unfold esc1; split <;> simp
  omega
theorem esc_idx (c : UInt8) : decide (Lib.indexByte [92, 123, 125, 44, 47] c ≥ 0) = decide (c = 92 \/ c = 123 \/ c = 125 \/ c = 44 \/ c = 47) := by
 have h : ∀ n : Fin 256, decide (Lib.indexByte [92, 123, 125, 44, 47] (UInt8.ofNat n.val) ≥ 0) = decide (UInt8.ofNat n.val = 92 \/ UInt8.ofNat n.val = 123 \/ UInt8.ofNat n.val = 125 \/ UInt8.ofNat n.val = 44 \/ UInt8.ofNat n.val = 47) := by decide +kernel
 have h2 := h ⟨c.toNat, c.toNat_lt⟩
 simpa using h2
set_option maxHeartbeats 20000000 in
set_option maxRecDepth 100000 in
theorem vesc_any (s : Tx) (hs : s.length <= 10000000) (w : World) :
  Calls Tryz.prog 101 #[.string (strOf s)] w fun e w' => e = .returned (.string (strOf (escV s))) /\ Below w.heap.size w w' := by
 have hsz : (strOf s).size = s.length := strOf_size' s;obtain ⟨n, hn⟩ : ∃ n, s.length = n := ⟨_, rfl⟩;rw [hn] at hsz hs;have hn' := Hd hn;clear hn
 go_enter Tryz.func101, Tryz.ntmps101
 go_wp2_with fail
 go_loopw [3, 7] (fun v vi wr => ∃ (k m : Nat) (Ao : Option Addr) (co : Nat), k <= n /\ m <= 2 * k /\ vi = .int .i64 (k : Nat) /\ v = .slice Ao m co /\ Hid ((escV (s.take k)).length = m) /\ Hid (OwB wr w.heap.size 5 (.slice Ao m co) (escV (s.take k))) /\ Hid (Below w.heap.size w wr)) (fun _ vi _ => n - (intOf vi).toNat)
 case atStart => exact ⟨0, 0, none, 0, by omega, by omega, rfl, rfl, Hd rfl, Hd (OwB.nil _ _ _), Hd (Below.refl _ _)⟩
 case round =>
  obtain ⟨k, m, Ao, co, hk, hmk, rfl, rfl, hml, how, hb⟩ := hrel
  by_cases hlt : k < n
  ·have i1 : decide ((k : Int) < (n : Int)) = true := by rw [decide_eq_true_eq]; omega
   have i2 : decide (k < n) = true := by rw [decide_eq_true_eq]; omega
   have i3 : (k : Int) < (n : Int) := by omega
   obtain ⟨x, hx⟩ : ∃ x, s[k]? = some x := ⟨_, List.getElem?_eq_getElem (by rw [hn'.out]; exact hlt)⟩;have hlt' : k < (strOf s).size := by omega
   have hgx := str_at hx hlt';have hc9 := x.toNat_lt;have hxH := Hd hx;have hix := Hd (Ky.indexByte_any ⟨#[92, 123, 125, 44, 47]⟩ x wr);rw [show (⟨#[92, 123, 125, 44, 47]⟩ : ByteArray).data.toList = [92, 123, 125, 44, 47] from rfl] at hix;have hie := esc_idx x;obtain ⟨z, hz⟩ : ∃ z, Lib.indexByte [92, 123, 125, 44, 47] x = z := ⟨_, rfl⟩;rw [hz] at hix hie;clear hx hz
   by_cases hsp : x = 92 \/ x = 123 \/ x = 125 \/ x = 44 \/ x = 47
   ·rw [decide_eq_true hsp] at hie;have hnx : Hid (escV (s.take (k + 1)) = escV (s.take k) ++ [92] ++ [x]) := Hd (by rw [take_snoc hxH.out, escV_snoc, esc1, if_pos hsp, List.append_assoc]; rfl);have hie2 : decide (0 <= z) = true := hie;clear hsp;go_wp2_with fail;refine hix.out.mono ?_;rintro e w1 ⟨rfl, rfl⟩
    go_wp2_with (at_builtin; apply stop_here)
    refine Stop.go (append_bytes _ 81 5 Tryz.underlying81 info_u8 rfl _ _ rfl w.heap.size _ (escV (s.take k)) rfl (OwB.below how.out (below_alloc _ _)) _ _ _ [92] rfl (bs_lit _ _ _ _ _ _ rfl (by decide) rfl) (m + 1) (by rw [hml.out]) (by omega) (Nat.le_trans hb.out.size (below_alloc _ _).size) ?_);intro A6 c6 w6 ho6 _ hb6;have ho6H := Hd ho6;have hb6H := Hd (hb.out.trans (((below_alloc w1 _).mono hb.out.size).trans hb6));have hl6 : Hid ((escV (s.take k) ++ [92]).length = m + 1) := Hd (by rw [List.length_append, hml.out]; rfl);clear ho6 hb6
    go_wp2_with (at_builtin; apply stop_here)
    refine Stop.go (append_bytes _ 81 5 Tryz.underlying81 info_u8 rfl _ _ rfl w.heap.size _ (escV (s.take k) ++ [92]) rfl (OwB.below ho6H.out (below_alloc _ _)) _ _ _ [x] rfl (bs_lit _ _ _ _ _ _ rfl (by decide) rfl) (m + 1 + 1) (by rw [hl6.out]) (by omega) (Nat.le_trans hb6H.out.size (below_alloc _ _).size) ?_);intro A7 c7 w7 ho7 _ hb7;have hb7H := Hd (hb6H.out.trans (((below_alloc w6 _).mono hb6H.out.size).trans hb7));have ho7H : Hid (OwB w7 w.heap.size 5 (.slice A7 (m + 1 + 1) c7) (escV (s.take (k + 1)))) := Hd (by rw [hnx.out]; exact ho7);have hl7 : Hid ((escV (s.take (k + 1))).length = m + 1 + 1) := Hd (by rw [hnx.out, List.length_append, hl6.out]; rfl);clear ho7 hb7;go_wp2_with fail;go_roundw
    case rel => exact ⟨k + 1, m + 1 + 1, A7, c7, by omega, by omega, by go_num, rfl, hl7, ho7H, hb7H⟩
    case measure => simp [intOf]; omega
   ·rw [decide_eq_false hsp] at hie;have hnx : Hid (escV (s.take (k + 1)) = escV (s.take k) ++ [x]) := Hd (by rw [take_snoc hxH.out, escV_snoc, esc1, if_neg hsp]);have hie2 : decide (0 <= z) = false := hie;clear hsp;go_wp2_with fail;refine hix.out.mono ?_;rintro e w1 ⟨rfl, rfl⟩
    go_wp2_with (at_builtin; apply stop_here)
    refine Stop.go (append_bytes _ 81 5 Tryz.underlying81 info_u8 rfl _ _ rfl w.heap.size _ (escV (s.take k)) rfl (OwB.below how.out (below_alloc _ _)) _ _ _ [x] rfl (bs_lit _ _ _ _ _ _ rfl (by decide) rfl) (m + 1) (by rw [hml.out]) (by omega) (Nat.le_trans hb.out.size (below_alloc _ _).size) ?_);intro A7 c7 w7 ho7 _ hb7;have hb7H := Hd (hb.out.trans (((below_alloc w1 _).mono hb.out.size).trans hb7));have ho7H : Hid (OwB w7 w.heap.size 5 (.slice A7 (m + 1) c7) (escV (s.take (k + 1)))) := Hd (by rw [hnx.out]; exact ho7);have hl7 : Hid ((escV (s.take (k + 1))).length = m + 1) := Hd (by rw [hnx.out, List.length_append, hml.out]; rfl);clear ho7 hb7;go_wp2_with fail;go_roundw
    case rel => exact ⟨k + 1, m + 1, A7, c7, by omega, by omega, by go_num, rfl, hl7, ho7H, hb7H⟩
    case measure => simp [intOf]; omega
  ·have i1 : decide ((k : Int) < (n : Int)) = false := by rw [decide_eq_false_iff_not]; omega
   have i2 : decide (k < n) = false := by rw [decide_eq_false_iff_not]; omega
   have e1 : k = n := by omega
   subst e1;have how2 : Hid (OwB wr w.heap.size 5 (.slice Ao m co) (escV s)) := Hd (by have h9 := how.out; rwa [List.take_of_length_le (Nat.le_of_eq hn'.out)] at h9);have hcv := Bs.conv (P := Tryz.prog) how2.out.bs Tryz.underlying81 Tryz.underlying5 Tryz.underlying9;go_wp2_with fail;go_ret;exact ⟨rfl, hb.out⟩
set_option maxHeartbeats 20000000 in
set_option maxRecDepth 100000 in
theorem vstep_any (bv_ : Value) (nm : Tx) (key : List Tx) (A : Option Addr) (n c : Nat) (w : World) (h : Ts w A n c key) (hn : n <= 1000000) (hnm : nm.length <= 1000000) (hks : ∀ k ∈ key, k.length <= 10000000) :
  Calls Tryz.prog 58 #[bv_, .string (strOf nm), .slice A n c] w fun e w' => e = .returned (.string (strOf (endS (nm, key)))) /\ Below w.heap.size w w' := by
 have hl := h.len;have l1 := h.le;have l2 := Rd.max h
 by_cases h0 : n = 0
 ·subst h0;have hk : key = [] := List.length_eq_zero_iff.1 hl;have hr : Hid (endS (nm, key) = nm) := Hd (by rw [hk]; rfl);clear h hl hks hk
  go_enter Tryz.func58, Tryz.ntmps58
  go_wp2_with fail;go_ret;exact ⟨by rw [hr.out]; rfl, Below.refl _ _⟩
 ·have hne : key ≠ [] := fun e => h0 (by rw [<- hl, e]; rfl)
  have e0 : ((n : Int) == 0) = false := by rw [beq_eq_false_iff_ne]; omega
  have hx : Hid (∀ x, Below w.heap.size w x -> Ts x A n c key) := Hd fun x hx => h.below hx
  have hlH := Hd hl;have hksH := Hd hks
  have hjl : Hid ((join [44] (key.map escV)).length <= 30000000000000) := Hd (by
   have h1 := Ky.join_len [44] (key.map escV);rw [List.length_map, hl] at h1
   have h2 : Ky.lens (key.map escV) <= key.length * 20000000 := by
    clear h1 hl h hx hlH hne hksH
    induction key with
    | nil => simp [Ky.lens]
    | cons a r ih =>
     have h3 := hks a (by simp);have h4 := escV_len a;have h5 := ih (fun k hk => hks k (by simp [hk]));unfold Ky.lens at h5 ⊢;rw [List.map_cons, List.map_cons, List.sum_cons, List.length_cons, Nat.succ_mul];omega
   rw [hl] at h2;have h3 : n * 20000000 <= 1000000 * 20000000 := Nat.mul_le_mul_right _ hn;have h4 : n * ([44] : Tx).length = n := by simp
   rw [h4] at h1
   omega)
  have hr : Hid (strOf (endS (nm, key)) = strOf (nm ++ [123] ++ join [44] (key.map escV) ++ [125])) := Hd (by
   unfold endS;rw [if_neg hne]
   simp)
  obtain ⟨RS, hRS⟩ : ∃ S, strOf (endS (nm, key)) = S := ⟨_, rfl⟩;rw [hRS] at hr ⊢;obtain ⟨NS, hNS⟩ : ∃ S, strOf nm = S := ⟨_, rfl⟩;rw [hNS];have hNSH := Hd hNS;have hnmH := Hd hnm;clear h hl hks hne hRS hNS hnm h0
  go_enter Tryz.func58, Tryz.ntmps58
  go_wp2_with fail
  go_loopw [7, 16] (fun v vi wr => ∃ (k : Nat) (Ao : Option Addr) (co : Nat), k <= n /\ vi = .int .i64 (k : Nat) /\ v = .slice Ao k co /\ Hid (OwX wr w.heap.size 9 (.slice Ao k co) ((key.take k).map escV)) /\ Hid (Below w.heap.size w wr)) (fun _ vi _ => n - (intOf vi).toNat)
  case atStart => exact ⟨0, none, 0, by omega, rfl, rfl, Hd (OwX.nil _ _ _), Hd (Below.refl _ _)⟩
  case round =>
   obtain ⟨k, Ao, co, hk, rfl, rfl, how, hb⟩ := hrel
   by_cases hlt : k < n
   ·have i1 : decide ((k : Int) < (n : Int)) = true := by rw [decide_eq_true_eq]; omega
    have i2 : decide (k < n) = true := by rw [decide_eq_true_eq]; omega
    have i3 : (k : Int) < (n : Int) := (by omega);obtain ⟨b, off, q, eA, hbl, hq, sk⟩ := (hx.out wr hb.out).at_ hlt;subst eA;have hec := Hd (vesc_any q (hksH.out q (List.mem_of_getElem? hq)) wr);have hkv : Hid ((key.take (k + 1)).map escV = (key.take k).map escV ++ [escV q]) := Hd (by rw [take_snoc hq, List.map_append]; rfl);have hkl2 : Hid (((key.take k).map escV).length = k) := Hd (by rw [List.length_map, List.length_take, hlH.out]; omega);obtain ⟨QS, hQS⟩ : ∃ S, strOf q = S := ⟨_, rfl⟩;rw [Ky.tv, hQS] at sk;rw [hQS] at hec;clear hq hQS hbl;go_wp2_with fail;refine hec.out.mono ?_;rintro e w4 ⟨rfl, hb4⟩;have hb4H := Hd (hb.out.trans (hb4.mono hb.out.size));have how4 := how.out.below hb4;have hbl4 := below_alloc w4 (.cells #[.string (strOf (escV q))] 9);have hlit := Hd (Ky.ts_lit w4 (strOf (escV q)) (escV q) 9 (0, 0) rfl);have how5 := Hd (how4.below hbl4);have hb5 := Hd (hb4H.out.trans (hbl4.mono hb4H.out.size));clear hb4 how4 hbl4 sk hec
    go_wp2_with (at_builtin; apply stop_here)
    refine Stop.go (Ky.append_ts _ 33 9 Tryz.underlying33 Ky.str_info rfl _ _ rfl w.heap.size _ ((key.take k).map escV) rfl how5.out _ 1 1 [escV q] rfl hlit.out (k + 1) (by rw [hkl2.out]) (by omega) hb5.out.size ?_);intro A8 c8 x8 ho8 hg8 hb8;have hb9 := Hd (hb5.out.trans hb8);have ho9 : Hid (OwX x8 w.heap.size 9 (.slice A8 (k + 1) c8) ((key.take (k + 1)).map escV)) := Hd (by rw [hkv.out]; exact ho8);clear ho8 hg8 hb8;go_wp2_with fail;go_roundw
    case rel => exact ⟨k + 1, A8, c8, by omega, by go_num, rfl, ho9, hb9⟩
    case measure => simp [intOf]; omega
   ·have i1 : decide ((k : Int) < (n : Int)) = false := by rw [decide_eq_false_iff_not]; omega
    have i2 : decide (k < n) = false := by rw [decide_eq_false_iff_not]; omega
    have e1 : k = n := (by omega);subst e1;have how2 := how.out;rw [List.take_of_length_le (Nat.le_of_eq hlH.out)] at how2;have hjc := Hd (joinBig_any Ao k co (key.map escV) ⟨#[44]⟩ wr how2.rd hn (by have := hjl.out; show (join [44] (key.map escV)).length <= _; omega));rw [show (⟨#[44]⟩ : ByteArray).data.toList = [44] from rfl] at hjc;obtain ⟨J, hJ⟩ : ∃ J, join [44] (key.map escV) = J := ⟨_, rfl⟩;rw [hJ] at hjc hjl hr;have a1 := fun w => add_txt w nm [123] (by have := hnmH.out; simp; omega)
    have a2 := fun w => add_txt w (nm ++ [123]) J (by have := hnmH.out; have := hjl.out; simp; omega)
    have a3 := fun w => add_txt w (nm ++ [123] ++ J) [125] (by have := hnmH.out; have := hjl.out; simp; omega)
    rw [show strOf [123] = (⟨#[123]⟩ : ByteArray) from rfl] at a1;rw [show strOf [125] = (⟨#[125]⟩ : ByteArray) from rfl] at a3;obtain ⟨T1, hT1⟩ : ∃ S, strOf (nm ++ [123]) = S := ⟨_, rfl⟩;obtain ⟨T2, hT2⟩ : ∃ S, strOf (nm ++ [123] ++ J) = S := ⟨_, rfl⟩;obtain ⟨T3, hT3⟩ : ∃ S, strOf (nm ++ [123] ++ J ++ [125]) = S := ⟨_, rfl⟩;obtain ⟨JS, hJS⟩ : ∃ S, strOf J = S := ⟨_, rfl⟩;rw [hT3] at hr;rw [hNSH.out, hT1] at a1;rw [hT1, hT2, hJS] at a2;rw [hT2, hT3] at a3;rw [hJS] at hjc;clear how2 hJ hT1 hT2 hT3 hJS;go_wp2_with fail;refine hjc.out.mono ?_;rintro e w4 ⟨rfl, hb4⟩;have hb4H := Hd (hb.out.trans (hb4.mono hb.out.size));clear hb4;go_wp2_with fail;go_ret;exact ⟨by rw [hr.out]; rfl, hb4H.out⟩
end Go.Proofs.YtdnfnkicmfkkmaaGreatDoor.Vw
end

section
namespace Go.Proofs.YtdnfnkicmfkkmaaGreatDoor.Vw
open Go.RowKit UtfW Xl Xt Xo No
open Go.Proofs.YtdnfnkicmfkkmaaGreatDoor (Ky.frontB Ky.Rl)
open Go.Proofs.YtdnfnkicmfkkmaaGreatDoor.Ky (Ts OwX tv join)
set_option maxHeartbeats 20000000 in
set_option maxRecDepth 100000 in
theorem rvesc_any (s : Tx) (hs : s.length <= 10000000) (w : World) :
  Calls Tryz.prog 106 #[.string (strOf s)] w fun e w' => e = .returned (.string (strOf (escV s))) /\ Below w.heap.size w w' := by
 have hsz : (strOf s).size = s.length := strOf_size' s;obtain ⟨n, hn⟩ : ∃ n, s.length = n := ⟨_, rfl⟩;rw [hn] at hsz hs;have hn' := Hd hn;clear hn
 go_enter Tryz.func106, Tryz.ntmps106
 go_wp2_with fail
 go_loopw [3, 4] (fun v5 v6 wr => ∃ (i : Nat) (S : ByteArray), i <= n /\ v6 = .int .i64 (i : Nat) /\ v5 = .string S /\ Hid (S = strOf (escV (s.take i))) /\ Hid (Below w.heap.size w wr)) (fun _ v6 _ => n - (intOf v6).toNat)
 case atStart => exact ⟨0, ⟨#[]⟩, by omega, rfl, rfl, Hd rfl, Hd (Below.refl _ _)⟩
 case round =>
  obtain ⟨i, S, hi, rfl, rfl, hS, hb⟩ := hrel
  by_cases hlt : i < n
  ·have i1 : decide ((i : Int) < (n : Int)) = true := by simp; omega
   have q1 : (i : Int) < (n : Int) := by omega
   obtain ⟨x, hx⟩ : ∃ x, s[i]? = some x := ⟨_, List.getElem?_eq_getElem (by rw [hn'.out]; exact hlt)⟩
   have hSz : S.size <= 20000000 := by
    have := escV_len (s.take i);rw [hS.out, strOf_size'];rw [List.length_take] at this;omega
   have hlt' : i < (strOf s).size := by omega
   have hgx := str_at hx hlt';have hc9 := x.toNat_lt;replace hx := Hd hx
   by_cases hxc : x = 92
   ·have q : (x.toNat : Int) = 92 := by rw [hxc]; rfl
    have hp : esc1 x = [92, x] := by rw [hxc]; rfl
    obtain ⟨S1, hS1⟩ : ∃ S1, S ++ ⟨#[92]⟩ = S1 := ⟨_, rfl⟩;obtain ⟨S2, hS2⟩ : ∃ S2, S1 ++ strOf [x] = S2 := ⟨_, rfl⟩;have hS1z : S1.size = S.size + 1 := by rw [<- hS1, ByteArray.size_append]; rfl
    have e1 := fun w => run_string_add_sum (P := Tryz.prog) w S ⟨#[92]⟩ (by rw [show (ByteArray.mk #[92]).size = 1 from rfl]; omega)
    have e2 := fun w => run_string_add_sum (P := Tryz.prog) w S1 (strOf [x]) (by rw [strOf_size', hS1z]; simp only [List.length_cons, List.length_nil]; omega)
    rw [hS1] at e1;rw [hS2] at e2
    have hex : (strOf s).extract i (i + 1) = strOf [x] := by
     rw [Xp.extract_str, Nat.add_sub_cancel_left];have := hx.out;obtain ⟨hl, rfl⟩ := List.getElem?_eq_some_iff.1 this;rw [List.drop_eq_getElem_cons hl];rfl
    have hnext : Hid (S2 = strOf (escV (s.take (i + 1)))) := Hd (by
     rw [<- hS2, <- hS1, hS.out, show (ByteArray.mk #[92]) = strOf [92] from rfl, strOf_add, strOf_add, take_snoc hx.out, escV_snoc, hp, List.append_assoc]
     rfl)
    clear hp hS1 hS2 hxc hS1z;go_wp2_with fail;go_roundw
    case rel => exact ⟨i + 1, _, by omega, by go_num, rfl, hnext, hb⟩
    case measure => simp [intOf]; omega
   have n92 : ¬ x = 92 := hxc;clear hxc
   by_cases hxc : x = 123
   ·have q : (x.toNat : Int) = 123 := by rw [hxc]; rfl
    have hp : esc1 x = [92, x] := by rw [hxc]; rfl
    obtain ⟨S1, hS1⟩ : ∃ S1, S ++ ⟨#[92]⟩ = S1 := ⟨_, rfl⟩;obtain ⟨S2, hS2⟩ : ∃ S2, S1 ++ strOf [x] = S2 := ⟨_, rfl⟩;have hS1z : S1.size = S.size + 1 := by rw [<- hS1, ByteArray.size_append]; rfl
    have e1 := fun w => run_string_add_sum (P := Tryz.prog) w S ⟨#[92]⟩ (by rw [show (ByteArray.mk #[92]).size = 1 from rfl]; omega)
    have e2 := fun w => run_string_add_sum (P := Tryz.prog) w S1 (strOf [x]) (by rw [strOf_size', hS1z]; simp only [List.length_cons, List.length_nil]; omega)
    rw [hS1] at e1;rw [hS2] at e2
    have hex : (strOf s).extract i (i + 1) = strOf [x] := by
     rw [Xp.extract_str, Nat.add_sub_cancel_left];have := hx.out;obtain ⟨hl, rfl⟩ := List.getElem?_eq_some_iff.1 this;rw [List.drop_eq_getElem_cons hl];rfl
    have hnext : Hid (S2 = strOf (escV (s.take (i + 1)))) := Hd (by
     rw [<- hS2, <- hS1, hS.out, show (ByteArray.mk #[92]) = strOf [92] from rfl, strOf_add, strOf_add, take_snoc hx.out, escV_snoc, hp, List.append_assoc]
     rfl)
    clear hp hS1 hS2 hxc hS1z;go_wp2_with fail;go_roundw
    case rel => exact ⟨i + 1, _, by omega, by go_num, rfl, hnext, hb⟩
    case measure => simp [intOf]; omega
   have n123 : ¬ x = 123 := hxc;clear hxc
   by_cases hxc : x = 125
   ·have q : (x.toNat : Int) = 125 := by rw [hxc]; rfl
    have hp : esc1 x = [92, x] := by rw [hxc]; rfl
    obtain ⟨S1, hS1⟩ : ∃ S1, S ++ ⟨#[92]⟩ = S1 := ⟨_, rfl⟩;obtain ⟨S2, hS2⟩ : ∃ S2, S1 ++ strOf [x] = S2 := ⟨_, rfl⟩;have hS1z : S1.size = S.size + 1 := by rw [<- hS1, ByteArray.size_append]; rfl
    have e1 := fun w => run_string_add_sum (P := Tryz.prog) w S ⟨#[92]⟩ (by rw [show (ByteArray.mk #[92]).size = 1 from rfl]; omega)
    have e2 := fun w => run_string_add_sum (P := Tryz.prog) w S1 (strOf [x]) (by rw [strOf_size', hS1z]; simp only [List.length_cons, List.length_nil]; omega)
    rw [hS1] at e1;rw [hS2] at e2
    have hex : (strOf s).extract i (i + 1) = strOf [x] := by
     rw [Xp.extract_str, Nat.add_sub_cancel_left];have := hx.out;obtain ⟨hl, rfl⟩ := List.getElem?_eq_some_iff.1 this;rw [List.drop_eq_getElem_cons hl];rfl
    have hnext : Hid (S2 = strOf (escV (s.take (i + 1)))) := Hd (by
     rw [<- hS2, <- hS1, hS.out, show (ByteArray.mk #[92]) = strOf [92] from rfl, strOf_add, strOf_add, take_snoc hx.out, escV_snoc, hp, List.append_assoc]
     rfl)
    clear hp hS1 hS2 hxc hS1z;go_wp2_with fail;go_roundw
    case rel => exact ⟨i + 1, _, by omega, by go_num, rfl, hnext, hb⟩
    case measure => simp [intOf]; omega
   have n125 : ¬ x = 125 := hxc;clear hxc
   by_cases hxc : x = 44
   ·have q : (x.toNat : Int) = 44 := by rw [hxc]; rfl
    have hp : esc1 x = [92, x] := by rw [hxc]; rfl
    obtain ⟨S1, hS1⟩ : ∃ S1, S ++ ⟨#[92]⟩ = S1 := ⟨_, rfl⟩;obtain ⟨S2, hS2⟩ : ∃ S2, S1 ++ strOf [x] = S2 := ⟨_, rfl⟩;have hS1z : S1.size = S.size + 1 := by rw [<- hS1, ByteArray.size_append]; rfl
    have e1 := fun w => run_string_add_sum (P := Tryz.prog) w S ⟨#[92]⟩ (by rw [show (ByteArray.mk #[92]).size = 1 from rfl]; omega)
    have e2 := fun w => run_string_add_sum (P := Tryz.prog) w S1 (strOf [x]) (by rw [strOf_size', hS1z]; simp only [List.length_cons, List.length_nil]; omega)
    rw [hS1] at e1;rw [hS2] at e2
    have hex : (strOf s).extract i (i + 1) = strOf [x] := by
     rw [Xp.extract_str, Nat.add_sub_cancel_left];have := hx.out;obtain ⟨hl, rfl⟩ := List.getElem?_eq_some_iff.1 this;rw [List.drop_eq_getElem_cons hl];rfl
    have hnext : Hid (S2 = strOf (escV (s.take (i + 1)))) := Hd (by
     rw [<- hS2, <- hS1, hS.out, show (ByteArray.mk #[92]) = strOf [92] from rfl, strOf_add, strOf_add, take_snoc hx.out, escV_snoc, hp, List.append_assoc]
     rfl)
    clear hp hS1 hS2 hxc hS1z;go_wp2_with fail;go_roundw
    case rel => exact ⟨i + 1, _, by omega, by go_num, rfl, hnext, hb⟩
    case measure => simp [intOf]; omega
   have n44 : ¬ x = 44 := hxc;clear hxc
   by_cases hxc : x = 47
   ·have q : (x.toNat : Int) = 47 := by rw [hxc]; rfl
    have hp : esc1 x = [92, x] := by rw [hxc]; rfl
    obtain ⟨S1, hS1⟩ : ∃ S1, S ++ ⟨#[92]⟩ = S1 := ⟨_, rfl⟩;obtain ⟨S2, hS2⟩ : ∃ S2, S1 ++ strOf [x] = S2 := ⟨_, rfl⟩;have hS1z : S1.size = S.size + 1 := by rw [<- hS1, ByteArray.size_append]; rfl
    have e1 := fun w => run_string_add_sum (P := Tryz.prog) w S ⟨#[92]⟩ (by rw [show (ByteArray.mk #[92]).size = 1 from rfl]; omega)
    have e2 := fun w => run_string_add_sum (P := Tryz.prog) w S1 (strOf [x]) (by rw [strOf_size', hS1z]; simp only [List.length_cons, List.length_nil]; omega)
    rw [hS1] at e1;rw [hS2] at e2
    have hex : (strOf s).extract i (i + 1) = strOf [x] := by
     rw [Xp.extract_str, Nat.add_sub_cancel_left];have := hx.out;obtain ⟨hl, rfl⟩ := List.getElem?_eq_some_iff.1 this;rw [List.drop_eq_getElem_cons hl];rfl
    have hnext : Hid (S2 = strOf (escV (s.take (i + 1)))) := Hd (by
     rw [<- hS2, <- hS1, hS.out, show (ByteArray.mk #[92]) = strOf [92] from rfl, strOf_add, strOf_add, take_snoc hx.out, escV_snoc, hp, List.append_assoc]
     rfl)
    clear hp hS1 hS2 hxc hS1z;go_wp2_with fail;go_roundw
    case rel => exact ⟨i + 1, _, by omega, by go_num, rfl, hnext, hb⟩
    case measure => simp [intOf]; omega
   have n47 : ¬ x = 47 := hxc;clear hxc
   have hp : esc1 x = [x] := by
    unfold esc1;rw [if_neg];rintro (h | h | h | h | h)
    ·exact n92 h
    ·exact n123 h
    ·exact n125 h
    ·exact n44 h
    ·exact n47 h
   obtain ⟨S1, hS1⟩ : ∃ S1, S ++ strOf [x] = S1 := ⟨_, rfl⟩;have e1 := fun w => run_string_add_sum (P := Tryz.prog) w S (strOf [x]) (by rw [strOf_size']; simp only [List.length_cons, List.length_nil]; omega)
   rw [hS1] at e1
   have hex : (strOf s).extract i (i + 1) = strOf [x] := by
    rw [Xp.extract_str, Nat.add_sub_cancel_left];have := hx.out;obtain ⟨hl, rfl⟩ := List.getElem?_eq_some_iff.1 this;rw [List.drop_eq_getElem_cons hl];rfl
   have hnext : Hid (S1 = strOf (escV (s.take (i + 1)))) := Hd (by
    rw [<- hS1, hS.out, strOf_add, take_snoc hx.out, escV_snoc, hp])
   have k92 : ((x.toNat : Int) == 92) = false := by
    rw [beq_eq_false_iff_ne];intro e;exact n92 (UInt8.toNat_inj.1 (by rw [show (((92 : UInt8)).toNat) = 92 from rfl]; omega))
   have k123 : ((x.toNat : Int) == 123) = false := by
    rw [beq_eq_false_iff_ne];intro e;exact n123 (UInt8.toNat_inj.1 (by rw [show (((123 : UInt8)).toNat) = 123 from rfl]; omega))
   have k125 : ((x.toNat : Int) == 125) = false := by
    rw [beq_eq_false_iff_ne];intro e;exact n125 (UInt8.toNat_inj.1 (by rw [show (((125 : UInt8)).toNat) = 125 from rfl]; omega))
   have k44 : ((x.toNat : Int) == 44) = false := by
    rw [beq_eq_false_iff_ne];intro e;exact n44 (UInt8.toNat_inj.1 (by rw [show (((44 : UInt8)).toNat) = 44 from rfl]; omega))
   have k47 : ((x.toNat : Int) == 47) = false := by
    rw [beq_eq_false_iff_ne];intro e;exact n47 (UInt8.toNat_inj.1 (by rw [show (((47 : UInt8)).toNat) = 47 from rfl]; omega))
   clear hp hS1 n92 n123 n125 n44 n47;go_wp2_with fail;go_roundw
   case rel => exact ⟨i + 1, _, by omega, by go_num, rfl, hnext, hb⟩
   case measure => simp [intOf]; omega
  ·have hie : i = n := by omega
   subst hie;have i1 : decide ((i : Int) < (i : Int)) = false := by simp
   have hfin : Hid (S = strOf (escV s)) := Hd (by
    have h9 := hS.out
    rwa [List.take_of_length_le (Nat.le_of_eq hn'.out)] at h9)
   clear hS;go_wp2_with fail
   (try simp only [Exit.inBlock, Exit.then])
   go_ret;exact ⟨by rw [hfin.out]; rfl, hb.out⟩
set_option maxHeartbeats 20000000 in
set_option maxRecDepth 100000 in
theorem rend_any (nm : Tx) (key : List Tx) (A : Option Addr) (n c : Nat) (w : World) (h : Ts w A n c key) (hn : n <= 3000) (hnm : nm.length <= 1000000) (hks : ∀ k ∈ key, k.length <= 12000) :
    Calls Tryz.prog 65 #[.agg #[.string (strOf nm), .slice A n c]] w fun e w' => e = .returned (.string (strOf (endS (nm, key)))) /\ Below w.heap.size w w' := by
  have hl := h.len;have l1 := h.le;have l2 := Rd.max h;obtain ⟨NS, hNS⟩ : ∃ S, strOf nm = S := ⟨_, rfl⟩;rw [hNS];obtain ⟨T, hT⟩ : ∃ T, w.heap.size = T := ⟨_, rfl⟩;obtain ⟨w1, hw1⟩ : ∃ w1, w.alloc (.cells #[.string NS, .slice A n c] 100) = w1 := ⟨_, rfl⟩;have hb1 : Below w.heap.size w w1 := by rw [<- hw1]; exact below_alloc w _
  have hk1 : w1.heap[T]? = some (.cells #[.string NS, .slice A n c] 100) := by rw [<- hw1, <- hT]; exact heap_alloc_new w _
  have hcl : Hid (∀ x, Below w1.heap.size w1 x -> (x.cell? ⟨T, 0, none⟩ = some (.string NS) /\ x.cell? ⟨T, 1, none⟩ = some (.slice A n c)) /\ Ts x A n c key) := Hd fun x hx => by
    have g := (hx.block T (Array.getElem?_eq_some_iff.1 hk1).1).trans hk1;exact ⟨⟨Xp.cell_blk g (i := 0) rfl, Xp.cell_blk g (i := 1) rfl⟩, h.below (hb1.trans (hx.mono hb1.size))⟩
  have y0 := Xp.cell_blk hk1 (i := 0) rfl;have y1 := Xp.cell_blk hk1 (i := 1) rfl;have hb1H := Hd hb1;have hlH := Hd hl;have hksH := Hd hks;have hNSH := Hd hNS;have hnmH := Hd hnm
  by_cases h0 : n = 0
  · subst h0
    have hk : key = [] := List.length_eq_zero_iff.1 hl;have hr : Hid (strOf (endS (nm, key)) = NS) := Hd (by rw [hk]; exact hNS);clear h hl hks hk hb1 hk1 hNS hnm
    go_enter Tryz.func65, Tryz.ntmps65
    go_wp2_with fail;go_ret;exact ⟨by rw [hr.out]; rfl, hb1H.out⟩
  · have hne : key ≠ [] := fun e => h0 (by rw [<- hl, e]; rfl)
    have e0 : ((n : Int) == 0) = false := by rw [beq_eq_false_iff_ne]; omega
    have hjn : Hid (Ky.lens (key.map escV) <= 100000000) := Hd (by
      have h2 : Ky.lens (key.map escV) <= key.length * 24000 := by
        clear hl h hlH hne hksH hcl e0 h0
        induction key with
        | nil => simp [Ky.lens]
        | cons a r ih =>
          have h3 := hks a (by simp);have h4 := escV_len a;have h5 := ih (fun k hk => hks k (by simp [hk]));unfold Ky.lens at h5 ⊢;rw [List.map_cons, List.map_cons, List.sum_cons, List.length_cons, Nat.succ_mul];omega
      rw [hl] at h2;have h3 : n * 24000 <= 3000 * 24000 := Nat.mul_le_mul_right _ hn
      omega)
    have hjl : Hid ((join [44] (key.map escV)).length <= 80000000) := Hd (by
      have h1 := Ky.join_len [44] (key.map escV);rw [List.length_map, hl] at h1
      have h2 : Ky.lens (key.map escV) <= key.length * 24000 := by
        clear h1 hl h hlH hne hksH hcl e0 h0 hjn
        induction key with
        | nil => simp [Ky.lens]
        | cons a r ih =>
          have h3 := hks a (by simp);have h4 := escV_len a;have h5 := ih (fun k hk => hks k (by simp [hk]));unfold Ky.lens at h5 ⊢;rw [List.map_cons, List.map_cons, List.sum_cons, List.length_cons, Nat.succ_mul];omega
      rw [hl] at h2;have h3 : n * 24000 <= 3000 * 24000 := Nat.mul_le_mul_right _ hn;have h4 : n * ([44] : Tx).length = n := (by simp);rw [h4] at h1
      omega)
    have hr : Hid (strOf (endS (nm, key)) = strOf (nm ++ [123] ++ join [44] (key.map escV) ++ [125])) := Hd (by
      unfold endS;rw [if_neg hne]
      simp)
    obtain ⟨RS, hRS⟩ : ∃ S, strOf (endS (nm, key)) = S := ⟨_, rfl⟩;rw [hRS] at hr ⊢;clear h hl hks hne hRS hNS hnm h0 hb1 hk1
    go_enter Tryz.func65, Tryz.ntmps65
    go_wp2_with fail;clear hw1 hT y0 y1
    go_loopw [3, 4] (fun v vi wr => ∃ (k : Nat) (Ao : Option Addr) (co : Nat), k <= n /\ vi = .int .i64 (k : Nat) /\ v = .slice Ao k co /\ Hid (OwX wr w1.heap.size 9 (.slice Ao k co) ((key.take k).map escV)) /\ Hid (Below w1.heap.size w1 wr)) (fun _ vi _ => n - (intOf vi).toNat)
    case atStart => exact ⟨0, none, 0, by omega, rfl, rfl, Hd (OwX.nil _ _ _), Hd (Below.refl _ _)⟩
    case round =>
      obtain ⟨k, Ao, co, hk, rfl, rfl, how, hb⟩ := hrel;obtain ⟨⟨y0, y1⟩, hts⟩ := hcl.out wr hb.out
      by_cases hlt : k < n
      · have i1 : decide ((k : Int) < (n : Int)) = true := by rw [decide_eq_true_eq]; omega
        have i2 : decide (k < n) = true := by rw [decide_eq_true_eq]; omega
        have i3 : (k : Int) < (n : Int) := (by omega);obtain ⟨b, off, q, eA, hbl, hq, sk⟩ := hts.at_ hlt;subst eA;have hec := Hd (rvesc_any q (Nat.le_trans (hksH.out q (List.mem_of_getElem? hq)) (by omega)) wr);have hkv : Hid ((key.take (k + 1)).map escV = (key.take k).map escV ++ [escV q]) := Hd (by rw [take_snoc hq, List.map_append]; rfl);have hkl2 : Hid (((key.take k).map escV).length = k) := Hd (by rw [List.length_map, List.length_take, hlH.out]; omega);obtain ⟨QS, hQS⟩ : ∃ S, strOf q = S := ⟨_, rfl⟩;rw [Ky.tv, hQS] at sk;rw [hQS] at hec;clear hq hQS hbl hts;go_wp2_with fail;refine hec.out.mono ?_;rintro e w4 ⟨rfl, hb4⟩;have hb4H := Hd (hb.out.trans (hb4.mono hb.out.size));have how4 := how.out.below hb4;have hbl4 := below_alloc w4 (.cells #[.string (strOf (escV q))] 9);have hlit := Hd (Ky.ts_lit w4 (strOf (escV q)) (escV q) 9 (0, 0) rfl);have how5 := Hd (how4.below hbl4);have hb5 := Hd (hb4H.out.trans (hbl4.mono hb4H.out.size));clear hb4 how4 hbl4 sk hec y0 y1
        go_wp2_with (at_builtin; apply stop_here)
        refine Stop.go (Ky.append_ts _ 33 9 Tryz.underlying33 Ky.str_info rfl _ _ rfl w1.heap.size _ ((key.take k).map escV) rfl how5.out _ 1 1 [escV q] rfl hlit.out (k + 1) (by rw [hkl2.out]) (by omega) hb5.out.size ?_);intro A8 c8 x8 ho8 hg8 hb8;have hb9 := Hd (hb5.out.trans hb8);have ho9 : Hid (OwX x8 w1.heap.size 9 (.slice A8 (k + 1) c8) ((key.take (k + 1)).map escV)) := Hd (by rw [hkv.out]; exact ho8);clear ho8 hg8 hb8;go_wp2_with fail;go_roundw
        case rel => exact ⟨k + 1, A8, c8, by omega, by go_num, rfl, ho9, hb9⟩
        case measure => simp [intOf]; omega
      · have i1 : decide ((k : Int) < (n : Int)) = false := by rw [decide_eq_false_iff_not]; omega
        have i2 : decide (k < n) = false := by rw [decide_eq_false_iff_not]; omega
        have e1 : k = n := (by omega);subst e1;have how2 := how.out;rw [List.take_of_length_le (Nat.le_of_eq hlH.out)] at how2;have hjc := Ky.refJoin_any Ao k co (key.map escV) [44] wr.drew (how2.rd.below (Joins.below_draws wr.heap.size wr 1)) (by omega) (by simp) hjn.out;rw [show strOf [44] = (⟨#[44]⟩ : ByteArray) from rfl] at hjc;obtain ⟨J, hJ⟩ : ∃ J, join [44] (key.map escV) = J := ⟨_, rfl⟩;rw [hJ] at hjc hjl hr;have a1 := fun w => add_txt w nm [123] (by have := hnmH.out; simp; omega)
        have a2 := fun w => add_txt w (nm ++ [123]) J (by have := hnmH.out; have := hjl.out; simp; omega)
        have a3 := fun w => add_txt w (nm ++ [123] ++ J) [125] (by have := hnmH.out; have := hjl.out; simp; omega)
        rw [show strOf [123] = (⟨#[123]⟩ : ByteArray) from rfl] at a1;rw [show strOf [125] = (⟨#[125]⟩ : ByteArray) from rfl] at a3;obtain ⟨T1, hT1⟩ : ∃ S, strOf (nm ++ [123]) = S := ⟨_, rfl⟩;obtain ⟨T2, hT2⟩ : ∃ S, strOf (nm ++ [123] ++ J) = S := ⟨_, rfl⟩;obtain ⟨T3, hT3⟩ : ∃ S, strOf (nm ++ [123] ++ J ++ [125]) = S := ⟨_, rfl⟩;obtain ⟨JS, hJS⟩ : ∃ S, strOf J = S := ⟨_, rfl⟩;rw [hT3] at hr;rw [hNSH.out, hT1] at a1;rw [hT1, hT2, hJS] at a2;rw [hT2, hT3] at a3;rw [hJS] at hjc;clear how2 hJ hT1 hT2 hT3 hJS hts;go_wp2_with fail;refine Pl.wp_region_plan 5 (.take 0 (.take 1 (.take 2 (.take 3 (.run 4 .done))))) (fun x => x.cell? ⟨T, 0, none⟩ = some (.string NS)) (by kernel_rfl) (by kernel_rfl) (by exact y0) ?_;simp only [Pl.fill, Al_4, Al_5, Al_6, Al_7]
        iterate 4
          first
          | (refine Pl.take_go ?_ (by rfl) (fun _ _ _ h => h) ?_ ?_
             rotate_left
             · (intro x hSw; (try (dsimp only at hSw)); go_simp; try with_reducible rfl)
             (try simp only [Act.put, Al_1, Al_2, Al_3]))
          | (refine Pl.take_skip (by rfl) (fun _ _ _ h => h) ?_
             (try simp only [Act.put, Al_1, Al_2, Al_3]))
        refine Pl.run_go (fun K hK => ?_);go_simp;refine hjc.mono ?_;rintro e w4 ⟨rfl, hw4⟩;have hb4x : Below wr.heap.size wr w4 := by rw [hw4]; exact Joins.below_draws wr.heap.size wr 1
        have hb4H := Hd (hb.out.trans (hb4x.mono hb.out.size));have z0 := (hcl.out w4 hb4H.out).1.1;clear hw4 hb4x;refine hK.out _ _ (Pl.more_go _ (fun _ h => h) (by exact z0) ?_);clear hK K
        try simp only [Act.put, Al_1, Al_2, Al_3]
        refine Pl.done_go ?_;clear y0 y1 z0;go_wp2_with fail;go_ret;exact ⟨by rw [hr.out]; rfl, hb1H.out.trans (hb4H.out.mono hb1H.out.size)⟩
end Go.Proofs.YtdnfnkicmfkkmaaGreatDoor.Vw
end

section
namespace Go.Proofs
open Go.Shelf Go.RowKit
shelf_lay LaysM.n171 Nm 171 at Tryz as Tryz.lays171
end Go.Proofs
namespace Go.Proofs.YtdnfnkicmfkkmaaGreatDoor.Nu
open Go.RowKit Go.Shelf
def Tens (w : World) : Prop := Lib.TabBelow Tryz.prog w.heap.size w "internal/strconv.uint64pow10" .u64 Lib.pow10Tab
theorem Tens.below {w w' : World} (h : Tens w) (hb : Below w.heap.size w w') : Tens w' := fun w'' h' => h w'' (hb.trans (h'.mono hb.size))
theorem Tens.of_tab {w : World} (h : Lib.TabIs Tryz.prog w "internal/strconv.uint64pow10" .u64 Lib.pow10Tab) : Tens w := Lib.tabBelow_of_tabIs h
theorem strconv_Itoa (n : Int) (h0 : -9223372036854775808 <= n) (h1 : n <= 9223372036854775807) (w : World) (htab : Tens w) :
  Calls Tryz.prog 104 #[.int .i64 n] w fun e w' => e = .returned (.string (strOf (Lib.itoa n))) /\ Below w.heap.size w w' := by
 refine (Any.strconv_Itoa Tryz.lays171 n h0 h1 w htab.here).mono ?_;rintro e w' ⟨rfl, k, os, rfl⟩;exact ⟨rfl, Lib.below_grow _ _ (Nat.le_refl _) _ _⟩
end Go.Proofs.YtdnfnkicmfkkmaaGreatDoor.Nu
end
