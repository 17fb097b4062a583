/- ivset.put. -/
import Derived.Test.YtppmnelgekhbnaaGreatDoorIvWalk
import Derived.Deep.QuietTactic
import Derived.BigQuiet
import Derived.BigRegion
import Derived.Lib.SmallJoins
import Derived.WalkLawsBesides
namespace Go.Proofs.YtppmnelgekhbnaaGreatDoor.Iv
/-- A span comes behind others, or goes on with the last of them. -/
def putL (l : List Span) (p : Span) : List Span := (putR l.reverse p).reverse
theorem putL_nil (p : Span) : putL [] p = [p] := rfl
theorem putL_snoc (l : List Span) (q p : Span) : putL (l ++ [q]) p = if p.1 ≤ q.2 + 1 then l ++ [(q.1, max q.2 p.2)] else l ++ [q] ++ [p] := by
  unfold putL
  rw [List.reverse_append, List.reverse_singleton]
  show (if p.1 ≤ q.2 + 1 then (q.1, max q.2 p.2) :: l.reverse else p :: q :: l.reverse).reverse = _
  split <;> simp
theorem putL_last {l : List Span} {q p : Span} {k : Nat} (hl : l.length = k + 1) (h : l[k]? = some q) : putL l p = if p.1 ≤ q.2 + 1 then l.set k (q.1, max q.2 p.2) else l ++ [p] := by
  have e : l = l.take k ++ [q] := by
    have := List.take_append_drop k l
    rw [List.drop_eq_getElem_cons (by omega), List.drop_eq_nil_of_le (by omega)] at this
    rw [List.getElem?_eq_getElem (by omega)] at h
    injection h with h
    rw [h] at this
    exact this.symm
  have hk : (l.take k).length = k := by rw [List.length_take]; omega
  generalize l.take k = i at *
  subst e
  rw [putL_snoc]
  split
  · rw [← hk]; simp
  · rfl
theorem putL_len {l : List Span} (p : Span) : (putL l p).length ≤ l.length + 1 := by
  unfold putL
  rw [List.length_reverse]
  have e : l.reverse.length = l.length := List.length_reverse
  rw [← e]
  generalize l.reverse = r
  cases r with
  | nil => simp [putR]
  | cons q r =>
    show (if p.1 ≤ q.2 + 1 then (q.1, max q.2 p.2) :: r else p :: q :: r).length ≤ _
    split <;> simp
theorem putL_foldl (l s : List Span) : (l.foldl putR s.reverse).reverse = l.foldl putL s := by
  induction l generalizing s with
  | nil => simp
  | cons p l ih =>
    rw [List.foldl_cons, List.foldl_cons, ← ih]
    unfold putL
    rw [List.reverse_reverse]
end Go.Proofs.YtppmnelgekhbnaaGreatDoor.Iv
namespace Go.Proofs.YtppmnelgekhbnaaGreatDoor.IvW
open Go.RowKit Iv

theorem info_span : (Tryz.prog.info? 41).map (fun i => (i.zero, i.size, i.bytes)) = some (some (.agg #[.int .i64 0, .int .i64 0]), 2, 16) := by kernel_rfl

set_option maxHeartbeats 1000000 in
set_option maxRecDepth 100000 in
theorem put_any (A : Option Addr) (n c : Nat) (l : List Span) (f t : Int) (B : Nat) (w : World) (hB : B ≤ w.heap.size) (hO : OwP w B 41 (.slice A n c) l) (hn : n ≤ 1000000) (hq : ∀ q ∈ l, 1 ≤ q.2 ∧ q.2 ≤ 200) :
    Calls Tryz.prog 38 #[.slice A n c, .agg #[.int .i64 f, .int .i64 t]] w fun e w' => ∃ A' c', e = .returned (.slice A' (putL l (f, t)).length c') ∧ OwP w' B 41 (.slice A' (putL l (f, t)).length c') (putL l (f, t)) ∧ Below B w w' := by
  have hlen := hO.len
  have hb0 := below_alloc w (.cells #[.int .i64 f, .int .i64 t] 41)
  have hO0 := hO.below hb0
  have hle := hO.rp.le
  have hB0 : B ≤ (w.alloc (.cells #[.int .i64 f, .int .i64 t] 41)).heap.size := Nat.le_trans hB hb0.size
  have hx0 : Below B w (w.alloc (.cells #[.int .i64 f, .int .i64 t] 41)) := hb0.mono hB
  obtain ⟨k0, k1⟩ := box2 w f t 41
  obtain ⟨w0, hw0⟩ : ∃ w0, w.alloc (.cells #[.int .i64 f, .int .i64 t] 41) = w0 := ⟨_, rfl⟩
  rw [hw0] at hO0 hB0 hx0 k0 k1
  have hx0' := Lib.hid hx0
  have hB0' := Lib.hid hB0
  have hO0' := Lib.hid hO0
  clear hO hb0 hx0 hB0 hO0
  cases n with
  | zero =>
    have e0 : l = [] := List.eq_nil_of_length_eq_zero hlen
    subst e0
    rw [putL_nil]
    go_enter Tryz.func38, Tryz.ntmps38
    go_wp2_with fail
    go_big_quiet (fail)
    go_wp2_with (at_builtin; apply stop_here)
    have hx1 := Lib.hid (hx0'.out.trans ((Joins.below_draws _ _ nq).mono hB0'.out))
    have hO1 := Lib.hid (hO0'.out.below (Joins.below_draws _ w0 nq))
    have hB1 : B ≤ (w0.drewN nq).heap.size := hB0'.out
    refine Stop.go (append_spans _ 22 41 _ Tryz.underlying22 info_span rfl rfl _ _ rfl B _ [] rfl (hO1.out.below (below_alloc _ _)) _ _ _ [(f, t)] rfl (rp_lit (w0.drewN nq) #[.int .i64 f, .int .i64 t] _ _ [(f, t)] 1 rfl (by omega) rfl) 1 rfl (by omega) (by have := hB0'.out; simp; omega) ?_)
    intro A2 c2 w2 ho2 hb2
    have hx2 := Lib.hid (hx1.out.trans (((below_alloc (w0.drewN nq) _).mono hB1).trans hb2))
    go_wp2_with fail
    go_ret
    exact ⟨A2, c2, rfl, ho2, hx2.out⟩
  | succ k =>
    obtain ⟨g, q, e, hBg, hg, hk, hc0, hc1, hfz, hst⟩ := hO0'.out.at_ (show k < k + 1 by omega)
    subst e
    obtain ⟨qf, qt⟩ := q
    obtain ⟨q1, q2⟩ := hq _ (List.mem_of_getElem? hk)
    simp only at hc0 hc1 hst q1 q2
    rw [putL_last hlen hk]
    by_cases hft : f ≤ qt + 1
    · rw [if_pos hft, List.length_set, hlen]
      have t1 : decide (f ≤ qt + 1) = true := by simpa using hft
      go_enter Tryz.func38, Tryz.ntmps38
      go_wp2_with (fail)
      go_big_quiet (fail)
      go_wp2_with (fail)
      go_region
      go_wp2_with fail
      · go_ret
        have hO1 := hO0'.out.below (Joins.below_draws _ w0 (nq + 1))
        have hst1 := hO1.stored hk t
        have hm : max qt t = t := by omega
        rw [hm]
        exact ⟨some ⟨g, 0, none⟩, c, rfl, hst1, (hx0'.out.trans ((Joins.below_draws _ _ _).mono hB0'.out)).setCell (p := ⟨g, k * 2 + 1, none⟩) hBg _⟩
      · go_ret
        have hO1 := hO0'.out.below (Joins.below_draws _ w0 (nq + 1))
        have hst1 := hO1.stored hk qt
        have hm : max qt t = qt := by omega
        rw [hm]
        exact ⟨some ⟨g, 0, none⟩, c, rfl, hst1, (hx0'.out.trans ((Joins.below_draws _ _ _).mono hB0'.out)).setCell (p := ⟨g, k * 2 + 1, none⟩) hBg _⟩
    · rw [if_neg hft]
      have t1 : decide (f ≤ qt + 1) = false := by simpa using hft
      go_enter Tryz.func38, Tryz.ntmps38
      go_wp2_with (fail)
      go_big_quiet (fail)
      go_wp2_with (at_builtin; apply stop_here)
      have hx1 := Lib.hid (hx0'.out.trans ((Joins.below_draws _ _ nq).mono hB0'.out))
      have hO1 := Lib.hid (hO0'.out.below (Joins.below_draws _ w0 nq))
      have hB1 : B ≤ (w0.drewN nq).heap.size := hB0'.out
      refine Stop.go (append_spans _ 22 41 _ Tryz.underlying22 info_span rfl rfl _ _ rfl B _ l rfl (hO1.out.below (below_alloc _ _)) _ _ _ [(f, t)] rfl (rp_lit (w0.drewN nq) #[.int .i64 f, .int .i64 t] _ _ [(f, t)] 1 rfl (by omega) rfl) (k + 2) (by omega) (by omega) (by have := hB0'.out; simp; omega) ?_)
      intro A2 c2 w2 ho2 hb2
      have hx2 := Lib.hid (hx1.out.trans (((below_alloc (w0.drewN nq) _).mono hB1).trans hb2))
      have hl2 : (l ++ [(f, t)]).length = k + 2 := by simp; omega
      go_wp2_with fail
      go_ret
      rw [hl2]
      exact ⟨A2, c2, rfl, ho2, hx2.out⟩
end Go.Proofs.YtppmnelgekhbnaaGreatDoor.IvW
