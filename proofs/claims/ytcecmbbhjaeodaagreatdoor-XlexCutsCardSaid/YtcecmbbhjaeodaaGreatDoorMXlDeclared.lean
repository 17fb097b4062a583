/- declared. Printed by xl_declared.py. -/
import Derived.Test.YtcecmbbhjaeodaaGreatDoorMXlLine
import Derived.Test.YtcecmbbhjaeodaaGreatDoorMUtfE
import Derived.Lib.AppendStr
import Derived.Test.YtcecmbbhjaeodaaGreatDoorMXlNumber
import Derived.Test.YtcecmbbhjaeodaaGreatDoorMXlShelf
import Derived.Shelf.Strings.CaseAny
section
namespace Go.Proofs.YtcecmbbhjaeodaaGreatDoor.Xl
open Go.RowKit UtfW

theorem Xc.far {w wr w' : World} {b : Nat} {S : Tx} {k q : Nat} {A : Option Addr} {c : Nat} {vo vo' : Value} (h : Xc w b S k A c vo) (hg : w.grownBy wr (some b)) (hr : Xc wr b S q A c vo') (hb : Below w.heap.size wr w') : Xc w' b S q A c vo' ∧ w.grownBy w' (some b) := by
  have h2 : w.grownBy w' (some b) := ⟨hb.os.trans hg.os, hb.tape.trans hg.tape, hb.output.trans hg.output, Nat.le_trans hg.size hb.size, fun j hj hne => (hb.block j hj).trans (hg.block j hj hne)⟩
  exact ⟨h.on h2 ((hb.block b h.lt).trans hr.blk), h2⟩
theorem ow_kept {w w' : World} {B E b : Nat} {v : Value} {l : Tx} (h : OwB w B E v l) (hg : w.grownBy w' (some b)) (hb : b < B) : OwB w' B E v l :=
  World.ownsRow.kept h hg (by
    cases hv : v.ownBlock with
    | none => exact .inl rfl
    | some j =>
      right
      have := (OwB.lt h j hv).1
      intro e
      injection e with e
      omega)
theorem byte_eq (x y : UInt8) : ((x.toNat : Int) == (y.toNat : Int)) = decide (x = y) := by
  rw [Bool.eq_iff_iff, beq_iff_eq, decide_eq_true_eq]
  exact ⟨fun h => UInt8.toNat_inj.1 (by omega), fun h => by rw [h]⟩
theorem info_u8 : (Tryz.prog.info? 5).map (fun i => (i.zero, i.size, i.bytes)) = some (some (.int .u8 0), 1, 1) := by kernel_rfl
/-- 'append(x, s...)' of a string. -/
theorem append_string {ops : Array Oper} {rest : List Oper} {o : Oper} {a : Act} {Q : Exit → Act → World → Prop} (w : World) (hgd : o.guard = none) (s x : Operand)
    (ho : o.op = .call { callee := .builtin .append, args := #[s, x], argTypes := #[22, 9] })
    (B : Nat) (v : Value) (la : Tx) (hs : a.eval s = v) (hown : OwB w B 5 v la) (lb : Tx) (hx : a.eval x = .string (strOf lb))
    (hsz : la.length + lb.length ≤ 140737488355328) (hB : B ≤ w.heap.size)
    (h : ∀ v' w', OwB w' B 5 v' (la ++ lb) → Below B w w' → wpList Tryz.prog ops Q rest (a.put o.dst v') w') :
    wpList Tryz.prog ops Q (o :: rest) a w := by
  have hsl : (strOf lb).size = lb.length := strOf_size' lb
  obtain ⟨i, hi, hz, hs1, hb1⟩ := info_parts info_u8
  refine Lib.wpList_append_own_string w hgd s x 22 9 ho B 5 i Tryz.underlying22 Tryz.underlying9 hi hz hs1 hb1 v la.length (bv la) hs hown (strOf lb) hx (by unfold maxLen; omega) (by omega) hB ?_
  intro v' w' h1 h2 _
  refine h v' w' ?_ (below_of_grown hown hB h2)
  unfold OwB
  rw [bv_append, List.length_append, ← hsl]
  have e : Lib.strCells (strOf lb) = bv lb := by
    unfold Lib.strCells bv strOf
    simp
  rw [← e]
  exact h1

theorem pan_eq {c : Int} {x y : Nat} (h : x = y) : Ending.panicked [wr c (x : Nat)] = Ending.panicked [wr c (y : Nat)] := by rw [h]
theorem encB_le (v : Nat) : (encB (v : Nat)).length ≤ 4 := by
  cases h : isRune (v : Nat) with
  | true => exact (encB_pos h).2.1
  | false => rw [encB_none h]; simp
theorem refR_v {t v : Tx} {n : Nat} (h : refR t = .ok v n) : v.length ≤ 4 := by
  unfold refR at h
  split at h
  · cases h
  · split at h
    · cases h
    · injection h with h1 h2
      rw [← h1]
      exact encB_le _
section
variable (w : World) (b : Nat) (S : Tx) (k : Nat) (A : Option Addr) (c : Nat) (vo : Value)
set_option maxHeartbeats 2000000 in
set_option maxRecDepth 100000 in
theorem value_any (h : Xc w b S k A c vo) (hk : k ≤ S.length) (hS : S.length ≤ 65536) :
    Calls Tryz.prog 116 #[.pointer (some ⟨b, 0, none⟩)] w fun e w' => Gives w b S k A c vo (fun v => .string (strOf v)) (value (S.drop k)) e w' := by
  have hbw : b < w.heap.size := h.lt
  have h' := Lib.hid h
  clear h
  by_cases hend : S.length ≤ k
  · go_enter Tryz.func116, Tryz.ntmps116
    go_wp2_with fail
    refine (need_bad w b S k A c vo h'.out hend).mono ?_
    rintro e w1 ⟨rfl, hb1⟩
    go_wp2_with fail
    refine ⟨rfl, grown_in hb1, ?_⟩
    rw [drop_end hend]
    have e : S.length = k + 0 := by omega
    rw [e]
    rfl
  have hkl : k < S.length := by omega
  clear hend
  obtain ⟨R, hR⟩ : ∃ R, value (S.drop k) = R := ⟨_, rfl⟩
  rw [hR]
  have hR' := Lib.hid hR
  clear hR
  go_enter Tryz.func116, Tryz.ntmps116
  go_wp2_with fail
  refine (need_ok w b S k A c vo h'.out hkl).mono ?_
  rintro e w1 ⟨rfl, hb1⟩
  have hs1 := Lib.hid (h'.out.below hb1)
  have hb1' := Lib.hid hb1
  clear hb1
  have c0 := hs1.out.c0
  have c1 := hs1.out.c1
  obtain ⟨ba, off, rfl, hx, hcell⟩ := hs1.out.at_ hkl
  generalize S[k] = x0 at hx hcell
  have hx0 := Lib.hid hx
  clear hx
  go_wp2_with fail
  go_big_quiet (fail)
  have hb2 := Lib.hid (hb1'.out.trans ((Joins.below_draws _ w1 nq).mono hb1'.out.size))
  have hs2 := Lib.hid (h'.out.below hb2.out)
  generalize w1.drewN nq = w2 at hb2 hs2 ⊢
  clear hs1 hb1' c0 c1 hcell
  have c1 := hs2.out.c1
  have f1 := hs2.out.frozen 1
  have j34 := byte_eq x0 34
  have j39 := byte_eq x0 39
  by_cases hqt : ¬ (x0 = 34 ∨ x0 = 39)
  · have hqt' := Lib.hid hqt
    rw [decide_eq_false fun e => hqt (.inl e)] at j34
    rw [decide_eq_false fun e => hqt (.inr e)] at j39
    have j34' : ((x0.toNat : Int) == 34) = false := j34
    have j39' : ((x0.toNat : Int) == 39) = false := j39
    have m34 : ((x0.toNat : Int) != 34) = true := by unfold bne; rw [j34']; rfl
    have m39 : ((x0.toNat : Int) != 39) = true := by unfold bne; rw [j39']; rfl
    clear hqt j34 j39
    go_wp2_with fail
    refine (fail_any _ 2 (k : Nat)).mono ?_
    rintro e w3 ⟨rfl, rfl⟩
    go_wp2_with fail
    refine ⟨rfl, grown_in hb2.out, ?_⟩
    have := hR'.out
    rw [drop_at hx0.out, value, if_neg hqt'.out] at this
    rw [← this]
    rfl
  have hqt := Classical.not_not.1 hqt
  have hgo : Hid ((valF (S.length - k) x0 (S.drop (k + 1)) []).shift 1 = R) := Lib.hid (by
    have := hR'.out
    rw [drop_at hx0.out, value, if_pos hqt, List.length_drop] at this
    rw [← this, show S.length - k = S.length - (k + 1) + 1 by omega])
  have hall : Hid (x0 = 34 ∨ x0 = 39) := Lib.hid hqt
  clear hqt j34 j39
  have hset := hs2.out.set1 (k + 1)
  have HS2 := hset
  go_upto_region 3 with fail
  go_cut [23] (fun v wx => v = .bool false ∧ wx = w2)
  case first =>
    rcases hall.out with e | e
    · have j1 : ((x0.toNat : Int) == 34) = true := by rw [e]; rfl
      go_wp2_with fail
      go_meet
      exact ⟨rfl, rfl⟩
    · have j1 : ((x0.toNat : Int) == 34) = false := by rw [e]; rfl
      have j2 : ((x0.toNat : Int) == 39) = true := by rw [e]; rfl
      go_wp2_with fail
      go_meet
      exact ⟨rfl, rfl⟩
  obtain ⟨rfl, hwc⟩ := hcut
  subst hwc
  clear c1 f1 hset HS2
  have c1 := hs2.out.c1
  have f1 := hs2.out.frozen 1
  have hset := hs2.out.set1 (k + 1)
  have hss := Lib.hid hset.1
  have hgg := Lib.hid ((grown_in hb2.out).trans hset.2)
  have hszs : Hid (w.heap.size ≤ (wc.setCell ⟨b, 1, none⟩ (.int .i64 ((k + 1 : Nat) : Int))).heap.size) := Lib.hid hgg.out.size
  clear hset
  go_wp2_with fail
  go_loopg [4, 5] (S.length + 1) (fun m v4 v5 wr => ∃ (q f n c4 : Nat) (A4 : Option Addr) (o : Tx), k < q ∧ q ≤ S.length ∧ S.length - q < m ∧ v4 = .slice A4 n c4 ∧ o.length ≤ 4 * (q - k) ∧ Hid (S.length - q < f) ∧ Hid ((valF f x0 (S.drop q) o).shift (q - k) = R) ∧ Hid (Xc wr b S q (some ⟨ba, off, none⟩) c vo) ∧ Hid (w.grownBy wr (some b)) ∧ Hid (OwB wr w.heap.size 5 (.slice A4 n c4) o))
  case atStart =>
    refine ⟨k + 1, S.length - k, 0, 0, none, [], by omega, by omega, by omega, rfl, by simp, Lib.hid (by omega), Lib.hid ?_, hss, hgg, Lib.hid (OwB.nil _ _ _)⟩
    rw [show k + 1 - k = 1 by omega]
    exact hgo.out
  case round =>
    clear c1 f1 hss hgg hszs
    obtain ⟨q, f, n, c4, A4, o, hkq, hql, hms, rfl, hol, hf, hr, hs, hg, ho⟩ := hrel
    by_cases hge : S.length ≤ q
    · go_wp2_with fail
      refine (need_bad wr b S q _ c vo hs.out hge).mono ?_
      rintro e w3 ⟨rfl, hb3⟩
      go_wp2_with fail
      refine ⟨rfl, hg.out.trans (grown_in hb3), ?_⟩
      have := hr.out
      rw [drop_end hge, show valF f x0 [] o = .bad 6 0 by cases f <;> rfl] at this
      rw [← this]
      exact pan_eq (by omega)
    have hlt : q < S.length := by omega
    clear hge
    go_wp2_with fail
    refine (need_ok wr b S q _ c vo hs.out hlt).mono ?_
    rintro e w3 ⟨rfl, hb3⟩
    have hs3 := Lib.hid (hs.out.below hb3)
    have hg3 := Lib.hid (hg.out.trans (grown_in hb3))
    have ho3 := Lib.hid (OwB.below ho.out hb3)
    clear hb3 hs hg ho
    have c0 := hs3.out.c0
    have c1 := hs3.out.c1
    obtain ⟨ba', off', he, hx, hcell⟩ := hs3.out.at_ hlt
    injection he with he
    injection he with e1 e2
    subst e1
    subst e2
    generalize S[q] = x at hx hcell
    have hx' := Lib.hid hx
    clear hx
    obtain ⟨f', rfl⟩ : ∃ f', f = f' + 1 := ⟨f - 1, by have := hf.out; omega⟩
    go_wp2_with fail
    go_big_quiet (fail)
    have hs4 := Lib.hid (hs3.out.below (Joins.below_draws _ w3 nq))
    have hg4 := Lib.hid (hg3.out.trans (grown_in (Joins.below_draws _ w3 nq)))
    have ho4 := Lib.hid (OwB.below ho3.out (Joins.below_draws _ w3 nq))
    generalize w3.drewN nq = w4 at hs4 hg4 ho4 ⊢
    clear hs3 hg3 ho3 c0 c1 hcell
    have c1 := hs4.out.c1
    have f1 := hs4.out.frozen 1
    have hon : o.length = n := (OwB.bs ho4.out).len
    by_cases jq : x = x0
    · subst jq
      have hcv : ∀ u, (convert 22 9 (.slice A4 n c4)).run Tryz.prog (w4.setCell ⟨b, 1, none⟩ u) = .ok (.string (strOf o)) (w4.setCell ⟨b, 1, none⟩ u) := fun u => Bs.conv (ow_kept ho4.out (grown_set w4 ⟨b, 1, none⟩ u) hbw).bs Tryz.underlying22 Tryz.underlying5 Tryz.underlying9
      go_wp2_with fail
      go_ret
      have h5 := hs4.out.set1 (q + 1)
      refine ⟨hg4.out.trans h5.2, ?_⟩
      have := hr.out
      rw [drop_at hx'.out, valF, if_pos rfl] at this
      rw [← this]
      refine ⟨rfl, ?_⟩
      rw [show k + (q - k + 1) = q + 1 by omega]
      exact h5.1
    have jq0 : ((x.toNat : Int) == (x0.toNat : Int)) = false := by rw [byte_eq, decide_eq_false jq]
    have jq' := Lib.hid jq
    clear jq
    by_cases j6 : x = 60
    · have j60 : ((x.toNat : Int) == 60) = true := by rw [j6]; rfl
      have j6' := Lib.hid j6
      clear j6
      go_wp2_with fail
      refine (fail_any _ 2 (q : Nat)).mono ?_
      rintro e w5 ⟨rfl, rfl⟩
      go_wp2_with fail
      refine ⟨rfl, hg4.out, ?_⟩
      have := hr.out
      rw [drop_at hx'.out, valF, if_neg jq'.out, if_pos j6'.out] at this
      rw [← this]
      exact pan_eq (by omega)
    have j60 : ((x.toNat : Int) == 60) = false := by rw [show (60 : Int) = ((60 : UInt8).toNat : Int) from rfl, byte_eq, decide_eq_false j6]
    have j6' := Lib.hid j6
    clear j6
    by_cases j3 : x = 38
    · have j38 : ((x.toNat : Int) == 38) = true := by rw [j3]; rfl
      have hx38 : S[q]? = some 38 := by rw [← j3]; exact hx'.out
      have hx38' := Lib.hid hx38
      have j3' := Lib.hid j3
      clear hx38 j3
      go_wp2_with fail
      refine (reference_any w4 b S q _ c vo hs4.out hx38'.out hS).mono ?_
      rintro e w5 ⟨hg5, hG⟩
      cases hrf : refR (S.drop (q + 1)) with
      | bad ec eo =>
        rw [hrf] at hG
        subst hG
        go_wp2_with fail
        refine ⟨rfl, hg4.out.trans hg5, ?_⟩
        have := hr.out
        rw [drop_at hx'.out, valF, if_neg jq'.out, if_neg j6'.out, if_pos j3'.out, hrf] at this
        rw [← this]
        exact pan_eq (by omega)
      | ok v m =>
        rw [hrf] at hG
        obtain ⟨rfl, hs5⟩ := hG
        have hvl := refR_v hrf
        have hml := refR_len hrf
        rw [List.length_drop] at hml
        have hs5' := Lib.hid hs5
        have hg45 := Lib.hid (hg4.out.trans hg5)
        have ho5 := Lib.hid (ow_kept ho4.out hg5 hbw)
        have hrf' := Lib.hid hrf
        clear hs5 hg5 hrf c1 f1 hs4 hg4 ho4
        go_wp2_with (at_builtin; apply stop_here)
        refine Stop.go (append_string w5 rfl _ _ rfl w.heap.size _ o rfl ho5.out v rfl (by omega) hg45.out.size ?_)
        intro v6 w6 ho6 hb6
        obtain ⟨A6, c6, rfl⟩ := ownsRow_form ho6
        have hs6 := h'.out.far hg45.out hs5'.out hb6
        have hss6 := Lib.hid hs6.1
        have hgg6 := Lib.hid hs6.2
        have ho6' := Lib.hid ho6
        clear ho6 hb6 hs6 hs5' hg45 ho5
        go_wp2_with fail
        go_roundg (S.length - (q + m) + 1)
        case measure => omega
        case rel =>
          refine ⟨q + m, f', (o ++ v).length, c6, A6, o ++ v, by omega, by omega, by omega, by rw [List.length_append, hon], by rw [List.length_append]; omega, Lib.hid (by have := hf.out; omega), Lib.hid ?_, hss6, hgg6, ho6'⟩
          have := hr.out
          rw [drop_at hx'.out, valF, if_neg jq'.out, if_neg j6'.out, if_pos j3'.out, hrf'.out] at this
          simp only at this
          rw [Out.shift_shift, ← drop_at hx'.out, List.drop_drop] at this
          rw [show q + m - k = q - k + m by omega]
          exact this
    have j38 : ((x.toNat : Int) == 38) = false := by
      have hj : ¬ x = 38 := j3
      rw [show (38 : Int) = ((38 : UInt8).toNat : Int) from rfl, byte_eq, decide_eq_false hj]
    have j3' := Lib.hid j3
    clear j3
    have hlin : x = 9 ∨ x = 10 ∨ x = 13 → Hid ((valF f' x0 (S.drop (q + line (S.drop q))) (o ++ [32])).shift (q + line (S.drop q) - k) = R) := fun hj => Lib.hid (by
      have := hr.out
      rw [drop_at hx'.out, valF, if_neg jq'.out, if_neg j6'.out, if_neg j3'.out, if_pos hj, Out.shift_shift, ← drop_at hx'.out, List.drop_drop] at this
      rw [show q + line (S.drop q) - k = q - k + line (S.drop q) by omega]
      exact this)
    have hline : 1 ≤ line (S.drop q) ∧ q + line (S.drop q) ≤ S.length := by
      have := line_len (c := x) (S.drop (q + 1))
      rw [← drop_at hx'.out, List.length_drop] at this
      omega
    obtain ⟨LL, hLL⟩ : ∃ LL, line (S.drop q) = LL := ⟨_, rfl⟩
    rw [hLL] at hlin hline
    have hLL' := Lib.hid hLL
    clear hLL
    by_cases j9 : x = 9
    · have hli := hlin (.inl j9)
      have k9 : ((x.toNat : Int) == 9) = true := by rw [j9]; rfl
      clear hlin j9
      go_wp2_with fail
      refine (line_any w4 b S q _ c vo hs4.out hlt hS).mono ?_
      rintro e w5 ⟨rfl, hs5, hg5⟩
      rw [hLL'.out] at hs5
      have hs5' := Lib.hid hs5
      have hg45 := Lib.hid (hg4.out.trans hg5)
      have ho5 := Lib.hid (ow_kept ho4.out hg5 hbw)
      clear hs5 hg5 c1 f1 hs4 hg4 ho4

      go_wp2_with (at_builtin; apply stop_here)
      refine Stop.go (append_bytes _ 22 5 Tryz.underlying22 info_u8 rfl _ _ rfl w.heap.size _ o rfl (OwB.below ho5.out (below_alloc _ _)) _ _ _ [32] rfl (bs_lit _ _ _ _ _ _ rfl (by decide) rfl) (n + 1) (by rw [hon]) (by omega) (Nat.le_trans hg45.out.size (below_alloc _ _).size) ?_)
      intro A6 c6 w6 ho6 _ hb6'
      have hb6 : Below w.heap.size w5 w6 := ((below_alloc w5 _).mono hg45.out.size).trans hb6'
      have hs6 := h'.out.far hg45.out hs5'.out hb6
      have hss6 := Lib.hid hs6.1
      have hgg6 := Lib.hid hs6.2
      have ho6' := Lib.hid ho6
      clear ho6 hb6 hb6' hs6

      go_wp2_with fail
      go_roundg (S.length - (q + LL) + 1)
      case measure => omega
      case rel => exact ⟨q + LL, f', n + 1, c6, A6, o ++ [32], by omega, by omega, by omega, rfl, by rw [List.length_append]; simp; omega, Lib.hid (by have := hf.out; omega), hli, hss6, hgg6, ho6'⟩
    have k9 : ((x.toNat : Int) == 9) = false := by rw [show (9 : Int) = ((9 : UInt8).toNat : Int) from rfl, byte_eq, decide_eq_false j9]
    by_cases j10 : x = 10
    · have hli := hlin (.inr (.inl j10))
      have k10 : ((x.toNat : Int) == 10) = true := by rw [j10]; rfl
      clear hlin j10 j9
      go_wp2_with fail
      refine (line_any w4 b S q _ c vo hs4.out hlt hS).mono ?_
      rintro e w5 ⟨rfl, hs5, hg5⟩
      rw [hLL'.out] at hs5
      have hs5' := Lib.hid hs5
      have hg45 := Lib.hid (hg4.out.trans hg5)
      have ho5 := Lib.hid (ow_kept ho4.out hg5 hbw)
      clear hs5 hg5 c1 f1 hs4 hg4 ho4

      go_wp2_with (at_builtin; apply stop_here)
      refine Stop.go (append_bytes _ 22 5 Tryz.underlying22 info_u8 rfl _ _ rfl w.heap.size _ o rfl (OwB.below ho5.out (below_alloc _ _)) _ _ _ [32] rfl (bs_lit _ _ _ _ _ _ rfl (by decide) rfl) (n + 1) (by rw [hon]) (by omega) (Nat.le_trans hg45.out.size (below_alloc _ _).size) ?_)
      intro A6 c6 w6 ho6 _ hb6'
      have hb6 : Below w.heap.size w5 w6 := ((below_alloc w5 _).mono hg45.out.size).trans hb6'
      have hs6 := h'.out.far hg45.out hs5'.out hb6
      have hss6 := Lib.hid hs6.1
      have hgg6 := Lib.hid hs6.2
      have ho6' := Lib.hid ho6
      clear ho6 hb6 hb6' hs6

      go_wp2_with fail
      go_roundg (S.length - (q + LL) + 1)
      case measure => omega
      case rel => exact ⟨q + LL, f', n + 1, c6, A6, o ++ [32], by omega, by omega, by omega, rfl, by rw [List.length_append]; simp; omega, Lib.hid (by have := hf.out; omega), hli, hss6, hgg6, ho6'⟩
    have k10 : ((x.toNat : Int) == 10) = false := by rw [show (10 : Int) = ((10 : UInt8).toNat : Int) from rfl, byte_eq, decide_eq_false j10]
    by_cases j13 : x = 13
    · have hli := hlin (.inr (.inr j13))
      have k13 : ((x.toNat : Int) == 13) = true := by rw [j13]; rfl
      clear hlin j13 j10 j9
      go_wp2_with fail
      refine (line_any w4 b S q _ c vo hs4.out hlt hS).mono ?_
      rintro e w5 ⟨rfl, hs5, hg5⟩
      rw [hLL'.out] at hs5
      have hs5' := Lib.hid hs5
      have hg45 := Lib.hid (hg4.out.trans hg5)
      have ho5 := Lib.hid (ow_kept ho4.out hg5 hbw)
      clear hs5 hg5 c1 f1 hs4 hg4 ho4

      go_wp2_with (at_builtin; apply stop_here)
      refine Stop.go (append_bytes _ 22 5 Tryz.underlying22 info_u8 rfl _ _ rfl w.heap.size _ o rfl (OwB.below ho5.out (below_alloc _ _)) _ _ _ [32] rfl (bs_lit _ _ _ _ _ _ rfl (by decide) rfl) (n + 1) (by rw [hon]) (by omega) (Nat.le_trans hg45.out.size (below_alloc _ _).size) ?_)
      intro A6 c6 w6 ho6 _ hb6'
      have hb6 : Below w.heap.size w5 w6 := ((below_alloc w5 _).mono hg45.out.size).trans hb6'
      have hs6 := h'.out.far hg45.out hs5'.out hb6
      have hss6 := Lib.hid hs6.1
      have hgg6 := Lib.hid hs6.2
      have ho6' := Lib.hid ho6
      clear ho6 hb6 hb6' hs6

      go_wp2_with fail
      go_roundg (S.length - (q + LL) + 1)
      case measure => omega
      case rel => exact ⟨q + LL, f', n + 1, c6, A6, o ++ [32], by omega, by omega, by omega, rfl, by rw [List.length_append]; simp; omega, Lib.hid (by have := hf.out; omega), hli, hss6, hgg6, ho6'⟩
    have k13 : ((x.toNat : Int) == 13) = false := by rw [show (13 : Int) = ((13 : UInt8).toNat : Int) from rfl, byte_eq, decide_eq_false j13]
    have hrr : Hid ((valF f' x0 (S.drop (q + 1)) (o ++ [x])).shift (q + 1 - k) = R) := Lib.hid (by
      have := hr.out
      rw [drop_at hx'.out, valF, if_neg jq'.out, if_neg j6'.out, if_neg j3'.out, if_neg (by rintro (h | h | h); exact j9 h; exact j10 h; exact j13 h), Out.shift_shift] at this
      rw [show q + 1 - k = q - k + 1 by omega]
      exact this)
    clear hlin j9 j10 j13
    go_wp2_with (at_builtin; apply stop_here)
    refine Stop.go (append_bytes _ 22 5 Tryz.underlying22 info_u8 rfl _ _ rfl w.heap.size _ o rfl (OwB.below ho4.out (below_alloc _ _)) _ _ _ [x] rfl (bs_lit _ _ _ _ _ _ rfl (by decide) rfl) (n + 1) (by rw [hon]) (by omega) (Nat.le_trans hg4.out.size (below_alloc _ _).size) ?_)
    intro A6 c6 w6 ho6 _ hb6'
    have hb6 : Below w.heap.size w4 w6 := ((below_alloc w4 _).mono hg4.out.size).trans hb6'
    have hs6 := h'.out.far hg4.out hs4.out hb6
    have hss6 := Lib.hid hs6.1
    have hgg6 := Lib.hid hs6.2
    have ho6' := Lib.hid ho6
    clear ho6 hb6 hb6' hs6

    have d1 := hss6.out.c1
    have e1 := hss6.out.frozen 1
    go_wp2_with fail
    have h7 := hss6.out.set1 (q + 1)
    have hg7 := hgg6.out.trans h7.2
    have ho7 := ow_kept ho6'.out (grown_set w6 ⟨b, 1, none⟩ (.int .i64 ((q + 1 : Nat) : Int))) hbw
    go_roundg (S.length - (q + 1) + 1)
    case measure => omega
    case rel => exact ⟨q + 1, f', n + 1, c6, A6, o ++ [x], by omega, by omega, by omega, rfl, by rw [List.length_append]; simp; omega, Lib.hid (by have := hf.out; omega), hrr, Lib.hid h7.1, Lib.hid hg7, Lib.hid ho7⟩
end
end Go.Proofs.YtcecmbbhjaeodaaGreatDoor.Xl
end

section
namespace Go.Proofs.YtcecmbbhjaeodaaGreatDoor.Xl
open Go.RowKit UtfW

section
variable {S p t : Tx} {k B1 B2 n : Nat} {q : UInt8}
theorem qu_has (h : Lib.hasPrefix (S.drop k) p = false) : quoted p (S.drop k) = none := by
  unfold quoted
  rw [if_neg (by rw [h]; decide)]
theorem qu_eq (h : Lib.hasPrefix (S.drop k) p = true) (h1 : blanks (S.drop (k + p.length)) = B1) (h2 : Lib.hasPrefix (S.drop (k + p.length + B1)) [61] = false) : quoted p (S.drop k) = none := by
  unfold quoted
  rw [if_pos h]
  simp only [List.drop_drop, ← Nat.add_assoc, h1]
  rw [if_neg (by rw [h2]; decide)]
theorem qu_end (h : Lib.hasPrefix (S.drop k) p = true) (h1 : blanks (S.drop (k + p.length)) = B1) (h2 : Lib.hasPrefix (S.drop (k + p.length + B1)) [61] = true) (h3 : blanks (S.drop (k + p.length + B1 + 1)) = B2) (h4 : S.length ≤ k + p.length + B1 + 1 + B2) : quoted p (S.drop k) = none := by
  unfold quoted
  rw [if_pos h]
  simp only [List.drop_drop, ← Nat.add_assoc, h1]
  rw [if_pos h2]
  simp only [h3, drop_end h4]
theorem qu_off (h : Lib.hasPrefix (S.drop k) p = true) (h1 : blanks (S.drop (k + p.length)) = B1) (h2 : Lib.hasPrefix (S.drop (k + p.length + B1)) [61] = true) (h3 : blanks (S.drop (k + p.length + B1 + 1)) = B2) (h4 : S[k + p.length + B1 + 1 + B2]? = some q) (h5 : ¬ (q = 34 ∨ q = 39)) : quoted p (S.drop k) = none := by
  unfold quoted
  rw [if_pos h]
  simp only [List.drop_drop, ← Nat.add_assoc, h1]
  rw [if_pos h2]
  simp only [h3, drop_at h4, if_neg h5]
theorem qu_find (h : Lib.hasPrefix (S.drop k) p = true) (h1 : blanks (S.drop (k + p.length)) = B1) (h2 : Lib.hasPrefix (S.drop (k + p.length + B1)) [61] = true) (h3 : blanks (S.drop (k + p.length + B1 + 1)) = B2) (h4 : S[k + p.length + B1 + 1 + B2]? = some q) (h5 : q = 34 ∨ q = 39) :
    quoted p (S.drop k) = (find [q] (S.drop (k + p.length + B1 + 1 + B2 + 1))).map fun n => ((S.drop (k + p.length + B1 + 1 + B2 + 1)).take n, p.length + B1 + 1 + B2 + (n + 2)) := by
  unfold quoted
  rw [if_pos h]
  simp only [List.drop_drop, ← Nat.add_assoc, h1]
  rw [if_pos h2]
  simp only [h3, drop_at h4, if_pos h5]
end
theorem wrapN {n : Nat} (h : n < 9223372036854775808) : IntKind.i64.wrap (n : Int) = (n : Int) := by
  have e : (n : Int) % 2 ^ 64 = n := Int.emod_eq_of_lt (by omega) (by omega)
  simp only [IntKind.wrap, IntKind.bits, IntKind.signed, e]
  rw [if_neg]
  simp
  omega
/-- What quoted gives. -/
def GivesQ (w : World) (b : Nat) (S : Tx) (k : Nat) (A : Option Addr) (c : Nat) (vo : Value) (x : Option (Tx × Nat)) (e : Ending) (w' : World) : Prop :=
  w.grownBy w' (some b) ∧ match x with
  | none => e = .returned (.tuple #[.string ⟨#[]⟩, .bool false])
  | some (t, n) => e = .returned (.tuple #[.string (strOf t), .bool true]) ∧ Xc w' b S (k + n) A c vo

section
variable (w : World) (b : Nat) (S : Tx) (k : Nat) (A : Option Addr) (c : Nat) (vo : Value)
set_option maxHeartbeats 2000000 in
set_option maxRecDepth 100000 in
theorem quoted_any (h : Xc w b S k A c vo) (hk : k ≤ S.length) (hS : S.length ≤ 65536) (p : Tx) (hp : p.length ≤ 65536) :
    Calls Tryz.prog 81 #[.pointer (some ⟨b, 0, none⟩), .string (strOf p)] w fun e w' => GivesQ w b S k A c vo (quoted p (S.drop k)) e w' := by
  have hsz : (strOf p).size = p.length := strOf_size' p
  have h' := Lib.hid h
  clear h
  obtain ⟨R, hR⟩ : ∃ R, quoted p (S.drop k) = R := ⟨_, rfl⟩
  rw [hR]
  have hR' := Lib.hid hR
  clear hR
  go_enter Tryz.func81, Tryz.ntmps81
  go_wp2_with fail
  refine (has_any w b S k A c vo h'.out hk hS p hp).mono ?_
  rintro e w1 ⟨rfl, hb1⟩
  have hs1 := Lib.hid (h'.out.below hb1)
  have hg1 := Lib.hid (grown_in (r := some b) hb1)
  clear hb1
  cases hp1 : Lib.hasPrefix (S.drop k) p with
  | false =>
    have hp1' := Lib.hid hp1
    clear hp1
    go_wp2_with fail
    (try simp only [Exit.inBlock, Exit.then])
    go_ret2
    refine ⟨hg1.out, ?_⟩
    rw [← hR'.out, qu_has hp1'.out]
    exact rfl
  | true =>
  have hkp : k + p.length ≤ S.length := by
    have := Qx.prefix_len hp1
    rw [List.length_drop] at this
    omega
  have hp1' := Lib.hid hp1
  clear hp1
  have c1 := hs1.out.c1
  have f1 := hs1.out.frozen 1
  have hset := hs1.out.set1 (k + p.length)
  have hs2 := Lib.hid hset.1
  have hg2 := Lib.hid (hg1.out.trans hset.2)
  clear hset
  go_upto_region 4 with fail
  have e5 : ((k : Int) + (p.length : Int)) = ((k + p.length : Nat) : Int) := by omega
  try rw [e5]
  generalize w1.setCell ⟨b, 1, none⟩ (.int .i64 ((k + p.length : Nat) : Int)) = w2 at hs2 hg2 ⊢
  clear c1 f1 hs1 hg1 e5
  go_wp2_with fail
  refine (blanks_any w2 b S (k + p.length) A c vo hs2.out hkp hS).mono ?_
  rintro e w3 ⟨rfl, hs3, hg3⟩
  have hB1 := blanks_le (S.drop (k + p.length))
  rw [List.length_drop] at hB1
  obtain ⟨B1, hB1e⟩ : ∃ B1, blanks (S.drop (k + p.length)) = B1 := ⟨_, rfl⟩
  rw [hB1e] at hs3 hB1 ⊢
  have hB1' := Lib.hid hB1e
  have hs3' := Lib.hid hs3
  have hg3' := Lib.hid (hg2.out.trans hg3)
  clear hs3 hg3 hB1e hs2 hg2
  go_wp2_with fail
  refine (has_any w3 b S (k + p.length + B1) A c vo hs3'.out (by omega) hS [61] (by decide)).mono ?_
  rintro e w4 ⟨rfl, hb4⟩
  have hs4 := Lib.hid (hs3'.out.below hb4)
  have hg4 := Lib.hid (hg3'.out.trans (grown_in (r := some b) hb4))
  clear hb4 hs3' hg3'
  cases hp2 : Lib.hasPrefix (S.drop (k + p.length + B1)) [61] with
  | false =>
    have hp2' := Lib.hid hp2
    clear hp2
    go_wp2_with fail
    (try simp only [Exit.inBlock, Exit.then])
    go_ret2
    refine ⟨hg4.out, ?_⟩
    rw [← hR'.out, qu_eq hp1'.out hB1'.out hp2'.out]
    exact rfl
  | true =>
  have hkq : k + p.length + B1 + 1 ≤ S.length := by
    have := Qx.prefix_len hp2
    rw [List.length_drop] at this
    simp only [List.length_cons, List.length_nil] at this
    omega
  have hp2' := Lib.hid hp2
  clear hp2
  have c1 := hs4.out.c1
  have f1 := hs4.out.frozen 1
  have hset := hs4.out.set1 (k + p.length + B1 + 1)
  have hs5 := Lib.hid hset.1
  have hg5 := Lib.hid (hg4.out.trans hset.2)
  clear hset
  go_upto_region 8 with fail
  have e5 : ((k : Int) + (p.length : Int) + (B1 : Int) + 1) = ((k + p.length + B1 + 1 : Nat) : Int) := by omega
  try rw [e5]
  generalize w4.setCell ⟨b, 1, none⟩ (.int .i64 ((k + p.length + B1 + 1 : Nat) : Int)) = w5 at hs5 hg5 ⊢
  clear c1 f1 hs4 hg4 e5
  go_wp2_with fail
  refine (blanks_any w5 b S (k + p.length + B1 + 1) A c vo hs5.out hkq hS).mono ?_
  rintro e w6 ⟨rfl, hs6, hg6⟩
  have hB2 := blanks_le (S.drop (k + p.length + B1 + 1))
  rw [List.length_drop] at hB2
  obtain ⟨B2, hB2e⟩ : ∃ B2, blanks (S.drop (k + p.length + B1 + 1)) = B2 := ⟨_, rfl⟩
  rw [hB2e] at hs6 hB2 ⊢
  have hB2' := Lib.hid hB2e
  obtain ⟨K, hK⟩ : ∃ K, k + p.length + B1 + 1 + B2 = K := ⟨_, rfl⟩
  rw [hK] at hs6
  have hKe := Lib.hid hK
  have hKle : K ≤ S.length := by omega
  have hKk : p.length + B1 + 1 + B2 = K - k ∧ k ≤ K := by omega
  have hKk' := Lib.hid hKk
  have hs6' := Lib.hid hs6
  have hg6' := Lib.hid (hg5.out.trans hg6)
  clear hs6 hg6 hB2e hs5 hg5 hK hKk hB1 hB2 hkq hkp
  go_wp2_with fail
  have c0 := hs6'.out.c0
  have c1 := hs6'.out.c1
  by_cases hlt : K < S.length
  · have i0 : decide (S.length ≤ K) = false := by simp; omega
    obtain ⟨ba, off, rfl, hx, hcell⟩ := hs6'.out.at_ hlt
    generalize S[K] = x0 at hx hcell
    have hx' := Lib.hid hx
    clear hx
    have hck : Hid (∀ x, Below w6.heap.size w6 x → x.cell? ⟨ba, off + K, none⟩ = some (.int .u8 (x0.toNat : Int))) := Lib.hid fun x hx => (hx.cell (World.block_lt_of_cell? w6 _ hcell)).trans hcell
    clear hcell
    by_cases hqt : ¬ (x0 = 34 ∨ x0 = 39)
    · have j34 : ((x0.toNat : Int) == 34) = false := by rw [show (34 : Int) = ((34 : UInt8).toNat : Int) from rfl, byte_eq, decide_eq_false fun e => hqt (.inl e)]
      have j39 : ((x0.toNat : Int) == 39) = false := by rw [show (39 : Int) = ((39 : UInt8).toNat : Int) from rfl, byte_eq, decide_eq_false fun e => hqt (.inr e)]
      have m34 : ((x0.toNat : Int) != 34) = true := by unfold bne; rw [j34]; rfl
      have m39 : ((x0.toNat : Int) != 39) = true := by unfold bne; rw [j39]; rfl
      have hqt' := Lib.hid hqt
      clear hqt j34 j39 c0 c1
      have hq : Hid (∀ x, Below w6.heap.size w6 x → x.cell? ⟨b, 0, none⟩ = some (.slice (some ⟨ba, off, none⟩) S.length c) ∧ x.cell? ⟨b, 1, none⟩ = some (.int .i64 (K : Nat)) ∧ x.cell? ⟨ba, off + K, none⟩ = some (.int .u8 (x0.toNat : Int))) := Lib.hid fun x hx => ⟨(hs6'.out.below hx).c0, (hs6'.out.below hx).c1, hck.out _ hx⟩
      have hdr : Hid (Below w6.heap.size w6 w6.drew) := Lib.hid (Joins.below_draws w6.heap.size w6 1)
      refine Pl.wp_region_plan 31 (.take 0 (.take 1 (.take 2 (.take 3 (.take 4 (.take 5 (.take 6 (.take 7 (.take 8 (.take 9 (.take 10 (.take 11 (.take 12 (.take 13 (.take 14 (.take 15 (.take 16 (.take 17 (.take 18 (.take 19 (.take 20 (.take 21 (.take 22 (.take 23 (.take 24 (.take 25 (.take 26 (.take 27 (.take 28 (.take 29 (.take 30 .done))))))))))))))))))))))))))))))) (fun x => x.cell? ⟨b, 0, none⟩ = some (.slice (some ⟨ba, off, none⟩) S.length c) ∧ x.cell? ⟨b, 1, none⟩ = some (.int .i64 (K : Nat)) ∧ x.cell? ⟨ba, off + K, none⟩ = some (.int .u8 (x0.toNat : Int))) (by kernel_rfl) (by kernel_rfl) (by exact hq.out _ hdr.out) ?_
      simp only [Pl.fill, List.getElem?_cons_zero, List.getElem?_cons_succ, List.drop_succ_cons, List.drop_zero]
      iterate 31
        first
        | (refine Pl.take_go ?_ (by rfl) (fun _ _ _ h => h) ?_ ?_
           rotate_left
           · (intro x hSw; (try dsimp only at hSw); (try obtain ⟨s0, s1, s2⟩ := hSw); go_simp; try with_reducible rfl)
           (try simp only [Act.put, List.setIfInBounds_toArray, List.set_cons_zero, List.set_cons_succ]))
        | (refine Pl.take_skip (by rfl) (fun _ _ _ h => h) ?_
           (try simp only [Act.put, List.setIfInBounds_toArray, List.set_cons_zero, List.set_cons_succ]))
      refine Pl.done_go ?_
      have hc9 := hck.out _ hdr.out
      have hb7 := hdr.out
      clear hq
      go_wp2_with fail
      (try simp only [Exit.inBlock, Exit.then])
      go_ret2
      refine ⟨hg6'.out.trans (grown_in hb7), ?_⟩
      rw [← hR'.out, qu_off hp1'.out hB1'.out hp2'.out hB2'.out (by rw [hKe.out]; exact hx'.out) hqt'.out]
      exact rfl
    have hqt := Classical.not_not.1 hqt
    have hqt' := Lib.hid hqt
    have hfin : Hid (R = (find [x0] (S.drop (K + 1))).map fun n => ((S.drop (K + 1)).take n, K - k + (n + 2))) := Lib.hid (by
      rw [← hR'.out, qu_find hp1'.out hB1'.out hp2'.out hB2'.out (by rw [hKe.out]; exact hx'.out) hqt, hKe.out, hKk'.out.1])
    go_upto_region 10 with fail
    go_cut [71] (fun v wx => v = .bool false ∧ Hid (Below w6.heap.size w6 wx))
    case first =>
      rcases hqt'.out with e | e
      · have m34 : ((x0.toNat : Int) != 34) = false := by rw [e]; rfl
        clear hqt c0 c1
        have hq : Hid (∀ x, Below w6.heap.size w6 x → x.cell? ⟨b, 0, none⟩ = some (.slice (some ⟨ba, off, none⟩) S.length c) ∧ x.cell? ⟨b, 1, none⟩ = some (.int .i64 (K : Nat)) ∧ x.cell? ⟨ba, off + K, none⟩ = some (.int .u8 (x0.toNat : Int))) := Lib.hid fun x hx => ⟨(hs6'.out.below hx).c0, (hs6'.out.below hx).c1, hck.out _ hx⟩
        have hdr : Hid (Below w6.heap.size w6 w6.drew) := Lib.hid (Joins.below_draws w6.heap.size w6 1)
        refine Pl.wp_region_plan 31 (.take 0 (.take 1 (.take 2 (.take 3 (.take 4 (.take 5 (.take 6 (.take 7 (.take 8 (.take 9 (.take 10 (.take 11 (.take 12 (.take 13 (.take 14 (.take 15 (.take 16 (.take 17 (.take 18 (.take 19 (.take 20 (.take 21 (.take 22 (.take 23 (.take 24 (.take 25 (.take 26 (.take 27 (.take 28 (.take 29 (.take 30 .done))))))))))))))))))))))))))))))) (fun x => x.cell? ⟨b, 0, none⟩ = some (.slice (some ⟨ba, off, none⟩) S.length c) ∧ x.cell? ⟨b, 1, none⟩ = some (.int .i64 (K : Nat)) ∧ x.cell? ⟨ba, off + K, none⟩ = some (.int .u8 (x0.toNat : Int))) (by kernel_rfl) (by kernel_rfl) (by exact hq.out _ hdr.out) ?_
        simp only [Pl.fill, List.getElem?_cons_zero, List.getElem?_cons_succ, List.drop_succ_cons, List.drop_zero]
        iterate 31
          first
          | (refine Pl.take_go ?_ (by rfl) (fun _ _ _ h => h) ?_ ?_
             rotate_left
             · (intro x hSw; (try dsimp only at hSw); (try obtain ⟨s0, s1, s2⟩ := hSw); go_simp; try with_reducible rfl)
             (try simp only [Act.put, List.setIfInBounds_toArray, List.set_cons_zero, List.set_cons_succ]))
          | (refine Pl.take_skip (by rfl) (fun _ _ _ h => h) ?_
             (try simp only [Act.put, List.setIfInBounds_toArray, List.set_cons_zero, List.set_cons_succ]))
        refine Pl.done_go ?_
        have hc9 := hck.out _ hdr.out
        go_wp2_with fail
        go_meet
        exact ⟨rfl, hdr⟩
      · have m34 : ((x0.toNat : Int) != 34) = true := by rw [e]; rfl
        have m39 : ((x0.toNat : Int) != 39) = false := by rw [e]; rfl
        clear hqt c0 c1
        have hq : Hid (∀ x, Below w6.heap.size w6 x → x.cell? ⟨b, 0, none⟩ = some (.slice (some ⟨ba, off, none⟩) S.length c) ∧ x.cell? ⟨b, 1, none⟩ = some (.int .i64 (K : Nat)) ∧ x.cell? ⟨ba, off + K, none⟩ = some (.int .u8 (x0.toNat : Int))) := Lib.hid fun x hx => ⟨(hs6'.out.below hx).c0, (hs6'.out.below hx).c1, hck.out _ hx⟩
        have hdr : Hid (Below w6.heap.size w6 w6.drew) := Lib.hid (Joins.below_draws w6.heap.size w6 1)
        refine Pl.wp_region_plan 31 (.take 0 (.take 1 (.take 2 (.take 3 (.take 4 (.take 5 (.take 6 (.take 7 (.take 8 (.take 9 (.take 10 (.take 11 (.take 12 (.take 13 (.take 14 (.take 15 (.take 16 (.take 17 (.take 18 (.take 19 (.take 20 (.take 21 (.take 22 (.take 23 (.take 24 (.take 25 (.take 26 (.take 27 (.take 28 (.take 29 (.take 30 .done))))))))))))))))))))))))))))))) (fun x => x.cell? ⟨b, 0, none⟩ = some (.slice (some ⟨ba, off, none⟩) S.length c) ∧ x.cell? ⟨b, 1, none⟩ = some (.int .i64 (K : Nat)) ∧ x.cell? ⟨ba, off + K, none⟩ = some (.int .u8 (x0.toNat : Int))) (by kernel_rfl) (by kernel_rfl) (by exact hq.out _ hdr.out) ?_
        simp only [Pl.fill, List.getElem?_cons_zero, List.getElem?_cons_succ, List.drop_succ_cons, List.drop_zero]
        iterate 31
          first
          | (refine Pl.take_go ?_ (by rfl) (fun _ _ _ h => h) ?_ ?_
             rotate_left
             · (intro x hSw; (try dsimp only at hSw); (try obtain ⟨s0, s1, s2⟩ := hSw); go_simp; try with_reducible rfl)
             (try simp only [Act.put, List.setIfInBounds_toArray, List.set_cons_zero, List.set_cons_succ]))
          | (refine Pl.take_skip (by rfl) (fun _ _ _ h => h) ?_
             (try simp only [Act.put, List.setIfInBounds_toArray, List.set_cons_zero, List.set_cons_succ]))
        refine Pl.done_go ?_
        have hc9 := hck.out _ hdr.out
        go_wp2_with fail
        go_meet
        exact ⟨rfl, hdr⟩
    obtain ⟨rfl, hbc⟩ := hcut
    have hs7 := Lib.hid (hs6'.out.below hbc.out)
    have hg7 := Lib.hid (hg6'.out.trans (grown_in (r := some b) hbc.out))
    have hcc := hck.out _ hbc.out
    clear hbc hck hs6' hg6' c0 c1 hqt
    have c0 := hs7.out.c0
    have c1 := hs7.out.c1
    go_wp2_with fail
    go_big_quiet (fail)
    have hdr := Joins.below_draws wc.heap.size wc nq
    have hs8 := Lib.hid (hs7.out.below hdr)
    have hg8 := Lib.hid (hg7.out.trans (grown_in (r := some b) hdr))
    generalize wc.drewN nq = w8 at hs8 hg8 ⊢
    clear hs7 hg7 hcc hdr c0 c1
    have hlc := Rd.le hs8.out.bs
    have hcm := Rd.max hs8.out.bs
    obtain ⟨L, hL⟩ : ∃ L, K + 1 = L := ⟨_, rfl⟩
    have hLI : (K : Int) + 1 = (L : Int) := by omega
    have hLle : L ≤ S.length := by omega
    have hLe := Lib.hid hL
    clear hL
    have hcut : Hid (Bs w8.drew (offA (some ⟨ba, off, none⟩) c L) (S.length - L) (c - L) (S.drop L)) := Lib.hid (by
      have hf := Bs.from (hs8.out.below (Joins.below_draws w8.heap.size w8 1)).bs hLle (Nat.le_refl _)
      rw [List.take_of_length_le (by rw [List.length_drop]; omega)] at hf
      exact hf)
    have hoff : offA (some ⟨ba, off, none⟩) c L = (if c = L then some (⟨ba, off, none⟩ : Addr) else some ⟨ba, off + L, none⟩) := by
      unfold offA
      split
      · rfl
      · show some (Addr.add ⟨ba, off, none⟩ L) = _
        unfold Addr.add
        rw [if_neg (by have := hLe.out; omega)]
    rw [hoff] at hcut
    have hoff' := Lib.hid hoff
    clear hoff
    obtain ⟨A1, hA1⟩ : ∃ A1, (if c = L then some (⟨ba, off, none⟩ : Addr) else some ⟨ba, off + L, none⟩) = A1 := ⟨_, rfl⟩
    rw [hA1] at hcut
    have hwL : IntKind.i64.wrap (L : Int) = (L : Int) := wrapN (by omega)
    have q1 : (0 : Int) ≤ (L : Int) ∧ (L : Int) ≤ (S.length : Int) := ⟨by omega, by omega⟩
    go_wp2_with fail
    have hq : Hid (∀ x, Below w8.heap.size w8 x → x.cell? ⟨b, 0, none⟩ = some (.slice (some ⟨ba, off, none⟩) S.length c) ∧ x.cell? ⟨b, 1, none⟩ = some (.int .i64 (K : Nat))) := Lib.hid fun x hx => ⟨(hs8.out.below hx).c0, (hs8.out.below hx).c1⟩
    have hdr : Hid (Below w8.heap.size w8 w8.drew) := Lib.hid (Joins.below_draws w8.heap.size w8 1)
    refine Pl.wp_region_plan 11 (.take 0 (.take 1 (.take 2 (.take 3 (.take 4 (.take 5 (.take 6 (.take 7 (.take 8 (.take 9 (.take 10 .done))))))))))) (fun x => x.cell? ⟨b, 0, none⟩ = some (.slice (some ⟨ba, off, none⟩) S.length c) ∧ x.cell? ⟨b, 1, none⟩ = some (.int .i64 (K : Nat))) (by kernel_rfl) (by kernel_rfl) (by exact hq.out _ hdr.out) ?_
    simp only [Pl.fill, List.getElem?_cons_zero, List.getElem?_cons_succ, List.drop_succ_cons, List.drop_zero]
    iterate 9
      first
      | (refine Pl.take_go ?_ (by rfl) (fun _ _ _ h => h) ?_ ?_
         rotate_left
         · (intro x hSw; (try dsimp only at hSw); (try obtain ⟨s0, s1⟩ := hSw); go_simp; try with_reducible rfl)
         (try simp only [Act.put, List.setIfInBounds_toArray, List.set_cons_zero, List.set_cons_succ]))
      | (refine Pl.take_skip (by rfl) (fun _ _ _ h => h) ?_
         (try simp only [Act.put, List.setIfInBounds_toArray, List.set_cons_zero, List.set_cons_succ]))
    refine Pl.take_go (.slice A1 (S.length - L) (c - L)) (by rfl) (fun _ _ _ h => h) ?_ ?_
    · intro x hSw
      go_simp
    try simp only [Act.put, List.setIfInBounds_toArray, List.set_cons_zero, List.set_cons_succ]
    iterate 1
      refine Pl.take_go ?_ (by rfl) (fun _ _ _ h => h) ?_ ?_
      rotate_left
      · (intro x hSw; (try dsimp only at hSw); go_simp; try with_reducible rfl)
      (try simp only [Act.put, List.setIfInBounds_toArray, List.set_cons_zero, List.set_cons_succ])
    refine Pl.done_go ?_
    go_wp2_with fail
    refine (byteB_any x0 w8.drew hcut.out).mono ?_
    rintro e w9 ⟨rfl, hww⟩
    subst hww
    have hs9 := Lib.hid (hs8.out.below hdr.out)
    have hg9 := Lib.hid (hg8.out.trans (grown_in (r := some b) hdr.out))
    generalize w8.drew = w9 at hs9 hg9 ⊢
    clear hq hdr hs8 hg8 hcut q1
    rw [hLe.out] at hfin
    cases hfi : find [x0] (S.drop L) with
    | none =>
      have hRn : Hid (R = none) := Lib.hid (by rw [hfin.out, hfi]; rfl)
      unfold idxV
      clear hfi
      go_wp2_with fail
      (try simp only [Exit.inBlock, Exit.then])
      go_ret2
      refine ⟨hg9.out, ?_⟩
      rw [hRn.out]
      exact rfl
    | some n =>
      obtain ⟨hn1, _⟩ := find_len hfi
      rw [List.length_drop] at hn1
      simp only [List.length_cons, List.length_nil] at hn1
      have hRn : Hid (R = some ((S.drop L).take n, K - k + (n + 2))) := Lib.hid (by rw [hfin.out, hfi]; rfl)
      unfold idxV
      clear hfi
      have n0 : decide ((n : Int) < 0) = false := by simp
      obtain ⟨M, hM⟩ : ∃ M, L + n = M := ⟨_, rfl⟩
      have hMI : (L : Int) + (n : Int) = (M : Int) := by omega
      have hwM : IntKind.i64.wrap (M : Int) = (M : Int) := wrapN (by omega)
      have q2 : (0 : Int) ≤ (L : Int) ∧ (L : Int) ≤ (M : Int) := ⟨by omega, by omega⟩
      have q3 : M ≤ S.length := by omega
      have hnM : M - L = n := by omega
      have hnM' := Lib.hid hnM
      have hcut : Bs w9 (offA (some ⟨ba, off, none⟩) c L) (M - L) (c - L) ((S.drop L).take (M - L)) := Bs.from hs9.out.bs (by omega) q3
      have hcv2 : Hid (∀ x, Below w9.heap.size w9 x → (convert 22 9 (.slice (offA (some ⟨ba, off, none⟩) c L) (M - L) (c - L))).run Tryz.prog x = .ok (.string (strOf ((S.drop L).take (M - L)))) x) := Lib.hid fun x hx => Bs.conv (Bs.below hcut hx) Tryz.underlying22 Tryz.underlying5 Tryz.underlying9
      rw [hoff'.out, hA1] at hcv2
      clear hM hnM hcut
      go_wp2_with fail
      have hq : Hid (∀ x, Below w9.heap.size w9 x → x.cell? ⟨b, 0, none⟩ = some (.slice (some ⟨ba, off, none⟩) S.length c) ∧ x.cell? ⟨b, 1, none⟩ = some (.int .i64 (K : Nat))) := Lib.hid fun x hx => ⟨(hs9.out.below hx).c0, (hs9.out.below hx).c1⟩
      have hdr : Hid (Below w9.heap.size w9 w9.drew) := Lib.hid (Joins.below_draws w9.heap.size w9 1)
      refine Pl.wp_region_plan 16 (.take 0 (.take 1 (.take 2 (.take 3 (.take 4 (.take 5 (.take 6 (.take 7 (.take 8 (.take 9 (.take 10 (.take 11 (.take 12 (.take 13 (.take 14 (.take 15 .done)))))))))))))))) (fun x => x.cell? ⟨b, 0, none⟩ = some (.slice (some ⟨ba, off, none⟩) S.length c) ∧ x.cell? ⟨b, 1, none⟩ = some (.int .i64 (K : Nat))) (by kernel_rfl) (by kernel_rfl) (by exact hq.out _ hdr.out) ?_
      simp only [Pl.fill, List.getElem?_cons_zero, List.getElem?_cons_succ, List.drop_succ_cons, List.drop_zero]
      iterate 16
        first
        | (refine Pl.take_go ?_ (by rfl) (fun _ _ _ h => h) ?_ ?_
           rotate_left
           · (intro x hSw; (try dsimp only at hSw); (try obtain ⟨s0, s1⟩ := hSw); go_simp; try with_reducible rfl)
           (try simp only [Act.put, List.setIfInBounds_toArray, List.set_cons_zero, List.set_cons_succ]))
        | (refine Pl.take_skip (by rfl) (fun _ _ _ h => h) ?_
           (try simp only [Act.put, List.setIfInBounds_toArray, List.set_cons_zero, List.set_cons_succ]))
      refine Pl.done_go ?_
      have hcv3 := hcv2.out _ hdr.out
      have hsA := Lib.hid (hs9.out.below hdr.out)
      have hgA := Lib.hid (hg9.out.trans (grown_in (r := some b) hdr.out))
      generalize w9.drew = wA at hcv3 hsA hgA ⊢
      clear hq hdr hs9 hg9 hcv2
      have c1 := hsA.out.c1
      have f1 := hsA.out.frozen 1
      go_wp2_with fail
      (try simp only [Exit.inBlock, Exit.then])
      go_ret2
      have h4 := hsA.out.set1 (K + (n + 2))
      have ee : ((K : Int) + ((n : Int) + 2)) = ((K + (n + 2) : Nat) : Int) := by omega
      try rw [ee]
      refine ⟨hgA.out.trans h4.2, ?_⟩
      rw [hRn.out]
      refine ⟨by rw [← hnM'.out]; rfl, ?_⟩
      have hk2 := hKk'.out.2
      show Xc _ b S (k + (K - k + (n + 2))) _ c vo
      rw [show k + (K - k + (n + 2)) = K + (n + 2) by omega]
      exact h4.1
  · have i0 : decide (S.length ≤ K) = true := by simp; omega
    clear c0 c1
    have hq : Hid (∀ x, Below w6.heap.size w6 x → x.cell? ⟨b, 0, none⟩ = some (.slice A S.length c) ∧ x.cell? ⟨b, 1, none⟩ = some (.int .i64 (K : Nat))) := Lib.hid fun x hx => ⟨(hs6'.out.below hx).c0, (hs6'.out.below hx).c1⟩
    have hdr : Hid (Below w6.heap.size w6 w6.drew) := Lib.hid (Joins.below_draws w6.heap.size w6 1)
    refine Pl.wp_region_plan 31 (.take 0 (.take 1 (.take 2 (.take 3 (.take 4 (.take 5 (.take 6 (.take 7 (.take 8 (.take 9 (.take 10 (.take 11 (.take 12 (.take 13 (.take 14 (.take 15 (.take 16 (.take 17 (.take 18 (.take 19 (.take 20 (.take 21 (.take 22 (.take 23 (.take 24 (.take 25 (.take 26 (.take 27 (.take 28 (.take 29 (.take 30 .done))))))))))))))))))))))))))))))) (fun x => x.cell? ⟨b, 0, none⟩ = some (.slice A S.length c) ∧ x.cell? ⟨b, 1, none⟩ = some (.int .i64 (K : Nat))) (by kernel_rfl) (by kernel_rfl) (by exact hq.out _ hdr.out) ?_
    simp only [Pl.fill, List.getElem?_cons_zero, List.getElem?_cons_succ, List.drop_succ_cons, List.drop_zero]
    iterate 31
      first
      | (refine Pl.take_go ?_ (by rfl) (fun _ _ _ h => h) ?_ ?_
         rotate_left
         · (intro x hSw; (try dsimp only at hSw); (try obtain ⟨s0, s1⟩ := hSw); go_simp; try with_reducible rfl)
         (try simp only [Act.put, List.setIfInBounds_toArray, List.set_cons_zero, List.set_cons_succ]))
      | (refine Pl.take_skip (by rfl) (fun _ _ _ h => h) ?_
         (try simp only [Act.put, List.setIfInBounds_toArray, List.set_cons_zero, List.set_cons_succ]))
    refine Pl.done_go ?_
    have hb7 := hdr.out
    clear hq
    go_wp2_with fail
    (try simp only [Exit.inBlock, Exit.then])
    go_ret2
    refine ⟨hg6'.out.trans (grown_in hb7), ?_⟩
    rw [← hR'.out, qu_end hp1'.out hB1'.out hp2'.out hB2'.out (by rw [hKe.out]; omega)]
    exact rfl
end
end Go.Proofs.YtcecmbbhjaeodaaGreatDoor.Xl
end

section
namespace Go.Proofs
open Go.Shelf Go.RowKit

shelf_lay Lays.n159 Nm 159 at Tryz as Tryz.lays159
theorem Tryz.extra159 : Builder.Extra Tryz.prog Tryz.lays159_ren where
  sizeBuilder := by kernel_rfl
  liesBuilder := by kernel_rfl
  t5 := Tryz.underlying5
  a5 := Tryz.lays187.a5
  z5 := Tryz.lays187.z5
  v5 := Tryz.lays187.v5
  infoByte := by kernel_rfl
  cellsByte := by kernel_rfl
  sizeByte := by kernel_rfl
  neB5 := by decide
end Go.Proofs
namespace Go.Proofs.YtcecmbbhjaeodaaGreatDoor.Xl
open Go.RowKit Go.Shelf UtfW

def utfT : Tx := [117, 116, 102, 45, 56]
/-- A row of the table gives no small ASCII letter but i and k beyond ASCII. -/
def rowOk (x : Lib.CaseRow) : Bool :=
  if x.delta 1 > 1114111 then decide (128 ≤ x.1)
  else decide (x.2.1 < 128) || decide (128 ≤ x.1) && (decide (128 ≤ (x.1 : Int) + x.delta 1) || decide (x.1 = x.2.1) && (decide ((x.1 : Int) + x.delta 1 = 105) || decide ((x.1 : Int) + x.delta 1 = 107)))
theorem rows_ok : Lib.caseT.all rowOk = true := by decide +kernel
theorem row_at {i : Nat} (h : i < Lib.caseA.size) : rowOk (Lib.caseA.getD i (0, 0, 0, 0, 0)) = true := by
  have hr2 := rows_ok
  unfold Lib.caseA at h ⊢
  generalize Lib.caseT = T at hr2 h ⊢
  have h2 : i < T.length := by simpa using h
  have hm : T.toArray.getD i (0, 0, 0, 0, 0) = T[i] := by
    rw [Array.getD_eq_getD_getElem?]
    simp [h2]
  rw [hm]
  exact List.all_eq_true.1 hr2 _ (List.getElem_mem h2)
theorem conv_hi (x : Lib.CaseRow) (r : Int) (hr : 128 ≤ r) (hlo : (x.1 : Int) ≤ r) (hhi : r ≤ (x.2.1 : Int)) (hrow : rowOk x = true) : 128 ≤ Lib.convertR 1 r x ∨ Lib.convertR 1 r x = 105 ∨ Lib.convertR 1 r x = 107 := by
  unfold rowOk at hrow
  unfold Lib.convertR
  split at hrow
  · rename_i hd
    rw [if_pos hd]
    have := of_decide_eq_true hrow
    left
    omega
  · rename_i hd
    rw [if_neg hd]
    simp only [Bool.or_eq_true, Bool.and_eq_true, decide_eq_true_eq] at hrow
    omega
theorem lowU_hi (r : Int) (hr : 128 ≤ r) : 128 ≤ Lib.toLowerU r ∨ Lib.toLowerU r = 105 ∨ Lib.toLowerU r = 107 := by
  unfold Lib.toLowerU
  rw [if_neg (by omega)]
  unfold Lib.toR Lib.lookupGo
  have hrow := @row_at
  generalize Lib.caseA = C at hrow ⊢
  cases hi : Lib.lookupIdx C r (C.size + 1) 0 C.size with
  | none => exact .inl hr
  | some i =>
    obtain ⟨hil, hlo, hhi⟩ := Lib.lookupIdx_some C r _ _ _ i hi
    exact conv_hi _ r hr hlo hhi (hrow hil)
theorem enc_head {v : Int} (h : 128 ≤ v ∨ v = 105 ∨ v = 107) : ∃ b t, Lib.encodeRune v = b :: t ∧ (128 ≤ b.toNat ∨ b = 105 ∨ b = 107) := by
  rcases h with h | rfl | rfl
  · unfold Lib.encodeRune Lib.encodeRuneZ
    rw [if_neg (by omega)]
    split
    · refine ⟨_, _, rfl, .inl ?_⟩
      simp
      omega
    · split
      · refine ⟨_, _, rfl, .inl ?_⟩
        simp
        omega
      · split
        · refine ⟨_, _, rfl, .inl ?_⟩
          simp
          omega
        · exact ⟨_, _, rfl, .inl (by decide)⟩
  · exact ⟨_, _, rfl, .inr (.inl rfl)⟩
  · exact ⟨_, _, rfl, .inr (.inr rfl)⟩
theorem dec_hi (b : UInt8) (t : Tx) (h : 128 ≤ b.toNat) : 128 ≤ (Lib.decodeL (b :: t)).1 := by
  rw [Lib.decodeL_N]
  exact decN_high h
theorem low_lower (b : UInt8) : Lib.lowerB b = low b := by
  have e : Lib.isUpperB b = decide (65 ≤ b.toNat ∧ b.toNat ≤ 90) := by
    unfold Lib.isUpperB
    rw [Bool.eq_iff_iff, Bool.and_eq_true, decide_eq_true_eq, decide_eq_true_eq, decide_eq_true_eq]
    exact Iff.rfl
  unfold Lib.lowerB low
  rw [e]
  by_cases h : 65 ≤ b.toNat ∧ b.toNat ≤ 90
  · rw [if_pos h, if_pos (decide_eq_true h)]
  · rw [if_neg h, if_neg (by rw [decide_eq_false h]; decide)]
theorem lower_ascii : ∀ (l t : Tx), Lib.toLowerD l = t → (∀ b ∈ t, b.toNat < 128 ∧ b ≠ 105 ∧ b ≠ 107) → ∀ b ∈ l, b.toNat < 128
  | [], _, _, _ => fun b hb => by cases hb
  | b :: l, t, h, ht => by
    unfold Lib.toLowerD at h
    rw [Lib.mapD_step Lib.toLowerU (b :: l) (by simp)] at h
    by_cases hb : b.toNat < 128
    · rw [Lib.decodeL_ascii b l hb] at h
      dsimp only at h
      rw [if_pos (Lib.toLowerU_range b.toNat (by omega)).1, Lib.lower_byte ⟨b.toNat, hb⟩, List.drop_succ_cons, List.drop_zero] at h
      subst h
      intro x hx
      rcases List.mem_cons.1 hx with rfl | hx
      · exact hb
      · exact lower_ascii l _ rfl (fun y hy => ht y (List.mem_append_right _ hy)) x hx
    · exfalso
      have h1 := lowU_hi ((Lib.decodeL (b :: l)).1 : Nat) (by have := dec_hi b l (by omega); omega)
      rw [if_pos (by omega)] at h
      obtain ⟨c, u, hc, hcc⟩ := enc_head h1
      rw [hc] at h
      have := ht c (by rw [← h]; simp)
      rcases hcc with e | e | e
      · omega
      · exact this.2.1 e
      · exact this.2.2 e
theorem lower_utf (l : Tx) : Lib.toLowerD l = utfT ↔ l.map low = utfT := by
  constructor
  · intro h
    have ha := lower_ascii l _ h (by decide)
    rw [Lib.toLowerD_ascii l ha] at h
    rw [← h]
    unfold Lib.toLowerA
    exact List.map_congr_left fun b _ => (low_lower b).symm
  · intro h
    have ha : ∀ b ∈ l, b.toNat < 128 := fun b hb => by
      have hm : low b ∈ utfT := by rw [← h]; exact List.mem_map_of_mem hb
      have h2 : ∀ x ∈ utfT, x.toNat < 128 := by decide
      have := h2 _ hm
      unfold low at this
      split at this
      · omega
      · exact this
    rw [Lib.toLowerD_ascii l ha, ← h]
    unfold Lib.toLowerA
    exact List.map_congr_left fun b _ => low_lower b
theorem lower_any (w : World) (hU : Un w) (s : Tx) (hs : s.length ≤ 65536) :
    Calls Tryz.prog 82 #[.string (strOf s)] w fun e w' => ∃ t, e = .returned (.string (strOf t)) ∧ decide (t = utfT) = decide (s.map low = utfT) ∧ Below w.heap.size w w' := by
  have hls : (strOf s).data.toList = s := by simp [strOf]
  refine (Any.strings_ToLower_any Tryz.lays159 Tryz.extra159 (strOf s) w (by rw [strOf_size' s]; omega) hU.case_ hU.ut.tabs).mono ?_
  rintro e w' ⟨rfl, hb⟩
  rw [hls]
  exact ⟨_, rfl, decide_eq_decide.2 (lower_utf s), hb⟩
end Go.Proofs.YtcecmbbhjaeodaaGreatDoor.Xl
end

section
namespace Go.Proofs.YtcecmbbhjaeodaaGreatDoor.Xl
open Go.RowKit UtfW

section
variable {r : Tx} {y : Tx} {n : Nat} {s : Bool}
theorem stand_off (h : Lib.hasPrefix r [115, 116, 97, 110, 100, 97, 108, 111, 110, 101] = false) : stand r s = decide (r = []) := by
  unfold stand staT
  rw [if_neg (by rw [h]; decide)]
theorem stand_none (h : Lib.hasPrefix r [115, 116, 97, 110, 100, 97, 108, 111, 110, 101] = true) (hq : quoted [115, 116, 97, 110, 100, 97, 108, 111, 110, 101] r = none) : stand r s = false := by
  unfold stand staT
  rw [if_pos h, hq]
theorem stand_some (h : Lib.hasPrefix r [115, 116, 97, 110, 100, 97, 108, 111, 110, 101] = true) (hq : quoted [115, 116, 97, 110, 100, 97, 108, 111, 110, 101] r = some (y, n)) : stand r s = (s && (decide (y = [121, 101, 115]) || decide (y = [110, 111])) && decide (n + blanks (r.drop n) = r.length)) := by
  unfold stand staT
  rw [if_pos h, hq]
theorem encd_off (h : Lib.hasPrefix r [101, 110, 99, 111, 100, 105, 110, 103] = false) : encd r s = stand r s := by
  unfold encd encT
  rw [if_neg (by rw [h]; decide)]
theorem encd_none (h : Lib.hasPrefix r [101, 110, 99, 111, 100, 105, 110, 103] = true) (hq : quoted [101, 110, 99, 111, 100, 105, 110, 103] r = none) : encd r s = false := by
  unfold encd encT
  rw [if_pos h, hq]
theorem encd_some (h : Lib.hasPrefix r [101, 110, 99, 111, 100, 105, 110, 103] = true) (hq : quoted [101, 110, 99, 111, 100, 105, 110, 103] r = some (y, n)) : encd r s = (s && decide (y.map low = utfT) && stand (r.drop (n + blanks (r.drop n))) (decide (0 < blanks (r.drop n)))) := by
  unfold encd encT
  rw [if_pos h, hq]
  rfl
theorem drop_nil {x : Tx} {K : Nat} (h : K ≤ x.length) : decide (x.drop K = []) = decide (K = x.length) := by
  rw [decide_eq_decide, List.drop_eq_nil_iff]
  omega
theorem quoted_len {w r t : Tx} {n : Nat} (h : quoted w r = some (t, n)) : n ≤ r.length := by
  unfold quoted at h
  split at h
  · split at h
    · split at h
      · cases h
      · rename_i q u hd
        split at h
        · cases hf : find [q] u with
          | none => rw [hf] at h; cases h
          | some m =>
            rw [hf] at h
            injection h with h
            injection h with h1 h2
            obtain ⟨g1, _⟩ := find_len hf
            have hl : (q :: u).length = r.length - (w.length + blanks (r.drop w.length) + 1 + blanks (r.drop (w.length + blanks (r.drop w.length) + 1))) := by rw [← hd, List.length_drop]
            simp only [List.length_cons, List.length_nil] at hl g1
            omega
        · cases h
    · cases h
  · cases h
theorem quoted_txt {w r t : Tx} {n : Nat} (h : quoted w r = some (t, n)) : t.length ≤ r.length := by
  unfold quoted at h
  split at h
  · split at h
    · split at h
      · cases h
      · rename_i q u hd
        split at h
        · cases hf : find [q] u with
          | none => rw [hf] at h; cases h
          | some m =>
            rw [hf] at h
            injection h with h
            injection h with h1 h2
            have hl : (q :: u).length = r.length - (w.length + blanks (r.drop w.length) + 1 + blanks (r.drop (w.length + blanks (r.drop w.length) + 1))) := by rw [← hd, List.length_drop]
            simp only [List.length_cons] at hl
            rw [← h1, List.length_take]
            omega
        · cases h
    · cases h
  · cases h
theorem str_ne (s t : Tx) : ((strOf s).toList != t) = !(decide (s = t)) := by
  unfold bne
  rw [str_eqL]
theorem dec_none {x : Tx} (h : blanks x = 0) : declared x = false := by
  unfold declared
  rw [h]
  rfl
theorem dec_some {x : Tx} {B : Nat} (h : blanks x = B) (h0 : 0 < B) : declared x = match quoted [118, 101, 114, 115, 105, 111, 110] (x.drop B) with
    | none => false
    | some (v, n) => decide (v = [49, 46, 48]) && encd (x.drop (B + n + blanks (x.drop (B + n)))) (decide (0 < blanks (x.drop (B + n)))) := by
  unfold declared verT
  rw [h, decide_eq_true h0, Bool.true_and]
  cases quoted [118, 101, 114, 115, 105, 111, 110] (x.drop B) with
  | none => rfl
  | some y => rfl
end

section
variable (w : World) (hU : Un w) (x : Tx) (hx : x.length ≤ 65536)
include hU hx
set_option maxHeartbeats 4000000 in
set_option maxRecDepth 100000 in
theorem declared_any : Calls Tryz.prog 61 #[.string (strOf x)] w fun e w' => e = .returned (.bool (declared x)) ∧ Below w.heap.size w w' := by
  obtain ⟨bd, cb, w1, hcv, hbs, hb1⟩ := conv_bytes w x (by omega)
  have hbA := below_alloc w1 (.cells #[.slice (some ⟨bd, 0, none⟩) x.length cb, .int .i64 0, .slice none 0 0] 53)
  have hnA := heap_alloc_new w1 (.cells #[.slice (some ⟨bd, 0, none⟩) x.length cb, .int .i64 0, .slice none 0 0] 53)
  have hne : ∀ a, (some ⟨bd, 0, none⟩ : Option Addr) = some a → 0 < x.length → a.block ≠ w1.heap.size := by
    intro a e h0
    obtain ⟨b9, off, e9, hlt, _⟩ := Rd.cell hbs h0
    rw [e] at e9
    injection e9 with e9
    rw [e9]
    exact Nat.ne_of_lt hlt
  have hs2 : Xc (w1.alloc (.cells #[.slice (some ⟨bd, 0, none⟩) x.length cb, .int .i64 0, .slice none 0 0] 53)) w1.heap.size x 0 (some ⟨bd, 0, none⟩) cb (.slice none 0 0) :=
    ⟨⟨w, hU, hb1.size, hb1.trans (hbA.mono hb1.size)⟩, hnA, Bs.below hbs hbA, hne⟩
  have hs2' := Lib.hid hs2
  have hb2' := Lib.hid (hb1.trans (hbA.mono hb1.size))
  have hbw := Lib.hid hb1.size
  obtain ⟨R, hR⟩ : ∃ R, declared x = R := ⟨_, rfl⟩
  rw [hR]
  have hR0 := Lib.hid hR
  clear hR hs2 hbA hnA hne hbs hb1
  go_enter Tryz.func61, Tryz.ntmps61
  go_upto_region 2 with fail
  generalize w1.alloc (.cells #[.slice (some ⟨bd, 0, none⟩) x.length cb, .int .i64 0, .slice none 0 0] 53) = w2 at hs2' hb2' ⊢
  clear hcv
  generalize w1.heap.size = b at hs2' hbw ⊢
  go_wp2_with fail
  refine (blanks_any w2 b x 0 _ cb _ hs2'.out (by omega) hx).mono ?_
  rintro e w3 ⟨rfl, hs3, hg3⟩
  rw [List.drop_zero, Nat.zero_add] at hs3
  rw [List.drop_zero]
  have hBl := blanks_le x
  obtain ⟨B, hBe⟩ : ∃ B, blanks x = B := ⟨_, rfl⟩
  rw [hBe] at hs3 hBl ⊢
  have hB' := Lib.hid hBe
  have hs3' := Lib.hid hs3
  have hb3 := Lib.hid (hb2'.out.trans (below_row hg3 hbw.out hb2'.out.size))
  clear hs3 hg3 hBe hs2' hb2'
  by_cases hB0 : B = 0
  · have hR' : Hid (declared x = R) := hR0
    have hB0' := Lib.hid (hB'.out.trans hB0)
    have i0 : decide (0 < B) = false := by simp; omega
    rw [i0]
    clear hB0 i0
    go_wp2_with fail
    (try simp only [Exit.inBlock, Exit.then])
    go_ret
    exact ⟨ret_bool (by rw [← hR'.out, dec_none hB0'.out]), hb3.out⟩
  have i0 : decide (0 < B) = true := by simp; omega
  rw [i0]
  have hBp : 0 < B := by omega
  have hds := Lib.hid (dec_some hB'.out hBp)
  clear hB0 i0
  go_wp2_with fail
  refine (quoted_any w3 b x B _ cb _ hs3'.out hBl hx [118, 101, 114, 115, 105, 111, 110] (by decide)).mono ?_
  rintro e w4 ⟨hg4, hG⟩
  have hb4 := Lib.hid (hb3.out.trans (below_row hg4 hbw.out hb3.out.size))
  cases hq : quoted [118, 101, 114, 115, 105, 111, 110] (x.drop B) with
  | none =>
    rw [hq] at hG hds
    subst hG
    have hR' : Hid (declared x = R) := hR0
    clear hq
    go_wp2_with fail
    (try simp only [Exit.inBlock, Exit.then])
    go_ret
    exact ⟨ret_bool (by rw [← hR'.out, hds.out]), hb4.out⟩
  | some vn =>
    obtain ⟨v, n⟩ := vn
    have hnl := quoted_len hq
    rw [List.length_drop] at hnl
    rw [hq] at hG hds
    obtain ⟨rfl, hs4⟩ := hG
    have hs4' := Lib.hid hs4
    clear hq hs4 hg4 hs3' hb3
    have s1 := str_eqL v [49, 46, 48]
    by_cases hv : v = [49, 46, 48]
    · have hR1 : Hid (encd (x.drop (B + n + blanks (x.drop (B + n)))) (decide (0 < blanks (x.drop (B + n)))) = R) := Lib.hid (by
        rw [← hR0.out, hds.out]
        simp only [decide_eq_true hv, Bool.true_and])
      rw [decide_eq_true hv] at s1
      have hn2 : B + n ≤ x.length := by omega
      clear hv hds
      go_wp2_with fail
      refine (blanks_any w4 b x (B + n) _ cb _ hs4'.out hn2 hx).mono ?_
      rintro e w5 ⟨rfl, hs5, hg5⟩
      have hBl2 := blanks_le (x.drop (B + n))
      rw [List.length_drop] at hBl2
      obtain ⟨B2, hBe⟩ : ∃ B2, blanks (x.drop (B + n)) = B2 := ⟨_, rfl⟩
      rw [hBe] at hs5 hBl2 hR1 ⊢
      obtain ⟨K0, hK0⟩ : ∃ K0, B + n + B2 = K0 := ⟨_, rfl⟩
      rw [hK0] at hs5 hR1
      have hKl : K0 ≤ x.length := by omega
      obtain ⟨sm, hsm⟩ : ∃ sm, decide (0 < B2) = sm := ⟨_, rfl⟩
      rw [hsm] at hR1 ⊢
      have hs5' := Lib.hid hs5
      have hb5 := Lib.hid (hb4.out.trans (below_row hg5 hbw.out hb4.out.size))
      clear hs5 hg5 hBe hK0 hsm hs4' hb4 s1 hnl hn2 hBl hBl2 hBp
      go_wp2_with fail
      refine (has_any w5 b x K0 _ cb _ hs5'.out hKl hx [101, 110, 99, 111, 100, 105, 110, 103] (by decide)).mono ?_
      rintro e w6 ⟨rfl, hb6⟩
      have hs6 := Lib.hid (hs5'.out.below hb6)
      have hb6' := Lib.hid (hb5.out.trans (hb6.mono hb5.out.size))
      clear hb6 hs5' hb5
      cases hpe : Lib.hasPrefix (x.drop K0) [101, 110, 99, 111, 100, 105, 110, 103] with
      | true =>
        have hpe' := Lib.hid hpe
        clear hpe
        go_wp2_with fail
        refine (quoted_any w6 b x K0 _ cb _ hs6.out hKl hx [101, 110, 99, 111, 100, 105, 110, 103] (by decide)).mono ?_
        rintro e w7 ⟨hg7, hG⟩
        have hb7 := Lib.hid (hb6'.out.trans (below_row hg7 hbw.out hb6'.out.size))
        cases hq : quoted [101, 110, 99, 111, 100, 105, 110, 103] (x.drop K0) with
        | none =>
          rw [hq] at hG
          subst hG
          have hR' : Hid (encd (x.drop K0) sm = R) := hR1
          have hq' := Lib.hid hq
          clear hq
          cases sm with
          | false =>
            go_wp2_with fail
            (try simp only [Exit.inBlock, Exit.then])
            go_ret
            exact ⟨ret_bool (by rw [← hR'.out, encd_none hpe'.out hq'.out]), hb7.out⟩
          | true =>
            go_wp2_with fail
            (try simp only [Exit.inBlock, Exit.then])
            go_ret
            exact ⟨ret_bool (by rw [← hR'.out, encd_none hpe'.out hq'.out]), hb7.out⟩
        | some yn =>
          obtain ⟨y0, m⟩ := yn
          rw [hq] at hG
          obtain ⟨rfl, hs7⟩ := hG
          have hs7' := Lib.hid hs7
          have hq' := Lib.hid hq
          have hml := quoted_len hq
          rw [List.length_drop] at hml
          have hes := Lib.hid (encd_some (s := sm) hpe'.out hq'.out)
          have hyl : y0.length ≤ 65536 := by
            have := quoted_txt hq
            rw [List.length_drop] at this
            omega
          clear hq hs7 hg7 hs6 hb6'
          cases sm with
          | false =>
            have hR' : Hid (encd (x.drop K0) false = R) := hR1
            go_wp2_with fail
            (try simp only [Exit.inBlock, Exit.then])
            go_ret
            exact ⟨ret_bool (by rw [← hR'.out, hes.out, Bool.false_and, Bool.false_and]), hb7.out⟩
          | true =>
          go_wp2_with fail
          refine (lower_any w7 hs7'.out.us.un y0 hyl).mono ?_
          rintro e w8 ⟨tl, rfl, htl, hb8⟩
          have hs8 := Lib.hid (hs7'.out.below hb8)
          have hb8' := Lib.hid (hb7.out.trans (hb8.mono hb7.out.size))
          clear hb8 hs7' hb7
          have s2 := str_eqL tl [117, 116, 102, 45, 56]
          have htl' : decide (tl = [117, 116, 102, 45, 56]) = decide (y0.map low = utfT) := htl
          rw [htl'] at s2
          clear htl htl'
          have hn3 : K0 + m ≤ x.length := by omega
          have hR2 : Hid ((decide (y0.map low = utfT) && stand (x.drop (K0 + m + blanks (x.drop (K0 + m)))) (decide (0 < blanks (x.drop (K0 + m))))) = R) := Lib.hid (by
            rw [← hR1.out, hes.out, Bool.true_and, List.drop_drop, List.drop_drop, ← Nat.add_assoc])
          clear hes hR1
          cases hlo : decide (y0.map low = utfT) with
          | false =>
            rw [hlo] at s2 hR2
            have hR' := hR2
            clear hlo
            go_wp2_with fail
            (try simp only [Exit.inBlock, Exit.then])
            go_ret
            exact ⟨ret_bool (by rw [← hR'.out, Bool.false_and]), hb8'.out⟩
          | true =>
          rw [hlo, Bool.true_and] at hR2
          rw [hlo] at s2
          clear hlo
          go_wp2_with fail
          refine (blanks_any w8 b x (K0 + m) _ cb _ hs8.out hn3 hx).mono ?_
          rintro e wS ⟨rfl, hs9, hg9⟩
          have hBl2 := blanks_le (x.drop (K0 + m))
          rw [List.length_drop] at hBl2
          obtain ⟨B3, hBe⟩ : ∃ B3, blanks (x.drop (K0 + m)) = B3 := ⟨_, rfl⟩
          rw [hBe] at hs9 hBl2 hR2 ⊢
          obtain ⟨K, hK0⟩ : ∃ K, K0 + m + B3 = K := ⟨_, rfl⟩
          rw [hK0] at hs9 hR2
          have hK : K ≤ x.length := by omega
          obtain ⟨sm, hsm⟩ : ∃ sm, decide (0 < B3) = sm := ⟨_, rfl⟩
          rw [hsm] at hR2 ⊢
          have hsS := Lib.hid hs9
          have hbS := Lib.hid (hb8'.out.trans (below_row hg9 hbw.out hb8'.out.size))
          have hR' := hR2
          clear hs9 hg9 hBe hK0 hsm hs8 hb8' s2 hR2 hml hyl hn3 hBl2 hKl
          go_wp2_with fail
          refine (has_any wS b x K _ cb _ hsS.out hK hx [115, 116, 97, 110, 100, 97, 108, 111, 110, 101] (by decide)).mono ?_
          rintro e wa ⟨rfl, hba⟩
          have hsa := Lib.hid (hsS.out.below hba)
          have hbb := Lib.hid (hbS.out.trans (hba.mono hbS.out.size))
          clear hba hsS hbS
          cases hp : Lib.hasPrefix (x.drop K) [115, 116, 97, 110, 100, 97, 108, 111, 110, 101] with
          | false =>
            have hp' := Lib.hid hp
            clear hp
            have c0 := hsa.out.c0
            have c1 := hsa.out.c1
            by_cases hend : K = x.length
            · have i0 : (((K : Nat) : Int) == (x.length : Int)) = true := by rw [hend]; simp
              have hend' := Lib.hid hend
              clear hend
              go_wp2_with fail
              go_big_quiet (fail)
              have hbq := Joins.below_draws wa.heap.size wa nq
              go_wp2_with fail
              (try simp only [Exit.inBlock, Exit.then])
              go_ret
              have hend := hend'.out
              exact ⟨ret_bool (by rw [← hR'.out, stand_off hp'.out, drop_nil hK]; first | exact (decide_eq_true (by omega)) | (rw [Bool.eq_iff_iff, beq_iff_eq, decide_eq_true_eq]; omega) | exact (decide_eq_true (by omega)).symm | (symm; simp; omega) | (simp; omega)), hbb.out.trans (hbq.mono hbb.out.size)⟩
            · have i0 : (((K : Nat) : Int) == (x.length : Int)) = false := by rw [beq_eq_false_iff_ne]; omega
              have hend' := Lib.hid hend
              clear hend
              go_wp2_with fail
              go_big_quiet (fail)
              have hbq := Joins.below_draws wa.heap.size wa nq
              go_wp2_with fail
              (try simp only [Exit.inBlock, Exit.then])
              go_ret
              have hend := hend'.out
              exact ⟨ret_bool (by rw [← hR'.out, stand_off hp'.out, drop_nil hK]; first | exact (decide_eq_false (by omega)) | (rw [Bool.eq_iff_iff, beq_iff_eq, decide_eq_true_eq]; omega) | exact (decide_eq_false (by omega)).symm | (symm; simp; omega) | (simp; omega)), hbb.out.trans (hbq.mono hbb.out.size)⟩
          | true =>
            have hp' := Lib.hid hp
            clear hp
            go_wp2_with fail
            refine (quoted_any wa b x K _ cb _ hsa.out hK hx [115, 116, 97, 110, 100, 97, 108, 111, 110, 101] (by decide)).mono ?_
            rintro e wb ⟨hgb, hG⟩
            have hbB := Lib.hid (hbb.out.trans (below_row hgb hbw.out hbb.out.size))
            cases hq : quoted [115, 116, 97, 110, 100, 97, 108, 111, 110, 101] (x.drop K) with
            | none =>
              rw [hq] at hG
              subst hG
              have hq' := Lib.hid hq
              clear hq
              cases sm with
              | false =>
                go_wp2_with fail
                (try simp only [Exit.inBlock, Exit.then])
                go_ret
                exact ⟨ret_bool (by rw [← hR'.out, stand_none hp'.out hq'.out]), hbB.out⟩
              | true =>
                go_wp2_with fail
                (try simp only [Exit.inBlock, Exit.then])
                go_ret
                exact ⟨ret_bool (by rw [← hR'.out, stand_none hp'.out hq'.out]), hbB.out⟩
            | some yn =>
              obtain ⟨y, n⟩ := yn
              rw [hq] at hG
              obtain ⟨rfl, hsb⟩ := hG
              have hsb' := Lib.hid hsb
              have hq' := Lib.hid hq
              clear hq hsb hgb
              cases sm with
              | false =>
                go_wp2_with fail
                (try simp only [Exit.inBlock, Exit.then])
                go_ret
                exact ⟨ret_bool (by rw [← hR'.out, stand_some hp'.out hq'.out, Bool.false_and, Bool.false_and]), hbB.out⟩
              | true =>
              have hnl := Lib.hid (quoted_len hq'.out)
              have hn2 : K + n ≤ x.length := by
                have := hnl.out
                rw [List.length_drop] at this
                omega
              by_cases hy1 : y = [121, 101, 115]
              · have hys : Hid ((decide (y = [121, 101, 115]) || decide (y = [110, 111])) = true) := Lib.hid (by
                  rw [decide_eq_true hy1]; rfl)
                have s1 := str_eqL y [121, 101, 115]
                rw [decide_eq_true hy1] at s1
                clear hy1
                go_wp2_with fail
                refine (blanks_any wb b x (K + n) _ cb _ hsb'.out hn2 hx).mono ?_
                rintro e wd ⟨rfl, hsd, hgd⟩
                have hsd' := Lib.hid hsd
                have hbd := Lib.hid (hbB.out.trans (below_row hgd hbw.out hbB.out.size))
                have hBl := blanks_le (x.drop (K + n))
                rw [List.length_drop] at hBl
                obtain ⟨B, hBe⟩ : ∃ B, blanks (x.drop (K + n)) = B := ⟨_, rfl⟩
                rw [hBe] at hsd' hBl
                have hB' := Lib.hid hBe
                clear hsd hgd hBe hsb' hbB s1
                have hkk : Hid (decide (n + B = (x.drop K).length) = decide (K + n + B = x.length)) := Lib.hid (by rw [List.length_drop, decide_eq_decide]; omega)
                have hBd : Hid (blanks ((x.drop K).drop n) = B) := Lib.hid (by rw [List.drop_drop]; exact hB'.out)
                have c0 := hsd'.out.c0
                have c1 := hsd'.out.c1
                by_cases hend : K + n + B = x.length
                · have i0 : (((K + n + B : Nat) : Int) == (x.length : Int)) = true := by rw [hend]; simp
                  have hend' := Lib.hid hend
                  clear hend
                  go_wp2_with fail
                  go_big_quiet (fail)
                  have hbq := Joins.below_draws wd.heap.size wd nq
                  go_wp2_with fail
                  (try simp only [Exit.inBlock, Exit.then])
                  go_ret
                  have hend := hend'.out
                  exact ⟨ret_bool (by rw [← hR'.out, stand_some hp'.out hq'.out, hys.out, hBd.out, hkk.out, Bool.true_and, Bool.true_and]; first | exact (decide_eq_true (by omega)) | (rw [Bool.eq_iff_iff, beq_iff_eq, decide_eq_true_eq]; omega) | exact (decide_eq_true (by omega)).symm | (symm; simp; omega) | (simp; omega)), hbd.out.trans (hbq.mono hbd.out.size)⟩
                · have i0 : (((K + n + B : Nat) : Int) == (x.length : Int)) = false := by rw [beq_eq_false_iff_ne]; omega
                  have hend' := Lib.hid hend
                  clear hend
                  go_wp2_with fail
                  go_big_quiet (fail)
                  have hbq := Joins.below_draws wd.heap.size wd nq
                  go_wp2_with fail
                  (try simp only [Exit.inBlock, Exit.then])
                  go_ret
                  have hend := hend'.out
                  exact ⟨ret_bool (by rw [← hR'.out, stand_some hp'.out hq'.out, hys.out, hBd.out, hkk.out, Bool.true_and, Bool.true_and]; first | exact (decide_eq_false (by omega)) | (rw [Bool.eq_iff_iff, beq_iff_eq, decide_eq_true_eq]; omega) | exact (decide_eq_false (by omega)).symm | (symm; simp; omega) | (simp; omega)), hbd.out.trans (hbq.mono hbd.out.size)⟩
              by_cases hy2 : y = [110, 111]
              · have hys : Hid ((decide (y = [121, 101, 115]) || decide (y = [110, 111])) = true) := Lib.hid (by
                  rw [decide_eq_true hy2, Bool.or_true])
                have s1 := str_eqL y [121, 101, 115]
                have s2 := str_eqL y [110, 111]
                rw [decide_eq_false hy1] at s1
                rw [decide_eq_true hy2] at s2
                clear hy1 hy2
                go_wp2_with fail
                refine (blanks_any wb b x (K + n) _ cb _ hsb'.out hn2 hx).mono ?_
                rintro e wd ⟨rfl, hsd, hgd⟩
                have hsd' := Lib.hid hsd
                have hbd := Lib.hid (hbB.out.trans (below_row hgd hbw.out hbB.out.size))
                have hBl := blanks_le (x.drop (K + n))
                rw [List.length_drop] at hBl
                obtain ⟨B, hBe⟩ : ∃ B, blanks (x.drop (K + n)) = B := ⟨_, rfl⟩
                rw [hBe] at hsd' hBl
                have hB' := Lib.hid hBe
                clear hsd hgd hBe hsb' hbB s1
                have hkk : Hid (decide (n + B = (x.drop K).length) = decide (K + n + B = x.length)) := Lib.hid (by rw [List.length_drop, decide_eq_decide]; omega)
                have hBd : Hid (blanks ((x.drop K).drop n) = B) := Lib.hid (by rw [List.drop_drop]; exact hB'.out)
                have c0 := hsd'.out.c0
                have c1 := hsd'.out.c1
                by_cases hend : K + n + B = x.length
                · have i0 : (((K + n + B : Nat) : Int) == (x.length : Int)) = true := by rw [hend]; simp
                  have hend' := Lib.hid hend
                  clear hend
                  go_wp2_with fail
                  go_big_quiet (fail)
                  have hbq := Joins.below_draws wd.heap.size wd nq
                  go_wp2_with fail
                  (try simp only [Exit.inBlock, Exit.then])
                  go_ret
                  have hend := hend'.out
                  exact ⟨ret_bool (by rw [← hR'.out, stand_some hp'.out hq'.out, hys.out, hBd.out, hkk.out, Bool.true_and, Bool.true_and]; first | exact (decide_eq_true (by omega)) | (rw [Bool.eq_iff_iff, beq_iff_eq, decide_eq_true_eq]; omega) | exact (decide_eq_true (by omega)).symm | (symm; simp; omega) | (simp; omega)), hbd.out.trans (hbq.mono hbd.out.size)⟩
                · have i0 : (((K + n + B : Nat) : Int) == (x.length : Int)) = false := by rw [beq_eq_false_iff_ne]; omega
                  have hend' := Lib.hid hend
                  clear hend
                  go_wp2_with fail
                  go_big_quiet (fail)
                  have hbq := Joins.below_draws wd.heap.size wd nq
                  go_wp2_with fail
                  (try simp only [Exit.inBlock, Exit.then])
                  go_ret
                  have hend := hend'.out
                  exact ⟨ret_bool (by rw [← hR'.out, stand_some hp'.out hq'.out, hys.out, hBd.out, hkk.out, Bool.true_and, Bool.true_and]; first | exact (decide_eq_false (by omega)) | (rw [Bool.eq_iff_iff, beq_iff_eq, decide_eq_true_eq]; omega) | exact (decide_eq_false (by omega)).symm | (symm; simp; omega) | (simp; omega)), hbd.out.trans (hbq.mono hbd.out.size)⟩
              have hys : Hid ((decide (y = [121, 101, 115]) || decide (y = [110, 111])) = false) := Lib.hid (by
                rw [decide_eq_false hy1, decide_eq_false hy2]; rfl)
              have s1 := str_eqL y [121, 101, 115]
              have s2 := str_eqL y [110, 111]
              rw [decide_eq_false hy1] at s1
              rw [decide_eq_false hy2] at s2
              clear hy1 hy2
              go_wp2_with fail
              (try simp only [Exit.inBlock, Exit.then])
              go_ret
              exact ⟨ret_bool (by rw [← hR'.out, stand_some hp'.out hq'.out, hys.out, Bool.and_false, Bool.false_and]), hbB.out⟩
      | false =>
        have hpe' := Lib.hid hpe
        clear hpe
        have hR' : Hid (stand (x.drop K0) sm = R) := Lib.hid (by rw [← hR1.out, encd_off hpe'.out])
        clear hR1
        have hsS := hs6
        have hbS := hb6'
        have hK := hKl
        clear hs6 hb6' hKl
        generalize hww : w6 = wS at hsS hbS ⊢
        generalize hKK : K0 = K at hsS hR' hK ⊢
        clear hww hKK
        go_wp2_with fail
        refine (has_any wS b x K _ cb _ hsS.out hK hx [115, 116, 97, 110, 100, 97, 108, 111, 110, 101] (by decide)).mono ?_
        rintro e wa ⟨rfl, hba⟩
        have hsa := Lib.hid (hsS.out.below hba)
        have hbb := Lib.hid (hbS.out.trans (hba.mono hbS.out.size))
        clear hba hsS hbS
        cases hp : Lib.hasPrefix (x.drop K) [115, 116, 97, 110, 100, 97, 108, 111, 110, 101] with
        | false =>
          have hp' := Lib.hid hp
          clear hp
          have c0 := hsa.out.c0
          have c1 := hsa.out.c1
          by_cases hend : K = x.length
          · have i0 : (((K : Nat) : Int) == (x.length : Int)) = true := by rw [hend]; simp
            have hend' := Lib.hid hend
            clear hend
            go_wp2_with fail
            go_big_quiet (fail)
            have hbq := Joins.below_draws wa.heap.size wa nq
            go_wp2_with fail
            (try simp only [Exit.inBlock, Exit.then])
            go_ret
            have hend := hend'.out
            exact ⟨ret_bool (by rw [← hR'.out, stand_off hp'.out, drop_nil hK]; first | exact (decide_eq_true (by omega)) | (rw [Bool.eq_iff_iff, beq_iff_eq, decide_eq_true_eq]; omega) | exact (decide_eq_true (by omega)).symm | (symm; simp; omega) | (simp; omega)), hbb.out.trans (hbq.mono hbb.out.size)⟩
          · have i0 : (((K : Nat) : Int) == (x.length : Int)) = false := by rw [beq_eq_false_iff_ne]; omega
            have hend' := Lib.hid hend
            clear hend
            go_wp2_with fail
            go_big_quiet (fail)
            have hbq := Joins.below_draws wa.heap.size wa nq
            go_wp2_with fail
            (try simp only [Exit.inBlock, Exit.then])
            go_ret
            have hend := hend'.out
            exact ⟨ret_bool (by rw [← hR'.out, stand_off hp'.out, drop_nil hK]; first | exact (decide_eq_false (by omega)) | (rw [Bool.eq_iff_iff, beq_iff_eq, decide_eq_true_eq]; omega) | exact (decide_eq_false (by omega)).symm | (symm; simp; omega) | (simp; omega)), hbb.out.trans (hbq.mono hbb.out.size)⟩
        | true =>
          have hp' := Lib.hid hp
          clear hp
          go_wp2_with fail
          refine (quoted_any wa b x K _ cb _ hsa.out hK hx [115, 116, 97, 110, 100, 97, 108, 111, 110, 101] (by decide)).mono ?_
          rintro e wb ⟨hgb, hG⟩
          have hbB := Lib.hid (hbb.out.trans (below_row hgb hbw.out hbb.out.size))
          cases hq : quoted [115, 116, 97, 110, 100, 97, 108, 111, 110, 101] (x.drop K) with
          | none =>
            rw [hq] at hG
            subst hG
            have hq' := Lib.hid hq
            clear hq
            cases sm with
            | false =>
              go_wp2_with fail
              (try simp only [Exit.inBlock, Exit.then])
              go_ret
              exact ⟨ret_bool (by rw [← hR'.out, stand_none hp'.out hq'.out]), hbB.out⟩
            | true =>
              go_wp2_with fail
              (try simp only [Exit.inBlock, Exit.then])
              go_ret
              exact ⟨ret_bool (by rw [← hR'.out, stand_none hp'.out hq'.out]), hbB.out⟩
          | some yn =>
            obtain ⟨y, n⟩ := yn
            rw [hq] at hG
            obtain ⟨rfl, hsb⟩ := hG
            have hsb' := Lib.hid hsb
            have hq' := Lib.hid hq
            clear hq hsb hgb
            cases sm with
            | false =>
              go_wp2_with fail
              (try simp only [Exit.inBlock, Exit.then])
              go_ret
              exact ⟨ret_bool (by rw [← hR'.out, stand_some hp'.out hq'.out, Bool.false_and, Bool.false_and]), hbB.out⟩
            | true =>
            have hnl := Lib.hid (quoted_len hq'.out)
            have hn2 : K + n ≤ x.length := by
              have := hnl.out
              rw [List.length_drop] at this
              omega
            by_cases hy1 : y = [121, 101, 115]
            · have hys : Hid ((decide (y = [121, 101, 115]) || decide (y = [110, 111])) = true) := Lib.hid (by
                rw [decide_eq_true hy1]; rfl)
              have s1 := str_eqL y [121, 101, 115]
              rw [decide_eq_true hy1] at s1
              clear hy1
              go_wp2_with fail
              refine (blanks_any wb b x (K + n) _ cb _ hsb'.out hn2 hx).mono ?_
              rintro e wd ⟨rfl, hsd, hgd⟩
              have hsd' := Lib.hid hsd
              have hbd := Lib.hid (hbB.out.trans (below_row hgd hbw.out hbB.out.size))
              have hBl := blanks_le (x.drop (K + n))
              rw [List.length_drop] at hBl
              obtain ⟨B, hBe⟩ : ∃ B, blanks (x.drop (K + n)) = B := ⟨_, rfl⟩
              rw [hBe] at hsd' hBl
              have hB' := Lib.hid hBe
              clear hsd hgd hBe hsb' hbB s1
              have hkk : Hid (decide (n + B = (x.drop K).length) = decide (K + n + B = x.length)) := Lib.hid (by rw [List.length_drop, decide_eq_decide]; omega)
              have hBd : Hid (blanks ((x.drop K).drop n) = B) := Lib.hid (by rw [List.drop_drop]; exact hB'.out)
              have c0 := hsd'.out.c0
              have c1 := hsd'.out.c1
              by_cases hend : K + n + B = x.length
              · have i0 : (((K + n + B : Nat) : Int) == (x.length : Int)) = true := by rw [hend]; simp
                have hend' := Lib.hid hend
                clear hend
                go_wp2_with fail
                go_big_quiet (fail)
                have hbq := Joins.below_draws wd.heap.size wd nq
                go_wp2_with fail
                (try simp only [Exit.inBlock, Exit.then])
                go_ret
                have hend := hend'.out
                exact ⟨ret_bool (by rw [← hR'.out, stand_some hp'.out hq'.out, hys.out, hBd.out, hkk.out, Bool.true_and, Bool.true_and]; first | exact (decide_eq_true (by omega)) | (rw [Bool.eq_iff_iff, beq_iff_eq, decide_eq_true_eq]; omega) | exact (decide_eq_true (by omega)).symm | (symm; simp; omega) | (simp; omega)), hbd.out.trans (hbq.mono hbd.out.size)⟩
              · have i0 : (((K + n + B : Nat) : Int) == (x.length : Int)) = false := by rw [beq_eq_false_iff_ne]; omega
                have hend' := Lib.hid hend
                clear hend
                go_wp2_with fail
                go_big_quiet (fail)
                have hbq := Joins.below_draws wd.heap.size wd nq
                go_wp2_with fail
                (try simp only [Exit.inBlock, Exit.then])
                go_ret
                have hend := hend'.out
                exact ⟨ret_bool (by rw [← hR'.out, stand_some hp'.out hq'.out, hys.out, hBd.out, hkk.out, Bool.true_and, Bool.true_and]; first | exact (decide_eq_false (by omega)) | (rw [Bool.eq_iff_iff, beq_iff_eq, decide_eq_true_eq]; omega) | exact (decide_eq_false (by omega)).symm | (symm; simp; omega) | (simp; omega)), hbd.out.trans (hbq.mono hbd.out.size)⟩
            by_cases hy2 : y = [110, 111]
            · have hys : Hid ((decide (y = [121, 101, 115]) || decide (y = [110, 111])) = true) := Lib.hid (by
                rw [decide_eq_true hy2, Bool.or_true])
              have s1 := str_eqL y [121, 101, 115]
              have s2 := str_eqL y [110, 111]
              rw [decide_eq_false hy1] at s1
              rw [decide_eq_true hy2] at s2
              clear hy1 hy2
              go_wp2_with fail
              refine (blanks_any wb b x (K + n) _ cb _ hsb'.out hn2 hx).mono ?_
              rintro e wd ⟨rfl, hsd, hgd⟩
              have hsd' := Lib.hid hsd
              have hbd := Lib.hid (hbB.out.trans (below_row hgd hbw.out hbB.out.size))
              have hBl := blanks_le (x.drop (K + n))
              rw [List.length_drop] at hBl
              obtain ⟨B, hBe⟩ : ∃ B, blanks (x.drop (K + n)) = B := ⟨_, rfl⟩
              rw [hBe] at hsd' hBl
              have hB' := Lib.hid hBe
              clear hsd hgd hBe hsb' hbB s1
              have hkk : Hid (decide (n + B = (x.drop K).length) = decide (K + n + B = x.length)) := Lib.hid (by rw [List.length_drop, decide_eq_decide]; omega)
              have hBd : Hid (blanks ((x.drop K).drop n) = B) := Lib.hid (by rw [List.drop_drop]; exact hB'.out)
              have c0 := hsd'.out.c0
              have c1 := hsd'.out.c1
              by_cases hend : K + n + B = x.length
              · have i0 : (((K + n + B : Nat) : Int) == (x.length : Int)) = true := by rw [hend]; simp
                have hend' := Lib.hid hend
                clear hend
                go_wp2_with fail
                go_big_quiet (fail)
                have hbq := Joins.below_draws wd.heap.size wd nq
                go_wp2_with fail
                (try simp only [Exit.inBlock, Exit.then])
                go_ret
                have hend := hend'.out
                exact ⟨ret_bool (by rw [← hR'.out, stand_some hp'.out hq'.out, hys.out, hBd.out, hkk.out, Bool.true_and, Bool.true_and]; first | exact (decide_eq_true (by omega)) | (rw [Bool.eq_iff_iff, beq_iff_eq, decide_eq_true_eq]; omega) | exact (decide_eq_true (by omega)).symm | (symm; simp; omega) | (simp; omega)), hbd.out.trans (hbq.mono hbd.out.size)⟩
              · have i0 : (((K + n + B : Nat) : Int) == (x.length : Int)) = false := by rw [beq_eq_false_iff_ne]; omega
                have hend' := Lib.hid hend
                clear hend
                go_wp2_with fail
                go_big_quiet (fail)
                have hbq := Joins.below_draws wd.heap.size wd nq
                go_wp2_with fail
                (try simp only [Exit.inBlock, Exit.then])
                go_ret
                have hend := hend'.out
                exact ⟨ret_bool (by rw [← hR'.out, stand_some hp'.out hq'.out, hys.out, hBd.out, hkk.out, Bool.true_and, Bool.true_and]; first | exact (decide_eq_false (by omega)) | (rw [Bool.eq_iff_iff, beq_iff_eq, decide_eq_true_eq]; omega) | exact (decide_eq_false (by omega)).symm | (symm; simp; omega) | (simp; omega)), hbd.out.trans (hbq.mono hbd.out.size)⟩
            have hys : Hid ((decide (y = [121, 101, 115]) || decide (y = [110, 111])) = false) := Lib.hid (by
              rw [decide_eq_false hy1, decide_eq_false hy2]; rfl)
            have s1 := str_eqL y [121, 101, 115]
            have s2 := str_eqL y [110, 111]
            rw [decide_eq_false hy1] at s1
            rw [decide_eq_false hy2] at s2
            clear hy1 hy2
            go_wp2_with fail
            (try simp only [Exit.inBlock, Exit.then])
            go_ret
            exact ⟨ret_bool (by rw [← hR'.out, stand_some hp'.out hq'.out, hys.out, Bool.and_false, Bool.false_and]), hbB.out⟩
    · have hR' : Hid (declared x = R) := hR0
      rw [decide_eq_false hv] at s1
      have hdv : Hid (declared x = false) := Lib.hid (by
        rw [hds.out]
        simp only [decide_eq_false hv, Bool.false_and])
      clear hv hds
      go_wp2_with fail
      (try simp only [Exit.inBlock, Exit.then])
      go_ret
      exact ⟨ret_bool (by rw [← hR'.out, hdv.out]), hb4.out⟩
end
end Go.Proofs.YtcecmbbhjaeodaaGreatDoor.Xl
end
