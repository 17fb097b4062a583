/- The laws over qlex: awake, has, QlexWords. -/
import Derived.Test.YthiikldjngamaaaDoorQxAll
import Derived.Test.YthiikldjngamaaaDoorQxRun
namespace Go.Proofs.YthiikldjngamaaaDoor.Qx
open Go.RowKit UtfW Er

theorem AllP.ok {S : List UInt8} {w w' : World} {e : Ending} {us : List Tok} (h : AllP S w e w') (hr : allF S = (0, 0, us)) : Below w.heap.size w w' ∧ ∃ A n c, e = .returned (.tuple #[.slice A n c, .nilIface]) ∧ OwT w' w.heap.size 31 (.slice A n c) us := by
  obtain ⟨h1, h2, _⟩ := h
  rw [hr] at h2
  exact ⟨h1, h2 rfl⟩
theorem AllP.no {S : List UInt8} {w w' : World} {e : Ending} {cd pl : Int} {us : List Tok} (h : AllP S w e w') (hr : allF S = (cd, pl, us)) (hc : cd ≠ 0) : Below w.heap.size w w' ∧ ∃ v ws, e = .returned (.tuple #[.slice none 0 0, v]) ∧ Fe w' w'.heap.size cd pl ws v := by
  obtain ⟨h1, _, h2⟩ := h
  rw [hr] at h2
  exact ⟨h1, h2 hc⟩
theorem Fe.later {w w' : World} {code at_ : Int} {ws : List ByteArray} {e : Value} (h : Fe w w.heap.size code at_ ws e) (hb : Below w.heap.size w w') : Fe w' w'.heap.size code at_ ws e := (h.on hb).up hb.size

set_option maxHeartbeats 1000000 in
set_option maxRecDepth 100000 in
theorem awake_any (w : World) (hU : Ut w) (hE : En w.heap.size w) :
    Calls Tryd.prog 6 #[] w fun e w' => e = .returned (.bool true) ∧ Below w.heap.size w w' := by
  go_enter Tryd.func6, Tryd.ntmps6
  go_wp2_with fail
  refine (All_any w [97, 32, 42, 32, 42] (by decide) hU).mono ?_
  intro e w1 h1
  obtain ⟨hb1, A, n, c, rfl, ho⟩ := h1.ok all_a
  have hn := ho.len
  simp only [List.length_cons, List.length_nil] at hn
  subst hn
  have hx1 := Lib.hid hb1
  have ho' := Lib.hid ho.rt
  clear hb1 h1 ho
  go_wp2_with fail
  refine (All_any w1 [97, 32, 98] (by decide) (hU.below hx1.out)).mono ?_
  intro e w2 h2
  obtain ⟨hb2, v2, ws2, rfl, f2⟩ := h2.no all_b (by decide)
  have hx2 := Lib.hid (hx1.out.trans (hb2.mono hx1.out.size))
  have ho2 := Lib.hid (ho'.out.below hb2)
  have f2' := Lib.hid f2
  clear hb2 h2 f2 ho'
  go_wp2_with fail
  refine (All_any w2 [39, 120] (by decide) (hU.below hx2.out)).mono ?_
  intro e w3 h3
  obtain ⟨hb3, v3, ws3, rfl, f3⟩ := h3.no all_c (by decide)
  have hx3 := Lib.hid (hx2.out.trans (hb3.mono hx2.out.size))
  have f23 := Lib.hid (Fe.later f2'.out hb3)
  have f3' := Lib.hid f3
  obtain ⟨g, off, p, rfl, hg, hp, k0, _, _⟩ := (ho2.out.below hb3).at_ (k := 1) (by omega)
  obtain ⟨g', off', q, e', hg', hq, l0, _, _⟩ := (ho2.out.below hb3).at_ (k := 2) (by omega)
  injection e' with e'
  injection e' with e1 e2
  subst e1 e2
  injection hp with hp
  injection hq with hq
  subst hp hq
  simp only at k0 l0
  obtain ⟨T2, a2, rfl⟩ := f2'.out.iface
  obtain ⟨T3, a3, rfl⟩ := f3.iface
  have hz3 := hx3.out.size
  clear hb3 h3 f3 f2' ho2
  go_wp2_with fail
  refine (Code_any 61 2 ws2 _ w.heap.size w3 (hE.on hx3.out) f23.out).mono ?_
  rintro e w4 ⟨rfl, hb4⟩
  have f24 := Lib.hid (Fe.later f23.out hb4)
  have f34 := Lib.hid (Fe.later f3'.out hb4)
  have hx4 := Lib.hid (hx3.out.trans (hb4.mono hx3.out.size))
  clear hb4 f23 f3'
  go_wp2_with fail
  refine (At_any 61 2 ws2 _ w.heap.size w4 (hE.on hx4.out) f24.out).mono ?_
  rintro e w5 ⟨rfl, hb5⟩
  have f35 := Lib.hid (Fe.later f34.out hb5)
  have hx5 := Lib.hid (hx4.out.trans (hb5.mono hx4.out.size))
  clear hb5 f24 f34
  go_wp2_with fail
  refine (Code_any 60 0 ws3 _ w.heap.size w5 (hE.on hx5.out) f35.out).mono ?_
  rintro e w6 ⟨rfl, hb6⟩
  have hx6 := Lib.hid (hx5.out.trans (hb6.mono hx5.out.size))
  clear hb6 f35
  go_wp2_with fail
  go_ret
  exact ⟨rfl, hx6.out⟩

set_option maxRecDepth 100000 in
theorem lhas_any (S : List UInt8) (q : UInt8) (hS : S.length ≤ 1000) (w : World) :
    Calls Tryd.prog 9 #[.string (strOf S), .int .u8 q.toNat] w fun e w' => e = .returned (.bool (decide (q ∈ S))) ∧ w' = w := by
  have hsz : (strOf S).size = S.length := strOf_size' S
  obtain ⟨R, hR⟩ : ∃ R, decide (q ∈ S) = R := ⟨_, rfl⟩
  rw [hR]
  have hR' := Lib.hid hR
  clear hR
  go_enter Tryd.func9, Tryd.ntmps9
  go_wp2_with fail
  go_loop [5] (fun v => ∃ k : Nat, k ≤ S.length ∧ v = .int .i64 (k : Nat) ∧ Hid (q ∉ S.take k)) (fun v => S.length - (intOf v).toNat)
  case atStart => exact ⟨0, by omega, rfl, Lib.hid (by simp)⟩
  case round =>
    obtain ⟨k, hk, rfl, hno⟩ := hrel
    by_cases hlt : k < S.length
    · have i0 : decide ((k : Int) < (S.length : Int)) = true := by simp; omega
      have hx : S[k]? = some S[k] := List.getElem?_eq_getElem hlt
      generalize S[k] = x at hx
      have hlt' : k < (strOf S).size := by rw [hsz]; exact hlt
      have hg := str_at hx hlt'
      have hx' := Lib.hid hx
      clear hx
      by_cases hxq : x = q
      · have i1 : ((x.toNat : Int) == (q.toNat : Int)) = true := by rw [beq_iff_eq, hxq]
        have hxq' := Lib.hid hxq
        clear hxq
        go_wp2_with fail
        go_ret
        refine ⟨ret_bool ?_, rfl⟩
        rw [← hR'.out]
        simp
        rw [← hxq'.out]
        exact List.mem_of_getElem? hx'.out
      · have i1 : ((x.toNat : Int) == (q.toNat : Int)) = false := by
          rw [beq_eq_false_iff_ne]
          intro h
          exact hxq (UInt8.toNat_inj.1 (by omega))
        have hxq' := Lib.hid hxq
        clear hxq
        go_wp2_with fail
        go_round
        case rel =>
          refine ⟨k + 1, by omega, by go_num, Lib.hid ?_⟩
          rw [take_snoc hx'.out, List.mem_append, List.mem_singleton]
          rintro (h | h)
          · exact hno.out h
          · exact hxq'.out h.symm
        case measure => simp [intOf]; omega
    · have i0 : decide ((k : Int) < (S.length : Int)) = false := by simp; omega
      go_wp2_with fail
      go_ret
      refine ⟨ret_bool ?_, rfl⟩
      rw [← hR'.out]
      have := hno.out
      rw [List.take_of_length_le (by omega)] at this
      simpa using this
end Go.Proofs.YthiikldjngamaaaDoor.Qx
