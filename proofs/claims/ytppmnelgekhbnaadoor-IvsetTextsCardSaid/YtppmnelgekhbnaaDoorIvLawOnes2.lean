/- The law IvsetOnes: the walk. -/
import Derived.Test.YtppmnelgekhbnaaDoorIvLawOnes
import Derived.Test.YtppmnelgekhbnaaDoorIvLawLaws
namespace Go.Proofs.YtppmnelgekhbnaaDoor.IvW
open Go.RowKit Iv

theorem info_int : (Tryd.prog.info? 3).map (fun i => (i.zero, i.size, i.bytes)) = some (some (.int .i64 0), 1, 8) := by kernel_rfl

theorem has_sp (ms : Nat → Bool) {v : Nat} (h1 : 1 ≤ v) (h2 : v ≤ 200) : has? (sp ms) v = ms v := by
  unfold has?
  rw [okB_sp, mem_sp' ms h1 h2]
  rfl

set_option maxHeartbeats 4000000 in
set_option maxRecDepth 100000 in
theorem ones_law (A : Option Addr) (n c : Nat) (l : List Span) (t : Nat) (ht : t < 256) (w : World) (hE : Iw w) (hA : Rp w A n c l) :
    Calls Tryd.prog 6 #[.slice A n c, .int .u8 t] w fun e w' => e = .returned (.bool true) ∧ Below w.heap.size w w' := by
  have hA' := Lib.hid hA
  have c0 := awake_any w hE
  clear hE hA
  go_enter Tryd.func6, Tryd.ntmps6
  go_wp2_with fail
  refine c0.mono ?_
  rintro e w1 ⟨rfl, hb1⟩
  have hx1 := Lib.hid hb1
  clear c0 hb1
  have cm := refmay_any A n c l w1 (hA'.out.below hx1.out)
  cases hk : okB 1 l
  · rw [hk] at cm
    go_wp2_with fail
    refine cm.mono ?_
    rintro e w2 ⟨rfl, q, hw⟩
    have hb : Below w1.heap.size w1 w2 := by rw [hw]; exact Joins.below_draws _ _ _
    have hx2 := Lib.hid (hx1.out.trans (hb.mono hx1.out.size))
    clear cm hw hb hk
    go_wp2_with fail
    go_ret
    exact ⟨rfl, hx2.out⟩
  rw [hk] at cm
  obtain ⟨ms, hms⟩ := ok_ex hk
  subst hms
  have hn3 : n ≤ 300 := by
    have h1 := hA'.out.len
    have h2 := sp_len ms
    omega
  clear hk
  go_wp2_with fail
  refine cm.mono ?_
  rintro e w2 ⟨rfl, q, hw⟩
  have hb : Below w1.heap.size w1 w2 := by rw [hw]; exact Joins.below_draws _ _ _
  have hx2 := Lib.hid (hx1.out.trans (hb.mono hx1.out.size))
  clear cm hw hb
  go_wp2_with fail
  go_loopw [5, 6] (fun lv v wr => ∃ (k : Nat) (A' : Option Addr) (N' c' : Nat) (z : Int), k ≤ 200 ∧ v = .int .i64 z ∧ Hid (z = ((k + 1 : Nat) : Int)) ∧ lv = .slice A' N' c' ∧ N' ≤ k ∧ Hid (N' = (versTo ms k).length) ∧ OwZ wr w.heap.size 3 (.slice A' N' c') (versTo ms k) ∧ Below w.heap.size w wr) (fun _ v _ => 201 - (intOf v).toNat)
  case atStart => exact ⟨0, none, 0, 0, 1, by omega, rfl, Lib.hid rfl, rfl, by omega, Lib.hid rfl, OwZ.nil _ _ _, hx2.out⟩
  case round =>
    obtain ⟨k, A', N', c', z, hk, rfl, hz, rfl, hNk, hN, hO, hbw⟩ := hrel
    have hbw' := Lib.hid hbw
    have hO' := Lib.hid hO
    clear hbw hO
    by_cases hlt : k < 200
    case pos =>
      obtain rfl : z = ((k + 1 : Nat) : Int) := hz.out
      have t1 : decide (((k + 1 : Nat) : Int) ≤ 200) = true := by simp; omega
      clear hz
      have ch := has_any A n c (sp ms) ((k + 1 : Nat) : Int) wr (hA'.out.below hbw'.out)
      rw [has_sp ms (by omega) (by omega)] at ch
      cases hm : ms (k + 1) with
      | false =>
        rw [hm] at ch
        have hst : Hid (versTo ms (k + 1) = versTo ms k) := Lib.hid (by rw [versTo, hm]; simp)
        clear hm
        go_wp2_with fail
        refine ch.mono ?_
        rintro e w3 ⟨rfl, hb⟩
        have hx3 := Lib.hid (hbw'.out.trans (hb.mono hbw'.out.size))
        have hO3 := Lib.hid (hO'.out.below hb)
        clear ch hb
        go_wp2_with fail
        go_roundw
        case rel => exact ⟨k + 1, A', N', c', _, by omega, rfl, Lib.hid (by push_cast; omega), rfl, by omega, by rw [hst.out]; exact hN, by rw [hst.out]; exact hO3.out, hx3.out⟩
        case measure => simp [intOf]; omega
      | true =>
        rw [hm] at ch
        have hst : Hid (versTo ms (k + 1) = versTo ms k ++ [((k + 1 : Nat) : Int)]) := Lib.hid (by rw [versTo, hm]; simp)
        clear hm
        go_wp2_with fail
        refine ch.mono ?_
        rintro e w3 ⟨rfl, hb⟩
        have hx3 := Lib.hid (hbw'.out.trans (hb.mono hbw'.out.size))
        have hO3 := Lib.hid (hO'.out.below hb)
        clear ch hb
        go_wp2_with (at_builtin; apply stop_here)
        refine Stop.go (append_ints _ 34 3 Tryd.underlying34 info_int rfl _ _ rfl w.heap.size _ (versTo ms k) rfl (hO3.out.below (below_alloc _ _)) _ 1 1 [((k + 1 : Nat) : Int)] rfl (ints_lit w3 #[.int .i64 ((k + 1 : Nat) : Int)] _ _ [((k + 1 : Nat) : Int)] 1 _ rfl rfl (by omega) rfl) (N' + 1) (by have := hN.out; omega) (by omega) (by have := hx3.out.size; simp; omega) ?_)
        intro A2 c2 w4 ho4 _ hb4
        have hx4 := Lib.hid (hx3.out.trans (((below_alloc w3 _).mono hx3.out.size).trans hb4))
        have ho4' := Lib.hid ho4
        clear ho4 hb4 hO3
        go_wp2_with fail
        go_roundw
        case rel => exact ⟨k + 1, A2, N' + 1, c2, _, by omega, rfl, Lib.hid (by push_cast; omega), rfl, by omega, Lib.hid (by rw [hst.out, List.length_append, ← hN.out]; rfl), by rw [hst.out]; exact ho4'.out, hx4.out⟩
        case measure => simp [intOf]; omega
    case neg =>
      have t1 : decide (z ≤ 200) = false := by have := hz.out; simp; omega
      clear hz
      obtain rfl : k = 200 := by omega
      have hrd := Lib.hid hO'.out.rd
      have hL : N' = (versN ms 200).length := by rw [hN.out, ← versN_map, List.length_map]
      have hL' := Lib.hid hL
      have hNc : N' = card ms 200 := by rw [hN.out, vers_len]
      have hNc' := Lib.hid hNc
      have hmx := Rd.max hrd.out
      have hle := Rd.le hrd.out
      clear hL hNc hN
      obtain ⟨wz, rfl⟩ : ∃ wz, wz = wr := ⟨wr, rfl⟩
      go_wp2_with fail
      have hx3 := Lib.hid hbw'.out
      go_loopw [7, 8] (fun xv iv wq => ∃ (k : Nat) (A2 : Option Addr) (c2 : Nat) (acc : List Span), k ≤ N' ∧ iv = .int .i64 (k : Nat) ∧ xv = .slice A2 acc.length c2 ∧ acc.length ≤ 300 ∧ Hid (acc = of? ((rotN (versN ms 200) t k).map (fun x : Nat => (x : Int)))) ∧ OwP wq wz.heap.size 40 (.slice A2 acc.length c2) acc ∧ Below wz.heap.size wz wq) (fun _ iv _ => N' - (intOf iv).toNat)
      case atStart => exact ⟨0, none, 0, [], by omega, rfl, rfl, by simp, Lib.hid rfl, OwP.nil _ _ _, Below.refl _ _⟩
      case round =>
        obtain ⟨k, A2, c2, acc, hk2, rfl, rfl, hal, hacc, hO2, hbq⟩ := hrel
        have hbq' := Lib.hid hbq
        have hO2' := Lib.hid hO2
        by_cases hlt2 : k < N'
        case pos =>
          obtain ⟨j, hj⟩ : ∃ j, (k + t) % N' = j := ⟨_, rfl⟩
          have hjn : j < N' := by rw [← hj]; exact Nat.mod_lt _ (by omega)
          have e1 : ((k : Int) + (t : Int)) % (N' : Int) = (j : Int) := by rw [← hj, Int.natCast_emod, Int.natCast_add]
          have e2 : ((k : Int) + (t : Int)).tmod (N' : Int) = (j : Int) := by rw [Int.tmod_eq_emod_of_nonneg (by omega), e1]
          have e0 : ((N' : Int) == 0) = false := by rw [beq_eq_false_iff_ne]; omega
          obtain ⟨b', off, u, rfl, hbl, hu, hcell⟩ := Rd.at_ (Rd.below hrd.out hbq) hjn
          rw [List.getElem?_map, Option.map_eq_some_iff] at hu
          obtain ⟨z, hz, rfl⟩ := hu
          have hzz : ∃ x : Nat, (versN ms 200)[j]? = some x ∧ z = (x : Int) := by
            rw [← versN_map, List.getElem?_map, Option.map_eq_some_iff] at hz
            obtain ⟨x, h1, h2⟩ := hz
            exact ⟨x, h1, h2.symm⟩
          obtain ⟨x, hx, rfl⟩ := hzz
          have hstep : rotN (versN ms 200) t (k + 1) = rotN (versN ms 200) t k ++ [x] := by
            rw [rotN_succ, ← hL'.out, hj, hx]
            rfl
          have hnext : Hid (add? acc (x : Int) = of? ((rotN (versN ms 200) t (k + 1)).map (fun x : Nat => (x : Int)))) := Lib.hid (by
            rw [hstep, List.map_append, hacc.out]
            unfold of?
            rw [List.foldl_append]
            rfl)
          have hlen1 := add_len acc (x : Int)
          have ca := add_any A2 acc.length c2 acc (x : Int) wr hO2.rp (by omega)
          obtain ⟨acc2, hacc2⟩ : ∃ acc2, add? acc (x : Int) = acc2 := ⟨_, rfl⟩
          rw [hacc2] at ca hnext hlen1
          have hlen1' := Lib.hid hlen1
          clear hj hz hx hstep hacc2 hlen1 hO2 hbq hacc
          go_wp2_with fail
          refine ca.mono ?_
          rintro e w7 ⟨A7, c7, rfl, ho7, hb7⟩
          have hx7 := Lib.hid (hbq'.out.trans (hb7.mono hbq'.out.size))
          have ho7' := Lib.hid (ho7.mono hbq'.out.size)
          clear ca ho7 hb7
          go_wp2_with fail
          go_roundw
          case rel => exact ⟨k + 1, A7, c7, acc2, by omega, by go_num, rfl, hlen1'.out, Lib.hid hnext.out, ho7'.out, hx7.out⟩
          case measure => simp [intOf]; omega
        case neg =>
          obtain rfl : k = N' := by omega
          have hfin : acc = sp ms := by rw [hacc.out, hL'.out]; exact ones_rot ms t
          subst hfin
          have hxq := Lib.hid (hx3.out.trans (hbq.mono hx3.out.size))
          have heq : equal? (sp ms) (sp ms) = true := by unfold equal?; rw [okB_sp]; simp
          have ce := equal_any A2 _ c2 (sp ms) A n c (sp ms) wr hO2.rp (hA'.out.below hxq.out)
          rw [heq] at ce
          clear hacc hO2 hbq
          go_wp2_with fail
          refine ce.mono ?_
          rintro e w8 ⟨rfl, hb⟩
          have hx8 := Lib.hid (hxq.out.trans (hb.mono hxq.out.size))
          have hrd8 := Lib.hid (Rd.below (Rd.below hrd.out hbq'.out) hb)
          clear ce hb
          have co := of_any A' k c' (versTo ms 200) w8 hrd8.out
          rw [ones_of] at co
          go_wp2_with fail
          refine co.mono ?_
          rintro e w9 ⟨A9, c9, rfl, ho9, hb⟩
          have hx9 := Lib.hid (hx8.out.trans (hb.mono hx8.out.size))
          have ho9' := Lib.hid ho9
          clear co hb ho9
          have ce := equal_any A9 _ c9 (sp ms) A n c (sp ms) w9 ho9'.out.rp (hA'.out.below hx9.out)
          rw [heq] at ce
          clear heq
          go_wp2_with fail
          refine ce.mono ?_
          rintro e w10 ⟨rfl, hb⟩
          have hx10 := Lib.hid (hx9.out.trans (hb.mono hx9.out.size))
          clear ce hb
          have cc := count_any A n c (sp ms) w10 (hA'.out.below hx10.out) (by omega)
          rw [cnt_sp, ← hNc'.out] at cc
          go_wp2_with fail
          refine cc.mono ?_
          rintro e w11 ⟨rfl, hb⟩
          have hx11 := Lib.hid (hx10.out.trans (hb.mono hx10.out.size))
          clear cc hb
          go_wp2_with fail
          go_ret
          exact ⟨by first | rfl | simp, hx11.out⟩
end Go.Proofs.YtppmnelgekhbnaaDoor.IvW
