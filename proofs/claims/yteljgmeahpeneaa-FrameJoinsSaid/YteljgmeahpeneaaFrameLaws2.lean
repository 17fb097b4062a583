/- The walks of the laws FramePuts, FrameTears, FrameJoins. -/
import Derived.Test.YteljgmeahpeneaaFrameLaws
import Derived.Deep.DeepCutAuto
namespace Go.Proofs.Yteljgmeahpeneaa
open Go.RowKit
namespace framePutsW

set_option maxHeartbeats 2000000 in
theorem walk (A : Option Addr) (n c : Nat) (ls : List (List UInt8)) (w : World) (hBs : BsL w A n c ls) (hz : ∀ l ∈ ls, l.length ≤ 140737488351232) :
    Calls Try.prog 8 #[.slice A n c] w fun e w' => e = .returned (.bool true) ∧ Below w.heap.size w w' := by
  have hn := hBs.le
  have hm := hBs.max
  have HN : Hid (ls.length = n) := hBs.len
  have HZ := Lib.hid hz
  clear hz
  go_enter Try.func8, Try.ntmps8
  go_wp2_with fail
  refine (FrW.awake_any _).mono ?_
  rintro e w1 ⟨rfl, hb⟩
  by_cases hbig : 1000 < n
  · go_wp2_with fail
    go_ret
    exact ⟨rfl, hb⟩
  have hn1 : n ≤ 1000 := by omega
  clear hbig
  have hct : (cat ls).length ≤ 9223372036854775807 := cat_small HZ.out (by rw [HN.out]; exact hn1)
  go_wp2_with fail
  refine (FrW.total_any _ _ _ ls _ (hBs.below hb) hct).mono ?_
  rintro e w' ⟨rfl, rfl⟩
  by_cases hbig : 16384 < (cat ls).length
  · go_wp2_with fail
    go_ret
    exact ⟨rfl, hb⟩
  have hsz : (cat ls).length ≤ 16384 := by omega
  clear hbig hct
  have HC : Hid (∀ l ∈ ls, l.length ≤ 16384) := fun l hl => by have := le_cat hl; omega
  have HP : Hid ((Fr.puts ls).length ≤ 24384) := by
    have h1 := Fr.puts_le ls
    have h2 := HN.out
    have h3 : ls.flatten.length ≤ 16384 := hsz
    unfold Hid
    omega
  go_wp2_with fail
  go_loopw [3, 4, 5] (fun vb vw i wr => ∃ k Ab cb Aw cw, k ≤ n ∧ i = .int .i64 (k : Nat) ∧ vb = .slice Ab (Fr.puts (ls.take k)).length cb ∧ vw = .slice Aw (Fr.whole (ls.take k)).length cw ∧
    OwB wr w.heap.size 5 (.slice Ab (Fr.puts (ls.take k)).length cb) (Fr.puts (ls.take k)) ∧ OwLB wr w.heap.size 22 (.slice Aw (Fr.whole (ls.take k)).length cw) (Fr.whole (ls.take k)) ∧ Below w.heap.size w wr) (fun _ _ i _ => n - (intOf i).toNat)
  case atStart => exact ⟨0, none, 0, none, 0, by omega, rfl, rfl, rfl, OwB.nil _ _ _, OwLB.nil _ _ _, hb⟩
  case round =>
    obtain ⟨k, Ab, cb, Aw, cw, hk, rfl, rfl, rfl, hob, how, hbw⟩ := hrel
    by_cases hlt : k < n
    · obtain ⟨b, off, A1, n1, c1, l1, rfl, hbs, hl, hc, hbs1⟩ := hBs.at_ hlt
      have hmem := List.mem_of_getElem? hl
      have hl1 : n1 ≤ 16384 := by rw [← hbs1.len]; exact HC.out l1 hmem
      have HT : Hid (Fr.puts (ls.take (k + 1)) = Fr.puts (ls.take k) ++ Fr.put l1) := Fr.puts_take hl
      have HW1 : Hid (0 < l1.length → Fr.whole (ls.take (k + 1)) = Fr.whole (ls.take k) ++ [l1]) := Fr.whole_take1 hl
      have HW0 : Hid (l1.length = 0 → Fr.whole (ls.take (k + 1)) = Fr.whole (ls.take k)) := Fr.whole_take0 hl
      have HL1 : Hid (l1.length = n1) := hbs1.len
      have HTL : Hid ((Fr.puts (ls.take (k + 1))).length ≤ 24384) := Nat.le_trans (Fr.puts_take_le ls (k + 1)) HP.out
      have HWL : Hid ((Fr.whole (ls.take k)).length ≤ 1000) := by
        have h1 := Fr.whole_le (ls.take k)
        have h2 := List.length_take_le k ls
        unfold Hid
        omega
      clear hl hmem
      have hcw : wr.cell? ⟨b, off + k, none⟩ = some (.slice A1 n1 c1) := by rw [hbw.cell (by exact hbs)]; exact hc
      go_wp2_with fail
      refine (FrW.put_any _ _ _ l1 _ (hbs1.below hbw)).mono ?_
      rintro e w2 ⟨A2, c2, rfl, ho2, hb2⟩
      have hbw2 : Below w.heap.size w w2 := hbw.trans (hb2.mono hbw.size)
      have hcw2 : w2.cell? ⟨b, off + k, none⟩ = some (.slice A1 n1 c1) := by rw [hbw2.cell (by exact hbs)]; exact hc
      have hob2 := hob.below hb2
      have how2 := how.below hb2
      clear hcw hob how hb2
      go_wp2_with fail
      refine (FrW.refput_any _ _ _ l1 _ (hbs1.below hbw2)).mono ?_
      rintro e w3 ⟨A3, c3, rfl, ho3, hb3⟩
      have hbw3 : Below w.heap.size w w3 := hbw2.trans (hb3.mono hbw2.size)
      have ho23 := ho2.bs.below hb3
      have hob3 := hob2.below hb3
      have how3 := how2.below hb3
      clear hcw2 hob2 how2 hb3 ho2
      go_wp2_with fail
      refine (FrW.bytes_any _ _ _ _ _ _ _ _ _ ho23 ho3.bs).mono ?_
      rintro e w4 ⟨rfl, k4, rfl⟩
      have hdr : Below w3.heap.size w3 (w3.drewN k4) := Joins.below_draws _ _ _
      have hbw4 : Below w.heap.size w (w3.drewN k4) := hbw3.trans (Joins.below_draws _ _ _)
      have ho4 := ho23.below hdr
      have hob4 := hob3.below hdr
      have how4 := how3.below hdr
      have hcw4 : (w3.drewN k4).cell? ⟨b, off + k, none⟩ = some (.slice A1 n1 c1) := by rw [hbw4.cell (by exact hbs)]; exact hc
      rw [show decide (Fr.put l1 = Fr.put l1) = true from by simp]
      clear ho23 ho3 hob3 how3 hdr hbw3
      generalize w3.drewN k4 = w4 at *
      go_wp2_with (at_builtin; apply stop_here)
      refine Stop.go (append_bytes _ 22 5 Try.underlying22 info_u8 rfl _ _ rfl w.heap.size _ _ rfl hob4 _ _ _ (Fr.put l1) rfl ho4 ((Fr.puts (ls.take (k + 1))).length) (by rw [HT.out, List.length_append]) (by have := HTL.out; omega) hbw4.size ?_)
      intro A5 c5 w5 ho5 hg5 hb5
      rw [← HT.out] at ho5
      have hbw5 : Below w.heap.size w w5 := hbw4.trans hb5
      have hcw5 : w5.cell? ⟨b, off + k, none⟩ = some (.slice A1 n1 c1) := by rw [hbw5.cell (by exact hbs)]; exact hc
      have how5 : OwLB w5 w.heap.size 22 (.slice Aw (Fr.whole (ls.take k)).length cw) (Fr.whole (ls.take k)) :=
        how4.grown hg5 (fun k hk => (hob4.lt k hk).1) (let ⟨_, h1, _⟩ := how4; own_ne h1 hob4 (by decide))
      clear hg5 hb5 hob4 how4 ho4 hcw4
      by_cases h0 : n1 = 0
      · have HW := HW0.out (by rw [HL1.out]; exact h0)
        rw [← HW] at how5 ⊢
        clear HW
        go_wp2_with fail
        go_roundw
        case rel => exact ⟨k + 1, A5, c5, Aw, cw, by omega, by go_num, rfl, rfl, ho5, how5, hbw5⟩
        case measure => simp [intOf]; omega
      · have h0' : 0 < n1 := by omega
        have HW := HW1.out (by rw [HL1.out]; exact h0')
        clear h0
        go_wp2_with (at_builtin; apply stop_here)
        refine Stop.go (append_elB w5 38 22 Try.underlying38 FrW.info_sl rfl _ _ rfl w.heap.size (.slice Aw (Fr.whole (ls.take k)).length cw) (Fr.whole (ls.take k)) rfl how5 _ l1 (0, 0) rfl (hbs1.elB hbw5) ((Fr.whole (ls.take (k + 1))).length) (by rw [HW]; simp) (by rw [HW]; have := HWL.out; simp; omega) hbw5.size ?_)
        intro A6 c6 w6 ho6 hg6 hb6
        rw [← HW] at ho6
        have hbw6 : Below w.heap.size w w6 := hbw5.trans (((below_alloc w5 _).mono hbw5.size).trans hb6)
        have hob6 : OwB w6 w.heap.size 5 (.slice A5 (Fr.puts (ls.take (k + 1))).length c5) (Fr.puts (ls.take (k + 1))) := by
          have hal := below_alloc w5 (.cells #[.slice A1 n1 c1] 22)
          refine World.ownsRow.kept (ho5.below hal) hg6 ?_
          obtain ⟨_, h1, _⟩ := how5.below hal
          exact own_ne (ho5.below hal) h1 (by decide)
        clear hg6 hb6 HW
        go_wp2_with fail
        go_roundw
        case rel => exact ⟨k + 1, A5, c5, A6, c6, by omega, by go_num, rfl, rfl, hob6, ho6, hbw6⟩
        case measure => simp [intOf]; omega
    · obtain rfl : k = n := by omega
      have HF : Hid (ls.take k = ls) := by unfold Hid; rw [List.take_of_length_le (by rw [HN.out]; omega)]
      rw [HF.out] at hob how ⊢
      have HA := Lib.hid (Fr.all_puts_end ls (fun r hr => by have := HC.out r hr; omega))
      have hpl := HP.out
      go_wp2_with fail
      refine (FrW.all_any _ _ _ _ _ hob.bs (by omega)).mono ?_
      rw [HA.out]
      rintro e w2 ⟨A2, c2, rfl, ho2, hb2⟩
      have hbw2 : Below w.heap.size w w2 := hbw.trans (hb2.mono hbw.size)
      go_wp2_with fail
      refine (FrW.records_any _ _ _ _ _ _ _ _ _ ho2.bsl (how.below hb2).owl.bsl rfl).mono ?_
      rintro e w3 ⟨rfl, k3, rfl⟩
      go_wp2_with fail
      go_ret
      exact ⟨by simp, hbw2.trans (Joins.below_draws _ _ _)⟩
end framePutsW

namespace frameTearsW
set_option maxRecDepth 100000 in
set_option maxHeartbeats 4000000 in
theorem walk (A : Option Addr) (n c : Nat) (ls : List (List UInt8)) (p : Int) (w : World) (hBs : BsL w A n c ls) (hz : ∀ l ∈ ls, l.length ≤ 140737488351232) (hp : (Lit.int .u16 p).wf = true) :
    Calls Try.prog 9 #[.slice A n c, .int .u16 p] w fun e w' => e = .returned (.bool true) ∧ Below w.heap.size w w' := by
  obtain ⟨p, rfl⟩ : ∃ q : Nat, p = q := ⟨p.toNat, by simp [Lit.wf, IntKind.min, IntKind.max, IntKind.signed, IntKind.bits] at hp; omega⟩
  have hp2 : p < 65536 := by simp [Lit.wf, IntKind.min, IntKind.max, IntKind.signed, IntKind.bits] at hp; omega
  clear hp
  have hn := hBs.le
  have hm := hBs.max
  have HN : Hid (ls.length = n) := hBs.len
  have HZ := Lib.hid hz
  clear hz
  go_enter Try.func9, Try.ntmps9
  go_wp2_with fail
  refine (FrW.awake_any _).mono ?_
  rintro e w1 ⟨rfl, hb⟩
  by_cases hbig : 1000 < n
  · go_wp2_with fail
    go_ret
    exact ⟨rfl, hb⟩
  have hn1 : n ≤ 1000 := by omega
  clear hbig
  have hct : (cat ls).length ≤ 9223372036854775807 := cat_small HZ.out (by rw [HN.out]; exact hn1)
  go_wp2_with fail
  refine (FrW.total_any _ _ _ ls _ (hBs.below hb) hct).mono ?_
  rintro e w' ⟨rfl, rfl⟩
  by_cases hbig : 16384 < (cat ls).length
  · go_wp2_with fail
    go_ret
    exact ⟨rfl, hb⟩
  have hsz : (cat ls).length ≤ 16384 := by omega
  clear hbig hct
  have HC : Hid (∀ l ∈ ls, l.length ≤ 16384) := fun l hl => by have := le_cat hl; omega
  have HC' : Hid (∀ l ∈ ls, l.length ≤ 1048576) := fun l hl => by have := HC.out l hl; omega
  have HP : Hid ((Fr.puts ls).length ≤ 24384) := by
    have h1 := Fr.puts_le ls
    have h2 := HN.out
    have h3 : ls.flatten.length ≤ 16384 := hsz
    unfold Hid
    omega
  go_wp2_with fail
  go_loopw [5, 6] (fun vb i wr => ∃ k Ab cb, k ≤ n ∧ i = .int .i64 (k : Nat) ∧ vb = .slice Ab (Fr.puts (ls.take k)).length cb ∧
    OwB wr w.heap.size 5 (.slice Ab (Fr.puts (ls.take k)).length cb) (Fr.puts (ls.take k)) ∧ Below w.heap.size w wr) (fun _ i _ => n - (intOf i).toNat)
  case atStart => exact ⟨0, none, 0, by omega, rfl, rfl, OwB.nil _ _ _, hb⟩
  case round =>
    obtain ⟨k, Ab, cb, hk, rfl, rfl, hob, hbw⟩ := hrel
    by_cases hlt : k < n
    · obtain ⟨b, off, A1, n1, c1, l1, rfl, hbs, hl, hc, hbs1⟩ := hBs.at_ hlt
      have HT : Hid (Fr.puts (ls.take (k + 1)) = Fr.puts (ls.take k) ++ Fr.put l1) := Fr.puts_take hl
      have HTL : Hid ((Fr.puts (ls.take (k + 1))).length ≤ 24384) := Nat.le_trans (Fr.puts_take_le ls (k + 1)) HP.out
      clear hl
      have hcw : wr.cell? ⟨b, off + k, none⟩ = some (.slice A1 n1 c1) := by rw [hbw.cell (by exact hbs)]; exact hc
      go_wp2_with fail
      refine (FrW.put_any _ _ _ l1 _ (hbs1.below hbw)).mono ?_
      rintro e w2 ⟨A2, c2, rfl, ho2, hb2⟩
      have hbw2 : Below w.heap.size w w2 := hbw.trans (hb2.mono hbw.size)
      have hob2 := hob.below hb2
      clear hcw hob hb2
      go_wp2_with (at_builtin; apply stop_here)
      refine Stop.go (append_bytes _ 22 5 Try.underlying22 info_u8 rfl _ _ rfl w.heap.size _ _ rfl hob2 _ _ _ (Fr.put l1) rfl ho2.bs ((Fr.puts (ls.take (k + 1))).length) (by rw [HT.out, List.length_append]) (by have := HTL.out; omega) hbw2.size ?_)
      intro A5 c5 w5 ho5 hg5 hb5
      rw [← HT.out] at ho5
      have hbw5 : Below w.heap.size w w5 := hbw2.trans hb5
      clear hg5 hb5 hob2 ho2
      go_wp2_with fail
      go_roundw
      case rel => exact ⟨k + 1, A5, c5, by omega, by go_num, rfl, ho5, hbw5⟩
      case measure => simp [intOf]; omega
    · obtain rfl : k = n := by omega
      have HF : Hid (ls.take k = ls) := by unfold Hid; rw [List.take_of_length_le (by rw [HN.out]; omega)]
      rw [HF.out] at hob ⊢
      have hpl := HP.out
      generalize hT : (Fr.puts ls).length = t at *
      have HT := Lib.hid hT
      clear hT
      go_upto_region 10 with fail
      go_cut [7] (fun v wx => ∃ N : Nat, N ≤ t ∧ v = .int .i64 (N : Nat) ∧ wx = wr)
      case first =>
        by_cases htp : t < p
        · go_wp2_with fail
          all_goals (go_meet; exact ⟨0, by omega, rfl, rfl⟩)
        · go_wp2_with fail
          all_goals (go_meet; exact ⟨t - p, by omega, val_int (by omega), rfl⟩)
      case rest =>
        obtain ⟨N, hNt, rfl, rfl⟩ := hcut
        have hcut := hob.bs.cut 0 N (by omega) hNt Ab (fun b off h _ => by rw [h]; rfl) (fun h => h) (fun h => h)
        rw [List.drop_zero, Nat.sub_zero, Nat.sub_zero] at hcut
        have hNc : N ≤ cb := Nat.le_trans hNt (Rd.le hob.bs)
        have HE := Lib.hid (Fr.tear_end ls HC'.out N)
        have HS := Lib.hid (Fr.tear_stop ls HC'.out N)
        have HAT := Lib.hid (Fr.tear_at ls HC'.out N)
        generalize (Fr.puts ls).take N = T at *
        go_wp2_with fail
        refine (FrW.all_any _ _ _ _ _ hcut (by omega)).mono ?_
        rintro e w2 ⟨A2, c2, rfl, ho2, hb2⟩
        have hbw2 : Below w.heap.size w w2 := hbw.trans (hb2.mono hbw.size)
        have hX := ho2.bsl
        have hlist := hBs.below hbw2
        have hxm := hX.max
        have hxl := hX.le
        clear hb2 ho2 hob hcut hbw
        generalize hR : Fr.all T = R at *
        obtain ⟨X, good, st⟩ := R
        simp only at *
        clear hR
        go_wp2_with fail
        go_loopw [11, 12, 13] (fun a kk i wr => ∃ i' m : Nat, i' ≤ k ∧ i = .int .i64 (i' : Nat) ∧ a = .int .i64 ((Fr.puts (ls.take i')).length : Nat) ∧ (Fr.puts (ls.take i')).length ≤ N ∧ kk = .int .i64 ((Fr.whole (ls.take i')).length : Nat) ∧ wr = w2.drewN m) (fun _ _ i _ => k - (intOf i).toNat)
        case atStart => exact ⟨0, 0, by omega, rfl, rfl, by simp [Fr.puts], rfl, rfl⟩
        case round =>
          obtain ⟨i, m, hi, rfl, rfl, ha, rfl, rfl⟩ := hrel
          have hW1000 : (Fr.whole (ls.take i)).length ≤ 1000 := by
            have h1 := Fr.whole_le (ls.take i)
            have h2 := List.length_take_le i ls
            omega
          by_cases hlt : i < k
          · obtain ⟨b, off, A1, n1, c1, l1, rfl, hbs, hl, hc, hbs1⟩ := hlist.at_ hlt
            have hmem := List.mem_of_getElem? hl
            have hl1 : n1 ≤ 16384 := by rw [← hbs1.len]; exact HC.out l1 hmem
            have HL1 : Hid (l1.length = n1) := hbs1.len
            have HAT1 := Lib.hid (HAT.out i l1 hl)
            have HS1 := Lib.hid (HS.out i l1 hl)
            have HT1 : Hid (Fr.puts (ls.take (i + 1)) = Fr.puts (ls.take i) ++ Fr.put l1) := Fr.puts_take hl
            have HW1 : Hid (0 < l1.length → Fr.whole (ls.take (i + 1)) = Fr.whole (ls.take i) ++ [l1]) := Fr.whole_take1 hl
            have HW0 : Hid (l1.length = 0 → Fr.whole (ls.take (i + 1)) = Fr.whole (ls.take i)) := Fr.whole_take0 hl
            have hcd : (w2.drewN m).cell? ⟨b, off + i, none⟩ = some (.slice A1 n1 c1) := hc
            have hld : Bs (w2.drewN m) A1 n1 c1 l1 := hbs1.below (Joins.below_draws _ _ _)
            have hXd : BsL (w2.drewN m) A2 X.length c2 X := hX.below (Joins.below_draws _ _ _)
            clear hl hmem hc hbs1
            generalize hwm : w2.drewN m = wm at *
            have HWM := Lib.hid hwm
            clear hwm
            by_cases h0 : n1 = 0
            · have e1 : Hid ((Fr.puts (ls.take (i + 1))).length = (Fr.puts (ls.take i)).length) := by
                unfold Hid
                have hp0 : Fr.put l1 = [] := by unfold Fr.put; rw [if_pos (by have := HL1.out; omega)]
                rw [HT1.out, hp0, List.append_nil]
              have e2 : Hid ((Fr.whole (ls.take (i + 1))).length = (Fr.whole (ls.take i)).length) := by
                unfold Hid
                rw [HW0.out (by rw [HL1.out]; exact h0)]
              subst h0
              generalize (Fr.puts (ls.take i)).length = pa at *
              generalize (Fr.whole (ls.take i)).length = wa at *
              go_wp2_with fail
              go_roundw
              case rel => exact ⟨i + 1, m, by omega, by go_num, by rw [e1.out], by rw [e1.out]; exact ha, by rw [e2.out], HWM.out.symm⟩
              case measure => simp [intOf]; omega
            · have hb0 : ((n1 : Int) == 0) = false := by rw [beq_eq_false_iff_ne]; omega
              have hp0 : 0 < l1.length := by rw [HL1.out]; omega
              have HP0 := Lib.hid hp0
              clear hp0
              by_cases hst : N < (Fr.puts (ls.take i)).length + 8 + n1
              · have hR := HS1.out HP0.out ha (by rw [HL1.out]; exact hst)
                simp only [Prod.mk.injEq] at hR
                obtain ⟨hR1, hR2, hR3⟩ := hR
                subst hR1
                have hk1 : (((Fr.whole (ls.take i)).length : Int) == ((Fr.whole (ls.take i)).length : Int)) = true := by simp
                subst hR2
                generalize (Fr.puts (ls.take i)).length = pa at *
                generalize (Fr.whole (ls.take i)).length = wa at *
                by_cases hNa : N = pa
                · rw [if_pos hNa] at hR3
                  subst hR3
                  subst hNa
                  clear HS HE HAT HAT1 HS1
                  go_wp2_with fail
                  go_ret
                  exact ⟨rfl, hbw2.trans (by rw [← HWM.out]; exact Joins.below_draws _ _ _)⟩
                · rw [if_neg hNa] at hR3
                  subst hR3
                  have hb1 : ((pa : Int) == (N : Int)) = false := by rw [beq_eq_false_iff_ne]; omega
                  have hb2 : ((pa : Int) != (N : Int)) = true := by rw [bne_iff_ne]; omega
                  clear HS HE HAT HAT1 HS1
                  go_wp2_with fail
                  go_ret
                  exact ⟨rfl, hbw2.trans (by rw [← HWM.out]; exact Joins.below_draws _ _ _)⟩
              · obtain ⟨hXl, hnext⟩ := HAT1.out HP0.out (by rw [HL1.out]; omega)
                rw [HL1.out] at hnext
                have HNX := Lib.hid hnext
                have e2 : Hid ((Fr.whole (ls.take (i + 1))).length = (Fr.whole (ls.take i)).length + 1) := by
                  unfold Hid
                  rw [HW1.out HP0.out]
                  simp
                have hkx : (Fr.whole (ls.take i)).length < X.length := (List.getElem?_eq_some_iff.1 hXl).1
                obtain ⟨b4, off4, A4, n4, c4, l4, rfl, _, hl4, hc4, hbs4⟩ := hXd.at_ hkx
                have HD : Hid (decide (l4 = l1) = true) := by
                  unfold Hid
                  rw [hXl] at hl4
                  injection hl4 with h
                  simp [h]
                clear hXl hnext hl4 HS HE HAT HAT1 HS1
                generalize (Fr.puts (ls.take i)).length = pa at *
                generalize (Fr.whole (ls.take i)).length = wa at *
                have i0 : (wa : Int) < (X.length : Int) := by omega
                have i1 : decide ((X.length : Int) ≤ (wa : Int)) = false := by simp; omega
                have i1' : decide (X.length ≤ wa) = false := by simp; omega
                have i2 : (i : Int) < (k : Int) := by omega
                go_wp2_with fail
                go_quiet ((go_at_call 22; exact Calls.quiet_of (FrW.bytes_any _ _ _ l4 _ _ _ l1 _ (hbs4.below (Joins.below_draws _ _ _)) (hld.below (Joins.below_draws _ _ _)))))
                rw [HD.out]
                go_wp2_with fail
                go_roundw
                case rel => exact ⟨i + 1, _, by omega, by go_num, val_int (by rw [HNX.out]; omega), by rw [HNX.out]; omega, val_int (by rw [e2.out]; omega), by rw [← HWM.out, World.drewN_drewN]⟩
                case measure => simp [intOf]; omega
          · obtain rfl : i = k := by omega
            rw [HF.out, HT.out] at ha ⊢
            have hNt' : N = t := by omega
            have hR := HE.out (by rw [HT.out]; exact hNt')
            simp only [Prod.mk.injEq] at hR
            obtain ⟨hR1, hR2, hR3⟩ := hR
            subst hR1
            rw [HT.out] at hR2
            subst hR2
            subst hR3
            subst hNt'
            clear HS HE HAT
            rw [HF.out] at hW1000
            generalize (Fr.whole ls).length = wa at *
            go_wp2_with fail
            go_ret
            exact ⟨rfl, hbw2.trans (Joins.below_draws _ _ _)⟩
end frameTearsW

end Go.Proofs.Yteljgmeahpeneaa
