/- name of the document's scanner. Printed by xr_name.py. -/
import Derived.Test.YtcecmbbhjaeodaaGreatDoorMXlLawA
import Derived.Test.YtcecmbbhjaeodaaGreatDoorMXlValues
import Derived.Test.YtcecmbbhjaeodaaGreatDoorMXlRlns
import Derived.Test.YtcecmbbhjaeodaaGreatDoorMUtfBad
import Derived.Laws.StructEq
import Derived.Test.YtcecmbbhjaeodaaGreatDoorMUtfEnc
section
namespace Go.Proofs.YtcecmbbhjaeodaaGreatDoor.Xl
open Go.RowKit UtfW Er

theorem add_str (w : World) (a b : Tx) (h : a.length + b.length ≤ 1000000) : (Op.stringOp .add (strOf a) (strOf b)).run Tryz.prog w = .ok (.string (strOf (a ++ b))) w := by
  rw [← strOf_add]
  exact run_string_add_sum (P := Tryz.prog) w (strOf a) (strOf b) (by rw [strOf_size' a, strOf_size' b]; omega)
theorem at_eq (w : World) (x y : ByteArray) : (binOp .eql 43 (.agg #[.string x, .string y]) (.agg #[.string x, .string y])).run Tryz.prog w = .ok (.bool true) w := by
  have hS : Tryz.prog.underlying 43 = some (.struct (Tryz.prog.fieldsOf 43)) := by kernel_rfl
  have hp : Tryz.prog.stoodInHeld 43 = false := by kernel_rfl
  rw [run_eql_struct, show (10000 : Nat) = 9999 + 1 from rfl, run_equalIn_agg w 9999 43 _ _ hS hp]
  simp only [Program.fieldsOf, Tryz.underlying43]
  go_simp
theorem badW_leA (l : Tx) : ∀ n k, l.length - k ≤ n → badW l k ≤ l.length := by
  intro n
  induction n with
  | zero => intro k h; rw [badW_end (by omega)]; omega
  | succ n ih =>
    intro k h
    by_cases hlt : k < l.length
    · by_cases h0 : (nx l k).2 = 0
      · rw [badW_stop hlt h0]; omega
      · rw [badW_on hlt h0]
        exact ih _ (by omega)
    · rw [badW_end (by omega)]; omega
theorem badW_le2 (S : Tx) : badW S 0 ≤ S.length := badW_leA S S.length 0 (by omega)

section
variable (w : World) (S : Tx) (single : Bool)
set_option maxHeartbeats 8000000 in
set_option maxRecDepth 100000 in
theorem values_any (hU : Un w) (hE : En w.heap.size w) :
    Calls Tryz.prog 7 #[.string (strOf S), .bool single] w fun e w' => e = .returned (.bool true) ∧ Below w.heap.size w w' := by
  have hsz : (strOf S).size = S.length := strOf_size' S
  have hls : (strOf S).data.toList = S := by simp [strOf]
  have hU' := Lib.hid hU
  have hE' := Lib.hid hE
  go_enter Tryz.func7, Tryz.ntmps7
  go_wp2_with fail
  refine (awake_any w hU hE).mono ?_
  rintro e w1 ⟨rfl, hb1⟩
  have hb1' := Lib.hid hb1
  clear hb1 hU hE
  by_cases hlen : 2000 < S.length
  · have i0 : decide ((2000 : Int) < (S.length : Int)) = true := by simp; omega
    go_wp2_with fail
    (try simp only [Exit.inBlock, Exit.then])
    go_ret
    exact ⟨rfl, hb1'.out⟩
  have i0 : decide ((2000 : Int) < (S.length : Int)) = false := by simp; omega
  have hlen' : S.length ≤ 2000 := by omega
  clear hlen
  go_wp2_with fail
  refine (refLines_any (strOf S) (by rw [hsz]; omega) w1).mono ?_
  rintro e w2 ⟨rfl, hb2⟩
  rw [hls]
  obtain ⟨L, hL⟩ : ∃ L, Utf.lines S = L := ⟨_, rfl⟩
  rw [hL]
  have hLsz : (strOf L).size = L.length := strOf_size' L
  have hLl : L.length ≤ 2000 := by rw [← hL]; have := Utf.lines_len S; omega
  have hL' := Lib.hid hL
  have hb2' := Lib.hid (hb1'.out.trans (hb2.mono hb1'.out.size))
  clear hb2 hb1' hL
  go_wp2_with fail
  go_loopw [5, 7, 8] (fun v5 v7 _ wr => ∃ j : Nat, j ≤ L.length ∧ v7 = .int .i64 (j : Nat) ∧ v5 = .string (strOf ((L.take j).map bl)) ∧ Hid (∀ c ∈ L.take j, c ≠ 34 ∧ c ≠ 39 ∧ c ≠ 60 ∧ c ≠ 38) ∧ Hid (Below w.heap.size w wr)) (fun _ v7 _ _ => L.length - (intOf v7).toNat)
  case atStart => exact ⟨0, by omega, rfl, by simp; rfl, Lib.hid (by simp), hb2'⟩
  case round =>
    clear hb2'
    obtain ⟨j, hj, rfl, rfl, hok, hb⟩ := hrel
    by_cases hlt : j < L.length
    · have i1 : decide ((j : Int) < (L.length : Int)) = true := by simp; omega
      have hx : L[j]? = some L[j] := List.getElem?_eq_getElem hlt
      generalize L[j] = x at hx
      have hlt' : j < (strOf L).size := by omega
      have hgx := str_at hx hlt'
      have q1 : (j : Int) < (L.length : Int) := by omega
      have htk : L.take (j + 1) = L.take j ++ [x] := by rw [List.take_add_one, hx]; rfl
      have htk' := Lib.hid htk
      by_cases h34 : x = 34
      · have j34 : ((x.toNat : Int) == 34) = true := by rw [h34]; rfl
        go_wp2_with fail
        (try simp only [Exit.inBlock, Exit.then])
        go_ret
        exact ⟨rfl, hb.out⟩
      have j34 : ((x.toNat : Int) == 34) = false := by rw [show (34 : Int) = ((34 : UInt8).toNat : Int) from rfl, byte_eq, decide_eq_false h34]
      by_cases h39 : x = 39
      · have j39 : ((x.toNat : Int) == 39) = true := by rw [h39]; rfl
        clear h34
        go_wp2_with fail
        (try simp only [Exit.inBlock, Exit.then])
        go_ret
        exact ⟨rfl, hb.out⟩
      have j39 : ((x.toNat : Int) == 39) = false := by rw [show (39 : Int) = ((39 : UInt8).toNat : Int) from rfl, byte_eq, decide_eq_false h39]
      by_cases h60 : x = 60
      · have j60 : ((x.toNat : Int) == 60) = true := by rw [h60]; rfl
        clear h34 h39
        go_wp2_with fail
        (try simp only [Exit.inBlock, Exit.then])
        go_ret
        exact ⟨rfl, hb.out⟩
      have j60 : ((x.toNat : Int) == 60) = false := by rw [show (60 : Int) = ((60 : UInt8).toNat : Int) from rfl, byte_eq, decide_eq_false h60]
      by_cases h38 : x = 38
      · have j38 : ((x.toNat : Int) == 38) = true := by rw [h38]; rfl
        clear h34 h39 h60
        go_wp2_with fail
        (try simp only [Exit.inBlock, Exit.then])
        go_ret
        exact ⟨rfl, hb.out⟩
      have j38 : ((x.toNat : Int) == 38) = false := by rw [show (38 : Int) = ((38 : UInt8).toNat : Int) from rfl, byte_eq, decide_eq_false h38]
      have hok2 : Hid (∀ c ∈ L.take (j + 1), c ≠ 34 ∧ c ≠ 39 ∧ c ≠ 60 ∧ c ≠ 38) := Lib.hid (by
        rw [htk'.out]
        intro c hc
        rcases List.mem_append.1 hc with hc | hc
        · exact hok.out c hc
        · rw [List.mem_singleton.1 hc]
          exact ⟨h34, h39, h60, h38⟩)
      clear h34 h39 h60 h38 htk
      obtain ⟨O, hO⟩ : ∃ O, (L.take j).map bl = O := ⟨_, rfl⟩
      have hOl : O.length ≤ 2000 := by rw [← hO, List.length_map, List.length_take]; omega
      rw [hO]
      have hO' := Lib.hid hO
      clear hO
      by_cases hbl : x = 9 ∨ x = 10
      · have hblx : bl x = 32 := by unfold bl; rw [if_pos hbl]
        have hrel2 : Hid ((L.take (j + 1)).map bl = O ++ [32]) := Lib.hid (by rw [htk'.out, List.map_append, hO'.out, List.map_cons, hblx]; rfl)
        have ha : ∀ w, (Op.stringOp .add (strOf O) ⟨#[32]⟩).run Tryz.prog w = .ok (.string (strOf (O ++ [32]))) w := fun w => add_str w O [32] (by simp; omega)
        clear hblx
        by_cases h9 : x = 9
        · have j9 : ((x.toNat : Int) == 9) = true := by rw [h9]; rfl
          clear hbl h9
          go_wp2_with fail
          go_roundw
          case rel => exact ⟨j + 1, by omega, by go_num, by rw [hrel2.out], hok2, hb⟩
          case measure => simp [intOf]; omega
        · have j9 : ((x.toNat : Int) == 9) = false := by rw [show (9 : Int) = ((9 : UInt8).toNat : Int) from rfl, byte_eq, decide_eq_false h9]
          have j10 : ((x.toNat : Int) == 10) = true := by rw [hbl.resolve_left h9]; rfl
          clear hbl h9
          go_wp2_with fail
          go_roundw
          case rel => exact ⟨j + 1, by omega, by go_num, by rw [hrel2.out], hok2, hb⟩
          case measure => simp [intOf]; omega
      have j9 : ((x.toNat : Int) == 9) = false := by rw [show (9 : Int) = ((9 : UInt8).toNat : Int) from rfl, byte_eq, decide_eq_false fun e => hbl (.inl e)]
      have j10 : ((x.toNat : Int) == 10) = false := by rw [show (10 : Int) = ((10 : UInt8).toNat : Int) from rfl, byte_eq, decide_eq_false fun e => hbl (.inr e)]
      have hblx : bl x = x := by unfold bl; rw [if_neg hbl]
      have hrel2 : Hid ((L.take (j + 1)).map bl = O ++ [x]) := Lib.hid (by rw [htk'.out, List.map_append, hO'.out, List.map_cons, hblx]; rfl)
      have ha := fun w => add_str w O [x] (by simp; omega)
      have hcut : (strOf L).extract j (j + 1) = strOf [x] := by rw [strOf_cut, show j + 1 - j = 1 by omega, drop_at hx]; rfl
      have q2 : (0 : Int) ≤ (j : Int) ∧ (j : Int) ≤ (j : Int) + 1 := ⟨by omega, by omega⟩
      have q3 : (j : Int) + 1 ≤ (L.length : Int) := by omega
      clear hblx hbl
      go_wp2_with fail
      go_roundw
      case rel => exact ⟨j + 1, by omega, by go_num, by rw [hrel2.out], hok2, hb⟩
      case measure => simp [intOf]; omega
    · have i1 : decide ((j : Int) < (L.length : Int)) = false := by simp; omega
      obtain rfl : j = L.length := by omega
      rw [List.take_length] at hok ⊢
      rw [← hL'.out] at hok
      have hLe := hL'.out
      clear hlt
      cases single with
      | false =>
        have hs1 : ∀ w, (Op.stringOp .add ⟨#[60, 97, 32, 120, 61]⟩ ⟨#[34]⟩).run Tryz.prog w = .ok (.string (strOf ([60, 97, 32, 120, 61] ++ [34]))) w := fun w => add_str w [60, 97, 32, 120, 61] [34] (by decide)
        have hs2 := fun w => add_str w ([60, 97, 32, 120, 61] ++ [34]) S (by simp; omega)
        have hs3 : ∀ w, (Op.stringOp .add (strOf ([60, 97, 32, 120, 61] ++ [34] ++ S)) ⟨#[34]⟩).run Tryz.prog w = .ok (.string (strOf ([60, 97, 32, 120, 61] ++ [34] ++ S ++ [34]))) w := fun w => add_str w ([60, 97, 32, 120, 61] ++ [34] ++ S) [34] (by simp; omega)
        have hs4 : ∀ w, (Op.stringOp .add (strOf ([60, 97, 32, 120, 61] ++ [34] ++ S ++ [34])) ⟨#[47, 62]⟩).run Tryz.prog w = .ok (.string (strOf ([60, 97, 32, 120, 61] ++ [34] ++ S ++ [34] ++ [47, 62]))) w := fun w => add_str w ([60, 97, 32, 120, 61] ++ [34] ++ S ++ [34]) [47, 62] (by simp; omega)
        obtain ⟨D, hD⟩ : ∃ D, docV 34 S = D := ⟨_, rfl⟩
        have hDe : [60, 97, 32, 120, 61] ++ [34] ++ S ++ [34] ++ [47, 62] = D := by rw [← hD]; unfold docV; simp
        rw [hDe] at hs4
        obtain ⟨D3, hD3⟩ : ∃ D3, [60, 97, 32, 120, 61] ++ [34] ++ S ++ [34] = D3 := ⟨_, rfl⟩
        rw [hD3] at hs3 hs4
        obtain ⟨D2, hD2⟩ : ∃ D2, [60, 97, 32, 120, 61] ++ [34] ++ S = D2 := ⟨_, rfl⟩
        rw [hD2] at hs2 hs3
        obtain ⟨D1, hD1⟩ : ∃ D1 : Tx, [60, 97, 32, 120, 61] ++ [34] = D1 := ⟨_, rfl⟩
        rw [hD1] at hs1 hs2
        have hDl : D.length ≤ 65536 := by rw [← hD]; unfold docV; simp; omega
        have hD' := Lib.hid hD
        obtain ⟨bd, cb, wD, hcv, hbs, hbD⟩ := conv_bytes wr D (by omega)
        have hxD := Lib.hid (hb.out.trans (hbD.mono hb.out.size))
        have hbs' := Lib.hid hbs
        clear hDe hD3 hD2 hD1 hD hbs hbD
        go_wp2_with fail
        refine (All_any wD (hU'.out.below hxD.out) _ D.length cb D hbs'.out (by omega)).mono ?_
        intro e w3 h3
        have hbad := docV_bad (q := 34) (.inl rfl) S
        rw [hD'.out] at hbad
        obtain ⟨bs2, cb2, wS, hcv2, hbsS, hbS⟩ := conv_bytes w3 S (by omega)
        by_cases hbd : 0 ≤ badW S 0
        · have hall : allF D = (1, (badW D 0).toNat, []) := all_bad' (by omega) (by rw [hbad, if_pos hbd]; omega)
          rw [hbad, if_pos hbd] at hall
          obtain ⟨hb3, v, rfl, f3⟩ := h3.no hall (by decide)
          have hx3 := Lib.hid (hxD.out.trans (hb3.mono hxD.out.size))
          have hxS := Lib.hid (hx3.out.trans (hbS.mono hx3.out.size))
          have fS := Lib.hid (Fe.later f3 hbS)
          have hbsS' := Lib.hid hbsS
          obtain ⟨Tv, av, rfl⟩ := f3.iface
          obtain ⟨bn, hbn⟩ : ∃ bn, badW S 0 = bn := ⟨_, rfl⟩
          rw [hbn] at hbd
          have i3 : decide (0 ≤ bn) = true := by simpa using hbd
          have hbn' := Lib.hid hbn
          have hplace : Hid ((((badW S 0 + 6).toNat : Nat) : Int) = 6 + bn) := Lib.hid (by rw [hbn]; omega)
          rw [hplace.out] at fS
          clear h3 hb3 f3 hbsS hbS hbad hall hbn hbd
          go_wp2_with fail
          refine (refBad_any _ S.length cb2 S (by omega) wS hbsS'.out).mono ?_
          rintro e w4 ⟨rfl, hb4⟩
          rw [hbn'.out]
          have f4 := Lib.hid (Fe.later fS.out hb4)
          have hx4 := Lib.hid (hxS.out.trans (hb4.mono hxS.out.size))
          clear hb4 fS hcv2
          go_wp2_with fail
          refine (Code_any 1 (6 + bn) _ _ w.heap.size w4 (hE'.out.on hx4.out) f4.out).mono ?_
          rintro e w5 ⟨rfl, hb5⟩
          have f5 := Lib.hid (Fe.later f4.out hb5)
          have hx5 := Lib.hid (hx4.out.trans (hb5.mono hx4.out.size))
          clear hb5 f4
          go_wp2_with fail
          refine (At_any 1 (6 + bn) _ _ w.heap.size w5 (hE'.out.on hx5.out) f5.out).mono ?_
          rintro e w6 ⟨rfl, hb6⟩
          have hx6 := Lib.hid (hx5.out.trans (hb6.mono hx5.out.size))
          clear hb6 f5
          obtain ⟨bs3, cb3, wT, hcv3, hbsT, hbT⟩ := conv_bytes w6 S (by omega)
          have hxT := Lib.hid (hx6.out.trans (hbT.mono hx6.out.size))
          have hbsT' := Lib.hid hbsT
          clear hbsT hbT
          go_wp2_with fail
          refine (refBad_any _ S.length cb3 S (by omega) wT hbsT'.out).mono ?_
          rintro e w7 ⟨rfl, hb7⟩
          rw [hbn'.out]
          have hx7 := Lib.hid (hxT.out.trans (hb7.mono hxT.out.size))
          clear hb7 hcv3
          have hbnl : bn ≤ 2000 := by
            have := badW_le2 S
            rw [hbn'.out] at this
            omega
          have hbn0 : 0 ≤ bn := by simpa using i3
          clear i3
          go_wp2_with fail
          (try simp only [Exit.inBlock, Exit.then])
          go_ret
          exact ⟨ret_bool (by simp), hx7.out⟩
        · have hall : allF D = (0, 0, [⟨2, 0, [97], [], [([120], (Utf.lines S).map bl)]⟩]) := by
            rw [← hD'.out]
            exact docV_ok (q := 34) (.inl rfl) (by omega) (by omega) hok.out
          rw [hLe] at hall
          obtain ⟨hb3, A3, c3, rfl, ho3⟩ := h3.ok hall
          simp only [List.length_cons, List.length_nil] at ho3
          have hx3 := Lib.hid (hxD.out.trans (hb3.mono hxD.out.size))
          have hxS := Lib.hid (hx3.out.trans (hbS.mono hx3.out.size))
          have hoS := Lib.hid (ho3.below hbS)
          have hbsS' := Lib.hid hbsS
          obtain ⟨bn, hbn⟩ : ∃ bn, badW S 0 = bn := ⟨_, rfl⟩
          rw [hbn] at hbd
          have i3 : decide (0 ≤ bn) = false := by simpa using hbd
          have hbn' := Lib.hid hbn
          clear h3 hb3 ho3 hbsS hbS hbad hall hbn hbd
          go_wp2_with fail
          refine (refBad_any _ S.length cb2 S (by omega) wS hbsS'.out).mono ?_
          rintro e w4 ⟨rfl, hb4⟩
          rw [hbn'.out]
          have ho4 := Lib.hid (hoS.out.below hb4)
          have hx4 := Lib.hid (hxS.out.trans (hb4.mono hxS.out.size))
          clear hb4 hoS hcv2
          go_wp2_with fail
          refine (Code_ok w4).mono ?_
          rintro e w5 ⟨rfl, hb5⟩
          have ho5 := ho4.out.below hb5
          have hx5 := Lib.hid (hx4.out.trans (hb5.mono hx4.out.size))
          obtain ⟨b1, off1, At, ct, rfl, _, k0, _, _, _, k4, hats⟩ := tk_at ho5 (i := 0) rfl
          obtain ⟨b2, off2, x2, vs2, rfl, _, hx2, _, hv2, hc2⟩ := (OwS.sq' hats (by decide)).at_ (i := 0) (by simp)
          simp at hx2
          subst hx2
          unfold AtEl at hv2
          subst hv2
          have m0 := hc2 0 _ rfl
          have m1 := hc2 1 _ rfl
          rw [Nat.zero_mul, Nat.add_zero] at k0 k4 m0 m1
          dsimp only at m0 m1
          have hstr : (strOf [120]).toList = [120] := by rw [Lib.toList_data]; rfl
          clear hb5 ho4 ho5 hats hc2
          go_wp2_with fail
          (try simp only [Exit.inBlock, Exit.then])
          go_ret
          exact ⟨rfl, hx5.out⟩
      | true =>
        have hs1 : ∀ w, (Op.stringOp .add ⟨#[60, 97, 32, 120, 61]⟩ ⟨#[39]⟩).run Tryz.prog w = .ok (.string (strOf ([60, 97, 32, 120, 61] ++ [39]))) w := fun w => add_str w [60, 97, 32, 120, 61] [39] (by decide)
        have hs2 := fun w => add_str w ([60, 97, 32, 120, 61] ++ [39]) S (by simp; omega)
        have hs3 : ∀ w, (Op.stringOp .add (strOf ([60, 97, 32, 120, 61] ++ [39] ++ S)) ⟨#[39]⟩).run Tryz.prog w = .ok (.string (strOf ([60, 97, 32, 120, 61] ++ [39] ++ S ++ [39]))) w := fun w => add_str w ([60, 97, 32, 120, 61] ++ [39] ++ S) [39] (by simp; omega)
        have hs4 : ∀ w, (Op.stringOp .add (strOf ([60, 97, 32, 120, 61] ++ [39] ++ S ++ [39])) ⟨#[47, 62]⟩).run Tryz.prog w = .ok (.string (strOf ([60, 97, 32, 120, 61] ++ [39] ++ S ++ [39] ++ [47, 62]))) w := fun w => add_str w ([60, 97, 32, 120, 61] ++ [39] ++ S ++ [39]) [47, 62] (by simp; omega)
        obtain ⟨D, hD⟩ : ∃ D, docV 39 S = D := ⟨_, rfl⟩
        have hDe : [60, 97, 32, 120, 61] ++ [39] ++ S ++ [39] ++ [47, 62] = D := by rw [← hD]; unfold docV; simp
        rw [hDe] at hs4
        obtain ⟨D3, hD3⟩ : ∃ D3, [60, 97, 32, 120, 61] ++ [39] ++ S ++ [39] = D3 := ⟨_, rfl⟩
        rw [hD3] at hs3 hs4
        obtain ⟨D2, hD2⟩ : ∃ D2, [60, 97, 32, 120, 61] ++ [39] ++ S = D2 := ⟨_, rfl⟩
        rw [hD2] at hs2 hs3
        obtain ⟨D1, hD1⟩ : ∃ D1 : Tx, [60, 97, 32, 120, 61] ++ [39] = D1 := ⟨_, rfl⟩
        rw [hD1] at hs1 hs2
        have hDl : D.length ≤ 65536 := by rw [← hD]; unfold docV; simp; omega
        have hD' := Lib.hid hD
        obtain ⟨bd, cb, wD, hcv, hbs, hbD⟩ := conv_bytes wr D (by omega)
        have hxD := Lib.hid (hb.out.trans (hbD.mono hb.out.size))
        have hbs' := Lib.hid hbs
        clear hDe hD3 hD2 hD1 hD hbs hbD
        go_wp2_with fail
        refine (All_any wD (hU'.out.below hxD.out) _ D.length cb D hbs'.out (by omega)).mono ?_
        intro e w3 h3
        have hbad := docV_bad (q := 39) (.inr rfl) S
        rw [hD'.out] at hbad
        obtain ⟨bs2, cb2, wS, hcv2, hbsS, hbS⟩ := conv_bytes w3 S (by omega)
        by_cases hbd : 0 ≤ badW S 0
        · have hall : allF D = (1, (badW D 0).toNat, []) := all_bad' (by omega) (by rw [hbad, if_pos hbd]; omega)
          rw [hbad, if_pos hbd] at hall
          obtain ⟨hb3, v, rfl, f3⟩ := h3.no hall (by decide)
          have hx3 := Lib.hid (hxD.out.trans (hb3.mono hxD.out.size))
          have hxS := Lib.hid (hx3.out.trans (hbS.mono hx3.out.size))
          have fS := Lib.hid (Fe.later f3 hbS)
          have hbsS' := Lib.hid hbsS
          obtain ⟨Tv, av, rfl⟩ := f3.iface
          obtain ⟨bn, hbn⟩ : ∃ bn, badW S 0 = bn := ⟨_, rfl⟩
          rw [hbn] at hbd
          have i3 : decide (0 ≤ bn) = true := by simpa using hbd
          have hbn' := Lib.hid hbn
          have hplace : Hid ((((badW S 0 + 6).toNat : Nat) : Int) = 6 + bn) := Lib.hid (by rw [hbn]; omega)
          rw [hplace.out] at fS
          clear h3 hb3 f3 hbsS hbS hbad hall hbn hbd
          go_wp2_with fail
          refine (refBad_any _ S.length cb2 S (by omega) wS hbsS'.out).mono ?_
          rintro e w4 ⟨rfl, hb4⟩
          rw [hbn'.out]
          have f4 := Lib.hid (Fe.later fS.out hb4)
          have hx4 := Lib.hid (hxS.out.trans (hb4.mono hxS.out.size))
          clear hb4 fS hcv2
          go_wp2_with fail
          refine (Code_any 1 (6 + bn) _ _ w.heap.size w4 (hE'.out.on hx4.out) f4.out).mono ?_
          rintro e w5 ⟨rfl, hb5⟩
          have f5 := Lib.hid (Fe.later f4.out hb5)
          have hx5 := Lib.hid (hx4.out.trans (hb5.mono hx4.out.size))
          clear hb5 f4
          go_wp2_with fail
          refine (At_any 1 (6 + bn) _ _ w.heap.size w5 (hE'.out.on hx5.out) f5.out).mono ?_
          rintro e w6 ⟨rfl, hb6⟩
          have hx6 := Lib.hid (hx5.out.trans (hb6.mono hx5.out.size))
          clear hb6 f5
          obtain ⟨bs3, cb3, wT, hcv3, hbsT, hbT⟩ := conv_bytes w6 S (by omega)
          have hxT := Lib.hid (hx6.out.trans (hbT.mono hx6.out.size))
          have hbsT' := Lib.hid hbsT
          clear hbsT hbT
          go_wp2_with fail
          refine (refBad_any _ S.length cb3 S (by omega) wT hbsT'.out).mono ?_
          rintro e w7 ⟨rfl, hb7⟩
          rw [hbn'.out]
          have hx7 := Lib.hid (hxT.out.trans (hb7.mono hxT.out.size))
          clear hb7 hcv3
          have hbnl : bn ≤ 2000 := by
            have := badW_le2 S
            rw [hbn'.out] at this
            omega
          have hbn0 : 0 ≤ bn := by simpa using i3
          clear i3
          go_wp2_with fail
          (try simp only [Exit.inBlock, Exit.then])
          go_ret
          exact ⟨ret_bool (by simp), hx7.out⟩
        · have hall : allF D = (0, 0, [⟨2, 0, [97], [], [([120], (Utf.lines S).map bl)]⟩]) := by
            rw [← hD'.out]
            exact docV_ok (q := 39) (.inr rfl) (by omega) (by omega) hok.out
          rw [hLe] at hall
          obtain ⟨hb3, A3, c3, rfl, ho3⟩ := h3.ok hall
          simp only [List.length_cons, List.length_nil] at ho3
          have hx3 := Lib.hid (hxD.out.trans (hb3.mono hxD.out.size))
          have hxS := Lib.hid (hx3.out.trans (hbS.mono hx3.out.size))
          have hoS := Lib.hid (ho3.below hbS)
          have hbsS' := Lib.hid hbsS
          obtain ⟨bn, hbn⟩ : ∃ bn, badW S 0 = bn := ⟨_, rfl⟩
          rw [hbn] at hbd
          have i3 : decide (0 ≤ bn) = false := by simpa using hbd
          have hbn' := Lib.hid hbn
          clear h3 hb3 ho3 hbsS hbS hbad hall hbn hbd
          go_wp2_with fail
          refine (refBad_any _ S.length cb2 S (by omega) wS hbsS'.out).mono ?_
          rintro e w4 ⟨rfl, hb4⟩
          rw [hbn'.out]
          have ho4 := Lib.hid (hoS.out.below hb4)
          have hx4 := Lib.hid (hxS.out.trans (hb4.mono hxS.out.size))
          clear hb4 hoS hcv2
          go_wp2_with fail
          refine (Code_ok w4).mono ?_
          rintro e w5 ⟨rfl, hb5⟩
          have ho5 := ho4.out.below hb5
          have hx5 := Lib.hid (hx4.out.trans (hb5.mono hx4.out.size))
          obtain ⟨b1, off1, At, ct, rfl, _, k0, _, _, _, k4, hats⟩ := tk_at ho5 (i := 0) rfl
          obtain ⟨b2, off2, x2, vs2, rfl, _, hx2, _, hv2, hc2⟩ := (OwS.sq' hats (by decide)).at_ (i := 0) (by simp)
          simp at hx2
          subst hx2
          unfold AtEl at hv2
          subst hv2
          have m0 := hc2 0 _ rfl
          have m1 := hc2 1 _ rfl
          rw [Nat.zero_mul, Nat.add_zero] at k0 k4 m0 m1
          dsimp only at m0 m1
          have hstr : (strOf [120]).toList = [120] := by rw [Lib.toList_data]; rfl
          clear hb5 ho4 ho5 hats hc2
          go_wp2_with fail
          (try simp only [Exit.inBlock, Exit.then])
          go_ret
          exact ⟨rfl, hx5.out⟩
end
end Go.Proofs.YtcecmbbhjaeodaaGreatDoor.Xl
end

section
namespace Go.Proofs.YtcecmbbhjaeodaaGreatDoor.Xl
open Go.RowKit UtfW Er

theorem hexc_cut {d : Nat} (h : d < 16) : (strOf [48, 49, 50, 51, 52, 53, 54, 55, 56, 57, 97, 98, 99, 100, 101, 102]).extract d (d + 1) = strOf [hexc d] := by
  rw [strOf_cut, show d + 1 - d = 1 by omega]
  have : ∀ d : Fin 16, (([48, 49, 50, 51, 52, 53, 54, 55, 56, 57, 97, 98, 99, 100, 101, 102] : Tx).drop d.val).take 1 = [hexc d.val] := by decide
  rw [this ⟨d, h⟩]
set_option maxHeartbeats 2000000 in
set_option maxRecDepth 100000 in
theorem numberL_any (w : World) (n : Int) (hn : n.natAbs < 4294967296) (base : Nat) (hb : base = 10 ∨ base = 16) :
    Calls Tryz.prog 17 #[.int .i64 n, .int .i64 (base : Nat)] w fun e w' => e = .returned (.string (strOf (numT base n))) ∧ Below w.heap.size w w' := by
  obtain ⟨T, hT⟩ : ∃ T, numT base n = T := ⟨_, rfl⟩
  rw [hT]
  have hT' := Lib.hid hT
  clear hT
  by_cases h0 : n = 0
  · subst h0
    go_enter Tryz.func17, Tryz.ntmps17
    go_wp2_with fail
    go_ret
    exact ⟨by rw [← hT'.out]; rfl, Below.refl _ _⟩
  have e0 : (n == 0) = false := by simpa using h0
  obtain ⟨D, hD⟩ : ∃ D, digs base 64 n.natAbs [] = D := ⟨_, rfl⟩
  have hDl : D.length ≤ 64 := by rw [← hD]; have := digs_len base 64 n.natAbs []; simpa using this
  have hTn : Hid (T = if n < 0 then 45 :: D else D) := Lib.hid (by rw [← hT'.out, ← hD]; unfold numT; rw [if_neg h0])
  obtain ⟨v0, hv0⟩ : ∃ v0, n.natAbs = v0 := ⟨_, rfl⟩
  have hv0' := Lib.hid hv0
  have hD' : Hid (digs base 64 v0 [] = D) := Lib.hid (by rw [← hv0]; exact hD)
  have hp64 : Hid (v0 < base ^ 64) := Lib.hid (by
    have : 2 ^ 64 ≤ base ^ 64 := Nat.pow_le_pow_left (by omega) 64
    have : (2 : Nat) ^ 64 = 18446744073709551616 := by decide
    omega)
  clear hD
  by_cases hneg : n < 0
  · have i0 : decide (n < 0) = true := by simpa using hneg
    have hnv : -n = (v0 : Int) := by omega
    go_enter Tryz.func17, Tryz.ntmps17
    go_wp2_with fail
    go_loopw [5, 6] (fun v5 v6 wr => ∃ (v f : Nat) (O : Tx), v6 = .int .i64 (v : Nat) ∧ v5 = .string (strOf O) ∧ O.length + f ≤ 64 ∧ v < 4294967296 ∧ Hid (v < base ^ f) ∧ Hid (digs base f v O = D) ∧ Hid (Below w.heap.size w wr)) (fun _ v6 _ => (intOf v6).toNat)
    case atStart => exact ⟨v0, 64, [], by first | rfl | (rw [hnv]), rfl, by simp, by omega, hp64, hD', Lib.hid (Below.refl _ _)⟩
    case round =>
      obtain ⟨v, f, O, rfl, rfl, hOf, hv, hvf, hd, hbw⟩ := hrel
      by_cases hv1 : v = 0
      · subst hv1
        have hOD : Hid (O = D) := Lib.hid (by rw [← hd.out]; cases f <;> rfl)
        have i1 : decide ((0 : Int) < ((0 : Nat) : Int)) = false := by decide
        have i2 : decide (n < 0) = true := by simpa using hneg
        have ha : (Op.stringOp .add ⟨#[45]⟩ (strOf O)).run Tryz.prog wr = .ok (.string (strOf ([45] ++ O))) wr := add_str wr [45] O (by simp; omega)
        go_wp2_with fail
        (try simp only [Exit.inBlock, Exit.then])
        go_ret
        refine ⟨?_, hbw.out⟩
        rw [hTn.out, if_pos hneg, ← hOD.out]
        rfl
      · have i1 : decide (0 < v) = true := by simp; omega
        obtain ⟨f', rfl⟩ : ∃ f', f = f' + 1 := by
          cases f with
          | zero => have := hvf.out; simp at this; omega
          | succ f' => exact ⟨f', rfl⟩
        obtain ⟨d, hdd⟩ : ∃ d, v % base = d := ⟨_, rfl⟩
        have hdl : d < 16 := by rw [← hdd]; have := Nat.mod_lt v (y := base) (by omega); omega
        have hrem : Int.tmod (v : Int) (base : Int) = (d : Int) := by rw [← hdd]; exact Int.ofNat_tmod v base |>.symm
        have hquo : Int.tdiv (v : Int) (base : Int) = ((v / base : Nat) : Int) := Int.ofNat_tdiv v base |>.symm
        have hb0 : ((base : Int) == 0) = false := by simp; omega
        have hcut := hexc_cut hdl
        have hcut2 : (⟨#[48, 49, 50, 51, 52, 53, 54, 55, 56, 57, 97, 98, 99, 100, 101, 102]⟩ : ByteArray).extract d (d + 1) = strOf [hexc d] := hcut
        have ha := fun w => add_str w [hexc d] O (by simp; omega)
        have q1 : (0 : Int) ≤ (d : Int) ∧ (d : Int) ≤ (d : Int) + 1 := ⟨by omega, by omega⟩
        have q2 : (d : Int) + 1 ≤ 16 := by omega
        have hnext : Hid (digs base f' (v / base) ([hexc d] ++ O) = D) := Lib.hid (by rw [← hd.out, digs, if_neg hv1, hdd]; rfl)
        have hlt2 : Hid (v / base < base ^ f') := Lib.hid (by
          have := hvf.out
          rw [Nat.pow_succ] at this
          exact Nat.div_lt_of_lt_mul (by rw [Nat.mul_comm]; exact this))
        have hvb : v / base < v := Nat.div_lt_self (by omega) (by omega)
        obtain ⟨v2, hv2⟩ : ∃ v2, v / base = v2 := ⟨_, rfl⟩
        rw [hv2] at hquo hnext hlt2 hvb
        have hvbH := Lib.hid hvb
        have hw64 : Hid (wrap64 (v2 : Int) = (v2 : Int)) := Lib.hid (by unfold wrap64; omega)
        clear hcut hdd hvb hv2
        go_wp2_with fail
        go_big_quiet (fail)
        have hbq := Lib.hid (hbw.out.trans ((Joins.below_draws _ wr nq).mono hbw.out.size))
        go_wp2_with fail
        go_roundw
        case rel => exact ⟨v2, f', [hexc d] ++ O, by rw [hw64.out], rfl, by simp; omega, by have := hvbH.out; omega, hlt2, hnext, hbq⟩
        case measure => (rw [hw64.out]; simp only [intOf, Int.toNat_natCast]; exact hvbH.out)
  · have i0 : decide (n < 0) = false := decide_eq_false hneg
    have hneg' : ¬ n < 0 := hneg
    have hnv : n = (v0 : Int) := by omega
    go_enter Tryz.func17, Tryz.ntmps17
    go_wp2_with fail
    go_loopw [5, 6] (fun v5 v6 wr => ∃ (v f : Nat) (O : Tx), v6 = .int .i64 (v : Nat) ∧ v5 = .string (strOf O) ∧ O.length + f ≤ 64 ∧ v < 4294967296 ∧ Hid (v < base ^ f) ∧ Hid (digs base f v O = D) ∧ Hid (Below w.heap.size w wr)) (fun _ v6 _ => (intOf v6).toNat)
    case atStart => exact ⟨v0, 64, [], by first | rfl | (rw [hnv]), rfl, by simp, by omega, hp64, hD', Lib.hid (Below.refl _ _)⟩
    case round =>
      obtain ⟨v, f, O, rfl, rfl, hOf, hv, hvf, hd, hbw⟩ := hrel
      by_cases hv1 : v = 0
      · subst hv1
        have hOD : Hid (O = D) := Lib.hid (by rw [← hd.out]; cases f <;> rfl)
        have i1 : decide ((0 : Int) < ((0 : Nat) : Int)) = false := by decide
        have hneg2 : ¬ n < 0 := by omega
        have i2 : decide (n < 0) = false := decide_eq_false hneg2
        go_wp2_with fail
        (try simp only [Exit.inBlock, Exit.then])
        go_ret
        refine ⟨?_, hbw.out⟩
        have hneg3 : ¬ n < 0 := by omega
        rw [hTn.out, if_neg hneg3, ← hOD.out]
        rfl
      · have i1 : decide (0 < v) = true := by simp; omega
        obtain ⟨f', rfl⟩ : ∃ f', f = f' + 1 := by
          cases f with
          | zero => have := hvf.out; simp at this; omega
          | succ f' => exact ⟨f', rfl⟩
        obtain ⟨d, hdd⟩ : ∃ d, v % base = d := ⟨_, rfl⟩
        have hdl : d < 16 := by rw [← hdd]; have := Nat.mod_lt v (y := base) (by omega); omega
        have hrem : Int.tmod (v : Int) (base : Int) = (d : Int) := by rw [← hdd]; exact Int.ofNat_tmod v base |>.symm
        have hquo : Int.tdiv (v : Int) (base : Int) = ((v / base : Nat) : Int) := Int.ofNat_tdiv v base |>.symm
        have hb0 : ((base : Int) == 0) = false := by simp; omega
        have hcut := hexc_cut hdl
        have hcut2 : (⟨#[48, 49, 50, 51, 52, 53, 54, 55, 56, 57, 97, 98, 99, 100, 101, 102]⟩ : ByteArray).extract d (d + 1) = strOf [hexc d] := hcut
        have ha := fun w => add_str w [hexc d] O (by simp; omega)
        have q1 : (0 : Int) ≤ (d : Int) ∧ (d : Int) ≤ (d : Int) + 1 := ⟨by omega, by omega⟩
        have q2 : (d : Int) + 1 ≤ 16 := by omega
        have hnext : Hid (digs base f' (v / base) ([hexc d] ++ O) = D) := Lib.hid (by rw [← hd.out, digs, if_neg hv1, hdd]; rfl)
        have hlt2 : Hid (v / base < base ^ f') := Lib.hid (by
          have := hvf.out
          rw [Nat.pow_succ] at this
          exact Nat.div_lt_of_lt_mul (by rw [Nat.mul_comm]; exact this))
        have hvb : v / base < v := Nat.div_lt_self (by omega) (by omega)
        obtain ⟨v2, hv2⟩ : ∃ v2, v / base = v2 := ⟨_, rfl⟩
        rw [hv2] at hquo hnext hlt2 hvb
        have hvbH := Lib.hid hvb
        have hw64 : Hid (wrap64 (v2 : Int) = (v2 : Int)) := Lib.hid (by unfold wrap64; omega)
        clear hcut hdd hvb hv2
        go_wp2_with fail
        go_big_quiet (fail)
        have hbq := Lib.hid (hbw.out.trans ((Joins.below_draws _ wr nq).mono hbw.out.size))
        go_wp2_with fail
        go_roundw
        case rel => exact ⟨v2, f', [hexc d] ++ O, by rw [hw64.out], rfl, by simp; omega, by have := hvbH.out; omega, hlt2, hnext, hbq⟩
        case measure => (rw [hw64.out]; simp only [intOf, Int.toNat_natCast]; exact hvbH.out)
end Go.Proofs.YtcecmbbhjaeodaaGreatDoor.Xl
end

section
namespace Go.Proofs.YtcecmbbhjaeodaaGreatDoor.Xl
open Go.RowKit UtfW Er

theorem cell_keep {w x : World} {b i : Nat} {v : Value} (h : w.cell? ⟨b, i, none⟩ = some v) (hb : Below w.heap.size w x) : x.cell? ⟨b, i, none⟩ = some v := by
  have hlt : b < w.heap.size := by
    refine Nat.lt_of_not_le fun hn => ?_
    simp [World.cell?, Array.getElem?_eq_none hn] at h
  have e := hb.block b hlt
  simp only [World.cell?] at h ⊢
  rw [e]
  exact h
section
variable (w : World) (S : Tx) (n : Int)
set_option maxHeartbeats 8000000 in
set_option maxRecDepth 100000 in
theorem plain_law (hU : Un w) (hE : En w.heap.size w) (h0 : -2147483648 ≤ n) (h1 : n ≤ 2147483647) :
    Calls Tryz.prog 6 #[.string (strOf S), .int .i32 n] w fun e w' => e = .returned (.bool true) ∧ Below w.heap.size w w' := by
  have hsz : (strOf S).size = S.length := strOf_size' S
  have hls : (strOf S).data.toList = S := by simp [strOf]
  have hU' := Lib.hid hU
  have hE' := Lib.hid hE
  have hn : n.natAbs < 4294967296 := by omega
  have hwn : IntKind.i64.wrap n = n := IntWalk.i64_in _ (by omega)
  have hnum10 := fun w => numberL_any w n hn 10 (.inl rfl)
  have hnum16 := fun w => numberL_any w n hn 16 (.inr rfl)
  have hdoc : Hid (docR n = docR n) := Lib.hid rfl
  have hall := docR_eq hn
  obtain ⟨Dd, hDd⟩ : ∃ Dd, docR n = Dd := ⟨_, rfl⟩
  have hDd' := Lib.hid hDd
  have hDf : [60, 97, 62, 38, 35] ++ numT 10 n ++ [59, 38, 35, 120] ++ numT 16 n ++ [59, 60, 47, 97, 62] = Dd := by rw [← hDd]; rfl
  have hl10 := numT_len 10 n
  have hl16 := numT_len 16 n
  have hDl : Dd.length ≤ 200 := by rw [← hDf]; simp; omega
  rw [hDd] at hall
  have hall' := Lib.hid hall
  clear hall hdoc hDd
  obtain ⟨D10, hD10⟩ : ∃ D, numT 10 n = D := ⟨_, rfl⟩
  obtain ⟨D16, hD16⟩ : ∃ D, numT 16 n = D := ⟨_, rfl⟩
  simp only [hD10] at hnum10
  simp only [hD16] at hnum16
  rw [hD10] at hl10 hDf
  rw [hD16] at hl16 hDf
  clear hD10 hD16
  have hs1 : ∀ w, (Op.stringOp .add ⟨#[60, 97, 62, 38, 35]⟩ (strOf D10)).run Tryz.prog w = .ok (.string (strOf ([60, 97, 62, 38, 35] ++ D10))) w := fun w => add_str w [60, 97, 62, 38, 35] D10 (by simp; omega)
  have hs2 : ∀ w, (Op.stringOp .add (strOf ([60, 97, 62, 38, 35] ++ D10)) ⟨#[59, 38, 35, 120]⟩).run Tryz.prog w = .ok (.string (strOf ([60, 97, 62, 38, 35] ++ D10 ++ [59, 38, 35, 120]))) w := fun w => add_str w _ [59, 38, 35, 120] (by simp; omega)
  have hs3 := fun w => add_str w ([60, 97, 62, 38, 35] ++ D10 ++ [59, 38, 35, 120]) D16 (by simp; omega)
  have hs4 : ∀ w, (Op.stringOp .add (strOf ([60, 97, 62, 38, 35] ++ D10 ++ [59, 38, 35, 120] ++ D16)) ⟨#[59, 60, 47, 97, 62]⟩).run Tryz.prog w = .ok (.string (strOf ([60, 97, 62, 38, 35] ++ D10 ++ [59, 38, 35, 120] ++ D16 ++ [59, 60, 47, 97, 62]))) w := fun w => add_str w _ [59, 60, 47, 97, 62] (by simp; omega)
  rw [hDf] at hs4
  obtain ⟨E3, hE3⟩ : ∃ E, [60, 97, 62, 38, 35] ++ D10 ++ [59, 38, 35, 120] ++ D16 = E := ⟨_, rfl⟩
  rw [hE3] at hs3 hs4
  obtain ⟨E2, hE2⟩ : ∃ E, [60, 97, 62, 38, 35] ++ D10 ++ [59, 38, 35, 120] = E := ⟨_, rfl⟩
  rw [hE2] at hs2 hs3
  obtain ⟨E1, hE1⟩ : ∃ E, [60, 97, 62, 38, 35] ++ D10 = E := ⟨_, rfl⟩
  rw [hE1] at hs1 hs2
  clear hE3 hE2 hE1 hDf
  go_enter Tryz.func6, Tryz.ntmps6
  go_wp2_with fail
  refine (awake_any w hU hE).mono ?_
  rintro e w1 ⟨rfl, hb1⟩
  have hb1' := Lib.hid hb1
  clear hb1 hU hE
  by_cases hlen : 4096 < S.length
  · have i0 : decide ((4096 : Int) < (S.length : Int)) = true := by simp; omega
    go_wp2_with fail
    (try simp only [Exit.inBlock, Exit.then])
    go_ret
    exact ⟨rfl, hb1'.out⟩
  have i0 : decide ((4096 : Int) < (S.length : Int)) = false := by simp; omega
  have hlen' : S.length ≤ 4096 := by omega
  clear hlen
  go_wp2_with fail
  refine (hnum10 w1).mono ?_
  rintro e w2 ⟨rfl, hb2⟩
  have hx2 := Lib.hid (hb1'.out.trans (hb2.mono hb1'.out.size))
  clear hb2 hb1' hnum10
  go_wp2_with fail
  refine (hnum16 w2).mono ?_
  rintro e w2b ⟨rfl, hb2⟩
  have hx2b := Lib.hid (hx2.out.trans (hb2.mono hx2.out.size))
  clear hb2 hx2 hnum16
  obtain ⟨bd0, cb0, wD0, hcv0, hbs0, hbD0⟩ := conv_bytes w2b Dd (by omega)
  have hxD0 := Lib.hid (hx2b.out.trans (hbD0.mono hx2b.out.size))
  have hbs0' := Lib.hid hbs0
  clear hbs0 hbD0
  go_wp2_with fail
  refine (All_any wD0 (hU'.out.below hxD0.out) _ Dd.length cb0 Dd hbs0'.out (by omega)).mono ?_
  intro e w3 h3
  clear hbs0' hcv0 hs1 hs2 hs3 hs4 hl10 hl16
  cases hch : Utf.Char n with
  | true =>
    have hall := hall'.out
    rw [hch, if_pos rfl] at hall
    obtain ⟨hb3, A3, c3, rfl, ho3⟩ := h3.ok hall
    simp only [List.length_cons, List.length_nil] at ho3
    have hx3 := Lib.hid (hxD0.out.trans (hb3.mono hxD0.out.size))
    have ho4 := Lib.hid ho3
    have hch' := Lib.hid hch
    clear h3 hb3 ho3 hall hch hxD0
    go_wp2_with fail
    refine (refchar_any n w3).mono ?_
    rintro e w4 ⟨rfl, hww⟩
    rw [hch'.out]
    subst hww
    have hx4 := hx3
    clear hx3
    obtain ⟨b1, off1, At, ct, rfl, _, _, _, _, k3, _, _⟩ := tk_at ho4.out (i := 1) rfl
    dsimp only at k3
    have hq : Hid (∀ x, Below w4.heap.size w4 x → x.cell? ⟨b1, off1 + 1 * 5 + 3, none⟩ = some (.string (strOf (encB n ++ encB n)))) := Lib.hid fun x hx => cell_keep k3 hx
    have hdr : Hid (Below w4.heap.size w4 w4.drew) := Lib.hid (Joins.below_draws w4.heap.size w4 1)
    have hel : (encB n).length ≤ 4 := by
      have e : ((n.toNat : Nat) : Int) = n := by
        have := hch'.out
        unfold Utf.Char at this
        rw [decide_eq_true_eq] at this
        omega
      rw [← e]
      exact encB_le n.toNat
    have hadd := fun w => add_str w (encB n) (encB n) (by omega)
    have hid1 : ((strOf (encB n ++ encB n)).toList == encB n ++ encB n) = true := by rw [str_eqL]; simp
    clear k3
    go_wp2_with fail
    refine Pl.wp_region_plan 20 (.take 0 (.run 1 (.take 2 (.take 3 (.take 4 (.take 5 (.take 6 (.take 7 (.take 8 (.take 9 (.take 10 (.take 11 (.take 12 (.take 13 (.take 16 (.run 14 (.take 15 (.run 17 (.take 18 (.take 19 .done)))))))))))))))))))) (fun x => Below w4.heap.size w4 x) (by kernel_rfl) (by kernel_rfl) (by exact hdr.out) ?_
    simp only [Pl.fill, List.getElem?_cons_zero, List.getElem?_cons_succ, List.drop_succ_cons, List.drop_zero]
    iterate 1
      first
      | (refine Pl.take_go ?_ (by rfl) (fun _ _ _ h => h) ?_ ?_
         rotate_left
         · (intro x hSw; have s0 := hq.out x hSw; go_simp; try with_reducible rfl)
         (try simp only [Act.put, List.setIfInBounds_toArray, List.set_cons_zero, List.set_cons_succ]))
      | (refine Pl.take_skip (by rfl) (fun _ _ _ h => h) ?_
         (try simp only [Act.put, List.setIfInBounds_toArray, List.set_cons_zero, List.set_cons_succ]))
    refine Pl.run_go (fun K hK => ?_)
    go_simp
    refine (Code_ok _).mono ?_
    rintro e w5 ⟨rfl, hb5⟩
    have hb5' := Lib.hid (hdr.out.trans (hb5.mono hdr.out.size))
    dsimp only
    refine hK.out _ _ (Pl.more_go (fun x => Below w5.heap.size w5 x) (fun x hx => hb5'.out.trans (hx.mono hb5'.out.size)) (Below.refl _ _) ?_)
    clear hK K
    try simp only [Act.put, List.setIfInBounds_toArray, List.set_cons_zero, List.set_cons_succ]
    iterate 13
      first
      | (refine Pl.take_go ?_ (by rfl) (fun _ _ _ h => h) ?_ ?_
         rotate_left
         · (intro x hSw; have s0 := hq.out x (hb5'.out.trans (hSw.mono hb5'.out.size)); go_simp; try with_reducible rfl)
         (try simp only [Act.put, List.setIfInBounds_toArray, List.set_cons_zero, List.set_cons_succ]))
      | (refine Pl.take_skip (by rfl) (fun _ _ _ h => h) ?_
         (try simp only [Act.put, List.setIfInBounds_toArray, List.set_cons_zero, List.set_cons_succ]))
    refine Pl.run_go (fun K hK => ?_)
    go_simp
    refine (refEncode_any n h0 h1 w5).mono ?_
    rintro e w6 ⟨A6, c6, rfl, ho6, hb6⟩
    have hb6' := Lib.hid (hb5'.out.trans (hb6.mono hb5'.out.size))
    have hcv6 : Hid (∀ x, Below w6.heap.size w6 x → (convert 22 9 (.slice A6 (encB n).length c6)).run Tryz.prog x = .ok (.string (strOf (encB n))) x) := Lib.hid fun x hx => Bs.conv (ho6.below hx).bs Tryz.underlying22 Tryz.underlying5 Tryz.underlying9
    dsimp only
    refine hK.out _ _ (Pl.more_go (fun x => Below w6.heap.size w6 x) (fun x hx => hb6.trans (hx.mono hb6.size)) (Below.refl _ _) ?_)
    clear hK K
    try simp only [Act.put, List.setIfInBounds_toArray, List.set_cons_zero, List.set_cons_succ]
    iterate 1
      first
      | (refine Pl.take_go ?_ (by rfl) (fun _ _ _ h => h) ?_ ?_
         rotate_left
         · (intro x hSw; have s0 := hcv6.out x hSw; go_simp; try with_reducible rfl)
         (try simp only [Act.put, List.setIfInBounds_toArray, List.set_cons_zero, List.set_cons_succ]))
      | (refine Pl.take_skip (by rfl) (fun _ _ _ h => h) ?_
         (try simp only [Act.put, List.setIfInBounds_toArray, List.set_cons_zero, List.set_cons_succ]))
    refine Pl.run_go (fun K hK => ?_)
    go_simp
    refine (refEncode_any n h0 h1 w6).mono ?_
    rintro e w7 ⟨A7, c7, rfl, ho7, hb7⟩
    have hb7' := Lib.hid (hb6'.out.trans (hb7.mono hb6'.out.size))
    have hcv7 : Hid (∀ x, Below w7.heap.size w7 x → (convert 22 9 (.slice A7 (encB n).length c7)).run Tryz.prog x = .ok (.string (strOf (encB n))) x) := Lib.hid fun x hx => Bs.conv (ho7.below hx).bs Tryz.underlying22 Tryz.underlying5 Tryz.underlying9
    dsimp only
    refine hK.out _ _ (Pl.more_go (fun x => Below w7.heap.size w7 x) (fun x hx => hb7.trans (hx.mono hb7.size)) (Below.refl _ _) ?_)
    clear hK K
    try simp only [Act.put, List.setIfInBounds_toArray, List.set_cons_zero, List.set_cons_succ]
    iterate 2
      first
      | (refine Pl.take_go ?_ (by rfl) (fun _ _ _ h => h) ?_ ?_
         rotate_left
         · (intro x hSw; have s0 := hcv7.out x hSw; go_simp; try with_reducible rfl)
         (try simp only [Act.put, List.setIfInBounds_toArray, List.set_cons_zero, List.set_cons_succ]))
      | (refine Pl.take_skip (by rfl) (fun _ _ _ h => h) ?_
         (try simp only [Act.put, List.setIfInBounds_toArray, List.set_cons_zero, List.set_cons_succ]))
    refine Pl.done_go ?_
    have hxN := Lib.hid (hx4.out.trans (hb7'.out.mono hx4.out.size))
    have hbN := Lib.hid trivial
    clear hbN
    go_wp2_with fail
    go_loopw [7] (fun v7 wr => ∃ j : Nat, j ≤ S.length ∧ v7 = .int .i64 (j : Nat) ∧ Hid (∀ c ∈ S.take j, c ≠ 60 ∧ c ≠ 38 ∧ c ≠ 93) ∧ Hid (Below w.heap.size w wr)) (fun v7 _ => S.length - (intOf v7).toNat)
    case atStart => exact ⟨0, by omega, rfl, Lib.hid (by simp), hxN⟩
    case round =>
      clear hxN
      obtain ⟨j, hj, rfl, hok, hb⟩ := hrel
      by_cases hlt : j < S.length
      · have i1 : decide ((j : Int) < (S.length : Int)) = true := by simp; omega
        have hx : S[j]? = some S[j] := List.getElem?_eq_getElem hlt
        generalize S[j] = x at hx
        have hlt' : j < (strOf S).size := by omega
        have hgx := str_at hx hlt'
        have q1 : (j : Int) < (S.length : Int) := by omega
        have htk : S.take (j + 1) = S.take j ++ [x] := by rw [List.take_add_one, hx]; rfl
        have htk' := Lib.hid htk
        by_cases h60 : x = 60
        · have j60 : ((x.toNat : Int) == 60) = true := by rw [h60]; rfl
          go_wp2_with fail
          (try simp only [Exit.inBlock, Exit.then])
          go_ret
          exact ⟨rfl, hb.out⟩
        have j60 : ((x.toNat : Int) == 60) = false := by rw [show (60 : Int) = ((60 : UInt8).toNat : Int) from rfl, byte_eq, decide_eq_false h60]
        by_cases h38 : x = 38
        · have j38 : ((x.toNat : Int) == 38) = true := by rw [h38]; rfl
          clear h60
          go_wp2_with fail
          (try simp only [Exit.inBlock, Exit.then])
          go_ret
          exact ⟨rfl, hb.out⟩
        have j38 : ((x.toNat : Int) == 38) = false := by rw [show (38 : Int) = ((38 : UInt8).toNat : Int) from rfl, byte_eq, decide_eq_false h38]
        by_cases h93 : x = 93
        · have j93 : ((x.toNat : Int) == 93) = true := by rw [h93]; rfl
          clear h60 h38
          go_wp2_with fail
          (try simp only [Exit.inBlock, Exit.then])
          go_ret
          exact ⟨rfl, hb.out⟩
        have j93 : ((x.toNat : Int) == 93) = false := by rw [show (93 : Int) = ((93 : UInt8).toNat : Int) from rfl, byte_eq, decide_eq_false h93]
        have hok2 : Hid (∀ c ∈ S.take (j + 1), c ≠ 60 ∧ c ≠ 38 ∧ c ≠ 93) := Lib.hid (by
          rw [htk'.out]
          intro c hc
          rcases List.mem_append.1 hc with hc | hc
          · exact hok.out c hc
          · rw [List.mem_singleton.1 hc]
            exact ⟨h60, h38, h93⟩)
        clear h60 h38 h93 htk
        go_wp2_with fail
        go_roundw
        case rel => exact ⟨j + 1, by omega, by go_num, hok2, hb⟩
        case measure => simp [intOf]; omega
      · have i1 : decide ((j : Int) < (S.length : Int)) = false := by simp; omega
        obtain rfl : j = S.length := by omega
        have hok' : Hid (∀ c ∈ S, c ≠ 60 ∧ c ≠ 38 ∧ c ≠ 93) := Lib.hid (by have := hok.out; rw [List.take_length] at this; exact this)
        clear hok hlt
        obtain ⟨bd, cb, wD, hcv, hbs, hbD⟩ := conv_bytes wr S (by omega)
        have hxD := Lib.hid (hb.out.trans (hbD.mono hb.out.size))
        have hbs' := Lib.hid hbs
        clear hbs hbD
        go_wp2_with fail
        refine (All_any wD (hU'.out.below hxD.out) _ S.length cb S hbs'.out (by omega)).mono ?_
        intro e w3 h3
        obtain ⟨bs2, cb2, wS, hcv2, hbsS, hbS⟩ := conv_bytes w3 S (by omega)
        by_cases hbd : 0 ≤ badW S 0
        · obtain ⟨hb3, v, rfl, f3⟩ := h3.no (all_bad' (by omega) hbd) (by decide)
          have hx3 := Lib.hid (hxD.out.trans (hb3.mono hxD.out.size))
          have hxS := Lib.hid (hx3.out.trans (hbS.mono hx3.out.size))
          have fS := Lib.hid (Fe.later f3 hbS)
          have hbsS' := Lib.hid hbsS
          obtain ⟨Tv, av, rfl⟩ := f3.iface
          obtain ⟨bn, hbn⟩ : ∃ bn, badW S 0 = bn := ⟨_, rfl⟩
          rw [hbn] at hbd
          have i3 : decide (0 ≤ bn) = true := by simpa using hbd
          have hbn' := Lib.hid hbn
          clear h3 hb3 f3 hbsS hbS hbn hbd
          go_wp2_with fail
          refine (refBad_any _ S.length cb2 S (by omega) wS hbsS'.out).mono ?_
          rintro e w4 ⟨rfl, hb4⟩
          rw [hbn'.out]
          have f4 := Lib.hid (Fe.later fS.out hb4)
          have hx4 := Lib.hid (hxS.out.trans (hb4.mono hxS.out.size))
          clear hb4 fS hcv2
          go_wp2_with fail
          refine (Code_any 1 _ _ _ w.heap.size w4 (hE'.out.on hx4.out) f4.out).mono ?_
          rintro e w5 ⟨rfl, hb5⟩
          have hx5 := Lib.hid (hx4.out.trans (hb5.mono hx4.out.size))
          clear hb5 f4
          go_wp2_with fail
          (try simp only [Exit.inBlock, Exit.then])
          go_ret
          exact ⟨rfl, hx5.out⟩
        · have hbd2 : badW S 0 < 0 := by omega
          obtain ⟨bn, hbn⟩ : ∃ bn, badW S 0 = bn := ⟨_, rfl⟩
          have hbn' := Lib.hid hbn
          rw [hbn] at hbd
          have i3 : decide (0 ≤ bn) = false := by simpa using hbd
          by_cases hS0 : S = []
          · have i4 : ((strOf S).toList == []) = true := by rw [str_eqL, hS0]; rfl
            obtain ⟨hb3, A3, c3, rfl, ho3⟩ := h3.ok (p := 0) (ts := []) (by rw [hS0]; exact plain_nil)
            have hx3 := Lib.hid (hxD.out.trans (hb3.mono hxD.out.size))
            have hxS := Lib.hid (hx3.out.trans (hbS.mono hx3.out.size))
            have hbsS' := Lib.hid hbsS
            have hS0' := Lib.hid hS0
            clear h3 hb3 ho3 hbsS hbS hbn hbd hbd2 hS0
            go_wp2_with fail
            refine (refBad_any _ S.length cb2 S (by omega) wS hbsS'.out).mono ?_
            rintro e w4 ⟨rfl, hb4⟩
            rw [hbn'.out]
            have hx4 := Lib.hid (hxS.out.trans (hb4.mono hxS.out.size))
            clear hb4 hcv2
            go_wp2_with fail
            refine (Code_ok w4).mono ?_
            rintro e w5 ⟨rfl, hb5⟩
            have hx5 := Lib.hid (hx4.out.trans (hb5.mono hx4.out.size))
            clear hb5
            go_wp2_with fail
            (try simp only [Exit.inBlock, Exit.then])
            go_ret
            exact ⟨rfl, hx5.out⟩
          · have i4 : ((strOf S).toList == []) = false := by rw [str_eqL, decide_eq_false hS0]
            have hall : ∃ p, allF S = (0, p, [⟨4, 0, [], Utf.lines S, []⟩]) := by
              rcases plain_ok (by omega) hbd2 hS0 (fun h => (hok'.out _ h).1 rfl) (fun h => (hok'.out _ h).2.1 rfl) (fun h => (hok'.out _ h).2.2 rfl) with h | h
              · exact ⟨_, h⟩
              · exact h
            obtain ⟨p, hall⟩ := hall
            obtain ⟨hb3, A3, c3, rfl, ho3⟩ := h3.ok hall
            simp only [List.length_cons, List.length_nil] at ho3
            have hx3 := Lib.hid (hxD.out.trans (hb3.mono hxD.out.size))
            have hxS := Lib.hid (hx3.out.trans (hbS.mono hx3.out.size))
            have hoS := Lib.hid (ho3.below hbS)
            have hbsS' := Lib.hid hbsS
            clear h3 hb3 ho3 hbsS hbS hbn hbd hbd2 hS0 hall
            go_wp2_with fail
            refine (refBad_any _ S.length cb2 S (by omega) wS hbsS'.out).mono ?_
            rintro e w4 ⟨rfl, hb4⟩
            rw [hbn'.out]
            have ho4 := Lib.hid (hoS.out.below hb4)
            have hx4 := Lib.hid (hxS.out.trans (hb4.mono hxS.out.size))
            clear hb4 hoS hcv2
            obtain ⟨b1, off1, At, ct, rfl, _, _, _, _, k3, _, _⟩ := tk_at ho4.out (i := 0) rfl
            rw [Nat.zero_mul, Nat.add_zero] at k3
            dsimp only at k3
            have hq : Hid (∀ x, Below w4.heap.size w4 x → x.cell? ⟨b1, off1 + 3, none⟩ = some (.string (strOf (Utf.lines S)))) := Lib.hid fun x hx => cell_keep k3 hx
            have hdr : Hid (Below w4.heap.size w4 w4.drew) := Lib.hid (Joins.below_draws w4.heap.size w4 1)
            have hid1 : ((strOf (Utf.lines S)).toList == Utf.lines S) = true := by rw [str_eqL]; simp
            clear k3
            go_wp2_with fail
            refine Pl.wp_region_plan 15 (.take 0 (.run 1 (.take 2 (.take 3 (.take 4 (.take 5 (.take 6 (.take 7 (.take 8 (.take 9 (.take 10 (.take 11 (.take 12 (.take 13 (.run 14 .done))))))))))))))) (fun x => Below w4.heap.size w4 x) (by kernel_rfl) (by kernel_rfl) (by exact hdr.out) ?_
            simp only [Pl.fill, List.getElem?_cons_zero, List.getElem?_cons_succ, List.drop_succ_cons, List.drop_zero]
            iterate 1
              first
              | (refine Pl.take_go ?_ (by rfl) (fun _ _ _ h => h) ?_ ?_
                 rotate_left
                 · (intro x hSw; have s0 := hq.out x hSw; go_simp; try with_reducible rfl)
                 (try simp only [Act.put, List.setIfInBounds_toArray, List.set_cons_zero, List.set_cons_succ]))
              | (refine Pl.take_skip (by rfl) (fun _ _ _ h => h) ?_
                 (try simp only [Act.put, List.setIfInBounds_toArray, List.set_cons_zero, List.set_cons_succ]))
            refine Pl.run_go (fun K hK => ?_)
            go_simp
            refine (Code_ok _).mono ?_
            rintro e w5 ⟨rfl, hb5⟩
            have hb5' := Lib.hid (hdr.out.trans (hb5.mono hdr.out.size))
            dsimp only
            refine hK.out _ _ (Pl.more_go (fun x => Below w5.heap.size w5 x) (fun x hx => hb5'.out.trans (hx.mono hb5'.out.size)) (Below.refl _ _) ?_)
            clear hK K
            try simp only [Act.put, List.setIfInBounds_toArray, List.set_cons_zero, List.set_cons_succ]
            iterate 12
              first
              | (refine Pl.take_go ?_ (by rfl) (fun _ _ _ h => h) ?_ ?_
                 rotate_left
                 · (intro x hSw; have s0 := hq.out x (hb5'.out.trans (hSw.mono hb5'.out.size)); go_simp; try with_reducible rfl)
                 (try simp only [Act.put, List.setIfInBounds_toArray, List.set_cons_zero, List.set_cons_succ]))
              | (refine Pl.take_skip (by rfl) (fun _ _ _ h => h) ?_
                 (try simp only [Act.put, List.setIfInBounds_toArray, List.set_cons_zero, List.set_cons_succ]))
            refine Pl.run_go (fun K hK => ?_)
            go_simp
            refine (refLines_any (strOf S) (by rw [hsz]; omega) w5).mono ?_
            rintro e w6 ⟨rfl, hb6⟩
            rw [hls]
            have hx6 := Lib.hid (hx4.out.trans ((hb5'.out.trans (hb6.mono hb5'.out.size)).mono hx4.out.size))
            dsimp only
            refine hK.out _ _ (Pl.more_go (fun x => Below w6.heap.size w6 x) (fun x hx => hb6.trans (hx.mono hb6.size)) (Below.refl _ _) ?_)
            clear hK K
            try simp only [Act.put, List.setIfInBounds_toArray, List.set_cons_zero, List.set_cons_succ]
            refine Pl.done_go ?_
            go_wp2_with fail
            (try simp only [Exit.inBlock, Exit.then])
            go_ret
            exact ⟨rfl, hx6.out⟩
  | false =>
    have hall := hall'.out
    rw [hch, if_neg (by decide)] at hall
    obtain ⟨hb3, v, rfl, f3⟩ := h3.no hall (by decide)
    have hx3 := Lib.hid (hxD0.out.trans (hb3.mono hxD0.out.size))
    have f3' := Lib.hid f3
    have hch' := Lib.hid hch
    obtain ⟨Tv, av, rfl⟩ := f3.iface
    clear h3 hb3 f3 hall hch hxD0
    go_wp2_with fail
    refine (refchar_any n w3).mono ?_
    rintro e w4 ⟨rfl, hww⟩
    rw [hch'.out]
    subst hww
    go_wp2_with fail
    refine (Code_any 5 3 _ _ w.heap.size w4 (hE'.out.on hx3.out) f3'.out).mono ?_
    rintro e w5 ⟨rfl, hb5⟩
    have f5 := Lib.hid (Fe.later f3'.out hb5)
    have hx5 := Lib.hid (hx3.out.trans (hb5.mono hx3.out.size))
    clear hb5 f3' hx3
    go_wp2_with fail
    refine (At_any 5 3 _ _ w.heap.size w5 (hE'.out.on hx5.out) f5.out).mono ?_
    rintro e w6 ⟨rfl, hb6⟩
    have hxN := Lib.hid (hx5.out.trans (hb6.mono hx5.out.size))
    have hbN := Lib.hid trivial
    clear hb6 f5 hx5
    clear hbN
    go_wp2_with fail
    go_loopw [7] (fun v7 wr => ∃ j : Nat, j ≤ S.length ∧ v7 = .int .i64 (j : Nat) ∧ Hid (∀ c ∈ S.take j, c ≠ 60 ∧ c ≠ 38 ∧ c ≠ 93) ∧ Hid (Below w.heap.size w wr)) (fun v7 _ => S.length - (intOf v7).toNat)
    case atStart => exact ⟨0, by omega, rfl, Lib.hid (by simp), hxN⟩
    case round =>
      clear hxN
      obtain ⟨j, hj, rfl, hok, hb⟩ := hrel
      by_cases hlt : j < S.length
      · have i1 : decide ((j : Int) < (S.length : Int)) = true := by simp; omega
        have hx : S[j]? = some S[j] := List.getElem?_eq_getElem hlt
        generalize S[j] = x at hx
        have hlt' : j < (strOf S).size := by omega
        have hgx := str_at hx hlt'
        have q1 : (j : Int) < (S.length : Int) := by omega
        have htk : S.take (j + 1) = S.take j ++ [x] := by rw [List.take_add_one, hx]; rfl
        have htk' := Lib.hid htk
        by_cases h60 : x = 60
        · have j60 : ((x.toNat : Int) == 60) = true := by rw [h60]; rfl
          go_wp2_with fail
          (try simp only [Exit.inBlock, Exit.then])
          go_ret
          exact ⟨rfl, hb.out⟩
        have j60 : ((x.toNat : Int) == 60) = false := by rw [show (60 : Int) = ((60 : UInt8).toNat : Int) from rfl, byte_eq, decide_eq_false h60]
        by_cases h38 : x = 38
        · have j38 : ((x.toNat : Int) == 38) = true := by rw [h38]; rfl
          clear h60
          go_wp2_with fail
          (try simp only [Exit.inBlock, Exit.then])
          go_ret
          exact ⟨rfl, hb.out⟩
        have j38 : ((x.toNat : Int) == 38) = false := by rw [show (38 : Int) = ((38 : UInt8).toNat : Int) from rfl, byte_eq, decide_eq_false h38]
        by_cases h93 : x = 93
        · have j93 : ((x.toNat : Int) == 93) = true := by rw [h93]; rfl
          clear h60 h38
          go_wp2_with fail
          (try simp only [Exit.inBlock, Exit.then])
          go_ret
          exact ⟨rfl, hb.out⟩
        have j93 : ((x.toNat : Int) == 93) = false := by rw [show (93 : Int) = ((93 : UInt8).toNat : Int) from rfl, byte_eq, decide_eq_false h93]
        have hok2 : Hid (∀ c ∈ S.take (j + 1), c ≠ 60 ∧ c ≠ 38 ∧ c ≠ 93) := Lib.hid (by
          rw [htk'.out]
          intro c hc
          rcases List.mem_append.1 hc with hc | hc
          · exact hok.out c hc
          · rw [List.mem_singleton.1 hc]
            exact ⟨h60, h38, h93⟩)
        clear h60 h38 h93 htk
        go_wp2_with fail
        go_roundw
        case rel => exact ⟨j + 1, by omega, by go_num, hok2, hb⟩
        case measure => simp [intOf]; omega
      · have i1 : decide ((j : Int) < (S.length : Int)) = false := by simp; omega
        obtain rfl : j = S.length := by omega
        have hok' : Hid (∀ c ∈ S, c ≠ 60 ∧ c ≠ 38 ∧ c ≠ 93) := Lib.hid (by have := hok.out; rw [List.take_length] at this; exact this)
        clear hok hlt
        obtain ⟨bd, cb, wD, hcv, hbs, hbD⟩ := conv_bytes wr S (by omega)
        have hxD := Lib.hid (hb.out.trans (hbD.mono hb.out.size))
        have hbs' := Lib.hid hbs
        clear hbs hbD
        go_wp2_with fail
        refine (All_any wD (hU'.out.below hxD.out) _ S.length cb S hbs'.out (by omega)).mono ?_
        intro e w3 h3
        obtain ⟨bs2, cb2, wS, hcv2, hbsS, hbS⟩ := conv_bytes w3 S (by omega)
        by_cases hbd : 0 ≤ badW S 0
        · obtain ⟨hb3, v, rfl, f3⟩ := h3.no (all_bad' (by omega) hbd) (by decide)
          have hx3 := Lib.hid (hxD.out.trans (hb3.mono hxD.out.size))
          have hxS := Lib.hid (hx3.out.trans (hbS.mono hx3.out.size))
          have fS := Lib.hid (Fe.later f3 hbS)
          have hbsS' := Lib.hid hbsS
          obtain ⟨Tv, av, rfl⟩ := f3.iface
          obtain ⟨bn, hbn⟩ : ∃ bn, badW S 0 = bn := ⟨_, rfl⟩
          rw [hbn] at hbd
          have i3 : decide (0 ≤ bn) = true := by simpa using hbd
          have hbn' := Lib.hid hbn
          clear h3 hb3 f3 hbsS hbS hbn hbd
          go_wp2_with fail
          refine (refBad_any _ S.length cb2 S (by omega) wS hbsS'.out).mono ?_
          rintro e w4 ⟨rfl, hb4⟩
          rw [hbn'.out]
          have f4 := Lib.hid (Fe.later fS.out hb4)
          have hx4 := Lib.hid (hxS.out.trans (hb4.mono hxS.out.size))
          clear hb4 fS hcv2
          go_wp2_with fail
          refine (Code_any 1 _ _ _ w.heap.size w4 (hE'.out.on hx4.out) f4.out).mono ?_
          rintro e w5 ⟨rfl, hb5⟩
          have hx5 := Lib.hid (hx4.out.trans (hb5.mono hx4.out.size))
          clear hb5 f4
          go_wp2_with fail
          (try simp only [Exit.inBlock, Exit.then])
          go_ret
          exact ⟨rfl, hx5.out⟩
        · have hbd2 : badW S 0 < 0 := by omega
          obtain ⟨bn, hbn⟩ : ∃ bn, badW S 0 = bn := ⟨_, rfl⟩
          have hbn' := Lib.hid hbn
          rw [hbn] at hbd
          have i3 : decide (0 ≤ bn) = false := by simpa using hbd
          by_cases hS0 : S = []
          · have i4 : ((strOf S).toList == []) = true := by rw [str_eqL, hS0]; rfl
            obtain ⟨hb3, A3, c3, rfl, ho3⟩ := h3.ok (p := 0) (ts := []) (by rw [hS0]; exact plain_nil)
            have hx3 := Lib.hid (hxD.out.trans (hb3.mono hxD.out.size))
            have hxS := Lib.hid (hx3.out.trans (hbS.mono hx3.out.size))
            have hbsS' := Lib.hid hbsS
            have hS0' := Lib.hid hS0
            clear h3 hb3 ho3 hbsS hbS hbn hbd hbd2 hS0
            go_wp2_with fail
            refine (refBad_any _ S.length cb2 S (by omega) wS hbsS'.out).mono ?_
            rintro e w4 ⟨rfl, hb4⟩
            rw [hbn'.out]
            have hx4 := Lib.hid (hxS.out.trans (hb4.mono hxS.out.size))
            clear hb4 hcv2
            go_wp2_with fail
            refine (Code_ok w4).mono ?_
            rintro e w5 ⟨rfl, hb5⟩
            have hx5 := Lib.hid (hx4.out.trans (hb5.mono hx4.out.size))
            clear hb5
            go_wp2_with fail
            (try simp only [Exit.inBlock, Exit.then])
            go_ret
            exact ⟨rfl, hx5.out⟩
          · have i4 : ((strOf S).toList == []) = false := by rw [str_eqL, decide_eq_false hS0]
            have hall : ∃ p, allF S = (0, p, [⟨4, 0, [], Utf.lines S, []⟩]) := by
              rcases plain_ok (by omega) hbd2 hS0 (fun h => (hok'.out _ h).1 rfl) (fun h => (hok'.out _ h).2.1 rfl) (fun h => (hok'.out _ h).2.2 rfl) with h | h
              · exact ⟨_, h⟩
              · exact h
            obtain ⟨p, hall⟩ := hall
            obtain ⟨hb3, A3, c3, rfl, ho3⟩ := h3.ok hall
            simp only [List.length_cons, List.length_nil] at ho3
            have hx3 := Lib.hid (hxD.out.trans (hb3.mono hxD.out.size))
            have hxS := Lib.hid (hx3.out.trans (hbS.mono hx3.out.size))
            have hoS := Lib.hid (ho3.below hbS)
            have hbsS' := Lib.hid hbsS
            clear h3 hb3 ho3 hbsS hbS hbn hbd hbd2 hS0 hall
            go_wp2_with fail
            refine (refBad_any _ S.length cb2 S (by omega) wS hbsS'.out).mono ?_
            rintro e w4 ⟨rfl, hb4⟩
            rw [hbn'.out]
            have ho4 := Lib.hid (hoS.out.below hb4)
            have hx4 := Lib.hid (hxS.out.trans (hb4.mono hxS.out.size))
            clear hb4 hoS hcv2
            obtain ⟨b1, off1, At, ct, rfl, _, _, _, _, k3, _, _⟩ := tk_at ho4.out (i := 0) rfl
            rw [Nat.zero_mul, Nat.add_zero] at k3
            dsimp only at k3
            have hq : Hid (∀ x, Below w4.heap.size w4 x → x.cell? ⟨b1, off1 + 3, none⟩ = some (.string (strOf (Utf.lines S)))) := Lib.hid fun x hx => cell_keep k3 hx
            have hdr : Hid (Below w4.heap.size w4 w4.drew) := Lib.hid (Joins.below_draws w4.heap.size w4 1)
            have hid1 : ((strOf (Utf.lines S)).toList == Utf.lines S) = true := by rw [str_eqL]; simp
            clear k3
            go_wp2_with fail
            refine Pl.wp_region_plan 15 (.take 0 (.run 1 (.take 2 (.take 3 (.take 4 (.take 5 (.take 6 (.take 7 (.take 8 (.take 9 (.take 10 (.take 11 (.take 12 (.take 13 (.run 14 .done))))))))))))))) (fun x => Below w4.heap.size w4 x) (by kernel_rfl) (by kernel_rfl) (by exact hdr.out) ?_
            simp only [Pl.fill, List.getElem?_cons_zero, List.getElem?_cons_succ, List.drop_succ_cons, List.drop_zero]
            iterate 1
              first
              | (refine Pl.take_go ?_ (by rfl) (fun _ _ _ h => h) ?_ ?_
                 rotate_left
                 · (intro x hSw; have s0 := hq.out x hSw; go_simp; try with_reducible rfl)
                 (try simp only [Act.put, List.setIfInBounds_toArray, List.set_cons_zero, List.set_cons_succ]))
              | (refine Pl.take_skip (by rfl) (fun _ _ _ h => h) ?_
                 (try simp only [Act.put, List.setIfInBounds_toArray, List.set_cons_zero, List.set_cons_succ]))
            refine Pl.run_go (fun K hK => ?_)
            go_simp
            refine (Code_ok _).mono ?_
            rintro e w5 ⟨rfl, hb5⟩
            have hb5' := Lib.hid (hdr.out.trans (hb5.mono hdr.out.size))
            dsimp only
            refine hK.out _ _ (Pl.more_go (fun x => Below w5.heap.size w5 x) (fun x hx => hb5'.out.trans (hx.mono hb5'.out.size)) (Below.refl _ _) ?_)
            clear hK K
            try simp only [Act.put, List.setIfInBounds_toArray, List.set_cons_zero, List.set_cons_succ]
            iterate 12
              first
              | (refine Pl.take_go ?_ (by rfl) (fun _ _ _ h => h) ?_ ?_
                 rotate_left
                 · (intro x hSw; have s0 := hq.out x (hb5'.out.trans (hSw.mono hb5'.out.size)); go_simp; try with_reducible rfl)
                 (try simp only [Act.put, List.setIfInBounds_toArray, List.set_cons_zero, List.set_cons_succ]))
              | (refine Pl.take_skip (by rfl) (fun _ _ _ h => h) ?_
                 (try simp only [Act.put, List.setIfInBounds_toArray, List.set_cons_zero, List.set_cons_succ]))
            refine Pl.run_go (fun K hK => ?_)
            go_simp
            refine (refLines_any (strOf S) (by rw [hsz]; omega) w5).mono ?_
            rintro e w6 ⟨rfl, hb6⟩
            rw [hls]
            have hx6 := Lib.hid (hx4.out.trans ((hb5'.out.trans (hb6.mono hb5'.out.size)).mono hx4.out.size))
            dsimp only
            refine hK.out _ _ (Pl.more_go (fun x => Below w6.heap.size w6 x) (fun x hx => hb6.trans (hx.mono hb6.size)) (Below.refl _ _) ?_)
            clear hK K
            try simp only [Act.put, List.setIfInBounds_toArray, List.set_cons_zero, List.set_cons_succ]
            refine Pl.done_go ?_
            go_wp2_with fail
            (try simp only [Exit.inBlock, Exit.then])
            go_ret
            exact ⟨rfl, hx6.out⟩
end
end Go.Proofs.YtcecmbbhjaeodaaGreatDoor.Xl
end

section
namespace Go.Proofs.YtcecmbbhjaeodaaGreatDoor.Xl
open Go.RowKit UtfW Er

/-- The document's scanner's block, and the bytes elsewhere. -/
structure Sr (w : World) (b : Nat) (S : Tx) (k : Nat) (A : Option Addr) (c : Nat) (e : Int) (pl : Nat) : Prop where
  blk : w.heap[b]? = some (.cells #[.slice A S.length c, .int .i64 (k : Nat), .int .i64 e, .int .i64 (pl : Nat)] 60)
  bs : Bs w A S.length c S
  ne : ∀ a, A = some a → 0 < S.length → a.block ≠ b
section
variable {w w' : World} {b : Nat} {S : Tx} {k : Nat} {A : Option Addr} {c : Nat} {e : Int} {pl : Nat}
theorem Sr.lt (h : Sr w b S k A c e pl) : b < w.heap.size := (Array.getElem?_eq_some_iff.1 h.blk).1
theorem Sr.frozen (h : Sr w b S k A c e pl) (i : Nat) : w.frozen? ⟨b, i, none⟩ = false := frozen_of_row w b i _ _ h.blk
theorem Sr.c0 (h : Sr w b S k A c e pl) : w.cell? ⟨b, 0, none⟩ = some (.slice A S.length c) := by simp [World.cell?, h.blk]
theorem Sr.c1 (h : Sr w b S k A c e pl) : w.cell? ⟨b, 1, none⟩ = some (.int .i64 (k : Nat)) := by simp [World.cell?, h.blk]
theorem Sr.c2 (h : Sr w b S k A c e pl) : w.cell? ⟨b, 2, none⟩ = some (.int .i64 e) := by simp [World.cell?, h.blk]
theorem Sr.c3 (h : Sr w b S k A c e pl) : w.cell? ⟨b, 3, none⟩ = some (.int .i64 (pl : Nat)) := by simp [World.cell?, h.blk]
theorem Sr.on (h : Sr w b S k A c e pl) (hg : w.grownBy w' (some b)) {k' : Nat} {e' : Int} {pl' : Nat} (hb : w'.heap[b]? = some (.cells #[.slice A S.length c, .int .i64 (k' : Nat), .int .i64 e', .int .i64 (pl' : Nat)] 60)) : Sr w' b S k' A c e' pl' :=
  ⟨hb, Rd.grown h.bs hg fun a e hn e2 => h.ne a e hn (by injection e2), h.ne⟩
theorem Sr.below (h : Sr w b S k A c e pl) (hb : Below w.heap.size w w') : Sr w' b S k A c e pl :=
  h.on (grown_in hb) ((hb.block b h.lt).trans h.blk)
theorem Sr.set1 (h : Sr w b S k A c e pl) (k' : Nat) : Sr (w.setCell ⟨b, 1, none⟩ (.int .i64 (k' : Nat))) b S k' A c e pl ∧ w.grownBy (w.setCell ⟨b, 1, none⟩ (.int .i64 (k' : Nat))) (some b) := by
  have hg := grown_set w ⟨b, 1, none⟩ (.int .i64 (k' : Nat))
  exact ⟨h.on hg (blk_setCell h.blk _), hg⟩
theorem Sr.fail (h : Sr w b S k A c e pl) (e' : Int) (pl' : Nat) : Sr ((w.setCell ⟨b, 2, none⟩ (.int .i64 e')).setCell ⟨b, 3, none⟩ (.int .i64 (pl' : Nat))) b S k A c e' pl' ∧ w.grownBy ((w.setCell ⟨b, 2, none⟩ (.int .i64 e')).setCell ⟨b, 3, none⟩ (.int .i64 (pl' : Nat))) (some b) := by
  have hg := (grown_set w ⟨b, 2, none⟩ (.int .i64 e')).trans (grown_set (w.setCell ⟨b, 2, none⟩ (.int .i64 e')) ⟨b, 3, none⟩ (.int .i64 (pl' : Nat)))
  exact ⟨h.on hg (blk_setCell (blk_setCell h.blk (i := 2) _) (i := 3) _), hg⟩
theorem Sr.at_ (h : Sr w b S k A c e pl) {j : Nat} (hj : j < S.length) : ∃ ba off, A = some ⟨ba, off, none⟩ ∧ S[j]? = some S[j] ∧ w.cell? ⟨ba, off + j, none⟩ = some (.int .u8 (S[j].toNat : Int)) := by
  obtain ⟨ba, off, e, hlt, hc⟩ := Rd.cell h.bs (by omega)
  have hx : S[j]? = some S[j] := List.getElem?_eq_getElem hj
  exact ⟨ba, off, e, hx, hc j _ (by simp [bv, hx])⟩
end
section
variable (w : World) (b : Nat) (S : Tx) (k : Nat) (A : Option Addr) (c : Nat)
set_option maxRecDepth 100000 in
theorem rbad_any (pl : Nat) (h : Sr w b S k A c 0 pl) (e : Int) (at_ : Nat) :
    Calls Tryz.prog 31 #[.pointer (some ⟨b, 0, none⟩), .int .i64 e, .int .i64 (at_ : Nat)] w fun r w' => r = .returned (.tuple #[]) ∧ Sr w' b S k A c e at_ ∧ w.grownBy w' (some b) := by
  have hs := h.fail e at_
  have c2 := h.c2
  have c3 := h.c3
  have f2 := h.frozen 2
  have f3 := h.frozen 3
  go_enter Tryz.func31, Tryz.ntmps31
  go_wp2_with fail
  go_end0
  exact ⟨rfl, hs⟩
set_option maxRecDepth 100000 in
theorem rbad_idle {e0 : Int} (pl : Nat) (h : Sr w b S k A c e0 pl) (h0 : e0 ≠ 0) (e : Int) (at_ : Int) :
    Calls Tryz.prog 31 #[.pointer (some ⟨b, 0, none⟩), .int .i64 e, .int .i64 at_] w fun r w' => r = .returned (.tuple #[]) ∧ w' = w := by
  have c2 := h.c2
  have j0 : (e0 == 0) = false := by rw [beq_eq_false_iff_ne]; exact h0
  go_enter Tryz.func31, Tryz.ntmps31
  go_wp2_with fail
  go_end0
  exact ⟨rfl, rfl⟩
/-- The byte at a place; -1: there is none. -/
def cF (S : Tx) (p : Nat) : Int := match S[p]? with
  | none => -1
  | some x => (x.toNat : Int)
set_option maxRecDepth 100000 in
theorem rc_any {e0 : Int} (pl : Nat) (h : Sr w b S k A c e0 pl) (j : Nat) (hj : k + j ≤ 1000000) :
    Calls Tryz.prog 41 #[.pointer (some ⟨b, 0, none⟩), .int .i64 (j : Nat)] w fun r w' => r = .returned (.int .i64 (cF S (k + j))) ∧ Below w.heap.size w w' := by
  have h' := Lib.hid h
  have c0 := h.c0
  have c1 := h.c1
  have u1 : IntKind.i64.wrap ((k : Int) + (j : Int)) = (k : Int) + (j : Int) := IntWalk.i64_in _ (by omega)
  by_cases hlt : k + j < S.length
  · obtain ⟨ba, off, rfl, hx, hc⟩ := h.at_ hlt
    have i0 : decide ((S.length : Int) ≤ (k : Int) + (j : Int)) = false := decide_eq_false (by omega)
    have i1 : decide (S.length ≤ k + j) = false := decide_eq_false (by omega)
    have q1 : (k : Int) + (j : Int) < (S.length : Int) := by omega
    have hF : cF S (k + j) = (S[k + j].toNat : Int) := by unfold cF; rw [hx]
    rw [hF]
    generalize S[k + j] = x at hc
    have hx9 : wrap64 (x.toNat : Int) = (x.toNat : Int) := by have := x.toNat_lt; unfold wrap64; omega
    clear hx hF h
    go_enter Tryz.func41, Tryz.ntmps41
    go_wp2_with fail
    go_big_quiet (fail)
    have hb1 := Joins.below_draws w.heap.size w nq
    generalize w.drewN nq = w1 at hb1 ⊢
    have hb1' := Lib.hid hb1
    have c0 := (h'.out.below hb1).c0
    have c1 := (h'.out.below hb1).c1
    have hc := cell_keep hc hb1
    clear hb1
    go_wp2_with fail
    go_big_quiet (fail)
    go_wp2_with fail
    go_ret
    exact ⟨ret_int hx9, hb1'.out.trans ((Joins.below_draws _ w1 _).mono hb1'.out.size)⟩
  · have i0 : decide ((S.length : Int) ≤ (k : Int) + (j : Int)) = true := decide_eq_true (by omega)
    have i1 : decide (S.length ≤ k + j) = true := decide_eq_true (by omega)
    have hF : cF S (k + j) = -1 := by unfold cF; rw [List.getElem?_eq_none (by omega)]
    rw [hF]
    clear hF h
    go_enter Tryz.func41, Tryz.ntmps41
    go_wp2_with fail
    go_big_quiet (fail)
    go_wp2_with fail
    go_ret
    exact ⟨rfl, Joins.below_draws _ w _⟩
end
end Go.Proofs.YtcecmbbhjaeodaaGreatDoor.Xl
end

section
namespace Go.Proofs.YtcecmbbhjaeodaaGreatDoor.Xl
open Go.RowKit UtfW Er

theorem hp_iff {r p : Tx} : Lib.hasPrefix r p = true ↔ ∀ m, m < p.length → r[m]? = p[m]? := by
  constructor
  · intro h m hm
    obtain ⟨x, rfl⟩ := hp_cut h
    rw [List.getElem?_append_left hm]
  · intro h
    have : p <+: r := by
      rw [List.prefix_iff_eq_take]
      refine List.ext_getElem? fun m => ?_
      by_cases hm : m < p.length
      · rw [List.getElem?_take, if_pos hm, h m hm]
      · rw [List.getElem?_eq_none (by omega), List.getElem?_take, if_neg hm]
    exact List.isPrefixOf_iff_prefix.2 this
section
variable (w : World) (b : Nat) (S : Tx) (k : Nat) (A : Option Addr) (c : Nat)
set_option maxHeartbeats 2000000 in
set_option maxRecDepth 100000 in
theorem rhas_any {e0 : Int} (pl : Nat) (h : Sr w b S k A c e0 pl) (p : Tx) (hp : p.length ≤ 100000) (hk : k ≤ 100000) :
    Calls Tryz.prog 26 #[.pointer (some ⟨b, 0, none⟩), .string (strOf p)] w fun r w' => r = .returned (.bool (Lib.hasPrefix (S.drop k) p)) ∧ Below w.heap.size w w' := by
  have hsz : (strOf p).size = p.length := strOf_size' p
  have h' := Lib.hid h
  clear h
  obtain ⟨R, hR⟩ : ∃ R, Lib.hasPrefix (S.drop k) p = R := ⟨_, rfl⟩
  rw [hR]
  have hR' := Lib.hid hR
  clear hR
  go_enter Tryz.func26, Tryz.ntmps26
  go_wp2_with fail
  go_loopw [5] (fun v5 wr => ∃ i : Nat, i ≤ p.length ∧ v5 = .int .i64 (i : Nat) ∧ Hid (∀ m, m < i → S[k + m]? = p[m]?) ∧ Hid (Below w.heap.size w wr)) (fun v5 _ => p.length - (intOf v5).toNat)
  case atStart => exact ⟨0, by omega, rfl, Lib.hid (fun m hm => absurd hm (by omega)), Lib.hid (Below.refl _ _)⟩
  case round =>
    obtain ⟨i, hi, rfl, hok, hb⟩ := hrel
    by_cases hlt : i < p.length
    · have i1 : decide ((i : Int) < (p.length : Int)) = true := by simp; omega
      have q1 : (i : Int) < (p.length : Int) := by omega
      have hx : p[i]? = some p[i] := List.getElem?_eq_getElem hlt
      generalize p[i] = x at hx
      have hlt' : i < (strOf p).size := by omega
      have hgx := str_at hx hlt'
      have hx' := Lib.hid hx
      have hx9 : wrap64 (x.toNat : Int) = (x.toNat : Int) := by have := x.toNat_lt; unfold wrap64; omega
      have hdr : Hid (Below wr.heap.size wr wr.drew) := Lib.hid (Joins.below_draws wr.heap.size wr 1)
      clear hx
      go_wp2_with fail
      refine Pl.wp_region_plan 7 (.take 0 (.take 1 (.take 3 (.take 4 (.take 5 (.take 6 (.run 2 .done))))))) (fun _ => True) (by kernel_rfl) (by kernel_rfl) trivial ?_
      simp only [Pl.fill, List.getElem?_cons_zero, List.getElem?_cons_succ, List.drop_succ_cons, List.drop_zero]
      iterate 6
        first
        | (refine Pl.take_go ?_ (by rfl) (fun _ _ _ h => h) ?_ ?_
           rotate_left
           · (intro x hSw; skip; go_simp; try with_reducible rfl)
           (try simp only [Act.put, List.setIfInBounds_toArray, List.set_cons_zero, List.set_cons_succ]))
        | (refine Pl.take_skip (by rfl) (fun _ _ _ h => h) ?_
           (try simp only [Act.put, List.setIfInBounds_toArray, List.set_cons_zero, List.set_cons_succ]))
      refine Pl.run_go (fun K hK => ?_)
      go_simp
      refine (rc_any _ b S k A c pl (h'.out.below (hb.out.trans (hdr.out.mono hb.out.size))) i (by omega)).mono ?_
      rintro e w3 ⟨rfl, hb3⟩
      have hb2 := Lib.hid (hb.out.trans ((hdr.out.trans (hb3.mono hdr.out.size)).mono hb.out.size))
      dsimp only
      refine hK.out _ _ (Pl.more_go (fun _ => True) (fun _ _ => trivial) trivial ?_)
      clear hK K hb3
      try simp only [Act.put, List.setIfInBounds_toArray, List.set_cons_zero, List.set_cons_succ]
      refine Pl.done_go ?_
      by_cases he : S[k + i]? = some x
      · have hcF : cF S (k + i) = (x.toNat : Int) := by unfold cF; rw [he]
        have j1 : (cF S (k + i) != (x.toNat : Int)) = false := by rw [hcF]; simp
        have hok2 : Hid (∀ m, m < i + 1 → S[k + m]? = p[m]?) := Lib.hid fun m hm => by
          by_cases hmi : m = i
          · rw [hmi, he, hx'.out]
          · exact hok.out m (by omega)
        clear hcF he
        go_wp2_with fail
        go_roundw
        case rel => exact ⟨i + 1, by omega, by go_num, hok2, hb2⟩
        case measure => simp [intOf]; omega
      · have j1 : (cF S (k + i) != (x.toNat : Int)) = true := by
          rw [bne_iff_ne]
          intro e
          apply he
          unfold cF at e
          split at e
          · have := x.toNat_lt; omega
          · rename_i y hy
            rw [hy]
            have : y = x := UInt8.toNat_inj.1 (by omega)
            rw [this]
        have hRf : R = false := by
          rw [← hR'.out, Bool.eq_false_iff]
          intro hc
          have := hp_iff.1 hc i hlt
          rw [List.getElem?_drop, hx'.out] at this
          exact he this
        subst hRf
        clear he
        go_wp2_with fail
        (try simp only [Exit.inBlock, Exit.then])
        go_ret
        exact ⟨rfl, hb2.out⟩
    · have i1 : decide ((i : Int) < (p.length : Int)) = false := by simp; omega
      have hRt : R = true := by
        rw [← hR'.out, hp_iff]
        intro m hm
        rw [List.getElem?_drop]
        exact hok.out m (by omega)
      subst hRt
      go_wp2_with fail
      (try simp only [Exit.inBlock, Exit.then])
      go_ret
      exact ⟨rfl, hb.out⟩
end
end Go.Proofs.YtcecmbbhjaeodaaGreatDoor.Xl
end

section
namespace Go.Proofs.YtcecmbbhjaeodaaGreatDoor.Xl
open Go.RowKit UtfW Er

/-- What a method of the document's scanner gives: where all goes well its value; else the code, its place, and a value of no meaning. -/
def GivesR {α : Type} (w : World) (b : Nat) (S : Tx) (k : Nat) (A : Option Addr) (c : Nat) (pl : Nat) (D : Value → Prop) (V : α → Value) (x : Out α) (e : Ending) (w' : World) : Prop :=
  w.grownBy w' (some b) ∧ match x with
  | .bad cd o => cd ≠ 0 ∧ ∃ v q, e = .returned v ∧ D v ∧ q ≤ S.length ∧ Sr w' b S q A c cd (k + o)
  | .ok a n => e = .returned (V a) ∧ Sr w' b S (k + n) A c 0 pl
theorem below_drew (w : World) : Below w.heap.size w w.drew := Joins.below_draws w.heap.size w 1
theorem cF_end {S : Tx} {k : Nat} (h : S.length ≤ k) : cF S k = -1 := by unfold cF; rw [List.getElem?_eq_none (by omega)]
theorem cF_at {S : Tx} {k : Nat} {x : UInt8} (h : S[k]? = some x) : cF S k = (x.toNat : Int) := by unfold cF; rw [h]
theorem find_off {p S : Tx} {q : Nat} (h : q < S.length) (hp : Lib.hasPrefix (S.drop q) p = false) : find p (S.drop q) = (find p (S.drop (q + 1))).map (· + 1) := by
  have hx : S[q]? = some S[q] := List.getElem?_eq_getElem h
  rw [drop_at hx] at hp ⊢
  have hp' : ¬ List.isPrefixOf p (S[q] :: S.drop (q + 1)) = true := by rw [Bool.not_eq_true]; exact hp
  rw [find, if_neg hp']
theorem find_on {p S : Tx} {q : Nat} (h : q < S.length) (hp : Lib.hasPrefix (S.drop q) p = true) : find p (S.drop q) = some 0 := by
  have hx : S[q]? = some S[q] := List.getElem?_eq_getElem h
  rw [drop_at hx] at hp ⊢
  have hp' : List.isPrefixOf p (S[q] :: S.drop (q + 1)) = true := hp
  rw [find, if_pos hp']
theorem find_end {p S : Tx} {q : Nat} (h : S.length ≤ q) (hp : 0 < p.length) : find p (S.drop q) = none := by
  rw [drop_end h, find, if_neg]
  rintro rfl
  simp at hp

def upG (p r : Tx) : Option Nat → Out Tx
  | none => .bad 6 r.length
  | some n => .ok (r.take n) (n + p.length)
section
variable (w : World) (b : Nat) (S : Tx) (k : Nat) (A : Option Addr) (c : Nat)
set_option maxRecDepth 100000 in
theorem rmust_any (pl : Nat) (h : Sr w b S k A c 0 pl) (hk : k ≤ S.length) (hS : S.length ≤ 100000) (x : UInt8) :
    Calls Tryz.prog 50 #[.pointer (some ⟨b, 0, none⟩), .int .u8 (x.toNat : Int)] w fun e w' => GivesR w b S k A c pl (fun v => v = .tuple #[]) (fun _ => .tuple #[]) (eat [x] (S.drop k)) e w' := by
  have c2 := h.c2
  have h' := Lib.hid h
  clear h
  have hx9 : wrap64 (x.toNat : Int) = (x.toNat : Int) := by have := x.toNat_lt; unfold wrap64; omega
  by_cases hlt : k < S.length
  · have hx : S[k]? = some S[k] := List.getElem?_eq_getElem hlt
    generalize S[k] = y at hx
    have hx' := Lib.hid hx
    have hF := cF_at hx
    clear hx
    have j0 : decide ((y.toNat : Int) < 0) = false := by simp
    have hF' := Lib.hid hF
    clear hF
    by_cases he : y = x
    · have j1 : ((y.toNat : Int) != (x.toNat : Int)) = false := by rw [he]; simp
      have he' := Lib.hid he
      clear he
      go_enter Tryz.func50, Tryz.ntmps50
      go_wp2_with fail
      refine (rc_any w b S k A c pl h'.out 0 (by omega)).mono ?_
      rintro e w1 ⟨rfl, hb1⟩
      have hs1 := Lib.hid (h'.out.below hb1)
      have hg1 := Lib.hid (grown_in (r := some b) hb1)
      rw [Nat.add_zero, hF'.out]
      clear hb1 c2
      go_wp2_with fail
      refine (rc_any w1 b S k A c pl hs1.out 0 (by omega)).mono ?_
      rintro e w2 ⟨rfl, hb2⟩
      have hs2 := Lib.hid (hs1.out.below hb2)
      have hg2 := Lib.hid (hg1.out.trans (grown_in (r := some b) hb2))
      rw [Nat.add_zero, hF'.out]
      have c1 := hs2.out.c1
      have f1 := hs2.out.frozen 1
      clear hb2
      go_wp2_with fail
      go_end0
      have h3 := hs2.out.set1 (k + 1)
      refine ⟨hg2.out.trans h3.2, ?_⟩
      rw [drop_at hx'.out, eat, if_pos he'.out, eat]
      exact ⟨rfl, h3.1⟩
    · have j1 : ((y.toNat : Int) != (x.toNat : Int)) = true := by
        rw [bne_iff_ne]
        intro e
        exact he (UInt8.toNat_inj.1 (by omega))
      have he' := Lib.hid he
      clear he
      go_enter Tryz.func50, Tryz.ntmps50
      go_wp2_with fail
      refine (rc_any w b S k A c pl h'.out 0 (by omega)).mono ?_
      rintro e w1 ⟨rfl, hb1⟩
      have hs1 := Lib.hid (h'.out.below hb1)
      have hg1 := Lib.hid (grown_in (r := some b) hb1)
      rw [Nat.add_zero, hF'.out]
      clear hb1 c2
      go_wp2_with fail
      refine (rc_any w1 b S k A c pl hs1.out 0 (by omega)).mono ?_
      rintro e w2 ⟨rfl, hb2⟩
      have hs2 := Lib.hid (hs1.out.below hb2)
      have hg2 := Lib.hid (hg1.out.trans (grown_in (r := some b) hb2))
      rw [Nat.add_zero, hF'.out]
      have c1 := hs2.out.c1
      clear hb2
      go_wp2_with fail
      refine (rbad_any w2 b S k A c pl hs2.out 2 k).mono ?_
      rintro e w3 ⟨rfl, hs3, hg3⟩
      have hs3' := Lib.hid hs3
      have hg3' := Lib.hid (hg2.out.trans hg3)
      clear hs3 hg3
      go_wp2_with fail
      go_end0
      refine ⟨hg3'.out, ?_⟩
      rw [drop_at hx'.out, eat, if_neg he'.out]
      exact ⟨by decide, _, k, rfl, rfl, hk, hs3'.out⟩
  · have hF := cF_end (S := S) (k := k) (by omega)
    have hF' := Lib.hid hF
    clear hF
    go_enter Tryz.func50, Tryz.ntmps50
    go_wp2_with fail
    refine (rc_any w b S k A c pl h'.out 0 (by omega)).mono ?_
    rintro e w1 ⟨rfl, hb1⟩
    have hs1 := Lib.hid (h'.out.below hb1)
    have hg1 := Lib.hid (grown_in (r := some b) hb1)
    rw [Nat.add_zero, hF'.out]
    have c0 := hs1.out.c0
    clear hb1 c2
    go_wp2_with fail
    refine (rbad_any w1 b S k A c pl hs1.out 6 S.length).mono ?_
    rintro e w3 ⟨rfl, hs3, hg3⟩
    have hs3' := Lib.hid hs3
    have hg3' := Lib.hid (hg1.out.trans hg3)
    clear hs3 hg3
    go_wp2_with fail
    go_end0
    refine ⟨hg3'.out, ?_⟩
    rw [drop_end (by omega), eat]
    refine ⟨by decide, _, k, rfl, rfl, hk, ?_⟩
    rw [show k + 0 = S.length by omega]
    exact hs3'.out
set_option maxRecDepth 100000 in
theorem rmust_idle {e0 : Int} (pl : Nat) (h : Sr w b S k A c e0 pl) (h0 : e0 ≠ 0) (x : Int) :
    Calls Tryz.prog 50 #[.pointer (some ⟨b, 0, none⟩), .int .u8 x] w fun e w' => e = .returned (.tuple #[]) ∧ w' = w := by
  have c2 := h.c2
  have j0 : (e0 == 0) = false := by rw [beq_eq_false_iff_ne]; exact h0
  have j1 : (e0 != 0) = true := by rw [bne_iff_ne]; exact h0
  go_enter Tryz.func50, Tryz.ntmps50
  go_wp2_with fail
  refine bodyPost_ret (results_none rfl _ _ _) rfl ?_
  exact ⟨rfl, rfl⟩

set_option maxRecDepth 100000 in
theorem rblanks_any (pl : Nat) (h : Sr w b S k A c 0 pl) (hk : k ≤ S.length) (hS : S.length ≤ 100000) :
    Calls Tryz.prog 49 #[.pointer (some ⟨b, 0, none⟩)] w fun e w' => e = .returned (.int .i64 ((blanks (S.drop k) : Nat) : Int)) ∧ Sr w' b S (k + blanks (S.drop k)) A c 0 pl ∧ w.grownBy w' (some b) := by
  have h' := Lib.hid h
  clear h
  obtain ⟨R, hR⟩ : ∃ R, blanks (S.drop k) = R := ⟨_, rfl⟩
  rw [hR]
  have hR' := Lib.hid hR
  clear hR
  go_enter Tryz.func49, Tryz.ntmps49
  go_wp2_with fail
  go_loopw [3] (fun v3 wr => ∃ n : Nat, k + n ≤ S.length ∧ v3 = .int .i64 (n : Nat) ∧ Hid (n + blanks (S.drop (k + n)) = R) ∧ Hid (Sr wr b S (k + n) A c 0 pl) ∧ Hid (w.grownBy wr (some b))) (fun v3 _ => S.length - (intOf v3).toNat)
  case atStart => exact ⟨0, hk, rfl, Lib.hid (by rw [Nat.zero_add]; exact hR'.out), h', Lib.hid (World.grownBy.refl _ _)⟩
  case round =>
    obtain ⟨n, hn, rfl, hr, hs, hg⟩ := hrel
    have c2 := hs.out.c2
    by_cases hlt : k + n < S.length
    · have hx : S[k + n]? = some S[k + n] := List.getElem?_eq_getElem hlt
      generalize S[k + n] = y at hx
      have hF := cF_at hx
      have hx' := Lib.hid hx
      have hF' := Lib.hid hF
      clear hF hx
      have j0 : decide (0 ≤ (y.toNat : Int)) = true := by simp
      have hw := wrap32_byte y
      go_wp2_with fail
      refine (rc_any wr b S (k + n) A c pl hs.out 0 (by omega)).mono ?_
      rintro e w1 ⟨rfl, hb1⟩
      have hs1 := Lib.hid (hs.out.below hb1)
      have hg1 := Lib.hid (hg.out.trans (grown_in (r := some b) hb1))
      rw [Nat.add_zero, hF'.out]
      clear hb1 c2
      go_wp2_with fail
      refine (rc_any w1 b S (k + n) A c pl hs1.out 0 (by omega)).mono ?_
      rintro e w2 ⟨rfl, hb2⟩
      have hs2 := Lib.hid (hs1.out.below hb2)
      have hg2 := Lib.hid (hg1.out.trans (grown_in (r := some b) hb2))
      rw [Nat.add_zero, hF'.out]
      clear hb2
      go_wp2_with fail
      refine (refblank_any _ w2).mono ?_
      rintro e w3 ⟨rfl, rfl⟩
      cases hbl : Qx.blank y with
      | true =>
        have hbl' : Blank (y.toNat : Int) = true := hbl
        have hbh := Lib.hid hbl
        clear hbl
        rw [hbl']
        have c1 := hs2.out.c1
        have f1 := hs2.out.frozen 1
        go_wp2_with fail
        have h3 := hs2.out.set1 (k + n + 1)
        go_roundw
        case measure => simp [intOf]; omega
        case rel => exact ⟨n + 1, by omega, by go_num, Lib.hid (by have := hr.out; rw [blanks_on hx'.out hbh.out] at this; rw [← Nat.add_assoc]; omega), Lib.hid h3.1, Lib.hid (hg2.out.trans h3.2)⟩
      | false =>
        have hbl' : Blank (y.toNat : Int) = false := hbl
        have hbh := Lib.hid hbl
        clear hbl
        rw [hbl']
        go_wp2_with fail
        go_ret
        have := hr.out
        rw [blanks_off hx'.out hbh.out, Nat.add_zero] at this
        rw [← this]
        exact ⟨rfl, hs2.out, hg2.out⟩
    · have hF := cF_end (S := S) (k := k + n) (by omega)
      have hF' := Lib.hid hF
      clear hF
      go_wp2_with fail
      refine (rc_any wr b S (k + n) A c pl hs.out 0 (by omega)).mono ?_
      rintro e w1 ⟨rfl, hb1⟩
      have hs1 := Lib.hid (hs.out.below hb1)
      have hg1 := Lib.hid (hg.out.trans (grown_in (r := some b) hb1))
      rw [Nat.add_zero, hF'.out]
      clear hb1 c2
      go_wp2_with fail
      go_ret
      have := hr.out
      rw [blanks_end (by omega), Nat.add_zero] at this
      rw [← this]
      exact ⟨rfl, hs1.out, hg1.out⟩
set_option maxRecDepth 100000 in
theorem rblanks_idle {e0 : Int} (pl : Nat) (h : Sr w b S k A c e0 pl) (h0 : e0 ≠ 0) :
    Calls Tryz.prog 49 #[.pointer (some ⟨b, 0, none⟩)] w fun e w' => e = .returned (.int .i64 0) ∧ w' = w := by
  have c2 := h.c2
  have j0 : (e0 == 0) = false := by rw [beq_eq_false_iff_ne]; exact h0
  go_enter Tryz.func49, Tryz.ntmps49
  go_wp2_with fail
  go_loopw [3] (fun v3 wr => v3 = .int .i64 0 ∧ wr = w) (fun _ _ => 0)
  case atStart => exact ⟨rfl, rfl⟩
  case round =>
    obtain ⟨rfl, rfl⟩ := hrel
    go_wp2_with fail
    go_ret
    exact ⟨rfl, rfl⟩

set_option maxHeartbeats 1000000 in
set_option maxRecDepth 100000 in
theorem runtil_any (pl : Nat) (h : Sr w b S k A c 0 pl) (hk : k ≤ S.length) (hS : S.length ≤ 100000) (p : Tx) (hp0 : 0 < p.length) (hp : p.length ≤ 100000) :
    Calls Tryz.prog 29 #[.pointer (some ⟨b, 0, none⟩), .string (strOf p)] w fun e w' => GivesR w b S k A c pl (fun v => v = .string ⟨#[]⟩) (fun v => .string (strOf v)) (upto p (S.drop k)) e w' := by
  have hsz : (strOf p).size = p.length := strOf_size' p
  have hlc := Rd.le h.bs
  have hcm := Rd.max h.bs
  have c1 := h.c1
  have h' := Lib.hid h
  clear h
  obtain ⟨R, hR⟩ : ∃ R, find p (S.drop k) = R := ⟨_, rfl⟩
  have hR' := Lib.hid hR
  clear hR
  have hup : Hid (upto p (S.drop k) = upG p (S.drop k) R) := Lib.hid (by rw [← hR'.out]; rfl)
  obtain ⟨G, hG⟩ : ∃ G, upto p (S.drop k) = G := ⟨_, rfl⟩
  rw [hG]
  have hG' := Lib.hid hG
  clear hG
  obtain ⟨A1, hA1⟩ : ∃ A1, (if c = k then A else Option.map (fun x => x.add k) A) = A1 := ⟨_, rfl⟩
  go_enter Tryz.func29, Tryz.ntmps29
  go_wp2_with fail
  go_loopg [] (S.length - k) (fun m wr => ∃ q : Nat, k ≤ q ∧ q ≤ S.length ∧ S.length - q ≤ m ∧ Hid (R = (find p (S.drop q)).map (· + (q - k))) ∧ Hid (Sr wr b S q A c 0 pl) ∧ Hid (w.grownBy wr (some b)))
  case atStart => exact ⟨k, Nat.le_refl _, hk, Nat.le_refl _, Lib.hid (by rw [Nat.sub_self, hR'.out]; cases R <;> rfl), h', Lib.hid (World.grownBy.refl _ _)⟩
  case round =>
    clear c1
    obtain ⟨q, hkq, hql, hms, hr, hs, hg⟩ := hrel
    by_cases hlt : q < S.length
    · have i0 : decide ((q : Int) < (S.length : Int)) = true := by simp; omega
      have i1 : decide (q < S.length) = true := by simp; omega
      go_wp2_with fail
      refine Pl.wp_region_plan 9 (.take 0 (.take 1 (.take 2 (.take 3 (.take 4 (.take 5 (.take 6 (.take 7 (.take 8 .done))))))))) (fun x => Below wr.heap.size wr x) (by kernel_rfl) (by kernel_rfl) (by exact (below_drew wr)) ?_
      simp only [Pl.fill, List.getElem?_cons_zero, List.getElem?_cons_succ, List.drop_succ_cons, List.drop_zero]
      iterate 9
        first
        | (refine Pl.take_go ?_ (by rfl) (fun _ _ _ h => h) ?_ ?_
           rotate_left
           · (intro x hSw; have s0 := (hs.out.below hSw).c0; have s1 := (hs.out.below hSw).c1; go_simp; try with_reducible rfl)
           (try simp only [Act.put, List.setIfInBounds_toArray, List.set_cons_zero, List.set_cons_succ]))
        | (refine Pl.take_skip (by rfl) (fun _ _ _ h => h) ?_
           (try simp only [Act.put, List.setIfInBounds_toArray, List.set_cons_zero, List.set_cons_succ]))
      refine Pl.done_go ?_
      have hs2 := Lib.hid (hs.out.below (below_drew wr))
      have hg2 := Lib.hid (hg.out.trans (grown_in (below_drew wr)))
      clear hs hg
      go_wp2_with fail
      refine (rhas_any _ b S q A c pl hs2.out p hp (by omega)).mono ?_
      rintro e w3 ⟨rfl, hb3⟩
      have hs3 := Lib.hid (hs2.out.below hb3)
      have hg3 := Lib.hid (hg2.out.trans (grown_in (r := some b) hb3))
      clear hb3
      cases hpf : Lib.hasPrefix (S.drop q) p with
      | true =>
        have hpl : q + p.length ≤ S.length := by
          have := Qx.prefix_len hpf
          rw [List.length_drop] at this
          omega
        have hres : Hid (G = .ok ((S.drop k).take (q - k)) (q - k + p.length)) := Lib.hid (by
          have h1 := hr.out
          rw [find_on hlt hpf] at h1
          rw [← hG'.out, hup.out, h1]
          simp [upG])
        have hcut : Bs w3 (offA A c k) (q - k) (c - k) ((S.drop k).take (q - k)) := Bs.from hs3.out.bs hkq (by omega)
        unfold offA at hcut
        rw [hA1] at hcut
        have hcut' := Lib.hid hcut
        have hcv2 : ∀ x, Below w3.heap.size w3 x → (convert 22 9 (.slice A1 (q - k) (c - k))).run Tryz.prog x = .ok (.string (strOf ((S.drop k).take (q - k)))) x := fun x hx => Bs.conv (Bs.below hcut'.out hx) Tryz.underlying22 Tryz.underlying5 Tryz.underlying9
        have hcv := Lib.hid hcv2
        clear hcut hcv2
        have q1 : (0 : Int) ≤ (k : Int) ∧ (k : Int) ≤ (q : Int) := ⟨by omega, by omega⟩
        go_wp2_with fail
        refine Pl.wp_region_plan 9 (.take 0 (.take 1 (.take 2 (.take 3 (.take 4 (.take 5 (.take 6 (.take 7 (.take 8 .done))))))))) (fun x => Below w3.heap.size w3 x) (by kernel_rfl) (by kernel_rfl) (by exact (below_drew w3)) ?_
        simp only [Pl.fill, List.getElem?_cons_zero, List.getElem?_cons_succ, List.drop_succ_cons, List.drop_zero]
        iterate 9
          first
          | (refine Pl.take_go ?_ (by rfl) (fun _ _ _ h => h) ?_ ?_
             rotate_left
             · (intro x hSw; have s0 := (hs3.out.below hSw).c0; have s1 := (hs3.out.below hSw).c1; go_simp; try with_reducible rfl)
             (try simp only [Act.put, List.setIfInBounds_toArray, List.set_cons_zero, List.set_cons_succ]))
          | (refine Pl.take_skip (by rfl) (fun _ _ _ h => h) ?_
             (try simp only [Act.put, List.setIfInBounds_toArray, List.set_cons_zero, List.set_cons_succ]))
        refine Pl.done_go ?_
        have hdr9 := below_drew w3
        have hs4 := Lib.hid (hs3.out.below hdr9)
        have hg4 := Lib.hid (hg3.out.trans (grown_in (r := some b) hdr9))
        have hcv3 := hcv.out _ hdr9
        clear hdr9
        have c1 := hs4.out.c1
        have f1 := hs4.out.frozen 1
        go_wp2_with fail
        go_ret
        have h5 := hs4.out.set1 (q + p.length)
        refine ⟨hg4.out.trans h5.2, ?_⟩
        rw [hres.out]
        refine ⟨rfl, ?_⟩
        rw [show k + (q - k + p.length) = q + p.length by omega]
        exact h5.1
      | false =>
        have c1 := hs3.out.c1
        have f1 := hs3.out.frozen 1
        have hpf' := Lib.hid hpf
        clear hpf
        go_wp2_with fail
        have h5 := hs3.out.set1 (q + 1)
        go_roundg (S.length - (q + 1))
        case measure => omega
        case rel =>
          refine ⟨q + 1, by omega, by omega, Nat.le_refl _, Lib.hid ?_, Lib.hid h5.1, Lib.hid (hg3.out.trans h5.2)⟩
          rw [hr.out, find_off hlt hpf'.out, Option.map_map]
          congr 1
          funext z
          simp only [Function.comp]
          omega
    · have i0 : decide ((q : Int) < (S.length : Int)) = false := by simp; omega
      have i1 : decide (q < S.length) = false := by simp; omega
      have hres : Hid (G = .bad 6 (S.length - k)) := Lib.hid (by
        have h1 := hr.out
        rw [find_end (by omega) hp0] at h1
        rw [← hG'.out, hup.out, h1]
        simp [upG])
      go_wp2_with fail
      refine Pl.wp_region_plan 9 (.take 0 (.take 1 (.take 2 (.take 3 (.take 4 (.take 5 (.take 6 (.take 7 (.take 8 .done))))))))) (fun x => Below wr.heap.size wr x) (by kernel_rfl) (by kernel_rfl) (by exact (below_drew wr)) ?_
      simp only [Pl.fill, List.getElem?_cons_zero, List.getElem?_cons_succ, List.drop_succ_cons, List.drop_zero]
      iterate 9
        first
        | (refine Pl.take_go ?_ (by rfl) (fun _ _ _ h => h) ?_ ?_
           rotate_left
           · (intro x hSw; have s0 := (hs.out.below hSw).c0; have s1 := (hs.out.below hSw).c1; go_simp; try with_reducible rfl)
           (try simp only [Act.put, List.setIfInBounds_toArray, List.set_cons_zero, List.set_cons_succ]))
        | (refine Pl.take_skip (by rfl) (fun _ _ _ h => h) ?_
           (try simp only [Act.put, List.setIfInBounds_toArray, List.set_cons_zero, List.set_cons_succ]))
      refine Pl.done_go ?_
      have hs2 := Lib.hid (hs.out.below (below_drew wr))
      have hg2 := Lib.hid (hg.out.trans (grown_in (below_drew wr)))
      clear hs hg
      have c0 := hs2.out.c0
      go_wp2_with fail
      refine (rbad_any _ b S q A c pl hs2.out 6 S.length).mono ?_
      rintro e w3 ⟨rfl, hs3, hg3⟩
      have hs3' := Lib.hid hs3
      have hg3' := Lib.hid (hg2.out.trans hg3)
      clear hs3 hg3
      go_wp2_with fail
      go_ret
      refine ⟨hg3'.out, ?_⟩
      rw [hres.out]
      refine ⟨by decide, _, q, rfl, rfl, hql, ?_⟩
      rw [show k + (S.length - k) = S.length by omega]
      exact hs3'.out
end
end Go.Proofs.YtcecmbbhjaeodaaGreatDoor.Xl
end

section
namespace Go.Proofs.YtcecmbbhjaeodaaGreatDoor.Xl
open Go.RowKit UtfW Qx Er

theorem strOf_nil : strOf [] = ⟨#[]⟩ := rfl
section
variable (w : World) (b : Nat) (S : Tx) (k : Nat) (A : Option Addr) (c : Nat)
set_option maxHeartbeats 2000000 in
set_option maxRecDepth 100000 in
theorem rname_any (pl : Nat) (h : Sr w b S k A c 0 pl) (hk : k ≤ S.length) (hS : S.length ≤ 100000) :
    Calls Tryz.prog 48 #[.pointer (some ⟨b, 0, none⟩)] w fun e w' => GivesR w b S k A c pl (fun v => v = .string ⟨#[]⟩) (fun v => .string (strOf v)) (name (S.drop k)) e w' := by
  have hlc := Rd.le h.bs
  have hcm := Rd.max h.bs
  have c1 := h.c1
  have c2 := h.c2
  have h' := Lib.hid h
  clear h
  obtain ⟨R, hR⟩ : ∃ R, nameL (S.drop k) = R := ⟨_, rfl⟩
  have hR' := Lib.hid hR
  clear hR
  obtain ⟨A1, hA1⟩ : ∃ A1, (if c = k then A else Option.map (fun x => x.add k) A) = A1 := ⟨_, rfl⟩
  obtain ⟨G, hG⟩ : ∃ G, name (S.drop k) = G := ⟨_, rfl⟩
  rw [hG]
  have hend : Hid (S.length ≤ k → G = .bad 6 0) := Lib.hid (fun h => by rw [← hG, drop_end h]; rfl)
  have hne : Hid (k < S.length → S.drop k ≠ []) := Lib.hid (fun h e => by
    have := congrArg List.length e
    rw [List.length_drop] at this
    simp at this
    omega)
  have hno : Hid (k < S.length → R = 0 → G = .bad 2 0) := Lib.hid (fun h h0 => by rw [← hG]; unfold name; rw [if_neg (hne.out h), if_pos (hR'.out.trans h0)])
  have hyes : Hid (k < S.length → R ≠ 0 → G = .ok ((S.drop k).take R) R) := Lib.hid (fun h h0 => by rw [← hG]; unfold name; rw [if_neg (hne.out h), if_neg (fun e => h0 (hR'.out.symm.trans e)), hR'.out])
  clear hG
  go_enter Tryz.func48, Tryz.ntmps48
  go_wp2_with fail
  go_loopg [4, 5] (S.length - k) (fun m u v wr => ∃ q f : Nat, k ≤ q ∧ q ≤ S.length ∧ S.length - q ≤ m ∧ Hid (S.length < q + f) ∧ Hid ((q - k) + nameF f (decide (q = k)) (S.drop q) = R) ∧ Hid (Sr wr b S q A c 0 pl) ∧ Hid (w.grownBy wr (some b)))
  case atStart =>
    refine ⟨k, S.length - k + 1, Nat.le_refl _, hk, Nat.le_refl _, Lib.hid (by omega), Lib.hid ?_, h', Lib.hid (World.grownBy.refl _ _)⟩
    have := hR'.out
    unfold nameL at this
    rw [List.length_drop] at this
    simpa using this
  case round =>
    clear c1 c2
    obtain ⟨q, f, hkq, hql, hms, hf, hr, hs, hg⟩ := hrel
    by_cases hlt : q < S.length
    · have i0 : decide ((q : Int) < (S.length : Int)) = true := by simp; omega
      have i1 : decide (q < S.length) = true := by simp; omega
      have hkl : k < S.length := by omega
      go_wp2_with fail
      refine Pl.wp_region_plan 9 (.take 0 (.take 1 (.take 2 (.take 3 (.take 4 (.take 5 (.take 6 (.take 7 (.take 8 .done))))))))) (fun x => Below wr.heap.size wr x) (by kernel_rfl) (by kernel_rfl) (by exact (below_drew wr)) ?_
      simp only [Pl.fill, List.getElem?_cons_zero, List.getElem?_cons_succ, List.drop_succ_cons, List.drop_zero]
      iterate 9
        first
        | (refine Pl.take_go ?_ (by rfl) (fun _ _ _ h => h) ?_ ?_
           rotate_left
           · (intro x hSw; have s0 := (hs.out.below hSw).c0; have s1 := (hs.out.below hSw).c1; go_simp; try with_reducible rfl)
           (try simp only [Act.put, List.setIfInBounds_toArray, List.set_cons_zero, List.set_cons_succ]))
        | (refine Pl.take_skip (by rfl) (fun _ _ _ h => h) ?_
           (try simp only [Act.put, List.setIfInBounds_toArray, List.set_cons_zero, List.set_cons_succ]))
      refine Pl.done_go ?_
      have hs2 := Lib.hid (hs.out.below (below_drew wr))
      have hg2 := Lib.hid (hg.out.trans (grown_in (below_drew wr)))
      clear hs hg
      generalize wr.drew = w2 at hs2 hg2 ⊢
      have hle := nx_le hlt
      have hdr : Hid (Below w2.heap.size w2 w2.drew) := Lib.hid (below_drew w2)
      have hc := refNext_any A S.length c S q (by omega) w2.drew (hs2.out.below hdr.out).bs
      rw [nxI_nat] at hc
      have hpos := @goesOn_pos S q
      obtain ⟨P, hP⟩ : ∃ P, nx S q = P := ⟨_, rfl⟩
      rw [hP] at hc hle hpos
      have hP' := Lib.hid hP
      clear hP
      obtain ⟨r, m⟩ := P
      unfold nxV at hc
      simp only at hc hle hpos
      have hpos' := Lib.hid hpos
      have hc' := Lib.hid hc
      clear hpos hc i0 i1
      have hlt' := Lib.hid hlt
      go_wp2_with fail
      refine Pl.wp_region_plan 13 (.take 0 (.take 1 (.take 2 (.take 3 (.take 4 (.take 5 (.take 6 (.take 7 (.run 8 (.take 9 (.take 10 (.take 11 (.take 12 .done))))))))))))) (fun x => Below w2.heap.size w2 x) (by kernel_rfl) (by kernel_rfl) (by exact (below_drew w2)) ?_
      simp only [Pl.fill, List.getElem?_cons_zero, List.getElem?_cons_succ, List.drop_succ_cons, List.drop_zero]
      iterate 8
        first
        | (refine Pl.take_go ?_ (by rfl) (fun _ _ _ h => h) ?_ ?_
           rotate_left
           · (intro x hSw; have s0 := (hs2.out.below hSw).c0; have s1 := (hs2.out.below hSw).c1; go_simp; try with_reducible rfl)
           (try simp only [Act.put, List.setIfInBounds_toArray, List.set_cons_zero, List.set_cons_succ]))
        | (refine Pl.take_skip (by rfl) (fun _ _ _ h => h) ?_
           (try simp only [Act.put, List.setIfInBounds_toArray, List.set_cons_zero, List.set_cons_succ]))
      refine Pl.run_go (fun K hK => ?_)
      go_simp
      refine hc'.out.mono ?_
      rintro e w3 ⟨rfl, hb3⟩
      dsimp only
      refine hK.out _ _ (Pl.more_go (fun x => Below w2.heap.size w2 x) (fun _ h => h) (by exact (hdr.out.trans (hb3.mono hdr.out.size))) ?_)
      clear hK K
      try simp only [Act.put, List.setIfInBounds_toArray, List.set_cons_zero, List.set_cons_succ]
      iterate 4
        first
        | (refine Pl.take_go ?_ (by rfl) (fun _ _ _ h => h) ?_ ?_
           rotate_left
           · (intro x hSw; skip; go_simp; try with_reducible rfl)
           (try simp only [Act.put, List.setIfInBounds_toArray, List.set_cons_zero, List.set_cons_succ]))
        | (refine Pl.take_skip (by rfl) (fun _ _ _ h => h) ?_
           (try simp only [Act.put, List.setIfInBounds_toArray, List.set_cons_zero, List.set_cons_succ]))
      refine Pl.done_go ?_
      have hb3' := hdr.out.trans (hb3.mono hdr.out.size)
      have hs3 := Lib.hid (hs2.out.below hb3')
      have hg3 := Lib.hid (hg2.out.trans (grown_in (r := some b) hb3'))
      clear hb3 hb3' hs2 hg2 hdr hc'
      have d1 := hs3.out.c1
      by_cases h0 : q = k
      · have e0 : ((q : Int) == (k : Int)) = true := by rw [beq_iff_eq]; omega
        subst h0
        cases hbg : Begins (r : Nat) with
        | false =>
          have hz : Hid (R = 0) := Lib.hid (by
            have := hr.out
            rw [nameF_stop (Or.inl ⟨by simp, by rw [hP'.out]; exact hbg⟩)] at this
            omega)
          go_wp2_with fail
          refine (refbegins_any r w3).mono ?_
          rintro e w4 ⟨rfl, rfl⟩
          rw [hbg]
          clear d1
          go_wp2_with fail
          (try simp only [Exit.inBlock, Exit.then])
          have g0 : decide (S.length ≤ q) = false := by simp; omega
          have g1 : decide ((S.length : Int) ≤ (q : Int)) = false := by simp; omega
          refine Pl.wp_region_plan 16 (.take 0 (.take 1 (.take 2 (.take 3 (.take 4 (.take 5 (.take 6 (.take 7 (.take 8 (.take 9 (.take 10 (.take 11 (.take 12 (.take 13 (.take 14 (.take 15 .done)))))))))))))))) (fun x => Below w4.heap.size w4 x) (by kernel_rfl) (by kernel_rfl) (by exact (below_drew w4)) ?_
          simp only [Pl.fill, List.getElem?_cons_zero, List.getElem?_cons_succ, List.drop_succ_cons, List.drop_zero]
          iterate 16
            first
            | (refine Pl.take_go ?_ (by rfl) (fun _ _ _ h => h) ?_ ?_
               rotate_left
               · (intro x hSw; have s0 := (hs3.out.below hSw).c0; have s1 := (hs3.out.below hSw).c1; go_simp; try with_reducible rfl)
               (try simp only [Act.put, List.setIfInBounds_toArray, List.set_cons_zero, List.set_cons_succ]))
            | (refine Pl.take_skip (by rfl) (fun _ _ _ h => h) ?_
               (try simp only [Act.put, List.setIfInBounds_toArray, List.set_cons_zero, List.set_cons_succ]))
          refine Pl.done_go ?_
          have hs4 := Lib.hid (hs3.out.below (below_drew w4))
          have hg4 := Lib.hid (hg3.out.trans (grown_in (r := some b) (below_drew w4)))
          clear hs3 hg3
          generalize w4.drew = w6 at hs4 hg4 ⊢
          have c0 := hs4.out.c0
          have c1 := hs4.out.c1
          go_wp2_with fail
          refine (rbad_any w6 b S q A c pl hs4.out 2 q).mono ?_
          rintro e w7 ⟨rfl, hs7, hg7⟩
          have hs7' := Lib.hid hs7
          have hg7' := Lib.hid (hg4.out.trans hg7)
          clear hs7 hg7 c0 c1 hs4 hg4
          have hcut : Bs w7 (offA A c q) (q - q) (c - q) ((S.drop q).take (q - q)) := Bs.from hs7'.out.bs (Nat.le_refl _) (by omega)
          unfold offA at hcut
          rw [hA1, Nat.sub_self, List.take_zero] at hcut
          have hcut' := Lib.hid hcut
          have hcv : Hid (∀ x, Below w7.heap.size w7 x → (convert 22 9 (.slice A1 0 (c - q))).run Tryz.prog x = .ok (.string (strOf [])) x) := Lib.hid fun x hx => Bs.conv (Bs.below hcut'.out hx) Tryz.underlying22 Tryz.underlying5 Tryz.underlying9
          clear hcut hcut'
          have q1 : (0 : Int) ≤ (q : Int) ∧ (q : Int) ≤ (q : Int) := ⟨by omega, by omega⟩
          go_wp2_with fail
          refine Pl.wp_region_plan 9 (.take 0 (.take 1 (.take 2 (.take 3 (.take 4 (.take 5 (.take 6 (.take 7 (.take 8 .done))))))))) (fun x => Below w7.heap.size w7 x) (by kernel_rfl) (by kernel_rfl) (by exact (below_drew w7)) ?_
          simp only [Pl.fill, List.getElem?_cons_zero, List.getElem?_cons_succ, List.drop_succ_cons, List.drop_zero]
          iterate 9
            first
            | (refine Pl.take_go ?_ (by rfl) (fun _ _ _ h => h) ?_ ?_
               rotate_left
               · (intro x hSw; have s0 := (hs7'.out.below hSw).c0; have s1 := (hs7'.out.below hSw).c1; go_simp; try with_reducible rfl)
               (try simp only [Act.put, List.setIfInBounds_toArray, List.set_cons_zero, List.set_cons_succ]))
            | (refine Pl.take_skip (by rfl) (fun _ _ _ h => h) ?_
               (try simp only [Act.put, List.setIfInBounds_toArray, List.set_cons_zero, List.set_cons_succ]))
          refine Pl.done_go ?_
          have hdr9 := below_drew w7
          have hs8 := Lib.hid (hs7'.out.below hdr9)
          have hg8 := Lib.hid (hg7'.out.trans (grown_in (r := some b) hdr9))
          have hcv3 := hcv.out _ hdr9
          clear hdr9
          go_wp2_with fail
          go_ret
          refine ⟨hg8.out, ?_⟩
          rw [hno.out (by omega) hz.out]
          refine ⟨by decide, _, q, rfl, rfl, hql, ?_⟩
          rw [show q + 0 = q by omega]
          exact hs8.out
        | true =>
          go_wp2_with fail
          refine (refbegins_any r w3).mono ?_
          rintro e w4 ⟨rfl, rfl⟩
          rw [hbg]
          go_wp2_with fail
          refine (refgoeson_any r w4).mono ?_
          rintro e w5 ⟨rfl, rfl⟩
          cases hgo : GoesOn (r : Nat) with
          | false =>
            have hz : Hid (R = 0) := Lib.hid (by
              have := hr.out
              rw [nameF_stop (Or.inr (by rw [hP'.out]; exact hgo))] at this
              omega)
            clear d1
            go_wp2_with fail
            (try simp only [Exit.inBlock, Exit.then])
            have g0 : decide (S.length ≤ q) = false := by simp; omega
            have g1 : decide ((S.length : Int) ≤ (q : Int)) = false := by simp; omega
            refine Pl.wp_region_plan 16 (.take 0 (.take 1 (.take 2 (.take 3 (.take 4 (.take 5 (.take 6 (.take 7 (.take 8 (.take 9 (.take 10 (.take 11 (.take 12 (.take 13 (.take 14 (.take 15 .done)))))))))))))))) (fun x => Below w5.heap.size w5 x) (by kernel_rfl) (by kernel_rfl) (by exact (below_drew w5)) ?_
            simp only [Pl.fill, List.getElem?_cons_zero, List.getElem?_cons_succ, List.drop_succ_cons, List.drop_zero]
            iterate 16
              first
              | (refine Pl.take_go ?_ (by rfl) (fun _ _ _ h => h) ?_ ?_
                 rotate_left
                 · (intro x hSw; have s0 := (hs3.out.below hSw).c0; have s1 := (hs3.out.below hSw).c1; go_simp; try with_reducible rfl)
                 (try simp only [Act.put, List.setIfInBounds_toArray, List.set_cons_zero, List.set_cons_succ]))
              | (refine Pl.take_skip (by rfl) (fun _ _ _ h => h) ?_
                 (try simp only [Act.put, List.setIfInBounds_toArray, List.set_cons_zero, List.set_cons_succ]))
            refine Pl.done_go ?_
            have hs4 := Lib.hid (hs3.out.below (below_drew w5))
            have hg4 := Lib.hid (hg3.out.trans (grown_in (r := some b) (below_drew w5)))
            clear hs3 hg3
            generalize w5.drew = w6 at hs4 hg4 ⊢
            have c0 := hs4.out.c0
            have c1 := hs4.out.c1
            go_wp2_with fail
            refine (rbad_any w6 b S q A c pl hs4.out 2 q).mono ?_
            rintro e w7 ⟨rfl, hs7, hg7⟩
            have hs7' := Lib.hid hs7
            have hg7' := Lib.hid (hg4.out.trans hg7)
            clear hs7 hg7 c0 c1 hs4 hg4
            have hcut : Bs w7 (offA A c q) (q - q) (c - q) ((S.drop q).take (q - q)) := Bs.from hs7'.out.bs (Nat.le_refl _) (by omega)
            unfold offA at hcut
            rw [hA1, Nat.sub_self, List.take_zero] at hcut
            have hcut' := Lib.hid hcut
            have hcv : Hid (∀ x, Below w7.heap.size w7 x → (convert 22 9 (.slice A1 0 (c - q))).run Tryz.prog x = .ok (.string (strOf [])) x) := Lib.hid fun x hx => Bs.conv (Bs.below hcut'.out hx) Tryz.underlying22 Tryz.underlying5 Tryz.underlying9
            clear hcut hcut'
            have q1 : (0 : Int) ≤ (q : Int) ∧ (q : Int) ≤ (q : Int) := ⟨by omega, by omega⟩
            go_wp2_with fail
            refine Pl.wp_region_plan 9 (.take 0 (.take 1 (.take 2 (.take 3 (.take 4 (.take 5 (.take 6 (.take 7 (.take 8 .done))))))))) (fun x => Below w7.heap.size w7 x) (by kernel_rfl) (by kernel_rfl) (by exact (below_drew w7)) ?_
            simp only [Pl.fill, List.getElem?_cons_zero, List.getElem?_cons_succ, List.drop_succ_cons, List.drop_zero]
            iterate 9
              first
              | (refine Pl.take_go ?_ (by rfl) (fun _ _ _ h => h) ?_ ?_
                 rotate_left
                 · (intro x hSw; have s0 := (hs7'.out.below hSw).c0; have s1 := (hs7'.out.below hSw).c1; go_simp; try with_reducible rfl)
                 (try simp only [Act.put, List.setIfInBounds_toArray, List.set_cons_zero, List.set_cons_succ]))
              | (refine Pl.take_skip (by rfl) (fun _ _ _ h => h) ?_
                 (try simp only [Act.put, List.setIfInBounds_toArray, List.set_cons_zero, List.set_cons_succ]))
            refine Pl.done_go ?_
            have hdr9 := below_drew w7
            have hs8 := Lib.hid (hs7'.out.below hdr9)
            have hg8 := Lib.hid (hg7'.out.trans (grown_in (r := some b) hdr9))
            have hcv3 := hcv.out _ hdr9
            clear hdr9
            go_wp2_with fail
            go_ret
            refine ⟨hg8.out, ?_⟩
            rw [hno.out (by omega) hz.out]
            refine ⟨by decide, _, q, rfl, rfl, hql, ?_⟩
            rw [show q + 0 = q by omega]
            exact hs8.out
          | true =>
            have hm := hpos'.out hgo
            have d1 := hs3.out.c1
            have f1 := hs3.out.frozen 1
            go_wp2_with fail
            go_roundg (S.length - (q + m))
            case measure => omega
            case rel =>
              obtain ⟨g, rfl⟩ : ∃ g, f = g + 1 := ⟨f - 1, by have := hf.out; have := hlt'.out; omega⟩
              have h6 := hs3.out.set1 (q + m)
              refine ⟨q + m, g, by omega, by omega, Nat.le_refl _, Lib.hid (by have := hf.out; omega), Lib.hid ?_, Lib.hid h6.1, Lib.hid (hg3.out.trans h6.2)⟩
              have := hr.out
              rw [nameF_on (fun _ => by rw [hP'.out]; exact hbg) (by rw [hP'.out]; exact hgo), hP'.out] at this
              rw [show decide (q + m = q) = false by simp; omega]
              simp only at this
              omega
      · have e0 : ((q : Int) == (k : Int)) = false := by rw [beq_eq_false_iff_ne]; omega
        have h0' := Lib.hid h0
        have hkq2 : k < q := by omega
        clear h0
        go_wp2_with fail
        refine (refgoeson_any r w3).mono ?_
        rintro e w5 ⟨rfl, rfl⟩
        cases hgo : GoesOn (r : Nat) with
        | false =>
          have hqk : Hid (R = q - k) := Lib.hid (by
            have := hr.out
            rw [nameF_stop (Or.inr (by rw [hP'.out]; exact hgo)), Nat.add_zero] at this
            omega)
          clear d1
          go_wp2_with fail
          (try simp only [Exit.inBlock, Exit.then])
          generalize hWW : w5 = w6 at hs3 hg3 ⊢
          clear hWW
          refine Pl.wp_region_plan 16 (.take 0 (.take 1 (.take 2 (.take 3 (.take 4 (.take 5 (.take 6 (.take 7 (.take 8 (.take 9 (.take 10 (.take 11 (.take 12 (.take 13 (.take 14 (.take 15 .done)))))))))))))))) (fun x => Below w6.heap.size w6 x) (by kernel_rfl) (by kernel_rfl) (by exact (below_drew w6)) ?_
          simp only [Pl.fill, List.getElem?_cons_zero, List.getElem?_cons_succ, List.drop_succ_cons, List.drop_zero]
          iterate 16
            first
            | (refine Pl.take_go ?_ (by rfl) (fun _ _ _ h => h) ?_ ?_
               rotate_left
               · (intro x hSw; have s0 := (hs3.out.below hSw).c0; have s1 := (hs3.out.below hSw).c1; go_simp; try with_reducible rfl)
               (try simp only [Act.put, List.setIfInBounds_toArray, List.set_cons_zero, List.set_cons_succ]))
            | (refine Pl.take_skip (by rfl) (fun _ _ _ h => h) ?_
               (try simp only [Act.put, List.setIfInBounds_toArray, List.set_cons_zero, List.set_cons_succ]))
          refine Pl.done_go ?_
          have hs7' := Lib.hid (hs3.out.below (below_drew w6))
          have hg7' := Lib.hid (hg3.out.trans (grown_in (r := some b) (below_drew w6)))
          clear hs3 hg3
          generalize w6.drew = w7 at hs7' hg7' ⊢
          have hcut : Bs w7 (offA A c k) (q - k) (c - k) ((S.drop k).take (q - k)) := Bs.from hs7'.out.bs hkq (by omega)
          unfold offA at hcut
          rw [hA1] at hcut
          have hcut' := Lib.hid hcut
          have hcv : Hid (∀ x, Below w7.heap.size w7 x → (convert 22 9 (.slice A1 (q - k) (c - k))).run Tryz.prog x = .ok (.string (strOf ((S.drop k).take (q - k)))) x) := Lib.hid fun x hx => Bs.conv (Bs.below hcut'.out hx) Tryz.underlying22 Tryz.underlying5 Tryz.underlying9
          clear hcut hcut'
          have q1 : (0 : Int) ≤ (k : Int) ∧ (k : Int) ≤ (q : Int) := ⟨by omega, by omega⟩
          have c1 := hs7'.out.c1
          go_wp2_with fail
          refine Pl.wp_region_plan 9 (.take 0 (.take 1 (.take 2 (.take 3 (.take 4 (.take 5 (.take 6 (.take 7 (.take 8 .done))))))))) (fun x => Below w7.heap.size w7 x) (by kernel_rfl) (by kernel_rfl) (by exact (below_drew w7)) ?_
          simp only [Pl.fill, List.getElem?_cons_zero, List.getElem?_cons_succ, List.drop_succ_cons, List.drop_zero]
          iterate 9
            first
            | (refine Pl.take_go ?_ (by rfl) (fun _ _ _ h => h) ?_ ?_
               rotate_left
               · (intro x hSw; have s0 := (hs7'.out.below hSw).c0; have s1 := (hs7'.out.below hSw).c1; go_simp; try with_reducible rfl)
               (try simp only [Act.put, List.setIfInBounds_toArray, List.set_cons_zero, List.set_cons_succ]))
            | (refine Pl.take_skip (by rfl) (fun _ _ _ h => h) ?_
               (try simp only [Act.put, List.setIfInBounds_toArray, List.set_cons_zero, List.set_cons_succ]))
          refine Pl.done_go ?_
          have hdr9 := below_drew w7
          have hs8 := Lib.hid (hs7'.out.below hdr9)
          have hg8 := Lib.hid (hg7'.out.trans (grown_in (r := some b) hdr9))
          have hcv3 := hcv.out _ hdr9
          clear hdr9
          go_wp2_with fail
          go_ret
          refine ⟨hg8.out, ?_⟩
          rw [hyes.out (by omega) (by have := hqk.out; omega), hqk.out]
          refine ⟨rfl, ?_⟩
          rw [show k + (q - k) = q by omega]
          exact hs8.out
        | true =>
          have hm := hpos'.out hgo
          have d1 := hs3.out.c1
          have f1 := hs3.out.frozen 1
          go_wp2_with fail
          go_roundg (S.length - (q + m))
          case measure => omega
          case rel =>
            obtain ⟨g, rfl⟩ : ∃ g, f = g + 1 := ⟨f - 1, by have := hf.out; have := hlt'.out; omega⟩
            have h6 := hs3.out.set1 (q + m)
            refine ⟨q + m, g, by omega, by omega, Nat.le_refl _, Lib.hid (by have := hf.out; omega), Lib.hid ?_, Lib.hid h6.1, Lib.hid (hg3.out.trans h6.2)⟩
            have := hr.out
            rw [nameF_on (fun hh => absurd (by simpa using hh) h0'.out) (by rw [hP'.out]; exact hgo), hP'.out] at this
            rw [show decide (q + m = k) = false by simp; omega]
            simp only at this
            omega
    · have i0 : decide ((q : Int) < (S.length : Int)) = false := by simp; omega
      have i1 : decide (q < S.length) = false := by simp; omega
      have hge : S.length ≤ q := by omega
      go_wp2_with fail
      refine Pl.wp_region_plan 9 (.take 0 (.take 1 (.take 2 (.take 3 (.take 4 (.take 5 (.take 6 (.take 7 (.take 8 .done))))))))) (fun x => Below wr.heap.size wr x) (by kernel_rfl) (by kernel_rfl) (by exact (below_drew wr)) ?_
      simp only [Pl.fill, List.getElem?_cons_zero, List.getElem?_cons_succ, List.drop_succ_cons, List.drop_zero]
      iterate 9
        first
        | (refine Pl.take_go ?_ (by rfl) (fun _ _ _ h => h) ?_ ?_
           rotate_left
           · (intro x hSw; have s0 := (hs.out.below hSw).c0; have s1 := (hs.out.below hSw).c1; go_simp; try with_reducible rfl)
           (try simp only [Act.put, List.setIfInBounds_toArray, List.set_cons_zero, List.set_cons_succ]))
        | (refine Pl.take_skip (by rfl) (fun _ _ _ h => h) ?_
           (try simp only [Act.put, List.setIfInBounds_toArray, List.set_cons_zero, List.set_cons_succ]))
      refine Pl.done_go ?_
      have hs3 := Lib.hid (hs.out.below (below_drew wr))
      have hg3 := Lib.hid (hg.out.trans (grown_in (below_drew wr)))
      clear hs hg
      generalize wr.drew = w3 at hs3 hg3 ⊢
      by_cases h0 : q = k
      · have e0 : ((q : Int) == (k : Int)) = true := by rw [beq_iff_eq]; omega
        subst h0
        go_wp2_with fail
        have g0 : decide (S.length ≤ q) = true := by simp; omega
        have g1 : decide ((S.length : Int) ≤ (q : Int)) = true := by simp; omega
        refine Pl.wp_region_plan 16 (.take 0 (.take 1 (.take 2 (.take 3 (.take 4 (.take 5 (.take 6 (.take 7 (.take 8 (.take 9 (.take 10 (.take 11 (.take 12 (.take 13 (.take 14 (.take 15 .done)))))))))))))))) (fun x => Below w3.heap.size w3 x) (by kernel_rfl) (by kernel_rfl) (by exact (below_drew w3)) ?_
        simp only [Pl.fill, List.getElem?_cons_zero, List.getElem?_cons_succ, List.drop_succ_cons, List.drop_zero]
        iterate 16
          first
          | (refine Pl.take_go ?_ (by rfl) (fun _ _ _ h => h) ?_ ?_
             rotate_left
             · (intro x hSw; have s0 := (hs3.out.below hSw).c0; have s1 := (hs3.out.below hSw).c1; go_simp; try with_reducible rfl)
             (try simp only [Act.put, List.setIfInBounds_toArray, List.set_cons_zero, List.set_cons_succ]))
          | (refine Pl.take_skip (by rfl) (fun _ _ _ h => h) ?_
             (try simp only [Act.put, List.setIfInBounds_toArray, List.set_cons_zero, List.set_cons_succ]))
        refine Pl.done_go ?_
        have hs4 := Lib.hid (hs3.out.below (below_drew w3))
        have hg4 := Lib.hid (hg3.out.trans (grown_in (r := some b) (below_drew w3)))
        clear hs3 hg3
        generalize w3.drew = w6 at hs4 hg4 ⊢
        have c0 := hs4.out.c0
        have c1 := hs4.out.c1
        go_wp2_with fail
        refine (rbad_any w6 b S q A c pl hs4.out 6 S.length).mono ?_
        rintro e w7 ⟨rfl, hs7, hg7⟩
        have hs7' := Lib.hid hs7
        have hg7' := Lib.hid (hg4.out.trans hg7)
        clear hs7 hg7 c0 c1 hs4 hg4
        have hcut : Bs w7 (offA A c q) (q - q) (c - q) ((S.drop q).take (q - q)) := Bs.from hs7'.out.bs (Nat.le_refl _) (by omega)
        unfold offA at hcut
        rw [hA1, Nat.sub_self, List.take_zero] at hcut
        have hcut' := Lib.hid hcut
        have hcv : Hid (∀ x, Below w7.heap.size w7 x → (convert 22 9 (.slice A1 0 (c - q))).run Tryz.prog x = .ok (.string (strOf [])) x) := Lib.hid fun x hx => Bs.conv (Bs.below hcut'.out hx) Tryz.underlying22 Tryz.underlying5 Tryz.underlying9
        clear hcut hcut'
        have q1 : (0 : Int) ≤ (q : Int) ∧ (q : Int) ≤ (q : Int) := ⟨by omega, by omega⟩
        go_wp2_with fail
        refine Pl.wp_region_plan 9 (.take 0 (.take 1 (.take 2 (.take 3 (.take 4 (.take 5 (.take 6 (.take 7 (.take 8 .done))))))))) (fun x => Below w7.heap.size w7 x) (by kernel_rfl) (by kernel_rfl) (by exact (below_drew w7)) ?_
        simp only [Pl.fill, List.getElem?_cons_zero, List.getElem?_cons_succ, List.drop_succ_cons, List.drop_zero]
        iterate 9
          first
          | (refine Pl.take_go ?_ (by rfl) (fun _ _ _ h => h) ?_ ?_
             rotate_left
             · (intro x hSw; have s0 := (hs7'.out.below hSw).c0; have s1 := (hs7'.out.below hSw).c1; go_simp; try with_reducible rfl)
             (try simp only [Act.put, List.setIfInBounds_toArray, List.set_cons_zero, List.set_cons_succ]))
          | (refine Pl.take_skip (by rfl) (fun _ _ _ h => h) ?_
             (try simp only [Act.put, List.setIfInBounds_toArray, List.set_cons_zero, List.set_cons_succ]))
        refine Pl.done_go ?_
        have hdr9 := below_drew w7
        have hs8 := Lib.hid (hs7'.out.below hdr9)
        have hg8 := Lib.hid (hg7'.out.trans (grown_in (r := some b) hdr9))
        have hcv3 := hcv.out _ hdr9
        clear hdr9
        go_wp2_with fail
        go_ret
        refine ⟨hg8.out, ?_⟩
        rw [hend.out (by omega)]
        refine ⟨by decide, _, q, rfl, rfl, hql, ?_⟩
        rw [show q + 0 = S.length by omega]
        exact hs8.out
      · have e0 : ((q : Int) == (k : Int)) = false := by rw [beq_eq_false_iff_ne]; omega
        have hkq2 : k < q := by omega
        have hqk : Hid (R = q - k) := Lib.hid (by
          have := hr.out
          rw [nameF_end hge, Nat.add_zero] at this
          omega)
        clear h0
        go_wp2_with fail
        generalize hWW : w3 = w6 at hs3 hg3 ⊢
        clear hWW
        refine Pl.wp_region_plan 16 (.take 0 (.take 1 (.take 2 (.take 3 (.take 4 (.take 5 (.take 6 (.take 7 (.take 8 (.take 9 (.take 10 (.take 11 (.take 12 (.take 13 (.take 14 (.take 15 .done)))))))))))))))) (fun x => Below w6.heap.size w6 x) (by kernel_rfl) (by kernel_rfl) (by exact (below_drew w6)) ?_
        simp only [Pl.fill, List.getElem?_cons_zero, List.getElem?_cons_succ, List.drop_succ_cons, List.drop_zero]
        iterate 16
          first
          | (refine Pl.take_go ?_ (by rfl) (fun _ _ _ h => h) ?_ ?_
             rotate_left
             · (intro x hSw; have s0 := (hs3.out.below hSw).c0; have s1 := (hs3.out.below hSw).c1; go_simp; try with_reducible rfl)
             (try simp only [Act.put, List.setIfInBounds_toArray, List.set_cons_zero, List.set_cons_succ]))
          | (refine Pl.take_skip (by rfl) (fun _ _ _ h => h) ?_
             (try simp only [Act.put, List.setIfInBounds_toArray, List.set_cons_zero, List.set_cons_succ]))
        refine Pl.done_go ?_
        have hs7' := Lib.hid (hs3.out.below (below_drew w6))
        have hg7' := Lib.hid (hg3.out.trans (grown_in (r := some b) (below_drew w6)))
        clear hs3 hg3
        generalize w6.drew = w7 at hs7' hg7' ⊢
        have hcut : Bs w7 (offA A c k) (q - k) (c - k) ((S.drop k).take (q - k)) := Bs.from hs7'.out.bs hkq (by omega)
        unfold offA at hcut
        rw [hA1] at hcut
        have hcut' := Lib.hid hcut
        have hcv : Hid (∀ x, Below w7.heap.size w7 x → (convert 22 9 (.slice A1 (q - k) (c - k))).run Tryz.prog x = .ok (.string (strOf ((S.drop k).take (q - k)))) x) := Lib.hid fun x hx => Bs.conv (Bs.below hcut'.out hx) Tryz.underlying22 Tryz.underlying5 Tryz.underlying9
        clear hcut hcut'
        have q1 : (0 : Int) ≤ (k : Int) ∧ (k : Int) ≤ (q : Int) := ⟨by omega, by omega⟩
        have c1 := hs7'.out.c1
        go_wp2_with fail
        refine Pl.wp_region_plan 9 (.take 0 (.take 1 (.take 2 (.take 3 (.take 4 (.take 5 (.take 6 (.take 7 (.take 8 .done))))))))) (fun x => Below w7.heap.size w7 x) (by kernel_rfl) (by kernel_rfl) (by exact (below_drew w7)) ?_
        simp only [Pl.fill, List.getElem?_cons_zero, List.getElem?_cons_succ, List.drop_succ_cons, List.drop_zero]
        iterate 9
          first
          | (refine Pl.take_go ?_ (by rfl) (fun _ _ _ h => h) ?_ ?_
             rotate_left
             · (intro x hSw; have s0 := (hs7'.out.below hSw).c0; have s1 := (hs7'.out.below hSw).c1; go_simp; try with_reducible rfl)
             (try simp only [Act.put, List.setIfInBounds_toArray, List.set_cons_zero, List.set_cons_succ]))
          | (refine Pl.take_skip (by rfl) (fun _ _ _ h => h) ?_
             (try simp only [Act.put, List.setIfInBounds_toArray, List.set_cons_zero, List.set_cons_succ]))
        refine Pl.done_go ?_
        have hdr9 := below_drew w7
        have hs8 := Lib.hid (hs7'.out.below hdr9)
        have hg8 := Lib.hid (hg7'.out.trans (grown_in (r := some b) hdr9))
        have hcv3 := hcv.out _ hdr9
        clear hdr9
        go_wp2_with fail
        go_ret
        refine ⟨hg8.out, ?_⟩
        rw [hyes.out (by omega) (by have := hqk.out; omega), hqk.out]
        refine ⟨rfl, ?_⟩
        rw [show k + (q - k) = q by omega]
        exact hs8.out
set_option maxRecDepth 100000 in
theorem rname_idle {e0 : Int} (pl : Nat) (h : Sr w b S k A c e0 pl) (h0 : e0 ≠ 0) :
    Calls Tryz.prog 48 #[.pointer (some ⟨b, 0, none⟩)] w fun e w' => e = .returned (.string ⟨#[]⟩) ∧ w' = w := by
  have c2 := h.c2
  have j0 : (e0 == 0) = false := by rw [beq_eq_false_iff_ne]; exact h0
  have j1 : (e0 != 0) = true := by rw [bne_iff_ne]; exact h0
  go_enter Tryz.func48, Tryz.ntmps48
  go_wp2_with fail
  go_ret
  exact ⟨rfl, rfl⟩
end
end Go.Proofs.YtcecmbbhjaeodaaGreatDoor.Xl
end
