/- The document's Parse. -/
import Derived.Test.YtjofkodncplhaaaGreatDoorMKyRr
import Derived.Test.YtjofkodncplhaaaGreatDoorMKyLine
import Derived.Test.YtjofkodncplhaaaGreatDoorMPlan2
import Derived.Test.YtjofkodncplhaaaGreatDoorMKyParse
section
namespace Go.Proofs.YtjofkodncplhaaaGreatDoor.Ky
open Go.RowKit Go.Shelf UtfW

theorem rtrim_any (s : ByteArray) (hs : s.size ≤ 281474976710656) (w : World) :
    Calls Tryz.prog 37 #[.string s] w fun e w' => e = .returned (.string (strOf (trim s.data.toList))) ∧ w' = w := by
  have h := refTrim_any s hs w
  have e : Lib.trimS s.data.toList Utf.cs = trim s.data.toList := trim_eq s.data.toList
  rw [e] at h
  exact h
theorem line_cut_none {t : Tx} (h : (123 : UInt8) ∉ t) : lineR nameR t = none := by
  unfold lineR
  have := cutAt_none h
  cases hc : cutAt 123 t with
  | mk a o =>
    rw [hc] at this
    simp only at this
    subst this
    rfl
theorem line_cut {a k : Tx} (h : (123 : UInt8) ∉ a) : lineR nameR (a ++ 123 :: k) = if k.getLast? = some 125 then
      match trim a with
      | 47 :: p => ruleO nameR (split 47 p, if trim k.dropLast = [] then [] else (split 44 (trim k.dropLast)).map trim)
      | _ => none
    else none := by
  unfold lineR
  rw [cut_at h]
  rfl
theorem last_of (a k : Tx) : (a ++ 123 :: k)[(a ++ 123 :: k).length - 1]? = some (k.getLast?.getD 123) := by
  rw [← List.getLast?_eq_getElem?, List.getLast?_append, List.getLast?_cons]
  rfl
theorem str_at {s : ByteArray} {t : Tx} (h : s.data.toList = t) {k : Nat} (hk : k < s.size) {b : UInt8} (hb : t[k]? = some b) : s[k]'hk = b := by
  have := bs_at hk
  rw [h, hb] at this
  injection this with this
  exact this.symm
theorem kb_fst {w : World} {b : Nat} {A : Option Addr} {n c : Nat} {A' : Option Addr} {n' c' : Nat} (h : Kb w b A n c A' n' c') (B : Option Addr) (m d : Nat) : Kb (w.setCell ⟨b, 0, none⟩ (.slice B m d)) b B m d A' n' c' := setCell_kb h (i := 0) (.slice B m d)

set_option maxHeartbeats 2000000 in
set_option maxRecDepth 100000 in
/-- The document's line. -/
theorem refLine_any (s : ByteArray) (hs : s.size ≤ 900000) (w : World) :
    Calls Tryz.prog 38 #[.string s] w (LineP s.data.toList w) := by
  obtain ⟨t, ht⟩ : ∃ t, s.data.toList = t := ⟨_, rfl⟩
  have hsz : t.length = s.size := by rw [← ht, Array.length_toList]; rfl
  rw [ht]
  have ht' := Lib.hid ht
  clear ht
  have hn0 := kb_new w none 0 0 none 0 0
  have hb0 := below_alloc w (.cells #[.slice none 0 0, .slice none 0 0] 27)
  obtain ⟨T, hT⟩ : ∃ T, w.heap.size = T := ⟨_, rfl⟩
  obtain ⟨w0, hw0⟩ : ∃ w0, w.alloc (.cells #[.slice none 0 0, .slice none 0 0] 27) = w0 := ⟨_, rfl⟩
  have hs0 : w0.heap.size = T + 1 := by rw [← hw0, World.size_alloc, hT]
  rw [hw0] at hb0 hn0
  rw [hT] at hn0 hb0
  have hn1 := kb_new w0 none 0 0 none 0 0
  have hb1 := below_alloc w0 (.cells #[.slice none 0 0, .slice none 0 0] 27)
  obtain ⟨w1, hw1⟩ : ∃ w1, w0.alloc (.cells #[.slice none 0 0, .slice none 0 0] 27) = w1 := ⟨_, rfl⟩
  have hs1 : w1.heap.size = T + 1 + 1 := by rw [← hw1, World.size_alloc, hs0]
  rw [hw1] at hb1 hn1
  rw [hs0] at hn1 hb1
  have hnT := Lib.hid (hn0.below (hb1.mono (by omega)))
  have hnX := Lib.hid hn1
  have hbw := Lib.hid (hb0.trans (hb1.mono (by omega)))
  have hT' := Lib.hid hT
  have hno : Hid (lineR nameR t = none → LineP t w (.returned (.tuple #[.agg #[.slice none 0 0, .slice none 0 0], .bool false])) ((w1.setCell ⟨T, 0, none⟩ (.slice none 0 0)).setCell ⟨T, 1, none⟩ (.slice none 0 0))) := Lib.hid fun hl =>
    ⟨none, 0, 0, none, 0, 0, by rw [hl]; rfl, by
      have hle2 := hT'.out
      exact below_set (below_set (by rw [hle2]; exact hbw.out) (by omega) _) (by omega) _, fun r hr => by rw [hl] at hr; cases hr⟩
  clear hn0 hb0 hn1 hb1
  obtain ⟨c0, c1⟩ := hnT.out.cells
  have f0 := hnT.out.frozen 0
  have f1 := hnT.out.frozen 1
  obtain ⟨x0, x1⟩ := hnX.out.cells
  go_enter Tryz.func38, Tryz.ntmps38
  go_wp2_with fail
  clear hw1 hw0 hT hs0
  rcases byte_ways 123 t with hb9 | ⟨a, k, hte, hb9⟩
  · have hl := Lib.hid (line_cut_none hb9)
    have hb9' := Lib.hid hb9
    clear hb9
    go_loopw [5] (fun i wr => ∃ j : Nat, j ≤ s.size ∧ i = .int .i64 j ∧ wr = w1) (fun i _ => s.size - (intOf i).toNat)
    case atStart => exact ⟨0, by omega, rfl, by first | rfl | trivial⟩
    case round =>
      obtain ⟨j, hj, rfl, rfl⟩ := hrel
      by_cases hlt : j < s.size
      · have i1 : decide ((j : Int) < (s.size : Int)) = true := by rw [decide_eq_true_eq]; omega
        have i2 : decide (j < s.size) = true := by rw [decide_eq_true_eq]; omega
        have i3 : (((s[j]'hlt).toNat : Int) == 123) = false := by
          rw [beq_eq_false_iff_ne]
          intro h
          have hm := List.mem_of_getElem? (bs_at hlt)
          rw [ht'.out] at hm
          have e : s[j]'hlt = 123 := UInt8.toNat_inj.1 (by rw [show (s[j]'hlt).toNat = 123 by omega]; rfl)
          rw [e] at hm
          exact hb9'.out hm
        go_wp2_with fail
        go_roundw
        case rel => exact ⟨j + 1, by omega, by go_num, by first | rfl | trivial⟩
        case measure => simp [intOf]; omega
      · have i1 : decide ((j : Int) < (s.size : Int)) = false := by rw [decide_eq_false_iff_not]; omega
        have i2 : decide (j < s.size) = false := by rw [decide_eq_false_iff_not]; omega
        have i4 : decide ((j : Int) ≥ (s.size : Int)) = true := by rw [decide_eq_true_eq]; omega
        have i5 : decide (s.size ≤ j) = true := by rw [decide_eq_true_eq]; omega
        go_wp2_with fail
        refine bodyPost_ret (res_kb rfl (kb_set hnT.out none 0 0 none 0 0) rfl rfl) rfl ?_
        exact hno.out hl.out
  · have hlc := line_cut (k := k) hb9
    rw [← hte] at hlc
    have hla := last_of a k
    rw [← hte, hsz] at hla
    obtain ⟨o0, ho0⟩ : ∃ o0, a.length = o0 := ⟨_, rfl⟩
    have hal : o0 + (k.length + 1) = s.size := by rw [← hsz, hte, List.length_append, ho0]; rfl
    have i70 : s.size - 1 < s.size := by omega
    have i71 : o0 < s.size := by omega
    have hlast := str_at ht'.out i70 hla
    have hop := str_at ht'.out i71 (b := 123) (by rw [hte, List.getElem?_append_right (by omega), ho0, Nat.sub_self]; rfl)
    have hne : Hid (∀ j (hj : j < o0) (hjs : j < s.size), (((s[j]'hjs).toNat : Int) == 123) = false) := Lib.hid fun j hj hjs => by
      rw [beq_eq_false_iff_ne]
      intro h
      have e : s[j]'hjs = 123 := UInt8.toNat_inj.1 (by rw [show (s[j]'hjs).toNat = 123 by omega]; rfl)
      have h2 := bs_at hjs
      have h3 : t[j]? = a[j]? := by rw [hte, List.getElem?_append_left (by omega)]
      rw [ht'.out, h3, e] at h2
      exact hb9 (List.mem_of_getElem? h2)
    have hpx : Hid (s.extract 0 o0 = strOf a) := Lib.hid (by
      rw [bs_cut, ht'.out, hte, List.drop_zero, ← ho0, List.take_append_of_le_length (Nat.le_refl _), List.take_length])
    have hkx : Hid (s.extract (o0 + 1) (s.size - 1) = strOf k.dropLast) := Lib.hid (by
      rw [bs_cut, ht'.out, hte, List.drop_take]
      congr 1
      rw [show a ++ 123 :: k = (a ++ [123]) ++ k by simp, List.drop_append_of_le_length (by simp; omega), List.drop_eq_nil_of_le (by simp; omega), List.nil_append, List.dropLast_eq_take]
      congr 1
      omega)
    have hop' : (((s[o0]'i71).toNat : Int) == 123) = true := by rw [hop]; rfl
    obtain ⟨lb, hlb⟩ : ∃ lb, k.getLast?.getD 123 = lb := ⟨_, rfl⟩
    rw [hlb] at hlast
    have hlb' := Lib.hid hlb
    have hlc' := Lib.hid hlc
    have ho0' := Lib.hid ho0
    have hlast' := Lib.hid hlast
    have hal' := Lib.hid hal
    clear hlc hla hte hb9 hlb ho0 hop hlast hal
    go_loopw [5] (fun i wr => ∃ j : Nat, j ≤ o0 ∧ i = .int .i64 j ∧ wr = w1) (fun i _ => o0 - (intOf i).toNat)
    case atStart => exact ⟨0, by omega, rfl, by first | rfl | trivial⟩
    case round =>
      obtain ⟨j, hj, rfl, rfl⟩ := hrel
      have i60 : j < s.size := by have := hal'.out; omega
      have i1 : decide ((j : Int) < (s.size : Int)) = true := by rw [decide_eq_true_eq]; omega
      have i2 : decide (j < s.size) = true := by rw [decide_eq_true_eq]; omega
      have i6 : j < s.size := by have := hal'.out; omega
      by_cases hlt : j < o0
      · have i3 : (((s[j]'i6).toNat : Int) == 123) = false := hne.out j hlt i6
        go_wp2_with fail
        go_roundw
        case rel => exact ⟨j + 1, by omega, by go_num, by first | rfl | trivial⟩
        case measure => simp [intOf]; omega
      · obtain rfl : j = o0 := by omega
        have i4 : decide ((j : Int) ≥ (s.size : Int)) = false := by rw [decide_eq_false_iff_not]; omega
        have i5 : decide (s.size ≤ j) = false := by rw [decide_eq_false_iff_not]; omega
        have i7 : s.size - 1 < s.size := by omega
        have i8 : (s.size : Int) - 1 = ((s.size - 1 : Nat) : Int) := by omega
        clear hlt hj
        by_cases hk : k.getLast? = some 125
        · have hkn : k ≠ [] := by rintro rfl; cases hk
          have i9 : (((s[s.size - 1]'i7).toNat : Int) == 125) = true := by
            rw [hlast'.out, ← hlb'.out, hk]
            rfl
          have i10 : j + 1 ≤ s.size - 1 := by
            have := hal'.out
            have := List.length_pos_iff.2 hkn
            omega
          have htp := rtrim_any (strOf a) (by rw [strOf_size']; have := ho0'.out; omega) wr
          rw [strOf_data', ← hpx.out] at htp
          have hll : Hid (lineR nameR t = match trim a with
              | 47 :: p => ruleO nameR (split 47 p, if trim k.dropLast = [] then [] else (split 44 (trim k.dropLast)).map trim)
              | _ => none) := Lib.hid (by rw [hlc'.out, if_pos hk])
          have hpz := trim_small a
          obtain ⟨pa, hpa⟩ : ∃ pa, trim a = pa := ⟨_, rfl⟩
          rw [hpa] at htp hll hpz
          clear hpa hk hkn
          go_wp2_with fail
          refine htp.mono ?_
          rintro e w2 ⟨rfl, rfl⟩
          clear htp
          have hfalse : Hid (lineR nameR t = none → (∀ p, pa ≠ 47 :: p) → True) := Lib.hid fun _ _ => trivial
          cases pa with
          | nil =>
            have e1 : (strOf []).toList.isEmpty = true := by rw [strOf_empty]; rfl
            have hl : Hid (lineR nameR t = none) := Lib.hid hll.out
            go_wp2_with fail
            refine bodyPost_ret (res_kb rfl (kb_set hnT.out none 0 0 none 0 0) rfl rfl) rfl ?_
            exact hno.out hl.out
          | cons b0 p =>
            have e1 : (strOf (b0 :: p)).toList.isEmpty = false := by rw [strOf_empty]; rfl
            obtain ⟨S, hS⟩ : ∃ S, strOf (b0 :: p) = S := ⟨_, rfl⟩
            have e3 : 0 < S.size := by rw [← hS, strOf_size']; simp
            rw [hS] at e1
            rw [hS]
            by_cases hb0 : b0 = 47
            · have e4 : (((S[0]'e3).toNat : Int) == 47) = true := by subst hS; rw [hb0]; rfl
              subst hb0
              have e5 : S.extract 1 S.size = strOf p := by rw [← hS]; exact strOf_drop1 47 p
              have e6 : 1 ≤ S.size := e3
              have hpl : p.length + 1 ≤ a.length := by simpa using hpz
              have hal2 : a.length ≤ 900000 := by have := hal'.out; have := ho0'.out; omega
              have hR : Hid (lineR nameR t = ruleO nameR (split 47 p, if trim k.dropLast = [] then [] else (split 44 (trim k.dropLast)).map trim)) := Lib.hid hll.out
              have hsp := refSplit_any (strOf p) 47 (by rw [strOf_size']; omega) w2
              rw [strOf_data'] at hsp
              have hl47 := split_len 47 p
              have hs47 := split_small 47 p
              obtain ⟨P, hP⟩ : ∃ P, split 47 p = P := ⟨_, rfl⟩
              rw [hP] at hsp hR hl47 hs47
              obtain ⟨n, hn⟩ : ∃ n, P.length = n := ⟨_, rfl⟩
              rw [hn] at hsp hl47
              have hn' := Lib.hid hn
              have hs47' := Lib.hid hs47
              have hty := rtrim_any (strOf k.dropLast) (by rw [strOf_size', List.length_dropLast]; have := hal'.out; omega)
              rw [strOf_data', ← hkx.out] at hty
              have hkl : k.dropLast.length ≤ 900000 := by rw [List.length_dropLast]; have := hal'.out; omega
              have g6 := trim_small k.dropLast
              obtain ⟨K, hK⟩ : ∃ K, (if trim k.dropLast = [] then [] else (split 44 (trim k.dropLast)).map trim) = K := ⟨_, rfl⟩
              rw [hK] at hR
              have hK' := Lib.hid hK
              obtain ⟨y2, hy2⟩ : ∃ y2, trim k.dropLast = y2 := ⟨_, rfl⟩
              rw [hy2] at hty g6 hK'
              have hyl : y2.length ≤ 900000 := by omega
              have hty' := Lib.hid hty
              have i11 : (s.size : Int) - 1 = ((s.size - 1 : Nat) : Int) := by omega
              clear hS hll hP hn hs47 hK hy2 hty g6 hkl hpz
              go_wp2_with fail
              refine hsp.mono ?_
              rintro e w3 ⟨A5, c5, rfl, hb3, ho3⟩
              have hnX3 := Lib.hid (hnX.out.below hb3)
              have hnT3 := Lib.hid (hnT.out.below hb3)
              have ho3' := Lib.hid ho3
              have hb3' := Lib.hid hb3
              have hs3 := hb3.size
              clear hsp hb3 ho3 c0 c1 f0 f1 x0 x1
              obtain ⟨x0, x1⟩ := hnX3.out.cells
              have fx := hnX3.out.frozen 0
              have hnX4 : Hid (Kb (w3.setCell ⟨T + 1, 0, none⟩ (.slice A5 n c5)) (T + 1) A5 n c5 none 0 0) := Lib.hid (kb_fst hnX3.out A5 n c5)
              have hnT4 : Hid (Kb (w3.setCell ⟨T + 1, 0, none⟩ (.slice A5 n c5)) T none 0 0 none 0 0) := Lib.hid ((Deep.blk_setCell_other w3 ⟨T + 1, 0, none⟩ _ T (by simp)).trans hnT3.out)
              have ho4 : Hid (OwX (w3.setCell ⟨T + 1, 0, none⟩ (.slice A5 n c5)) w.heap.size 9 (.slice A5 n c5) P) := Lib.hid ((ho3'.out.grown (grown_set w3 ⟨T + 1, 0, none⟩ _) (ho3'.out.ne_kb hnX3.out)).down (by have := hT'.out; omega))
              have hb4 : Hid (Below w.heap.size w (w3.setCell ⟨T + 1, 0, none⟩ (.slice A5 n c5))) := Lib.hid (by rw [hT'.out]; exact below_set (hbw.out.trans (hb3'.out.mono (by omega))) (by omega) _)
              go_wp2_with fail
              obtain ⟨w4, hw4⟩ : ∃ w4, w3.setCell ⟨T + 1, 0, none⟩ (.slice A5 n c5) = w4 := ⟨_, rfl⟩
              rw [hw4] at hnX4 hnT4 ho4 hb4 ⊢
              have hs4 : w2.heap.size ≤ w4.heap.size := by rw [← hw4, Deep.nblk_setCell]; exact hs3
              clear hw4 x0 x1 fx hnX3 hnT3 ho3' hb3'
              refine (hty'.out w4).mono ?_
              rintro e w5 ⟨rfl, rfl⟩
              have emp : (strOf y2).toList.isEmpty = y2.isEmpty := strOf_empty y2
              have hT2 := hT'.out
              go_upto_if 60 with fail
              go_cut [7] (fun v wx => v = .string (strOf y2) ∧ ∃ (A2 : Option Addr) (m c2 : Nat), Hid (Kb wx (T + 1) A5 n c5 A2 m c2) ∧ Hid (OwX wx w.heap.size 9 (.slice A2 m c2) K) ∧ Hid (OwX wx w.heap.size 9 (.slice A5 n c5) P) ∧ Hid (Kb wx T none 0 0 none 0 0) ∧ Hid (Below w.heap.size w wx))
              case first =>
                by_cases h0 : y2 = []
                · subst h0
                  obtain rfl : K = [] := by rw [← hK'.out, if_pos rfl]
                  go_wp2_with fail
                  go_meet
                  exact ⟨rfl, none, 0, 0, hnX4, Lib.hid (OwX.nil _ _ _), ho4, hnT4, hb4⟩
                · have emp2 : (strOf y2).toList.isEmpty = false := by
                    rw [emp]
                    cases y2 with
                    | nil => exact absurd rfl h0
                    | cons _ _ => rfl
                  rw [emp] at emp2
                  have emp3 : (!List.isEmpty y2) = true := by rw [emp2]; rfl
                  clear emp
                  have hKe : Hid (K = (split 44 y2).map trim) := Lib.hid (by rw [← hK'.out, if_neg h0])
                  have hsp := refSplit_any (strOf y2) 44 (by rw [strOf_size']; omega) w5
                  rw [strOf_data'] at hsp
                  have hs44 := split_small 44 y2
                  have hl44 := split_len 44 y2
                  obtain ⟨L, hL⟩ : ∃ L, split 44 y2 = L := ⟨_, rfl⟩
                  rw [hL] at hsp hKe hs44 hl44
                  obtain ⟨n2, hm⟩ : ∃ n2, L.length = n2 := ⟨_, rfl⟩
                  rw [hm] at hsp hl44
                  have hm' := Lib.hid hm
                  have hs44' := Lib.hid hs44
                  clear hL hs44 hm h0
                  go_wp2_with fail
                  rotate_left
                  · rename_i hbad
                    rw [emp3] at hbad
                    cases hbad
                  refine hsp.mono ?_
                  rintro e w8 ⟨A8, c8, rfl, hb8, ho8⟩
                  have hnX8 := Lib.hid (hnX4.out.below hb8)
                  have hnT8 := Lib.hid (hnT4.out.below hb8)
                  have ho48 := Lib.hid (ho4.out.below hb8)
                  have hb8' := Lib.hid (hb4.out.trans (hb8.mono hb4.out.size))
                  have ho8' := Lib.hid ho8
                  have hs8 := hb8'.out.size
                  have hl8 := hnX8.out.lt
                  clear hsp ho8 hb8
                  obtain ⟨B2, hB2⟩ : ∃ B2, w8.heap.size = B2 := ⟨_, rfl⟩
                  have hB2' := Lib.hid hB2
                  rw [hB2] at hl8
                  clear hB2
                  go_wp2_with fail
                  go_loopw [9] (fun i wr => ∃ (j : Nat) (A2 : Option Addr) (c2 : Nat), j ≤ n2 ∧ i = .int .i64 j ∧ Hid (Kb wr (T + 1) A5 n c5 A2 j c2) ∧ Hid (OwX wr B2 9 (.slice A2 j c2) ((L.take j).map trim)) ∧ Hid (w8.grownBy wr (some (T + 1)))) (fun i _ => n2 - (intOf i).toNat)
                  case atStart => exact ⟨0, none, 0, by omega, rfl, hnX8, Lib.hid (OwX.nil _ _ _), Lib.hid (World.grownBy.refl _ _)⟩
                  case round =>
                    obtain ⟨j, A2, c2, hj, rfl, hKb, hoK, hg⟩ := hrel
                    by_cases hlt : j < n2
                    · have i1 : decide ((j : Int) < (n2 : Int)) = true := by rw [decide_eq_true_eq]; omega
                      have i2 : decide (j < n2) = true := by rw [decide_eq_true_eq]; omega
                      have i3 : (j : Int) < (n2 : Int) := by omega
                      have hoL := ho8'.out.grown hg.out (ho8'.out.ne_kb hnX8.out)
                      have hmx := Rd.le hoL.rd
                      obtain ⟨b, off, t1, rfl, hbl, ht1, hc⟩ := hoL.rd.at_ hlt
                      have hsr : B2 ≤ wr.heap.size := by have := hg.out.size; have := hB2'.out; omega
                      have htl := hs44'.out t1 (List.mem_of_getElem? ht1)
                      have hct : Hid (∀ x, Calls Tryz.prog 37 #[.string (strOf t1)] x fun e w' => e = .returned (.string (strOf (trim t1))) ∧ w' = x) := Lib.hid fun x => by
                        have := rtrim_any (strOf t1) (by rw [strOf_size']; omega) x
                        rw [strOf_data'] at this
                        exact this
                      have hq0 : Hid (∀ x, Below wr.heap.size wr x → x.cell? ⟨T + 1, 1, none⟩ = some (.slice A2 j c2) ∧ x.cell? ⟨b, off + j, none⟩ = some (tv t1)) := Lib.hid fun x hbx => ⟨(hKb.out.below hbx).cells.2, (hbx.cell hbl).trans hc⟩
                      have hdr : Hid (Below wr.heap.size wr wr.drew) := Lib.hid (Joins.below_draws wr.heap.size wr 1)
                      have hnext : Hid ((L.take (j + 1)).map trim = (L.take j).map trim ++ [trim t1]) := Lib.hid (by rw [take_one ht1, List.map_append]; rfl)
                      have hjl : Hid (((L.take j).map trim).length = j) := Lib.hid (by rw [List.length_map, List.length_take]; have := hm'.out; omega)
                      clear ht1 htl hoL hc
                      go_wp2_with fail
                      refine Pl.wp_region_plan 8 (.take 0 (.take 1 (.take 2 (.take 3 (.take 4 (.take 5 (.run 6 (.run 7 .done)))))))) (fun x => x.cell? ⟨T + 1, 1, none⟩ = some (.slice A2 j c2) ∧ x.cell? ⟨b, off + j, none⟩ = some (tv t1)) (by kernel_rfl) (by kernel_rfl) (by exact hq0.out _ hdr.out) ?_
                      simp only [Pl.fill, List.getElem?_cons_zero, List.getElem?_cons_succ, List.drop_succ_cons, List.drop_zero]
                      iterate 6
                        refine Pl.take_go ?_ (by rfl) (fun _ _ _ h => h) ?_ ?_
                        rotate_left
                        · (intro x hSw; (try dsimp only at hSw); (try obtain ⟨s0, s1⟩ := hSw); go_simp; try with_reducible rfl)
                        try simp only [Act.put, List.setIfInBounds_toArray, List.set_cons_zero, List.set_cons_succ]
                      refine Pl.run_go (fun K hK => ?_)
                      go_simp
                      refine (hct.out _).mono ?_
                      rintro e w9 ⟨rfl, rfl⟩
                      dsimp only
                      refine hK.out _ _ (Pl.more_go _ (fun _ h => h) (by exact hq0.out _ hdr.out) ?_)
                      clear hK K
                      try simp only [Act.put, List.setIfInBounds_toArray, List.set_cons_zero, List.set_cons_succ]
                      refine Pl.run_go (fun K hK => ?_)
                      go_simp
                      have hbA := (below_alloc wr (.cells #[.string (strOf (trim t1))] 9)).trans (Joins.below_draws wr.heap.size (wr.alloc (.cells #[.string (strOf (trim t1))] 9)) 1)
                      have hlit := (ts_lit wr (strOf (trim t1)) (trim t1) 9 (0, 0) rfl).below (Joins.below_draws _ (wr.alloc (.cells #[.string (strOf (trim t1))] 9)) 1)
                      obtain ⟨wA, hwA⟩ : ∃ wA, (wr.alloc (.cells #[.string (strOf (trim t1))] 9)).drew = wA := ⟨_, rfl⟩
                      have hbA' : Hid (Below wr.heap.size wr wA) := Lib.hid (by rw [← hwA]; exact hbA)
                      have hlit : Ts wA (some ⟨wr.heap.size, 0, none⟩) 1 1 [trim t1] := by rw [← hwA]; exact hlit
                      rw [hwA]
                      have hlit' := Lib.hid hlit
                      refine hK.out _ _ (Pl.more_go _ (fun _ h => h) (by exact hq0.out _ hbA'.out) ?_)
                      clear hK K hbA hlit hwA
                      try simp only [Act.put, List.setIfInBounds_toArray, List.set_cons_zero, List.set_cons_succ]
                      refine Pl.done_go ?_
                      have hsA := hbA'.out.size
                      go_wp2_with (at_builtin; apply stop_here)
                      refine Stop.go (append_ts _ 23 9 Tryz.underlying23 str_info rfl _ _ rfl B2 _ ((L.take j).map trim) rfl (hoK.out.below hbA'.out) _ 1 1 [trim t1] rfl hlit'.out (j + 1) (by rw [hjl.out]) (by omega) (by omega) ?_)
                      intro A3 c3 wB h1 h2 h3
                      rw [← hnext.out] at h1
                      have hKB := Lib.hid ((show Kb wB (T + 1) A5 n c5 A2 j c2 from (h3.block (T + 1) hl8).trans (hKb.out.below hbA'.out)))
                      have hgB := Lib.hid (grown_low (grown_low hg.out (by rw [hB2'.out]; exact hbA'.out.mono hsr)) (by rw [hB2'.out]; exact h3))
                      have h1' := Lib.hid h1
                      obtain ⟨q0, q1⟩ := hKB.out.cells
                      have f1 := hKB.out.frozen 1
                      clear h1 h2 h3 hlit'
                      go_wp2_with fail
                      go_roundw
                      case rel =>
                        refine ⟨j + 1, A3, c3, by omega, by go_num, Lib.hid ?_, Lib.hid ?_, Lib.hid ?_⟩
                        · exact setCell_kb hKB.out (i := 1) (.slice A3 (j + 1) c3)
                        · exact h1'.out.grown (grown_set wB ⟨T + 1, 1, none⟩ _) (h1'.out.ne_kb hKB.out)
                        · exact grown_trans hgB.out (grown_set wB ⟨T + 1, 1, none⟩ _)
                      case measure => simp [intOf]; omega
                    · have i1 : decide ((j : Int) < (n2 : Int)) = false := by rw [decide_eq_false_iff_not]; omega
                      have i2 : decide (j < n2) = false := by rw [decide_eq_false_iff_not]; omega
                      have hKL : (L.take j).map trim = K := by rw [hKe.out, List.take_of_length_le (by have := hm'.out; omega)]
                      rw [hKL] at hoK
                      clear hKL
                      go_wp2_with fail
                      go_meet
                      refine ⟨rfl, A2, j, c2, hKb, Lib.hid (hoK.out.down (by have := hB2'.out; omega)), Lib.hid (ho48.out.grown hg.out (ho48.out.ne_kb hnX8.out)), Lib.hid ((hg.out.block T (by have := hB2'.out; omega) (by simp)).trans hnT8.out), Lib.hid ?_⟩
                      exact hb8'.out.grown hg.out hs8 (fun k hk => by injection hk with hk; omega)
              case rest =>
                obtain ⟨rfl, A2, m, c2, hKb, hoK, hoP, hnTc, hbc⟩ := hcut
                have hSm : Smr 900000 (P, K) := by
                  have hKs : K.length ≤ 900001 ∧ ∀ t ∈ K, t.length ≤ 900000 := by
                    rw [← hK'.out]
                    split
                    · exact ⟨by simp, fun t ht => by cases ht⟩
                    · refine ⟨?_, fun t ht => ?_⟩
                      · rw [List.length_map]
                        have := split_len 44 y2
                        omega
                      · obtain ⟨u, hu, rfl⟩ := List.mem_map.1 ht
                        have := split_small 44 _ u hu
                        have := trim_small u
                        omega
                  exact ⟨by have := hn'.out; simp only; omega, by have := hKs.1; simp only; omega, fun t ht => by have := hs47'.out t ht; omega, fun t ht => by have := hKs.2 t ht; omega⟩
                have hru : Hid (∀ x, Below wc.heap.size wc x → Calls Tryz.prog 24 #[.agg #[.slice A5 n c5, .slice A2 m c2]] x fun e w' => e = .returned (.bool (ruleB nameR (P, K))) ∧ Below x.heap.size x w') := Lib.hid fun x hbx =>
                  refRule_any A5 n c5 A2 m c2 (P, K) x (hoP.out.rd.below hbx) (hoK.out.rd.below hbx) hSm
                obtain ⟨R, hRe⟩ : ∃ R, ruleB nameR (P, K) = R := ⟨_, rfl⟩
                rw [hRe] at hru
                have hfin : Hid ((lineR nameR t).isSome = R ∧ ∀ r, lineR nameR t = some r → r = (P, K)) := Lib.hid (by
                  rw [hR.out]
                  unfold ruleO
                  rw [hRe]
                  cases R with
                  | false => exact ⟨rfl, fun r hr => by cases hr⟩
                  | true => exact ⟨rfl, fun r hr => by rw [if_pos rfl] at hr; injection hr with hr; exact hr.symm⟩)
                have hq0 : Hid (∀ x, Below wc.heap.size wc x → x.cell? ⟨T + 1, 0, none⟩ = some (.slice A5 n c5) ∧ x.cell? ⟨T + 1, 1, none⟩ = some (.slice A2 m c2)) := Lib.hid fun x hbx => (hKb.out.below hbx).cells
                have hdr : Hid (Below wc.heap.size wc wc.drew) := Lib.hid (Joins.below_draws wc.heap.size wc 1)
                have hsc := hbc.out.size
                clear hSm hRe emp
                go_wp2_with fail
                obtain ⟨q0, q1⟩ := hq0.out _ hdr.out
                refine Pl.wp_region_plan 3 (.take 0 (.take 1 (.run 2 .done))) (fun x => x.cell? ⟨T + 1, 0, none⟩ = some (.slice A5 n c5) ∧ x.cell? ⟨T + 1, 1, none⟩ = some (.slice A2 m c2)) (by kernel_rfl) (by kernel_rfl) (by exact ⟨q0, q1⟩) ?_
                simp only [Pl.fill, List.getElem?_cons_zero, List.getElem?_cons_succ, List.drop_succ_cons, List.drop_zero]
                iterate 2
                  refine Pl.take_go ?_ (by rfl) (fun _ _ _ h => h) ?_ ?_
                  rotate_left
                  · (intro x hSw; (try dsimp only at hSw); go_simp; try with_reducible rfl)
                  try simp only [Act.put, List.setIfInBounds_toArray, List.set_cons_zero, List.set_cons_succ]
                refine Pl.run_go (fun K hK => ?_)
                go_simp
                refine (hru.out _ hdr.out).mono ?_
                rintro e wD ⟨rfl, hbD⟩
                have hbD' := Lib.hid (hdr.out.trans (hbD.mono hdr.out.size))
                clear hbD q0 q1
                obtain ⟨q0, q1⟩ := hq0.out _ hbD'.out
                dsimp only
                refine hK.out _ _ (Pl.more_go _ (fun _ h => h) (by exact ⟨q0, q1⟩) ?_)
                clear hK K q0 q1
                try simp only [Act.put, List.setIfInBounds_toArray, List.set_cons_zero, List.set_cons_succ]
                refine Pl.done_go ?_
                have hnD : Kb wD T none 0 0 none 0 0 := hnTc.out.below hbD'.out
                have hxD := Lib.hid (hbc.out.trans (hbD'.out.mono hsc))
                obtain ⟨c0, c1⟩ := hnD.cells
                have f0 := hnD.frozen 0
                have f1 := hnD.frozen 1
                have hnD' := Lib.hid hnD
                clear hnD
                go_wp2_with fail
                refine bodyPost_ret (res_kb rfl (kb_set hnD'.out A5 n c5 A2 m c2) rfl rfl) rfl ?_
                refine ⟨A5, n, c5, A2, m, c2, by rw [hfin.out.1]; rfl, ?_, fun r hr => ?_⟩
                · exact below_set (below_set hxD.out (by omega) _) (by omega) _
                · rw [hfin.out.2 r hr]
                  have key : ∀ (v : Value) (ts : List Tx), OwX wc w.heap.size 9 v ts → OwX ((wD.setCell ⟨T, 0, none⟩ (.slice A5 n c5)).setCell ⟨T, 1, none⟩ (.slice A2 m c2)) w.heap.size 9 v ts := fun v ts ho => by
                    have h1 := ho.below hbD'.out
                    have h2 := h1.grown (grown_set wD ⟨T, 0, none⟩ (.slice A5 n c5)) (h1.ne_kb hnD'.out)
                    exact h2.grown (grown_set _ ⟨T, 1, none⟩ (.slice A2 m c2)) (h1.ne_kb hnD'.out)
                  exact ⟨key _ _ hoP.out, key _ _ hoK.out⟩
            · have hl : Hid (lineR nameR t = none) := Lib.hid (by
                rw [hll.out]
                split
                · rename_i q heq
                  injection heq with h1 h2
                  exact absurd h1 hb0
                · rfl)
              have e4 : (((S[0]'e3).toNat : Int) == 47) = false := by
                subst hS
                rw [beq_eq_false_iff_ne]
                intro h
                have h2 : (b0.toNat : Int) = 47 := h
                exact hb0 (UInt8.toNat_inj.1 (by rw [show b0.toNat = 47 by omega]; rfl))
              clear hS hb0
              go_wp2_with fail
              refine bodyPost_ret (res_kb rfl (kb_set hnT.out none 0 0 none 0 0) rfl rfl) rfl ?_
              exact hno.out hl.out
        · have hl : Hid (lineR nameR t = none) := Lib.hid (by rw [hlc'.out, if_neg hk])
          have i9 : (((s[s.size - 1]'i7).toNat : Int) == 125) = false := by
            rw [hlast'.out, beq_eq_false_iff_ne]
            intro h
            have e : lb = 125 := UInt8.toNat_inj.1 (by rw [show lb.toNat = 125 by omega]; rfl)
            rw [← hlb'.out] at e
            cases hg : k.getLast? with
            | none => rw [hg] at e; cases e
            | some x =>
              rw [hg] at e hk
              have e2 : x = 125 := e
              exact hk (by rw [e2])
          clear hk
          go_wp2_with fail
          refine bodyPost_ret (res_kb rfl (kb_set hnT.out none 0 0 none 0 0) rfl rfl) rfl ?_
          exact hno.out hl.out
end Go.Proofs.YtjofkodncplhaaaGreatDoor.Ky
end

section
namespace Go.Proofs.YtjofkodncplhaaaGreatDoor.Ky
open Go.RowKit Go.Shelf UtfW

/-- What the document's Parse answers. -/
def RParP (s : Tx) (w : World) (e : Ending) (w' : World) : Prop :=
  ∃ A c, e = .returned (.tuple #[.slice A (parseL nameR (split 10 (lns s)) 0 []).1.length c, .int .i64 (parseL nameR (split 10 (lns s)) 0 []).2.1, .int .i64 ((parseL nameR (split 10 (lns s)) 0 []).2.2 : Nat)]) ∧ Below w.heap.size w w' ∧
    Rs w' A (parseL nameR (split 10 (lns s)) 0 []).1.length c (parseL nameR (split 10 (lns s)) 0 []).1

/-- A literal of one rule. -/
theorem rl_lit {B : Nat} (w : World) (p : Nat) (A1 : Option Addr) (n1 c1 : Nat) (A2 : Option Addr) (n2 c2 : Nat) (r : Rl) (h : Kb w p A1 n1 c1 A2 n2 c2) (h1 : OwX w B 9 (.slice A1 n1 c1) r.1) (h2 : OwX w B 9 (.slice A2 n2 c2) r.2) :
    Sq (RlO B) 2 w (some ⟨p, 0, none⟩) 1 1 [r] := by
  refine ⟨rfl, by omega, by omega, fun h => by simp at h, fun _ => ⟨p, 0, rfl, h.lt, fun i x hx => ?_⟩⟩
  match i, hx with
  | 0, hx =>
    simp at hx
    subst hx
    refine ⟨[.slice A1 n1 c1, .slice A2 n2 c2], rfl, ⟨A1, n1, c1, A2, n2, c2, rfl, h1, h2⟩, fun j v hv => ?_⟩
    obtain ⟨g1, g2⟩ := h.cells
    match j, hv with
    | 0, hv => simp at hv; rw [← hv]; exact g1
    | 1, hv => simp at hv; rw [← hv]; exact g2
    | j + 2, hv => simp at hv
  | i + 1, hx => simp at hx

theorem own_ty {w : World} {B : Nat} {v : Value} {l : List Rl} (h : OwR w B v l) : ∀ g, v.ownBlock = some g → B ≤ g → ∀ cur, w.heap[g]? ≠ some (.cells cur 9) := fun g e _ cur hh => by
  obtain ⟨xs, hown, _⟩ := h
  rcases hown.2 with ⟨rfl, _⟩ | ⟨g', cap, cur', rfl, _, hh', _⟩
  · cases e
  · simp only [Value.ownBlock, Option.some.injEq] at e
    subst e
    rw [hh'] at hh
    injection hh with hh
    injection hh with _ hh
    exact absurd hh (by decide)

theorem parseL_cons (s : Tx) (l : List Tx) (n : Nat) (out : List Rl) : parseL nameR (s :: l) n out =
    if trim s = [] ∨ (trim s).head? = some 35 then parseL nameR l (n + 1) out
    else match lineR nameR (trim s) with
      | none => ([], 20, n + 1)
      | some x => if 64 ≤ out.length then ([], 20, n + 1) else if placedB out x = true then parseL nameR l (n + 1) (out ++ [x]) else ([], 21, n + 1) := rfl

set_option maxHeartbeats 2000000 in
set_option maxRecDepth 100000 in
/-- The document's Parse. -/
theorem refParse_any (s : ByteArray) (hs : s.size ≤ 900000) (w : World) :
    Calls Tryz.prog 18 #[.string s] w (RParP s.data.toList w) := by
  have hlns : (lns s.data.toList).length ≤ 900000 := by
    have h1 := Utf.lines_len s.data.toList
    rw [Array.length_toList] at h1
    rw [lns_eq]
    exact Nat.le_trans h1 hs
  have hlin := refLines_any s (by omega) w
  rw [← lns_eq] at hlin
  unfold RParP
  obtain ⟨X, hX⟩ : ∃ X, lns s.data.toList = X := ⟨_, rfl⟩
  rw [hX] at hlns hlin ⊢
  clear hX
  have hsm := split_small 10 X
  have hsl := split_len 10 X
  have hsp : ∀ x, Calls Tryz.prog 35 #[.string (strOf X), .int .u8 10] x fun e w' => ∃ (A : Option Addr) (cc : Nat), e = .returned (.slice A (split 10 X).length cc) ∧ Below x.heap.size x w' ∧ OwX w' x.heap.size 9 (.slice A (split 10 X).length cc) (split 10 X) := fun x => by
    have := refSplit_any (strOf X) 10 (by rw [strOf_size']; omega) x
    rw [strOf_data'] at this
    exact this
  obtain ⟨L, hL⟩ : ∃ L, split 10 X = L := ⟨_, rfl⟩
  rw [hL] at hsm hsl ⊢
  simp only [hL] at hsp
  obtain ⟨n, hn⟩ : ∃ n, L.length = n := ⟨_, rfl⟩
  rw [hn] at hsl
  simp only [hn] at hsp
  obtain ⟨Z, hZ⟩ : ∃ Z, parseL nameR L 0 [] = Z := ⟨_, rfl⟩
  rw [hZ]
  have hn' := Lib.hid hn
  have hZ' := Lib.hid hZ
  have hsp' := Lib.hid hsp
  have hsm' := Lib.hid hsm
  clear hL hn hZ hsp hsm
  go_enter Tryz.func18, Tryz.ntmps18
  go_wp2_with fail
  refine hlin.mono ?_
  rintro e w1 ⟨rfl, hb1⟩
  have hb1' := Lib.hid hb1
  clear hlin hb1
  go_wp2_with fail
  refine (hsp'.out w1).mono ?_
  rintro e w2 ⟨AL, cL, rfl, hb2, hoL⟩
  have hb2' := Lib.hid (hb1'.out.trans (hb2.mono hb1'.out.size))
  have hoL' := Lib.hid hoL.rd
  have hmx := Rd.max hoL.rd
  have hle := Rd.le hoL.rd
  clear hb2 hoL
  obtain ⟨B, hB⟩ : ∃ B, w2.heap.size = B := ⟨_, rfl⟩
  have hB' := Lib.hid hB
  clear hB
  go_wp2_with fail
  go_loopw [5, 7] (fun o i wr => ∃ (k m : Nat) (A : Option Addr) (c : Nat) (out : List Rl), k ≤ n ∧ i = .int .i64 k ∧ o = .slice A m c ∧ m ≤ 64 ∧ Hid (out.length = m) ∧ Hid (OwR wr B (.slice A m c) out) ∧ Hid (Z = parseL nameR (L.drop k) k out) ∧ Hid (Below w2.heap.size w2 wr)) (fun _ i _ => n - (intOf i).toNat)
  case atStart => exact ⟨0, 0, none, 0, [], by omega, rfl, rfl, by omega, Lib.hid rfl, Lib.hid (OwR.nil _ _), Lib.hid hZ'.out.symm, Lib.hid (Below.refl _ _)⟩
  case round =>
    obtain ⟨k, m, A, c, out, hk, rfl, rfl, hm64, hm, ho, hz, hb⟩ := hrel
    by_cases hlt : k < n
    · have i1 : decide ((k : Int) < (n : Int)) = true := by rw [decide_eq_true_eq]; omega
      have i2 : decide (k < n) = true := by rw [decide_eq_true_eq]; omega
      have i3 : (k : Int) < (n : Int) := by omega
      obtain ⟨b, off, t0, rfl, hbl, ht0, k0⟩ := (hoL'.out.below hb.out).at_ hlt
      have htl := hsm'.out t0 (List.mem_of_getElem? ht0)
      have hct := rtrim_any (strOf t0) (by rw [strOf_size']; omega) wr
      rw [strOf_data'] at hct
      have hdk : L.drop k = t0 :: L.drop (k + 1) := by
        have h2 := (List.getElem?_eq_some_iff.1 ht0)
        rw [List.drop_eq_getElem_cons h2.1, h2.2]
      have hz2 : Hid (Z = if trim t0 = [] ∨ (trim t0).head? = some 35 then parseL nameR (L.drop (k + 1)) (k + 1) out
          else match lineR nameR (trim t0) with
            | none => ([], 20, k + 1)
            | some x => if 64 ≤ m then ([], 20, k + 1) else if placedB out x = true then parseL nameR (L.drop (k + 1)) (k + 1) (out ++ [x]) else ([], 21, k + 1)) := Lib.hid (by rw [hz.out, hdk, parseL_cons, hm.out])
      have htr := trim_small t0
      obtain ⟨tt, htt⟩ : ∃ tt, trim t0 = tt := ⟨_, rfl⟩
      rw [htt] at hct hz2 htr
      clear htt ht0 hdk hz
      go_wp2_with fail
      refine hct.mono ?_
      rintro e w3 ⟨rfl, hw3⟩
      obtain rfl : wr = w3 := hw3.symm
      clear hct hw3 k0
      cases tt with
      | nil =>
        have e1 : (strOf []).toList.isEmpty = true := by rw [strOf_empty]; rfl
        have hz3 : Hid (Z = parseL nameR (L.drop (k + 1)) (k + 1) out) := Lib.hid (by rw [hz2.out, if_pos (.inl rfl)])
        go_wp2_with fail
        go_roundw
        case rel => exact ⟨k + 1, m, A, c, out, by omega, by go_num, rfl, by omega, hm, ho, hz3, hb⟩
        case measure => simp [intOf]; omega
      | cons b0 r0 =>
        have e1 : (strOf (b0 :: r0)).toList.isEmpty = false := by rw [strOf_empty]; rfl
        obtain ⟨S, hS⟩ : ∃ S, strOf (b0 :: r0) = S := ⟨_, rfl⟩
        have e3 : 0 < S.size := by rw [← hS, strOf_size']; simp
        rw [hS] at e1
        rw [hS]
        by_cases hb0 : b0 = 35
        · have e4 : (((S[0]'e3).toNat : Int) == 35) = true := by subst hS; rw [hb0]; rfl
          have hz3 : Hid (Z = parseL nameR (L.drop (k + 1)) (k + 1) out) := Lib.hid (by rw [hz2.out, if_pos (.inr (by rw [hb0]; rfl))])
          clear hS hb0
          go_wp2_with fail
          go_roundw
          case rel => exact ⟨k + 1, m, A, c, out, by omega, by go_num, rfl, by omega, hm, ho, hz3, hb⟩
          case measure => simp [intOf]; omega
        · have e4 : (((S[0]'e3).toNat : Int) == 35) = false := by
            subst hS
            rw [beq_eq_false_iff_ne]
            intro h
            have h2 : (b0.toNat : Int) = 35 := h
            exact hb0 (UInt8.toNat_inj.1 (by rw [show b0.toNat = 35 by omega]; rfl))
          have hz3 : Hid (Z = match lineR nameR (b0 :: r0) with
            | none => ([], 20, k + 1)
            | some x => if 64 ≤ m then ([], 20, k + 1) else if placedB out x = true then parseL nameR (L.drop (k + 1)) (k + 1) (out ++ [x]) else ([], 21, k + 1)) := Lib.hid (by
            rw [hz2.out, if_neg]
            rintro (h | h)
            · cases h
            · injection h with h
              exact hb0 h)
          have hline := refLine_any S (by rw [← hS, strOf_size']; omega) wr
          have e5 : S.data.toList = b0 :: r0 := by rw [← hS]; exact strOf_data' _
          rw [e5] at hline
          have hbs := hb.out.size
          clear hS hb0 hz2 e5
          go_wp2_with fail
          refine hline.mono ?_
          rintro e w4 ⟨A1, n1, c1, A2, n2, c2, rfl, hb4, hrows⟩
          have ho4 := Lib.hid (ho.out.below hb4)
          have hb4' := Lib.hid (hb.out.trans (hb4.mono hbs))
          have hrows' := Lib.hid hrows
          have hs4 := hb4.size
          have hlr : Hid (∀ y, lineR nameR (b0 :: r0) = some y → y.1 ≠ []) := Lib.hid fun y hy => by
            have hyr := line_rule nameR hy
            intro e
            unfold ruleB at hyr
            rw [e] at hyr
            simp at hyr
          obtain ⟨R, hR⟩ : ∃ R, lineR nameR (b0 :: r0) = R := ⟨_, rfl⟩
          rw [hR] at hrows' hz3 hlr ⊢
          clear hR hline hb4 hrows e1 e4
          have hn4 : Hid (Kb (w4.alloc (.cells #[.slice A1 n1 c1, .slice A2 n2 c2] 27)) w4.heap.size A1 n1 c1 A2 n2 c2) := Lib.hid (kb_new w4 A1 n1 c1 A2 n2 c2)
          have hbA := Lib.hid (below_alloc w4 (.cells #[.slice A1 n1 c1, .slice A2 n2 c2] 27))
          cases R with
          | none =>
            have hzf : Hid (Z = ([], 20, k + 1)) := Lib.hid hz3.out
            go_wp2_with fail
            go_ret3
            rw [hzf.out]
            exact ⟨none, 0, rfl, hb2'.out.trans ((hb4'.out.trans (hbA.out.mono hb4'.out.size)).mono hb2'.out.size), (OwR.nil _ B).rs⟩
          | some y =>
            obtain ⟨hy1, hy2⟩ := hrows'.out y rfl
            have hyne := hlr.out y rfl
            clear hlr
            by_cases h64 : m = 64
            · have j1 : decide ((m : Int) ≥ 64) = true := by rw [decide_eq_true_eq]; omega
              have j2 : decide (64 ≤ m) = true := by rw [decide_eq_true_eq]; omega
              have hzf : Hid (Z = ([], 20, k + 1)) := Lib.hid (by rw [hz3.out]; (try simp only); rw [if_pos (by omega)])
              clear h64 hy1 hy2
              go_wp2_with fail
              go_ret3
              rw [hzf.out]
              exact ⟨none, 0, rfl, hb2'.out.trans ((hb4'.out.trans (hbA.out.mono hb4'.out.size)).mono hb2'.out.size), (OwR.nil _ B).rs⟩
            · have j1 : decide ((m : Int) ≥ 64) = false := by rw [decide_eq_false_iff_not]; omega
              have j2 : decide (64 ≤ m) = false := by rw [decide_eq_false_iff_not]; omega
              have hB2 := hB'.out
              have hy1' := Lib.hid ((hy1.below hbA.out).down (show B ≤ wr.heap.size by omega))
              have hy2' := Lib.hid ((hy2.below hbA.out).down (show B ≤ wr.heap.size by omega))
              have hoA := Lib.hid (ho4.out.below hbA.out)
              have hpl := refPlaced_any A m c out A1 n1 c1 A2 n2 c2 y _ hoA.out.rs hy1'.out.rd hyne
              obtain ⟨V, hV⟩ : ∃ V, placedB out y = V := ⟨_, rfl⟩
              rw [hV] at hpl
              have hV' := Lib.hid hV
              have hpl' := Lib.hid hpl
              have hsA : Hid ((w4.alloc (.cells #[.slice A1 n1 c1, .slice A2 n2 c2] 27)).heap.size = w4.heap.size + 1) := Lib.hid (World.size_alloc _ _)
              have hm63 : m + 1 ≤ 64 := by omega
              clear hy1 hy2 hyne hpl hV h64 ho4
              go_wp2_with fail
              refine hpl'.out.mono ?_
              rintro e w6 ⟨rfl, hb6⟩
              have ho6 := Lib.hid (hoA.out.below hb6)
              have hn6 := hn4.out.below hb6
              have hb6' := Lib.hid (hb4'.out.trans ((hbA.out.trans (hb6.mono hbA.out.size)).mono hb4'.out.size))
              have hy16 := Lib.hid (hy1'.out.below hb6)
              have hy26 := Lib.hid (hy2'.out.below hb6)
              have hs6 := hb6'.out.size
              have hn6' := Lib.hid hn6
              obtain ⟨x0, x1⟩ := hn6.cells
              obtain ⟨p9, hp9⟩ : ∃ p9, w4.heap.size = p9 := ⟨_, rfl⟩
              rw [hp9] at x0 x1 hn6'
              clear hb6 hn6 hpl' hoA hn4 hbA hsA hy1' hy2' hb4' hs4
              cases V with
              | false =>
                have hzf : Hid (Z = ([], 21, k + 1)) := Lib.hid (by rw [hz3.out]; (try simp only); rw [if_neg (by omega), hV'.out]; rfl)
                rw [hp9]
                clear hp9
                go_wp2_with fail
                go_ret3
                rw [hzf.out]
                exact ⟨none, 0, rfl, hb2'.out.trans (hb6'.out.mono hb2'.out.size), (OwR.nil _ B).rs⟩
              | true =>
                have hzf : Hid (Z = parseL nameR (L.drop (k + 1)) (k + 1) (out ++ [y])) := Lib.hid (by rw [hz3.out]; (try simp only); rw [if_neg (by omega), hV'.out, if_pos rfl])
                rw [hp9]
                clear hp9
                have hbL := below_alloc w6 (.cells #[.slice A1 n1 c1, .slice A2 n2 c2] 27)
                have hnL := kb_new w6 A1 n1 c1 A2 n2 c2
                have hlit := Lib.hid (rl_lit (B := B) _ _ A1 n1 c1 A2 n2 c2 y hnL (hy16.out.below hbL) (hy26.out.below hbL))
                have hoL6 := Lib.hid (ho6.out.below hbL)
                have hbL' := Lib.hid hbL
                have hty := Lib.hid (own_ty hoL6.out)
                clear hbL hnL
                go_wp2_with (at_builtin; apply stop_here)
                refine Stop.go (append_sq (El := RlO B) _ 22 27 (.agg #[.slice none 0 0, .slice none 0 0]) 48 Tryz.underlying22 rule_info rfl (by decide) rfl _ _ rfl B _ out rfl hoL6.out _ 1 1 [y] rfl hlit.out RlO.one (fun w' hg => RlO.kept hg hty.out) (m + 1) (by rw [hm.out]) (by omega) (by omega) (by have := hbL'.out.size; omega) ?_)
                intro A7 c7 w7 g1 g2 g3 _
                have g1' := Lib.hid g1
                have hb7 := Lib.hid (hb6'.out.trans (by rw [hB2]; exact (hbL'.out.mono (by omega)).trans g3))
                have hlen : Hid ((out ++ [y]).length = m + 1) := Lib.hid (by rw [List.length_append, hm.out]; rfl)
                clear g1 g2 g3 x0 x1
                go_wp2_with fail
                go_roundw
                case rel => exact ⟨k + 1, m + 1, A7, c7, out ++ [y], by omega, by go_num, by go_num, by omega, hlen, g1', hzf, hb7⟩
                case measure => simp [intOf]; omega
    · have i1 : decide ((k : Int) < (n : Int)) = false := by rw [decide_eq_false_iff_not]; omega
      have i2 : decide (k < n) = false := by rw [decide_eq_false_iff_not]; omega
      have hz3 : Hid (Z = if out = [] then ([], 20, 0) else (out, 0, 0)) := Lib.hid (by
        rw [hz.out, List.drop_eq_nil_of_le (by have := hn'.out; omega), parseL])
      by_cases h0 : m = 0
      · have j1 : ((m : Int) == 0) = true := by rw [beq_iff_eq]; omega
        have hzf : Hid (Z = ([], 20, 0)) := Lib.hid (by rw [hz3.out, if_pos (List.eq_nil_of_length_eq_zero (hm.out.trans h0))])
        clear h0
        go_wp2_with fail
        go_ret3
        rw [hzf.out]
        exact ⟨none, 0, rfl, hb2'.out.trans (hb.out.mono hb2'.out.size), (OwR.nil wr B).rs⟩
      · have j1 : ((m : Int) == 0) = false := by rw [beq_eq_false_iff_ne]; omega
        have hzf : Hid (Z = (out, 0, 0)) := Lib.hid (by rw [hz3.out, if_neg (fun h => h0 (by rw [← hm.out, h]; rfl))])
        clear h0
        go_wp2_with fail
        go_ret3
        rw [hzf.out]
        refine ⟨A, c, ?_, hb2'.out.trans (hb.out.mono hb2'.out.size), ?_⟩
        · simp only
          rw [hm.out]
          rfl
        · simp only
          rw [hm.out]
          exact ho.out.rs
end Go.Proofs.YtjofkodncplhaaaGreatDoor.Ky
end
