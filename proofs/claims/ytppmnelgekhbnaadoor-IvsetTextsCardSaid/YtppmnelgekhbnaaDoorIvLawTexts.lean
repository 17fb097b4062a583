/- The law IvsetTexts. -/
import Derived.Test.YtppmnelgekhbnaaDoorIvAwake
import Derived.Test.YtppmnelgekhbnaaDoorIvSame
import Derived.Test.YtppmnelgekhbnaaDoorIvRefText
import Derived.Test.YtppmnelgekhbnaaDoorIvRefParse
namespace Go.Proofs.YtppmnelgekhbnaaDoor.IvW
open Go.RowKit Iv

theorem text_len (l : List Span) : (text? l).length ≤ 1700 := by
  unfold text?
  cases h : okB 1 l with
  | false => simp
  | true =>
    simp only [if_true]
    have hok := (okB_iff _ _).1 h
    have h1 := ok_len hok (by omega)
    have h2 := ok_all hok (by omega)
    have h3 := join_small (xs := l.map it) (fun x hx => by
      obtain ⟨p, hp, rfl⟩ := List.mem_map.1 hx
      obtain ⟨o1, o2, o3⟩ := h2 p hp
      exact it_small o1 o2 o3)
    rw [List.length_map] at h3
    unfold textP
    omega

set_option maxHeartbeats 4000000 in
set_option maxRecDepth 100000 in
theorem texts_law (A : Option Addr) (n c : Nat) (l : List Span) (s : ByteArray) (w : World) (hE : Iw w) (hA : Rp w A n c l) :
    Calls Tryd.prog 3 #[.slice A n c, .string s] w fun e w' => e = .returned (.bool true) ∧ Below w.heap.size w w' := by
  have hE' := Lib.hid hE
  have hA' := Lib.hid hA
  have c0 := awake_any w hE
  clear hE hA
  go_enter Tryd.func3, Tryd.ntmps3
  go_wp2_with fail
  refine c0.mono ?_
  rintro e w1 ⟨rfl, hb1⟩
  have hx1 := Lib.hid hb1
  clear c0 hb1
  by_cases hsm : n ≤ 300
  case neg =>
    have hs : (decide (n ≤ 300) && decide (0 ≤ 300)) = false := by simp; omega
    have cs := small_any A n c none 0 0 w1
    rw [hs] at cs
    clear hs
    go_wp2_with fail
    refine cs.mono ?_
    rintro e w2 ⟨rfl, rfl⟩
    go_wp2_with fail
    go_ret
    exact ⟨rfl, hx1.out⟩
  case pos =>
  have hs : (decide (n ≤ 300) && decide (0 ≤ 300)) = true := by simp; omega
  have cs := small_any A n c none 0 0 w1
  rw [hs] at cs
  clear hs
  by_cases hsz : s.size ≤ 2000
  case neg =>
    have t1 : decide ((2000 : Int) < (s.size : Int)) = true := by simp; omega
    go_wp2_with fail
    refine cs.mono ?_
    rintro e w2 ⟨rfl, rfl⟩
    go_wp2_with fail
    go_ret
    exact ⟨rfl, hx1.out⟩
  case pos =>
  have t1 : decide ((2000 : Int) < (s.size : Int)) = false := by simp; omega
  have cp := parse_any s (by omega) w1 (hE'.out.below hx1.out)
  obtain ⟨Q, hQ⟩ : ∃ Q, parse? s.data.toList = Q := ⟨_, rfl⟩
  rw [hQ] at cp
  have hQ' := Lib.hid hQ
  clear hQ
  go_wp2_with fail
  refine cs.mono ?_
  rintro e w1 ⟨rfl, rfl⟩
  clear cs
  go_wp2_with fail
  refine cp.mono ?_
  rintro e w2 ⟨A2, n2, c2, l2, rfl, hr2, hq2, hb⟩
  have hx2 := Lib.hid (hx1.out.trans (hb.mono hx1.out.size))
  have hr2' := Lib.hid hr2
  have hq2' := Lib.hid hq2
  clear cp hb hr2 hq2
  have cr := refparse_any s (by omega) w2
  rw [← parse_ref, hQ'.out] at cr
  clear hQ'
  go_wp2_with fail
  refine cr.mono ?_
  rintro e w3 ⟨A3, n3, c3, l3, rfl, hr3, hq3, hb⟩
  have hx3 := Lib.hid (hx2.out.trans (hb.mono hx2.out.size))
  have hr2'' := Lib.hid (hr2'.out.below hb)
  have hr3' := Lib.hid hr3
  have hq3' := Lib.hid hq3
  clear cr hb hr3 hq3 hr2'
  obtain ⟨T, hT⟩ : ∃ T, strOf (text? l) = T := ⟨_, rfl⟩
  have hT' := Lib.hid hT
  have hTs : T.size ≤ 1700 := by rw [← hT, strOf_size']; exact text_len l
  have hTd : T.data.toList = text? l := by rw [← hT]; rfl
  have hTd' := Lib.hid hTd
  have hTT : (T.toList == T.toList) = true := by simp
  clear hT hTd
  cases Q with
  | none =>
    have ct := text_any A n c l w3 (hA'.out.below hx3.out) (hE'.out.below hx3.out).tens
    rw [hT'.out] at ct
    go_wp2_with fail
    refine ct.mono ?_
    rintro e w4 ⟨rfl, hb⟩
    have hx4 := Lib.hid (hx3.out.trans (hb.mono hx3.out.size))
    clear ct hb
    have ct := reftext_any A n c l w4 (hA'.out.below hx4.out) (by omega)
    rw [hT'.out] at ct
    go_wp2_with fail
    refine ct.mono ?_
    rintro e w5 ⟨rfl, hb⟩
    have hx5 := Lib.hid (hx4.out.trans (hb.mono hx4.out.size))
    clear ct hb
    have ct := text_any A n c l w5 (hA'.out.below hx5.out) (hE'.out.below hx5.out).tens
    rw [hT'.out] at ct
    go_wp2_with fail
    refine ct.mono ?_
    rintro e w6 ⟨rfl, hb⟩
    have hx6 := Lib.hid (hx5.out.trans (hb.mono hx5.out.size))
    clear ct hb
    have cp := parse_any T (by omega) w6 (hE'.out.below hx6.out)
    rw [hTd'.out] at cp
    cases hok : okB 1 l with
    | false =>
      obtain ⟨V, hV⟩ : ∃ V, (parse? (text? l)).isSome = V := ⟨_, rfl⟩
      rw [hV] at cp
      have cm := fun w' (h : Below w.heap.size w w') => refmay_any A n c l w' (hA'.out.below h)
      rw [hok] at cm
      have cm' := Lib.hid cm
      clear hV hok cm
      go_wp2_with fail
      refine cp.mono ?_
      rintro e w7 ⟨A9, n9, c9, l9, rfl, _, _, hb⟩
      have hx7 := Lib.hid (hx6.out.trans (hb.mono hx6.out.size))
      clear cp hb
      have cm := cm'.out w7 hx7.out
      go_wp2_with fail
      refine cm.mono ?_
      rintro e w8 ⟨rfl, qq, hw⟩
      have hb : Below w7.heap.size w7 w8 := by rw [hw]; exact Joins.below_draws _ _ _
      have hx8 := Lib.hid (hx7.out.trans (hb.mono hx7.out.size))
      clear cm hw hb
      go_wp2_with fail
      go_ret
      exact ⟨rfl, hx8.out⟩
    | true =>
      have hpz : parse? (text? l) = some l := (parse_iff _ _).2 ⟨hok, by unfold text?; rw [if_pos hok]⟩
      rw [hpz] at cp
      have cm := fun w' (h : Below w.heap.size w w') => refmay_any A n c l w' (hA'.out.below h)
      rw [hok] at cm
      have cm' := Lib.hid cm
      clear hpz hok cm
      go_wp2_with fail
      refine cp.mono ?_
      rintro e w7 ⟨A9, n9, c9, l9, rfl, hr9, hq9, hb⟩
      have hx7 := Lib.hid (hx6.out.trans (hb.mono hx6.out.size))
      have hl9 := hq9 l rfl
      subst hl9
      have hr9' := Lib.hid hr9
      clear cp hb hr9 hq9
      have cm := cm'.out w7 hx7.out
      go_wp2_with fail
      refine cm.mono ?_
      rintro e w8 ⟨rfl, qq, hw⟩
      have hb : Below w7.heap.size w7 w8 := by rw [hw]; exact Joins.below_draws _ _ _
      have hx8 := Lib.hid (hx7.out.trans (hb.mono hx7.out.size))
      have cs := same_any A9 n9 c9 l A n c l w8 (hr9'.out.below hb) (hA'.out.below hx8.out)
      rw [decide_eq_true (show l = l from rfl)] at cs
      clear cm hw hb
      go_wp2_with fail
      refine cs.mono ?_
      rintro e w9 ⟨rfl, qq, hw⟩
      have hb : Below w8.heap.size w8 w9 := by rw [hw]; exact Joins.below_draws _ _ _
      have hx9 := Lib.hid (hx8.out.trans (hb.mono hx8.out.size))
      clear cs hw hb
      go_wp2_with fail
      go_ret
      exact ⟨rfl, hx9.out⟩
  | some q =>
    have e2 := hq2'.out q rfl
    have e3 := hq3'.out q rfl
    subst e2
    subst e3
    have cs := same_any A2 n2 c2 q A3 n3 c3 q w3 hr2''.out hr3'.out
    rw [decide_eq_true (show q = q from rfl)] at cs
    go_wp2_with fail
    refine cs.mono ?_
    rintro e w4 ⟨rfl, qq, hw⟩
    have hb : Below w3.heap.size w3 w4 := by rw [hw]; exact Joins.below_draws _ _ _
    have hx4 := Lib.hid (hx3.out.trans (hb.mono hx3.out.size))
    clear cs hw hb
    have ct := text_any A n c l w4 (hA'.out.below hx4.out) (hE'.out.below hx4.out).tens
    rw [hT'.out] at ct
    go_wp2_with fail
    refine ct.mono ?_
    rintro e w5 ⟨rfl, hb⟩
    have hx5 := Lib.hid (hx4.out.trans (hb.mono hx4.out.size))
    clear ct hb
    have ct := reftext_any A n c l w5 (hA'.out.below hx5.out) (by omega)
    rw [hT'.out] at ct
    go_wp2_with fail
    refine ct.mono ?_
    rintro e w6 ⟨rfl, hb⟩
    have hx6 := Lib.hid (hx5.out.trans (hb.mono hx5.out.size))
    clear ct hb
    have ct := text_any A n c l w6 (hA'.out.below hx6.out) (hE'.out.below hx6.out).tens
    rw [hT'.out] at ct
    go_wp2_with fail
    refine ct.mono ?_
    rintro e w7 ⟨rfl, hb⟩
    have hx7 := Lib.hid (hx6.out.trans (hb.mono hx6.out.size))
    clear ct hb
    have cp := parse_any T (by omega) w7 (hE'.out.below hx7.out)
    rw [hTd'.out] at cp
    cases hok : okB 1 l with
    | false =>
      obtain ⟨V, hV⟩ : ∃ V, (parse? (text? l)).isSome = V := ⟨_, rfl⟩
      rw [hV] at cp
      have cm := fun w' (h : Below w.heap.size w w') => refmay_any A n c l w' (hA'.out.below h)
      rw [hok] at cm
      have cm' := Lib.hid cm
      clear hV hok cm
      go_wp2_with fail
      refine cp.mono ?_
      rintro e w8 ⟨A9, n9, c9, l9, rfl, _, _, hb⟩
      have hx8 := Lib.hid (hx7.out.trans (hb.mono hx7.out.size))
      clear cp hb
      have cm := cm'.out w8 hx8.out
      go_wp2_with fail
      refine cm.mono ?_
      rintro e w9 ⟨rfl, qq, hw⟩
      have hb : Below w8.heap.size w8 w9 := by rw [hw]; exact Joins.below_draws _ _ _
      have hx9 := Lib.hid (hx8.out.trans (hb.mono hx8.out.size))
      clear cm hw hb
      go_wp2_with fail
      go_ret
      exact ⟨rfl, hx9.out⟩
    | true =>
      have hpz : parse? (text? l) = some l := (parse_iff _ _).2 ⟨hok, by unfold text?; rw [if_pos hok]⟩
      rw [hpz] at cp
      have cm := fun w' (h : Below w.heap.size w w') => refmay_any A n c l w' (hA'.out.below h)
      rw [hok] at cm
      have cm' := Lib.hid cm
      clear hpz hok cm
      go_wp2_with fail
      refine cp.mono ?_
      rintro e w8 ⟨A9, n9, c9, l9, rfl, hr9, hq9, hb⟩
      have hx8 := Lib.hid (hx7.out.trans (hb.mono hx7.out.size))
      have hl9 := hq9 l rfl
      subst hl9
      have hr9' := Lib.hid hr9
      clear cp hb hr9 hq9
      have cm := cm'.out w8 hx8.out
      go_wp2_with fail
      refine cm.mono ?_
      rintro e w9 ⟨rfl, qq, hw⟩
      have hb : Below w8.heap.size w8 w9 := by rw [hw]; exact Joins.below_draws _ _ _
      have hx9 := Lib.hid (hx8.out.trans (hb.mono hx8.out.size))
      have cs := same_any A9 n9 c9 l A n c l w9 (hr9'.out.below hb) (hA'.out.below hx9.out)
      rw [decide_eq_true (show l = l from rfl)] at cs
      clear cm hw hb
      go_wp2_with fail
      refine cs.mono ?_
      rintro e w10 ⟨rfl, qq, hw⟩
      have hb : Below w9.heap.size w9 w10 := by rw [hw]; exact Joins.below_draws _ _ _
      have hx10 := Lib.hid (hx9.out.trans (hb.mono hx9.out.size))
      clear cs hw hb
      go_wp2_with fail
      go_ret
      exact ⟨rfl, hx10.out⟩
end Go.Proofs.YtppmnelgekhbnaaDoor.IvW
