/- The document's Has, Of, Count. -/
import Derived.Test.YtppmnelgekhbnaaGreatDoorIvOneLaw
import Derived.Test.YtppmnelgekhbnaaGreatDoorIvTwo
namespace Go.Proofs.YtppmnelgekhbnaaGreatDoor.IvW
open Go.RowKit Iv

set_option maxHeartbeats 2000000 in
set_option maxRecDepth 100000 in
theorem refhas_any (A : Option Addr) (n c : Nat) (l : List Span) (v : Int) (w : World) (hA : Rp w A n c l) :
    Calls Tryz.prog 10 #[.slice A n c, .int .i64 v] w fun e w' => e = .returned (.bool (has? l v)) ∧ Below w.heap.size w w' := by
  have z0 := fl_zero
  have fs := fl_size
  have c1 := flags_any A n c l w hA
  obtain ⟨R, hR⟩ : ∃ R, has? l v = R := ⟨_, rfl⟩
  rw [hR]
  rw [has_fl] at hR
  obtain ⟨m1, hm1⟩ : ∃ m1, (fun i : Nat => okB 1 l && mem l ↑i) = m1 := ⟨_, rfl⟩
  rw [hm1] at c1
  have hm1' := Lib.hid hm1
  have hR' := Lib.hid hR
  clear hA hm1 hR
  cases hk : okB 1 l with
  | false =>
    rw [hk] at c1
    have hRf : Hid (R = false) := Lib.hid (by rw [← hR'.out, hk]; rfl)
    clear hk
    go_enter Tryz.func10, Tryz.ntmps10
    go_wp2_with fail
    refine c1.mono ?_
    rintro e w1 ⟨rfl, hb1⟩
    obtain ⟨wa, w2, hwa, st1, hb2, hf2, hs2⟩ := new_fl w1 m1
    have hx2 := Lib.hid (hb1.trans (hb2.mono hb1.size))
    clear c1 hb1 hb2 hf2 hs2
    go_wp2_with fail
    go_ret
    exact ⟨by rw [hRf.out]; rfl, hx2.out⟩
  | true =>
    rw [hk] at c1
    have hRt : Hid (R = (ver v && mem l v)) := Lib.hid (by rw [← hR'.out, hk]; rfl)
    have hmm : ∀ x : Nat, m1 x = mem l x := fun x => by rw [← hm1'.out, hk]; rfl
    have hmm' := Lib.hid hmm
    clear hk hmm
    by_cases h1 : 1 ≤ v
    case neg =>
      have d1 : decide (1 ≤ v) = false := by simpa using h1
      have hRf : Hid (R = false) := Lib.hid (by rw [hRt.out, ver_false.2 (fun h => h1 h.1)]; rfl)
      go_enter Tryz.func10, Tryz.ntmps10
      go_wp2_with fail
      refine c1.mono ?_
      rintro e w1 ⟨rfl, hb1⟩
      obtain ⟨wa, w2, hwa, st1, hb2, hf2, hs2⟩ := new_fl w1 m1
      have hx2 := Lib.hid (hb1.trans (hb2.mono hb1.size))
      clear c1 hb1 hb2 hf2 hs2
      go_wp2_with fail
      go_ret
      exact ⟨by rw [hRf.out]; rfl, hx2.out⟩
    case pos =>
    have d1 : decide (1 ≤ v) = true := by simpa using h1
    by_cases h2 : v ≤ 200
    case neg =>
      have d2 : decide (v ≤ 200) = false := by simpa using h2
      have hRf : Hid (R = false) := Lib.hid (by rw [hRt.out, ver_false.2 (fun h => h2 h.2)]; rfl)
      go_enter Tryz.func10, Tryz.ntmps10
      go_wp2_with fail
      refine c1.mono ?_
      rintro e w1 ⟨rfl, hb1⟩
      obtain ⟨wa, w2, hwa, st1, hb2, hf2, hs2⟩ := new_fl w1 m1
      have hx2 := Lib.hid (hb1.trans (hb2.mono hb1.size))
      clear c1 hb1 hb2 hf2 hs2
      go_wp2_with fail
      go_ret
      exact ⟨by rw [hRf.out]; rfl, hx2.out⟩
    case pos =>
    have d2 : decide (v ≤ 200) = true := by simpa using h2
    obtain ⟨v, rfl⟩ : ∃ k : Nat, v = k := ⟨v.toNat, by omega⟩
    have hRf : Hid (R = m1 v) := Lib.hid (by rw [hRt.out, ver_true.2 ⟨h1, h2⟩, hmm'.out]; rfl)
    have hv : v < 201 := by omega
    obtain ⟨V, hV⟩ : ∃ V, m1 v = V := ⟨_, rfl⟩
    go_enter Tryz.func10, Tryz.ntmps10
    go_wp2_with fail
    refine c1.mono ?_
    rintro e w1 ⟨rfl, hb1⟩
    obtain ⟨wa, w2, hwa, st1, hb2, hf2, hs2⟩ := new_fl w1 m1
    have hx2 := Lib.hid (hb1.trans (hb2.mono hb1.size))
    have hcv := hf2.cell hv
    rw [hV] at hcv
    have hV' := Lib.hid hV
    clear c1 hb1 hb2 hf2 hs2 hV
    go_wp2_with fail
    go_ret
    exact ⟨by rw [hRf.out, hV'.out]; cases V <;> rfl, hx2.out⟩

set_option maxHeartbeats 2000000 in
set_option maxRecDepth 100000 in
theorem refof_any (A : Option Addr) (n c : Nat) (l : List Int) (w : World) (hI : Rd w A n c (l.map (Value.int .i64))) :
    Calls Tryz.prog 17 #[.slice A n c] w fun e w' => ∃ A' c', e = .returned (.slice A' (of? l).length c') ∧ OwP w' w.heap.size 41 (.slice A' (of? l).length c') (of? l) ∧ Below w.heap.size w w' := by
  have z0 := fl_zero
  have hlen := hI.len
  have hle := hI.le
  have hm := hI.max
  rw [List.length_map] at hlen
  obtain ⟨R, hR⟩ : ∃ R, of? l = R := ⟨_, rfl⟩
  rw [hR]
  rw [ofg_law] at hR
  have hR' := Lib.hid hR
  have b0 := below_alloc w (.cells (fl fun _ => false) 43)
  have f0 := fb_new w (fun _ => false)
  obtain ⟨w0, hw0⟩ : ∃ w0, w.alloc (.cells (fl fun _ => false) 43) = w0 := ⟨_, rfl⟩
  rw [hw0] at b0 f0
  have hx0 := Lib.hid b0
  have hI' := Lib.hid hI
  have hf0 := Lib.hid f0
  clear hR b0 f0 hI
  go_enter Tryz.func17, Tryz.ntmps17
  go_wp2_with fail
  clear hw0
  go_loopw [4] (fun i wr => ∃ k : Nat, k ≤ n ∧ i = .int .i64 k ∧ Hid (∃ m, Fb wr w.heap.size m ∧ ∀ x : Nat, 1 ≤ x → x ≤ 200 → m x = (l.take k).contains (x : Int)) ∧ Below w.heap.size w wr) (fun i _ => n - (intOf i).toNat)
  case atStart => exact ⟨0, by omega, rfl, Lib.hid ⟨_, hf0.out, fun x _ _ => by simp⟩, hx0.out⟩
  case round =>
    obtain ⟨k, hk, rfl, hm', hbw⟩ := hrel
    obtain ⟨m, hf, hmx⟩ := hm'.out
    by_cases hlt : k < n
    case pos =>
      obtain ⟨b', off, u, rfl, hb, hp, hk1⟩ := (Rd.below hI'.out hbw).at_ hlt
      rw [List.getElem?_map, Option.map_eq_some_iff] at hp
      obtain ⟨v, hv, rfl⟩ := hp
      have hst : l.take (k + 1) = l.take k ++ [v] := take_snoc hv
      by_cases h1 : 1 ≤ v ∧ v ≤ 200
      case neg =>
        have hn' : Hid (∃ m, Fb wr w.heap.size m ∧ ∀ x : Nat, 1 ≤ x → x ≤ 200 → m x = (l.take (k + 1)).contains (x : Int)) := Lib.hid ⟨m, hf, fun x g1 g2 => by
          rw [hmx x g1 g2, hst, Bool.eq_iff_iff]
          simp
          omega⟩
        have hbw' := Lib.hid hbw
        clear hm' hf hmx hst hbw
        by_cases h2 : 1 ≤ v
        · have d1 : decide (1 ≤ v) = true := by simpa using h2
          have d2 : decide (v ≤ 200) = false := by simp; omega
          go_wp2_with fail
          go_roundw
          case rel => exact ⟨k + 1, by omega, by go_num, hn', hbw'.out⟩
          case measure => simp [intOf]; omega
        · have d1 : decide (1 ≤ v) = false := by simpa using h2
          go_wp2_with fail
          go_roundw
          case rel => exact ⟨k + 1, by omega, by go_num, hn', hbw'.out⟩
          case measure => simp [intOf]; omega
      case pos =>
        obtain ⟨v, rfl⟩ : ∃ k : Nat, v = k := ⟨v.toNat, by omega⟩
        have d1 : decide (1 ≤ (v : Int)) = true := by simp; omega
        have d2 : decide ((v : Int) ≤ 200) = true := by simp; omega
        have hv2 : v < 201 := by omega
        have hfz := hf.frozen v
        have hcv := hf.cell hv2
        have hn' : Hid (∃ m', Fb (wr.setCell ⟨w.heap.size, v, none⟩ (.bool true)) w.heap.size m' ∧ ∀ x : Nat, 1 ≤ x → x ≤ 200 → m' x = (l.take (k + 1)).contains (x : Int)) := Lib.hid ⟨_, hf.set v true, fun x g1 g2 => by
          rw [hst]
          by_cases hx : x = v
          · subst hx; simp
          · rw [if_neg hx, hmx x g1 g2, Bool.eq_iff_iff]
            simp
            omega⟩
        have hbw2 := Lib.hid (below_set (i := v) hbw (Nat.le_refl _) (.bool true))
        clear hm' hf hmx hst hbw h1
        go_wp2_with fail
        go_roundw
        case rel => exact ⟨k + 1, by omega, by go_num, hn', hbw2.out⟩
        case measure => simp [intOf]; omega
    case neg =>
      obtain rfl : k = n := by omega
      rw [List.take_of_length_le (by omega)] at hmx
      have hsp : sp m = R := by rw [← hR'.out]; exact sp_congr hmx
      have hsp' := Lib.hid hsp
      have hf' := Lib.hid hf
      have hbw' := Lib.hid hbw
      clear hm' hmx hsp hf hbw
      go_wp2_with fail
      refine wp_load_row 43 _ rfl w.heap.size rfl _ (fl m) _ _ hf'.out Tryz.underlying43 rfl (info_set _) ?_
      have cs := spans_any m wr
      rw [hsp'.out] at cs
      go_wp2_with fail
      refine cs.mono ?_
      rintro e w6 ⟨A6, c6, rfl, ho6, hb6⟩
      have hx6 := Lib.hid (hbw'.out.trans (hb6.mono hbw'.out.size))
      have ho6' := Lib.hid (ho6.mono hbw'.out.size)
      clear ho6 hb6 cs
      go_wp2_with fail
      go_ret
      exact ⟨A6, c6, rfl, ho6'.out, hx6.out⟩

set_option maxHeartbeats 2000000 in
set_option maxRecDepth 100000 in
theorem refcount_any (A : Option Addr) (n c : Nat) (l : List Span) (w : World) (hA : Rp w A n c l) :
    Calls Tryz.prog 6 #[.slice A n c] w fun e w' => e = .returned (.tuple #[.int .i64 (cnt? l), .int .i64 (first? l), .int .i64 (last? l)]) ∧ Below w.heap.size w w' := by
  have z0 := fl_zero
  have fs := fl_size
  have c1 := flags_any A n c l w hA
  rw [count_fl, first_fl, last_fl]
  have hm0 : (fun i : Nat => okB 1 l && mem l ↑i) = fl? l := rfl
  rw [hm0] at c1
  obtain ⟨m, hm1⟩ : ∃ m, fl? l = m := ⟨_, rfl⟩
  rw [hm1] at c1
  rw [hm1]
  obtain ⟨ok, hok⟩ : ∃ ok, okB 1 l = ok := ⟨_, rfl⟩
  rw [hok] at c1
  clear hA hm0 hm1 hok
  go_enter Tryz.func6, Tryz.ntmps6
  go_wp2_with fail
  refine c1.mono ?_
  rintro e w1 ⟨rfl, hb1⟩
  obtain ⟨wa, w2, hwa, st1, hb2, hf2, hs2⟩ := new_fl w1 m
  have hx2 := Lib.hid (hb1.trans (hb2.mono hb1.size))
  have hf2' := Lib.hid hf2
  clear c1 hb1 hb2 hf2 hs2
  go_wp2_with fail
  clear hwa st1
  go_loop [7, 8, 9, 10] (fun cv fv lv v => ∃ k : Nat, k ≤ 200 ∧ v = .int .i64 (k + 1 : Nat) ∧ cv = .int .i64 (card m k : Nat) ∧ fv = .int .i64 (fstTo m k : Nat) ∧ lv = .int .i64 (lstTo m k : Nat)) (fun _ _ _ v => 201 - (intOf v).toNat)
  case atStart => exact ⟨0, by omega, rfl, rfl, rfl, rfl⟩
  case round =>
    obtain ⟨k, hk, rfl, rfl, rfl, rfl⟩ := hrel
    have hcl : card m k ≤ k := by
      have key : ∀ k, card m k ≤ k := fun k => by
        induction k with
        | zero => exact Nat.le_refl _
        | succ k ih => rw [card]; split <;> omega
      exact key k
    by_cases hlt : k < 200
    case pos =>
      have t1 : decide (((k + 1 : Nat) : Int) ≤ 200) = true := by simp; omega
      have hcv := hf2'.out.cell (show k + 1 < 201 by omega)
      have s1 : card m (k + 1) = card m k + (if m (k + 1) = true then 1 else 0) := rfl
      have s2 : fstTo m (k + 1) = if fstTo m k = 0 then (if m (k + 1) then k + 1 else 0) else fstTo m k := rfl
      have s3 : lstTo m (k + 1) = if m (k + 1) then k + 1 else lstTo m k := rfl
      generalize card m k = C at *
      generalize fstTo m k = F at *
      generalize lstTo m k = L at *
      cases hm : m (k + 1) with
      | false =>
        rw [hm] at hcv s1 s2 s3
        have s1' : Hid (card m (k + 1) = C) := Lib.hid (by rw [s1]; simp)
        have s2' : Hid (fstTo m (k + 1) = F) := Lib.hid (by rw [s2]; split <;> simp_all)
        have s3' : Hid (lstTo m (k + 1) = L) := Lib.hid (by rw [s3]; simp)
        clear s1 s2 s3 hm
        go_wp2_with fail
        go_round
        case rel => exact ⟨k + 1, by omega, by go_num, by rw [s1'.out], by rw [s2'.out], by rw [s3'.out]⟩
        case measure => simp [intOf]; omega
      | true =>
        rw [hm] at hcv s1 s2 s3
        have s1' : Hid (card m (k + 1) = C + 1) := Lib.hid (by rw [s1]; simp)
        have s3' : Hid (lstTo m (k + 1) = k + 1) := Lib.hid (by rw [s3]; simp)
        by_cases hF : F = 0
        · have s2' : Hid (fstTo m (k + 1) = k + 1) := Lib.hid (by rw [s2, if_pos hF]; simp)
          subst hF
          clear s1 s2 s3 hm
          go_wp2_with fail
          go_round
          case rel => exact ⟨k + 1, by omega, by go_num, by rw [s1'.out]; go_num, by rw [s2'.out], by rw [s3'.out]⟩
          case measure => simp [intOf]; omega
        · have s2' : Hid (fstTo m (k + 1) = F) := Lib.hid (by rw [s2, if_neg hF])
          have f0 : ((F : Int) == 0) = false := by rw [beq_eq_false_iff_ne]; omega
          clear s1 s2 s3 hm hF
          go_wp2_with fail
          go_round
          case rel => exact ⟨k + 1, by omega, by go_num, by rw [s1'.out]; go_num, by rw [s2'.out], by rw [s3'.out]⟩
          case measure => simp [intOf]; omega
    case neg =>
      obtain rfl : k = 200 := by omega
      go_wp2_with fail
      go_ret3
      exact ⟨rfl, hx2.out⟩
end Go.Proofs.YtppmnelgekhbnaaGreatDoor.IvW
