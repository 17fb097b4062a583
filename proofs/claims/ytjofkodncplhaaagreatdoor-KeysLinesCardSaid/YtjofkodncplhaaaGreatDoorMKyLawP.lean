/- The law KeysParses. -/
import Derived.Test.YtjofkodncplhaaaGreatDoorMKyAwake
import Derived.Test.YtjofkodncplhaaaGreatDoorMKyRp
import Derived.Test.YtjofkodncplhaaaGreatDoorMKyRc
import Derived.Test.YtjofkodncplhaaaGreatDoorMKyFin
namespace Go.Proofs.YtjofkodncplhaaaGreatDoor.Ky
open Go.RowKit UtfW Er

set_option maxHeartbeats 1000000 in
set_option maxRecDepth 100000 in
theorem parses_any (s : ByteArray) (W : World) (hU : Ut W) (hE : En W.heap.size W) (hs0 : s.size ≤ 140737488351232) :
    Calls Tryz.prog 5 #[.string s] W fun e w' => e = .returned (.bool true) ∧ Below W.heap.size W w' := by
  have haw := awake_any W hU hE
  by_cases hbig : 4096 < s.size
  · have j1 : decide ((s.size : Int) > 4096) = true := by rw [decide_eq_true_eq]; omega
    have j2 : decide (4096 < s.size) = true := by rw [decide_eq_true_eq]; omega
    clear hbig
    go_enter Tryz.func5, Tryz.ntmps5
    go_wp2_with fail
    refine haw.mono ?_
    rintro e w1 ⟨rfl, hb1⟩
    have hx1 := Lib.hid hb1
    clear hb1 haw
    go_wp2_with fail
    go_ret
    exact ⟨rfl, hx1.out⟩
  · have j1 : decide ((s.size : Int) > 4096) = false := by rw [decide_eq_false_iff_not]; omega
    have j2 : decide (4096 < s.size) = false := by rw [decide_eq_false_iff_not]; omega
    have hs : s.size ≤ 4096 := by omega
    have hp := fun w hw => Parse_any s (by omega) w (hU.below hw)
    have hrp := refParse_any s (by omega)
    unfold ParP at hp
    unfold RParP at hrp
    have hat := parse_at (nm := nameR) (l := split 10 (lns s.data.toList)) (n := 0) (out := [])
    have hmay := parse_may (nm := nameR) (l := split 10 (lns s.data.toList)) (n := 0) (out := []) rfl (by simp)
    have hsm := parse_small (nm := nameR) (M := 4096) (l := split 10 (lns s.data.toList)) (n := 0) (out := []) (fun x hx => by
      have h1 := split_small 10 _ x hx
      have h2 := Utf.lines_len s.data.toList
      rw [Array.length_toList] at h2
      rw [lns_eq] at h1
      exact Nat.le_trans h1 (Nat.le_trans h2 hs)) (fun r hr => by cases hr)
    obtain ⟨Z, hZ⟩ : ∃ Z, parseL nameR (split 10 (lns s.data.toList)) 0 [] = Z := ⟨_, rfl⟩
    simp only [hZ] at hp hrp hat hmay hsm
    clear hZ
    obtain ⟨l, cd, pl⟩ := Z
    simp only at hp hrp hat hmay hsm
    have hp' := Lib.hid hp
    have hrp' := Lib.hid hrp
    have hat' := Lib.hid hat
    have hmay' := Lib.hid hmay
    have hsm' := Lib.hid hsm
    clear hp hrp hat hmay hsm hbig
    go_enter Tryz.func5, Tryz.ntmps5
    go_wp2_with fail
    refine haw.mono ?_
    rintro e w1 ⟨rfl, hb1⟩
    have hx1 := Lib.hid hb1
    clear hb1 haw
    go_wp2_with fail
    refine (hp'.out w1 hx1.out).mono ?_
    rintro e w2 ⟨A, c, er, rfl, hb2, hr2, her⟩
    have hx2 := Lib.hid (hx1.out.trans (hb2.mono hx1.out.size))
    have hr2' := Lib.hid hr2
    have her' := Lib.hid her
    clear hb2 hr2 her
    go_wp2_with fail
    refine (hrp'.out w2).mono ?_
    rintro e w3 ⟨A', c', rfl, hb3, hr3⟩
    have hx3 := Lib.hid (hx2.out.trans (hb3.mono hx2.out.size))
    have hr23 := Lib.hid (hr2'.out.below hb3)
    have hr3' := Lib.hid hr3
    rcases her'.out with ⟨h0, rfl⟩ | ⟨h0, he⟩
    · have hpl := hat'.out h0
      subst h0
      subst hpl
      have hm := Lib.hid (hmay'.out rfl)
      clear hb3 hr2' hr3 her' hat' hmay'
      go_wp2_with fail
      refine (Code_ok w3).mono ?_
      rintro e w4 ⟨rfl, hb4⟩
      have hx4 := Lib.hid (hx3.out.trans (hb4.mono hx3.out.size))
      have hr24 := Lib.hid (hr23.out.below hb4)
      have hr34 := Lib.hid (hr3'.out.below hb4)
      clear hb4 hr23 hr3'
      go_wp2_with fail
      refine (At_ok w4).mono ?_
      rintro e w5 ⟨rfl, hb5⟩
      have hx5 := Lib.hid (hx4.out.trans (hb5.mono hx4.out.size))
      have hr25 := Lib.hid (hr24.out.below hb5)
      have hr35 := Lib.hid (hr34.out.below hb5)
      clear hb5 hr24 hr34
      have hru := refRules_any A l.length c l A' l.length c' l w5 hr25.out hr35.out
      rw [decide_eq_true (rfl : l = l)] at hru
      go_wp2_with fail
      refine hru.mono ?_
      rintro e w6 ⟨rfl, hb6⟩
      have hx6 := Lib.hid (hx5.out.trans (hb6.mono hx5.out.size))
      have hma := May_any A l.length c l w6 (hr25.out.below hb6) (hU.below hx6.out) (fun r hr => smr_mono (hsm'.out r hr) (by decide))
      rw [hm.out] at hma
      clear hb6 hru
      go_wp2_with fail
      refine hma.mono ?_
      rintro e w7 ⟨rfl, hb7⟩
      have hx7 := Lib.hid (hx6.out.trans (hb7.mono hx6.out.size))
      clear hb7 hma
      go_wp2_with fail
      go_ret
      exact ⟨rfl, hx7.out⟩
    · have hne : (cd == 0) = false := by rw [beq_eq_false_iff_ne]; exact h0
      have he3 := Lib.hid (he.below hb3)
      obtain ⟨b1, b2, rfl, _⟩ := he
      clear hb3 hr2' hr3 her' hat' hmay'
      go_wp2_with fail
      refine (Code_any cd pl [keysT] _ W.heap.size w3 (hE.on hx3.out) he3.out.fe).mono ?_
      rintro e w4 ⟨rfl, hb4⟩
      have hx4 := Lib.hid (hx3.out.trans (hb4.mono hx3.out.size))
      have hr24 := Lib.hid (hr23.out.below hb4)
      have hr34 := Lib.hid (hr3'.out.below hb4)
      have he4 := Lib.hid (he3.out.below hb4)
      clear hb4 hr23 hr3' he3
      go_wp2_with fail
      refine (At_any cd pl [keysT] _ W.heap.size w4 (hE.on hx4.out) he4.out.fe).mono ?_
      rintro e w5 ⟨rfl, hb5⟩
      have hx5 := Lib.hid (hx4.out.trans (hb5.mono hx4.out.size))
      have hr25 := Lib.hid (hr24.out.below hb5)
      have hr35 := Lib.hid (hr34.out.below hb5)
      clear hb5 hr24 hr34 he4
      have hru := refRules_any A l.length c l A' l.length c' l w5 hr25.out hr35.out
      rw [decide_eq_true (rfl : l = l)] at hru
      go_wp2_with fail
      refine hru.mono ?_
      rintro e w6 ⟨rfl, hb6⟩
      have hx6 := Lib.hid (hx5.out.trans (hb6.mono hx5.out.size))
      clear hb6 hru
      go_wp2_with fail
      go_ret
      exact ⟨by first | rfl | simp [hne], hx6.out⟩
end Go.Proofs.YtjofkodncplhaaaGreatDoor.Ky
