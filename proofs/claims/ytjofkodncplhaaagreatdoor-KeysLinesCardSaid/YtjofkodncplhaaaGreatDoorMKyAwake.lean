/- The laws over keys: awake. -/
import Derived.Test.YtjofkodncplhaaaGreatDoorMKyParse
import Derived.Test.YtjofkodncplhaaaGreatDoorMKyFront
import Derived.Test.YtjofkodncplhaaaGreatDoorMErrWalk2
namespace Go.Proofs.YtjofkodncplhaaaGreatDoor.Ky
open Go.RowKit UtfW Er

theorem ParP.ok {s : Tx} {w w' : World} {e : Ending} {l : List Rl} (h : ParP s w e w') (hl : parseL nameR (split 10 (lns s)) 0 [] = (l, 0, 0)) :
    ∃ A c, e = .returned (.tuple #[.slice A l.length c, .nilIface]) ∧ Below w.heap.size w w' ∧ Rs w' A l.length c l := by
  obtain ⟨A, c, er, h1, h2, h3, h4⟩ := h
  rw [hl] at h1 h3 h4
  rcases h4 with ⟨_, rfl⟩ | ⟨h, _⟩
  · exact ⟨A, c, h1, h2, h3⟩
  · exact absurd rfl h
theorem ParP.no {s : Tx} {w w' : World} {e : Ending} {l : List Rl} {cd : Int} {pl : Nat} (h : ParP s w e w') (hl : parseL nameR (split 10 (lns s)) 0 [] = (l, cd, pl)) (hc : cd ≠ 0) :
    ∃ A c er, e = .returned (.tuple #[.slice A l.length c, er]) ∧ Below w.heap.size w w' ∧ Rs w' A l.length c l ∧ ErrB w' cd pl er := by
  obtain ⟨A, c, er, h1, h2, h3, h4⟩ := h
  rw [hl] at h1 h3 h4
  rcases h4 with ⟨h, _⟩ | ⟨_, h⟩
  · exact absurd h hc
  · exact ⟨A, c, er, h1, h2, h3, h⟩
theorem ErrB.below {w w' : World} {code at_ : Int} {e : Value} (h : ErrB w code at_ e) (hb : Below w.heap.size w w') : ErrB w' code at_ e := h.kept (grown_of_below hb) (fun r e => by cases e)
theorem ts_lit2 (w : World) (s1 s2 : ByteArray) (t1 t2 : Tx) (E : TypeId) (fr : Nat × Nat) (h1 : s1 = strOf t1) (h2 : s2 = strOf t2) : Ts (w.alloc (.cells #[.string s1, .string s2] E fr)) (some ⟨w.heap.size, 0, none⟩) 2 2 [t1, t2] := by
  subst h1; subst h2
  refine ⟨rfl, by omega, by omega, fun h => by simp at h, fun _ => ⟨_, _, rfl, by simp, fun j u hu => ?_⟩⟩
  have hh : (w.alloc (.cells #[.string (strOf t1), .string (strOf t2)] E fr)).heap[w.heap.size]? = some (.cells #[.string (strOf t1), .string (strOf t2)] E fr) := heap_alloc_new w _
  simp only [World.cell?, hh, Nat.zero_add]
  simpa using hu
theorem Parse_any (s : ByteArray) (hs : s.size ≤ 900000) (w : World) (hU : Ut w) :
    Calls Tryz.prog 15 #[.string s] w (ParP s.data.toList w) := callsIn_wide.1 (Parse_in s hs w hU)

def aw1 : Tx := [47, 100, 98, 32, 123, 125, 10, 47, 100, 98, 47, 101, 109, 112, 32, 123, 110, 97, 109, 101, 44, 32, 64, 105, 100, 125]
def aw2 : Tx := [47, 100, 98, 32, 123, 125, 10, 10, 47, 120, 32, 123, 125]
def rl1 : List Rl := [([[100, 98]], []), ([[100, 98], [101, 109, 112]], [[110, 97, 109, 101], [64, 105, 100]])]
theorem aw1_eq : parseL nameR (split 10 (lns aw1)) 0 [] = (rl1, 0, 0) := by decide +kernel
theorem aw2_eq : parseL nameR (split 10 (lns aw2)) 0 [] = ([], 21, 3) := by decide +kernel

set_option maxHeartbeats 1000000 in
set_option maxRecDepth 100000 in
theorem awake_any (w : World) (hU : Ut w) (hE : En w.heap.size w) :
    Calls Tryz.prog 8 #[] w fun e w' => e = .returned (.bool true) ∧ Below w.heap.size w w' := by
  go_enter Tryz.func8, Tryz.ntmps8
  go_wp2_with fail
  refine (Parse_any _ (by decide) w hU).mono ?_
  intro e w1 h1
  obtain ⟨A, c, rfl, hb1, hr1⟩ := h1.ok aw1_eq
  have hx1 := Lib.hid hb1
  have hr1' := Lib.hid hr1
  clear hb1 h1 hr1
  go_wp2_with fail
  refine (Parse_any _ (by decide) w1 (hU.below hx1.out)).mono ?_
  intro e w2 h2
  obtain ⟨A', c', er, rfl, hb2, _, he2⟩ := h2.no aw2_eq (by decide)
  have hx2 := Lib.hid (hx1.out.trans (hb2.mono hx1.out.size))
  have hr2 := Lib.hid (hr1'.out.below hb2)
  have he2' := Lib.hid he2
  obtain ⟨b1, b2, rfl, _⟩ := he2
  clear hb2 h2 hr1'
  obtain ⟨b, off, r, A3, n3, c3, A4, n4, c4, rfl, hbl, hr, t3, t4, k0, k1⟩ := Rs.at_ hr2.out (i := 1) (by decide)
  obtain rfl : ([[100, 98], [101, 109, 112]], [[110, 97, 109, 101], [64, 105, 100]]) = r := by injection hr
  obtain rfl : 2 = n4 := t4.len
  have t3' := Lib.hid t3
  clear hr t3 t4
  simp only [Nat.one_mul] at k0 k1
  have hF1 : frontB rl1 [[100, 98], [101, 109, 112]] = true := by decide
  have hF2 : frontB rl1 [[100, 98]] = false := by decide
  have hbA := below_alloc w2 (.cells #[.string ⟨#[100, 98]⟩, .string ⟨#[101, 109, 112]⟩] 9)
  have hL2 := ts_lit2 w2 ⟨#[100, 98]⟩ ⟨#[101, 109, 112]⟩ [100, 98] [101, 109, 112] 9 (0, 0) rfl rfl
  have hfr := Lib.hid (Front_any (some ⟨b, off, none⟩) rl1.length c rl1 _ 2 2 [[100, 98], [101, 109, 112]] _ (hr2.out.below hbA) hL2)
  rw [hF1] at hfr
  have hbA' := Lib.hid hbA
  clear hbA hL2 hF1
  go_wp2_with fail
  refine hfr.out.mono ?_
  rintro e w3 ⟨rfl, hb3⟩
  have hx3 := Lib.hid (hx2.out.trans ((hbA'.out.trans (hb3.mono hbA'.out.size)).mono hx2.out.size))
  have he3 := Lib.hid ((he2'.out.below hbA'.out).below hb3)
  have hr3 := (hr2.out.below hbA'.out).below hb3
  have hbB := below_alloc w3 (.cells #[.string ⟨#[100, 98]⟩] 9)
  have hL3 := ts_lit w3 ⟨#[100, 98]⟩ [100, 98] 9 (0, 0) rfl
  have hfr2 := Lib.hid (Front_any (some ⟨b, off, none⟩) rl1.length c rl1 _ 1 1 [[100, 98]] _ (hr3.below hbB) hL3)
  rw [hF2] at hfr2
  have hbB' := Lib.hid hbB
  clear hbB hL3 hF2 hb3 hfr hbA' he2' hr3 k0 k1
  go_wp2_with fail
  refine hfr2.out.mono ?_
  rintro e w4 ⟨rfl, hb4⟩
  have hx4 := Lib.hid (hx3.out.trans ((hbB'.out.trans (hb4.mono hbB'.out.size)).mono hx3.out.size))
  have he4 := Lib.hid ((he3.out.below hbB'.out).below hb4)
  clear hb4 hfr2 hbB' he3
  go_wp2_with fail
  refine (Code_any 21 3 [keysT] _ w.heap.size w4 (hE.on hx4.out) he4.out.fe).mono ?_
  rintro e w5 ⟨rfl, hb5⟩
  have hx5 := Lib.hid (hx4.out.trans (hb5.mono hx4.out.size))
  have he5 := Lib.hid (he4.out.below hb5)
  clear hb5 he4
  go_wp2_with fail
  refine (At_any 21 3 [keysT] _ w.heap.size w5 (hE.on hx5.out) he5.out.fe).mono ?_
  rintro e w6 ⟨rfl, hb6⟩
  have hx6 := Lib.hid (hx5.out.trans (hb6.mono hx5.out.size))
  clear hb6 he5
  go_wp2_with fail
  go_ret
  exact ⟨rfl, hx6.out⟩
end Go.Proofs.YtjofkodncplhaaaGreatDoor.Ky
