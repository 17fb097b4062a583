/- What the rows' list gives, and a world that meets it. -/
import Derived.Test.YtokdnhdfmgfkeaaGreatDoorVXpRc
import Derived.Test.YtokdnhdfmgfkeaaGreatDoorVXlValues
import Derived.Test.YtokdnhdfmgfkeaaGreatDoorRows
import Derived.Lib.LaidU8T
import Derived.LaidLaws
import Derived.LaidHandle
import Derived.LaidSub
import Derived.Lib.LaidTab
import Derived.Lib.LaidIn
import Derived.Lib.LaidCase
import Derived.Great.CaseRows
import Derived.Shelf.Strings.SplitShaped
section
namespace Go.Proofs.YtokdnhdfmgfkeaaGreatDoor.Xp
open Go.RowKit UtfW Xl Xo Xt Er

def xnd (t s : Tx) : Nd := .mk 1 [97] [] [([120], t)] (if s = [] then [] else [.mk 2 [] s [] []])
theorem esc_le6 (v : Bool) : ∀ s : Tx, (esc v s).length ≤ 6 * s.length
 | [] => by simp [esc]
 | c :: s => by
  have h1 := esc_le6 v s
  have h2 : (esc1 v c).length ≤ 6 := by
   unfold esc1
   repeat' split
   all_goals simp
  rw [esc, List.length_append, List.length_cons]
  omega
theorem xnd_sm {t s : Tx} (ht : t.length ≤ 2000) (hs : s.length ≤ 2000) : smN (xnd t s) := by
 unfold xnd
 rw [smN]
 refine ⟨by decide, by decide, ⟨by simp, fun a ha => ?_⟩, ?_⟩
 ·rw [List.mem_singleton] at ha
  subst ha
  exact ⟨by simp, show t.length ≤ 1000000 by omega⟩
 ·split
  ·rw [smL]; trivial
  ·rw [smL, smN, smL]
   exact ⟨⟨by decide, by omega, ⟨by decide, fun a ha => by cases ha⟩, trivial⟩, trivial⟩
theorem xnd_may {t s : Tx} (ht : t.length ≤ 2000) (hs : s.length ≤ 2000) (hf : fairN (xnd t s) = true) : mayD ⟨[], xnd t s, []⟩ = true := by
 have hd : depthN (xnd t s) ≤ 32 := by
  unfold xnd
  split
  ·simp [depthN, depthL]
  ·simp [depthN, depthL]
 have hc : countN (xnd t s) ≤ 4096 := by
  unfold xnd
  split
  ·simp [countN, countL]
  ·simp [countN, countL]
 have hl : (writeD ⟨[], xnd t s, []⟩).length ≤ 65536 := by
  have h1 := esc_le6 true t
  have h2 := esc_le6 false s
  unfold writeD xnd
  simp only [writeL, List.nil_append, List.append_nil]
  rw [writeN, if_pos rfl]
  split
  ·simp [writeA]
   omega
  ·simp [writeA, writeL, writeN]
   omega
 unfold mayD
 simp only [Bool.and_eq_true, decide_eq_true_eq]
 refine ⟨⟨⟨⟨⟨⟨?_, hf⟩, rfl⟩, rfl⟩, hd⟩, ?_⟩, hl⟩
 ·rfl
 ·simpa using hc
theorem DocI.root_ {X : Nat → Prop} {w : World} {a0 v0 v1 v2 v3 v4 a1 : Value} {d : Doc} (h : DocI X w (.agg #[a0, v0, v1, v2, v3, v4, a1]) d) : NdI X w [v0, v1, v2, v3, v4] d.root := by
 obtain ⟨A1, c1, r0, r1, r2, r3, r4, A2, c2, e, h1, h2, h3, h4, h5⟩ := h
 injection e with e
 have e := congrArg Array.toList e
 simp only [List.cons.injEq] at e
 obtain ⟨-, rfl, rfl, rfl, rfl, rfl, -⟩ := e
 exact h3
theorem str_ne0 {s : Tx} : (strOf s).toList.isEmpty = s.isEmpty := strOf_empty s
theorem world_nil (w1 : World) (s t : Tx) (hs : s = []) : Below w1.heap.size w1 ((w1.alloc (.cells #[.string ⟨#[120]⟩, .string (strOf t)] 55)).alloc (.cells #[.int .i64 1, .string ⟨#[97]⟩, .string ⟨#[]⟩, .slice (some ⟨w1.heap.size, 0, none⟩) 1 1, .slice none 0 0] 25)) ∧ ((w1.alloc (.cells #[.string ⟨#[120]⟩, .string (strOf t)] 55)).alloc (.cells #[.int .i64 1, .string ⟨#[97]⟩, .string ⟨#[]⟩, .slice (some ⟨w1.heap.size, 0, none⟩) 1 1, .slice none 0 0] 25)).heap[w1.heap.size + 1]? = some (.cells #[.int .i64 1, .string ⟨#[97]⟩, .string ⟨#[]⟩, .slice (some ⟨w1.heap.size, 0, none⟩) 1 1, .slice none 0 0] 25) ∧ NdI (fun k => k < ((w1.alloc (.cells #[.string ⟨#[120]⟩, .string (strOf t)] 55)).alloc (.cells #[.int .i64 1, .string ⟨#[97]⟩, .string ⟨#[]⟩, .slice (some ⟨w1.heap.size, 0, none⟩) 1 1, .slice none 0 0] 25)).heap.size) ((w1.alloc (.cells #[.string ⟨#[120]⟩, .string (strOf t)] 55)).alloc (.cells #[.int .i64 1, .string ⟨#[97]⟩, .string ⟨#[]⟩, .slice (some ⟨w1.heap.size, 0, none⟩) 1 1, .slice none 0 0] 25)) [.int .i64 1, .string ⟨#[97]⟩, .string ⟨#[]⟩, .slice (some ⟨w1.heap.size, 0, none⟩) 1 1, .slice none 0 0] (xnd t s) := by
 have b1 := below_alloc w1 (.cells #[.string ⟨#[120]⟩, .string (strOf t)] 55)
 have s1 : Sq AtEl 2 (w1.alloc (.cells #[.string ⟨#[120]⟩, .string (strOf t)] 55)) (some ⟨w1.heap.size, 0, none⟩) 1 1 [([120], t)] := sq_one w1 [.string ⟨#[120]⟩, .string (strOf t)] ([120], t) 55 (0, 0) rfl rfl
 have z1 : (w1.alloc (.cells #[.string ⟨#[120]⟩, .string (strOf t)] 55)).heap.size = w1.heap.size + 1 := World.size_alloc _ _
 have b2 := below_alloc (w1.alloc (.cells #[.string ⟨#[120]⟩, .string (strOf t)] 55)) (.cells #[.int .i64 1, .string ⟨#[97]⟩, .string ⟨#[]⟩, .slice (some ⟨w1.heap.size, 0, none⟩) 1 1, .slice none 0 0] 25)
 have n2 := heap_alloc_new (w1.alloc (.cells #[.string ⟨#[120]⟩, .string (strOf t)] 55)) (.cells #[.int .i64 1, .string ⟨#[97]⟩, .string ⟨#[]⟩, .slice (some ⟨w1.heap.size, 0, none⟩) 1 1, .slice none 0 0] 25)
 have z2 : ((w1.alloc (.cells #[.string ⟨#[120]⟩, .string (strOf t)] 55)).alloc (.cells #[.int .i64 1, .string ⟨#[97]⟩, .string ⟨#[]⟩, .slice (some ⟨w1.heap.size, 0, none⟩) 1 1, .slice none 0 0] 25)).heap.size = (w1.alloc (.cells #[.string ⟨#[120]⟩, .string (strOf t)] 55)).heap.size + 1 := World.size_alloc _ _
 rw [z1] at n2 z2
 refine ⟨b1.trans (b2.mono b1.size), n2, ?_⟩
 unfold xnd
 rw [if_pos hs]
 exact NdI.make (nm := [97]) (tx := []) (as_ := [([120], t)]) (ks := []) (s1.below AtEl.to b2) (fun a e _ => by
  injection e with e
  rw [← e, z2]
  show w1.heap.size < _
  omega) (Sq.none_ _) (fun a e => by cases e)
theorem world_cons (w1 : World) (s t : Tx) (hs : s ≠ []) : Below w1.heap.size w1 (((w1.alloc (.cells #[.string ⟨#[120]⟩, .string (strOf t)] 55)).alloc (.cells #[.int .i64 1, .string ⟨#[97]⟩, .string ⟨#[]⟩, .slice (some ⟨w1.heap.size, 0, none⟩) 1 1, .slice (some ⟨w1.heap.size + 1 + 1, 0, none⟩) 1 1] 25)).alloc (.cells #[.int .i64 2, .string ⟨#[]⟩, .string (strOf s), .slice none 0 0, .slice none 0 0] 25)) ∧ (((w1.alloc (.cells #[.string ⟨#[120]⟩, .string (strOf t)] 55)).alloc (.cells #[.int .i64 1, .string ⟨#[97]⟩, .string ⟨#[]⟩, .slice (some ⟨w1.heap.size, 0, none⟩) 1 1, .slice (some ⟨w1.heap.size + 1 + 1, 0, none⟩) 1 1] 25)).alloc (.cells #[.int .i64 2, .string ⟨#[]⟩, .string (strOf s), .slice none 0 0, .slice none 0 0] 25)).heap[w1.heap.size + 1]? = some (.cells #[.int .i64 1, .string ⟨#[97]⟩, .string ⟨#[]⟩, .slice (some ⟨w1.heap.size, 0, none⟩) 1 1, .slice (some ⟨w1.heap.size + 1 + 1, 0, none⟩) 1 1] 25) ∧ NdI (fun k => k < (((w1.alloc (.cells #[.string ⟨#[120]⟩, .string (strOf t)] 55)).alloc (.cells #[.int .i64 1, .string ⟨#[97]⟩, .string ⟨#[]⟩, .slice (some ⟨w1.heap.size, 0, none⟩) 1 1, .slice (some ⟨w1.heap.size + 1 + 1, 0, none⟩) 1 1] 25)).alloc (.cells #[.int .i64 2, .string ⟨#[]⟩, .string (strOf s), .slice none 0 0, .slice none 0 0] 25)).heap.size) (((w1.alloc (.cells #[.string ⟨#[120]⟩, .string (strOf t)] 55)).alloc (.cells #[.int .i64 1, .string ⟨#[97]⟩, .string ⟨#[]⟩, .slice (some ⟨w1.heap.size, 0, none⟩) 1 1, .slice (some ⟨w1.heap.size + 1 + 1, 0, none⟩) 1 1] 25)).alloc (.cells #[.int .i64 2, .string ⟨#[]⟩, .string (strOf s), .slice none 0 0, .slice none 0 0] 25)) [.int .i64 1, .string ⟨#[97]⟩, .string ⟨#[]⟩, .slice (some ⟨w1.heap.size, 0, none⟩) 1 1, .slice (some ⟨w1.heap.size + 1 + 1, 0, none⟩) 1 1] (xnd t s) := by
 have b1 := below_alloc w1 (.cells #[.string ⟨#[120]⟩, .string (strOf t)] 55)
 have s1 : Sq AtEl 2 (w1.alloc (.cells #[.string ⟨#[120]⟩, .string (strOf t)] 55)) (some ⟨w1.heap.size, 0, none⟩) 1 1 [([120], t)] := sq_one w1 [.string ⟨#[120]⟩, .string (strOf t)] ([120], t) 55 (0, 0) rfl rfl
 have z1 : (w1.alloc (.cells #[.string ⟨#[120]⟩, .string (strOf t)] 55)).heap.size = w1.heap.size + 1 := World.size_alloc _ _
 have b2 := below_alloc (w1.alloc (.cells #[.string ⟨#[120]⟩, .string (strOf t)] 55)) (.cells #[.int .i64 1, .string ⟨#[97]⟩, .string ⟨#[]⟩, .slice (some ⟨w1.heap.size, 0, none⟩) 1 1, .slice (some ⟨w1.heap.size + 1 + 1, 0, none⟩) 1 1] 25)
 have n2 := heap_alloc_new (w1.alloc (.cells #[.string ⟨#[120]⟩, .string (strOf t)] 55)) (.cells #[.int .i64 1, .string ⟨#[97]⟩, .string ⟨#[]⟩, .slice (some ⟨w1.heap.size, 0, none⟩) 1 1, .slice (some ⟨w1.heap.size + 1 + 1, 0, none⟩) 1 1] 25)
 have z2 : ((w1.alloc (.cells #[.string ⟨#[120]⟩, .string (strOf t)] 55)).alloc (.cells #[.int .i64 1, .string ⟨#[97]⟩, .string ⟨#[]⟩, .slice (some ⟨w1.heap.size, 0, none⟩) 1 1, .slice (some ⟨w1.heap.size + 1 + 1, 0, none⟩) 1 1] 25)).heap.size = (w1.alloc (.cells #[.string ⟨#[120]⟩, .string (strOf t)] 55)).heap.size + 1 := World.size_alloc _ _
 rw [z1] at n2 z2
 generalize hw2 : (w1.alloc (.cells #[.string ⟨#[120]⟩, .string (strOf t)] 55)).alloc (.cells #[.int .i64 1, .string ⟨#[97]⟩, .string ⟨#[]⟩, .slice (some ⟨w1.heap.size, 0, none⟩) 1 1, .slice (some ⟨w1.heap.size + 1 + 1, 0, none⟩) 1 1] 25) = w2 at b2 n2 z2 ⊢
 have b3 := below_alloc w2 (.cells #[.int .i64 2, .string ⟨#[]⟩, .string (strOf s), .slice none 0 0, .slice none 0 0] 25)
 have z3 : (w2.alloc (.cells #[.int .i64 2, .string ⟨#[]⟩, .string (strOf s), .slice none 0 0, .slice none 0 0] 25)).heap.size = w2.heap.size + 1 := World.size_alloc _ _
 have s3 : Sq (NdE (fun k => k < w1.heap.size + 1 + 1 + 1)) 5 (w2.alloc (.cells #[.int .i64 2, .string ⟨#[]⟩, .string (strOf s), .slice none 0 0, .slice none 0 0] 25)) (some ⟨w2.heap.size, 0, none⟩) 1 1 [Nd.mk 2 [] s [] []] :=
  sq_one w2 [.int .i64 2, .string ⟨#[]⟩, .string (strOf s), .slice none 0 0, .slice none 0 0] (Nd.mk 2 [] s [] []) 25 (0, 0) rfl (NdI.make (nm := []) (tx := s) (as_ := []) (ks := []) (Sq.none_ _) (fun a e => by cases e) (Sq.none_ _) (fun a e => by cases e))
 rw [z2] at s3 z3
 have b13 := b2.trans (b3.mono b2.size)
 refine ⟨b1.trans (b13.mono b1.size), (b3.block _ (by rw [z2]; omega)).trans n2, ?_⟩
 rw [z3]
 unfold xnd
 rw [if_neg hs]
 exact NdI.make (nm := [97]) (tx := []) (as_ := [([120], t)]) (ks := [Nd.mk 2 [] s [] []]) (s1.below AtEl.to b13) (fun a e _ => by
  injection e with e
  rw [← e]
  show w1.heap.size < _
  omega) s3 (fun a e _ => by
  injection e with e
  rw [← e]
  show w1.heap.size + 1 + 1 < _
  omega)
set_option maxHeartbeats 8000000 in
set_option maxRecDepth 100000 in
theorem texts_law (w : World) (hU : Un w) (hE : En w.heap.size w) (s t : Tx) :
  Calls Tryz.prog 10 #[.string (strOf s), .string (strOf t)] w fun e w' => e = .returned (.bool true) ∧ Below w.heap.size w w' := by
 have haw := Lib.hid (awake11 w hU hE)
 have hs9 : (strOf s).size = s.length := strOf_size' s
 have ht9 : (strOf t).size = t.length := strOf_size' t
 obtain ⟨ls, hls⟩ : ∃ n, s.length = n := ⟨_, rfl⟩
 obtain ⟨lt, hlt⟩ : ∃ n, t.length = n := ⟨_, rfl⟩
 rw [hls] at hs9
 rw [hlt] at ht9
 by_cases hb1 : 2000 < ls
 ·have g1 : decide ((ls : Int) > 2000) = true := by simp; omega
  have g2 : decide ((2000 : Int) < (ls : Int)) = true := by simp; omega
  clear hU hE hls hlt
  go_enter Tryz.func10, Tryz.ntmps10
  go_wp2_with fail
  refine haw.out.mono ?_
  rintro e9 w1 ⟨rfl, hb9⟩
  replace hb9 := Lib.hid hb9
  go_wp2_with fail
  go_ret
  exact ⟨rfl, hb9.out⟩
 have g1 : decide ((ls : Int) > 2000) = false := by simp; omega
 have g2 : decide ((2000 : Int) < (ls : Int)) = false := by simp; omega
 by_cases hb2 : 2000 < lt
 ·have g3 : decide ((lt : Int) > 2000) = true := by simp; omega
  have g4 : decide ((2000 : Int) < (lt : Int)) = true := by simp; omega
  clear hU hE hls hlt
  go_enter Tryz.func10, Tryz.ntmps10
  go_wp2_with fail
  refine haw.out.mono ?_
  rintro e9 w1 ⟨rfl, hb9⟩
  replace hb9 := Lib.hid hb9
  go_wp2_with fail
  go_ret
  exact ⟨rfl, hb9.out⟩
 have g3 : decide ((lt : Int) > 2000) = false := by simp; omega
 have g4 : decide ((2000 : Int) < (lt : Int)) = false := by simp; omega
 have hsm := Lib.hid (xnd_sm (t := t) (s := s) (by omega) (by omega))
 have hmay : Hid (fairN (xnd t s) = true → mayD ⟨[], xnd t s, []⟩ = true) := Lib.hid (xnd_may (by omega) (by omega))
 replace hU := Lib.hid hU
 replace hE := Lib.hid hE
 clear hls hlt
 by_cases hs0 : s = []
 ·have e1 : (strOf s).toList.isEmpty = true := by rw [str_ne0, hs0]; rfl
  replace hs0 := Lib.hid hs0
  go_enter Tryz.func10, Tryz.ntmps10
  go_wp2_with fail
  refine haw.out.mono ?_
  rintro e9 w1 ⟨rfl, hb1⟩
  replace hb1 := Lib.hid hb1
  clear haw
  obtain ⟨hbw, hnb, hnd⟩ := world_nil w1 s t hs0.out
  have hx5 := Lib.hid (hb1.out.trans (hbw.mono hb1.out.size))
  replace hnd : Hid (∀ y, Below ((w1.alloc (.cells #[.string ⟨#[120]⟩, .string (strOf t)] 55)).alloc (.cells #[.int .i64 1, .string ⟨#[97]⟩, .string ⟨#[]⟩, .slice (some ⟨w1.heap.size, 0, none⟩) 1 1, .slice none 0 0] 25)).heap.size ((w1.alloc (.cells #[.string ⟨#[120]⟩, .string (strOf t)] 55)).alloc (.cells #[.int .i64 1, .string ⟨#[97]⟩, .string ⟨#[]⟩, .slice (some ⟨w1.heap.size, 0, none⟩) 1 1, .slice none 0 0] 25)) y → NdI (fun k => k < ((w1.alloc (.cells #[.string ⟨#[120]⟩, .string (strOf t)] 55)).alloc (.cells #[.int .i64 1, .string ⟨#[97]⟩, .string ⟨#[]⟩, .slice (some ⟨w1.heap.size, 0, none⟩) 1 1, .slice none 0 0] 25)).heap.size) y [.int .i64 1, .string ⟨#[97]⟩, .string ⟨#[]⟩, .slice (some ⟨w1.heap.size, 0, none⟩) 1 1, .slice none 0 0] (xnd t s)) := Lib.hid fun y hy => hnd.later (fun k hk => hk) hy
  replace hnb := Lib.hid hnb
  clear hbw hb1
  go_upto_region 8 with fail
  change Code.wp _ _ _ _ ((w1.alloc (.cells #[.string ⟨#[120]⟩, .string (strOf t)] 55)).alloc (.cells #[.int .i64 1, .string ⟨#[97]⟩, .string ⟨#[]⟩, .slice (some ⟨w1.heap.size, 0, none⟩) 1 1, .slice none 0 0] 25))
  generalize ((w1.alloc (.cells #[.string ⟨#[120]⟩, .string (strOf t)] 55)).alloc (.cells #[.int .i64 1, .string ⟨#[97]⟩, .string ⟨#[]⟩, .slice (some ⟨w1.heap.size, 0, none⟩) 1 1, .slice none 0 0] 25)) = W at hx5 hnd hnb ⊢
  generalize (Value.slice (some ⟨w1.heap.size, 0, none⟩) 1 1) = V3 at hnd hnb ⊢
  generalize (Value.slice none 0 0) = V4 at hnd hnb ⊢
  generalize w1.heap.size + 1 = N at hnb ⊢
  generalize xnd t s = nd at hnd hsm hmay
  have hbnd : Hid (∀ y, Below W.heap.size W y → ∀ j, j < W.heap.size → j < y.heap.size) := Lib.hid fun y hy j hj => Nat.lt_of_lt_of_le hj hy.size
  have hrf := Lib.hid (rFair_any _ _ nd (Nat.le_refl _) hsm.out _ W (hnd.out W (Below.refl _ _)) (fun j hj => hj))
  obtain ⟨F, hF⟩ : ∃ b, fairN nd = b := ⟨_, rfl⟩
  rw [hF] at hrf
  have hFH := Lib.hid hF
  clear hF
  have hT9 := hnb.out
  have y0 := Xp.cell_blk hT9 (i := 0) rfl
  have y1 := Xp.cell_blk hT9 (i := 1) rfl
  have y2 := Xp.cell_blk hT9 (i := 2) rfl
  have y3 := Xp.cell_blk hT9 (i := 3) rfl
  have y4 := Xp.cell_blk hT9 (i := 4) rfl
  clear hT9
  go_wp2_with fail
  refine hrf.out.mono ?_
  rintro e6 w6 ⟨rfl, hb6⟩
  have hx6 := Lib.hid (hx5.out.trans (hb6.mono hx5.out.size))
  have hd6 := Lib.hid hb6
  clear hb6 hrf y0 y1 y2 y3 y4
  have hT9 := (hd6.out.block N (Array.getElem?_eq_some_iff.1 hnb.out).1).trans hnb.out
  have y0 := Xp.cell_blk hT9 (i := 0) rfl
  have y1 := Xp.cell_blk hT9 (i := 1) rfl
  have y2 := Xp.cell_blk hT9 (i := 2) rfl
  have y3 := Xp.cell_blk hT9 (i := 3) rfl
  have y4 := Xp.cell_blk hT9 (i := 4) rfl
  clear hT9
  cases F with
  | false =>
   have hpf := Lib.hid (Fair_any _ _ nd (Nat.le_refl _) hsm.out _ w6 (hU.out.below hx6.out) (hnd.out w6 hd6.out) (hbnd.out w6 hd6.out))
   rw [hFH.out] at hpf
   go_wp2_with fail
   refine hpf.out.mono ?_
   rintro e7 w7 ⟨rfl, hb7⟩
   have hfin := Lib.hid (hx6.out.trans (hb7.mono hx6.out.size))
   clear hb7
   go_wp2_with fail
   go_ret
   exact ⟨rfl, hfin.out⟩
  | true =>
   have hmay := hmay.out hFH.out
   have hdo6 : DocI (fun k => k < W.heap.size) w6 (.agg #[.slice none 0 0, .int .i64 1, .string ⟨#[97]⟩, .string ⟨#[]⟩, V3, V4, .slice none 0 0]) ⟨[], nd, []⟩ :=
    ⟨none, 0, _, _, _, _, _, none, 0, rfl, Sq.none_ _, fun a e => (by cases e), hnd.out w6 hd6.out, Sq.none_ _, fun a e => (by cases e)⟩
   obtain ⟨hdB, hwl⟩ := may_docB hmay
   have hbk := may_back hmay
   have hdc := Lib.hid (Doc_any _ w6 (hU.out.below hx6.out) _ _ hdo6 (hbnd.out w6 hd6.out) hdB)
   obtain ⟨Z, hZ⟩ : ∃ Z, writeD ⟨[], nd, []⟩ = Z := ⟨_, rfl⟩
   rw [hZ] at hwl hbk
   replace hbk := Lib.hid hbk
   replace hwl := Lib.hid hwl
   replace hmay := Lib.hid hmay
   replace hZ := Lib.hid hZ
   clear hdo6 hdB hFH
   go_wp2_with fail
   refine hdc.out.mono ?_
   intro e7 w7 h7
   obtain ⟨hb7, rfl⟩ := h7.ok hmay.out
   rw [hZ.out]
   have hx7 := Lib.hid (hx6.out.trans (hb7.mono hx6.out.size))
   have hd7 := Lib.hid (hd6.out.trans (hb7.mono hd6.out.size))
   clear h7 hb7 hdc y0 y1 y2 y3 y4
   have e1 : (strOf Z).data.toList = Z := by simp [strOf]
   have hsz : (strOf Z).size = Z.length := strOf_size' Z
   obtain ⟨hbs, hbl⟩ := bs_convert w7 (strOf Z) (by rw [hsz]; have := hwl.out; omega)
   rw [e1] at hbs
   have hcv := Lib.run_convert_string_bytes (P := Tryz.prog) w7 9 41 5 (strOf Z) Tryz.underlying9 Tryz.underlying41 Tryz.underlying5
   have hx8 := Lib.hid (hx7.out.trans (hbl.mono hx7.out.size))
   have hd8 := Lib.hid (hd7.out.trans (hbl.mono hd7.out.size))
   have hpc := Lib.hid (parse_any (Lib.bytesWorld w7 5 (strOf Z)) (hU.out.below hx8.out) _ _ _ Z hbs (by rw [hsz]; have := hwl.out; omega))
   clear hbs hbl e1 hsz
   go_wp2_with fail
   refine hpc.out.mono ?_
   intro e9 w9 h9
   obtain ⟨hb9, vd', ev', rfl, hdo', hco'⟩ := par_both hE.out hx8.out h9 hbk.out
   obtain ⟨A1', n1', c1', kd', nm', tx', Ar', n5', cr', Ak', n6', ck', A2', n2', c2', hv', -⟩ := doc_parts hdo'
   subst hv'
   have hba := below_alloc w9 (.cells #[.slice A1' n1' c1', .int .i64 kd', .string (strOf nm'), .string (strOf tx'), .slice Ar' n5' cr', .slice Ak' n6' ck', .slice A2' n2' c2'] 27)
   have hnb2 := heap_alloc_new w9 (.cells #[.slice A1' n1' c1', .int .i64 kd', .string (strOf nm'), .string (strOf tx'), .slice Ar' n5' cr', .slice Ak' n6' ck', .slice A2' n2' c2'] 27)
   have h910 := hb9.trans (hba.mono hb9.size)
   have hx10 := Lib.hid (hx8.out.trans (h910.mono hx8.out.size))
   have hd10 := Lib.hid (hd8.out.trans (h910.mono hd8.out.size))
   have hco10 : Hid (∀ y, Below (w9.alloc (.cells #[.slice A1' n1' c1', .int .i64 kd', .string (strOf nm'), .string (strOf tx'), .slice Ar' n5' cr', .slice Ak' n6' ck', .slice A2' n2' c2'] 27)).heap.size (w9.alloc (.cells #[.slice A1' n1' c1', .int .i64 kd', .string (strOf nm'), .string (strOf tx'), .slice Ar' n5' cr', .slice Ak' n6' ck', .slice A2' n2' c2'] 27)) y → Calls Tryz.prog 22 #[ev'] y fun e z => e = .returned (.int .i64 0) ∧ Below y.heap.size y z) := Lib.hid fun y hy => hco' y (hba.trans (hy.mono hba.size))
   have hdo10 : Hid (∀ y, Below (w9.alloc (.cells #[.slice A1' n1' c1', .int .i64 kd', .string (strOf nm'), .string (strOf tx'), .slice Ar' n5' cr', .slice Ak' n6' ck', .slice A2' n2' c2'] 27)).heap.size (w9.alloc (.cells #[.slice A1' n1' c1', .int .i64 kd', .string (strOf nm'), .string (strOf tx'), .slice Ar' n5' cr', .slice Ak' n6' ck', .slice A2' n2' c2'] 27)) y → DocI (fun k => k < w9.heap.size) y (.agg #[.slice A1' n1' c1', .int .i64 kd', .string (strOf nm'), .string (strOf tx'), .slice Ar' n5' cr', .slice Ak' n6' ck', .slice A2' n2' c2']) ⟨[], nd, []⟩) := Lib.hid fun y hy => Xp.DocI.keep hdo' fun k hk => (hy.block k (Nat.lt_of_lt_of_le hk hba.size)).trans (hba.block k hk)
   have hsz10 : Hid (w9.heap.size ≤ (w9.alloc (.cells #[.slice A1' n1' c1', .int .i64 kd', .string (strOf nm'), .string (strOf tx'), .slice Ar' n5' cr', .slice Ak' n6' ck', .slice A2' n2' c2'] 27)).heap.size) := Lib.hid hba.size
   replace hnb2 := Lib.hid hnb2
   clear hb9 h9 hdo' hco' hba h910 hpc hcv
   go_upto_region 12 with fail
   change Code.wp _ _ _ _ (w9.alloc (.cells #[.slice A1' n1' c1', .int .i64 kd', .string (strOf nm'), .string (strOf tx'), .slice Ar' n5' cr', .slice Ak' n6' ck', .slice A2' n2' c2'] 27))
   generalize w9.alloc (.cells #[.slice A1' n1' c1', .int .i64 kd', .string (strOf nm'), .string (strOf tx'), .slice Ar' n5' cr', .slice Ak' n6' ck', .slice A2' n2' c2'] 27) = w10 at hx10 hd10 hco10 hdo10 hsz10 hnb2 ⊢
   generalize w9.heap.size = T2 at hnb2 hdo10 hsz10 ⊢
   go_wp2_with fail
   refine (Code_ok w10).mono ?_
   rintro e11 w11 ⟨rfl, hb11⟩
   have hx11 := Lib.hid (hx10.out.trans (hb11.mono hx10.out.size))
   have hd11 := Lib.hid (hd10.out.trans (hb11.mono hd10.out.size))
   have he11 := Lib.hid hb11
   have hcc := Lib.hid (hco10.out w11 hb11)
   clear hb11 hco10
   go_wp2_with fail
   refine hcc.out.mono ?_
   rintro e12 w12 ⟨rfl, hb12⟩
   have hx12 := Lib.hid (hx11.out.trans (hb12.mono hx11.out.size))
   have hd12 := Lib.hid (hd11.out.trans (hb12.mono hd11.out.size))
   have he12 := Lib.hid (he11.out.trans (hb12.mono he11.out.size))
   clear hb12
   have hT9 := (hd12.out.block N (Array.getElem?_eq_some_iff.1 hnb.out).1).trans hnb.out
   have y0 := Xp.cell_blk hT9 (i := 0) rfl
   have y1 := Xp.cell_blk hT9 (i := 1) rfl
   have y2 := Xp.cell_blk hT9 (i := 2) rfl
   have y3 := Xp.cell_blk hT9 (i := 3) rfl
   have y4 := Xp.cell_blk hT9 (i := 4) rfl
   clear hT9
   have hT9 := (he12.out.block T2 (Array.getElem?_eq_some_iff.1 hnb2.out).1).trans hnb2.out
   have z0 := Xp.cell_blk hT9 (i := 0) rfl
   have z1 := Xp.cell_blk hT9 (i := 1) rfl
   have z2 := Xp.cell_blk hT9 (i := 2) rfl
   have z3 := Xp.cell_blk hT9 (i := 3) rfl
   have z4 := Xp.cell_blk hT9 (i := 4) rfl
   have z5 := Xp.cell_blk hT9 (i := 5) rfl
   have z6 := Xp.cell_blk hT9 (i := 6) rfl
   clear hT9
   have hrd := Lib.hid (rsame_any _ _ _ w12 _ _ nd nd (Nat.le_refl _) (DocI.root_ (hdo10.out w12 he12.out)) (hnd.out w12 hd12.out) (fun k hk => Nat.lt_of_lt_of_le hk (Nat.le_trans hsz10.out he12.out.size)) (hbnd.out w12 hd12.out))
   clear hcc hdo10
   go_wp2_with fail
   refine hrd.out.mono ?_
   rintro e13 w13 ⟨⟨B, rfl, hB⟩, hb13⟩
   have hBt : B = true := by simpa using hB
   subst hBt
   have hfin := Lib.hid (hx12.out.trans (hb13.mono hx12.out.size))
   clear hb13 hB hrd y0 y1 y2 y3 y4 z0 z1 z2 z3 z4 z5 z6
   go_wp2_with fail
   go_ret
   exact ⟨rfl, hfin.out⟩
 ·have e1 : (strOf s).toList.isEmpty = false := by
   rw [str_ne0]
   cases s with
   | nil => exact absurd rfl hs0
   | cons a b => rfl
  replace hs0 := Lib.hid hs0
  go_enter Tryz.func10, Tryz.ntmps10
  go_wp2_with fail
  refine haw.out.mono ?_
  rintro e9 w1 ⟨rfl, hb1⟩
  replace hb1 := Lib.hid hb1
  clear haw
  obtain ⟨hbw, hnb, hnd⟩ := world_cons w1 s t hs0.out
  have hx5 := Lib.hid (hb1.out.trans (hbw.mono hb1.out.size))
  replace hnd : Hid (∀ y, Below (((w1.alloc (.cells #[.string ⟨#[120]⟩, .string (strOf t)] 55)).alloc (.cells #[.int .i64 1, .string ⟨#[97]⟩, .string ⟨#[]⟩, .slice (some ⟨w1.heap.size, 0, none⟩) 1 1, .slice (some ⟨w1.heap.size + 1 + 1, 0, none⟩) 1 1] 25)).alloc (.cells #[.int .i64 2, .string ⟨#[]⟩, .string (strOf s), .slice none 0 0, .slice none 0 0] 25)).heap.size (((w1.alloc (.cells #[.string ⟨#[120]⟩, .string (strOf t)] 55)).alloc (.cells #[.int .i64 1, .string ⟨#[97]⟩, .string ⟨#[]⟩, .slice (some ⟨w1.heap.size, 0, none⟩) 1 1, .slice (some ⟨w1.heap.size + 1 + 1, 0, none⟩) 1 1] 25)).alloc (.cells #[.int .i64 2, .string ⟨#[]⟩, .string (strOf s), .slice none 0 0, .slice none 0 0] 25)) y → NdI (fun k => k < (((w1.alloc (.cells #[.string ⟨#[120]⟩, .string (strOf t)] 55)).alloc (.cells #[.int .i64 1, .string ⟨#[97]⟩, .string ⟨#[]⟩, .slice (some ⟨w1.heap.size, 0, none⟩) 1 1, .slice (some ⟨w1.heap.size + 1 + 1, 0, none⟩) 1 1] 25)).alloc (.cells #[.int .i64 2, .string ⟨#[]⟩, .string (strOf s), .slice none 0 0, .slice none 0 0] 25)).heap.size) y [.int .i64 1, .string ⟨#[97]⟩, .string ⟨#[]⟩, .slice (some ⟨w1.heap.size, 0, none⟩) 1 1, .slice (some ⟨w1.heap.size + 1 + 1, 0, none⟩) 1 1] (xnd t s)) := Lib.hid fun y hy => hnd.later (fun k hk => hk) hy
  replace hnb := Lib.hid hnb
  clear hbw hb1
  go_upto_region 8 with fail
  change Code.wp _ _ _ _ (((w1.alloc (.cells #[.string ⟨#[120]⟩, .string (strOf t)] 55)).alloc (.cells #[.int .i64 1, .string ⟨#[97]⟩, .string ⟨#[]⟩, .slice (some ⟨w1.heap.size, 0, none⟩) 1 1, .slice (some ⟨w1.heap.size + 1 + 1, 0, none⟩) 1 1] 25)).alloc (.cells #[.int .i64 2, .string ⟨#[]⟩, .string (strOf s), .slice none 0 0, .slice none 0 0] 25))
  generalize (((w1.alloc (.cells #[.string ⟨#[120]⟩, .string (strOf t)] 55)).alloc (.cells #[.int .i64 1, .string ⟨#[97]⟩, .string ⟨#[]⟩, .slice (some ⟨w1.heap.size, 0, none⟩) 1 1, .slice (some ⟨w1.heap.size + 1 + 1, 0, none⟩) 1 1] 25)).alloc (.cells #[.int .i64 2, .string ⟨#[]⟩, .string (strOf s), .slice none 0 0, .slice none 0 0] 25)) = W at hx5 hnd hnb ⊢
  generalize (Value.slice (some ⟨w1.heap.size, 0, none⟩) 1 1) = V3 at hnd hnb ⊢
  generalize (Value.slice (some ⟨w1.heap.size + 1 + 1, 0, none⟩) 1 1) = V4 at hnd hnb ⊢
  generalize w1.heap.size + 1 = N at hnb ⊢
  generalize xnd t s = nd at hnd hsm hmay
  have hbnd : Hid (∀ y, Below W.heap.size W y → ∀ j, j < W.heap.size → j < y.heap.size) := Lib.hid fun y hy j hj => Nat.lt_of_lt_of_le hj hy.size
  have hrf := Lib.hid (rFair_any _ _ nd (Nat.le_refl _) hsm.out _ W (hnd.out W (Below.refl _ _)) (fun j hj => hj))
  obtain ⟨F, hF⟩ : ∃ b, fairN nd = b := ⟨_, rfl⟩
  rw [hF] at hrf
  have hFH := Lib.hid hF
  clear hF
  have hT9 := hnb.out
  have y0 := Xp.cell_blk hT9 (i := 0) rfl
  have y1 := Xp.cell_blk hT9 (i := 1) rfl
  have y2 := Xp.cell_blk hT9 (i := 2) rfl
  have y3 := Xp.cell_blk hT9 (i := 3) rfl
  have y4 := Xp.cell_blk hT9 (i := 4) rfl
  clear hT9
  go_wp2_with fail
  refine hrf.out.mono ?_
  rintro e6 w6 ⟨rfl, hb6⟩
  have hx6 := Lib.hid (hx5.out.trans (hb6.mono hx5.out.size))
  have hd6 := Lib.hid hb6
  clear hb6 hrf y0 y1 y2 y3 y4
  have hT9 := (hd6.out.block N (Array.getElem?_eq_some_iff.1 hnb.out).1).trans hnb.out
  have y0 := Xp.cell_blk hT9 (i := 0) rfl
  have y1 := Xp.cell_blk hT9 (i := 1) rfl
  have y2 := Xp.cell_blk hT9 (i := 2) rfl
  have y3 := Xp.cell_blk hT9 (i := 3) rfl
  have y4 := Xp.cell_blk hT9 (i := 4) rfl
  clear hT9
  cases F with
  | false =>
   have hpf := Lib.hid (Fair_any _ _ nd (Nat.le_refl _) hsm.out _ w6 (hU.out.below hx6.out) (hnd.out w6 hd6.out) (hbnd.out w6 hd6.out))
   rw [hFH.out] at hpf
   go_wp2_with fail
   refine hpf.out.mono ?_
   rintro e7 w7 ⟨rfl, hb7⟩
   have hfin := Lib.hid (hx6.out.trans (hb7.mono hx6.out.size))
   clear hb7
   go_wp2_with fail
   go_ret
   exact ⟨rfl, hfin.out⟩
  | true =>
   have hmay := hmay.out hFH.out
   have hdo6 : DocI (fun k => k < W.heap.size) w6 (.agg #[.slice none 0 0, .int .i64 1, .string ⟨#[97]⟩, .string ⟨#[]⟩, V3, V4, .slice none 0 0]) ⟨[], nd, []⟩ :=
    ⟨none, 0, _, _, _, _, _, none, 0, rfl, Sq.none_ _, fun a e => (by cases e), hnd.out w6 hd6.out, Sq.none_ _, fun a e => (by cases e)⟩
   obtain ⟨hdB, hwl⟩ := may_docB hmay
   have hbk := may_back hmay
   have hdc := Lib.hid (Doc_any _ w6 (hU.out.below hx6.out) _ _ hdo6 (hbnd.out w6 hd6.out) hdB)
   obtain ⟨Z, hZ⟩ : ∃ Z, writeD ⟨[], nd, []⟩ = Z := ⟨_, rfl⟩
   rw [hZ] at hwl hbk
   replace hbk := Lib.hid hbk
   replace hwl := Lib.hid hwl
   replace hmay := Lib.hid hmay
   replace hZ := Lib.hid hZ
   clear hdo6 hdB hFH
   go_wp2_with fail
   refine hdc.out.mono ?_
   intro e7 w7 h7
   obtain ⟨hb7, rfl⟩ := h7.ok hmay.out
   rw [hZ.out]
   have hx7 := Lib.hid (hx6.out.trans (hb7.mono hx6.out.size))
   have hd7 := Lib.hid (hd6.out.trans (hb7.mono hd6.out.size))
   clear h7 hb7 hdc y0 y1 y2 y3 y4
   have e1 : (strOf Z).data.toList = Z := by simp [strOf]
   have hsz : (strOf Z).size = Z.length := strOf_size' Z
   obtain ⟨hbs, hbl⟩ := bs_convert w7 (strOf Z) (by rw [hsz]; have := hwl.out; omega)
   rw [e1] at hbs
   have hcv := Lib.run_convert_string_bytes (P := Tryz.prog) w7 9 41 5 (strOf Z) Tryz.underlying9 Tryz.underlying41 Tryz.underlying5
   have hx8 := Lib.hid (hx7.out.trans (hbl.mono hx7.out.size))
   have hd8 := Lib.hid (hd7.out.trans (hbl.mono hd7.out.size))
   have hpc := Lib.hid (parse_any (Lib.bytesWorld w7 5 (strOf Z)) (hU.out.below hx8.out) _ _ _ Z hbs (by rw [hsz]; have := hwl.out; omega))
   clear hbs hbl e1 hsz
   go_wp2_with fail
   refine hpc.out.mono ?_
   intro e9 w9 h9
   obtain ⟨hb9, vd', ev', rfl, hdo', hco'⟩ := par_both hE.out hx8.out h9 hbk.out
   obtain ⟨A1', n1', c1', kd', nm', tx', Ar', n5', cr', Ak', n6', ck', A2', n2', c2', hv', -⟩ := doc_parts hdo'
   subst hv'
   have hba := below_alloc w9 (.cells #[.slice A1' n1' c1', .int .i64 kd', .string (strOf nm'), .string (strOf tx'), .slice Ar' n5' cr', .slice Ak' n6' ck', .slice A2' n2' c2'] 27)
   have hnb2 := heap_alloc_new w9 (.cells #[.slice A1' n1' c1', .int .i64 kd', .string (strOf nm'), .string (strOf tx'), .slice Ar' n5' cr', .slice Ak' n6' ck', .slice A2' n2' c2'] 27)
   have h910 := hb9.trans (hba.mono hb9.size)
   have hx10 := Lib.hid (hx8.out.trans (h910.mono hx8.out.size))
   have hd10 := Lib.hid (hd8.out.trans (h910.mono hd8.out.size))
   have hco10 : Hid (∀ y, Below (w9.alloc (.cells #[.slice A1' n1' c1', .int .i64 kd', .string (strOf nm'), .string (strOf tx'), .slice Ar' n5' cr', .slice Ak' n6' ck', .slice A2' n2' c2'] 27)).heap.size (w9.alloc (.cells #[.slice A1' n1' c1', .int .i64 kd', .string (strOf nm'), .string (strOf tx'), .slice Ar' n5' cr', .slice Ak' n6' ck', .slice A2' n2' c2'] 27)) y → Calls Tryz.prog 22 #[ev'] y fun e z => e = .returned (.int .i64 0) ∧ Below y.heap.size y z) := Lib.hid fun y hy => hco' y (hba.trans (hy.mono hba.size))
   have hdo10 : Hid (∀ y, Below (w9.alloc (.cells #[.slice A1' n1' c1', .int .i64 kd', .string (strOf nm'), .string (strOf tx'), .slice Ar' n5' cr', .slice Ak' n6' ck', .slice A2' n2' c2'] 27)).heap.size (w9.alloc (.cells #[.slice A1' n1' c1', .int .i64 kd', .string (strOf nm'), .string (strOf tx'), .slice Ar' n5' cr', .slice Ak' n6' ck', .slice A2' n2' c2'] 27)) y → DocI (fun k => k < w9.heap.size) y (.agg #[.slice A1' n1' c1', .int .i64 kd', .string (strOf nm'), .string (strOf tx'), .slice Ar' n5' cr', .slice Ak' n6' ck', .slice A2' n2' c2']) ⟨[], nd, []⟩) := Lib.hid fun y hy => Xp.DocI.keep hdo' fun k hk => (hy.block k (Nat.lt_of_lt_of_le hk hba.size)).trans (hba.block k hk)
   have hsz10 : Hid (w9.heap.size ≤ (w9.alloc (.cells #[.slice A1' n1' c1', .int .i64 kd', .string (strOf nm'), .string (strOf tx'), .slice Ar' n5' cr', .slice Ak' n6' ck', .slice A2' n2' c2'] 27)).heap.size) := Lib.hid hba.size
   replace hnb2 := Lib.hid hnb2
   clear hb9 h9 hdo' hco' hba h910 hpc hcv
   go_upto_region 12 with fail
   change Code.wp _ _ _ _ (w9.alloc (.cells #[.slice A1' n1' c1', .int .i64 kd', .string (strOf nm'), .string (strOf tx'), .slice Ar' n5' cr', .slice Ak' n6' ck', .slice A2' n2' c2'] 27))
   generalize w9.alloc (.cells #[.slice A1' n1' c1', .int .i64 kd', .string (strOf nm'), .string (strOf tx'), .slice Ar' n5' cr', .slice Ak' n6' ck', .slice A2' n2' c2'] 27) = w10 at hx10 hd10 hco10 hdo10 hsz10 hnb2 ⊢
   generalize w9.heap.size = T2 at hnb2 hdo10 hsz10 ⊢
   go_wp2_with fail
   refine (Code_ok w10).mono ?_
   rintro e11 w11 ⟨rfl, hb11⟩
   have hx11 := Lib.hid (hx10.out.trans (hb11.mono hx10.out.size))
   have hd11 := Lib.hid (hd10.out.trans (hb11.mono hd10.out.size))
   have he11 := Lib.hid hb11
   have hcc := Lib.hid (hco10.out w11 hb11)
   clear hb11 hco10
   go_wp2_with fail
   refine hcc.out.mono ?_
   rintro e12 w12 ⟨rfl, hb12⟩
   have hx12 := Lib.hid (hx11.out.trans (hb12.mono hx11.out.size))
   have hd12 := Lib.hid (hd11.out.trans (hb12.mono hd11.out.size))
   have he12 := Lib.hid (he11.out.trans (hb12.mono he11.out.size))
   clear hb12
   have hT9 := (hd12.out.block N (Array.getElem?_eq_some_iff.1 hnb.out).1).trans hnb.out
   have y0 := Xp.cell_blk hT9 (i := 0) rfl
   have y1 := Xp.cell_blk hT9 (i := 1) rfl
   have y2 := Xp.cell_blk hT9 (i := 2) rfl
   have y3 := Xp.cell_blk hT9 (i := 3) rfl
   have y4 := Xp.cell_blk hT9 (i := 4) rfl
   clear hT9
   have hT9 := (he12.out.block T2 (Array.getElem?_eq_some_iff.1 hnb2.out).1).trans hnb2.out
   have z0 := Xp.cell_blk hT9 (i := 0) rfl
   have z1 := Xp.cell_blk hT9 (i := 1) rfl
   have z2 := Xp.cell_blk hT9 (i := 2) rfl
   have z3 := Xp.cell_blk hT9 (i := 3) rfl
   have z4 := Xp.cell_blk hT9 (i := 4) rfl
   have z5 := Xp.cell_blk hT9 (i := 5) rfl
   have z6 := Xp.cell_blk hT9 (i := 6) rfl
   clear hT9
   have hrd := Lib.hid (rsame_any _ _ _ w12 _ _ nd nd (Nat.le_refl _) (DocI.root_ (hdo10.out w12 he12.out)) (hnd.out w12 hd12.out) (fun k hk => Nat.lt_of_lt_of_le hk (Nat.le_trans hsz10.out he12.out.size)) (hbnd.out w12 hd12.out))
   clear hcc hdo10
   go_wp2_with fail
   refine hrd.out.mono ?_
   rintro e13 w13 ⟨⟨B, rfl, hB⟩, hb13⟩
   have hBt : B = true := by simpa using hB
   subst hBt
   have hfin := Lib.hid (hx12.out.trans (hb13.mono hx12.out.size))
   clear hb13 hB hrd y0 y1 y2 y3 y4 z0 z1 z2 z3 z4 z5 z6
   go_wp2_with fail
   go_ret
   exact ⟨rfl, hfin.out⟩
end Go.Proofs.YtokdnhdfmgfkeaaGreatDoor.Xp
end

section
namespace Go.Proofs
open Go.Shelf Go.RowKit

shelf_lay LaysM.n155 Nm 155 at Tryz as Tryz.laysM155

end Go.Proofs
namespace Go.Proofs.YtokdnhdfmgfkeaaGreatDoor.Xl
open Go.RowKit Go.Shelf UtfW Er

abbrev laidList : List (String × DataW Unit) := Rows.xtreeParsesRow.laid

theorem et0 : Tryz.prog.globalNamed "errors.errorType" = some 0 := by kernel_rfl
theorem rt0 : (Tryz.prog.cutTypes.find? (·.1 == "internal/reflectlite.rtype")).map (·.2) = some 162 := by kernel_rfl
theorem size0 : Tryz.prog.types.size = 259 := by kernel_rfl
theorem oneRow0 : ((List.range 259).filter fun t => Tryz.prog.rowNamed t [101, 114, 114, 111, 114]) = [31] := by kernel_rfl

theorem et_of_laid {W : World} (h : laidMetH Tryz.prog laidList W) : Et W := by
 have h1 : laidMetH Tryz.prog [("errors.errorType", Rows.laid_errors_errorType)] W := h.filter (fun x => x.1 == "errors.errorType")
 have h' : laidMet Tryz.prog [] W ∧ handlesMet Tryz.prog [("errors.errorType", Rows.laid_errors_errorType)] W := h1
 obtain ⟨name, u, ty, e1, e2, e3, e4, e5⟩ := h'.2 _ (List.mem_singleton.2 rfl)
 have en : name = [101, 114, 114, 111, 114] := (Option.some.inj e1).symm
 subst en
 obtain rfl := Option.some.inj (rt0.symm.trans e2)
 have hm : ty ∈ (List.range 259).filter fun t => Tryz.prog.rowNamed t [101, 114, 114, 111, 114] := List.mem_filter.2 ⟨List.mem_range.2 (by rw [← size0]; exact e3), e4⟩
 rw [oneRow0] at hm
 obtain rfl := List.mem_singleton.1 hm
 have hh : typeHandle Tryz.prog 31 = .pointer (some ⟨7, 31, none⟩) := by kernel_rfl
 rw [hh] at e5
 have := World.var?_cell et0 e5 0
 unfold Et
 simpa using this

theorem en_of_laid {W : World} (h : laidMetH Tryz.prog laidList W) : En W.heap.size W :=
 ⟨et_of_laid h, by
  have hg := et_of_laid h
  unfold Et at hg
  rcases Nat.lt_or_ge 0 W.heap.size with h | h
  ·exact h
  ·simp [World.cell?, Array.getElem?_eq_none h] at hg, Nat.le_refl _⟩

def u8r : Ren := { f := id, t := fun n => if n = 5 then 5 else if n = 119 then 145 else if n = 138 then 147 else 148, g := fun n => if n = 3 then 1 else 2 }

theorem first_data : Rows.laid_unicode_utf8_first = Lib.firstData := by kernel_rfl
theorem accept_data : Rows.laid_unicode_utf8_acceptRanges = Lib.acceptData := by kernel_rfl
theorem case_data : Rows.laid_unicode_CaseRanges = Lib.caseData := by kernel_rfl
def litZ : DataW Unit → List Int
 | .lit (.int _ z) => [z]
 | _ => []
def foldZ : List Int := match (Rows.laid_unicode_asciiFold : DataW Unit) with
 | .agg l => l.flatMap litZ
 | _ => []
theorem fold_data : (Rows.laid_unicode_asciiFold : DataW Unit) = Lib.tabData .u16 foldZ := by kernel_rfl
theorem tfold_len : foldZ.length = 128 := by kernel_rfl
theorem tfold_at : (foldT.all fun x => foldZ.getD x.1 0 == (x.2 : Int)) = true := by kernel_rfl
def rowZ : DataW Unit → List Value
 | .agg l => l.flatMap fun x => (litZ x).map (Value.int .u16)
 | _ => []
def orbitC : Array Value := match (Rows.laid_unicode_caseOrbit : DataW Unit) with
 | .slice l _ => (l.flatMap rowZ).toArray
 | _ => #[]
theorem ut_of_laid {W : World} (h : laidMetH Tryz.prog laidList W) (hsh : W.ShapedOpen Tryz.prog) : Ut W := by
 have h1 : laidMetH Tryz.prog [("unicode/utf8.first", Rows.laid_unicode_utf8_first)] W := h.filter (fun x => x.1 == "unicode/utf8.first")
 have h2 : laidMetH Tryz.prog [("unicode/utf8.acceptRanges", Rows.laid_unicode_utf8_acceptRanges)] W := h.filter (fun x => x.1 == "unicode/utf8.acceptRanges")
 rw [first_data] at h1
 rw [accept_data] at h2
 have h1' : laidMet Tryz.prog [("unicode/utf8.first", Lib.firstData)] W := h1
 have h2' : laidMet Tryz.prog [("unicode/utf8.acceptRanges", Lib.acceptData)] W := h2
 have L : U8Types Tryz.prog u8r := ⟨by kernel_rfl, by kernel_rfl, by kernel_rfl, by kernel_rfl⟩
 exact ⟨utf8Tabs_of_readsT L ⟨by kernel_rfl, by kernel_rfl, by kernel_rfl, by kernel_rfl, by kernel_rfl, by kernel_rfl, by kernel_rfl⟩ (Lib.laidMet.reads h1' (.head _)) (Lib.laidMet.reads h2' (.head _)), Tryz.laysM155.s1_3 W hsh⟩

theorem un_of_laid {W : World} (h : laidMetH Tryz.prog laidList W) (hsh : W.ShapedOpen Tryz.prog) : Un W := by
 refine ⟨ut_of_laid h hsh, fun x hx => ?_, ?_⟩
 ·have h1 : laidMetH Tryz.prog [("unicode.asciiFold", Rows.laid_unicode_asciiFold)] W := h.filter (fun x => x.1 == "unicode.asciiFold")
  rw [fold_data] at h1
  have h2 : laidMet Tryz.prog (("unicode.asciiFold", Lib.tabData .u16 foldZ) :: []) W := h1
  have ht : Lib.TabIs Tryz.prog W "unicode.asciiFold" .u16 foldZ := Lib.tabIs_of_head (g := 5) (t := 228) (e := 227) (n := 128) (by kernel_rfl) (by kernel_rfl) Tryz.underlying228 Tryz.underlying227 (by kernel_rfl) (by kernel_rfl) h2
  have hlt := (foldT_low _ hx).1
  have hc := ht.cell (g := 5) (by kernel_rfl) x.1 (by rw [tfold_len]; exact hlt)
  have hv := List.all_eq_true.1 tfold_at x hx
  rw [beq_iff_eq] at hv
  rw [hv] at hc
  exact hc
 ·have h1 : laidMetH Tryz.prog [("unicode.CaseRanges", Rows.laid_unicode_CaseRanges)] W := h.filter (fun x => x.1 == "unicode.CaseRanges")
  rw [case_data] at h1
  have h2 : laidMet Tryz.prog [("unicode.CaseRanges", Lib.caseData)] W := h1
  exact caseVar_of_reads (ρ := Tryz.lays159_ren) { Tryz.lays159 with } Tryz.lays159.t206 ⟨by kernel_rfl, by kernel_rfl, by kernel_rfl, by kernel_rfl, by kernel_rfl, by kernel_rfl⟩ (Lib.laidMet.reads h2 (.head _))

def putVar (g : Nat) (cs : Array Value) (h : Array Obj) : Array Obj := h.modify g fun
 | .cells _ t frozen => .cells cs t frozen
 | o => o

noncomputable def laidWorld (os : Os) : World :=
 let N := (World.settled Tryz.prog os).heap.size
 let w0 := World.holding Tryz.prog os ⟨#[.cells orbitC 231, .cells Lib.caseCells5 217], #[], []⟩
 let h1 := putVar 1 (Lib.firstTab.map fun z => Value.int .u8 z).toArray w0.heap
 let h2 := putVar 2 ((List.range 16).flatMap fun i => [Value.int .u8 (Lib.accLo i), Value.int .u8 (Lib.accHi i)]).toArray h1
 let h3 := putVar 0 #[.iface 162 (.agg #[.pointer (some ⟨7, 31, none⟩)])] h2
 let h4 := putVar 5 (foldZ.map fun z => Value.int .u16 z).toArray h3
 let h5 := putVar 6 #[.slice (some ⟨N, 0, none⟩) 94 94] h4
 let h6 := putVar 4 #[.slice (some ⟨N + 1, 0, none⟩) 336 336] h5
 { w0 with heap := h6 }
theorem ctypes : Great.CTypes Tryz.prog 192 217 215 195 21 where
 tS := Tryz.underlying192
 tR := Tryz.underlying217
 tD := Tryz.underlying215
 tU := Tryz.underlying195
 tI := Tryz.underlying21
 cI := by kernel_rfl
 cU := by kernel_rfl
 cD := by kernel_rfl
 cR := by kernel_rfl
noncomputable abbrev laidN : Nat := (World.settled Tryz.prog default).heap.size
theorem laid_a (os : Os) (args : Array Value) : LaidIn Tryz.prog ((laidWorld os).forCall (fun _ _ => 0) ⟨#[], args, []⟩).memory [("unicode/utf8.acceptRanges", Rows.laid_unicode_utf8_acceptRanges), ("unicode.asciiFold", Rows.laid_unicode_asciiFold), ("unicode.caseOrbit", Rows.laid_unicode_caseOrbit)] [2, 5, 6, laidN] :=
 LaidIn.of_run _ 8 (by kernel_rfl) (by kernel_rfl) (by kernel_rfl) (by kernel_rfl)
theorem laid_c (os : Os) (args : Array Value) : LaidIn Tryz.prog ((laidWorld os).forCall (fun _ _ => 0) ⟨#[], args, []⟩).memory [("unicode.CaseRanges", Rows.laid_unicode_CaseRanges)] [4, laidN + 1] := by
 rw [case_data]
 exact Great.laidIn_case (tg := 192) (tb := 217) ctypes Lib.caseT (by kernel_rfl) (by kernel_rfl) (of_decide_eq_true (by kernel_rfl)) Lib.rowsWf (by kernel_rfl) (by kernel_rfl) (of_decide_eq_true (by kernel_rfl))
theorem laid_f (os : Os) (args : Array Value) : LaidIn Tryz.prog ((laidWorld os).forCall (fun _ _ => 0) ⟨#[], args, []⟩).memory [("unicode/utf8.first", Rows.laid_unicode_utf8_first)] [1] :=
 LaidIn.of_run _ 8 (by kernel_rfl) (by kernel_rfl) (by kernel_rfl) (by kernel_rfl)

theorem laidWorld_met (os : Os) (args : Array Value) : laidMetH Tryz.prog laidList ((laidWorld os).forCall (fun _ _ => 0) ⟨#[], args, []⟩).memory :=
 laidMetH_of_parts (((laid_a os args).append (laid_c os args) (by kernel_rfl)).append (laid_f os args) (by kernel_rfl)).met (by kernel_rfl)
end Go.Proofs.YtokdnhdfmgfkeaaGreatDoor.Xl
end
