/- A file's cells in the document's row are stored to. -/
import Derived.Test.YtfdpnjebhllpkaaGreatDoorMDkRb
import Derived.Test.YtfdpnjebhllpkaaGreatDoorMPlan2
import Derived.Test.YtfdpnjebhllpkaaGreatDoorMSq2
import Derived.Laws.OwnMore
section
namespace Go.Proofs.YtfdpnjebhllpkaaGreatDoor.Dk
open Go.RowKit

theorem ins_at {α : Type} {nm : Name} {f : α} : ∀ {l : Al α} {i : Nat}, i ≤ l.length → (∀ (j : Nat) q, j < i → l[j]? = some q → bytesBefore q.1 nm = true) → (∀ q, l[i]? = some q → bytesBefore nm q.1 = true) → ins nm f l = l.take i ++ (nm, f) :: l.drop i
  | [], i, h, _, _ => by
    have : i = 0 := by simpa using h
    subst this
    rfl
  | p :: r, 0, _, _, h2 => by
    have := h2 p rfl
    show (if bytesBefore nm p.1 then _ else _) = _
    rw [if_pos this]
    rfl
  | p :: r, i + 1, hl, h1, h2 => by
    have hp := h1 0 p (by omega) rfl
    have hn : bytesBefore nm p.1 = false := by
      cases h : bytesBefore nm p.1 with
      | false => rfl
      | true => have := before_trans hp h; rw [before_irrefl] at this; cases this
    show (if bytesBefore nm p.1 then _ else _) = _
    rw [if_neg (by rw [hn]; decide), ins_at (i := i) (by simpa using hl) (fun j q hj hq => h1 (j + 1) q (by omega) (by simpa using hq)) (fun q hq => h2 q (by simpa using hq))]
    rfl
theorem del_at {nm : Name} {f : Fl} {l : Fs} {i : Nat} (hU : Up l) (h : l[i]? = some (nm, f)) : del nm l = l.take i ++ l.drop (i + 1) := by
  obtain ⟨hi, e⟩ := List.getElem?_eq_some_iff.1 h
  have hl : l = l.take i ++ (nm, f) :: l.drop (i + 1) := by
    rw [← e, ← List.drop_eq_getElem_cons hi, List.take_append_drop]
  have hU' := hU
  rw [hl] at hU'
  unfold Up at hU'
  rw [List.pairwise_append] at hU'
  obtain ⟨_, h2, h3⟩ := hU'
  conv => lhs; rw [hl]
  unfold del
  rw [List.filter_append, List.filter_eq_self.2, List.filter_cons, if_neg (by simp), List.filter_eq_self.2]
  · intro q hq
    have := before_ne ((List.pairwise_cons.1 h2).1 q hq)
    simpa using fun e => this e.symm
  · intro q hq
    have := before_ne (h3 q hq (nm, f) (List.mem_cons_self ..))
    simpa using this

/-- The document's disk is now so. -/
def Rs (B rb : Nat) (dd : D) (w w' : World) : Prop := Below B w w' ∧ Rm w w' ∧ ∃ lv tv, Ra w' B rb lv tv dd
theorem Rs.on {B rb : Nat} {dd : D} {w0 w w' : World} (h : Rs B rb dd w w') (hb : Below B w0 w) (hf : Rm w0 w) : Rs B rb dd w0 w' := ⟨hb.trans h.1, hf.trans h.2.1, h.2.2⟩

theorem grown_after {w x x' : World} {row : Option Nat} (h : Below w.heap.size w x) (h2 : x.grownBy x' row) : w.grownBy x' row :=
  ⟨h2.os.trans h.os, h2.tape.trans h.tape, h2.output.trans h.output, Nat.le_trans h.size h2.size, fun k hk hne => (h2.block k (Nat.lt_of_lt_of_le hk h.size) hne).trans (h.block k hk)⟩

/-- How far a row is made: the row, the one file's literal. -/
structure PS (w0 : World) (B T : Nat) (f : In) (ro : Option (Value × List In)) (oo : Option Nat) (x : World) : Prop where
  bel : Below T w0 x
  row : ∀ v l, ro = some (v, l) → OwG x B T v l
  one : ∀ b, oo = some b → Sq (FoEl B) 3 x (some ⟨b, 0, none⟩) 1 1 [f] ∧ T ≤ b ∧ b < x.heap.size
  dis : ∀ v l b, ro = some (v, l) → oo = some b → v.ownBlock ≠ some b
section
variable {w0 x x' : World} {B T : Nat} {f : In} {ro : Option (Value × List In)} {oo : Option Nat}
theorem PS.start {w0 : World} (hT : T = w0.heap.size) : PS w0 B T f none none w0 := ⟨Below.refl _ _, fun _ _ h => by (cases h), fun _ h => by (cases h), fun _ _ _ h => by (cases h)⟩
theorem PS.on (h : PS w0 B T f ro oo x) (hT : T ≤ x.heap.size) (hb : Below x.heap.size x x') : PS w0 B T f ro oo x' :=
  ⟨h.bel.trans (hb.mono hT), fun v l e => OwG.below (h.row v l e) hb, fun b e => by
    obtain ⟨h1, h2, h3⟩ := h.one b e
    exact ⟨h1.below (FoEl.below hb) hb, h2, Nat.lt_of_lt_of_le h3 hb.size⟩, h.dis⟩
theorem PS.bel_size (h : PS w0 B T f ro oo x) (hT : T ≤ w0.heap.size) : T ≤ x.heap.size := Nat.le_trans hT h.bel.size
theorem PS.drew_ (h : PS w0 B T f ro oo x) (hT : T ≤ w0.heap.size) : PS w0 B T f ro oo x.drew := h.on (h.bel_size hT) (bD (Below.refl _ _))
theorem OwS_base3 {w : World} {Bd T : Nat} {v : Value} {l : List In} (h : OwG w Bd T v l) (hB : B ≤ T) : OwG w Bd B v l := by
  obtain ⟨xs, h1, h2⟩ := h
  exact ⟨xs, ownsRow_base h1 hB, h2⟩
theorem PS.nil (h : PS w0 B T f none oo x) (hT : T ≤ x.heap.size) : PS w0 B T f (some (.slice (some ⟨x.heap.size, 0, none⟩) 0 0, [])) oo (x.alloc (.cells #[] 84)) := by
  have h1 := h.on hT (below_alloc x (.cells #[] 84))
  refine ⟨h1.bel, fun v l e => ?_, h1.one, fun v l b e eb => ?_⟩
  · injection e with e
    injection e with e1 e2
    subst e1; subst e2
    exact ⟨[], ⟨by simp, .inr ⟨x.heap.size, 0, #[], rfl, hT, heap_alloc_new x _, Nat.le_refl _, by decide, by simp, by simp⟩⟩, Reads.nil _⟩
  · injection e with e
    injection e with e1 e2
    subst e1
    have := (h.one b eb).2.2
    intro e3
    have e4 : some x.heap.size = some b := e3
    injection e4 with e4
    omega
theorem PS.lit (h : PS w0 B T f ro none x) (hT : T ≤ x.heap.size) {s : ByteArray} {v : Value} {z : Int} (h1 : f.nm = s.data.toList) (h2 : OwB x B 5 v f.data) (h3 : f.safe = z) :
    PS w0 B T f ro (some x.heap.size) (x.alloc (.cells #[.string s, v, .int .i64 z] 84)) := by
  have hba := below_alloc x (.cells #[.string s, v, .int .i64 z] 84)
  have g1 := h.on hT hba
  refine ⟨g1.bel, g1.row, fun b e => ?_, fun v l b e eb => ?_⟩
  · injection e with e
    subst e
    exact ⟨sq_one x [.string s, v, .int .i64 z] f 84 (0, 0) rfl ⟨s, v, by rw [h3], h1, OwB.below h2 hba⟩, hT, (Array.getElem?_eq_some_iff.1 (heap_alloc_new x _)).1⟩
  · injection eb with eb
    subst eb
    intro e3
    have := (OwS.lt (h.row v l e) _ e3).2
    omega
theorem PS.app {v v' : Value} {l l' : List In} (h : PS w0 B T f (some (v, l)) oo x) (hT : T ≤ x.heap.size) (hg : x.grownBy x' v.ownBlock) (hb : Below T x x') (ho : OwG x' B T v' l') (hv : v'.ownBlock = v.ownBlock ∨ v'.ownBlock = some x.heap.size) : PS w0 B T f (some (v', l')) oo x' := by
  refine ⟨h.bel.trans hb, fun v2 l2 e => ?_, fun b e => ?_, fun v2 l2 b e eb => ?_⟩
  · injection e with e
    injection e with e1 e2
    subst e1; subst e2
    exact ho
  · obtain ⟨h1, h2, h3⟩ := h.one b e
    have hne := h.dis v l b rfl e
    have hbk : x'.heap[b]? = x.heap[b]? := hg.block b h3 (fun e => hne e.symm)
    refine ⟨⟨h1.len, h1.le, h1.max, h1.nil, fun hn => ?_⟩, h2, Nat.lt_of_lt_of_le h3 hg.size⟩
    obtain ⟨b', off, e', hlt, hc⟩ := h1.cell hn
    injection e' with e'
    injection e' with e1 e2 _
    subst e1; subst e2
    refine ⟨b, 0, rfl, Nat.lt_of_lt_of_le h3 hg.size, fun i y hi => ?_⟩
    obtain ⟨vs, g1, g2, g3⟩ := hc i y hi
    exact ⟨vs, g1, FoEl.kept hg (ows_noE (h.row v l rfl) (by decide)) _ _ g2, fun j u hu => by
      have := g3 j u hu
      simp only [World.cell?, hbk] at this ⊢
      exact this⟩
  · injection e with e
    injection e with e1 e2
    subst e1
    rcases hv with e3 | e3
    · rw [e3]; exact h.dis v l b rfl eb
    · rw [e3]
      intro e4
      injection e4 with e4
      have := (h.one b eb).2.2
      omega
end

set_option maxHeartbeats 2000000 in
set_option maxRecDepth 100000 in
set_option pp.deepTerms true in
set_option pp.maxSteps 40000 in
theorem rPut_any (w : World) (B rb : Nat) (lv tv : Value) (d : D) (h : Ra w B rb lv tv d) (s : ByteArray) (hs : s.size ≤ 1000000) (A0 : Option Addr) (n0 c0 : Nat) (data : List UInt8) (hd : Bs w A0 n0 c0 data) (hn0 : n0 ≤ 1000000000) (safe : Nat)
    (hno : ∀ p ∈ d.fs, p.1 ≠ s.data.toList) (hsz : ∀ p ∈ d.fs, p.1.length ≤ 1000000) (hl : d.fs.length ≤ 1000000) :
    Calls Tryz.prog 106 #[.pointer (some ⟨rb, 0, none⟩), .agg #[.string s, .slice A0 n0 c0, .int .i64 (safe : Nat)]] w fun e w' => e = .returned (.tuple #[]) ∧ Rs B rb { d with fs := ins s.data.toList ⟨data, safe⟩ d.fs } w w' ∧ w.grownBy w' (some rb) := by
  obtain ⟨fb, hfb⟩ : ∃ fb, w.heap.size = fb := ⟨_, rfl⟩
  obtain ⟨w1, hw1⟩ : ∃ w1, w.alloc (.cells #[.string s, .slice A0 n0 c0, .int .i64 (safe : Nat)] 84) = w1 := ⟨_, rfl⟩
  have hba := below_alloc w (.cells #[.string s, .slice A0 n0 c0, .int .i64 (safe : Nat)] 84)
  have hnew := heap_alloc_new w (.cells #[.string s, .slice A0 n0 c0, .int .i64 (safe : Nat)] 84)
  rw [hw1] at hba hnew
  rw [hfb] at hnew
  have hrlt := h.lt
  have h0' := Lib.hid h
  have hd0' := Lib.hid hd
  have h1 := h.below hba
  obtain ⟨A, c, hlv, hq⟩ := h1.sq
  subst hlv
  have hle := hq.le
  have hmx := hq.max
  have hflt : fb < w1.heap.size := (Array.getElem?_eq_some_iff.1 hnew).1
  have hrlt1 := h1.lt
  obtain ⟨n, hn⟩ : ∃ n, d.fs.length = n := ⟨_, rfl⟩
  have hsall : ∀ x, Below w1.heap.size w1 x → Ra x B rb (.slice A d.fs.length c) tv d ∧ Sq (FoEl B) 3 x A d.fs.length c (d.fs.map toIn) ∧ Bs x A0 n0 c0 data ∧ x.heap[fb]? = some (.cells #[.string s, .slice A0 n0 c0, .int .i64 (safe : Nat)] 84) ∧ Below w.heap.size w x :=
    fun x hb => ⟨h1.below hb, hq.below (FoEl.below hb) hb, (hd.below hba).below hb, (hb.block fb hflt).trans hnew, hba.trans (hb.mono hba.size)⟩
  rw [hn] at hle hsall hl
  have hn' := Lib.hid hn
  have hsall' := Lib.hid hsall
  have hno' := Lib.hid hno
  have hsz' := Lib.hid hsz
  clear h h1 hq hd hno hsz hsall hba hnew hn
  go_enter Tryz.func106, Tryz.ntmps106
  go_wp2_with fail
  go_loopw [4] (fun i wr => ∃ k : Nat, k ≤ n ∧ i = .int .i64 k ∧ Hid (∀ (j : Nat) q, j < k → d.fs[j]? = some q → bytesBefore q.1 s.data.toList = true) ∧ Hid (Below w1.heap.size w1 wr)) (fun i _ => n - (intOf i).toNat)
  case atStart => exact ⟨0, by omega, rfl, Lib.hid fun i q h => absurd h (by omega), Lib.hid (Below.refl _ _)⟩
  case round =>
    obtain ⟨k, hk, rfl, hpre, hbw⟩ := hrel
    obtain ⟨hR, hq, hBs, hfbk, hbww⟩ := hsall'.out wr hbw.out
    have k1 : wr.cell? ⟨rb, 1, none⟩ = some (.slice A n c) := cell_blk hR.blk rfl
    have f0 : wr.cell? ⟨fb, 0, none⟩ = some (.string s) := cell_blk hfbk rfl
    have hR' := Lib.hid hR
    have hq' := Lib.hid hq
    have hBs' := Lib.hid hBs
    have hbww' := Lib.hid hbww
    have hfbk' := Lib.hid hfbk
    clear hR hq hBs hbww hfbk
    go_upto_region 2 with fail
    go_cut [24] (fun v wx => ∃ cnd : Bool, v = .bool cnd ∧ Hid (if cnd = true then k < n ∧ ∀ q, d.fs[k]? = some q → bytesBefore q.1 s.data.toList = true else ∀ q, d.fs[k]? = some q → bytesBefore s.data.toList q.1 = true) ∧ Hid (Below wr.heap.size wr wx))
    case first =>
      by_cases hlt : k < n
      · obtain ⟨b, off, f, vs, rfl, hb, hf, hvs, hel, hcs⟩ := hq'.out.at_ hlt
        obtain ⟨sk, dv, rfl, hsk, _⟩ := hel
        have m0 : wr.cell? ⟨b, off + k * 3, none⟩ = some (.string sk) := hcs 0 _ rfl
        rw [List.getElem?_map, Option.map_eq_some_iff] at hf
        obtain ⟨p, hp, hpf⟩ := hf
        have hpn : Hid (p.1 = sk.data.toList) := Lib.hid (by rw [← hsk, ← hpf]; rfl)
        have hp' := Lib.hid hp
        have hks : sk.size ≤ 1000000 := by
          have := hsz'.out p (List.mem_of_getElem? hp)
          rw [hpn.out, Array.length_toList] at this
          exact this
        have hless : ∀ x, Calls Tryz.prog 163 #[.string sk, .string s] x fun e w' => e = .returned (.bool (bytesBefore p.1 s.data.toList)) ∧ ∃ k, w' = x.drewN k := fun x => by
          rw [hpn.out]; exact Less_any sk s hks hs x
        have hless' := Lib.hid hless
        have i0 : (k : Int) < (n : Int) := by omega
        have i1 : decide ((k : Int) < (n : Int)) = true := by rw [decide_eq_true_eq]; omega
        have i2 : decide (k < n) = true := by rw [decide_eq_true_eq]; omega
        have i3 : (0 : Int) ≤ (k : Int) := by omega
        clear hcs hvs hp hpf hsk hless hks
        go_wp2_with fail
        refine Pl.wp_region_plan 20 (.take 0 (.take 1 (.take 2 (.take 3 (.take 4 (.take 5 (.take 6 (.take 7 (.take 8 (.take 9 (.take 10 (.take 11 (.take 12 (.take 13 (.take 14 (.take 15 (.take 16 (.take 17 (.run 18 (.take 19 .done))))))))))))))))))))
          (fun x => x.cell? ⟨rb, 1, none⟩ = some (.slice (some ⟨b, off, none⟩) n c) ∧ x.cell? ⟨b, off + k * 3, none⟩ = some (.string sk) ∧ x.cell? ⟨fb, 0, none⟩ = some (.string s)) (by kernel_rfl) (by kernel_rfl) (by exact ⟨k1, m0, f0⟩) ?_
        simp only [Pl.fill, List.getElem?_cons_zero, List.getElem?_cons_succ, List.drop_succ_cons, List.drop_zero]
        iterate 18
          refine Pl.take_go ?_ (by rfl) (fun _ _ _ h => h) ?_ ?_
          rotate_left
          · (intro x hSw; (try dsimp only at hSw); go_simp; try with_reducible rfl)
          try simp only [Act.put, List.setIfInBounds_toArray, List.set_cons_zero, List.set_cons_succ]
        refine Pl.run_go (fun K hK => ?_)
        go_simp
        refine (hless'.out _).mono ?_
        rintro e w3 ⟨rfl, q, rfl⟩
        have hb3 : Below wr.heap.size wr (wr.drew.drewN q) := (bD (Below.refl wr.heap.size wr)).trans (Joins.below_draws _ _ _)
        generalize wr.drew.drewN q = w3 at hb3 ⊢
        have hlt3 := Lib.hid hb
        have m1 := (hb3.cell (p := ⟨rb, 1, none⟩) hR'.out.lt).trans k1
        have m2 := (hb3.cell (p := ⟨b, off + k * 3, none⟩) hb).trans m0
        have m3 := (hb3.cell (p := ⟨fb, 0, none⟩) (Array.getElem?_eq_some_iff.1 hfbk'.out).1).trans f0
        dsimp only
        refine hK.out _ _ (Pl.more_go _ (fun _ h => h) (by exact ⟨m1, m2, m3⟩) ?_)
        clear hK K
        refine Pl.take_go ?_ (by rfl) (fun _ _ _ h => h) ?_ ?_
        rotate_left
        · (intro x hSw; (try dsimp only at hSw); go_simp; try with_reducible rfl)
        try simp only [Act.put, List.setIfInBounds_toArray, List.set_cons_zero, List.set_cons_succ]
        refine Pl.done_go ?_
        have hb3' := Lib.hid hb3
        have hcnd : Hid (if bytesBefore p.1 s.data.toList = true then k < n ∧ ∀ q, d.fs[k]? = some q → bytesBefore q.1 s.data.toList = true else ∀ q, d.fs[k]? = some q → bytesBefore s.data.toList q.1 = true) := Lib.hid (by
          split
          · rename_i h
            refine ⟨hlt, fun q hq => ?_⟩
            rw [hp'.out] at hq
            injection hq with hq
            rw [← hq]; exact h
          · rename_i h
            intro q hq
            have hq0 := hq
            rw [hp'.out] at hq
            injection hq with hq
            subst hq
            exact before_total (by simpa using h) (hno'.out _ (List.mem_of_getElem? hq0)))
        clear k1 m0 f0 m1 m2 m3 hb3 hbw hless'
        go_wp2_with fail
        go_meet
        exact ⟨_, rfl, hcnd, hb3'⟩
      · have hkn : k = n := by omega
        have i1 : decide ((k : Int) < (n : Int)) = false := by rw [decide_eq_false_iff_not]; omega
        have i2 : decide (k < n) = false := by rw [decide_eq_false_iff_not]; omega
        have hcnd : Hid (if false = true then k < n ∧ ∀ q, d.fs[k]? = some q → bytesBefore q.1 s.data.toList = true else ∀ q, d.fs[k]? = some q → bytesBefore s.data.toList q.1 = true) := Lib.hid (by
          rw [if_neg (by decide)]
          intro q hq
          have := (List.getElem?_eq_some_iff.1 hq).1
          have := hn'.out
          omega)
        clear hkn
        go_wp2_with fail
        refine Pl.wp_region_plan 20 (.take 0 (.take 1 (.take 2 (.take 3 (.take 4 (.take 5 (.take 6 (.take 7 (.take 8 (.take 9 (.take 10 (.take 11 (.take 12 (.take 13 (.take 14 (.take 15 (.take 16 (.take 17 (.run 18 (.take 19 .done))))))))))))))))))))
          (fun x => x.cell? ⟨rb, 1, none⟩ = some (.slice A n c)) (by kernel_rfl) (by kernel_rfl) (by exact k1) ?_
        simp only [Pl.fill, List.getElem?_cons_zero, List.getElem?_cons_succ, List.drop_succ_cons, List.drop_zero]
        iterate 8
          refine Pl.take_go ?_ (by rfl) (fun _ _ _ h => h) ?_ ?_
          rotate_left
          · (intro x hSw; (try dsimp only at hSw); go_simp; try with_reducible rfl)
          try simp only [Act.put, List.setIfInBounds_toArray, List.set_cons_zero, List.set_cons_succ]
        iterate 10
          refine Pl.take_skip (by rfl) (fun _ _ _ h => h) ?_
          try simp only [Act.put, List.setIfInBounds_toArray, List.set_cons_zero, List.set_cons_succ]
        refine Pl.run_go (fun K hK => ?_)
        go_simp
        refine hK.out _ _ (Pl.more_go _ (fun _ h => h) (by exact k1) ?_)
        clear hK K
        try simp only [Act.put, List.setIfInBounds_toArray, List.set_cons_zero, List.set_cons_succ]
        refine Pl.take_go ?_ (by rfl) (fun _ _ _ h => h) ?_ ?_
        rotate_left
        · (intro x hSw; (try dsimp only at hSw); go_simp; try with_reducible rfl)
        try simp only [Act.put, List.setIfInBounds_toArray, List.set_cons_zero, List.set_cons_succ]
        refine Pl.done_go ?_
        clear k1 f0 hbw
        go_wp2_with fail
        go_meet
        exact ⟨_, rfl, hcnd, Lib.hid (bD (Below.refl _ wr))⟩
    case rest =>
      obtain ⟨cnd, rfl, hcnd, hb3⟩ := hcut
      clear k1 f0
      cases cnd with
      | true =>
        have hlt := hcnd.out.1
        go_wp2_with fail
        go_roundw
        case rel =>
          refine ⟨k + 1, by omega, by go_num, Lib.hid fun j q hj hq => ?_, Lib.hid (hbw.out.trans (hb3.out.mono hbw.out.size))⟩
          by_cases e : j = k
          · subst e; exact hcnd.out.2 q hq
          · exact hpre.out j q (by omega) hq
        case measure => simp [intOf]; omega
      | false =>
        have hbwc := Lib.hid (hbw.out.trans (hb3.out.mono hbw.out.size))
        obtain ⟨_, _, hBsc, hfbc, hbc⟩ := hsall'.out wc hbwc.out
        have hBsc' := Lib.hid (hBsc.below (below_alloc wc (.cells #[] 5)))
        have hfbc' := Lib.hid hfbc
        have hbc' := Lib.hid hbc
        have f1a := ((below_alloc wc (.cells #[] 5)).cell (p := ⟨fb, 1, none⟩) (Array.getElem?_eq_some_iff.1 hfbc).1).trans (cell_blk hfbc (i := 1) rfl)
        have hlt : fb < wc.heap.size := (Array.getElem?_eq_some_iff.1 hfbc).1
        clear hBsc hfbc hbc hb3 hbw hfbk' hbww' hBs' hq' hR'
        go_wp2_with (at_builtin; apply stop_here)
        refine Stop.go (append_bytes _ 22 5 Tryz.underlying22 (by kernel_rfl) rfl _ _ rfl wc.heap.size _ [] rfl ?h1 A0 n0 c0 data rfl hBsc'.out n0 ?h3 ?h4 ?h5 ?_)
        case h1 => exact ⟨by simp, .inr ⟨_, _, #[], rfl, Nat.le_refl _, heap_alloc_new wc _, Nat.le_refl _, by decide, by simp, by simp⟩⟩
        case h3 => simp
        case h4 => omega
        case h5 => simp
        intro A2 c2 w3 ho hg3 hb3
        have hb3w : Below w.heap.size w w3 := (hbc'.out.trans ((below_alloc wc (.cells #[] 5)).mono hbc'.out.size)).trans (hb3.mono hbc'.out.size)
        have hfb3 : w3.heap[fb]? = some (.cells #[.string s, .slice A0 n0 c0, .int .i64 (safe : Nat)] 84) := (((below_alloc wc (.cells #[] 5)).trans hb3).block fb hlt).trans hfbc'.out
        have fz := frozen_of_row w3 fb 1 _ _ hfb3
        have hfb4 := setCell_blk hfb3 (i := 1) (.slice A2 n0 c2)
        have hb4 : Below w.heap.size w (w3.setCell ⟨fb, 1, none⟩ (.slice A2 n0 c2)) := Below.setCell hb3w (by show w.heap.size ≤ fb; omega) _
        have h4 := h0'.out.below hb4
        have ho4 : OwB (w3.setCell ⟨fb, 1, none⟩ (.slice A2 n0 c2)) B 5 (.slice A2 n0 c2) data := by
          rw [List.nil_append] at ho
          exact row_kept (OwB.base ho (by have := hbc'.out.size; have := h0'.out.base; omega)) (grown_set w3 ⟨fb, 1, none⟩ (.slice A2 n0 c2)) (NoE.of hfb3 (by intro cs fr e; injection e with _ e2 _; exact absurd e2 (by decide)))
        have f1 : w3.cell? ⟨fb, 1, none⟩ = some (.slice A0 n0 c0) := cell_blk hfb3 rfl
        have hfb4' := Lib.hid hfb4
        have hb4' := Lib.hid hb4
        have h4' := Lib.hid h4
        have ho4' := Lib.hid ho4
        clear ho hg3 hb3 hb3w hfb3 hfb4 hb4 h4 ho4 f1a hBsc' hfbc' hbc' hbwc
        go_wp2_with fail
        generalize w3.setCell ⟨fb, 1, none⟩ (.slice A2 n0 c2) = w4 at hfb4' hb4' h4' ho4' ⊢
        have r1 : w4.cell? ⟨rb, 1, none⟩ = some (.slice A d.fs.length c) := cell_blk h4'.out.blk rfl
        rw [hn'.out] at r1
        have g0 : w4.cell? ⟨fb, 0, none⟩ = some (.string s) := cell_blk hfb4'.out rfl
        have g1 : w4.cell? ⟨fb, 1, none⟩ = some (.slice A2 n0 c2) := cell_blk hfb4'.out rfl
        have g2 : w4.cell? ⟨fb, 2, none⟩ = some (.int .i64 (safe : Nat)) := cell_blk hfb4'.out rfl
        have q0 : (k : Int) ≤ (c : Int) := by omega
        have q1 : (0 : Int) ≤ (k : Int) ∧ (k : Int) ≤ (c : Int) := ⟨by omega, by omega⟩
        have q2 : (0 : Int) ≤ (k : Int) ∧ (k : Int) ≤ (n : Int) := ⟨by omega, by omega⟩
        have q3 : k ≤ c := by omega
        have q4 : (k : Int) ≤ (n : Int) := by omega
        obtain ⟨T, hT⟩ : ∃ T, w4.heap.size = T := ⟨_, rfl⟩
        have hp0 := Lib.hid (PS.start (B := B) (f := toIn (s.data.toList, ⟨data, safe⟩)) hT.symm)
        have hTe : Hid (T ≤ w4.heap.size) := Lib.hid (by omega)
        have hTw : w.heap.size ≤ T := by have := hb4'.out.size; omega
        have hBT : B ≤ T := by have := h0'.out.base; have := h0'.out.lt; omega
        have hup : ∀ x, Below T w4 x → Below w4.heap.size w4 x := fun x hb => by rw [hT]; exact hb
        have hSall : Hid (∀ x, Below T w4 x → x.cell? ⟨rb, 1, none⟩ = some (.slice A n c) ∧ x.cell? ⟨fb, 0, none⟩ = some (.string s) ∧ x.cell? ⟨fb, 1, none⟩ = some (.slice A2 n0 c2) ∧ x.cell? ⟨fb, 2, none⟩ = some (.int .i64 (safe : Nat))) := Lib.hid fun x hb =>
          ⟨((hup x hb).cell (p := ⟨rb, 1, none⟩) h4'.out.lt).trans r1, ((hup x hb).cell (p := ⟨fb, 0, none⟩) (Array.getElem?_eq_some_iff.1 hfb4'.out).1).trans g0, ((hup x hb).cell (p := ⟨fb, 1, none⟩) (Array.getElem?_eq_some_iff.1 hfb4'.out).1).trans g1, ((hup x hb).cell (p := ⟨fb, 2, none⟩) (Array.getElem?_eq_some_iff.1 hfb4'.out).1).trans g2⟩
        have hnf1 : Hid ((toIn (s.data.toList, ⟨data, safe⟩)).nm = s.data.toList) := Lib.hid rfl
        have howx : Hid (∀ x, Below T w4 x → OwB x B 5 (.slice A2 n0 c2) (toIn (s.data.toList, ⟨data, safe⟩)).data) := Lib.hid fun x hb => OwB.below ho4'.out (hup x hb)
        have hsq4 : Sq (FoEl B) 3 w4 A n c (d.fs.map toIn) := by
          have := h4'.out.row.sq' (by omega) (A := A) (n := d.fs.length) (c := c)
          rw [hn'.out] at this
          exact this
        have hL : Hid (∀ x, Below T w4 x → Sq (FoEl B) 3 x A k c ((d.fs.map toIn).take k)) := Lib.hid fun x hb => by
          have := (hsq4.below (FoEl.below (hup x hb)) (hup x hb)).cut 0 k (by omega) hk A (fun b off e _ => by rw [e, Nat.zero_mul]; rfl) (fun e => e)
          rw [Nat.sub_zero, Nat.sub_zero, List.drop_zero] at this
          exact this
        have hR : Hid (∀ x, Below T w4 x → Sq (FoEl B) 3 x (if c = k then A else Option.map (fun x => x.add (k * 3)) A) (n - k) (c - k) ((d.fs.map toIn).drop k)) := Lib.hid fun x hb => by
          have := (hsq4.below (FoEl.below (hup x hb)) (hup x hb)).cut k n hk (Nat.le_refl _) (if c = k then A else Option.map (fun x => x.add (k * 3)) A) (fun b off e hkc => by
            rw [if_neg (by omega), e]
            show some (Addr.add ⟨b, off, none⟩ (k * 3)) = _
            unfold Addr.add
            split
            · rename_i h0; rw [h0]; rfl
            · rfl) (fun hne => by
            split
            · exact hne
            · intro e; cases A with
              | none => exact hne rfl
              | some a => cases e)
          rw [List.take_of_length_le (by rw [List.length_drop, List.length_map]; have := hn'.out; omega)] at this
          exact this
        have hkl : Hid (((d.fs.map toIn).take k).length = k) := Lib.hid (by rw [List.length_take, List.length_map]; have := hn'.out; omega)
        have hins : ins s.data.toList ⟨data, safe⟩ d.fs = d.fs.take k ++ (s.data.toList, ⟨data, safe⟩) :: d.fs.drop k :=
          ins_at (by have := hn'.out; omega) hpre.out hcnd.out
        have hfz : Hid (∀ x, Below T w4 x → x.frozen? ⟨rb, 1, none⟩ = false) := Lib.hid fun x hb => frozen_of_row x rb 1 _ _ (h4'.out.below (hup x hb)).blk
        have hfin : Hid (∀ x A5 c5, Below T w4 x → OwG x B T (.slice A5 (n + 1) c5) ((d.fs.map toIn).take k ++ [toIn (s.data.toList, ⟨data, safe⟩)] ++ (d.fs.map toIn).drop k) → Rs B rb { d with fs := ins s.data.toList ⟨data, safe⟩ d.fs } w (x.setCell ⟨rb, 1, none⟩ (.slice A5 (n + 1) c5)) ∧ w.grownBy (x.setCell ⟨rb, 1, none⟩ (.slice A5 (n + 1) c5)) (some rb)) := Lib.hid fun x A5 c5 hb ho => by
          have hx := h4'.out.below (hup x hb)
          have hwx : Below w.heap.size w x := hb4'.out.trans (hb.mono hTw)
          have e : (d.fs.map toIn).take k ++ [toIn (s.data.toList, ⟨data, safe⟩)] ++ (d.fs.map toIn).drop k = (ins s.data.toList ⟨data, safe⟩ d.fs).map toIn := by
            rw [hins]; simp
          rw [e] at ho
          obtain ⟨g1, g2, g3⟩ := hx.setA (d' := { d with fs := ins s.data.toList ⟨data, safe⟩ d.fs }) (grown_set x ⟨rb, 1, none⟩ (.slice A5 (n + 1) c5)) (setCell_blk hx.blk _) (OwS_base3 (ows_keptN ho (grown_set x ⟨rb, 1, none⟩ (.slice A5 (n + 1) c5)) hx.noF (FoEl.kept (grown_set x ⟨rb, 1, none⟩ (.slice A5 (n + 1) c5)) hx.noB)) hBT) (hx.tr_set 1 _)
          exact ⟨⟨(hwx.mono (by have := h0'.out.base; have := h0'.out.lt; omega)).trans g2, (Rm.below hwx).trans g3, _, _, g1⟩, grown_after hwx (grown_set x ⟨rb, 1, none⟩ (.slice A5 (n + 1) c5))⟩
        clear hfb4' hb4' h4' ho4' hsq4 hins hup hcnd hpre hT h0' hd0' hno' hsz' hsall'
        refine Pl.wp_region_plan 19 (.take 0 (.take 2 (.take 3 (.take 4 (.take 5 (.take 6 (.take 7 (.take 9 (.take 12 (.take 13 (.take 14 (.take 15 (.take 16 (.take 17 (.two 1 (.two 8 (.run 10 (.run 11 (.run 18 .done))) 10 (.run 8 (.run 11 (.run 18 .done)))) 10 (.run 1 (.run 8 (.run 11 (.run 18 .done)))))))))))))))))))
          (fun x => x.cell? ⟨rb, 1, none⟩ = some (.slice A n c) ∧ x.cell? ⟨fb, 0, none⟩ = some (.string s) ∧ x.cell? ⟨fb, 1, none⟩ = some (.slice A2 n0 c2) ∧ x.cell? ⟨fb, 2, none⟩ = some (.int .i64 (safe : Nat))) (by kernel_rfl) (by kernel_rfl) (by exact ⟨r1, g0, g1, g2⟩) ?_
        simp only [Pl.fill, List.getElem?_cons_zero, List.getElem?_cons_succ, List.drop_succ_cons, List.drop_zero]
        iterate 14
          refine Pl.take_go ?_ (by rfl) (fun _ _ _ h => h) ?_ ?_
          rotate_left
          · (intro x hSw; (try dsimp only at hSw); go_simp; try with_reducible rfl)
          try simp only [Act.put, List.setIfInBounds_toArray, List.set_cons_zero, List.set_cons_succ]
        refine Pl.two_go ?_ ?_
        · refine Pl.run_go (fun K hK => ?_)
          go_simp
          have hp1 := Lib.hid ((hp0.out.nil (hp0.out.bel_size hTe.out)).drew_ hTe.out)
          obtain ⟨p1, p2, p3, p4⟩ := hSall.out _ hp1.out.bel
          generalize w4.heap.size = kr at hp1 ⊢
          generalize (w4.alloc (.cells #[] 84)).drew = x1 at hp1 p1 p2 p3 p4 ⊢
          refine hK.out _ _ (Pl.more_go _ (fun _ h => h) (by exact ⟨p1, p2, p3, p4⟩) ?_)
          clear hK K p1 p2 p3 p4
          try simp only [Act.put, List.setIfInBounds_toArray, List.set_cons_zero, List.set_cons_succ]
          refine Pl.two_go ?_ ?_
          · refine Pl.run_list (fun K hK => ?_)
            refine append_sq (El := FoEl B) (k := 3) _ 63 84 (.agg #[.string ⟨#[]⟩, .slice none 0 0, .int .i64 0]) 48 Tryz.underlying63 (by kernel_rfl) rfl (by omega) rfl _ _ rfl T _ _ rfl (hp1.out.row _ _ rfl) _ k c _ rfl (hL.out _ hp1.out.bel) (FoEl.one _) (fun w' hg => FoEl.kept hg (ows_noE (hp1.out.row _ _ rfl) (by decide))) k ?h3 ?h4 ?h5 ?h6 ?_
            case h3 => simp
            case h4 => omega
            case h5 => omega
            case h6 => exact hp1.out.bel_size hTe.out
            intro A7 c7 x2 ho hg hb hv
            rw [List.nil_append] at ho
            have hp2 := Lib.hid (hp1.out.app (hp1.out.bel_size hTe.out) hg hb ho hv)
            obtain ⟨p1, p2, p3, p4⟩ := hSall.out _ hp2.out.bel
            clear ho hg hb hv
            refine hK.out _ _ (Pl.more_go _ (fun _ h => h) (by exact ⟨p1, p2, p3, p4⟩) ?_)
            clear hK K p2 p3 p4 p1
            try simp only [Act.put, List.setIfInBounds_toArray, List.set_cons_zero, List.set_cons_succ]
            refine Pl.run_go (fun K hK => ?_)
            go_simp
            have hp3 := Lib.hid (hp2.out.lit (z := (safe : Nat)) (hp2.out.bel_size hTe.out) hnf1.out (howx.out _ hp2.out.bel) rfl)
            obtain ⟨p1, p2, p3, p4⟩ := hSall.out _ hp3.out.bel
            generalize x2.heap.size = ko at hp3 ⊢
            generalize x2.alloc (.cells #[.string s, .slice A2 n0 c2, .int .i64 (safe : Nat)] 84) = x3 at hp3 p1 p2 p3 p4 ⊢
            refine hK.out _ _ (Pl.more_go _ (fun _ h => h) (by exact ⟨p1, p2, p3, p4⟩) ?_)
            clear hK K p1 p2 p3 p4
            try simp only [Act.put, List.setIfInBounds_toArray, List.set_cons_zero, List.set_cons_succ]
            refine Pl.run_list (fun K hK => ?_)
            refine append_sq (El := FoEl B) (k := 3) _ 63 84 (.agg #[.string ⟨#[]⟩, .slice none 0 0, .int .i64 0]) 48 Tryz.underlying63 (by kernel_rfl) rfl (by omega) rfl _ _ rfl T _ _ rfl (hp3.out.row _ _ rfl) _ 1 1 _ rfl (hp3.out.one _ rfl).1 (FoEl.one _) (fun w' hg => FoEl.kept hg (ows_noE (hp3.out.row _ _ rfl) (by decide))) (k + 1) ?h3 ?h4 ?h5 ?h6 ?_
            case h3 => rw [hkl.out]
            case h4 => omega
            case h5 => omega
            case h6 => exact hp3.out.bel_size hTe.out
            intro A9 c9 x4 ho hg hb hv
            have hp4 := Lib.hid (hp3.out.app (hp3.out.bel_size hTe.out) hg hb ho hv)
            obtain ⟨p1, p2, p3, p4⟩ := hSall.out _ hp4.out.bel
            clear ho hg hb hv
            refine hK.out _ _ (Pl.more_go _ (fun _ h => h) (by exact ⟨p1, p2, p3, p4⟩) ?_)
            clear hK K p2 p3 p4 p1
            try simp only [Act.put, List.setIfInBounds_toArray, List.set_cons_zero, List.set_cons_succ]
            refine Pl.run_list (fun K hK => ?_)
            refine append_sq (El := FoEl B) (k := 3) _ 63 84 (.agg #[.string ⟨#[]⟩, .slice none 0 0, .int .i64 0]) 48 Tryz.underlying63 (by kernel_rfl) rfl (by omega) rfl _ _ rfl T _ _ rfl (hp4.out.row _ _ rfl) _ (n - k) (c - k) _ rfl (hR.out _ hp4.out.bel) (FoEl.one _) (fun w' hg => FoEl.kept hg (ows_noE (hp4.out.row _ _ rfl) (by decide))) (n + 1) ?h3 ?h4 ?h5 ?h6 ?_
            case h3 => rw [List.length_append, hkl.out]; simp; omega
            case h4 => omega
            case h5 => omega
            case h6 => exact hp4.out.bel_size hTe.out
            intro A10 c10 x5 ho hg hb hv
            have hp5 := Lib.hid (hp4.out.app (hp4.out.bel_size hTe.out) hg hb ho hv)
            obtain ⟨p1, p2, p3, p4⟩ := hSall.out _ hp5.out.bel
            clear ho hg hb hv
            refine hK.out _ _ (Pl.more_go _ (fun _ h => h) (by exact ⟨p1, p2, p3, p4⟩) ?_)
            clear hK K p2 p3 p4
            try simp only [Act.put, List.setIfInBounds_toArray, List.set_cons_zero, List.set_cons_succ]
            refine Pl.done_go ?_
            have fz := hfz.out _ hp5.out.bel
            have hf := Lib.hid (hfin.out _ _ _ hp5.out.bel (hp5.out.row _ _ rfl))
            clear hfin hfz hSall hp0 hp1 hp2 hp3 hp4 hp5
            go_wp2_with fail
            all_goals (go_end0; exact ⟨rfl, hf.out⟩)
          · refine Pl.run_go (fun K hK => ?_)
            go_simp
            have hp2 := Lib.hid (hp1.out.lit (z := (safe : Nat)) (hp1.out.bel_size hTe.out) hnf1.out (howx.out _ hp1.out.bel) rfl)
            obtain ⟨p1, p2, p3, p4⟩ := hSall.out _ hp2.out.bel
            generalize x1.heap.size = ko at hp2 ⊢
            generalize x1.alloc (.cells #[.string s, .slice A2 n0 c2, .int .i64 (safe : Nat)] 84) = x2 at hp2 p1 p2 p3 p4 ⊢
            refine hK.out _ _ (Pl.more_go _ (fun _ h => h) (by exact ⟨p1, p2, p3, p4⟩) ?_)
            clear hK K p1 p2 p3 p4
            try simp only [Act.put, List.setIfInBounds_toArray, List.set_cons_zero, List.set_cons_succ]
            refine Pl.run_list (fun K hK => ?_)
            refine append_sq (El := FoEl B) (k := 3) _ 63 84 (.agg #[.string ⟨#[]⟩, .slice none 0 0, .int .i64 0]) 48 Tryz.underlying63 (by kernel_rfl) rfl (by omega) rfl _ _ rfl T _ _ rfl (hp2.out.row _ _ rfl) _ k c _ rfl (hL.out _ hp2.out.bel) (FoEl.one _) (fun w' hg => FoEl.kept hg (ows_noE (hp2.out.row _ _ rfl) (by decide))) k ?h3 ?h4 ?h5 ?h6 ?_
            case h3 => simp
            case h4 => omega
            case h5 => omega
            case h6 => exact hp2.out.bel_size hTe.out
            intro A8 c8 x3 ho hg hb hv
            rw [List.nil_append] at ho
            have hp3 := Lib.hid (hp2.out.app (hp2.out.bel_size hTe.out) hg hb ho hv)
            obtain ⟨p1, p2, p3, p4⟩ := hSall.out _ hp3.out.bel
            clear ho hg hb hv
            refine hK.out _ _ (Pl.more_go _ (fun _ h => h) (by exact ⟨p1, p2, p3, p4⟩) ?_)
            clear hK K p2 p3 p4 p1
            try simp only [Act.put, List.setIfInBounds_toArray, List.set_cons_zero, List.set_cons_succ]
            refine Pl.run_list (fun K hK => ?_)
            refine append_sq (El := FoEl B) (k := 3) _ 63 84 (.agg #[.string ⟨#[]⟩, .slice none 0 0, .int .i64 0]) 48 Tryz.underlying63 (by kernel_rfl) rfl (by omega) rfl _ _ rfl T _ _ rfl (hp3.out.row _ _ rfl) _ 1 1 _ rfl (hp3.out.one _ rfl).1 (FoEl.one _) (fun w' hg => FoEl.kept hg (ows_noE (hp3.out.row _ _ rfl) (by decide))) (k + 1) ?h3 ?h4 ?h5 ?h6 ?_
            case h3 => rw [hkl.out]
            case h4 => omega
            case h5 => omega
            case h6 => exact hp3.out.bel_size hTe.out
            intro A9 c9 x4 ho hg hb hv
            have hp4 := Lib.hid (hp3.out.app (hp3.out.bel_size hTe.out) hg hb ho hv)
            obtain ⟨p1, p2, p3, p4⟩ := hSall.out _ hp4.out.bel
            clear ho hg hb hv
            refine hK.out _ _ (Pl.more_go _ (fun _ h => h) (by exact ⟨p1, p2, p3, p4⟩) ?_)
            clear hK K p2 p3 p4 p1
            try simp only [Act.put, List.setIfInBounds_toArray, List.set_cons_zero, List.set_cons_succ]
            refine Pl.run_list (fun K hK => ?_)
            refine append_sq (El := FoEl B) (k := 3) _ 63 84 (.agg #[.string ⟨#[]⟩, .slice none 0 0, .int .i64 0]) 48 Tryz.underlying63 (by kernel_rfl) rfl (by omega) rfl _ _ rfl T _ _ rfl (hp4.out.row _ _ rfl) _ (n - k) (c - k) _ rfl (hR.out _ hp4.out.bel) (FoEl.one _) (fun w' hg => FoEl.kept hg (ows_noE (hp4.out.row _ _ rfl) (by decide))) (n + 1) ?h3 ?h4 ?h5 ?h6 ?_
            case h3 => rw [List.length_append, hkl.out]; simp; omega
            case h4 => omega
            case h5 => omega
            case h6 => exact hp4.out.bel_size hTe.out
            intro A10 c10 x5 ho hg hb hv
            have hp5 := Lib.hid (hp4.out.app (hp4.out.bel_size hTe.out) hg hb ho hv)
            obtain ⟨p1, p2, p3, p4⟩ := hSall.out _ hp5.out.bel
            clear ho hg hb hv
            refine hK.out _ _ (Pl.more_go _ (fun _ h => h) (by exact ⟨p1, p2, p3, p4⟩) ?_)
            clear hK K p2 p3 p4
            try simp only [Act.put, List.setIfInBounds_toArray, List.set_cons_zero, List.set_cons_succ]
            refine Pl.done_go ?_
            have fz := hfz.out _ hp5.out.bel
            have hf := Lib.hid (hfin.out _ _ _ hp5.out.bel (hp5.out.row _ _ rfl))
            clear hfin hfz hSall hp0 hp1 hp2 hp3 hp4 hp5
            go_wp2_with fail
            all_goals (go_end0; exact ⟨rfl, hf.out⟩)
        · refine Pl.run_go (fun K hK => ?_)
          go_simp
          have hp1 := Lib.hid ((hp0.out.lit (z := (safe : Nat)) (hp0.out.bel_size hTe.out) hnf1.out (howx.out _ hp0.out.bel) rfl).drew_ hTe.out)
          obtain ⟨p1, p2, p3, p4⟩ := hSall.out _ hp1.out.bel
          generalize w4.heap.size = ko at hp1 ⊢
          generalize (w4.alloc (.cells #[.string s, .slice A2 n0 c2, .int .i64 (safe : Nat)] 84)).drew = x1 at hp1 p1 p2 p3 p4 ⊢
          refine hK.out _ _ (Pl.more_go _ (fun _ h => h) (by exact ⟨p1, p2, p3, p4⟩) ?_)
          clear hK K p1 p2 p3 p4
          try simp only [Act.put, List.setIfInBounds_toArray, List.set_cons_zero, List.set_cons_succ]
          refine Pl.run_go (fun K hK => ?_)
          go_simp
          have hp2 := Lib.hid (hp1.out.nil (hp1.out.bel_size hTe.out))
          obtain ⟨p1, p2, p3, p4⟩ := hSall.out _ hp2.out.bel
          generalize x1.heap.size = kr at hp2 ⊢
          generalize x1.alloc (.cells #[] 84) = x2 at hp2 p1 p2 p3 p4 ⊢
          refine hK.out _ _ (Pl.more_go _ (fun _ h => h) (by exact ⟨p1, p2, p3, p4⟩) ?_)
          clear hK K p1 p2 p3 p4
          try simp only [Act.put, List.setIfInBounds_toArray, List.set_cons_zero, List.set_cons_succ]
          refine Pl.run_list (fun K hK => ?_)
          refine append_sq (El := FoEl B) (k := 3) _ 63 84 (.agg #[.string ⟨#[]⟩, .slice none 0 0, .int .i64 0]) 48 Tryz.underlying63 (by kernel_rfl) rfl (by omega) rfl _ _ rfl T _ _ rfl (hp2.out.row _ _ rfl) _ k c _ rfl (hL.out _ hp2.out.bel) (FoEl.one _) (fun w' hg => FoEl.kept hg (ows_noE (hp2.out.row _ _ rfl) (by decide))) k ?h3 ?h4 ?h5 ?h6 ?_
          case h3 => simp
          case h4 => omega
          case h5 => omega
          case h6 => exact hp2.out.bel_size hTe.out
          intro A8 c8 x3 ho hg hb hv
          rw [List.nil_append] at ho
          have hp3 := Lib.hid (hp2.out.app (hp2.out.bel_size hTe.out) hg hb ho hv)
          obtain ⟨p1, p2, p3, p4⟩ := hSall.out _ hp3.out.bel
          clear ho hg hb hv
          refine hK.out _ _ (Pl.more_go _ (fun _ h => h) (by exact ⟨p1, p2, p3, p4⟩) ?_)
          clear hK K p2 p3 p4 p1
          try simp only [Act.put, List.setIfInBounds_toArray, List.set_cons_zero, List.set_cons_succ]
          refine Pl.run_list (fun K hK => ?_)
          refine append_sq (El := FoEl B) (k := 3) _ 63 84 (.agg #[.string ⟨#[]⟩, .slice none 0 0, .int .i64 0]) 48 Tryz.underlying63 (by kernel_rfl) rfl (by omega) rfl _ _ rfl T _ _ rfl (hp3.out.row _ _ rfl) _ 1 1 _ rfl (hp3.out.one _ rfl).1 (FoEl.one _) (fun w' hg => FoEl.kept hg (ows_noE (hp3.out.row _ _ rfl) (by decide))) (k + 1) ?h3 ?h4 ?h5 ?h6 ?_
          case h3 => rw [hkl.out]
          case h4 => omega
          case h5 => omega
          case h6 => exact hp3.out.bel_size hTe.out
          intro A9 c9 x4 ho hg hb hv
          have hp4 := Lib.hid (hp3.out.app (hp3.out.bel_size hTe.out) hg hb ho hv)
          obtain ⟨p1, p2, p3, p4⟩ := hSall.out _ hp4.out.bel
          clear ho hg hb hv
          refine hK.out _ _ (Pl.more_go _ (fun _ h => h) (by exact ⟨p1, p2, p3, p4⟩) ?_)
          clear hK K p2 p3 p4 p1
          try simp only [Act.put, List.setIfInBounds_toArray, List.set_cons_zero, List.set_cons_succ]
          refine Pl.run_list (fun K hK => ?_)
          refine append_sq (El := FoEl B) (k := 3) _ 63 84 (.agg #[.string ⟨#[]⟩, .slice none 0 0, .int .i64 0]) 48 Tryz.underlying63 (by kernel_rfl) rfl (by omega) rfl _ _ rfl T _ _ rfl (hp4.out.row _ _ rfl) _ (n - k) (c - k) _ rfl (hR.out _ hp4.out.bel) (FoEl.one _) (fun w' hg => FoEl.kept hg (ows_noE (hp4.out.row _ _ rfl) (by decide))) (n + 1) ?h3 ?h4 ?h5 ?h6 ?_
          case h3 => rw [List.length_append, hkl.out]; simp; omega
          case h4 => omega
          case h5 => omega
          case h6 => exact hp4.out.bel_size hTe.out
          intro A10 c10 x5 ho hg hb hv
          have hp5 := Lib.hid (hp4.out.app (hp4.out.bel_size hTe.out) hg hb ho hv)
          obtain ⟨p1, p2, p3, p4⟩ := hSall.out _ hp5.out.bel
          clear ho hg hb hv
          refine hK.out _ _ (Pl.more_go _ (fun _ h => h) (by exact ⟨p1, p2, p3, p4⟩) ?_)
          clear hK K p2 p3 p4
          try simp only [Act.put, List.setIfInBounds_toArray, List.set_cons_zero, List.set_cons_succ]
          refine Pl.done_go ?_
          have fz := hfz.out _ hp5.out.bel
          have hf := Lib.hid (hfin.out _ _ _ hp5.out.bel (hp5.out.row _ _ rfl))
          clear hfin hfz hSall hp0 hp1 hp2 hp3 hp4 hp5
          go_wp2_with fail
          all_goals (go_end0; exact ⟨rfl, hf.out⟩)
end Go.Proofs.YtfdpnjebhllpkaaGreatDoor.Dk
end

section
namespace Go.Proofs.YtfdpnjebhllpkaaGreatDoor.Dk
open Go.RowKit

/-- The same, its values named. -/
def Rw (B rb : Nat) (lv tv : Value) (dd : D) (w w' : World) : Prop := Below B w w' ∧ Rm w w' ∧ Ra w' B rb lv tv dd
theorem Rw.rs {B rb : Nat} {lv tv : Value} {dd : D} {w w' : World} (h : Rw B rb lv tv dd w w') : Rs B rb dd w w' := ⟨h.1, h.2.1, _, _, h.2.2⟩
/-- What drop leaves. -/
def Dr (B rb : Nat) (lv : Value) (dd : D) (w w' : World) : Prop := ∃ lv' tv', Rw B rb lv' tv' dd w w' ∧ w.grownBy w' (some rb) ∧ (lv' = lv ∨ ∀ b, lv'.ownBlock = some b → w.heap.size ≤ b)
theorem Dr.rs {B rb : Nat} {lv : Value} {dd : D} {w w' : World} (h : Dr B rb lv dd w w') : Rs B rb dd w w' := by
  obtain ⟨_, _, h, _⟩ := h
  exact h.rs
theorem Rs.refl {w : World} {B rb : Nat} {lv tv : Value} {d : D} (h : Ra w B rb lv tv d) : Rs B rb d w w := ⟨Below.refl _ _, Rm.refl _, lv, tv, h⟩

theorem wrap_nat (n : Nat) (h : n < 9223372036854775808) : IntKind.i64.wrap (n : Int) = (n : Int) := by
  have e : (n : Int) % 2 ^ 64 = n := Int.emod_eq_of_lt (by omega) (by omega)
  simp only [IntKind.wrap, IntKind.bits, IntKind.signed, e]
  rw [if_neg]
  simp
  omega

set_option maxHeartbeats 2000000 in
set_option maxRecDepth 100000 in
theorem rDrop_any (w : World) (B rb : Nat) (lv tv : Value) (d : D) (h : Ra w B rb lv tv d) (s : ByteArray) (hU : Up d.fs) (hl : d.fs.length ≤ 1000000) :
    Calls Tryz.prog 149 #[.pointer (some ⟨rb, 0, none⟩), .string s] w fun e w' => e = .returned (.tuple #[]) ∧ Dr B rb lv { d with fs := del s.data.toList d.fs } w w' := by
  have hat := rAt_any w B rb lv tv d h s
  rcases atI_get (fs := d.fs) (nm := s.data.toList) with ⟨e1, e2⟩ | ⟨k, f, e1, e2, e3⟩
  · rw [e1] at hat
    have hf : Hid (Dr B rb lv { d with fs := del s.data.toList d.fs } w w) := Lib.hid (by rw [del_none e2]; exact ⟨lv, tv, ⟨Below.refl _ _, Rm.refl _, h⟩, World.grownBy.refl _ _, .inl rfl⟩)
    clear h e1 e2
    go_enter Tryz.func149, Tryz.ntmps149
    go_wp2_with fail
    refine hat.mono ?_
    rintro e w2 ⟨rfl, rfl⟩
    go_wp2_with fail
    go_end0
    exact ⟨rfl, hf.out⟩
  · rw [e1] at hat
    have hkl0 : k < d.fs.length := (List.getElem?_eq_some_iff.1 e2).1
    have hdel := Lib.hid (del_at hU e2)
    obtain ⟨A, c, hlv, hsq4⟩ := h.sq
    have hle := hsq4.le
    have hmx := hsq4.max
    obtain ⟨n, hn⟩ : ∃ n, d.fs.length = n := ⟨_, rfl⟩
    have r1 : w.cell? ⟨rb, 1, none⟩ = some (.slice A d.fs.length c) := by
      rw [← hlv]
      exact cell_blk h.blk rfl
    rw [hn] at r1 hsq4 hkl0 hle hl
    obtain ⟨T, hT⟩ : ∃ T, w.heap.size = T := ⟨_, rfl⟩
    have hp0 := Lib.hid (PS.start (B := B) (f := toIn (s.data.toList, f)) hT.symm)
    have hTe : Hid (T ≤ w.heap.size) := Lib.hid (by omega)
    have hBT : B ≤ T := by have := h.base; have := h.lt; omega
    have hup : ∀ x, Below T w x → Below w.heap.size w x := fun x hb => by rw [hT]; exact hb
    have hSall : Hid (∀ x, Below T w x → x.cell? ⟨rb, 1, none⟩ = some (.slice A n c)) := Lib.hid fun x hb => ((hup x hb).cell (p := ⟨rb, 1, none⟩) h.lt).trans r1
    have hL : Hid (∀ x, Below T w x → Sq (FoEl B) 3 x A k c ((d.fs.map toIn).take k)) := Lib.hid fun x hb => by
      have := (hsq4.below (FoEl.below (hup x hb)) (hup x hb)).cut 0 k (by omega) (by omega) A (fun b off e _ => by rw [e, Nat.zero_mul]; rfl) (fun e => e)
      rw [Nat.sub_zero, Nat.sub_zero, List.drop_zero] at this
      exact this
    have hR : Hid (∀ x, Below T w x → Sq (FoEl B) 3 x (if c = k + 1 then A else Option.map (fun x => x.add ((k + 1) * 3)) A) (n - (k + 1)) (c - (k + 1)) ((d.fs.map toIn).drop (k + 1))) := Lib.hid fun x hb => by
      have := (hsq4.below (FoEl.below (hup x hb)) (hup x hb)).cut (k + 1) n (by omega) (Nat.le_refl _) (if c = k + 1 then A else Option.map (fun x => x.add ((k + 1) * 3)) A) (fun b off e hkc => by
        rw [if_neg (by omega), e]
        show some (Addr.add ⟨b, off, none⟩ ((k + 1) * 3)) = _
        unfold Addr.add
        split
        · rename_i h0; rw [h0]; rfl
        · rfl) (fun hne => by
        split
        · exact hne
        · intro e; cases A with
          | none => exact hne rfl
          | some a => cases e)
      rw [List.take_of_length_le (by rw [List.length_drop, List.length_map]; omega)] at this
      exact this
    have hkl : Hid (((d.fs.map toIn).take k).length = k) := Lib.hid (by rw [List.length_take, List.length_map]; omega)
    have hfz : Hid (∀ x, Below T w x → x.frozen? ⟨rb, 1, none⟩ = false) := Lib.hid fun x hb => frozen_of_row x rb 1 _ _ (h.below (hup x hb)).blk
    have hfin : Hid (∀ x A5 c5, Below T w x → OwG x B T (.slice A5 (n - 1) c5) ((d.fs.map toIn).take k ++ (d.fs.map toIn).drop (k + 1)) → Dr B rb lv { d with fs := del s.data.toList d.fs } w (x.setCell ⟨rb, 1, none⟩ (.slice A5 (n - 1) c5))) := Lib.hid fun x A5 c5 hb ho => by
      have hx := h.below (hup x hb)
      have e : (d.fs.map toIn).take k ++ (d.fs.map toIn).drop (k + 1) = (del s.data.toList d.fs).map toIn := by
        rw [hdel.out]; simp
      have ho0 := ho
      rw [e] at ho
      obtain ⟨g1, g2, g3⟩ := hx.setA (d' := { d with fs := del s.data.toList d.fs }) (grown_set x ⟨rb, 1, none⟩ (.slice A5 (n - 1) c5)) (setCell_blk hx.blk _) (OwS_base3 (ows_keptN ho (grown_set x ⟨rb, 1, none⟩ (.slice A5 (n - 1) c5)) hx.noF (FoEl.kept (grown_set x ⟨rb, 1, none⟩ (.slice A5 (n - 1) c5)) hx.noB)) hBT) (hx.tr_set 1 _)
      exact ⟨_, _, ⟨(hb.mono hBT).trans g2, (Rm.below (hup x hb)).trans g3, g1⟩, grown_after (hup x hb) (grown_set x ⟨rb, 1, none⟩ (.slice A5 (n - 1) c5)), .inr fun b hb5 => by rw [hT]; exact (OwS.lt ho0 b hb5).1⟩
    have j1 : decide ((k : Int) ≥ 0) = true := by rw [decide_eq_true_eq]; omega
    have j2 : decide ((0 : Int) ≤ (k : Int)) = true := by rw [decide_eq_true_eq]; omega
    have q0 : (k : Int) ≤ (c : Int) := by omega
    have q1 : (0 : Int) ≤ (k : Int) ∧ (k : Int) ≤ (c : Int) := ⟨by omega, by omega⟩
    have q2 : (0 : Int) ≤ ((k + 1 : Nat) : Int) ∧ ((k + 1 : Nat) : Int) ≤ (n : Int) := ⟨by omega, by omega⟩
    have q3 : k ≤ c := by omega
    have q4 : k + 1 ≤ n := by omega
    have q5 : (0 : Int) ≤ (k : Int) := by omega
    have q6 : IntKind.i64.wrap ((k : Int) + 1) = ((k + 1 : Nat) : Int) := by rw [show (k : Int) + 1 = ((k + 1 : Nat) : Int) by omega]; exact wrap_nat (k + 1) (by omega)
    have q7 : (0 : Int) ≤ (k : Int) + 1 ∧ (k : Int) + 1 ≤ (n : Int) := ⟨by omega, by omega⟩
    clear h hlv hup hsq4 hn hT hU e1 e2 e3 hdel hBT
    go_enter Tryz.func149, Tryz.ntmps149
    go_wp2_with fail
    refine hat.mono ?_
    rintro e w2 ⟨rfl, rfl⟩
    go_wp2_with fail
    refine Pl.wp_region_plan 17 (.take 0 (.take 2 (.take 3 (.take 4 (.take 5 (.take 6 (.take 7 (.take 9 (.take 10 (.take 11 (.take 12 (.take 13 (.take 14 (.take 15 (.run 1 (.run 8 (.run 16 .done)))))))))))))))))
      (fun x => x.cell? ⟨rb, 1, none⟩ = some (.slice A n c)) (by kernel_rfl) (by kernel_rfl) (by exact r1) ?_
    simp only [Pl.fill, List.getElem?_cons_zero, List.getElem?_cons_succ, List.drop_succ_cons, List.drop_zero]
    iterate 14
      refine Pl.take_go ?_ (by rfl) (fun _ _ _ h => h) ?_ ?_
      rotate_left
      · (intro x hSw; (try dsimp only at hSw); go_simp; try with_reducible rfl)
      try simp only [Act.put, List.setIfInBounds_toArray, List.set_cons_zero, List.set_cons_succ]
    refine Pl.run_go (fun K hK => ?_)
    go_simp
    have hp1 := Lib.hid ((hp0.out.nil (hp0.out.bel_size hTe.out)).drew_ hTe.out)
    have p1 := hSall.out _ hp1.out.bel
    generalize w.heap.size = kr at hp1 ⊢
    generalize (w.alloc (.cells #[] 84)).drew = x1 at hp1 p1 ⊢
    refine hK.out _ _ (Pl.more_go _ (fun _ h => h) (by exact p1) ?_)
    clear hK K p1
    try simp only [Act.put, List.setIfInBounds_toArray, List.set_cons_zero, List.set_cons_succ]
    refine Pl.run_list (fun K hK => ?_)
    refine append_sq (El := FoEl B) (k := 3) _ 63 84 (.agg #[.string ⟨#[]⟩, .slice none 0 0, .int .i64 0]) 48 Tryz.underlying63 (by kernel_rfl) rfl (by omega) rfl _ _ rfl T _ _ rfl (hp1.out.row _ _ rfl) _ k c _ rfl (hL.out _ hp1.out.bel) (FoEl.one _) (fun w' hg => FoEl.kept hg (ows_noE (hp1.out.row _ _ rfl) (by decide))) k ?h3 ?h4 ?h5 ?h6 ?_
    case h3 => simp
    case h4 => omega
    case h5 => omega
    case h6 => exact hp1.out.bel_size hTe.out
    intro A7 c7 x2 ho hg hb hv
    rw [List.nil_append] at ho
    have hp2 := Lib.hid (hp1.out.app (hp1.out.bel_size hTe.out) hg hb ho hv)
    have p1 := hSall.out _ hp2.out.bel
    clear ho hg hb hv
    refine hK.out _ _ (Pl.more_go _ (fun _ h => h) (by exact p1) ?_)
    clear hK K p1
    try simp only [Act.put, List.setIfInBounds_toArray, List.set_cons_zero, List.set_cons_succ]
    refine Pl.run_list (fun K hK => ?_)
    refine append_sq (El := FoEl B) (k := 3) _ 63 84 (.agg #[.string ⟨#[]⟩, .slice none 0 0, .int .i64 0]) 48 Tryz.underlying63 (by kernel_rfl) rfl (by omega) rfl _ _ rfl T _ _ rfl (hp2.out.row _ _ rfl) _ (n - (k + 1)) (c - (k + 1)) _ rfl (hR.out _ hp2.out.bel) (FoEl.one _) (fun w' hg => FoEl.kept hg (ows_noE (hp2.out.row _ _ rfl) (by decide))) (n - 1) ?h3 ?h4 ?h5 ?h6 ?_
    case h3 => rw [hkl.out]; omega
    case h4 => omega
    case h5 => omega
    case h6 => exact hp2.out.bel_size hTe.out
    intro A8 c8 x3 ho hg hb hv
    have hp3 := Lib.hid (hp2.out.app (hp2.out.bel_size hTe.out) hg hb ho hv)
    have p1 := hSall.out _ hp3.out.bel
    clear ho hg hb hv
    refine hK.out _ _ (Pl.more_go _ (fun _ h => h) (by exact p1) ?_)
    clear hK K
    try simp only [Act.put, List.setIfInBounds_toArray, List.set_cons_zero, List.set_cons_succ]
    refine Pl.done_go ?_
    have fz := hfz.out _ hp3.out.bel
    have hf := Lib.hid (hfin.out _ _ _ hp3.out.bel (hp3.out.row _ _ rfl))
    clear hfin hfz hSall hp0 hp1 hp2 hp3
    go_wp2_with fail
    all_goals (go_end0; exact ⟨rfl, hf.out⟩)
end Go.Proofs.YtfdpnjebhllpkaaGreatDoor.Dk
end

section
namespace Go.Proofs.YtfdpnjebhllpkaaGreatDoor.Dk
open Go.RowKit

theorem wrap_sub (a b : Nat) (ha : a ≤ 9223372036854775807) (hb : b ≤ 9223372036854775807) : IntKind.i64.wrap ((a : Int) - (b : Int)) = (a : Int) - (b : Int) := by
  rcases Nat.lt_or_ge a b with h | h
  · have e : ((a : Int) - (b : Int)) % 2 ^ 64 = (a : Int) - (b : Int) + 2 ^ 64 := by omega
    simp only [IntKind.wrap, IntKind.bits, IntKind.signed, e]
    rw [if_pos]
    · omega
    · simp
      omega
  · have e : ((a : Int) - (b : Int)) % 2 ^ 64 = (a : Int) - (b : Int) := Int.emod_eq_of_lt (by omega) (by omega)
    simp only [IntKind.wrap, IntKind.bits, IntKind.signed, e]
    rw [if_neg]
    simp
    omega

set_option maxHeartbeats 4000000 in
set_option maxRecDepth 100000 in
theorem rRefuse_any (w : World) (B rb : Nat) (lv tv : Value) (d : D) (h : Ra w B rb lv tv d) (K : Nat) (hK : 1 ≤ K ∧ K ≤ 6) (s s2 : ByteArray) (hs : s.size ≤ 1000000) (hs2 : s2.size ≤ 1000000) (n : Int) (b : List UInt8) (hn : K = 2 → n = b.length)
    (hu : used d.fs ≤ 1000000000) (hroom : d.room ≤ 9223372036854775807) (hl : d.fs.length ≤ 1000000) :
    Calls Tryz.prog 148 #[.pointer (some ⟨rb, 0, none⟩), .int .i64 (K : Nat), .string s, .string s2, .int .i64 n] w fun e w' => e = .returned (.int .i64 (refuse d K s.data.toList s2.data.toList n b)) ∧ ∃ m, w' = w.drewN m := by
  have hat := rAt_any w B rb lv tv d h s
  have hm1 := May_any s hs
  have hm2 := May_any s2 hs2
  have k0 : w.cell? ⟨rb, 0, none⟩ = some (.int .i64 (d.room : Nat)) := cell_blk h.blk rfl
  have k1 : w.cell? ⟨rb, 1, none⟩ = some lv := cell_blk h.blk rfl
  have hus : Hid (∀ k, Calls Tryz.prog 107 #[.pointer (some ⟨rb, 0, none⟩)] (w.drewN k) fun e w' => e = .returned (.int .i64 (used d.fs : Nat)) ∧ w.drewN k = w') := Lib.hid fun k => rUsed_any _ B rb lv tv d (h.below (Joins.below_draws _ w k)) hu
  have hus1 : Hid (Calls Tryz.prog 107 #[.pointer (some ⟨rb, 0, none⟩)] w.drew fun e w' => e = .returned (.int .i64 (used d.fs : Nat)) ∧ w.drew = w') := Lib.hid (rUsed_any _ B rb lv tv d (h.below (bD (Below.refl _ w))) hu)
  obtain ⟨A, c, rfl, hq⟩ := h.sq
  have hle := hq.le
  have hmx := hq.max
  have hmost := hl
  obtain ⟨R, hR⟩ : ∃ R, refuse d K s.data.toList s2.data.toList n b = R := ⟨_, rfl⟩
  rw [hR]
  obtain ⟨len, hlen⟩ : ∃ len, d.fs.length = len := ⟨_, rfl⟩
  rw [hlen] at k1
  have hm1' := Lib.hid hm1
  have hm2' := Lib.hid hm2
  have hn' := Lib.hid hn
  unfold refuse at hR
  rcases atI_get (fs := d.fs) (nm := s.data.toList) with ⟨e1, e2⟩ | ⟨i, f, e1, e2, e3⟩
  · rw [e1] at hat
    clear h hq hm1 hm2 hn e1
    by_cases k1K : K = 1
    · subst k1K
      rw [if_pos rfl] at hR
      have hlen' := Lib.hid hlen
      go_enter Tryz.func148, Tryz.ntmps148
      go_wp2_with fail
      refine hat.mono ?_
      rintro e w2 ⟨rfl, rfl⟩
      go_wp2_with fail
      refine (hm1'.out _).mono ?_
      rintro e w3 ⟨rfl, rfl⟩
      cases hmay : may s.data.toList with
      | false =>
        rw [if_pos hmay] at hR
        have hmay2 := Lib.hid hmay
        obtain rfl := hR
        clear hmay
        go_wp2_with fail
        go_ret
        exact ⟨rfl, 0, rfl⟩
      | true =>
        rw [if_neg (by rw [hmay]; decide)] at hR
        clear hmay
        rw [e2, if_neg (by decide)] at hR
        by_cases h64 : 64 ≤ len
        · rw [if_pos (by have := hlen'.out; omega)] at hR
          have j1 : decide ((len : Int) ≥ 64) = true := by rw [decide_eq_true_eq]; omega
          have j2 : decide (64 ≤ len) = true := by rw [decide_eq_true_eq]; omega
          obtain rfl := hR
          clear e2 h64
          go_wp2_with fail
          go_ret
          exact ⟨rfl, 0, rfl⟩
        · rw [if_neg (by have := hlen'.out; omega)] at hR
          have j1 : decide ((len : Int) ≥ 64) = false := by rw [decide_eq_false_iff_not]; omega
          have j2 : decide (64 ≤ len) = false := by rw [decide_eq_false_iff_not]; omega
          obtain rfl := hR
          clear e2 h64
          go_wp2_with fail
          go_ret
          exact ⟨rfl, 0, rfl⟩
    · rw [if_neg k1K, e2] at hR
      have j1 : ((K : Int) == 1) = false := by rw [beq_eq_false_iff_ne]; omega
      have j2 : (K == 1) = false := by rw [beq_eq_false_iff_ne]; exact k1K
      obtain rfl := hR
      clear e2 k1K hlen
      go_enter Tryz.func148, Tryz.ntmps148
      go_wp2_with fail
      refine hat.mono ?_
      rintro e w2 ⟨rfl, rfl⟩
      go_wp2_with fail
      go_ret
      exact ⟨rfl, 0, rfl⟩
  · rw [e1] at hat
    have i0 : (0 : Int) ≤ (i : Int) := by omega
    have i1 : decide ((i : Int) ≥ 0) = true := by rw [decide_eq_true_eq]; omega
    have i2 : decide ((i : Int) < 0) = false := by rw [decide_eq_false_iff_not]; omega
    have hil : i < d.fs.length := (List.getElem?_eq_some_iff.1 e2).1
    rw [hlen] at hil
    have i3 : (i : Int) < (len : Int) := by omega
    rw [hlen] at hq
    obtain ⟨bk, off, g, vs, rfl, hb, hf, hvs, hel, hcs⟩ := hq.at_ hil
    obtain ⟨sk, dv, rfl, _, hdv⟩ := hel
    obtain ⟨A0, c0, rfl, _⟩ := OwB.slice hdv
    have hg : g.data = f.data := by
      rw [List.getElem?_map, e2] at hf
      simp at hf
      rw [← hf]
      rfl
    have m1 : w.cell? ⟨bk, off + i * 3 + 1, none⟩ = some (.slice A0 g.data.length c0) := hcs 1 _ rfl
    rw [hg] at m1
    obtain ⟨fl, hfl⟩ : ∃ fl, f.data.length = fl := ⟨_, rfl⟩
    rw [hfl] at m1
    rw [e3] at hR
    dsimp only at hR
    rw [hfl] at hR
    have hlen' := Lib.hid hlen
    have hus' := hus
    clear h hq hm1 hm2 hn e1 e2 hcs hvs hf hdv hg hfl hlen hb
    by_cases k1K : K = 1
    · subst k1K
      rw [if_pos rfl] at hR
      go_enter Tryz.func148, Tryz.ntmps148
      go_wp2_with fail
      refine hat.mono ?_
      rintro e w2 ⟨rfl, rfl⟩
      go_wp2_with fail
      refine (hm1'.out _).mono ?_
      rintro e w3 ⟨rfl, rfl⟩
      cases hmay : may s.data.toList with
      | false =>
        rw [if_pos hmay] at hR
        have hmay2 := Lib.hid hmay
        obtain rfl := hR
        clear hmay
        go_wp2_with fail
        go_ret
        exact ⟨rfl, 0, rfl⟩
      | true =>
        rw [if_neg (by rw [hmay]; decide)] at hR
        clear hmay
        rw [Option.isSome_some, if_pos rfl] at hR
        obtain rfl := hR
        skip
        go_wp2_with fail
        go_ret
        exact ⟨rfl, 0, rfl⟩
    rw [if_neg k1K] at hR
    by_cases k2K : K = 2
    · subst k2K
      rw [if_pos rfl] at hR
      obtain rfl := hn'.out rfl
      obtain ⟨us, hus2⟩ : ∃ us, used d.fs = us := ⟨_, rfl⟩
      obtain ⟨bl, hbl⟩ : ∃ bl, b.length = bl := ⟨_, rfl⟩
      rw [hus2] at hu hR hus1
      rw [hbl] at hR ⊢
      have hwr : IntKind.i64.wrap ((d.room : Int) - (us : Int)) = (d.room : Int) - (us : Int) := wrap_sub d.room us hroom (by omega)
      obtain ⟨X, hX⟩ : ∃ X : Int, (d.room : Int) - (us : Int) = X := ⟨_, rfl⟩
      replace hwr := hwr.trans hX
      rw [hX] at hR
      have hmeet : ∀ cnd : Bool, decide ((bl : Int) > X) = cnd → Calls Tryz.prog 148 #[.pointer (some ⟨rb, 0, none⟩), .int .i64 ((2 : Nat) : Int), .string s, .string s2, .int .i64 (bl : Nat)] w fun e w' => e = .returned (.int .i64 (if cnd = true then 40 else 0)) ∧ ∃ m, w' = w.drewN m := fun cnd hc => by
        have hc2 : decide (X < (bl : Int)) = cnd := hc
        clear hX hus2 hbl k1K hR hus
        go_enter Tryz.func148, Tryz.ntmps148
        go_wp2_with fail
        refine hat.mono ?_
        rintro e w2 ⟨rfl, rfl⟩
        go_wp2_with fail
        refine Pl.wp_region_plan 13 (.take 0 (.take 1 (.take 2 (.take 3 (.take 4 (.take 5 (.take 6 (.take 7 (.take 8 (.run 9 (.take 10 (.take 11 (.take 12 .done)))))))))))))
          (fun x => x.cell? ⟨rb, 0, none⟩ = some (.int .i64 (d.room : Nat))) (by kernel_rfl) (by kernel_rfl) (by exact k0) ?_
        simp only [Pl.fill, List.getElem?_cons_zero, List.getElem?_cons_succ, List.drop_succ_cons, List.drop_zero]
        iterate 9
          refine Pl.take_go ?_ (by rfl) (fun _ _ _ h => h) ?_ ?_
          rotate_left
          · (intro x hSw; (try dsimp only at hSw); go_simp; try with_reducible rfl)
          try simp only [Act.put, List.setIfInBounds_toArray, List.set_cons_zero, List.set_cons_succ]
        refine Pl.run_go (fun K hK => ?_)
        go_simp
        refine hus1.out.mono ?_
        rintro e w3 ⟨rfl, rfl⟩
        dsimp only
        refine hK.out _ _ (Pl.more_go _ (fun _ h => h) (by exact k0) ?_)
        clear hK K
        iterate 3
          refine Pl.take_go ?_ (by rfl) (fun _ _ _ h => h) ?_ ?_
          rotate_left
          · (intro x hSw; (try dsimp only at hSw); go_simp; try with_reducible rfl)
          try simp only [Act.put, List.setIfInBounds_toArray, List.set_cons_zero, List.set_cons_succ]
        refine Pl.done_go ?_
        cases cnd with
        | true =>
          go_wp2_with fail
          go_ret
          exact ⟨rfl, 1, rfl⟩
        | false =>
          go_wp2_with fail
          go_ret
          exact ⟨rfl, 1, rfl⟩
      by_cases hlt : X < (bl : Int)
      · rw [if_pos hlt] at hR
        obtain rfl := hR
        exact hmeet true (by rw [decide_eq_true_eq]; exact hlt)
      · rw [if_neg hlt] at hR
        obtain rfl := hR
        exact hmeet false (by rw [decide_eq_false_iff_not]; exact hlt)
    rw [if_neg k2K] at hR
    have j1 : ((K : Int) == 1) = false := by rw [beq_eq_false_iff_ne]; omega
    have j1' : (K == 1) = false := by rw [beq_eq_false_iff_ne]; exact k1K
    have j2 : ((K : Int) == 2) = false := by rw [beq_eq_false_iff_ne]; omega
    have j2' : (K == 2) = false := by rw [beq_eq_false_iff_ne]; exact k2K
    by_cases k3K : K = 3
    · subst k3K
      rw [if_pos rfl] at hR
      clear k1K k2K hus hus1 hus' j1 j1' j2 j2'
      by_cases n0 : n < 0
      · rw [if_pos (.inl n0)] at hR
        obtain rfl := hR
        have t0 : decide (n < 0) = true := by rw [decide_eq_true_eq]; exact n0
        go_enter Tryz.func148, Tryz.ntmps148
        go_wp2_with fail
        refine hat.mono ?_
        rintro e w2 ⟨rfl, rfl⟩
        go_wp2_with fail
        go_quiet (fail)
        go_wp2_with fail
        go_ret
        exact ⟨rfl, _, rfl⟩
      have t0 : decide (n < 0) = false := by rw [decide_eq_false_iff_not]; exact n0
      by_cases n1 : (fl : Int) < n
      · rw [if_pos (.inr n1)] at hR
        obtain rfl := hR
        have t1 : decide (n > (fl : Int)) = true := by rw [decide_eq_true_eq]; exact n1
        have t2 : decide ((fl : Int) < n) = true := t1
        go_enter Tryz.func148, Tryz.ntmps148
        go_wp2_with fail
        refine hat.mono ?_
        rintro e w2 ⟨rfl, rfl⟩
        go_wp2_with fail
        go_quiet (fail)
        go_wp2_with fail
        go_ret
        exact ⟨rfl, _, rfl⟩
      · rw [if_neg (by omega)] at hR
        obtain rfl := hR
        have t1 : decide (n > (fl : Int)) = false := by rw [decide_eq_false_iff_not]; exact n1
        have t2 : decide ((fl : Int) < n) = false := t1
        go_enter Tryz.func148, Tryz.ntmps148
        go_wp2_with fail
        refine hat.mono ?_
        rintro e w2 ⟨rfl, rfl⟩
        go_wp2_with fail
        go_quiet (fail)
        go_wp2_with fail
        go_ret
        exact ⟨rfl, _, rfl⟩
    rw [if_neg k3K] at hR
    have j3 : ((K : Int) == 3) = false := by rw [beq_eq_false_iff_ne]; omega
    have j3' : (K == 3) = false := by rw [beq_eq_false_iff_ne]; exact k3K
    by_cases k5K : K = 5
    · subst k5K
      rw [if_pos rfl] at hR
      clear k1K k2K k3K hus hus1 hus' j1 j1' j2 j2' j3 j3'
      cases hmay : may s2.data.toList with
      | false =>
        rw [if_pos hmay] at hR
        obtain rfl := hR
        rw [hmay] at hm2'
        clear hmay
        go_enter Tryz.func148, Tryz.ntmps148
        go_wp2_with fail
        refine hat.mono ?_
        rintro e w2 ⟨rfl, rfl⟩
        go_wp2_with fail
        go_quiet (fail)
        go_wp2_with fail
        refine (hm2'.out _).mono ?_
        rintro e w3 ⟨rfl, rfl⟩
        go_wp2_with fail
        go_ret
        exact ⟨rfl, _, rfl⟩
      | true =>
        rw [if_neg (by rw [hmay]; decide)] at hR
        obtain rfl := hR
        rw [hmay] at hm2'
        clear hmay
        go_enter Tryz.func148, Tryz.ntmps148
        go_wp2_with fail
        refine hat.mono ?_
        rintro e w2 ⟨rfl, rfl⟩
        go_wp2_with fail
        go_quiet (fail)
        go_wp2_with fail
        refine (hm2'.out _).mono ?_
        rintro e w3 ⟨rfl, rfl⟩
        go_wp2_with fail
        go_ret
        exact ⟨rfl, _, rfl⟩
    rw [if_neg k5K] at hR
    obtain rfl := hR
    have j5 : ((K : Int) == 5) = false := by rw [beq_eq_false_iff_ne]; omega
    have j5' : (K == 5) = false := by rw [beq_eq_false_iff_ne]; exact k5K
    clear k1K k2K k3K k5K hus hus1 hus'
    go_enter Tryz.func148, Tryz.ntmps148
    go_wp2_with fail
    refine hat.mono ?_
    rintro e w2 ⟨rfl, rfl⟩
    go_wp2_with fail
    go_quiet (fail)
    go_wp2_with fail
    go_ret
    exact ⟨rfl, _, rfl⟩
end Go.Proofs.YtfdpnjebhllpkaaGreatDoor.Dk
end

section
namespace Go.Proofs.YtfdpnjebhllpkaaGreatDoor
open Go.RowKit

theorem flatten_set {k : Nat} {u : Value} {j : Nat} (hj : j < k) : ∀ {L : List (List Value)} {i : Nat} {vs : List Value}, (∀ v ∈ L, v.length = k) → L[i]? = some vs → L.flatten.set (i * k + j) u = (L.set i (vs.set j u)).flatten
  | [], i, vs, _, h => by simp at h
  | a :: L, 0, vs, hL, h => by
    simp at h
    subst h
    have := hL a (List.mem_cons_self ..)
    rw [List.flatten_cons, Nat.zero_mul, Nat.zero_add, List.set_append_left _ _ (by omega)]
    rfl
  | a :: L, i + 1, vs, hL, h => by
    simp at h
    have ha := hL a (List.mem_cons_self ..)
    have hm : (i + 1) * k + j = a.length + (i * k + j) := by rw [Nat.succ_mul]; omega
    rw [List.flatten_cons, hm, List.set_append_right _ _ (by omega), Nat.add_sub_cancel_left, flatten_set hj (fun v hv => hL v (List.mem_cons_of_mem _ hv)) h]
    rfl

theorem OwS.store {α : Type} {El : World → List Value → α → Prop} {k : Nat} {w : World} {B E g c : Nat} {l : List α} (h : OwS El k w B E (.slice (some ⟨g, 0, none⟩) l.length c) l) {i j : Nat} {x x' : α} (hi : l[i]? = some x) (hj : j < k) (u : Value)
    (h1 : ∀ vs, El w vs x → vs.length = k → El (w.setCell ⟨g, i * k + j, none⟩ u) (vs.set j u) x') (h2 : ∀ vs y, El w vs y → El (w.setCell ⟨g, i * k + j, none⟩ u) vs y) :
    OwS El k (w.setCell ⟨g, i * k + j, none⟩ u) B E (.slice (some ⟨g, 0, none⟩) l.length c) (l.set i x') := by
  obtain ⟨xs, ho, L, rfl, hl, hk, he⟩ := h
  have hil : i < l.length := (List.getElem?_eq_some_iff.1 hi).1
  have hLi : L[i]? = some L[i] := List.getElem?_eq_getElem (by omega)
  refine ⟨_, by rw [List.length_set]; exact (ho.stored (i * k + j) u).1, L.set i (L[i].set j u), flatten_set hj hk hLi, by rw [List.length_set, List.length_set, hl], fun v hv => ?_, fun i' vs y hvs hy => ?_⟩
  · rcases List.mem_or_eq_of_mem_set hv with h | h
    · exact hk v h
    · rw [h, List.length_set]; exact hk _ (List.getElem_mem _)
  · by_cases e : i' = i
    · subst e
      rw [List.getElem?_set_self (by omega)] at hvs
      rw [List.getElem?_set_self hil] at hy
      injection hvs with hvs
      injection hy with hy
      subst hvs; subst hy
      exact h1 _ (he _ _ _ hLi hi) (hk _ (List.getElem_mem _))
    · rw [List.getElem?_set_ne (by omega)] at hvs hy
      exact h2 _ _ (he _ _ _ hvs hy)
end Go.Proofs.YtfdpnjebhllpkaaGreatDoor

namespace Go.Proofs.YtfdpnjebhllpkaaGreatDoor.Dk
open Go.RowKit

theorem upd_at {nm : Name} {f : Fl} {g : Fl → Fl} : ∀ {l : Fs} {i : Nat}, Up l → l[i]? = some (nm, f) → upd nm g l = l.set i (nm, g f)
  | [], i, _, h => by simp at h
  | p :: r, 0, hU, h => by
    simp at h
    subst h
    unfold upd
    rw [List.map_cons, List.set_cons_zero]
    simp only [if_pos]
    congr 1
    conv => rhs; rw [← List.map_id r]
    apply List.map_congr_left
    intro q hq
    have := before_ne (hU.head hq)
    rw [if_neg fun e => this e.symm]
    rfl
  | p :: r, i + 1, hU, h => by
    simp at h
    have := before_ne (hU.head (List.mem_of_getElem? h))
    have e : upd nm g (p :: r) = (if p.1 = nm then (p.1, g p.2) else p) :: upd nm g r := rfl
    rw [e, if_neg this, upd_at hU.tail h, List.set_cons_succ]

section
variable {w : World} {B rb : Nat} {lv tv : Value} {d : D}
/-- Where a file's cells lie. -/
theorem Ra.at_ (h : Ra w B rb lv tv d) {i : Nat} {nm : Name} {f : Fl} (hi : d.fs[i]? = some (nm, f)) :
    ∃ g c s v, lv = .slice (some ⟨g, 0, none⟩) d.fs.length c ∧ d.fs.length ≤ c ∧ c ≤ 9223372036854775807 ∧ B ≤ g ∧ g < w.heap.size ∧ (∃ cs, w.heap[g]? = some (.cells cs 84)) ∧ w.cell? ⟨g, i * 3, none⟩ = some (.string s) ∧ w.cell? ⟨g, i * 3 + 1, none⟩ = some v ∧ w.cell? ⟨g, i * 3 + 2, none⟩ = some (.int .i64 (f.safe : Nat)) ∧
      nm = s.data.toList ∧ OwB w B 5 v f.data := by
  have hil : i < d.fs.length := (List.getElem?_eq_some_iff.1 hi).1
  have hrow := h.row
  obtain ⟨xs, ho, hr⟩ := h.row
  obtain ⟨A, c, e, hq⟩ := h.sq
  subst e
  have hl : (d.fs.map toIn).length = d.fs.length := List.length_map _
  rw [hl] at ho
  rcases ho.2 with ⟨e, h0⟩ | ⟨g, cap, cur, e, hB, hh, _⟩
  · omega
  · injection e with e1 e2 e3
    subst e1; subst e3
    obtain ⟨b, off, x, vs, e, hb, hx, hvs, hel, hcs⟩ := hq.at_ hil
    injection e with e
    injection e with e1 e2 _
    subst e1; subst e2
    rw [List.getElem?_map, hi] at hx
    injection hx with hx
    subst hx
    obtain ⟨s, v, rfl, h1, h2⟩ := hel
    refine ⟨g, _, s, v, rfl, hq.le, hq.max, hB, hb, ⟨cur, hh⟩, ?_, ?_, ?_, h1, h2⟩
    · have := hcs 0 _ rfl; simpa using this
    · have := hcs 1 _ rfl; simpa using this
    · have := hcs 2 _ rfl; simpa [toIn] using this

/-- A block of one file's cells, none of the row's, is stored to. -/
theorem Ra.fset {fb j : Nat} (h : Ra w B rb lv tv d) {cs : Array Value} (hh : w.heap[fb]? = some (.cells cs 84)) (hne : lv.ownBlock ≠ some fb) (u : Value) : Ra (w.setCell ⟨fb, j, none⟩ u) B rb lv tv d := by
  have hg := grown_set w ⟨fb, j, none⟩ u
  have hne2 : some rb ≠ some fb := by
    intro e
    injection e with e
    have h2 := h.blk
    rw [e, hh] at h2
    injection h2 with h2
    injection h2 with _ h2 _
    exact absurd h2 (by decide)
  have hn8 : NoE 5 w (some fb) := NoE.of hh (by intro cs fr e; injection e with _ e2 _; exact absurd e2 (by decide))
  have hnT : NoE 121 w (some fb) := NoE.of hh (by intro cs fr e; injection e with _ e2 _; exact absurd e2 (by decide))
  exact ⟨h.base, (hg.block rb h.lt hne2).trans h.blk, h.row.kept hg (.inr hne) (FoEl.kept hg hn8), row_kept h.tr hg hnT⟩
theorem Rm.fset {fb j : Nat} {cs : Array Value} (hh : w.heap[fb]? = some (.cells cs 84)) (u : Value) : Rm w (w.setCell ⟨fb, j, none⟩ u) :=
  Rm.grown (grown_set w ⟨fb, j, none⟩ u) fun o ho => .inr ⟨cs, (0, 0), by rw [hh] at ho; injection ho with ho; exact ho.symm⟩
theorem upd_upd {nm : Name} {g1 g2 : Fl → Fl} (l : Fs) : upd nm g2 (upd nm g1 l) = upd nm (fun f => g2 (g1 f)) l := by
  unfold upd
  rw [List.map_map]
  apply List.map_congr_left
  intro p _
  simp only [Function.comp]
  by_cases e : p.1 = nm
  · simp [e]
  · simp [e]
theorem upd_id {nm : Name} {g : Fl → Fl} (hg : ∀ f, g f = f) (l : Fs) : upd nm g l = l := by
  unfold upd
  conv => rhs; rw [← List.map_id l]
  apply List.map_congr_left
  intro p _
  split
  · rw [hg]; rfl
  · rfl
theorem Ra.rs_set {g c : Nat} (h : Ra w B rb (.slice (some ⟨g, 0, none⟩) d.fs.length c) tv d) (hU : Up d.fs) {i j : Nat} {nm : Name} {f : Fl} (hi : d.fs[i]? = some (nm, f)) (hj : j < 3) (u : Value) {gf : Fl → Fl}
    (h1 : ∀ vs, FoEl B w vs (toIn (nm, f)) → FoEl B (w.setCell ⟨g, i * 3 + j, none⟩ u) (vs.set j u) (toIn (nm, gf f))) :
    Rw B rb (.slice (some ⟨g, 0, none⟩) d.fs.length c) tv { d with fs := upd nm gf d.fs } w (w.setCell ⟨g, i * 3 + j, none⟩ u) := by
  obtain ⟨g', c', _, _, e, _, _, hB, hlt, ⟨cs, hh⟩, _⟩ := h.at_ hi
  injection e with e1 e2 e3
  injection e1 with e1
  injection e1 with e1 _ _
  subst e1; subst e3
  have hg := grown_set w ⟨g, i * 3 + j, none⟩ u
  have hne : some rb ≠ some g := by
    intro e
    injection e with e
    have h2 := h.blk
    rw [e, hh] at h2
    injection h2 with h2
    injection h2 with _ h2 _
    exact absurd h2 (by decide)
  have hn8 : NoE 5 w (some g) := NoE.of hh (by intro cs fr e; injection e with _ e2 _; exact absurd e2 (by decide))
  have hnT : NoE 121 w (some g) := NoE.of hh (by intro cs fr e; injection e with _ e2 _; exact absurd e2 (by decide))
  have hl : (d.fs.map toIn).length = d.fs.length := List.length_map _
  have hrow := h.row
  rw [← hl] at hrow
  have hst := hrow.store (i := i) (j := j) (x := toIn (nm, f)) (x' := toIn (nm, gf f)) (by rw [List.getElem?_map, hi]; rfl) hj u (fun vs h2 _ => h1 vs h2) (FoEl.kept hg hn8)
  rw [hl] at hst
  refine ⟨below_row hg hB (by omega), Rm.grown hg fun o ho => .inr ⟨cs, (0, 0), by rw [hh] at ho; injection ho with ho; exact ho.symm⟩, h.base, (hg.block rb h.lt hne).trans h.blk, ?_, row_kept h.tr hg hnT⟩
  show OwG _ B B _ ((upd nm gf d.fs).map toIn)
  rw [upd_at hU hi, List.map_set]
  exact hst

theorem Ra.rs_data {g c : Nat} (h : Ra w B rb (.slice (some ⟨g, 0, none⟩) d.fs.length c) tv d) (hU : Up d.fs) {i : Nat} {nm : Name} {f : Fl} (hi : d.fs[i]? = some (nm, f)) {v2 : Value} {new : List UInt8} (ho : OwB w B 5 v2 new) {gf : Fl → Fl} (hgf : gf f = ⟨new, f.safe⟩) :
    Rw B rb (.slice (some ⟨g, 0, none⟩) d.fs.length c) tv { d with fs := upd nm gf d.fs } w (w.setCell ⟨g, i * 3 + 1, none⟩ v2) := by
  refine h.rs_set hU hi (by omega) v2 ?_
  rintro vs ⟨s, v, rfl, h1, h2⟩
  obtain ⟨g', c', _, _, e, _, _, hB, hlt, ⟨cs, hh⟩, _⟩ := h.at_ hi
  injection e with e1 e2 e3
  injection e1 with e1
  injection e1 with e1 _ _
  subst e1
  have hn8 : NoE 5 w (some g) := NoE.of hh (by intro cs fr e; injection e with _ e2 _; exact absurd e2 (by decide))
  rw [hgf]
  exact ⟨s, v2, rfl, h1, row_kept ho (grown_set w ⟨g, i * 3 + 1, none⟩ v2) hn8⟩
theorem Ra.rs_safe {g c : Nat} (h : Ra w B rb (.slice (some ⟨g, 0, none⟩) d.fs.length c) tv d) (hU : Up d.fs) {i : Nat} {nm : Name} {f : Fl} (hi : d.fs[i]? = some (nm, f)) (m : Nat) {gf : Fl → Fl} (hgf : gf f = ⟨f.data, m⟩) :
    Rw B rb (.slice (some ⟨g, 0, none⟩) d.fs.length c) tv { d with fs := upd nm gf d.fs } w (w.setCell ⟨g, i * 3 + 2, none⟩ (.int .i64 (m : Nat))) := by
  refine h.rs_set hU hi (by omega) _ ?_
  rintro vs ⟨s, v, rfl, h1, h2⟩
  obtain ⟨g', c', _, _, e, _, _, hB, hlt, ⟨cs, hh⟩, _⟩ := h.at_ hi
  injection e with e1 e2 e3
  injection e1 with e1
  injection e1 with e1 _ _
  subst e1
  have hn8 : NoE 5 w (some g) := NoE.of hh (by intro cs fr e; injection e with _ e2 _; exact absurd e2 (by decide))
  rw [hgf]
  exact ⟨s, v, rfl, h1, row_kept h2 (grown_set w ⟨g, i * 3 + 2, none⟩ _) hn8⟩
end
end Go.Proofs.YtfdpnjebhllpkaaGreatDoor.Dk
end
