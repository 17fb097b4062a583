/- A file comes to its place. -/
import Derived.Test.YtjhiihmibleecaaGreatDoorDkRb
import Derived.Test.YtjhiihmibleecaaGreatDoorPlan2
import Derived.Test.YtjhiihmibleecaaGreatDoorSq2
namespace Go.Proofs.YtjhiihmibleecaaGreatDoor.Dk
open Go.RowKit

theorem ins_at {α : Type} {nm : Name} {f : α} : ∀ {l : Al α} {i : Nat}, i ≤ l.length → (∀ (j : Nat) q, j < i → l[j]? = some q → bytesBefore q.1 nm = true) → (∀ q, l[i]? = some q → bytesBefore nm q.1 = true) → ins nm f l = l.take i ++ (nm, f) :: l.drop i
  | [], i, h, _, _ => by
    have : i = 0 := by simpa using h
    subst this
    rfl
  | p :: r, 0, _, _, h2 => by
    have := h2 p rfl
    show (if bytesBefore nm p.1 then _ else _) = _
    rw [if_pos this]
    rfl
  | p :: r, i + 1, hl, h1, h2 => by
    have hp := h1 0 p (by omega) rfl
    have hn : bytesBefore nm p.1 = false := by
      cases h : bytesBefore nm p.1 with
      | false => rfl
      | true => have := before_trans hp h; rw [before_irrefl] at this; cases this
    show (if bytesBefore nm p.1 then _ else _) = _
    rw [if_neg (by rw [hn]; decide), ins_at (i := i) (by simpa using hl) (fun j q hj hq => h1 (j + 1) q (by omega) (by simpa using hq)) (fun q hq => h2 q (by simpa using hq))]
    rfl
theorem del_at {nm : Name} {f : Fl} {l : Fs} {i : Nat} (hU : Up l) (h : l[i]? = some (nm, f)) : del nm l = l.take i ++ l.drop (i + 1) := by
  obtain ⟨hi, e⟩ := List.getElem?_eq_some_iff.1 h
  have hl : l = l.take i ++ (nm, f) :: l.drop (i + 1) := by
    rw [← e, ← List.drop_eq_getElem_cons hi, List.take_append_drop]
  have hU' := hU
  rw [hl] at hU'
  unfold Up at hU'
  rw [List.pairwise_append] at hU'
  obtain ⟨_, h2, h3⟩ := hU'
  conv => lhs; rw [hl]
  unfold del
  rw [List.filter_append, List.filter_eq_self.2, List.filter_cons, if_neg (by simp), List.filter_eq_self.2]
  · intro q hq
    have := before_ne ((List.pairwise_cons.1 h2).1 q hq)
    simpa using fun e => this e.symm
  · intro q hq
    have := before_ne (h3 q hq (nm, f) (List.mem_cons_self ..))
    simpa using this

/-- The document's disk is now so. -/
def Rs (B rb : Nat) (dd : D) (w w' : World) : Prop := Below B w w' ∧ Rm w w' ∧ ∃ lv tv, Ra w' B rb lv tv dd
theorem Rs.on {B rb : Nat} {dd : D} {w0 w w' : World} (h : Rs B rb dd w w') (hb : Below B w0 w) (hf : Rm w0 w) : Rs B rb dd w0 w' := ⟨hb.trans h.1, hf.trans h.2.1, h.2.2⟩

theorem grown_after {w x x' : World} {row : Option Nat} (h : Below w.heap.size w x) (h2 : x.grownBy x' row) : w.grownBy x' row :=
  ⟨h2.os.trans h.os, h2.tape.trans h.tape, h2.output.trans h.output, Nat.le_trans h.size h2.size, fun k hk hne => (h2.block k (Nat.lt_of_lt_of_le hk h.size) hne).trans (h.block k hk)⟩

/-- How far a row is made: the row, the one file's literal. -/
structure PS (w0 : World) (B T : Nat) (f : In) (ro : Option (Value × List In)) (oo : Option Nat) (x : World) : Prop where
  bel : Below T w0 x
  row : ∀ v l, ro = some (v, l) → OwG x B T v l
  one : ∀ b, oo = some b → Sq (FoEl B) 3 x (some ⟨b, 0, none⟩) 1 1 [f] ∧ T ≤ b ∧ b < x.heap.size
  dis : ∀ v l b, ro = some (v, l) → oo = some b → v.ownBlock ≠ some b
section
variable {w0 x x' : World} {B T : Nat} {f : In} {ro : Option (Value × List In)} {oo : Option Nat}
theorem PS.start {w0 : World} (hT : T = w0.heap.size) : PS w0 B T f none none w0 := ⟨Below.refl _ _, fun _ _ h => by (cases h), fun _ h => by (cases h), fun _ _ _ h => by (cases h)⟩
theorem PS.on (h : PS w0 B T f ro oo x) (hT : T ≤ x.heap.size) (hb : Below x.heap.size x x') : PS w0 B T f ro oo x' :=
  ⟨h.bel.trans (hb.mono hT), fun v l e => OwG.below (h.row v l e) hb, fun b e => by
    obtain ⟨h1, h2, h3⟩ := h.one b e
    exact ⟨h1.below (FoEl.below hb) hb, h2, Nat.lt_of_lt_of_le h3 hb.size⟩, h.dis⟩
theorem PS.bel_size (h : PS w0 B T f ro oo x) (hT : T ≤ w0.heap.size) : T ≤ x.heap.size := Nat.le_trans hT h.bel.size
theorem PS.drew_ (h : PS w0 B T f ro oo x) (hT : T ≤ w0.heap.size) : PS w0 B T f ro oo x.drew := h.on (h.bel_size hT) (bD (Below.refl _ _))
theorem OwS_base3 {w : World} {Bd T : Nat} {v : Value} {l : List In} (h : OwG w Bd T v l) (hB : B ≤ T) : OwG w Bd B v l := by
  obtain ⟨xs, h1, h2⟩ := h
  exact ⟨xs, ownsRow_base h1 hB, h2⟩
theorem PS.nil (h : PS w0 B T f none oo x) (hT : T ≤ x.heap.size) : PS w0 B T f (some (.slice (some ⟨x.heap.size, 0, none⟩) 0 0, [])) oo (x.alloc (.cells #[] 52)) := by
  have h1 := h.on hT (below_alloc x (.cells #[] 52))
  refine ⟨h1.bel, fun v l e => ?_, h1.one, fun v l b e eb => ?_⟩
  · injection e with e
    injection e with e1 e2
    subst e1; subst e2
    exact ⟨[], ⟨by simp, .inr ⟨x.heap.size, 0, #[], rfl, hT, heap_alloc_new x _, Nat.le_refl _, by decide, by simp, by simp⟩⟩, Reads.nil _⟩
  · injection e with e
    injection e with e1 e2
    subst e1
    have := (h.one b eb).2.2
    intro e3
    have e4 : some x.heap.size = some b := e3
    injection e4 with e4
    omega
theorem PS.lit (h : PS w0 B T f ro none x) (hT : T ≤ x.heap.size) {s : ByteArray} {v : Value} {z : Int} (h1 : f.nm = s.data.toList) (h2 : OwB x B 5 v f.data) (h3 : f.safe = z) :
    PS w0 B T f ro (some x.heap.size) (x.alloc (.cells #[.string s, v, .int .i64 z] 52)) := by
  have hba := below_alloc x (.cells #[.string s, v, .int .i64 z] 52)
  have g1 := h.on hT hba
  refine ⟨g1.bel, g1.row, fun b e => ?_, fun v l b e eb => ?_⟩
  · injection e with e
    subst e
    exact ⟨sq_one x [.string s, v, .int .i64 z] f 52 (0, 0) rfl ⟨s, v, by rw [h3], h1, OwB.below h2 hba⟩, hT, (Array.getElem?_eq_some_iff.1 (heap_alloc_new x _)).1⟩
  · injection eb with eb
    subst eb
    intro e3
    have := (OwS.lt (h.row v l e) _ e3).2
    omega
theorem PS.app {v v' : Value} {l l' : List In} (h : PS w0 B T f (some (v, l)) oo x) (hT : T ≤ x.heap.size) (hg : x.grownBy x' v.ownBlock) (hb : Below T x x') (ho : OwG x' B T v' l') (hv : v'.ownBlock = v.ownBlock ∨ v'.ownBlock = some x.heap.size) : PS w0 B T f (some (v', l')) oo x' := by
  refine ⟨h.bel.trans hb, fun v2 l2 e => ?_, fun b e => ?_, fun v2 l2 b e eb => ?_⟩
  · injection e with e
    injection e with e1 e2
    subst e1; subst e2
    exact ho
  · obtain ⟨h1, h2, h3⟩ := h.one b e
    have hne := h.dis v l b rfl e
    have hbk : x'.heap[b]? = x.heap[b]? := hg.block b h3 (fun e => hne e.symm)
    refine ⟨⟨h1.len, h1.le, h1.max, h1.nil, fun hn => ?_⟩, h2, Nat.lt_of_lt_of_le h3 hg.size⟩
    obtain ⟨b', off, e', hlt, hc⟩ := h1.cell hn
    injection e' with e'
    injection e' with e1 e2 _
    subst e1; subst e2
    refine ⟨b, 0, rfl, Nat.lt_of_lt_of_le h3 hg.size, fun i y hi => ?_⟩
    obtain ⟨vs, g1, g2, g3⟩ := hc i y hi
    exact ⟨vs, g1, FoEl.kept hg (ows_noE (h.row v l rfl) (by decide)) _ _ g2, fun j u hu => by
      have := g3 j u hu
      simp only [World.cell?, hbk] at this ⊢
      exact this⟩
  · injection e with e
    injection e with e1 e2
    subst e1
    rcases hv with e3 | e3
    · rw [e3]; exact h.dis v l b rfl eb
    · rw [e3]
      intro e4
      injection e4 with e4
      have := (h.one b eb).2.2
      omega
end

set_option maxHeartbeats 2000000 in
set_option maxRecDepth 100000 in
set_option pp.deepTerms true in
set_option pp.maxSteps 40000 in
theorem rPut_any (w : World) (B rb : Nat) (lv tv : Value) (d : D) (h : Ra w B rb lv tv d) (s : ByteArray) (hs : s.size ≤ 1000000) (A0 : Option Addr) (n0 c0 : Nat) (data : List UInt8) (hd : Bs w A0 n0 c0 data) (hn0 : n0 ≤ 1000000000) (safe : Nat)
    (hno : ∀ p ∈ d.fs, p.1 ≠ s.data.toList) (hsz : ∀ p ∈ d.fs, p.1.length ≤ 1000000) (hl : d.fs.length ≤ 1000000) :
    Calls Tryz.prog 31 #[.pointer (some ⟨rb, 0, none⟩), .agg #[.string s, .slice A0 n0 c0, .int .i64 (safe : Nat)]] w fun e w' => e = .returned (.tuple #[]) ∧ Rs B rb { d with fs := ins s.data.toList ⟨data, safe⟩ d.fs } w w' ∧ w.grownBy w' (some rb) := by
  obtain ⟨fb, hfb⟩ : ∃ fb, w.heap.size = fb := ⟨_, rfl⟩
  obtain ⟨w1, hw1⟩ : ∃ w1, w.alloc (.cells #[.string s, .slice A0 n0 c0, .int .i64 (safe : Nat)] 52) = w1 := ⟨_, rfl⟩
  have hba := below_alloc w (.cells #[.string s, .slice A0 n0 c0, .int .i64 (safe : Nat)] 52)
  have hnew := heap_alloc_new w (.cells #[.string s, .slice A0 n0 c0, .int .i64 (safe : Nat)] 52)
  rw [hw1] at hba hnew
  rw [hfb] at hnew
  have hrlt := h.lt
  have h0' := Lib.hid h
  have hd0' := Lib.hid hd
  have h1 := h.below hba
  obtain ⟨A, c, hlv, hq⟩ := h1.sq
  subst hlv
  have hle := hq.le
  have hmx := hq.max
  have hflt : fb < w1.heap.size := (Array.getElem?_eq_some_iff.1 hnew).1
  have hrlt1 := h1.lt
  obtain ⟨n, hn⟩ : ∃ n, d.fs.length = n := ⟨_, rfl⟩
  have hsall : ∀ x, Below w1.heap.size w1 x → Ra x B rb (.slice A d.fs.length c) tv d ∧ Sq (FoEl B) 3 x A d.fs.length c (d.fs.map toIn) ∧ Bs x A0 n0 c0 data ∧ x.heap[fb]? = some (.cells #[.string s, .slice A0 n0 c0, .int .i64 (safe : Nat)] 52) ∧ Below w.heap.size w x :=
    fun x hb => ⟨h1.below hb, hq.below (FoEl.below hb) hb, (hd.below hba).below hb, (hb.block fb hflt).trans hnew, hba.trans (hb.mono hba.size)⟩
  rw [hn] at hle hsall hl
  have hn' := Lib.hid hn
  have hsall' := Lib.hid hsall
  have hno' := Lib.hid hno
  have hsz' := Lib.hid hsz
  clear h h1 hq hd hno hsz hsall hba hnew hn
  go_enter Tryz.func31, Tryz.ntmps31
  go_wp2_with fail
  go_loopw [4] (fun i wr => ∃ k : Nat, k ≤ n ∧ i = .int .i64 k ∧ Hid (∀ (j : Nat) q, j < k → d.fs[j]? = some q → bytesBefore q.1 s.data.toList = true) ∧ Hid (Below w1.heap.size w1 wr)) (fun i _ => n - (intOf i).toNat)
  case atStart => exact ⟨0, by omega, rfl, Lib.hid fun i q h => absurd h (by omega), Lib.hid (Below.refl _ _)⟩
  case round =>
    obtain ⟨k, hk, rfl, hpre, hbw⟩ := hrel
    obtain ⟨hR, hq, hBs, hfbk, hbww⟩ := hsall'.out wr hbw.out
    have k1 : wr.cell? ⟨rb, 1, none⟩ = some (.slice A n c) := cell_blk hR.blk rfl
    have f0 : wr.cell? ⟨fb, 0, none⟩ = some (.string s) := cell_blk hfbk rfl
    have hR' := Lib.hid hR
    have hq' := Lib.hid hq
    have hBs' := Lib.hid hBs
    have hbww' := Lib.hid hbww
    have hfbk' := Lib.hid hfbk
    clear hR hq hBs hbww hfbk
    go_upto_region 2 with fail
    go_cut [24] (fun v wx => ∃ cnd : Bool, v = .bool cnd ∧ Hid (if cnd = true then k < n ∧ ∀ q, d.fs[k]? = some q → bytesBefore q.1 s.data.toList = true else ∀ q, d.fs[k]? = some q → bytesBefore s.data.toList q.1 = true) ∧ Hid (Below wr.heap.size wr wx))
    case first =>
      by_cases hlt : k < n
      · obtain ⟨b, off, f, vs, rfl, hb, hf, hvs, hel, hcs⟩ := hq'.out.at_ hlt
        obtain ⟨sk, dv, rfl, hsk, _⟩ := hel
        have m0 : wr.cell? ⟨b, off + k * 3, none⟩ = some (.string sk) := hcs 0 _ rfl
        rw [List.getElem?_map, Option.map_eq_some_iff] at hf
        obtain ⟨p, hp, hpf⟩ := hf
        have hpn : Hid (p.1 = sk.data.toList) := Lib.hid (by rw [← hsk, ← hpf]; rfl)
        have hp' := Lib.hid hp
        have hks : sk.size ≤ 1000000 := by
          have := hsz'.out p (List.mem_of_getElem? hp)
          rw [hpn.out, Array.length_toList] at this
          exact this
        have hless : ∀ x, Calls Tryz.prog 53 #[.string sk, .string s] x fun e w' => e = .returned (.bool (bytesBefore p.1 s.data.toList)) ∧ ∃ k, w' = x.drewN k := fun x => by
          rw [hpn.out]; exact Less_any sk s hks hs x
        have hless' := Lib.hid hless
        have i0 : (k : Int) < (n : Int) := by omega
        have i1 : decide ((k : Int) < (n : Int)) = true := by rw [decide_eq_true_eq]; omega
        have i2 : decide (k < n) = true := by rw [decide_eq_true_eq]; omega
        have i3 : (0 : Int) ≤ (k : Int) := by omega
        clear hcs hvs hp hpf hsk hless hks
        go_wp2_with fail
        refine Pl.wp_region_plan 20 (.take 0 (.take 1 (.take 2 (.take 3 (.take 4 (.take 5 (.take 6 (.take 7 (.take 8 (.take 9 (.take 10 (.take 11 (.take 12 (.take 13 (.take 14 (.take 15 (.take 16 (.take 17 (.run 18 (.take 19 .done))))))))))))))))))))
          (fun x => x.cell? ⟨rb, 1, none⟩ = some (.slice (some ⟨b, off, none⟩) n c) ∧ x.cell? ⟨b, off + k * 3, none⟩ = some (.string sk) ∧ x.cell? ⟨fb, 0, none⟩ = some (.string s)) (by kernel_rfl) (by kernel_rfl) (by exact ⟨k1, m0, f0⟩) ?_
        simp only [Pl.fill, List.getElem?_cons_zero, List.getElem?_cons_succ, List.drop_succ_cons, List.drop_zero]
        iterate 18
          refine Pl.take_go ?_ (by rfl) (fun _ _ _ h => h) ?_ ?_
          rotate_left
          · (intro x hSw; (try dsimp only at hSw); go_simp; try with_reducible rfl)
          try simp only [Act.put, List.setIfInBounds_toArray, List.set_cons_zero, List.set_cons_succ]
        refine Pl.run_go (fun K hK => ?_)
        go_simp
        refine (hless'.out _).mono ?_
        rintro e w3 ⟨rfl, q, rfl⟩
        have hb3 : Below wr.heap.size wr (wr.drew.drewN q) := (bD (Below.refl wr.heap.size wr)).trans (Joins.below_draws _ _ _)
        generalize wr.drew.drewN q = w3 at hb3 ⊢
        have hlt3 := Lib.hid hb
        have m1 := (hb3.cell (p := ⟨rb, 1, none⟩) hR'.out.lt).trans k1
        have m2 := (hb3.cell (p := ⟨b, off + k * 3, none⟩) hb).trans m0
        have m3 := (hb3.cell (p := ⟨fb, 0, none⟩) (Array.getElem?_eq_some_iff.1 hfbk'.out).1).trans f0
        dsimp only
        refine hK.out _ _ (Pl.more_go _ (fun _ h => h) (by exact ⟨m1, m2, m3⟩) ?_)
        clear hK K
        refine Pl.take_go ?_ (by rfl) (fun _ _ _ h => h) ?_ ?_
        rotate_left
        · (intro x hSw; (try dsimp only at hSw); go_simp; try with_reducible rfl)
        try simp only [Act.put, List.setIfInBounds_toArray, List.set_cons_zero, List.set_cons_succ]
        refine Pl.done_go ?_
        have hb3' := Lib.hid hb3
        have hcnd : Hid (if bytesBefore p.1 s.data.toList = true then k < n ∧ ∀ q, d.fs[k]? = some q → bytesBefore q.1 s.data.toList = true else ∀ q, d.fs[k]? = some q → bytesBefore s.data.toList q.1 = true) := Lib.hid (by
          split
          · rename_i h
            refine ⟨hlt, fun q hq => ?_⟩
            rw [hp'.out] at hq
            injection hq with hq
            rw [← hq]; exact h
          · rename_i h
            intro q hq
            have hq0 := hq
            rw [hp'.out] at hq
            injection hq with hq
            subst hq
            exact before_total (by simpa using h) (hno'.out _ (List.mem_of_getElem? hq0)))
        clear k1 m0 f0 m1 m2 m3 hb3 hbw hless'
        go_wp2_with fail
        go_meet
        exact ⟨_, rfl, hcnd, hb3'⟩
      · have hkn : k = n := by omega
        have i1 : decide ((k : Int) < (n : Int)) = false := by rw [decide_eq_false_iff_not]; omega
        have i2 : decide (k < n) = false := by rw [decide_eq_false_iff_not]; omega
        have hcnd : Hid (if false = true then k < n ∧ ∀ q, d.fs[k]? = some q → bytesBefore q.1 s.data.toList = true else ∀ q, d.fs[k]? = some q → bytesBefore s.data.toList q.1 = true) := Lib.hid (by
          rw [if_neg (by decide)]
          intro q hq
          have := (List.getElem?_eq_some_iff.1 hq).1
          have := hn'.out
          omega)
        clear hkn
        go_wp2_with fail
        refine Pl.wp_region_plan 20 (.take 0 (.take 1 (.take 2 (.take 3 (.take 4 (.take 5 (.take 6 (.take 7 (.take 8 (.take 9 (.take 10 (.take 11 (.take 12 (.take 13 (.take 14 (.take 15 (.take 16 (.take 17 (.run 18 (.take 19 .done))))))))))))))))))))
          (fun x => x.cell? ⟨rb, 1, none⟩ = some (.slice A n c)) (by kernel_rfl) (by kernel_rfl) (by exact k1) ?_
        simp only [Pl.fill, List.getElem?_cons_zero, List.getElem?_cons_succ, List.drop_succ_cons, List.drop_zero]
        iterate 8
          refine Pl.take_go ?_ (by rfl) (fun _ _ _ h => h) ?_ ?_
          rotate_left
          · (intro x hSw; (try dsimp only at hSw); go_simp; try with_reducible rfl)
          try simp only [Act.put, List.setIfInBounds_toArray, List.set_cons_zero, List.set_cons_succ]
        iterate 10
          refine Pl.take_skip (by rfl) (fun _ _ _ h => h) ?_
          try simp only [Act.put, List.setIfInBounds_toArray, List.set_cons_zero, List.set_cons_succ]
        refine Pl.run_go (fun K hK => ?_)
        go_simp
        refine hK.out _ _ (Pl.more_go _ (fun _ h => h) (by exact k1) ?_)
        clear hK K
        try simp only [Act.put, List.setIfInBounds_toArray, List.set_cons_zero, List.set_cons_succ]
        refine Pl.take_go ?_ (by rfl) (fun _ _ _ h => h) ?_ ?_
        rotate_left
        · (intro x hSw; (try dsimp only at hSw); go_simp; try with_reducible rfl)
        try simp only [Act.put, List.setIfInBounds_toArray, List.set_cons_zero, List.set_cons_succ]
        refine Pl.done_go ?_
        clear k1 f0 hbw
        go_wp2_with fail
        go_meet
        exact ⟨_, rfl, hcnd, Lib.hid (bD (Below.refl _ wr))⟩
    case rest =>
      obtain ⟨cnd, rfl, hcnd, hb3⟩ := hcut
      clear k1 f0
      cases cnd with
      | true =>
        have hlt := hcnd.out.1
        go_wp2_with fail
        go_roundw
        case rel =>
          refine ⟨k + 1, by omega, by go_num, Lib.hid fun j q hj hq => ?_, Lib.hid (hbw.out.trans (hb3.out.mono hbw.out.size))⟩
          by_cases e : j = k
          · subst e; exact hcnd.out.2 q hq
          · exact hpre.out j q (by omega) hq
        case measure => simp [intOf]; omega
      | false =>
        have hbwc := Lib.hid (hbw.out.trans (hb3.out.mono hbw.out.size))
        obtain ⟨_, _, hBsc, hfbc, hbc⟩ := hsall'.out wc hbwc.out
        have hBsc' := Lib.hid (hBsc.below (below_alloc wc (.cells #[] 5)))
        have hfbc' := Lib.hid hfbc
        have hbc' := Lib.hid hbc
        have f1a := ((below_alloc wc (.cells #[] 5)).cell (p := ⟨fb, 1, none⟩) (Array.getElem?_eq_some_iff.1 hfbc).1).trans (cell_blk hfbc (i := 1) rfl)
        have hlt : fb < wc.heap.size := (Array.getElem?_eq_some_iff.1 hfbc).1
        clear hBsc hfbc hbc hb3 hbw hfbk' hbww' hBs' hq' hR'
        go_wp2_with (at_builtin; apply stop_here)
        refine Stop.go (append_bytes _ 35 5 Tryz.underlying35 (by kernel_rfl) rfl _ _ rfl wc.heap.size _ [] rfl ?h1 A0 n0 c0 data rfl hBsc'.out n0 ?h3 ?h4 ?h5 ?_)
        case h1 => exact ⟨by simp, .inr ⟨_, _, #[], rfl, Nat.le_refl _, heap_alloc_new wc _, Nat.le_refl _, by decide, by simp, by simp⟩⟩
        case h3 => simp
        case h4 => omega
        case h5 => simp
        intro A2 c2 w3 ho hg3 hb3
        have hb3w : Below w.heap.size w w3 := (hbc'.out.trans ((below_alloc wc (.cells #[] 5)).mono hbc'.out.size)).trans (hb3.mono hbc'.out.size)
        have hfb3 : w3.heap[fb]? = some (.cells #[.string s, .slice A0 n0 c0, .int .i64 (safe : Nat)] 52) := (((below_alloc wc (.cells #[] 5)).trans hb3).block fb hlt).trans hfbc'.out
        have fz := frozen_of_row w3 fb 1 _ _ hfb3
        have hfb4 := setCell_blk hfb3 (i := 1) (.slice A2 n0 c2)
        have hb4 : Below w.heap.size w (w3.setCell ⟨fb, 1, none⟩ (.slice A2 n0 c2)) := Below.setCell hb3w (by show w.heap.size ≤ fb; omega) _
        have h4 := h0'.out.below hb4
        have ho4 : OwB (w3.setCell ⟨fb, 1, none⟩ (.slice A2 n0 c2)) B 5 (.slice A2 n0 c2) data := by
          rw [List.nil_append] at ho
          exact row_kept (OwB.base ho (by have := hbc'.out.size; have := h0'.out.base; omega)) (grown_set w3 ⟨fb, 1, none⟩ (.slice A2 n0 c2)) (NoE.of hfb3 (by intro cs fr e; injection e with _ e2 _; exact absurd e2 (by decide)))
        have f1 : w3.cell? ⟨fb, 1, none⟩ = some (.slice A0 n0 c0) := cell_blk hfb3 rfl
        have hfb4' := Lib.hid hfb4
        have hb4' := Lib.hid hb4
        have h4' := Lib.hid h4
        have ho4' := Lib.hid ho4
        clear ho hg3 hb3 hb3w hfb3 hfb4 hb4 h4 ho4 f1a hBsc' hfbc' hbc' hbwc
        go_wp2_with fail
        generalize w3.setCell ⟨fb, 1, none⟩ (.slice A2 n0 c2) = w4 at hfb4' hb4' h4' ho4' ⊢
        have r1 : w4.cell? ⟨rb, 1, none⟩ = some (.slice A d.fs.length c) := cell_blk h4'.out.blk rfl
        rw [hn'.out] at r1
        have g0 : w4.cell? ⟨fb, 0, none⟩ = some (.string s) := cell_blk hfb4'.out rfl
        have g1 : w4.cell? ⟨fb, 1, none⟩ = some (.slice A2 n0 c2) := cell_blk hfb4'.out rfl
        have g2 : w4.cell? ⟨fb, 2, none⟩ = some (.int .i64 (safe : Nat)) := cell_blk hfb4'.out rfl
        have q0 : (k : Int) ≤ (c : Int) := by omega
        have q1 : (0 : Int) ≤ (k : Int) ∧ (k : Int) ≤ (c : Int) := ⟨by omega, by omega⟩
        have q2 : (0 : Int) ≤ (k : Int) ∧ (k : Int) ≤ (n : Int) := ⟨by omega, by omega⟩
        have q3 : k ≤ c := by omega
        have q4 : (k : Int) ≤ (n : Int) := by omega
        obtain ⟨T, hT⟩ : ∃ T, w4.heap.size = T := ⟨_, rfl⟩
        have hp0 := Lib.hid (PS.start (B := B) (f := toIn (s.data.toList, ⟨data, safe⟩)) hT.symm)
        have hTe : Hid (T ≤ w4.heap.size) := Lib.hid (by omega)
        have hTw : w.heap.size ≤ T := by have := hb4'.out.size; omega
        have hBT : B ≤ T := by have := h0'.out.base; have := h0'.out.lt; omega
        have hup : ∀ x, Below T w4 x → Below w4.heap.size w4 x := fun x hb => by rw [hT]; exact hb
        have hSall : Hid (∀ x, Below T w4 x → x.cell? ⟨rb, 1, none⟩ = some (.slice A n c) ∧ x.cell? ⟨fb, 0, none⟩ = some (.string s) ∧ x.cell? ⟨fb, 1, none⟩ = some (.slice A2 n0 c2) ∧ x.cell? ⟨fb, 2, none⟩ = some (.int .i64 (safe : Nat))) := Lib.hid fun x hb =>
          ⟨((hup x hb).cell (p := ⟨rb, 1, none⟩) h4'.out.lt).trans r1, ((hup x hb).cell (p := ⟨fb, 0, none⟩) (Array.getElem?_eq_some_iff.1 hfb4'.out).1).trans g0, ((hup x hb).cell (p := ⟨fb, 1, none⟩) (Array.getElem?_eq_some_iff.1 hfb4'.out).1).trans g1, ((hup x hb).cell (p := ⟨fb, 2, none⟩) (Array.getElem?_eq_some_iff.1 hfb4'.out).1).trans g2⟩
        have hnf1 : Hid ((toIn (s.data.toList, ⟨data, safe⟩)).nm = s.data.toList) := Lib.hid rfl
        have howx : Hid (∀ x, Below T w4 x → OwB x B 5 (.slice A2 n0 c2) (toIn (s.data.toList, ⟨data, safe⟩)).data) := Lib.hid fun x hb => OwB.below ho4'.out (hup x hb)
        have hsq4 : Sq (FoEl B) 3 w4 A n c (d.fs.map toIn) := by
          have := h4'.out.row.sq' (by omega) (A := A) (n := d.fs.length) (c := c)
          rw [hn'.out] at this
          exact this
        have hL : Hid (∀ x, Below T w4 x → Sq (FoEl B) 3 x A k c ((d.fs.map toIn).take k)) := Lib.hid fun x hb => by
          have := (hsq4.below (FoEl.below (hup x hb)) (hup x hb)).cut 0 k (by omega) hk A (fun b off e _ => by rw [e, Nat.zero_mul]; rfl) (fun e => e)
          rw [Nat.sub_zero, Nat.sub_zero, List.drop_zero] at this
          exact this
        have hR : Hid (∀ x, Below T w4 x → Sq (FoEl B) 3 x (if c = k then A else Option.map (fun x => x.add (k * 3)) A) (n - k) (c - k) ((d.fs.map toIn).drop k)) := Lib.hid fun x hb => by
          have := (hsq4.below (FoEl.below (hup x hb)) (hup x hb)).cut k n hk (Nat.le_refl _) (if c = k then A else Option.map (fun x => x.add (k * 3)) A) (fun b off e hkc => by
            rw [if_neg (by omega), e]
            show some (Addr.add ⟨b, off, none⟩ (k * 3)) = _
            unfold Addr.add
            split
            · rename_i h0; rw [h0]; rfl
            · rfl) (fun hne => by
            split
            · exact hne
            · intro e; cases A with
              | none => exact hne rfl
              | some a => cases e)
          rw [List.take_of_length_le (by rw [List.length_drop, List.length_map]; have := hn'.out; omega)] at this
          exact this
        have hkl : Hid (((d.fs.map toIn).take k).length = k) := Lib.hid (by rw [List.length_take, List.length_map]; have := hn'.out; omega)
        have hins : ins s.data.toList ⟨data, safe⟩ d.fs = d.fs.take k ++ (s.data.toList, ⟨data, safe⟩) :: d.fs.drop k :=
          ins_at (by have := hn'.out; omega) hpre.out hcnd.out
        have hfz : Hid (∀ x, Below T w4 x → x.frozen? ⟨rb, 1, none⟩ = false) := Lib.hid fun x hb => frozen_of_row x rb 1 _ _ (h4'.out.below (hup x hb)).blk
        have hfin : Hid (∀ x A5 c5, Below T w4 x → OwG x B T (.slice A5 (n + 1) c5) ((d.fs.map toIn).take k ++ [toIn (s.data.toList, ⟨data, safe⟩)] ++ (d.fs.map toIn).drop k) → Rs B rb { d with fs := ins s.data.toList ⟨data, safe⟩ d.fs } w (x.setCell ⟨rb, 1, none⟩ (.slice A5 (n + 1) c5)) ∧ w.grownBy (x.setCell ⟨rb, 1, none⟩ (.slice A5 (n + 1) c5)) (some rb)) := Lib.hid fun x A5 c5 hb ho => by
          have hx := h4'.out.below (hup x hb)
          have hwx : Below w.heap.size w x := hb4'.out.trans (hb.mono hTw)
          have e : (d.fs.map toIn).take k ++ [toIn (s.data.toList, ⟨data, safe⟩)] ++ (d.fs.map toIn).drop k = (ins s.data.toList ⟨data, safe⟩ d.fs).map toIn := by
            rw [hins]; simp
          rw [e] at ho
          obtain ⟨g1, g2, g3⟩ := hx.setA (d' := { d with fs := ins s.data.toList ⟨data, safe⟩ d.fs }) (grown_set x ⟨rb, 1, none⟩ (.slice A5 (n + 1) c5)) (setCell_blk hx.blk _) (OwS_base3 (ows_keptN ho (grown_set x ⟨rb, 1, none⟩ (.slice A5 (n + 1) c5)) hx.noF (FoEl.kept (grown_set x ⟨rb, 1, none⟩ (.slice A5 (n + 1) c5)) hx.noB)) hBT) (hx.tr_set 1 _)
          exact ⟨⟨(hwx.mono (by have := h0'.out.base; have := h0'.out.lt; omega)).trans g2, (Rm.below hwx).trans g3, _, _, g1⟩, grown_after hwx (grown_set x ⟨rb, 1, none⟩ (.slice A5 (n + 1) c5))⟩
        clear hfb4' hb4' h4' ho4' hsq4 hins hup hcnd hpre hT h0' hd0' hno' hsz' hsall'
        refine Pl.wp_region_plan 19 (.take 0 (.take 2 (.take 3 (.take 4 (.take 5 (.take 6 (.take 7 (.take 9 (.take 12 (.take 13 (.take 14 (.take 15 (.take 16 (.take 17 (.two 1 (.two 8 (.run 10 (.run 11 (.run 18 .done))) 10 (.run 8 (.run 11 (.run 18 .done)))) 10 (.run 1 (.run 8 (.run 11 (.run 18 .done)))))))))))))))))))
          (fun x => x.cell? ⟨rb, 1, none⟩ = some (.slice A n c) ∧ x.cell? ⟨fb, 0, none⟩ = some (.string s) ∧ x.cell? ⟨fb, 1, none⟩ = some (.slice A2 n0 c2) ∧ x.cell? ⟨fb, 2, none⟩ = some (.int .i64 (safe : Nat))) (by kernel_rfl) (by kernel_rfl) (by exact ⟨r1, g0, g1, g2⟩) ?_
        simp only [Pl.fill, List.getElem?_cons_zero, List.getElem?_cons_succ, List.drop_succ_cons, List.drop_zero]
        iterate 14
          refine Pl.take_go ?_ (by rfl) (fun _ _ _ h => h) ?_ ?_
          rotate_left
          · (intro x hSw; (try dsimp only at hSw); go_simp; try with_reducible rfl)
          try simp only [Act.put, List.setIfInBounds_toArray, List.set_cons_zero, List.set_cons_succ]
        refine Pl.two_go ?_ ?_
        · refine Pl.run_go (fun K hK => ?_)
          go_simp
          have hp1 := Lib.hid ((hp0.out.nil (hp0.out.bel_size hTe.out)).drew_ hTe.out)
          obtain ⟨p1, p2, p3, p4⟩ := hSall.out _ hp1.out.bel
          generalize w4.heap.size = kr at hp1 ⊢
          generalize (w4.alloc (.cells #[] 52)).drew = x1 at hp1 p1 p2 p3 p4 ⊢
          refine hK.out _ _ (Pl.more_go _ (fun _ h => h) (by exact ⟨p1, p2, p3, p4⟩) ?_)
          clear hK K p1 p2 p3 p4
          try simp only [Act.put, List.setIfInBounds_toArray, List.set_cons_zero, List.set_cons_succ]
          refine Pl.two_go ?_ ?_
          · refine Pl.run_list (fun K hK => ?_)
            refine append_sq (El := FoEl B) (k := 3) _ 22 52 (.agg #[.string ⟨#[]⟩, .slice none 0 0, .int .i64 0]) 48 Tryz.underlying22 (by kernel_rfl) rfl (by omega) rfl _ _ rfl T _ _ rfl (hp1.out.row _ _ rfl) _ k c _ rfl (hL.out _ hp1.out.bel) (FoEl.one _) (fun w' hg => FoEl.kept hg (ows_noE (hp1.out.row _ _ rfl) (by decide))) k ?h3 ?h4 ?h5 ?h6 ?_
            case h3 => simp
            case h4 => omega
            case h5 => omega
            case h6 => exact hp1.out.bel_size hTe.out
            intro A7 c7 x2 ho hg hb hv
            rw [List.nil_append] at ho
            have hp2 := Lib.hid (hp1.out.app (hp1.out.bel_size hTe.out) hg hb ho hv)
            obtain ⟨p1, p2, p3, p4⟩ := hSall.out _ hp2.out.bel
            clear ho hg hb hv
            refine hK.out _ _ (Pl.more_go _ (fun _ h => h) (by exact ⟨p1, p2, p3, p4⟩) ?_)
            clear hK K p2 p3 p4 p1
            try simp only [Act.put, List.setIfInBounds_toArray, List.set_cons_zero, List.set_cons_succ]
            refine Pl.run_go (fun K hK => ?_)
            go_simp
            have hp3 := Lib.hid (hp2.out.lit (z := (safe : Nat)) (hp2.out.bel_size hTe.out) hnf1.out (howx.out _ hp2.out.bel) rfl)
            obtain ⟨p1, p2, p3, p4⟩ := hSall.out _ hp3.out.bel
            generalize x2.heap.size = ko at hp3 ⊢
            generalize x2.alloc (.cells #[.string s, .slice A2 n0 c2, .int .i64 (safe : Nat)] 52) = x3 at hp3 p1 p2 p3 p4 ⊢
            refine hK.out _ _ (Pl.more_go _ (fun _ h => h) (by exact ⟨p1, p2, p3, p4⟩) ?_)
            clear hK K p1 p2 p3 p4
            try simp only [Act.put, List.setIfInBounds_toArray, List.set_cons_zero, List.set_cons_succ]
            refine Pl.run_list (fun K hK => ?_)
            refine append_sq (El := FoEl B) (k := 3) _ 22 52 (.agg #[.string ⟨#[]⟩, .slice none 0 0, .int .i64 0]) 48 Tryz.underlying22 (by kernel_rfl) rfl (by omega) rfl _ _ rfl T _ _ rfl (hp3.out.row _ _ rfl) _ 1 1 _ rfl (hp3.out.one _ rfl).1 (FoEl.one _) (fun w' hg => FoEl.kept hg (ows_noE (hp3.out.row _ _ rfl) (by decide))) (k + 1) ?h3 ?h4 ?h5 ?h6 ?_
            case h3 => rw [hkl.out]
            case h4 => omega
            case h5 => omega
            case h6 => exact hp3.out.bel_size hTe.out
            intro A9 c9 x4 ho hg hb hv
            have hp4 := Lib.hid (hp3.out.app (hp3.out.bel_size hTe.out) hg hb ho hv)
            obtain ⟨p1, p2, p3, p4⟩ := hSall.out _ hp4.out.bel
            clear ho hg hb hv
            refine hK.out _ _ (Pl.more_go _ (fun _ h => h) (by exact ⟨p1, p2, p3, p4⟩) ?_)
            clear hK K p2 p3 p4 p1
            try simp only [Act.put, List.setIfInBounds_toArray, List.set_cons_zero, List.set_cons_succ]
            refine Pl.run_list (fun K hK => ?_)
            refine append_sq (El := FoEl B) (k := 3) _ 22 52 (.agg #[.string ⟨#[]⟩, .slice none 0 0, .int .i64 0]) 48 Tryz.underlying22 (by kernel_rfl) rfl (by omega) rfl _ _ rfl T _ _ rfl (hp4.out.row _ _ rfl) _ (n - k) (c - k) _ rfl (hR.out _ hp4.out.bel) (FoEl.one _) (fun w' hg => FoEl.kept hg (ows_noE (hp4.out.row _ _ rfl) (by decide))) (n + 1) ?h3 ?h4 ?h5 ?h6 ?_
            case h3 => rw [List.length_append, hkl.out]; simp; omega
            case h4 => omega
            case h5 => omega
            case h6 => exact hp4.out.bel_size hTe.out
            intro A10 c10 x5 ho hg hb hv
            have hp5 := Lib.hid (hp4.out.app (hp4.out.bel_size hTe.out) hg hb ho hv)
            obtain ⟨p1, p2, p3, p4⟩ := hSall.out _ hp5.out.bel
            clear ho hg hb hv
            refine hK.out _ _ (Pl.more_go _ (fun _ h => h) (by exact ⟨p1, p2, p3, p4⟩) ?_)
            clear hK K p2 p3 p4
            try simp only [Act.put, List.setIfInBounds_toArray, List.set_cons_zero, List.set_cons_succ]
            refine Pl.done_go ?_
            have fz := hfz.out _ hp5.out.bel
            have hf := Lib.hid (hfin.out _ _ _ hp5.out.bel (hp5.out.row _ _ rfl))
            clear hfin hfz hSall hp0 hp1 hp2 hp3 hp4 hp5
            go_wp2_with fail
            all_goals (go_end0; exact ⟨rfl, hf.out⟩)
          · refine Pl.run_go (fun K hK => ?_)
            go_simp
            have hp2 := Lib.hid (hp1.out.lit (z := (safe : Nat)) (hp1.out.bel_size hTe.out) hnf1.out (howx.out _ hp1.out.bel) rfl)
            obtain ⟨p1, p2, p3, p4⟩ := hSall.out _ hp2.out.bel
            generalize x1.heap.size = ko at hp2 ⊢
            generalize x1.alloc (.cells #[.string s, .slice A2 n0 c2, .int .i64 (safe : Nat)] 52) = x2 at hp2 p1 p2 p3 p4 ⊢
            refine hK.out _ _ (Pl.more_go _ (fun _ h => h) (by exact ⟨p1, p2, p3, p4⟩) ?_)
            clear hK K p1 p2 p3 p4
            try simp only [Act.put, List.setIfInBounds_toArray, List.set_cons_zero, List.set_cons_succ]
            refine Pl.run_list (fun K hK => ?_)
            refine append_sq (El := FoEl B) (k := 3) _ 22 52 (.agg #[.string ⟨#[]⟩, .slice none 0 0, .int .i64 0]) 48 Tryz.underlying22 (by kernel_rfl) rfl (by omega) rfl _ _ rfl T _ _ rfl (hp2.out.row _ _ rfl) _ k c _ rfl (hL.out _ hp2.out.bel) (FoEl.one _) (fun w' hg => FoEl.kept hg (ows_noE (hp2.out.row _ _ rfl) (by decide))) k ?h3 ?h4 ?h5 ?h6 ?_
            case h3 => simp
            case h4 => omega
            case h5 => omega
            case h6 => exact hp2.out.bel_size hTe.out
            intro A8 c8 x3 ho hg hb hv
            rw [List.nil_append] at ho
            have hp3 := Lib.hid (hp2.out.app (hp2.out.bel_size hTe.out) hg hb ho hv)
            obtain ⟨p1, p2, p3, p4⟩ := hSall.out _ hp3.out.bel
            clear ho hg hb hv
            refine hK.out _ _ (Pl.more_go _ (fun _ h => h) (by exact ⟨p1, p2, p3, p4⟩) ?_)
            clear hK K p2 p3 p4 p1
            try simp only [Act.put, List.setIfInBounds_toArray, List.set_cons_zero, List.set_cons_succ]
            refine Pl.run_list (fun K hK => ?_)
            refine append_sq (El := FoEl B) (k := 3) _ 22 52 (.agg #[.string ⟨#[]⟩, .slice none 0 0, .int .i64 0]) 48 Tryz.underlying22 (by kernel_rfl) rfl (by omega) rfl _ _ rfl T _ _ rfl (hp3.out.row _ _ rfl) _ 1 1 _ rfl (hp3.out.one _ rfl).1 (FoEl.one _) (fun w' hg => FoEl.kept hg (ows_noE (hp3.out.row _ _ rfl) (by decide))) (k + 1) ?h3 ?h4 ?h5 ?h6 ?_
            case h3 => rw [hkl.out]
            case h4 => omega
            case h5 => omega
            case h6 => exact hp3.out.bel_size hTe.out
            intro A9 c9 x4 ho hg hb hv
            have hp4 := Lib.hid (hp3.out.app (hp3.out.bel_size hTe.out) hg hb ho hv)
            obtain ⟨p1, p2, p3, p4⟩ := hSall.out _ hp4.out.bel
            clear ho hg hb hv
            refine hK.out _ _ (Pl.more_go _ (fun _ h => h) (by exact ⟨p1, p2, p3, p4⟩) ?_)
            clear hK K p2 p3 p4 p1
            try simp only [Act.put, List.setIfInBounds_toArray, List.set_cons_zero, List.set_cons_succ]
            refine Pl.run_list (fun K hK => ?_)
            refine append_sq (El := FoEl B) (k := 3) _ 22 52 (.agg #[.string ⟨#[]⟩, .slice none 0 0, .int .i64 0]) 48 Tryz.underlying22 (by kernel_rfl) rfl (by omega) rfl _ _ rfl T _ _ rfl (hp4.out.row _ _ rfl) _ (n - k) (c - k) _ rfl (hR.out _ hp4.out.bel) (FoEl.one _) (fun w' hg => FoEl.kept hg (ows_noE (hp4.out.row _ _ rfl) (by decide))) (n + 1) ?h3 ?h4 ?h5 ?h6 ?_
            case h3 => rw [List.length_append, hkl.out]; simp; omega
            case h4 => omega
            case h5 => omega
            case h6 => exact hp4.out.bel_size hTe.out
            intro A10 c10 x5 ho hg hb hv
            have hp5 := Lib.hid (hp4.out.app (hp4.out.bel_size hTe.out) hg hb ho hv)
            obtain ⟨p1, p2, p3, p4⟩ := hSall.out _ hp5.out.bel
            clear ho hg hb hv
            refine hK.out _ _ (Pl.more_go _ (fun _ h => h) (by exact ⟨p1, p2, p3, p4⟩) ?_)
            clear hK K p2 p3 p4
            try simp only [Act.put, List.setIfInBounds_toArray, List.set_cons_zero, List.set_cons_succ]
            refine Pl.done_go ?_
            have fz := hfz.out _ hp5.out.bel
            have hf := Lib.hid (hfin.out _ _ _ hp5.out.bel (hp5.out.row _ _ rfl))
            clear hfin hfz hSall hp0 hp1 hp2 hp3 hp4 hp5
            go_wp2_with fail
            all_goals (go_end0; exact ⟨rfl, hf.out⟩)
        · refine Pl.run_go (fun K hK => ?_)
          go_simp
          have hp1 := Lib.hid ((hp0.out.lit (z := (safe : Nat)) (hp0.out.bel_size hTe.out) hnf1.out (howx.out _ hp0.out.bel) rfl).drew_ hTe.out)
          obtain ⟨p1, p2, p3, p4⟩ := hSall.out _ hp1.out.bel
          generalize w4.heap.size = ko at hp1 ⊢
          generalize (w4.alloc (.cells #[.string s, .slice A2 n0 c2, .int .i64 (safe : Nat)] 52)).drew = x1 at hp1 p1 p2 p3 p4 ⊢
          refine hK.out _ _ (Pl.more_go _ (fun _ h => h) (by exact ⟨p1, p2, p3, p4⟩) ?_)
          clear hK K p1 p2 p3 p4
          try simp only [Act.put, List.setIfInBounds_toArray, List.set_cons_zero, List.set_cons_succ]
          refine Pl.run_go (fun K hK => ?_)
          go_simp
          have hp2 := Lib.hid (hp1.out.nil (hp1.out.bel_size hTe.out))
          obtain ⟨p1, p2, p3, p4⟩ := hSall.out _ hp2.out.bel
          generalize x1.heap.size = kr at hp2 ⊢
          generalize x1.alloc (.cells #[] 52) = x2 at hp2 p1 p2 p3 p4 ⊢
          refine hK.out _ _ (Pl.more_go _ (fun _ h => h) (by exact ⟨p1, p2, p3, p4⟩) ?_)
          clear hK K p1 p2 p3 p4
          try simp only [Act.put, List.setIfInBounds_toArray, List.set_cons_zero, List.set_cons_succ]
          refine Pl.run_list (fun K hK => ?_)
          refine append_sq (El := FoEl B) (k := 3) _ 22 52 (.agg #[.string ⟨#[]⟩, .slice none 0 0, .int .i64 0]) 48 Tryz.underlying22 (by kernel_rfl) rfl (by omega) rfl _ _ rfl T _ _ rfl (hp2.out.row _ _ rfl) _ k c _ rfl (hL.out _ hp2.out.bel) (FoEl.one _) (fun w' hg => FoEl.kept hg (ows_noE (hp2.out.row _ _ rfl) (by decide))) k ?h3 ?h4 ?h5 ?h6 ?_
          case h3 => simp
          case h4 => omega
          case h5 => omega
          case h6 => exact hp2.out.bel_size hTe.out
          intro A8 c8 x3 ho hg hb hv
          rw [List.nil_append] at ho
          have hp3 := Lib.hid (hp2.out.app (hp2.out.bel_size hTe.out) hg hb ho hv)
          obtain ⟨p1, p2, p3, p4⟩ := hSall.out _ hp3.out.bel
          clear ho hg hb hv
          refine hK.out _ _ (Pl.more_go _ (fun _ h => h) (by exact ⟨p1, p2, p3, p4⟩) ?_)
          clear hK K p2 p3 p4 p1
          try simp only [Act.put, List.setIfInBounds_toArray, List.set_cons_zero, List.set_cons_succ]
          refine Pl.run_list (fun K hK => ?_)
          refine append_sq (El := FoEl B) (k := 3) _ 22 52 (.agg #[.string ⟨#[]⟩, .slice none 0 0, .int .i64 0]) 48 Tryz.underlying22 (by kernel_rfl) rfl (by omega) rfl _ _ rfl T _ _ rfl (hp3.out.row _ _ rfl) _ 1 1 _ rfl (hp3.out.one _ rfl).1 (FoEl.one _) (fun w' hg => FoEl.kept hg (ows_noE (hp3.out.row _ _ rfl) (by decide))) (k + 1) ?h3 ?h4 ?h5 ?h6 ?_
          case h3 => rw [hkl.out]
          case h4 => omega
          case h5 => omega
          case h6 => exact hp3.out.bel_size hTe.out
          intro A9 c9 x4 ho hg hb hv
          have hp4 := Lib.hid (hp3.out.app (hp3.out.bel_size hTe.out) hg hb ho hv)
          obtain ⟨p1, p2, p3, p4⟩ := hSall.out _ hp4.out.bel
          clear ho hg hb hv
          refine hK.out _ _ (Pl.more_go _ (fun _ h => h) (by exact ⟨p1, p2, p3, p4⟩) ?_)
          clear hK K p2 p3 p4 p1
          try simp only [Act.put, List.setIfInBounds_toArray, List.set_cons_zero, List.set_cons_succ]
          refine Pl.run_list (fun K hK => ?_)
          refine append_sq (El := FoEl B) (k := 3) _ 22 52 (.agg #[.string ⟨#[]⟩, .slice none 0 0, .int .i64 0]) 48 Tryz.underlying22 (by kernel_rfl) rfl (by omega) rfl _ _ rfl T _ _ rfl (hp4.out.row _ _ rfl) _ (n - k) (c - k) _ rfl (hR.out _ hp4.out.bel) (FoEl.one _) (fun w' hg => FoEl.kept hg (ows_noE (hp4.out.row _ _ rfl) (by decide))) (n + 1) ?h3 ?h4 ?h5 ?h6 ?_
          case h3 => rw [List.length_append, hkl.out]; simp; omega
          case h4 => omega
          case h5 => omega
          case h6 => exact hp4.out.bel_size hTe.out
          intro A10 c10 x5 ho hg hb hv
          have hp5 := Lib.hid (hp4.out.app (hp4.out.bel_size hTe.out) hg hb ho hv)
          obtain ⟨p1, p2, p3, p4⟩ := hSall.out _ hp5.out.bel
          clear ho hg hb hv
          refine hK.out _ _ (Pl.more_go _ (fun _ h => h) (by exact ⟨p1, p2, p3, p4⟩) ?_)
          clear hK K p2 p3 p4
          try simp only [Act.put, List.setIfInBounds_toArray, List.set_cons_zero, List.set_cons_succ]
          refine Pl.done_go ?_
          have fz := hfz.out _ hp5.out.bel
          have hf := Lib.hid (hfin.out _ _ _ hp5.out.bel (hp5.out.row _ _ rfl))
          clear hfin hfz hSall hp0 hp1 hp2 hp3 hp4 hp5
          go_wp2_with fail
          all_goals (go_end0; exact ⟨rfl, hf.out⟩)
end Go.Proofs.YtjhiihmibleecaaGreatDoor.Dk
