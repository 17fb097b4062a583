/- A step of a disk. -/
import Derived.Test.YtjhiihmibleecaaGreatDoorDkRef
namespace Go.Proofs.YtjhiihmibleecaaGreatDoor.Dk
open Go.RowKit

/-- A step, plainly. -/
structure Dx where
  kind : Int
  nm : Name
  to_ : Name
  n : Int
  bytes : List UInt8
  tails : List Int
  list : List Tr

def DoEl (w : World) (vs : List Value) (x : Dx) : Prop := ∃ s s2 Ab nb cb At nt ct Al nl cl, vs = [.int .i64 x.kind, .string s, .string s2, .int .i64 x.n, .slice Ab nb cb, .slice At nt ct, .slice Al nl cl] ∧
  x.nm = s.data.toList ∧ x.to_ = s2.data.toList ∧ Bs w Ab nb cb x.bytes ∧ Rd w At nt ct (x.tails.map (Value.int .i64)) ∧ Sq TrEl 3 w Al nl cl x.list
theorem DoEl.below {w w' : World} (hb : Below w.heap.size w w') : ∀ vs x, DoEl w vs x → DoEl w' vs x := by
  rintro vs x ⟨s, s2, Ab, nb, cb, At, nt, ct, Al, nl, cl, rfl, h1, h2, h3, h4, h5⟩
  exact ⟨s, s2, Ab, nb, cb, At, nt, ct, Al, nl, cl, rfl, h1, h2, h3.below hb, h4.below hb, h5.below (fun _ _ h => h) hb⟩

/-- A step that is small enough. -/
structure Dm (x : Dx) : Prop where
  bytes : x.bytes.length ≤ 2000
  nm : x.nm.length ≤ 1000
  to_ : x.to_.length ≤ 1000
  tails : x.tails.length ≤ 200
  list : x.list.length ≤ 200

/-- A step: its code, and the disk behind it. -/
def actX (d : D) (x : Dx) : Int × D :=
  if x.kind = 1 then op d 1 x.nm [] 0 []
  else if x.kind = 2 then op d 2 x.nm [] 0 x.bytes
  else if x.kind = 3 then op d 3 x.nm [] x.n []
  else if x.kind = 4 then op d 4 x.nm [] 0 []
  else if x.kind = 5 then op d 5 x.nm x.to_ 0 []
  else if x.kind = 6 then op d 6 x.nm [] 0 []
  else if x.kind = 7 then (0, crash d x.tails)
  else if x.kind = 8 then (0, arm d x.list)
  else (0, d)

/-- What the walks ask of a disk. -/
structure Good (d : D) (N M U : Nat) : Prop where
  inv : Inv d
  ops : d.ops ≤ N
  tr : d.tr.length ≤ M
  used : used d.fs ≤ U

theorem may_len {nm : Name} (h : may nm = true) : nm.length ≤ 40 := by
  unfold may at h
  simp at h
  exact h.1.2

theorem Good.fl {d : D} {N M U : Nat} (h : Good d N M U) (hU : U ≤ 1000000000) : ∀ p ∈ d.fs, p.1.length ≤ 1000 ∧ p.2.data.length ≤ 1000000000 ∧ p.2.safe ≤ p.2.data.length := fun p hp => by
  have h1 := may_len (h.inv.names p hp)
  have h2 := len_le_used hp
  have h3 := h.used
  exact ⟨by omega, by omega, h.inv.safe p hp⟩

theorem used_upd_le {nm : Name} {g : Fl → Fl} {k : Nat} (hg : ∀ f, (g f).data.length ≤ f.data.length + k) : ∀ {l : Fs}, Up l → used (upd nm g l) ≤ used l + k
  | [], _ => by simp [upd, used]
  | p :: l, hU => by
    have ih := used_upd_le (nm := nm) hg hU.tail
    unfold upd at ih ⊢
    rw [List.map_cons, used_cons, used_cons]
    by_cases e : p.1 = nm
    · rw [if_pos e]
      have h2 : l.map (fun p => if p.1 = nm then (p.1, g p.2) else p) = l := by
        conv => rhs; rw [← List.map_id l]
        apply List.map_congr_left
        intro q hq
        have := before_ne (hU.head hq)
        rw [e] at this
        rw [if_neg this.symm]
        rfl
      rw [h2]
      have := hg p.2
      simp only
      omega
    · rw [if_neg e]
      omega

theorem used_op {d : D} (hI : Inv d) (k : Nat) (nm nt : Name) (n : Int) (b : List UInt8) : used (op d k nm nt n b).2.fs ≤ used d.fs + b.length := by
  have hpart : ∀ p, used (part d.fs k nm p b) ≤ used d.fs + b.length := fun p => by
    unfold part
    split
    · exact used_upd_le (fun f => by simp only [List.length_append, List.length_take]; omega) hI.up
    · omega
  have hact : used (act d.fs k nm nt n b) ≤ used d.fs + b.length := by
    unfold act
    split
    · rw [used_ins]; simp
    split
    · exact used_upd_le (fun f => by simp only [List.length_append]; omega) hI.up
    split
    · exact Nat.le_trans (used_upd_le (k := 0) (fun f => by simp only [List.length_take]; omega) hI.up) (by omega)
    split
    · exact Nat.le_trans (used_upd_le (k := 0) (fun f => by simp) hI.up) (by omega)
    split
    · split
      · omega
      · rename_i f hf
        have h1 := used_del hI.up hf
        have h2 := used_del_le nt (del nm d.fs)
        rw [used_ins]
        omega
    · have := used_del_le nm d.fs
      omega
  unfold op
  split
  · simp only; omega
  split
  · simp only; omega
  · split
    · exact hact
    · split
      · exact hpart _
      · exact hpart _
theorem op_ops (d : D) (k : Nat) (nm nt : Name) (n : Int) (b : List UInt8) : (op d k nm nt n b).2.ops ≤ d.ops + 1 ∧ (op d k nm nt n b).2.tr = d.tr ∧ (op d k nm nt n b).2.room = d.room := by
  unfold op
  split
  · exact ⟨Nat.le_succ _, rfl, rfl⟩
  split
  · exact ⟨Nat.le_refl _, rfl, rfl⟩
  · split
    · exact ⟨Nat.le_refl _, rfl, rfl⟩
    · split
      · exact ⟨Nat.le_refl _, rfl, rfl⟩
      · exact ⟨Nat.le_refl _, rfl, rfl⟩

theorem Good.op_ {d : D} {N M U : Nat} (h : Good d N M U) (k : Nat) (nm nt : Name) (n : Int) (b : List UInt8) (hb : b.length ≤ 2000) : Good (op d k nm nt n b).2 (N + 1) M (U + 2000) := by
  obtain ⟨h1, h2, h3⟩ := op_ops d k nm nt n b
  have h4 := used_op h.inv k nm nt n b
  have h5 := h.ops
  have h6 := h.used
  exact ⟨inv_op h.inv _ _ _ _ _, by omega, by rw [h2]; exact h.tr, by omega⟩
theorem Good.act_ {d : D} {N M U : Nat} (h : Good d N M U) (x : Dx) (hx : Dm x) (hM : 200 ≤ M) : Good (actX d x).2 (N + 1) M (U + 2000) ∧ (actX d x).2.room = d.room := by
  unfold actX
  split
  · exact ⟨h.op_ _ _ _ _ _ (by simp), (op_ops d _ _ _ _ _).2.2⟩
  split
  · exact ⟨h.op_ _ _ _ _ _ hx.bytes, (op_ops d _ _ _ _ _).2.2⟩
  split
  · exact ⟨h.op_ _ _ _ _ _ (by simp), (op_ops d _ _ _ _ _).2.2⟩
  split
  · exact ⟨h.op_ _ _ _ _ _ (by simp), (op_ops d _ _ _ _ _).2.2⟩
  split
  · exact ⟨h.op_ _ _ _ _ _ (by simp), (op_ops d _ _ _ _ _).2.2⟩
  split
  · exact ⟨h.op_ _ _ _ _ _ (by simp), (op_ops d _ _ _ _ _).2.2⟩
  have h5 := h.ops
  have h6 := h.used
  have h7 := h.tr
  split
  · exact ⟨⟨inv_crash h.inv _, by show d.ops ≤ N + 1; omega, Nat.zero_le _, by have := crashF_used x.tails 0 d.fs h.inv.safe; show Dk.used (crashF x.tails 0 d.fs) ≤ _; omega⟩, rfl⟩
  split
  · exact ⟨⟨h.inv.ops_ 0 d.down x.list, Nat.zero_le _, by have := hx.list; show x.list.length ≤ M; omega, by show Dk.used d.fs ≤ _; omega⟩, rfl⟩
  · exact ⟨⟨h.inv, by show d.ops ≤ N + 1; omega, h7, by show Dk.used d.fs ≤ _; omega⟩, rfl⟩

def ActP (B a mb : Nat) (X : Int × D) (w : World) (e : Ending) (w' : World) : Prop := e = .returned (.int .i64 X.1) ∧ Sd B a mb X.2 w w'
theorem OpP.act {B a mb : Nat} {tv : Value} {X : Int × D} {w w' : World} {e : Ending} (h : OpP B a mb tv X w e w') : ActP B a mb X w e w' := ⟨h.1, h.2.sd⟩

set_option maxHeartbeats 2000000 in
set_option maxRecDepth 100000 in
theorem act_any (w : World) (B a mb : Nat) (L : Al Nat) (F : Nat → Fl) (tv : Value) (d : D) (h : Da w B a mb L F tv d) (hG : Good d 1000 1000 1000000) (hroom : d.room ≤ 9223372036854775807) (vs : List Value) (x : Dx) (hx : ∀ w', Below B w w' → DoEl w' vs x) (hm : Dm x) :
    Calls Tryz.prog 9 #[.pointer (some ⟨a, 0, none⟩), .agg vs.toArray] w (ActP B a mb (actX d x) w) := by
  obtain ⟨s, s2, Ab, nb, cb, At, nt, ct, Al, nl, cl, rfl, hnm, hto, hbs, hrd, hsq⟩ := hx w (Below.refl _ _)
  have hB : B ≤ w.heap.size := by have := h.alt; have := h.base; omega
  have hba := below_alloc w (.cells #[.int .i64 x.kind, .string s, .string s2, .int .i64 x.n, .slice Ab nb cb, .slice At nt ct, .slice Al nl cl] 39)
  have hnew := heap_alloc_new w (.cells #[.int .i64 x.kind, .string s, .string s2, .int .i64 x.n, .slice Ab nb cb, .slice At nt ct, .slice Al nl cl] 39)
  obtain ⟨T, hT⟩ : ∃ T, w.heap.size = T := ⟨_, rfl⟩
  obtain ⟨w2, hw2⟩ : ∃ w2, w.alloc (.cells #[.int .i64 x.kind, .string s, .string s2, .int .i64 x.n, .slice Ab nb cb, .slice At nt ct, .slice Al nl cl] 39) = w2 := ⟨_, rfl⟩
  rw [hw2] at hba hnew
  have hD := h.below hba
  have hon := Lib.hid (hba.mono hB)
  have hfm := Lib.hid (Fm.below hba)
  rw [hT] at hnew
  have hss : s.size ≤ 1000 := by have := hm.nm; rw [hnm, Array.length_toList] at this; exact this
  have hss2 : s2.size ≤ 1000 := by have := hm.to_; rw [hto, Array.length_toList] at this; exact this
  have hbl : nb ≤ 2000 := by have := hm.bytes; rw [hbs.len] at this; exact this
  have hnl : nl ≤ 200 := by have := hm.list; rw [hsq.len] at this; exact this
  have hbs2 := hbs.below hba
  have hsq2 := hsq.below (w' := w2) (fun _ _ h => h) hba
  have hT2 : ∀ w', Below B w2 w' → Fm w2 w' → Rd w' At nt ct (x.tails.map (Value.int .i64)) := fun w' hb _ => by
    obtain ⟨s', s2', Ab', nb', cb', At', nt', ct', Al', nl', cl', e, _, _, _, hr, _⟩ := hx w' ((hba.mono hB).trans hb)
    injection e with _ e
    injection e with _ e
    injection e with _ e
    injection e with _ e
    injection e with _ e
    injection e with e _
    injection e with e1 e2 e3
    subst e1; subst e2; subst e3
    exact hr
  have k0 : w2.cell? ⟨T, 0, none⟩ = some (.int .i64 x.kind) := cell_blk hnew rfl
  have k1 : w2.cell? ⟨T, 1, none⟩ = some (.string s) := cell_blk hnew rfl
  have k2 : w2.cell? ⟨T, 2, none⟩ = some (.string s2) := cell_blk hnew rfl
  have k3 : w2.cell? ⟨T, 3, none⟩ = some (.int .i64 x.n) := cell_blk hnew rfl
  have k4 : w2.cell? ⟨T, 4, none⟩ = some (.slice Ab nb cb) := cell_blk hnew rfl
  have k5 : w2.cell? ⟨T, 5, none⟩ = some (.slice At nt ct) := cell_blk hnew rfl
  have k6 : w2.cell? ⟨T, 6, none⟩ = some (.slice Al nl cl) := cell_blk hnew rfl
  have hmost := hG.inv.most
  have hlen := h.len_eq
  have hops := hG.ops
  have htr := hG.tr
  have hus := hG.used
  have c1 := Lib.hid (Create_any w2 B a mb L F tv d hD (by omega) (by omega) (by omega) s (by omega))
  have c2 := Lib.hid (Append_any w2 B a mb L F tv d hD (by omega) (by omega) s (by omega) Ab nb cb x.bytes hbs2 (by omega) (by omega) hroom)
  have c3 := Lib.hid (Cut_any w2 B a mb L F tv d hD (by omega) (by omega) (fun p hp => (hG.fl (by omega) p hp).2.1) s (by omega) x.n)
  have c4 := Lib.hid (Sync_any w2 B a mb L F tv d hD (by omega) (by omega) s (by omega))
  have c5 := Lib.hid (Rename_any w2 B a mb L F tv d hD (by omega) (by omega) (by omega) s (by omega) s2 (by omega))
  have c6 := Lib.hid (Delete_any w2 B a mb L F tv d hD (by omega) (by omega) s (by omega))
  have c7 := Lib.hid (Crash_any w2 B a mb L F tv d hD (by omega) (hG.fl (by omega)) At nt ct x.tails hT2)
  have c8 := Lib.hid (Arm_any w2 B a mb L F tv d hD Al nl cl x.list hsq2 (by omega))
  have c9 : Hid (Sd B a mb d w2 w2) := Lib.hid ⟨Below.refl _ _, Fm.refl _, L, F, tv, hD⟩
  rw [← hnm] at c1 c2 c3 c4 c5 c6
  rw [← hto] at c5
  obtain ⟨X, hX⟩ : ∃ X, actX d x = X := ⟨_, rfl⟩
  rw [hX]
  unfold actX at hX
  have hX' := Lib.hid hX
  clear hX h hG hx hm hnm hto hbs hrd hsq hba hnew hD hbs2 hsq2 hT2 hmost hlen hops htr hus hss hss2 hbl hnl hroom hB
  by_cases e1 : x.kind = 1
  · have j1 : (x.kind == 1) = true := by rw [beq_iff_eq]; exact e1
    have hX2 : Hid (op d 1 x.nm [] 0 [] = X) := Lib.hid (by have := hX'.out; rw [if_pos e1] at this; exact this)
    clear e1
    go_enter Tryz.func9, Tryz.ntmps9
    go_wp2_with fail
    refine c1.out.mono ?_
    rintro e w3 hop
    have hop' := Lib.hid (OpP.act hop)
    obtain rfl := hop.1
    clear hop
    go_wp2_with fail
    go_ret
    rw [← hX2.out]
    exact ⟨rfl, hop'.out.2.on hon.out hfm.out⟩
  have j1 : (x.kind == 1) = false := by rw [beq_eq_false_iff_ne]; exact e1
  by_cases e2 : x.kind = 2
  · have j2 : (x.kind == 2) = true := by rw [beq_iff_eq]; exact e2
    have hX2 : Hid (op d 2 x.nm [] 0 x.bytes = X) := Lib.hid (by have := hX'.out; rw [if_neg e1, if_pos e2] at this; exact this)
    clear e1 e2
    go_enter Tryz.func9, Tryz.ntmps9
    go_wp2_with fail
    refine c2.out.mono ?_
    rintro e w3 hop
    have hop' := Lib.hid (OpP.act hop)
    obtain rfl := hop.1
    clear hop
    go_wp2_with fail
    go_ret
    rw [← hX2.out]
    exact ⟨rfl, hop'.out.2.on hon.out hfm.out⟩
  have j2 : (x.kind == 2) = false := by rw [beq_eq_false_iff_ne]; exact e2
  by_cases e3 : x.kind = 3
  · have j3 : (x.kind == 3) = true := by rw [beq_iff_eq]; exact e3
    have hX2 : Hid (op d 3 x.nm [] x.n [] = X) := Lib.hid (by have := hX'.out; rw [if_neg e1, if_neg e2, if_pos e3] at this; exact this)
    clear e1 e2 e3
    go_enter Tryz.func9, Tryz.ntmps9
    go_wp2_with fail
    refine c3.out.mono ?_
    rintro e w3 hop
    have hop' := Lib.hid (OpP.act hop)
    obtain rfl := hop.1
    clear hop
    go_wp2_with fail
    go_ret
    rw [← hX2.out]
    exact ⟨rfl, hop'.out.2.on hon.out hfm.out⟩
  have j3 : (x.kind == 3) = false := by rw [beq_eq_false_iff_ne]; exact e3
  by_cases e4 : x.kind = 4
  · have j4 : (x.kind == 4) = true := by rw [beq_iff_eq]; exact e4
    have hX2 : Hid (op d 4 x.nm [] 0 [] = X) := Lib.hid (by have := hX'.out; rw [if_neg e1, if_neg e2, if_neg e3, if_pos e4] at this; exact this)
    clear e1 e2 e3 e4
    go_enter Tryz.func9, Tryz.ntmps9
    go_wp2_with fail
    refine c4.out.mono ?_
    rintro e w3 hop
    have hop' := Lib.hid (OpP.act hop)
    obtain rfl := hop.1
    clear hop
    go_wp2_with fail
    go_ret
    rw [← hX2.out]
    exact ⟨rfl, hop'.out.2.on hon.out hfm.out⟩
  have j4 : (x.kind == 4) = false := by rw [beq_eq_false_iff_ne]; exact e4
  by_cases e5 : x.kind = 5
  · have j5 : (x.kind == 5) = true := by rw [beq_iff_eq]; exact e5
    have hX2 : Hid (op d 5 x.nm x.to_ 0 [] = X) := Lib.hid (by have := hX'.out; rw [if_neg e1, if_neg e2, if_neg e3, if_neg e4, if_pos e5] at this; exact this)
    clear e1 e2 e3 e4 e5
    go_enter Tryz.func9, Tryz.ntmps9
    go_wp2_with fail
    refine c5.out.mono ?_
    rintro e w3 hop
    have hop' := Lib.hid (OpP.act hop)
    obtain rfl := hop.1
    clear hop
    go_wp2_with fail
    go_ret
    rw [← hX2.out]
    exact ⟨rfl, hop'.out.2.on hon.out hfm.out⟩
  have j5 : (x.kind == 5) = false := by rw [beq_eq_false_iff_ne]; exact e5
  by_cases e6 : x.kind = 6
  · have j6 : (x.kind == 6) = true := by rw [beq_iff_eq]; exact e6
    have hX2 : Hid (op d 6 x.nm [] 0 [] = X) := Lib.hid (by have := hX'.out; rw [if_neg e1, if_neg e2, if_neg e3, if_neg e4, if_neg e5, if_pos e6] at this; exact this)
    clear e1 e2 e3 e4 e5 e6
    go_enter Tryz.func9, Tryz.ntmps9
    go_wp2_with fail
    refine c6.out.mono ?_
    rintro e w3 hop
    have hop' := Lib.hid (OpP.act hop)
    obtain rfl := hop.1
    clear hop
    go_wp2_with fail
    go_ret
    rw [← hX2.out]
    exact ⟨rfl, hop'.out.2.on hon.out hfm.out⟩
  have j6 : (x.kind == 6) = false := by rw [beq_eq_false_iff_ne]; exact e6
  by_cases e7 : x.kind = 7
  · have j7 : (x.kind == 7) = true := by rw [beq_iff_eq]; exact e7
    have hX2 : Hid ((0, crash d x.tails) = X) := Lib.hid (by have := hX'.out; rw [if_neg e1, if_neg e2, if_neg e3, if_neg e4, if_neg e5, if_neg e6, if_pos e7] at this; exact this)
    clear e1 e2 e3 e4 e5 e6 e7
    go_enter Tryz.func9, Tryz.ntmps9
    go_wp2_with fail
    refine c7.out.mono ?_
    rintro e w3 ⟨rfl, hsd⟩
    have hsd' := Lib.hid hsd
    clear hsd
    go_wp2_with fail
    go_ret
    rw [← hX2.out]
    exact ⟨rfl, hsd'.out.on hon.out hfm.out⟩
  have j7 : (x.kind == 7) = false := by rw [beq_eq_false_iff_ne]; exact e7
  by_cases e8 : x.kind = 8
  · have j8 : (x.kind == 8) = true := by rw [beq_iff_eq]; exact e8
    have hX2 : Hid ((0, arm d x.list) = X) := Lib.hid (by have := hX'.out; rw [if_neg e1, if_neg e2, if_neg e3, if_neg e4, if_neg e5, if_neg e6, if_neg e7, if_pos e8] at this; exact this)
    clear e1 e2 e3 e4 e5 e6 e7 e8
    go_enter Tryz.func9, Tryz.ntmps9
    go_wp2_with fail
    refine c8.out.mono ?_
    rintro e w3 ⟨rfl, hsd⟩
    have hsd' := Lib.hid hsd
    clear hsd
    go_wp2_with fail
    go_ret
    rw [← hX2.out]
    exact ⟨rfl, hsd'.out.on hon.out hfm.out⟩
  have j8 : (x.kind == 8) = false := by rw [beq_eq_false_iff_ne]; exact e8
  have hX2 : Hid ((0, d) = X) := Lib.hid (by have := hX'.out; rw [if_neg e1, if_neg e2, if_neg e3, if_neg e4, if_neg e5, if_neg e6, if_neg e7, if_neg e8] at this; exact this)
  clear e1 e2 e3 e4 e5 e6 e7 e8
  go_enter Tryz.func9, Tryz.ntmps9
  go_wp2_with fail
  go_ret
  rw [← hX2.out]
  exact ⟨rfl, c9.out.on hon.out hfm.out⟩
end Go.Proofs.YtjhiihmibleecaaGreatDoor.Dk
