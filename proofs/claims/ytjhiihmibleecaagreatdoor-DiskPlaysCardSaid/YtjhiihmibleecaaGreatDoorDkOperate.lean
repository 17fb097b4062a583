/- An operation: its refusal, what it does in part, and what it does. -/
import Derived.Test.YtjhiihmibleecaaGreatDoorDkTrb
namespace Go.Proofs.YtjhiihmibleecaaGreatDoor.Dk
open Go.RowKit

/-- Nothing but disks, their files and maps has turned. -/
def Fm (w w' : World) : Prop := ∀ (k : Nat) (cs : Array Value) (E : TypeId) (fr : Nat × Nat), w.heap[k]? = some (Obj.cells cs E fr) → E ≠ 65 → E ≠ 61 → w'.heap[k]? = some (Obj.cells cs E fr)
theorem Fm.refl (w : World) : Fm w w := fun _ _ _ _ h _ _ => h
theorem Fm.trans {w w1 w2 : World} (h : Fm w w1) (h2 : Fm w1 w2) : Fm w w2 := fun k cs E fr hk h3 h4 => h2 k cs E fr (h k cs E fr hk h3 h4) h3 h4
theorem Fm.below {w w' : World} (h : Below w.heap.size w w') : Fm w w' := fun k _ _ _ hk _ _ => (h.block k (Array.getElem?_eq_some_iff.1 hk).1).trans hk
theorem Fm.grown {w w' : World} {r : Nat} (hg : w.grownBy w' (some r)) (hr : ∀ cs E fr, w.heap[r]? = some (.cells cs E fr) → E = 65 ∨ E = 61) : Fm w w' := fun k cs E fr hk h3 h4 => by
  refine (hg.block k (Array.getElem?_eq_some_iff.1 hk).1 ?_).trans hk
  intro e
  injection e with e
  subst e
  rcases hr _ _ _ hk with h | h
  · exact h3 h
  · exact h4 h
theorem Fm.row {w w' : World} (h : Fm w w') {B E s n : Nat} {v : Value} {xs : List Value} (ho : w.ownsRow B E s v n xs) (h3 : E ≠ 65) (h4 : E ≠ 61) : w'.ownsRow B E s v n xs := by
  obtain ⟨h1, h2⟩ := ho
  refine ⟨h1, h2.imp id ?_⟩
  rintro ⟨g, cap, cur, hv, hB, hh, hr⟩
  exact ⟨g, cap, cur, hv, hB, h g _ _ _ hh h3 h4, hr⟩
theorem Fm.owb {w w' : World} (h : Fm w w') {B : Nat} {v : Value} {l : List UInt8} (ho : OwB w B 5 v l) : OwB w' B 5 v l := h.row ho (by decide) (by decide)

/-- The disk is now so. -/
def St (B a mb : Nat) (tv : Value) (dd : D) (w w' : World) : Prop := Below B w w' ∧ Fm w w' ∧ ∃ L F, Da w' B a mb L F tv dd
theorem St.on {B a mb : Nat} {tv : Value} {dd : D} {w0 w w' : World} (h : St B a mb tv dd w w') (hb : Below B w0 w) (hf : Fm w0 w) : St B a mb tv dd w0 w' := ⟨hb.trans h.1, hf.trans h.2.1, h.2.2⟩

/-- What an operation gives, of its refusal, and of the disks behind it. -/
def opX (d : D) (code : Int) (dP : Int → D) (dD : D) : Int × D :=
  if d.down then (45, d) else
  if code ≠ 0 then (code, { d with ops := d.ops + 1 }) else
  match trouble d.tr (d.ops + 1) with
  | none => (0, dD)
  | some (tk, p) => if tk = 3 then (45, { dP p with down := true }) else (39 + tk, dP p)

def OpP (B a mb : Nat) (tv : Value) (X : Int × D) (w : World) (e : Ending) (w' : World) : Prop := e = .returned (.int .i64 X.1) ∧ St B a mb tv X.2 w w'

theorem trouble_kd {tr : List Tr} {n : Nat} {k p : Int} (h : trouble tr n = some (k, p)) : 1 ≤ k ∧ k ≤ 3 := by
  unfold trouble at h
  obtain ⟨t, h1, h2⟩ := Option.map_eq_some_iff.1 h
  have := List.find?_some h1
  unfold hits at this
  rw [h2] at this
  simp at this
  exact this.2

set_option maxHeartbeats 1000000 in
set_option maxRecDepth 100000 in
theorem operate_any (w : World) (B a mb : Nat) (L : Al Nat) (F : Nat → Fl) (tv : Value) (d : D) (h : Da w B a mb L F tv d) (hops : d.ops ≤ 1000000) (htl : d.tr.length ≤ 1000000)
    (nR nP nD : FuncId) (capR capP capD : Array Value) (code : Int) (dP : Int → D) (dD : D)
    (eR : ∀ args w, (callFunc nR args).run Tryz.prog w = .ok (.enter nR args) w) (eP : ∀ args w, (callFunc nP args).run Tryz.prog w = .ok (.enter nP args) w) (eD : ∀ args w, (callFunc nD args).run Tryz.prog w = .ok (.enter nD args) w)
    (hR : ∀ w1, Below w.heap.size (w.setCell ⟨a, 3, none⟩ (.int .i64 ((d.ops + 1 : Nat)))) w1 → Calls Tryz.prog nR capR w1 fun e w2 => e = .returned (.int .i64 code) ∧ Below w1.heap.size w1 w2)
    (hP : ∀ w1 p, Below w.heap.size (w.setCell ⟨a, 3, none⟩ (.int .i64 ((d.ops + 1 : Nat)))) w1 → code = 0 → Calls Tryz.prog nP (#[.int .i64 p] ++ capP) w1 fun e w2 => e = .returned (.tuple #[]) ∧ St B a mb tv (dP p) w1 w2)
    (hD : ∀ w1, Below w.heap.size (w.setCell ⟨a, 3, none⟩ (.int .i64 ((d.ops + 1 : Nat)))) w1 → code = 0 → Calls Tryz.prog nD capD w1 fun e w2 => e = .returned (.tuple #[]) ∧ St B a mb tv dD w1 w2) :
    Calls Tryz.prog 42 #[.pointer (some ⟨a, 0, none⟩), .func (.func nR) #[] capR, .func (.func nP) #[] capP, .func (.func nD) #[] capD] w (OpP B a mb tv (opX d code dP dD) w) := by
  have c4 : w.cell? ⟨a, 4, none⟩ = some (.bool d.down) := by simp [World.cell?, h.blk]
  have hB : B ≤ w.heap.size := Nat.le_trans h.base.1 (Nat.le_of_lt h.alt)
  cases hdn : d.down with
  | true =>
    rw [hdn] at c4
    have hX : opX d code dP dD = (45, d) := by unfold opX; rw [hdn]; rfl
    rw [hX]
    have h' := Lib.hid h
    clear h hX hdn hR hP hD
    go_enter Tryz.func42, Tryz.ntmps42
    go_wp2_with fail
    go_ret
    exact ⟨rfl, Below.refl _ _, Fm.refl _, L, F, h'.out⟩
  | false =>
    rw [hdn] at c4
    have ht := trouble_any w B a mb L F tv d h hops htl
    obtain ⟨hD2, hb2⟩ := h.setOps (d.ops + 1)
    have halt := h.alt
    obtain ⟨W, hW⟩ : ∃ W, w.setCell ⟨a, 3, none⟩ (.int .i64 ((d.ops + 1 : Nat))) = W := ⟨_, rfl⟩
    have hWs : W.heap.size = w.heap.size := by rw [← hW]; exact set_size _ _ _
    rw [hW] at ht hD2 hb2 hR hP hD
    have hX : opX d code dP dD = if code ≠ 0 then (code, { d with ops := d.ops + 1 }) else
      match trouble d.tr (d.ops + 1) with
      | none => (0, dD)
      | some (tk, p) => if tk = 3 then (45, { dP p with down := true }) else (39 + tk, dP p) := by
        unfold opX
        rw [hdn]
        rfl
    obtain ⟨X, hXe⟩ : ∃ X, opX d code dP dD = X := ⟨_, rfl⟩
    rw [hXe] at hX ⊢
    have hX' := Lib.hid hX
    have hR' := Lib.hid hR
    have hP' := Lib.hid hP
    have hD' := Lib.hid hD
    have hD2' := Lib.hid hD2
    have hb2' := Lib.hid hb2
    have hWs' := Lib.hid hWs
    have hWe : Hid (w.setCell ⟨a, 3, none⟩ (.int .i64 ((d.ops + 1 : Nat))) = W) := Lib.hid hW
    have hAfm : Hid (∀ cs E fr, w.heap[a]? = some (.cells cs E fr) → E = 65 ∨ E = 61) := Lib.hid (fun cs E fr he => by rw [h.blk] at he; injection he with he; injection he with _ he _; exact .inr he.symm)
    have heR := Lib.hid eR
    have heP := Lib.hid eP
    have heD := Lib.hid eD
    clear hX hXe hR hP hD hD2 hb2 hW hWs h hdn eR eP eD
    go_enter Tryz.func42, Tryz.ntmps42
    go_wp2_with fail
    refine ht.mono ?_
    rintro e w1 ⟨hb1, at_, kd, pt, bef, rfl, hm⟩
    have hb1' := Lib.hid hb1
    have hm' := Lib.hid hm
    have eR := heR.out
    clear ht hb1 hm c4
    go_wp2_with fail
    have hN : w.heap.size ≤ w1.heap.size := by have := hb1'.out.size; have := hWs'.out; omega
    have hba := Lib.hid (hb1'.out.trans ((below_alloc w1 (.cells #[.int .i64 at_, .int .i64 kd, .int .i64 pt] 86)).mono hN))
    have hnew := heap_alloc_new w1 (.cells #[.int .i64 at_, .int .i64 kd, .int .i64 pt] 86)
    obtain ⟨T, hT⟩ : ∃ T, w1.heap.size = T := ⟨_, rfl⟩
    rw [hT] at hnew hN ⊢
    obtain ⟨wa, hwa⟩ : ∃ wa, w1.alloc (.cells #[.int .i64 at_, .int .i64 kd, .int .i64 pt] 86) = wa := ⟨_, rfl⟩
    rw [hwa] at hba hnew ⊢
    have hTs : T < wa.heap.size := (Array.getElem?_eq_some_iff.1 hnew).1
    have hnew' := Lib.hid hnew
    clear hT hwa hnew
    refine (hR'.out wa hba.out).mono ?_
    rintro e w2 ⟨rfl, hb2⟩
    have hb2'' := Lib.hid (hba.out.trans (hb2.mono (by omega)))
    have hT2 := Lib.hid ((hb2.block T hTs).trans hnew'.out)
    have hfm1 : Fm w W := by rw [← hWe.out]; exact Fm.grown (grown_set w ⟨a, 3, none⟩ _) hAfm.out
    have hfm0 : Hid (Fm w w2) := Lib.hid (hfm1.trans (Fm.below (by rw [hWs'.out]; exact hb2''.out)))
    clear hfm1
    have hbw2 : Hid (Below B w w2) := Lib.hid (hb2'.out.trans (hb2''.out.mono hB))
    clear hb2 eR
    by_cases hc : code = 0
    · have i0 : (code != 0) = false := by rw [bne_eq_false_iff_eq]; exact hc
      have hc' := Lib.hid hc
      have hX2 : Hid (X = match trouble d.tr (d.ops + 1) with
        | none => (0, dD)
        | some (tk, p) => if tk = 3 then (45, { dP p with down := true }) else (39 + tk, dP p)) := Lib.hid (by rw [hX'.out, if_neg (by rw [hc]; simp)])
      clear hc
      cases htr : trouble d.tr (d.ops + 1) with
      | none =>
        rw [htr] at hm' hX2
        obtain rfl : bef = false := hm'.out
        have hX3 : Hid (X = (0, dD)) := Lib.hid hX2.out
        have eD := heD.out
        clear htr hm' hX2 hX'
        go_wp2_with fail
        refine (hD'.out w2 hb2''.out hc'.out).mono ?_
        rintro e w3 ⟨rfl, hst⟩
        have hst' := Lib.hid (hst.on hbw2.out hfm0.out)
        clear hst eD
        go_wp2_with fail
        go_ret
        rw [hX3.out]
        exact ⟨rfl, hst'.out⟩
      | some z =>
        obtain ⟨tk, p⟩ := z
        have hk := trouble_kd htr
        rw [htr] at hm' hX2
        obtain ⟨rfl, rfl, rfl⟩ : bef = true ∧ kd = tk ∧ pt = p := hm'.out
        have hX3 : Hid (X = if kd = 3 then (45, { dP pt with down := true }) else (39 + kd, dP pt)) := Lib.hid hX2.out
        have eP := heP.out
        have k2 : w2.cell? ⟨T, 2, none⟩ = some (.int .i64 pt) := by simp [World.cell?, hT2.out]
        clear htr hm' hX2 hX'
        go_wp2_with fail
        refine (hP'.out w2 pt hb2''.out hc'.out).mono ?_
        rintro e w3 ⟨rfl, hst⟩
        have hT3 := Lib.hid (hst.2.1 T _ _ _ hT2.out (by decide) (by decide))
        have hst' := Lib.hid (hst.on hbw2.out hfm0.out)
        have k1 : w3.cell? ⟨T, 1, none⟩ = some (.int .i64 kd) := by simp [World.cell?, hT3.out]
        clear hst eP k2
        by_cases h1 : kd = 1
        · have j1 : (kd == 1) = true := by rw [beq_iff_eq]; exact h1
          have hX4 : Hid (X = (40, dP pt)) := Lib.hid (by rw [hX3.out, if_neg (by omega), h1]; rfl)
          clear h1
          go_wp2_with fail
          go_ret
          rw [hX4.out]
          exact ⟨rfl, hst'.out⟩
        · have j1 : (kd == 1) = false := by rw [beq_eq_false_iff_ne]; exact h1
          by_cases h2 : kd = 2
          · have j2 : (kd == 2) = true := by rw [beq_iff_eq]; exact h2
            have hX4 : Hid (X = (41, dP pt)) := Lib.hid (by rw [hX3.out, if_neg (by omega), h2]; rfl)
            clear h1 h2
            go_wp2_with fail
            go_ret
            rw [hX4.out]
            exact ⟨rfl, hst'.out⟩
          · have j2 : (kd == 2) = false := by rw [beq_eq_false_iff_ne]; exact h2
            have hX4 : Hid (X = (45, { dP pt with down := true })) := Lib.hid (by rw [hX3.out, if_pos (by omega)])
            obtain ⟨g1, g2, L3, F3, hD3⟩ := hst'.out
            have c4 : w3.cell? ⟨a, 4, none⟩ = some (.bool (dP pt).down) := by simp [World.cell?, hD3.blk]
            have f4 : w3.frozen? ⟨a, 4, none⟩ = false := frozen_of_row w3 a 4 _ _ hD3.blk
            obtain ⟨hD4, hb4⟩ := hD3.setDown true
            have hfa : Fm w3 (w3.setCell ⟨a, 4, none⟩ (.bool true)) := Fm.grown (grown_set w3 ⟨a, 4, none⟩ _) (fun cs E fr he => by rw [hD3.blk] at he; injection he with he; injection he with _ he _; exact .inr he.symm)
            have hfin : Hid (St B a mb tv { dP pt with down := true } w (w3.setCell ⟨a, 4, none⟩ (.bool true))) := Lib.hid ⟨g1.trans hb4, g2.trans hfa, L3, F3, hD4⟩
            clear h1 h2 g1 g2 hD3 hD4 hb4 hfa
            go_wp2_with fail
            go_ret
            rw [hX4.out]
            exact ⟨rfl, hfin.out⟩
    · have i0 : (code != 0) = true := by rw [bne_iff_ne]; exact hc
      have hX2 : Hid (X = (code, { d with ops := d.ops + 1 })) := Lib.hid (by rw [hX'.out, if_pos hc])
      clear hc hX'
      go_wp2_with fail
      go_ret
      rw [hX2.out]
      exact ⟨rfl, hbw2.out, hfm0.out, L, F, hD2'.out.below (by rw [hWs'.out]; exact hb2''.out)⟩
end Go.Proofs.YtjhiihmibleecaaGreatDoor.Dk
