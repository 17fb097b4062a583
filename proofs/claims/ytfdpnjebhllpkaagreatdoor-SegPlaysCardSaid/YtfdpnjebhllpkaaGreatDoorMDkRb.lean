/- The document's Less, Used, Read, Arm. -/
import Derived.Test.YtfdpnjebhllpkaaGreatDoorMDkRa
namespace Go.Proofs.YtfdpnjebhllpkaaGreatDoor.Dk
open Go.RowKit

theorem before_app : ∀ (c x y : Name), bytesBefore (c ++ x) (c ++ y) = bytesBefore x y
  | [], _, _ => rfl
  | a :: c, x, y => by
    show bytesBefore (a :: (c ++ x)) (a :: (c ++ y)) = _
    simp only [bytesBefore]
    rw [before_app c x y]
    simp
theorem before_at {a b : Name} {k : Nat} (h : a.take k = b.take k) : bytesBefore a b = bytesBefore (a.drop k) (b.drop k) := by
  conv => lhs; rw [← List.take_append_drop k a, ← List.take_append_drop k b, h]
  exact before_app _ _ _
theorem before_ne_ {x y : UInt8} {a b : Name} (h : x ≠ y) : bytesBefore (x :: a) (y :: b) = decide (x.toNat < y.toNat) := by
  simp only [bytesBefore]
  have : (x == y) = false := by simpa using h
  rw [this, Bool.false_and, Bool.or_false]
  rw [Bool.eq_iff_iff]
  simp [UInt8.lt_iff_toNat_lt]

set_option maxHeartbeats 1000000 in
set_option maxRecDepth 100000 in
theorem Less_any (a b : ByteArray) (ha : a.size ≤ 1000000) (hb : b.size ≤ 1000000) (w : World) :
    Calls Tryz.prog 163 #[.string a, .string b] w fun e w' => e = .returned (.bool (bytesBefore a.data.toList b.data.toList)) ∧ ∃ k, w' = w.drewN k := by
  have hal : Hid (a.data.toList.length = a.size) := Lib.hid (Array.length_toList ..)
  have hbl : Hid (b.data.toList.length = b.size) := Lib.hid (Array.length_toList ..)
  obtain ⟨X, hX⟩ : ∃ X, bytesBefore a.data.toList b.data.toList = X := ⟨_, rfl⟩
  rw [hX]
  have hX' := Lib.hid hX
  clear hX
  go_enter Tryz.func163, Tryz.ntmps163
  go_wp2_with fail
  go_loopw [5] (fun i wr => ∃ k m : Nat, k ≤ a.size ∧ k ≤ b.size ∧ i = .int .i64 k ∧ wr = w.drewN m ∧ Hid (a.data.toList.take k = b.data.toList.take k)) (fun i _ => a.size - (intOf i).toNat)
  case atStart => exact ⟨0, 0, by omega, by omega, rfl, rfl, Lib.hid rfl⟩
  case round =>
    obtain ⟨k, m, hka, hkb, rfl, rfl, hpre⟩ := hrel
    by_cases hla : k < a.size
    · by_cases hlb : k < b.size
      · have i0 : decide ((k : Int) < (b.size : Int)) = true := by rw [decide_eq_true_eq]; omega
        have i1 : decide (k < b.size) = true := by rw [decide_eq_true_eq]; omega
        have i2 : (k : Int) < (a.size : Int) := by omega
        have i3 : (k : Int) < (b.size : Int) := by omega
        obtain ⟨x, hx⟩ : ∃ x : UInt8, a[k] = x := ⟨_, rfl⟩
        obtain ⟨y, hy⟩ : ∃ y : UInt8, b[k] = y := ⟨_, rfl⟩
        have hga : Hid (a.data.toList[k]? = some x) := Lib.hid (by rw [List.getElem?_eq_getElem (by rw [hal.out]; exact hla), ← hx]; rfl)
        have hgb : Hid (b.data.toList[k]? = some y) := Lib.hid (by rw [List.getElem?_eq_getElem (by rw [hbl.out]; exact hlb), ← hy]; rfl)
        by_cases hxy : x = y
        · have hne : ((x.toNat : Int) != (y.toNat : Int)) = false := by rw [hxy]; simp
          have hxy' := Lib.hid hxy
          clear hxy
          go_wp2_with fail
          go_quiet (fail)
          go_wp2_with fail
          go_roundw
          case rel => exact ⟨k + 1, _, by omega, by omega, by go_num, rfl, Lib.hid (by rw [take_snoc hga.out, take_snoc hgb.out, hpre.out, hxy'.out])⟩
          case measure => simp [intOf]; omega
        · have hne : ((x.toNat : Int) != (y.toNat : Int)) = true := by
            rw [bne_iff_ne]
            intro h
            exact hxy (UInt8.toNat_inj.1 (by omega))
          have hv : Hid (X = decide (x.toNat < y.toNat)) := Lib.hid (by
            rw [← hX'.out, before_at hpre.out, List.drop_eq_getElem_cons (l := a.data.toList) (i := k) (by rw [hal.out]; exact hla), List.drop_eq_getElem_cons (l := b.data.toList) (i := k) (by rw [hbl.out]; exact hlb)]
            have e1 := hga.out
            have e2 := hgb.out
            rw [List.getElem?_eq_getElem (by rw [hal.out]; exact hla)] at e1
            rw [List.getElem?_eq_getElem (by rw [hbl.out]; exact hlb)] at e2
            injection e1 with e1
            injection e2 with e2
            rw [e1, e2]
            exact before_ne_ hxy)
          clear hxy
          go_wp2_with fail
          go_quiet (fail)
          go_wp2_with fail
          go_quiet (fail)
          go_wp2_with fail
          go_ret
          refine ⟨ret_bool ?_, _, (World.drewN_drewN _ _ _).trans (World.drewN_drewN _ _ _)⟩
          rw [hv.out]
      · have i0 : decide ((k : Int) < (b.size : Int)) = false := by rw [decide_eq_false_iff_not]; omega
        have i1 : decide (k < b.size) = false := by rw [decide_eq_false_iff_not]; omega
        have i2 : decide (a.size < b.size) = false := by rw [decide_eq_false_iff_not]; omega
        have hv : Hid (X = false) := Lib.hid (by
          rw [← hX'.out, before_at hpre.out, @List.drop_eq_nil_of_le _ b.data.toList k (by rw [hbl.out]; omega)]
          cases a.data.toList.drop k <;> rfl)
        go_wp2_with fail
        go_ret
        exact ⟨ret_bool (by rw [hv.out]), _, rfl⟩
    · have hv : Hid (X = decide (a.size < b.size)) := Lib.hid (by
        rw [← hX'.out, before_at hpre.out, @List.drop_eq_nil_of_le _ a.data.toList k (by rw [hal.out]; omega)]
        have hl : (b.data.toList.drop k).length = b.size - k := by rw [List.length_drop, hbl.out]
        cases hd : b.data.toList.drop k with
        | nil => rw [hd] at hl; simp at hl; show false = _; symm; rw [decide_eq_false_iff_not]; omega
        | cons c r => rw [hd] at hl; simp at hl; show true = _; symm; rw [decide_eq_true_eq]; omega)
      go_wp2_with fail
      go_ret
      refine ⟨ret_bool ?_, _, rfl⟩
      rw [hv.out]

set_option maxHeartbeats 1000000 in
set_option maxRecDepth 100000 in
theorem rUsed_any (w : World) (B rb : Nat) (lv tv : Value) (d : D) (h : Ra w B rb lv tv d) (hu : used d.fs ≤ 1000000000) :
    Calls Tryz.prog 107 #[.pointer (some ⟨rb, 0, none⟩)] w fun e w' => e = .returned (.int .i64 (used d.fs : Nat)) ∧ w = w' := by
  have k1 : w.cell? ⟨rb, 1, none⟩ = some lv := cell_blk h.blk rfl
  obtain ⟨A, c, rfl, hq⟩ := h.sq
  obtain ⟨X, hX⟩ : ∃ X, used d.fs = X := ⟨_, rfl⟩
  obtain ⟨n, hn⟩ : ∃ n, d.fs.length = n := ⟨_, rfl⟩
  rw [hn] at hq k1
  rw [hX] at hu ⊢
  have hle := hq.le
  have hmx := hq.max
  have hq' := Lib.hid hq
  have hX' := Lib.hid hX
  have hn' := Lib.hid hn
  clear h hq hX hn
  go_enter Tryz.func107, Tryz.ntmps107
  go_wp2_with fail
  go_loop [3, 4] (fun s i => ∃ k m : Nat, k ≤ n ∧ i = .int .i64 k ∧ s = .int .i64 m ∧ m ≤ X ∧ Hid (m + used (d.fs.drop k) = X)) (fun _ i => n - (intOf i).toNat)
  case atStart => exact ⟨0, 0, by omega, rfl, rfl, by omega, Lib.hid (by rw [List.drop_zero, Nat.zero_add]; exact hX'.out)⟩
  case round =>
    obtain ⟨k, m, hk, rfl, rfl, hmX, hsum⟩ := hrel
    by_cases hlt : k < n
    · obtain ⟨b, off, f, vs, rfl, hb, hf, hvs, hel, hcs⟩ := hq'.out.at_ hlt
      obtain ⟨sk, dv, rfl, _, hdv⟩ := hel
      obtain ⟨A0, c0, rfl, _⟩ := OwB.slice hdv
      have m1 : w.cell? ⟨b, off + k * 3 + 1, none⟩ = some (.slice A0 f.data.length c0) := hcs 1 _ rfl
      rw [List.getElem?_map, Option.map_eq_some_iff] at hf
      obtain ⟨p, hp, hpf⟩ := hf
      have hst : m + f.data.length + used (d.fs.drop (k + 1)) = X := by
        have h1 := hsum.out
        have hk2 : k < d.fs.length := by have := hn'.out; omega
        rw [List.drop_eq_getElem_cons hk2, used_cons] at h1
        rw [List.getElem?_eq_getElem hk2] at hp
        injection hp with hp
        rw [hp] at h1
        have : f.data = p.2.data := by rw [← hpf]; rfl
        rw [this]
        omega
      obtain ⟨nf, hnf⟩ : ∃ nf, f.data.length = nf := ⟨_, rfl⟩
      rw [hnf] at m1 hst
      have hmx2 : m + nf ≤ X := by omega
      have hst' := Lib.hid hst
      have i0 : (k : Int) < (n : Int) := by omega
      clear hcs hvs hp hpf hdv hnf hst
      go_wp2_with fail
      go_round
      case rel => exact ⟨k + 1, m + nf, by omega, by go_num, by go_num, hmx2, hst'⟩
      case measure => simp [intOf]; omega
    · go_wp2_with fail
      go_ret
      exact ⟨ret_int (by have := hsum.out; rw [List.drop_eq_nil_of_le (by have := hn'.out; omega)] at this; simp [used] at this; omega), rfl⟩

set_option maxHeartbeats 1000000 in
set_option maxRecDepth 100000 in
theorem rRead_any (w : World) (B rb : Nat) (lv tv : Value) (d : D) (h : Ra w B rb lv tv d) (s : ByteArray) (hz : ∀ p ∈ d.fs, p.2.data.length ≤ 1000000) :
    Calls Tryz.prog 84 #[.pointer (some ⟨rb, 0, none⟩), .string s] w (ReadP B d s.data.toList w) := by
  have hat := rAt_any w B rb lv tv d h s
  have k1 : w.cell? ⟨rb, 1, none⟩ = some lv := cell_blk h.blk rfl
  obtain ⟨A, c, rfl, hq⟩ := h.sq
  have hle := hq.le
  have hmx := hq.max
  have hq' := Lib.hid hq
  rcases atI_get (fs := d.fs) (nm := s.data.toList) with ⟨e1, e2⟩ | ⟨i, f, e1, e2, e3⟩
  · rw [e1] at hat
    have hP : Hid (ReadP B d s.data.toList w (.returned (.tuple #[.slice none 0 0, .int .i64 42])) w) := Lib.hid ⟨Below.refl _ _, _, [], by rw [e2]; rfl, OwB.nil _ _ _, by rw [e2]; rfl⟩
    clear h hq e1 e2
    go_enter Tryz.func84, Tryz.ntmps84
    go_wp2_with fail
    refine hat.mono ?_
    rintro e w2 ⟨rfl, rfl⟩
    go_wp2_with fail
    go_ret2
    exact hP.out
  · rw [e1] at hat
    have hil : i < d.fs.length := (List.getElem?_eq_some_iff.1 e2).1
    obtain ⟨n, hn⟩ : ∃ n, d.fs.length = n := ⟨_, rfl⟩
    rw [hn] at hil hq' k1 hle
    obtain ⟨b, off, g, vs, rfl, hb, hf, hvs, hel, hcs⟩ := hq'.out.at_ hil
    obtain ⟨sk, dv, rfl, _, hdv⟩ := hel
    obtain ⟨A0, c0, rfl, hbs⟩ := OwB.slice hdv
    have hg : g.data = f.data := by
      rw [List.getElem?_map, e2] at hf
      simp at hf
      rw [← hf]
      rfl
    rw [hg] at hcs hbs
    have m1 : w.cell? ⟨b, off + i * 3 + 1, none⟩ = some (.slice A0 f.data.length c0) := hcs 1 _ rfl
    have hlen := hz _ (List.mem_of_getElem? e2)
    have e3' := Lib.hid e3
    have hbs' := Lib.hid hbs
    obtain ⟨N, hN⟩ : ∃ N, f.data.length = N := ⟨_, rfl⟩
    rw [hN] at m1
    have hN' := Lib.hid hN
    have i0 : (i : Int) < (n : Int) := by omega
    have i1 : (0 : Int) ≤ (i : Int) := by omega
    have i2 : decide ((i : Int) < 0) = false := by rw [decide_eq_false_iff_not]; omega
    have k1a := ((below_alloc w (.cells #[] 5)).cell (p := ⟨rb, 1, none⟩) h.lt).trans k1
    have m1a := ((below_alloc w (.cells #[] 5)).cell (p := ⟨b, off + i * 3 + 1, none⟩) hb).trans m1
    simp only at hlen
    rw [hN] at hlen
    clear h hq e1 e2 e3 hcs hvs hf hdv hbs hg hN hn
    go_enter Tryz.func84, Tryz.ntmps84
    go_wp2_with fail
    refine hat.mono ?_
    rintro e w2 ⟨rfl, rfl⟩
    go_wp2_with (at_builtin; apply stop_here)
    have hbs2 := Lib.hid (hbs'.out.below (below_alloc w (.cells #[] 5)))
    rw [hN'.out] at hbs2
    refine Stop.go (append_bytes _ 22 5 Tryz.underlying22 (by kernel_rfl) rfl _ _ rfl w.heap.size _ [] rfl ?h1 A0 N c0 f.data rfl hbs2.out N ?h3 ?h4 ?h5 ?_)
    case h1 => exact ⟨by simp, .inr ⟨_, _, #[], rfl, Nat.le_refl _, heap_alloc_new w _, Nat.le_refl _, by decide, by simp, by simp⟩⟩
    case h3 => simp
    case h4 => omega
    case h5 => simp
    intro A2 c2 w3 ho hg3 hb3
    have ho' := Lib.hid ho
    have hb' := Lib.hid ((below_alloc w (.cells #[] 5)).trans hb3)
    clear ho hg3 hb3
    go_wp2_with fail
    go_ret2
    exact ⟨hb'.out, _, f.data, by rw [e3'.out]; rfl, by have := ho'.out; rw [List.nil_append] at this; exact this, by rw [e3'.out]; rfl⟩
end Go.Proofs.YtfdpnjebhllpkaaGreatDoor.Dk
