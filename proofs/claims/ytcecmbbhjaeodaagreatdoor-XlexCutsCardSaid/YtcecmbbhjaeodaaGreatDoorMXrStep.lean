/- Methods of the document's scanner, whatever its code is at their start; what the walk of a token keeps. Printed by xr_step.py. -/
import Derived.Test.YtcecmbbhjaeodaaGreatDoorMXrName
import Derived.Test.YtcecmbbhjaeodaaGreatDoorMXlRow
section
namespace Go.Proofs.YtcecmbbhjaeodaaGreatDoor.Xl
open Go.RowKit UtfW Er

set_option maxRecDepth 100000 in
theorem rdigit_any (x : UInt8) (w : World) :
    Calls Tryz.prog 94 #[.int .u8 (x.toNat : Int)] w fun e w' => e = .returned (.int .i64 (digV x : Nat)) ∧ w' = w := by
  have hx := x.toNat_lt
  obtain ⟨D, hD⟩ : ∃ D, digV x = D := ⟨_, rfl⟩
  rw [hD]
  unfold digV at hD
  generalize x.toNat = n at hx hD
  have hD' := Lib.hid hD
  clear hD
  by_cases a0 : 48 ≤ n
  · have i0 : decide ((48 : Int) ≤ (n : Int)) = true := by simp; omega
    by_cases b0 : n ≤ 57
    · have j0 : decide ((n : Int) ≤ 57) = true := by simp; omega
      have hd : Hid (D = n - 48 + 0) := Lib.hid (by have := hD'.out; repeat (first | (split at this) | omega))
      obtain ⟨d, hnd⟩ : ∃ d : Nat, (n : Int) - 48 = d := ⟨n - 48, by omega⟩
      have u2 : (d : Int) % 256 = (d : Int) := by omega
      have u3 : wrap64 (d : Int) = (d : Int) := by unfold wrap64; omega
      go_enter Tryz.func94, Tryz.ntmps94
      go_wp2_with fail
      go_ret
      exact ⟨ret_int (by have := hd.out; omega), rfl⟩
    have j0 : decide ((n : Int) ≤ 57) = false := by simp; omega
    by_cases a1 : 97 ≤ n
    · have i1 : decide ((97 : Int) ≤ (n : Int)) = true := by simp; omega
      by_cases b1 : n ≤ 102
      · have j1 : decide ((n : Int) ≤ 102) = true := by simp; omega
        have hd : Hid (D = n - 97 + 10) := Lib.hid (by have := hD'.out; repeat (first | (split at this) | omega))
        obtain ⟨d, hnd⟩ : ∃ d : Nat, (n : Int) - 97 = d := ⟨n - 97, by omega⟩
        have u2 : (d : Int) % 256 = (d : Int) := by omega
        have u3 : wrap64 (d : Int) = (d : Int) := by unfold wrap64; omega
        have u4 : wrap64 ((d : Int) + 10) = (d : Int) + 10 := by unfold wrap64; omega
        go_enter Tryz.func94, Tryz.ntmps94
        go_wp2_with fail
        go_ret
        exact ⟨ret_int (by have := hd.out; omega), rfl⟩
      have j1 : decide ((n : Int) ≤ 102) = false := by simp; omega
      by_cases a2 : 65 ≤ n
      · have i2 : decide ((65 : Int) ≤ (n : Int)) = true := by simp; omega
        by_cases b2 : n ≤ 70
        · have j2 : decide ((n : Int) ≤ 70) = true := by simp; omega
          have hd : Hid (D = n - 65 + 10) := Lib.hid (by have := hD'.out; repeat (first | (split at this) | omega))
          obtain ⟨d, hnd⟩ : ∃ d : Nat, (n : Int) - 65 = d := ⟨n - 65, by omega⟩
          have u2 : (d : Int) % 256 = (d : Int) := by omega
          have u3 : wrap64 (d : Int) = (d : Int) := by unfold wrap64; omega
          have u4 : wrap64 ((d : Int) + 10) = (d : Int) + 10 := by unfold wrap64; omega
          go_enter Tryz.func94, Tryz.ntmps94
          go_wp2_with fail
          go_ret
          exact ⟨ret_int (by have := hd.out; omega), rfl⟩
        have j2 : decide ((n : Int) ≤ 70) = false := by simp; omega
        have hd : Hid (D = 99) := Lib.hid (by have := hD'.out; repeat (first | (split at this; omega) | omega))
        go_enter Tryz.func94, Tryz.ntmps94
        go_wp2_with fail
        go_ret
        exact ⟨ret_int (by have := hd.out; omega), rfl⟩
      have i2 : decide ((65 : Int) ≤ (n : Int)) = false := by simp; omega
      have hd : Hid (D = 99) := Lib.hid (by have := hD'.out; repeat (first | (split at this; omega) | omega))
      go_enter Tryz.func94, Tryz.ntmps94
      go_wp2_with fail
      go_ret
      exact ⟨ret_int (by have := hd.out; omega), rfl⟩
    have i1 : decide ((97 : Int) ≤ (n : Int)) = false := by simp; omega
    by_cases a2 : 65 ≤ n
    · have i2 : decide ((65 : Int) ≤ (n : Int)) = true := by simp; omega
      by_cases b2 : n ≤ 70
      · have j2 : decide ((n : Int) ≤ 70) = true := by simp; omega
        have hd : Hid (D = n - 65 + 10) := Lib.hid (by have := hD'.out; repeat (first | (split at this) | omega))
        obtain ⟨d, hnd⟩ : ∃ d : Nat, (n : Int) - 65 = d := ⟨n - 65, by omega⟩
        have u2 : (d : Int) % 256 = (d : Int) := by omega
        have u3 : wrap64 (d : Int) = (d : Int) := by unfold wrap64; omega
        have u4 : wrap64 ((d : Int) + 10) = (d : Int) + 10 := by unfold wrap64; omega
        go_enter Tryz.func94, Tryz.ntmps94
        go_wp2_with fail
        go_ret
        exact ⟨ret_int (by have := hd.out; omega), rfl⟩
      have j2 : decide ((n : Int) ≤ 70) = false := by simp; omega
      have hd : Hid (D = 99) := Lib.hid (by have := hD'.out; repeat (first | (split at this; omega) | omega))
      go_enter Tryz.func94, Tryz.ntmps94
      go_wp2_with fail
      go_ret
      exact ⟨ret_int (by have := hd.out; omega), rfl⟩
    have i2 : decide ((65 : Int) ≤ (n : Int)) = false := by simp; omega
    have hd : Hid (D = 99) := Lib.hid (by have := hD'.out; repeat (first | (split at this; omega) | omega))
    go_enter Tryz.func94, Tryz.ntmps94
    go_wp2_with fail
    go_ret
    exact ⟨ret_int (by have := hd.out; omega), rfl⟩
  have i0 : decide ((48 : Int) ≤ (n : Int)) = false := by simp; omega
  by_cases a1 : 97 ≤ n
  · have i1 : decide ((97 : Int) ≤ (n : Int)) = true := by simp; omega
    by_cases b1 : n ≤ 102
    · have j1 : decide ((n : Int) ≤ 102) = true := by simp; omega
      have hd : Hid (D = n - 97 + 10) := Lib.hid (by have := hD'.out; repeat (first | (split at this) | omega))
      obtain ⟨d, hnd⟩ : ∃ d : Nat, (n : Int) - 97 = d := ⟨n - 97, by omega⟩
      have u2 : (d : Int) % 256 = (d : Int) := by omega
      have u3 : wrap64 (d : Int) = (d : Int) := by unfold wrap64; omega
      have u4 : wrap64 ((d : Int) + 10) = (d : Int) + 10 := by unfold wrap64; omega
      go_enter Tryz.func94, Tryz.ntmps94
      go_wp2_with fail
      go_ret
      exact ⟨ret_int (by have := hd.out; omega), rfl⟩
    have j1 : decide ((n : Int) ≤ 102) = false := by simp; omega
    by_cases a2 : 65 ≤ n
    · have i2 : decide ((65 : Int) ≤ (n : Int)) = true := by simp; omega
      by_cases b2 : n ≤ 70
      · have j2 : decide ((n : Int) ≤ 70) = true := by simp; omega
        have hd : Hid (D = n - 65 + 10) := Lib.hid (by have := hD'.out; repeat (first | (split at this) | omega))
        obtain ⟨d, hnd⟩ : ∃ d : Nat, (n : Int) - 65 = d := ⟨n - 65, by omega⟩
        have u2 : (d : Int) % 256 = (d : Int) := by omega
        have u3 : wrap64 (d : Int) = (d : Int) := by unfold wrap64; omega
        have u4 : wrap64 ((d : Int) + 10) = (d : Int) + 10 := by unfold wrap64; omega
        go_enter Tryz.func94, Tryz.ntmps94
        go_wp2_with fail
        go_ret
        exact ⟨ret_int (by have := hd.out; omega), rfl⟩
      have j2 : decide ((n : Int) ≤ 70) = false := by simp; omega
      have hd : Hid (D = 99) := Lib.hid (by have := hD'.out; repeat (first | (split at this; omega) | omega))
      go_enter Tryz.func94, Tryz.ntmps94
      go_wp2_with fail
      go_ret
      exact ⟨ret_int (by have := hd.out; omega), rfl⟩
    have i2 : decide ((65 : Int) ≤ (n : Int)) = false := by simp; omega
    have hd : Hid (D = 99) := Lib.hid (by have := hD'.out; repeat (first | (split at this; omega) | omega))
    go_enter Tryz.func94, Tryz.ntmps94
    go_wp2_with fail
    go_ret
    exact ⟨ret_int (by have := hd.out; omega), rfl⟩
  have i1 : decide ((97 : Int) ≤ (n : Int)) = false := by simp; omega
  by_cases a2 : 65 ≤ n
  · have i2 : decide ((65 : Int) ≤ (n : Int)) = true := by simp; omega
    by_cases b2 : n ≤ 70
    · have j2 : decide ((n : Int) ≤ 70) = true := by simp; omega
      have hd : Hid (D = n - 65 + 10) := Lib.hid (by have := hD'.out; repeat (first | (split at this) | omega))
      obtain ⟨d, hnd⟩ : ∃ d : Nat, (n : Int) - 65 = d := ⟨n - 65, by omega⟩
      have u2 : (d : Int) % 256 = (d : Int) := by omega
      have u3 : wrap64 (d : Int) = (d : Int) := by unfold wrap64; omega
      have u4 : wrap64 ((d : Int) + 10) = (d : Int) + 10 := by unfold wrap64; omega
      go_enter Tryz.func94, Tryz.ntmps94
      go_wp2_with fail
      go_ret
      exact ⟨ret_int (by have := hd.out; omega), rfl⟩
    have j2 : decide ((n : Int) ≤ 70) = false := by simp; omega
    have hd : Hid (D = 99) := Lib.hid (by have := hD'.out; repeat (first | (split at this; omega) | omega))
    go_enter Tryz.func94, Tryz.ntmps94
    go_wp2_with fail
    go_ret
    exact ⟨ret_int (by have := hd.out; omega), rfl⟩
  have i2 : decide ((65 : Int) ≤ (n : Int)) = false := by simp; omega
  have hd : Hid (D = 99) := Lib.hid (by have := hD'.out; repeat (first | (split at this; omega) | omega))
  go_enter Tryz.func94, Tryz.ntmps94
  go_wp2_with fail
  go_ret
  exact ⟨ret_int (by have := hd.out; omega), rfl⟩

theorem refV_x' {T : Tx} (h0 : T[0]? = some 35) (h1 : T[1]? = some 120) : refV T = numR 16 (T.drop 2) := by
  match T, h0, h1 with
  | a :: c :: d, h0, h1 =>
    simp only [List.getElem?_cons_zero, List.getElem?_cons_succ, Option.some.injEq] at h0 h1
    subst h0 h1
    rfl
theorem refV_d' {T : Tx} (h0 : T[0]? = some 35) (h1 : T[1]? ≠ some 120) : refV T = numR 10 (T.drop 1) := by
  match T, h0, h1 with
  | [a], h0, h1 =>
    simp only [List.getElem?_cons_zero, Option.some.injEq] at h0
    subst h0
    rfl
  | a :: c :: d, h0, h1 =>
    simp only [List.getElem?_cons_zero, List.getElem?_cons_succ, Option.some.injEq, ne_eq] at h0 h1
    subst h0
    show refV (35 :: c :: d) = _
    unfold refV
    split
    · rename_i h2
      injection h2 with _ h2
      injection h2 with h2 _
      exact absurd h2 h1
    · rename_i h2
      injection h2 with _ h2
      subst h2
      rfl
    · rename_i h2
      exact absurd rfl (h2 _)
theorem refV_n' {T : Tx} (h0 : T[0]? ≠ some 35) : refV T = named T := by
  unfold refV
  split
  · simp at h0
  · simp at h0
  · rfl
theorem named_none {T : Tx} (h0 : T ≠ [97, 109, 112]) (h1 : T ≠ [108, 116]) (h2 : T ≠ [103, 116]) (h3 : T ≠ [113, 117, 111, 116]) (h4 : T ≠ [97, 112, 111, 115]) : named T = none := by
  unfold named
  rw [if_neg h0, if_neg h1, if_neg h2, if_neg h3, if_neg h4]
theorem refV_named {T : Tx} {v : Nat} (h : named T = some v) : refV T = some v := by
  rw [refV_n']
  · exact h
  · intro h0
    unfold named at h
    repeat' split at h
    all_goals first | (rename_i he; rw [he] at h0; simp at h0) | cases h
theorem digV_le (x : UInt8) : digV x ≤ 99 := by
  unfold digV
  repeat' split
  all_goals omega
def numC : Option Nat → Option Nat
  | some v => if Utf.Char (v : Nat) then some v else none
  | none => none
theorem numR_ne {base : Nat} {d : Tx} (h : d ≠ []) : numR base d = numC (numF base d 0) := by
  unfold numR
  rw [if_neg h]
  cases numF base d 0 <;> rfl
theorem wrap_m (v base : Nat) (hv : v ≤ 1114112) (hb : base ≤ 16) : wrap64 ((v : Int) * (base : Nat)) = (v : Int) * (base : Nat) := by
  have h : v * base ≤ 1114112 * 16 := Nat.mul_le_mul hv hb
  have e : (v : Int) * (base : Nat) = ((v * base : Nat) : Int) := by rw [Int.natCast_mul]
  rw [e]
  generalize v * base = z at h
  unfold wrap64
  omega
theorem wrap_a (z : Nat) (h : z ≤ 17826000) : wrap64 (z : Int) = (z : Int) := by
  unfold wrap64
  omega
def nmT : Nat → Tx
  | 0 => [97, 109, 112]
  | 1 => [108, 116]
  | 2 => [103, 116]
  | 3 => [113, 117, 111, 116]
  | 4 => [97, 112, 111, 115]
  | _ => []

set_option maxRecDepth 100000 in
theorem find59_off {S : Tx} {q : Nat} {x : UInt8} (hx : S[q]? = some x) (h : x ≠ 59) : find [59] (S.drop q) = (find [59] (S.drop (q + 1))).map (· + 1) := by
  rw [drop_at hx, find, if_neg]
  simp [List.isPrefixOf]
  exact fun e => h e.symm
theorem find59_on {S : Tx} {q : Nat} (hx : S[q]? = some 59) : find [59] (S.drop q) = some 0 := by
  rw [drop_at hx, find, if_pos]
  rfl
theorem offA_some {ba off c k : Nat} (h : c ≠ k) : offA (some ⟨ba, off, none⟩) c k = some ⟨ba, off + k, none⟩ := by
  unfold offA
  rw [if_neg h]
  show some (Addr.add ⟨ba, off, none⟩ k) = _
  unfold Addr.add
  split
  · rename_i h0; rw [h0]; rfl
  · rfl
section
variable (w : World) (b : Nat) (S : Tx) (k : Nat) (A : Option Addr) (c : Nat)
set_option maxHeartbeats 4000000 in
set_option maxRecDepth 100000 in
theorem rref_any (pl : Nat) (h : Sr w b S k A c 0 pl) (hk : S[k]? = some 38) (hS : S.length ≤ 100000) :
    Calls Tryz.prog 70 #[.pointer (some ⟨b, 0, none⟩)] w fun e w' => GivesR w b S k A c pl (fun v => v = .string ⟨#[]⟩) (fun v => .string (strOf v)) (refR (S.drop (k + 1))) e w' := by
  have hkl : k < S.length := (List.getElem?_eq_some_iff.1 hk).1
  have hlc := Rd.le h.bs
  have hcm := Rd.max h.bs
  have hnofreeze := h.frozen
  have c1 := h.c1
  have hbw := h.lt
  have h' := Lib.hid h
  clear h hk hnofreeze
  obtain ⟨F, hF⟩ : ∃ F, find [59] (S.drop (k + 1)) = F := ⟨_, rfl⟩
  have hF' := Lib.hid hF
  obtain ⟨G, hG⟩ : ∃ G, refR (S.drop (k + 1)) = G := ⟨_, rfl⟩
  rw [hG]
  have hG' := Lib.hid hG
  clear hF hG
  obtain ⟨L, hL⟩ : ∃ L, k + 1 = L := ⟨_, rfl⟩
  have hLI : (k : Int) + 1 = (L : Int) := by omega
  have hL' := Lib.hid hL
  clear hL
  go_enter Tryz.func70, Tryz.ntmps70
  go_wp2_with fail
  go_loopw [4] (fun v4 wr => wr = w ∧ ∃ q : Nat, L ≤ q ∧ q ≤ S.length ∧ v4 = .int .i64 (q : Nat) ∧ Hid (F = (find [59] (S.drop q)).map (· + (q - L)))) (fun v4 _ => S.length - (intOf v4).toNat)
  case atStart => exact ⟨rfl, L, Nat.le_refl _, by have := hL'.out; omega, rfl, Lib.hid (by rw [Nat.sub_self, ← hF'.out, hL'.out]; simp)⟩
  case round =>
    clear c1
    obtain ⟨hwr, q, hLq, hql, rfl, hr⟩ := hrel
    subst hwr
    have c0 := h'.out.c0
    have c1 := h'.out.c1
    by_cases hlt : q < S.length
    · have i0 : decide ((q : Int) < (S.length : Int)) = true := by simp; omega
      have i1 : decide (q < S.length) = true := by simp; omega
      have q1 : (q : Int) < (S.length : Int) := by omega
      obtain ⟨ba, off, hA, hx, hcell⟩ := h'.out.at_ hlt
      subst hA
      generalize S[q] = x at hx hcell
      have hx' := Lib.hid hx
      clear hx
      by_cases h59 : x = 59
      · subst h59
        have hFn : Hid (F = some (q - L)) := Lib.hid (by rw [hr.out, find59_on hx'.out]; simp)
        have j0 : decide ((S.length : Int) ≤ (q : Int)) = false := by simp; omega
        have j1 : decide (S.length ≤ q) = false := by simp; omega
        have p1 : (0 : Int) ≤ (L : Int) ∧ (L : Int) ≤ (q : Int) := ⟨by omega, by omega⟩
        obtain ⟨T, hT⟩ : ∃ T, (S.drop L).take (q - L) = T := ⟨_, rfl⟩
        have hcut : Bs wr (offA (some ⟨ba, off, none⟩) c L) (q - L) (c - L) T := by rw [← hT]; exact Bs.from h'.out.bs hLq (by omega)
        rw [offA_some (by omega)] at hcut
        have hTl : T.length ≤ 100000 := by rw [← hT, List.length_take]; omega
        have hcv2 : (convert 22 9 (.slice (some ⟨ba, off + L, none⟩) (q - L) (c - L))).run Tryz.prog wr = .ok (.string (strOf T)) wr := Bs.conv hcut Tryz.underlying22 Tryz.underlying5 Tryz.underlying9
        have hres : Hid (G = match refV T with | none => .bad 5 0 | some v => .ok (encB (v : Nat)) (q - L + 2)) := Lib.hid (by
          rw [← hG'.out]
          unfold refR
          rw [hF'.out, hFn.out]
          simp only
          rw [hL'.out, hT]
          cases refV T <;> rfl)
        clear hT hcut
        have f1 := h'.out.frozen 1
        have hset := h'.out.set1 (q + 1)
        obtain ⟨w2, hw2⟩ : ∃ w2, wr.setCell ⟨b, 1, none⟩ (.int .i64 ((q + 1 : Nat) : Int)) = w2 := ⟨_, rfl⟩
        rw [hw2] at hset
        obtain ⟨nb, hnb⟩ : ∃ nb, w2.heap.size = nb := ⟨_, rfl⟩
        have hal := below_alloc w2 (.cells #[.string ⟨#[97, 109, 112]⟩, .string ⟨#[108, 116]⟩, .string ⟨#[103, 116]⟩, .string ⟨#[113, 117, 111, 116]⟩, .string ⟨#[97, 112, 111, 115]⟩] 9)
        have hs3 := Lib.hid (hset.1.below hal)
        have hg3 := Lib.hid (hset.2.trans (grown_in (r := some b) hal))
        clear hset hal
        have hw2' := Lib.hid hw2
        have hnb' := Lib.hid hnb
        clear hw2 hnb
        go_wp2_with fail
        obtain ⟨wz, rfl⟩ : ∃ wz, wz = wr := ⟨wr, rfl⟩
        have hw3 : wz.setCell ⟨b, 1, none⟩ (.int .i64 ((q : Int) + 1)) = w2 := hw2'.out
        rw [hw3]
        clear hw3
        have hn2 : w2.heap.size = wz.heap.size := by rw [← hw2'.out]; exact World.size_setCell _ _ _
        have hblk : (w2.alloc (.cells #[.string ⟨#[97, 109, 112]⟩, .string ⟨#[108, 116]⟩, .string ⟨#[103, 116]⟩, .string ⟨#[113, 117, 111, 116]⟩, .string ⟨#[97, 112, 111, 115]⟩] 9)).heap[wz.heap.size]? = some (.cells #[.string ⟨#[97, 109, 112]⟩, .string ⟨#[108, 116]⟩, .string ⟨#[103, 116]⟩, .string ⟨#[113, 117, 111, 116]⟩, .string ⟨#[97, 112, 111, 115]⟩] 9) := by rw [← hn2]; exact heap_alloc_new w2 _
        generalize w2.alloc (.cells #[.string ⟨#[97, 109, 112]⟩, .string ⟨#[108, 116]⟩, .string ⟨#[103, 116]⟩, .string ⟨#[113, 117, 111, 116]⟩, .string ⟨#[97, 112, 111, 115]⟩] 9) = w3 at hs3 hg3 hblk ⊢
        have hbz : b ≠ wz.heap.size := by omega
        generalize wz.heap.size = nb at hblk hbz ⊢
        have y0 : w3.cell? ⟨nb, 0, none⟩ = some (.string ⟨#[97, 109, 112]⟩) := by simp [World.cell?, hblk]
        have y1 : w3.cell? ⟨nb, 1, none⟩ = some (.string ⟨#[108, 116]⟩) := by simp [World.cell?, hblk]
        have y2 : w3.cell? ⟨nb, 2, none⟩ = some (.string ⟨#[103, 116]⟩) := by simp [World.cell?, hblk]
        have y3 : w3.cell? ⟨nb, 3, none⟩ = some (.string ⟨#[113, 117, 111, 116]⟩) := by simp [World.cell?, hblk]
        have y4 : w3.cell? ⟨nb, 4, none⟩ = some (.string ⟨#[97, 112, 111, 115]⟩) := by simp [World.cell?, hblk]
        clear hblk hn2 hw2' hnb' hbz hcell hcv2 f1
        go_loopw [8] (fun v8 wx => wx = w3 ∧ ∃ j : Nat, j ≤ 5 ∧ v8 = .int .i64 (j : Nat) ∧ Hid (∀ i, i < j → T ≠ nmT i)) (fun v8 _ => 5 - (intOf v8).toNat)
        case atStart => exact ⟨rfl, 0, by omega, rfl, Lib.hid (fun i hi => absurd hi (by omega))⟩
        case round =>
          obtain ⟨hwy, j, hj, rfl, hno⟩ := hrel
          subst hwy
          obtain ⟨w3, rfl⟩ : ∃ w3, w3 = wr := ⟨wr, rfl⟩
          rcases (by omega : j = 0 ∨ j = 1 ∨ j = 2 ∨ j = 3 ∨ j = 4 ∨ j = 5) with rfl | rfl | rfl | rfl | rfl | rfl
          · have i0 := str_eqL T [97, 109, 112]
            by_cases hT : T = [97, 109, 112]
            · rw [decide_eq_true hT] at i0
              have hvv : Hid (refV T = some 38) := Lib.hid (by rw [hT]; rfl)
              clear hT
              go_wp2_with fail
              go_ret
              refine ⟨hg3.out, ?_⟩
              rw [hres.out, hvv.out]
              refine ⟨rfl, ?_⟩
              rw [show k + (q - L + 2) = q + 1 by have := hL'.out; omega]
              exact hs3.out
            · rw [decide_eq_false hT] at i0
              have hno2 : Hid (∀ i, i < 1 → T ≠ nmT i) := Lib.hid (fun i hi => by
                by_cases hi2 : i < 0
                · exact hno.out i hi2
                · have : i = 0 := by omega
                  rw [this]
                  exact hT)
              clear hT
              go_wp2_with fail
              go_roundw
              case rel => exact ⟨by first | rfl | trivial, 1, by omega, rfl, hno2⟩
              case measure => simp [intOf]
          · have i1 := str_eqL T [108, 116]
            by_cases hT : T = [108, 116]
            · rw [decide_eq_true hT] at i1
              have hvv : Hid (refV T = some 60) := Lib.hid (by rw [hT]; rfl)
              clear hT
              go_wp2_with fail
              go_ret
              refine ⟨hg3.out, ?_⟩
              rw [hres.out, hvv.out]
              refine ⟨rfl, ?_⟩
              rw [show k + (q - L + 2) = q + 1 by have := hL'.out; omega]
              exact hs3.out
            · rw [decide_eq_false hT] at i1
              have hno2 : Hid (∀ i, i < 2 → T ≠ nmT i) := Lib.hid (fun i hi => by
                by_cases hi2 : i < 1
                · exact hno.out i hi2
                · have : i = 1 := by omega
                  rw [this]
                  exact hT)
              clear hT
              go_wp2_with fail
              go_roundw
              case rel => exact ⟨by first | rfl | trivial, 2, by omega, rfl, hno2⟩
              case measure => simp [intOf]
          · have i2 := str_eqL T [103, 116]
            by_cases hT : T = [103, 116]
            · rw [decide_eq_true hT] at i2
              have hvv : Hid (refV T = some 62) := Lib.hid (by rw [hT]; rfl)
              clear hT
              go_wp2_with fail
              go_ret
              refine ⟨hg3.out, ?_⟩
              rw [hres.out, hvv.out]
              refine ⟨rfl, ?_⟩
              rw [show k + (q - L + 2) = q + 1 by have := hL'.out; omega]
              exact hs3.out
            · rw [decide_eq_false hT] at i2
              have hno2 : Hid (∀ i, i < 3 → T ≠ nmT i) := Lib.hid (fun i hi => by
                by_cases hi2 : i < 2
                · exact hno.out i hi2
                · have : i = 2 := by omega
                  rw [this]
                  exact hT)
              clear hT
              go_wp2_with fail
              go_roundw
              case rel => exact ⟨by first | rfl | trivial, 3, by omega, rfl, hno2⟩
              case measure => simp [intOf]
          · have i3 := str_eqL T [113, 117, 111, 116]
            by_cases hT : T = [113, 117, 111, 116]
            · rw [decide_eq_true hT] at i3
              have hvv : Hid (refV T = some 34) := Lib.hid (by rw [hT]; rfl)
              clear hT
              go_wp2_with fail
              go_ret
              refine ⟨hg3.out, ?_⟩
              rw [hres.out, hvv.out]
              refine ⟨rfl, ?_⟩
              rw [show k + (q - L + 2) = q + 1 by have := hL'.out; omega]
              exact hs3.out
            · rw [decide_eq_false hT] at i3
              have hno2 : Hid (∀ i, i < 4 → T ≠ nmT i) := Lib.hid (fun i hi => by
                by_cases hi2 : i < 3
                · exact hno.out i hi2
                · have : i = 3 := by omega
                  rw [this]
                  exact hT)
              clear hT
              go_wp2_with fail
              go_roundw
              case rel => exact ⟨by first | rfl | trivial, 4, by omega, rfl, hno2⟩
              case measure => simp [intOf]
          · have i4 := str_eqL T [97, 112, 111, 115]
            by_cases hT : T = [97, 112, 111, 115]
            · rw [decide_eq_true hT] at i4
              have hvv : Hid (refV T = some 39) := Lib.hid (by rw [hT]; rfl)
              clear hT
              go_wp2_with fail
              go_ret
              refine ⟨hg3.out, ?_⟩
              rw [hres.out, hvv.out]
              refine ⟨rfl, ?_⟩
              rw [show k + (q - L + 2) = q + 1 by have := hL'.out; omega]
              exact hs3.out
            · rw [decide_eq_false hT] at i4
              have hno2 : Hid (∀ i, i < 5 → T ≠ nmT i) := Lib.hid (fun i hi => by
                by_cases hi2 : i < 4
                · exact hno.out i hi2
                · have : i = 4 := by omega
                  rw [this]
                  exact hT)
              clear hT
              go_wp2_with fail
              go_roundw
              case rel => exact ⟨by first | rfl | trivial, 5, by omega, rfl, hno2⟩
              case measure => simp [intOf]
          · rw [show ((5 : Nat) : Int) = 5 from rfl]
            have hnm : Hid (named T = none) := Lib.hid (named_none (hno.out 0 (by omega)) (hno.out 1 (by omega)) (hno.out 2 (by omega)) (hno.out 3 (by omega)) (hno.out 4 (by omega)))
            clear hno y0 y1 y2 y3 y4
            have hTs : (strOf T).size = T.length := strOf_size' T
            by_cases hl1 : T.length ≤ 1
            · have hnone : Hid (refV T = none) := Lib.hid (by
                by_cases h0 : T[0]? = some 35
                · rw [refV_d' h0 (by rw [List.getElem?_eq_none (by omega)]; simp), List.drop_eq_nil_of_le hl1]
                  rfl
                · rw [refV_n' h0, hnm.out])
              have d0 : decide ((1 : Int) < (T.length : Int)) = false := by simp; omega
              have d1 : decide (1 < T.length) = false := by simp; omega
              clear hl1
              go_wp2_with fail
              go_loopw [12] (fun v12 wx => v12 = .bool false ∧ wx = w3) (fun _ _ => 0)
              case atStart => exact ⟨rfl, rfl⟩
              case round =>
                obtain ⟨rfl, hwy⟩ := hrel
                subst hwy
                go_wp2_with fail
                refine (rbad_any _ b S (q + 1) _ c pl hs3.out 5 k).mono ?_
                rintro e w9 ⟨rfl, hs9, hg9⟩
                have hs9' := Lib.hid hs9
                have hg9' := Lib.hid (hg3.out.trans hg9)
                clear hs9 hg9
                go_wp2_with fail
                go_ret
                refine ⟨hg9'.out, ?_⟩
                rw [hres.out, hnone.out]
                exact ⟨by decide, _, q + 1, rfl, rfl, by omega, hs9'.out⟩
            · have d0 : decide ((1 : Int) < (T.length : Int)) = true := by simp; omega
              have d1 : decide (1 < T.length) = true := by simp; omega
              have hx0 : T[0]? = some T[0] := List.getElem?_eq_getElem (by omega)
              have hx1 : T[1]? = some T[1] := List.getElem?_eq_getElem (by omega)
              generalize T[0] = x0 at hx0
              generalize T[1] = x1 at hx1
              have hlt0 : 0 < (strOf T).size := by omega
              have hlt1 : 1 < (strOf T).size := by omega
              have hg0 := str_at hx0 hlt0
              have hg1 := str_at hx1 hlt1
              have n0 : (0 : Int) < (T.length : Int) := by omega
              have n1 : (1 : Int) < (T.length : Int) := by omega
              have hx0' := Lib.hid hx0
              have hx1' := Lib.hid hx1
              clear hx0 hx1
              by_cases h35 : x0 = 35
              · subst h35
                by_cases h120 : x1 = 120
                · subst h120
                  have RV : refV T = numR 16 (T.drop 2) := refV_x' hx0'.out hx1'.out
                  by_cases hl2 : T.length ≤ 2
                  · have hnone : Hid (refV T = none) := Lib.hid (by rw [RV, List.drop_eq_nil_of_le hl2]; rfl)
                    have d2 : decide ((2 : Int) < (T.length : Int)) = false := by simp; omega
                    have d3 : decide (2 < T.length) = false := by simp; omega
                    clear RV
                    go_wp2_with fail
                    go_loopw [12] (fun v12 wx => v12 = .bool false ∧ wx = w3) (fun _ _ => 0)
                    case atStart => exact ⟨rfl, rfl⟩
                    case round =>
                      obtain ⟨rfl, hwy⟩ := hrel
                      subst hwy
                      go_wp2_with fail
                      refine (rbad_any _ b S (q + 1) _ c pl hs3.out 5 k).mono ?_
                      rintro e w9 ⟨rfl, hs9, hg9⟩
                      have hs9' := Lib.hid hs9
                      have hg9' := Lib.hid (hg3.out.trans hg9)
                      clear hs9 hg9
                      go_wp2_with fail
                      go_ret
                      refine ⟨hg9'.out, ?_⟩
                      rw [hres.out, hnone.out]
                      exact ⟨by decide, _, q + 1, rfl, rfl, by omega, hs9'.out⟩
                  · have d2 : decide ((2 : Int) < (T.length : Int)) = true := by simp; omega
                    have d3 : decide (2 < T.length) = true := by simp; omega
                    have hN : Hid (refV T = numC (numF 16 (T.drop 2) 0)) := Lib.hid (by rw [RV]; exact numR_ne (by intro e; have := congrArg List.length e; rw [List.length_drop] at this; simp at this; omega))
                    clear RV
                    obtain ⟨N, hNe⟩ : ∃ N, numF 16 (T.drop 2) 0 = N := ⟨_, rfl⟩
                    rw [hNe] at hN
                    have hNe' := Lib.hid hNe
                    clear hNe
                    go_wp2_with fail
                    go_loopw [10, 11, 12, 13] (fun v10 v11 v12 v13 wx => wx = w3 ∧ ∃ (kk v : Nat) (okb : Bool), v10 = .int .i64 (kk : Nat) ∧ v11 = .int .i64 (v : Nat) ∧ v12 = .bool okb ∧ v ≤ 1114112 ∧ kk ≤ T.length ∧ Hid (okb = true → numF 16 (T.drop kk) v = N) ∧ Hid (okb = false → N = none)) (fun v10 _ _ _ _ => T.length - (intOf v10).toNat)
                    case atStart => exact ⟨rfl, 2, 0, true, rfl, rfl, rfl, by omega, by omega, Lib.hid (fun _ => hNe'.out), Lib.hid (fun h => by cases h)⟩
                    case round =>
                      obtain ⟨hwy, kk, v, okb, rfl, rfl, rfl, hv, hkk, hok, hno⟩ := hrel
                      subst hwy
                      cases okb with
                      | false =>
                        have hnone : Hid (refV T = none) := Lib.hid (by rw [hN.out, hno.out rfl]; rfl)
                        go_wp2_with fail
                        refine (rbad_any _ b S (q + 1) _ c pl hs3.out 5 k).mono ?_
                        rintro e w9 ⟨rfl, hs9, hg9⟩
                        have hs9' := Lib.hid hs9
                        have hg9' := Lib.hid (hg3.out.trans hg9)
                        clear hs9 hg9
                        go_wp2_with fail
                        go_ret
                        refine ⟨hg9'.out, ?_⟩
                        rw [hres.out, hnone.out]
                        exact ⟨by decide, _, q + 1, rfl, rfl, by omega, hs9'.out⟩
                      | true =>
                        have hok' := Lib.hid (hok.out rfl)
                        clear hok hno
                        by_cases hlt : kk < T.length
                        · have e0 : decide ((kk : Int) < (T.length : Int)) = true := by simp; omega
                          have e1 : decide (kk < T.length) = true := by simp; omega
                          have p1 : (kk : Int) < (T.length : Int) := by omega
                          have hx : T[kk]? = some T[kk] := List.getElem?_eq_getElem hlt
                          generalize T[kk] = x at hx
                          have hlt' : kk < (strOf T).size := by omega
                          have hgx := str_at hx hlt'
                          have hst : Hid (N = if digV x < 16 then numF 16 (T.drop (kk + 1)) (min (v * 16 + digV x) 1114112) else none) := Lib.hid (by rw [← hok'.out, numF_step hx])
                          clear hx
                          go_wp2_with fail
                          refine (rdigit_any x _).mono ?_
                          rintro e w4 ⟨rfl, hw4⟩
                          subst hw4
                          have hd99 : digV x ≤ 99 := digV_le x
                          obtain ⟨d, hd⟩ : ∃ d, digV x = d := ⟨_, rfl⟩
                          rw [hd] at hst hd99 ⊢
                          clear hd hgx
                          obtain ⟨Z, hZ⟩ : ∃ Z : Nat, (v : Int) * 16 + (d : Int) = Z := ⟨v * 16 + d, by omega⟩
                          have hZn : Hid (v * 16 + d = Z) := Lib.hid (by omega)
                          have hZb : Z ≤ 17826000 := by omega
                          by_cases hdb : d < 16
                          · have e2 : decide ((d : Int) < 16) = true := by simp; omega
                            have e2' : decide (d < 16) = true := by simp; omega
                            have hst2 : Hid (N = numF 16 (T.drop (kk + 1)) (min Z 1114112)) := Lib.hid (by rw [hst.out, if_pos hdb, hZn.out])
                            clear hst hdb
                            by_cases hb : 1114112 < Z
                            · have e3 : decide ((1114112 : Int) < (Z : Int)) = true := by simp; omega
                              have e3' : decide (1114112 < Z) = true := by simp; omega
                              have hst3 : Hid (numF 16 (T.drop (kk + 1)) 1114112 = N) := Lib.hid (by rw [hst2.out, Nat.min_eq_right (by omega)])
                              clear hst2 hb
                              go_wp2_with fail
                              go_roundw
                              case rel => exact ⟨by first | rfl | trivial, kk + 1, 1114112, true, by go_num, rfl, rfl, by omega, by omega, Lib.hid (fun _ => hst3.out), Lib.hid (fun h => by cases h)⟩
                              case measure => simp [intOf]; omega
                            · have e3 : decide ((1114112 : Int) < (Z : Int)) = false := by simp; omega
                              have e3' : decide (1114112 < Z) = false := by simp; omega
                              have hst3 : Hid (numF 16 (T.drop (kk + 1)) Z = N) := Lib.hid (by rw [hst2.out, Nat.min_eq_left (by omega)])
                              clear hst2
                              go_wp2_with fail
                              go_roundw
                              case rel => exact ⟨by first | rfl | trivial, kk + 1, Z, true, by go_num, rfl, rfl, by omega, by omega, Lib.hid (fun _ => hst3.out), Lib.hid (fun h => by cases h)⟩
                              case measure => simp [intOf]; omega
                          · have e2 : decide ((d : Int) < 16) = false := by simp; omega
                            have e2' : decide (d < 16) = false := by simp; omega
                            have hst2 : Hid (N = none) := Lib.hid (by rw [hst.out, if_neg hdb])
                            clear hst hdb
                            by_cases hb : 1114112 < Z
                            · have e3 : decide ((1114112 : Int) < (Z : Int)) = true := by simp; omega
                              have e3' : decide (1114112 < Z) = true := by simp; omega
                              clear hb
                              go_wp2_with fail
                              go_roundw
                              case rel => exact ⟨by first | rfl | trivial, kk + 1, 1114112, false, by go_num, rfl, rfl, by omega, by omega, Lib.hid (fun h => by cases h), Lib.hid (fun _ => hst2.out)⟩
                              case measure => simp [intOf]; omega
                            · have e3 : decide ((1114112 : Int) < (Z : Int)) = false := by simp; omega
                              have e3' : decide (1114112 < Z) = false := by simp; omega
                              go_wp2_with fail
                              go_roundw
                              case rel => exact ⟨by first | rfl | trivial, kk + 1, Z, false, by go_num, rfl, rfl, by omega, by omega, Lib.hid (fun h => by cases h), Lib.hid (fun _ => hst2.out)⟩
                              case measure => simp [intOf]; omega
                        · have e0 : decide ((kk : Int) < (T.length : Int)) = false := by simp; omega
                          have e1 : decide (kk < T.length) = false := by simp; omega
                          have hNs : Hid (N = some v) := Lib.hid (by rw [← hok'.out, numF_end (by omega)])
                          go_wp2_with fail
                          refine (refchar_any _ _).mono ?_
                          rintro e w4 ⟨rfl, hw4⟩
                          subst hw4
                          cases hch : Utf.Char (v : Nat) with
                          | false =>
                            have hnone : Hid (refV T = none) := Lib.hid (by rw [hN.out, hNs.out]; unfold numC; simp only; rw [hch]; rfl)
                            clear hch
                            go_wp2_with fail
                            refine (rbad_any _ b S (q + 1) _ c pl hs3.out 5 k).mono ?_
                            rintro e w9 ⟨rfl, hs9, hg9⟩
                            have hs9' := Lib.hid hs9
                            have hg9' := Lib.hid (hg3.out.trans hg9)
                            clear hs9 hg9
                            go_wp2_with fail
                            go_ret
                            refine ⟨hg9'.out, ?_⟩
                            rw [hres.out, hnone.out]
                            exact ⟨by decide, _, q + 1, rfl, rfl, by omega, hs9'.out⟩
                          | true =>
                            have hsome : Hid (refV T = some v) := Lib.hid (by rw [hN.out, hNs.out]; unfold numC; simp only; rw [hch]; rfl)
                            have hvt := char_top hch
                            clear hch
                            go_wp2_with fail
                            refine (refEncode_any (v : Nat) (by omega) (by omega) _).mono ?_
                            rintro e w9 ⟨A9, c9, rfl, ho9, hb9⟩
                            have hs9 := Lib.hid (hs3.out.below hb9)
                            have hg9 := Lib.hid (hg3.out.trans (grown_in (r := some b) hb9))
                            have hcv9 : (convert 22 9 (.slice A9 (encB (v : Nat)).length c9)).run Tryz.prog w9 = .ok (.string (strOf (encB (v : Nat)))) w9 := Bs.conv ho9.bs Tryz.underlying22 Tryz.underlying5 Tryz.underlying9
                            clear ho9 hb9
                            go_wp2_with fail
                            go_ret
                            refine ⟨hg9.out, ?_⟩
                            rw [hres.out, hsome.out]
                            refine ⟨rfl, ?_⟩
                            rw [show k + (q - L + 2) = q + 1 by have := hL'.out; omega]
                            exact hs9.out
                · have j120 : ((x1.toNat : Int) == 120) = false := by rw [show (120 : Int) = ((120 : UInt8).toNat : Int) from rfl, byte_eq, decide_eq_false h120]
                  have RV : refV T = numR 10 (T.drop 1) := refV_d' hx0'.out (by rw [hx1'.out]; intro e; injection e with e; exact h120 e)
                  clear h120
                  have hN : Hid (refV T = numC (numF 10 (T.drop 1) 0)) := Lib.hid (by rw [RV]; exact numR_ne (by intro e; have := congrArg List.length e; rw [List.length_drop] at this; simp at this; omega))
                  clear RV
                  obtain ⟨N, hNe⟩ : ∃ N, numF 10 (T.drop 1) 0 = N := ⟨_, rfl⟩
                  rw [hNe] at hN
                  have hNe' := Lib.hid hNe
                  clear hNe
                  go_wp2_with fail
                  go_loopw [10, 11, 12, 13] (fun v10 v11 v12 v13 wx => wx = w3 ∧ ∃ (kk v : Nat) (okb : Bool), v10 = .int .i64 (kk : Nat) ∧ v11 = .int .i64 (v : Nat) ∧ v12 = .bool okb ∧ v ≤ 1114112 ∧ kk ≤ T.length ∧ Hid (okb = true → numF 10 (T.drop kk) v = N) ∧ Hid (okb = false → N = none)) (fun v10 _ _ _ _ => T.length - (intOf v10).toNat)
                  case atStart => exact ⟨rfl, 1, 0, true, rfl, rfl, rfl, by omega, by omega, Lib.hid (fun _ => hNe'.out), Lib.hid (fun h => by cases h)⟩
                  case round =>
                    obtain ⟨hwy, kk, v, okb, rfl, rfl, rfl, hv, hkk, hok, hno⟩ := hrel
                    subst hwy
                    cases okb with
                    | false =>
                      have hnone : Hid (refV T = none) := Lib.hid (by rw [hN.out, hno.out rfl]; rfl)
                      go_wp2_with fail
                      refine (rbad_any _ b S (q + 1) _ c pl hs3.out 5 k).mono ?_
                      rintro e w9 ⟨rfl, hs9, hg9⟩
                      have hs9' := Lib.hid hs9
                      have hg9' := Lib.hid (hg3.out.trans hg9)
                      clear hs9 hg9
                      go_wp2_with fail
                      go_ret
                      refine ⟨hg9'.out, ?_⟩
                      rw [hres.out, hnone.out]
                      exact ⟨by decide, _, q + 1, rfl, rfl, by omega, hs9'.out⟩
                    | true =>
                      have hok' := Lib.hid (hok.out rfl)
                      clear hok hno
                      by_cases hlt : kk < T.length
                      · have e0 : decide ((kk : Int) < (T.length : Int)) = true := by simp; omega
                        have e1 : decide (kk < T.length) = true := by simp; omega
                        have p1 : (kk : Int) < (T.length : Int) := by omega
                        have hx : T[kk]? = some T[kk] := List.getElem?_eq_getElem hlt
                        generalize T[kk] = x at hx
                        have hlt' : kk < (strOf T).size := by omega
                        have hgx := str_at hx hlt'
                        have hst : Hid (N = if digV x < 10 then numF 10 (T.drop (kk + 1)) (min (v * 10 + digV x) 1114112) else none) := Lib.hid (by rw [← hok'.out, numF_step hx])
                        clear hx
                        go_wp2_with fail
                        refine (rdigit_any x _).mono ?_
                        rintro e w4 ⟨rfl, hw4⟩
                        subst hw4
                        have hd99 : digV x ≤ 99 := digV_le x
                        obtain ⟨d, hd⟩ : ∃ d, digV x = d := ⟨_, rfl⟩
                        rw [hd] at hst hd99 ⊢
                        clear hd hgx
                        obtain ⟨Z, hZ⟩ : ∃ Z : Nat, (v : Int) * 10 + (d : Int) = Z := ⟨v * 10 + d, by omega⟩
                        have hZn : Hid (v * 10 + d = Z) := Lib.hid (by omega)
                        have hZb : Z ≤ 17826000 := by omega
                        by_cases hdb : d < 10
                        · have e2 : decide ((d : Int) < 10) = true := by simp; omega
                          have e2' : decide (d < 10) = true := by simp; omega
                          have hst2 : Hid (N = numF 10 (T.drop (kk + 1)) (min Z 1114112)) := Lib.hid (by rw [hst.out, if_pos hdb, hZn.out])
                          clear hst hdb
                          by_cases hb : 1114112 < Z
                          · have e3 : decide ((1114112 : Int) < (Z : Int)) = true := by simp; omega
                            have e3' : decide (1114112 < Z) = true := by simp; omega
                            have hst3 : Hid (numF 10 (T.drop (kk + 1)) 1114112 = N) := Lib.hid (by rw [hst2.out, Nat.min_eq_right (by omega)])
                            clear hst2 hb
                            go_wp2_with fail
                            go_roundw
                            case rel => exact ⟨by first | rfl | trivial, kk + 1, 1114112, true, by go_num, rfl, rfl, by omega, by omega, Lib.hid (fun _ => hst3.out), Lib.hid (fun h => by cases h)⟩
                            case measure => simp [intOf]; omega
                          · have e3 : decide ((1114112 : Int) < (Z : Int)) = false := by simp; omega
                            have e3' : decide (1114112 < Z) = false := by simp; omega
                            have hst3 : Hid (numF 10 (T.drop (kk + 1)) Z = N) := Lib.hid (by rw [hst2.out, Nat.min_eq_left (by omega)])
                            clear hst2
                            go_wp2_with fail
                            go_roundw
                            case rel => exact ⟨by first | rfl | trivial, kk + 1, Z, true, by go_num, rfl, rfl, by omega, by omega, Lib.hid (fun _ => hst3.out), Lib.hid (fun h => by cases h)⟩
                            case measure => simp [intOf]; omega
                        · have e2 : decide ((d : Int) < 10) = false := by simp; omega
                          have e2' : decide (d < 10) = false := by simp; omega
                          have hst2 : Hid (N = none) := Lib.hid (by rw [hst.out, if_neg hdb])
                          clear hst hdb
                          by_cases hb : 1114112 < Z
                          · have e3 : decide ((1114112 : Int) < (Z : Int)) = true := by simp; omega
                            have e3' : decide (1114112 < Z) = true := by simp; omega
                            clear hb
                            go_wp2_with fail
                            go_roundw
                            case rel => exact ⟨by first | rfl | trivial, kk + 1, 1114112, false, by go_num, rfl, rfl, by omega, by omega, Lib.hid (fun h => by cases h), Lib.hid (fun _ => hst2.out)⟩
                            case measure => simp [intOf]; omega
                          · have e3 : decide ((1114112 : Int) < (Z : Int)) = false := by simp; omega
                            have e3' : decide (1114112 < Z) = false := by simp; omega
                            go_wp2_with fail
                            go_roundw
                            case rel => exact ⟨by first | rfl | trivial, kk + 1, Z, false, by go_num, rfl, rfl, by omega, by omega, Lib.hid (fun h => by cases h), Lib.hid (fun _ => hst2.out)⟩
                            case measure => simp [intOf]; omega
                      · have e0 : decide ((kk : Int) < (T.length : Int)) = false := by simp; omega
                        have e1 : decide (kk < T.length) = false := by simp; omega
                        have hNs : Hid (N = some v) := Lib.hid (by rw [← hok'.out, numF_end (by omega)])
                        go_wp2_with fail
                        refine (refchar_any _ _).mono ?_
                        rintro e w4 ⟨rfl, hw4⟩
                        subst hw4
                        cases hch : Utf.Char (v : Nat) with
                        | false =>
                          have hnone : Hid (refV T = none) := Lib.hid (by rw [hN.out, hNs.out]; unfold numC; simp only; rw [hch]; rfl)
                          clear hch
                          go_wp2_with fail
                          refine (rbad_any _ b S (q + 1) _ c pl hs3.out 5 k).mono ?_
                          rintro e w9 ⟨rfl, hs9, hg9⟩
                          have hs9' := Lib.hid hs9
                          have hg9' := Lib.hid (hg3.out.trans hg9)
                          clear hs9 hg9
                          go_wp2_with fail
                          go_ret
                          refine ⟨hg9'.out, ?_⟩
                          rw [hres.out, hnone.out]
                          exact ⟨by decide, _, q + 1, rfl, rfl, by omega, hs9'.out⟩
                        | true =>
                          have hsome : Hid (refV T = some v) := Lib.hid (by rw [hN.out, hNs.out]; unfold numC; simp only; rw [hch]; rfl)
                          have hvt := char_top hch
                          clear hch
                          go_wp2_with fail
                          refine (refEncode_any (v : Nat) (by omega) (by omega) _).mono ?_
                          rintro e w9 ⟨A9, c9, rfl, ho9, hb9⟩
                          have hs9 := Lib.hid (hs3.out.below hb9)
                          have hg9 := Lib.hid (hg3.out.trans (grown_in (r := some b) hb9))
                          have hcv9 : (convert 22 9 (.slice A9 (encB (v : Nat)).length c9)).run Tryz.prog w9 = .ok (.string (strOf (encB (v : Nat)))) w9 := Bs.conv ho9.bs Tryz.underlying22 Tryz.underlying5 Tryz.underlying9
                          clear ho9 hb9
                          go_wp2_with fail
                          go_ret
                          refine ⟨hg9.out, ?_⟩
                          rw [hres.out, hsome.out]
                          refine ⟨rfl, ?_⟩
                          rw [show k + (q - L + 2) = q + 1 by have := hL'.out; omega]
                          exact hs9.out
              · have j35 : ((x0.toNat : Int) == 35) = false := by rw [show (35 : Int) = ((35 : UInt8).toNat : Int) from rfl, byte_eq, decide_eq_false h35]
                have hnone : Hid (refV T = none) := Lib.hid (by rw [refV_n' (by rw [hx0'.out]; intro e; injection e with e; exact h35 e), hnm.out])
                clear h35
                go_wp2_with fail
                go_loopw [12] (fun v12 wx => v12 = .bool false ∧ wx = w3) (fun _ _ => 0)
                case atStart => exact ⟨rfl, rfl⟩
                case round =>
                  obtain ⟨rfl, hwy⟩ := hrel
                  subst hwy
                  go_wp2_with fail
                  refine (rbad_any _ b S (q + 1) _ c pl hs3.out 5 k).mono ?_
                  rintro e w9 ⟨rfl, hs9, hg9⟩
                  have hs9' := Lib.hid hs9
                  have hg9' := Lib.hid (hg3.out.trans hg9)
                  clear hs9 hg9
                  go_wp2_with fail
                  go_ret
                  refine ⟨hg9'.out, ?_⟩
                  rw [hres.out, hnone.out]
                  exact ⟨by decide, _, q + 1, rfl, rfl, by omega, hs9'.out⟩
      · have j59 : ((x.toNat : Int) != 59) = true := by
          rw [bne_iff_ne]
          intro e
          exact h59 (UInt8.toNat_inj.1 (by show x.toNat = 59; omega))
        have hro : Hid (F = (find [59] (S.drop (q + 1))).map (· + (q + 1 - L))) := Lib.hid (by
          rw [hr.out, find59_off hx'.out h59, Option.map_map]
          congr 1
          funext z
          simp only [Function.comp]
          omega)
        clear h59
        go_wp2_with fail
        go_roundw
        case rel => exact ⟨by first | rfl | trivial, q + 1, by omega, by omega, by go_num, hro⟩
        case measure => simp [intOf]; omega
    · have i0 : decide ((q : Int) < (S.length : Int)) = false := by simp; omega
      have i1 : decide (q < S.length) = false := by simp; omega
      have j0 : decide ((S.length : Int) ≤ (q : Int)) = true := by simp; omega
      have j1 : decide (S.length ≤ q) = true := by simp; omega
      have hres : Hid (G = .bad 5 0) := Lib.hid (by
        have h1 := hr.out
        rw [find_end (by omega) (by decide)] at h1
        rw [← hG'.out]
        unfold refR
        rw [hF'.out, h1]
        rfl)
      go_wp2_with fail
      refine (rbad_any _ b S k A c pl h'.out 5 k).mono ?_
      rintro e w3 ⟨rfl, hs3, hg3⟩
      have hs3' := Lib.hid hs3
      have hg3' := Lib.hid hg3
      clear hs3 hg3
      go_wp2_with fail
      go_ret
      refine ⟨hg3'.out, ?_⟩
      rw [hres.out]
      exact ⟨by decide, _, k, rfl, rfl, by omega, hs3'.out⟩
end
end Go.Proofs.YtcecmbbhjaeodaaGreatDoor.Xl
end

section
namespace Go.Proofs.YtcecmbbhjaeodaaGreatDoor.Xl
open Go.RowKit UtfW Er

theorem add_run {B1 B2 B3 : ByteArray} (h : B1 ++ B2 = B3) (hs : B1.size + B2.size ≤ 1000000000) : ∀ w, (Op.stringOp .add B1 B2).run Tryz.prog w = .ok (.string B3) w := fun w => by
  have := run_string_add_sum (P := Tryz.prog) w B1 B2 (by omega)
  rw [h] at this
  exact this
theorem strOf_app (a b : Tx) : strOf a ++ strOf b = strOf (a ++ b) := by
  apply ByteArray.ext
  simp [strOf]
/-- A text of one byte, made of a row of it. -/
theorem conv_one (w : World) (x : UInt8) : (convert 22 9 (.slice (some ⟨w.heap.size, 0, none⟩) 1 1)).run Tryz.prog (w.alloc (.cells #[.int .u8 (x.toNat : Int)] 5)) = .ok (.string (strOf [x])) (w.alloc (.cells #[.int .u8 (x.toNat : Int)] 5)) :=
  Bs.conv (OwB.bs (owb_lit w w.heap.size (Nat.le_refl _) #[.int .u8 (x.toNat : Int)] 5 [x] 1 rfl (by omega) rfl)) Tryz.underlying22 Tryz.underlying5 Tryz.underlying9
theorem line_two {S : Tx} {q : Nat} {x : UInt8} (hx : S[q]? = some x) : line (S.drop q) = if x = 13 ∧ S[q + 1]? = some 10 then 2 else 1 := by
  unfold line
  congr 1
  rw [eq_iff_iff, hp_iff]
  constructor
  · intro h
    have h0 := h 0 (by decide)
    have h1 := h 1 (by decide)
    rw [List.getElem?_drop] at h0 h1
    rw [Nat.add_zero, hx] at h0
    exact ⟨by injection h0, h1⟩
  · rintro ⟨rfl, h⟩ m hm
    rw [List.getElem?_drop]
    rcases (by simp at hm; omega : m = 0 ∨ m = 1) with rfl | rfl
    · rw [Nat.add_zero, hx]; rfl
    · rw [h]; rfl

section
variable (w : World) (b : Nat) (S : Tx) (k : Nat) (A : Option Addr) (c : Nat)
set_option maxHeartbeats 4000000 in
set_option maxRecDepth 100000 in
theorem rvalue_any (pl : Nat) (h : Sr w b S k A c 0 pl) (hk : k ≤ S.length) (hS : S.length ≤ 65536) :
    Calls Tryz.prog 71 #[.pointer (some ⟨b, 0, none⟩)] w fun e w' => GivesR w b S k A c pl (fun v => v = .string ⟨#[]⟩) (fun v => .string (strOf v)) (value (S.drop k)) e w' := by
  have c2 := h.c2
  have h' := Lib.hid h
  clear h
  obtain ⟨R, hR⟩ : ∃ R, value (S.drop k) = R := ⟨_, rfl⟩
  rw [hR]
  have hR' := Lib.hid hR
  clear hR
  go_enter Tryz.func71, Tryz.ntmps71
  go_wp2_with fail
  refine (rc_any w b S k A c pl h'.out 0 (by omega)).mono ?_
  rintro e w1 ⟨rfl, hb1⟩
  have hs1 := Lib.hid (h'.out.below hb1)
  have hg1 := Lib.hid (grown_in (r := some b) hb1)
  rw [Nat.add_zero]
  clear hb1 c2
  have c0 := hs1.out.c0
  have c1 := hs1.out.c1
  have f1 := hs1.out.frozen 1
  by_cases hend : S.length ≤ k
  · rw [cF_end hend]
    go_wp2_with fail
    refine (rbad_any w1 b S k A c pl hs1.out 6 S.length).mono ?_
    rintro e w3 ⟨rfl, hs3, hg3⟩
    have hs3' := Lib.hid hs3
    have hg3' := Lib.hid (hg1.out.trans hg3)
    clear hs3 hg3
    go_wp2_with fail
    go_ret
    refine ⟨hg3'.out, ?_⟩
    rw [← hR'.out, drop_end hend, value]
    refine ⟨by decide, _, k, rfl, rfl, hk, ?_⟩
    rw [show k + 0 = S.length by omega]
    exact hs3'.out
  have hkl : k < S.length := by omega
  have hx : S[k]? = some S[k] := List.getElem?_eq_getElem hkl
  generalize S[k] = x0 at hx
  rw [cF_at hx]
  have hx0 := Lib.hid hx
  clear hx hend
  have i0 : decide ((x0.toNat : Int) < 0) = false := by simp
  have j34 := byte_eq x0 34
  have j39 := byte_eq x0 39
  by_cases hqt : ¬ (x0 = 34 ∨ x0 = 39)
  · have hqt' := Lib.hid hqt
    rw [decide_eq_false fun e => hqt (.inl e)] at j34
    rw [decide_eq_false fun e => hqt (.inr e)] at j39
    have j34' : ((x0.toNat : Int) == 34) = false := j34
    have j39' : ((x0.toNat : Int) == 39) = false := j39
    have m34 : ((x0.toNat : Int) != 34) = true := by unfold bne; rw [j34']; rfl
    have m39 : ((x0.toNat : Int) != 39) = true := by unfold bne; rw [j39']; rfl
    clear hqt j34 j39
    go_wp2_with fail
    refine (rbad_any w1 b S k A c pl hs1.out 2 k).mono ?_
    rintro e w3 ⟨rfl, hs3, hg3⟩
    have hs3' := Lib.hid hs3
    have hg3' := Lib.hid (hg1.out.trans hg3)
    clear hs3 hg3
    go_wp2_with fail
    go_ret
    refine ⟨hg3'.out, ?_⟩
    rw [← hR'.out, drop_at hx0.out, value, if_neg hqt'.out]
    exact ⟨by decide, _, k, rfl, rfl, hk, hs3'.out⟩
  have hqt := Classical.not_not.1 hqt
  have hgo : Hid ((valF (S.length - k) x0 (S.drop (k + 1)) []).shift 1 = R) := Lib.hid (by
    have := hR'.out
    rw [drop_at hx0.out, value, if_pos hqt, List.length_drop] at this
    rw [← this, show S.length - k = S.length - (k + 1) + 1 by omega])
  have hall : Hid (x0 = 34 ∨ x0 = 39) := Lib.hid hqt
  clear hqt j34 j39 c0 c1 f1
  go_upto_region 7 with fail
  go_cut [27] (fun v wx => v = .bool false ∧ wx = w1)
  case first =>
    rcases hall.out with e | e
    · have j1 : ((x0.toNat : Int) != 34) = false := by rw [e]; rfl
      go_wp2_with fail
      go_meet
      exact ⟨rfl, rfl⟩
    · have j1 : ((x0.toNat : Int) != 34) = true := by rw [e]; rfl
      have j2 : ((x0.toNat : Int) != 39) = false := by rw [e]; rfl
      go_wp2_with fail
      go_meet
      exact ⟨rfl, rfl⟩
  obtain ⟨rfl, hwc⟩ := hcut
  subst hwc
  clear hall
  have c1 := hs1.out.c1
  have f1 := hs1.out.frozen 1
  have hset := hs1.out.set1 (k + 1)
  have hss := Lib.hid hset.1
  have hgg := Lib.hid (hg1.out.trans hset.2)
  clear hset
  go_wp2_with fail
  go_loopg [4, 5] (S.length + 1) (fun m v4 v5 wr => (∃ (q f : Nat) (o : Tx) (O : ByteArray), k < q ∧ q ≤ S.length ∧ S.length - q < m ∧ v4 = .string O ∧ O.size ≤ 4 * (q - k) ∧ Hid (O = strOf o) ∧ Hid (S.length - q < f) ∧ Hid ((valF f x0 (S.drop q) o).shift (q - k) = R) ∧ Hid (Sr wr b S q A c 0 pl) ∧ Hid (w.grownBy wr (some b))) ∨ (∃ (q : Nat) (cd : Int) (p : Nat), cd ≠ 0 ∧ q ≤ S.length ∧ Hid (R = .bad cd p) ∧ Hid (Sr wr b S q A c cd (k + p)) ∧ Hid (w.grownBy wr (some b))))
  case atStart =>
    refine .inl ⟨k + 1, S.length - k, [], ⟨#[]⟩, by omega, by omega, by omega, rfl, Nat.zero_le _, Lib.hid rfl, Lib.hid (by omega), Lib.hid ?_, hss, hgg⟩
    rw [show k + 1 - k = 1 by omega]
    exact hgo.out
  case round =>
    clear c1 f1 hss hgg
    rcases hrel with ⟨q, f, o, O, hkq, hql, hms, rfl, hOl, hO, hf, hr, hs, hg⟩ | ⟨q, cd, p, hcd, hql, hRb, hs, hg⟩
    rotate_left
    · have c2 := hs.out.c2
      have j0 : (cd == 0) = false := by rw [beq_eq_false_iff_ne]; exact hcd
      have hcd' := Lib.hid hcd
      clear hcd
      go_wp2_with fail
      (try simp only [Exit.inBlock, Exit.then])
      go_ret
      refine ⟨hg.out, ?_⟩
      rw [hRb.out]
      exact ⟨hcd'.out, _, q, rfl, rfl, hql, hs.out⟩
    have c2 := hs.out.c2
    go_wp2_with fail
    refine (rc_any wr b S q A c pl hs.out 0 (by omega)).mono ?_
    rintro e w1 ⟨rfl, hb1⟩
    have hs1 := Lib.hid (hs.out.below hb1)
    have hg1 := Lib.hid (hg.out.trans (grown_in (r := some b) hb1))
    rw [Nat.add_zero]
    clear hb1 c2 hs hg
    have c0 := hs1.out.c0
    have c1 := hs1.out.c1
    have f1 := hs1.out.frozen 1
    by_cases hge : S.length ≤ q
    · rw [cF_end hge]
      have hRb : Hid (R = .bad 6 (q - k)) := Lib.hid (by
        have := hr.out
        rw [drop_end hge, show valF f x0 [] o = .bad 6 0 by cases f <;> rfl] at this
        exact this.symm)
      go_wp2_with fail
      refine (rbad_any w1 b S q A c pl hs1.out 6 S.length).mono ?_
      rintro e w3 ⟨rfl, hs3, hg3⟩
      rw [show S.length = k + (q - k) by omega] at hs3
      have hs3' := Lib.hid hs3
      have hg3' := Lib.hid (hg1.out.trans hg3)
      clear hs3 hg3
      go_wp2_with fail
      go_roundg 0
      case measure => omega
      case rel => exact .inr ⟨q, 6, q - k, by decide, hql, hRb, hs3', hg3'⟩
    have hlt : q < S.length := by omega
    have hx : S[q]? = some S[q] := List.getElem?_eq_getElem hlt
    generalize S[q] = x at hx
    rw [cF_at hx]
    have hx' := Lib.hid hx
    clear hx hge
    have i0 : decide ((x.toNat : Int) < 0) = false := by simp
    obtain ⟨f', rfl⟩ : ∃ f', f = f' + 1 := ⟨f - 1, by have := hf.out; omega⟩
    by_cases jq : x = x0
    · subst jq
      go_wp2_with fail
      (try simp only [Exit.inBlock, Exit.then])
      go_ret
      have h5 := hs1.out.set1 (q + 1)
      refine ⟨hg1.out.trans h5.2, ?_⟩
      have := hr.out
      rw [drop_at hx'.out, valF, if_pos rfl] at this
      rw [← this]
      refine ⟨by show Ending.returned (.string O) = .returned (.string (strOf o)); rw [← hO.out], ?_⟩
      rw [show k + (q - k + 1) = q + 1 by omega]
      exact h5.1
    have jq0 : ((x.toNat : Int) == (x0.toNat : Int)) = false := by rw [byte_eq, decide_eq_false jq]
    have jq' := Lib.hid jq
    clear jq
    by_cases j6 : x = 60
    · have j60 : ((x.toNat : Int) == 60) = true := by rw [j6]; rfl
      have hRb : Hid (R = .bad 2 (q - k)) := Lib.hid (by
        have := hr.out
        rw [drop_at hx'.out, valF, if_neg jq'.out, if_pos j6] at this
        exact this.symm)
      clear j6
      go_wp2_with fail
      refine (rbad_any w1 b S q A c pl hs1.out 2 q).mono ?_
      rintro e w3 ⟨rfl, hs3, hg3⟩
      rw [show q = k + (q - k) by omega] at hs3
      have hs3' : Hid (Sr w3 b S q A c 2 (k + (q - k))) := Lib.hid (by rw [show k + (q - k) = q by omega] at hs3 ⊢; exact hs3)
      have hg3' := Lib.hid (hg1.out.trans hg3)
      clear hs3 hg3
      go_wp2_with fail
      go_roundg 0
      case measure => omega
      case rel => exact .inr ⟨q, 2, q - k, by decide, hql, hRb, hs3', hg3'⟩
    have j60 : ((x.toNat : Int) == 60) = false := by rw [show (60 : Int) = ((60 : UInt8).toNat : Int) from rfl, byte_eq, decide_eq_false j6]
    have j6' := Lib.hid j6
    clear j6
    by_cases j3 : x = 38
    · have j38 : ((x.toNat : Int) == 38) = true := by rw [j3]; rfl
      have hx38' : Hid (S[q]? = some 38) := Lib.hid (by rw [← j3]; exact hx'.out)
      have j3' := Lib.hid j3
      clear j3
      go_wp2_with fail
      refine (rref_any w1 b S q A c pl hs1.out hx38'.out (by omega)).mono ?_
      rintro e w5 ⟨hg5, hG⟩
      cases hrf : refR (S.drop (q + 1)) with
      | bad ec eo =>
        rw [hrf] at hG
        obtain ⟨hec, v, q2, rfl, rfl, hq2, hs5⟩ := hG
        have hRb : Hid (R = .bad ec (q - k + eo)) := Lib.hid (by
          have := hr.out
          rw [drop_at hx'.out, valF, if_neg jq'.out, if_neg j6'.out, if_pos j3'.out, hrf] at this
          exact this.symm)
        have hs5' : Hid (Sr w5 b S q2 A c ec (k + (q - k + eo))) := Lib.hid (by rw [show k + (q - k + eo) = q + eo by omega]; exact hs5)
        have hg5' := Lib.hid (hg1.out.trans hg5)
        have e1 := add_run (B1 := O) (B2 := ⟨#[]⟩) (B3 := O ++ ⟨#[]⟩) rfl (by show O.size + 0 ≤ _; omega)
        generalize O ++ ⟨#[]⟩ = O2 at e1
        clear hs5 hg5 hrf
        go_wp2_with fail
        go_roundg 0
        case measure => omega
        case rel => exact .inr ⟨q2, ec, q - k + eo, hec, hq2, hRb, hs5', hg5'⟩
      | ok v m =>
        rw [hrf] at hG
        obtain ⟨rfl, hs5⟩ := hG
        have hvl := refR_v hrf
        have hml := refR_len hrf
        rw [List.length_drop] at hml
        have hs5' := Lib.hid hs5
        have hg5' := Lib.hid (hg1.out.trans hg5)
        have hr2 : Hid ((valF f' x0 (S.drop (q + m)) (o ++ v)).shift (q + m - k) = R) := Lib.hid (by
          have := hr.out
          rw [drop_at hx'.out, valF, if_neg jq'.out, if_neg j6'.out, if_pos j3'.out, hrf] at this
          simp only at this
          rw [Out.shift_shift, ← drop_at hx'.out, List.drop_drop] at this
          rw [show q + m - k = q - k + m by omega]
          exact this)
        have hO2 : Hid (O ++ strOf v = strOf (o ++ v)) := Lib.hid (by rw [hO.out, strOf_app])
        have hvz : (strOf v).size = v.length := strOf_size' v
        have e1 := add_run (B1 := O) (B2 := strOf v) (B3 := O ++ strOf v) rfl (by omega)
        have hsz2 : (O ++ strOf v).size = O.size + (strOf v).size := ByteArray.size_append
        generalize O ++ strOf v = O2 at e1 hO2 hsz2
        clear hs5 hg5 hrf
        go_wp2_with fail
        go_roundg (S.length - (q + m) + 1)
        case measure => omega
        case rel => exact .inl ⟨q + m, f', o ++ v, O2, by omega, by omega, by omega, rfl, by omega, hO2, Lib.hid (by have := hf.out; omega), hr2, hs5', hg5'⟩
    have j38 : ((x.toNat : Int) == 38) = false := by
      have hj : ¬ x = 38 := j3
      rw [show (38 : Int) = ((38 : UInt8).toNat : Int) from rfl, byte_eq, decide_eq_false hj]
    have j3' := Lib.hid j3
    clear j3
    have hlin : x = 9 ∨ x = 10 ∨ x = 13 → Hid ((valF f' x0 (S.drop (q + line (S.drop q))) (o ++ [32])).shift (q + line (S.drop q) - k) = R) := fun hj => Lib.hid (by
      have := hr.out
      rw [drop_at hx'.out, valF, if_neg jq'.out, if_neg j6'.out, if_neg j3'.out, if_pos hj, Out.shift_shift, ← drop_at hx'.out, List.drop_drop] at this
      rw [show q + line (S.drop q) - k = q - k + line (S.drop q) by omega]
      exact this)
    rw [line_two hx'.out] at hlin
    have e32 := add_run (B1 := O) (B2 := ⟨#[32]⟩) (B3 := O ++ ⟨#[32]⟩) rfl (by show O.size + 1 ≤ _; omega)
    have hO32 : Hid (O ++ ⟨#[32]⟩ = strOf (o ++ [32])) := Lib.hid (by rw [hO.out, ← strOf_app]; rfl)
    have hz32 : (O ++ ⟨#[32]⟩ : ByteArray).size = O.size + 1 := ByteArray.size_append
    generalize O ++ ⟨#[32]⟩ = O32 at e32 hO32 hz32
    by_cases j9 : x = 9
    · have hli := hlin (.inl j9)
      rw [if_neg (by rw [j9]; exact fun h => absurd h.1 (by decide))] at hli
      have k9 : ((x.toNat : Int) == 9) = true := by rw [j9]; rfl
      have k13 : ((x.toNat : Int) == 13) = false := by rw [j9]; rfl
      clear hlin j9
      go_wp2_with fail
      have h7 := hs1.out.set1 (q + 1)
      have hg7 := hg1.out.trans h7.2
      go_roundg (S.length - (q + 1) + 1)
      case measure => omega
      case rel => exact .inl ⟨q + 1, f', o ++ [32], O32, by omega, by omega, by omega, rfl, by omega, hO32, Lib.hid (by have := hf.out; omega), hli, Lib.hid h7.1, Lib.hid hg7⟩
    have k9 : ((x.toNat : Int) == 9) = false := by rw [show (9 : Int) = ((9 : UInt8).toNat : Int) from rfl, byte_eq, decide_eq_false j9]
    by_cases j10 : x = 10
    · have hli := hlin (.inr (.inl j10))
      rw [if_neg (by rw [j10]; exact fun h => absurd h.1 (by decide))] at hli
      have k10 : ((x.toNat : Int) == 10) = true := by rw [j10]; rfl
      have k13 : ((x.toNat : Int) == 13) = false := by rw [j10]; rfl
      clear hlin j10 j9
      go_wp2_with fail
      have h7 := hs1.out.set1 (q + 1)
      have hg7 := hg1.out.trans h7.2
      go_roundg (S.length - (q + 1) + 1)
      case measure => omega
      case rel => exact .inl ⟨q + 1, f', o ++ [32], O32, by omega, by omega, by omega, rfl, by omega, hO32, Lib.hid (by have := hf.out; omega), hli, Lib.hid h7.1, Lib.hid hg7⟩
    have k10 : ((x.toNat : Int) == 10) = false := by rw [show (10 : Int) = ((10 : UInt8).toNat : Int) from rfl, byte_eq, decide_eq_false j10]
    by_cases j13 : x = 13
    · have hli := hlin (.inr (.inr j13))
      have k13 : ((x.toNat : Int) == 13) = true := by rw [j13]; rfl
      by_cases h10 : S[q + 1]? = some 10
      · rw [if_pos ⟨j13, h10⟩] at hli
        have hlt2 : q + 1 < S.length := (List.getElem?_eq_some_iff.1 h10).1
        have hF : cF S (q + 1) = 10 := by rw [cF_at h10]; rfl
        have hF' := Lib.hid hF
        clear hlin j13 j10 j9 h10 hF
        go_wp2_with fail
        refine (rc_any w1 b S q A c pl hs1.out 1 (by omega)).mono ?_
        rintro e w2 ⟨rfl, hb2⟩
        have hs2 := Lib.hid (hs1.out.below hb2)
        have hg2 := Lib.hid (hg1.out.trans (grown_in (r := some b) hb2))
        rw [hF'.out]
        have d1 := hs2.out.c1
        have g1 := hs2.out.frozen 1
        have hset := hs2.out.set1 (q + 1)
        have hs3 := Lib.hid hset.1
        have hg3 := Lib.hid (hg2.out.trans hset.2)
        have a1 := hs3.out.c1
        have b1 := hs3.out.frozen 1
        clear hb2 c1 f1 c0 hset
        go_wp2_with fail
        have h7 := hs3.out.set1 (q + 2)
        have hg7 := hg3.out.trans h7.2
        go_roundg (S.length - (q + 2) + 1)
        case measure => omega
        case rel => exact .inl ⟨q + 2, f', o ++ [32], O32, by omega, by omega, by omega, rfl, by omega, hO32, Lib.hid (by have := hf.out; omega), hli, Lib.hid h7.1, Lib.hid hg7⟩
      · rw [if_neg (fun h => h10 h.2)] at hli
        have hF : (cF S (q + 1) == 10) = false := by
          rw [beq_eq_false_iff_ne]
          intro e
          apply h10
          unfold cF at e
          split at e
          · cases e
          · rename_i y hy
            rw [hy]
            congr 1
            exact UInt8.toNat_inj.1 (by show y.toNat = 10; omega)
        clear hlin j13 j10 j9 h10
        go_wp2_with fail
        refine (rc_any w1 b S q A c pl hs1.out 1 (by omega)).mono ?_
        rintro e w2 ⟨rfl, hb2⟩
        have hs2 := Lib.hid (hs1.out.below hb2)
        have hg2 := Lib.hid (hg1.out.trans (grown_in (r := some b) hb2))
        have d1 := hs2.out.c1
        have g1 := hs2.out.frozen 1
        clear hb2 c1 f1 c0
        go_wp2_with fail
        have h7 := hs2.out.set1 (q + 1)
        have hg7 := hg2.out.trans h7.2
        go_roundg (S.length - (q + 1) + 1)
        case measure => omega
        case rel => exact .inl ⟨q + 1, f', o ++ [32], O32, by omega, by omega, by omega, rfl, by omega, hO32, Lib.hid (by have := hf.out; omega), hli, Lib.hid h7.1, Lib.hid hg7⟩
    have k13 : ((x.toNat : Int) == 13) = false := by rw [show (13 : Int) = ((13 : UInt8).toNat : Int) from rfl, byte_eq, decide_eq_false j13]
    have hrr : Hid ((valF f' x0 (S.drop (q + 1)) (o ++ [x])).shift (q + 1 - k) = R) := Lib.hid (by
      have := hr.out
      rw [drop_at hx'.out, valF, if_neg jq'.out, if_neg j6'.out, if_neg j3'.out, if_neg (by rintro (h | h | h); exact j9 h; exact j10 h; exact j13 h), Out.shift_shift] at this
      rw [show q + 1 - k = q - k + 1 by omega]
      exact this)
    clear hlin j9 j10 j13 e32 hO32 hz32
    have hx8 : (x.toNat : Int) % 256 = (x.toNat : Int) := by have := x.toNat_lt; omega
    have hcv := conv_one w1 x
    have hOx : Hid (O ++ strOf [x] = strOf (o ++ [x])) := Lib.hid (by rw [hO.out, strOf_app])
    have hzx : (O ++ strOf [x] : ByteArray).size = O.size + 1 := ByteArray.size_append
    have ex := add_run (B1 := O) (B2 := strOf [x]) (B3 := O ++ strOf [x]) rfl (by show O.size + 1 ≤ _; omega)
    generalize O ++ strOf [x] = Ox at ex hOx hzx
    generalize strOf [x] = X at hcv ex
    have hal := below_alloc w1 (.cells #[.int .u8 (x.toNat : Int)] 5)
    have hs6 := Lib.hid (hs1.out.below hal)
    have hg6 := Lib.hid (hg1.out.trans (grown_in (r := some b) hal))
    have d1 := hs6.out.c1
    have g1 := hs6.out.frozen 1
    clear hal
    go_wp2_with fail
    have h7 := hs6.out.set1 (q + 1)
    have hg7 := hg6.out.trans h7.2
    go_roundg (S.length - (q + 1) + 1)
    case measure => omega
    case rel => exact .inl ⟨q + 1, f', o ++ [x], Ox, by omega, by omega, by omega, rfl, by omega, hOx, Lib.hid (by have := hf.out; omega), hrr, Lib.hid h7.1, Lib.hid hg7⟩
set_option maxRecDepth 100000 in
theorem rvalue_idle {e0 : Int} (pl : Nat) (h : Sr w b S k A c e0 pl) (h0 : e0 ≠ 0) :
    Calls Tryz.prog 71 #[.pointer (some ⟨b, 0, none⟩)] w fun e w' => e = .returned (.string ⟨#[]⟩) ∧ w' = w := by
  have c2 := h.c2
  have j0 : (e0 == 0) = false := by rw [beq_eq_false_iff_ne]; exact h0
  have j1 : (e0 != 0) = true := by rw [bne_iff_ne]; exact h0
  go_enter Tryz.func71, Tryz.ntmps71
  go_wp2_with fail
  go_ret
  exact ⟨rfl, rfl⟩
end
end Go.Proofs.YtcecmbbhjaeodaaGreatDoor.Xl
end

section
namespace Go.Proofs.YtcecmbbhjaeodaaGreatDoor.Xl
open Go.RowKit UtfW Er

section
variable (w : World) (b : Nat) (S : Tx) (k : Nat) (A : Option Addr) (c : Nat)
set_option maxHeartbeats 4000000 in
set_option maxRecDepth 100000 in
theorem rtext_any (pl : Nat) (h : Sr w b S k A c 0 pl) (hk : k ≤ S.length) (hS : S.length ≤ 65536) (f0 : Nat) (hf0 : S.length - k < f0) :
    Calls Tryz.prog 46 #[.pointer (some ⟨b, 0, none⟩)] w fun e w' => GivesR w b S k A c pl (fun v => ∃ O, v = .string O ∧ O.size ≤ 1000000) (fun v => .string (strOf v)) (textF f0 (S.drop k) []) e w' := by
  have c2 := h.c2
  have h' := Lib.hid h
  clear h
  obtain ⟨R, hR⟩ : ∃ R, textF f0 (S.drop k) [] = R := ⟨_, rfl⟩
  rw [hR]
  have hR' := Lib.hid hR
  clear hR
  go_enter Tryz.func46, Tryz.ntmps46
  go_wp2_with fail
  go_loopg [3] (S.length + 1) (fun m v3 wr => (∃ (q f : Nat) (o : Tx) (O : ByteArray), k ≤ q ∧ q ≤ S.length ∧ S.length - q < m ∧ v3 = .string O ∧ O.size ≤ 4 * (q - k) ∧ Hid (O = strOf o) ∧ Hid (S.length - q < f) ∧ Hid ((textF f (S.drop q) o).shift (q - k) = R) ∧ Hid (Sr wr b S q A c 0 pl) ∧ Hid (w.grownBy wr (some b))) ∨ (∃ (q : Nat) (cd : Int) (p : Nat) (O : ByteArray), cd ≠ 0 ∧ q ≤ S.length ∧ v3 = .string O ∧ O.size ≤ 1000000 ∧ Hid (R = .bad cd p) ∧ Hid (Sr wr b S q A c cd (k + p)) ∧ Hid (w.grownBy wr (some b))))
  case atStart =>
    refine .inl ⟨k, f0, [], ⟨#[]⟩, by omega, by omega, by omega, rfl, Nat.zero_le _, Lib.hid rfl, Lib.hid (by omega), Lib.hid ?_, h', Lib.hid (World.grownBy.refl _ _)⟩
    rw [Nat.sub_self, Out.shift_zero]
    exact hR'.out
  case round =>
    clear c2
    rcases hrel with ⟨q, f, o, O, hkq, hql, hms, rfl, hOl, hO, hf, hr, hs, hg⟩ | ⟨q, cd, p, O, hcd, hql, rfl, hOl, hRb, hs, hg⟩
    rotate_left
    · have c2 := hs.out.c2
      have j0 : (cd == 0) = false := by rw [beq_eq_false_iff_ne]; exact hcd
      have hcd' := Lib.hid hcd
      clear hcd
      go_wp2_with fail
      (try simp only [Exit.inBlock, Exit.then])
      go_ret
      refine ⟨hg.out, ?_⟩
      rw [hRb.out]
      exact ⟨hcd'.out, _, q, rfl, ⟨O, rfl, hOl⟩, hql, hs.out⟩
    have c2 := hs.out.c2
    obtain ⟨f', rfl⟩ : ∃ f', f = f' + 1 := ⟨f - 1, by have := hf.out; omega⟩
    by_cases hge : S.length ≤ q
    · have hF := cF_end (S := S) (k := q) hge
      have hF' := Lib.hid hF
      clear hF
      go_wp2_with fail
      refine (rc_any wr b S q A c pl hs.out 0 (by omega)).mono ?_
      rintro e w1 ⟨rfl, hb1⟩
      have hs1 := Lib.hid (hs.out.below hb1)
      have hg1 := Lib.hid (hg.out.trans (grown_in (r := some b) hb1))
      rw [Nat.add_zero, hF'.out]
      clear hb1 c2
      go_wp2_with fail
      (try simp only [Exit.inBlock, Exit.then])
      go_ret
      refine ⟨hg1.out, ?_⟩
      have := hr.out
      rw [drop_end hge, textF] at this
      rw [← this]
      refine ⟨by show Ending.returned (.string O) = .returned (.string (strOf o)); rw [← hO.out], ?_⟩
      rw [show k + (q - k + 0) = q by omega]
      exact hs1.out
    have hlt : q < S.length := by omega
    have hx : S[q]? = some S[q] := List.getElem?_eq_getElem hlt
    generalize S[q] = x at hx
    have hF := cF_at hx
    have hF' := Lib.hid hF
    have hx' := Lib.hid hx
    clear hx hge hF
    have i0 : decide (0 ≤ (x.toNat : Int)) = true := by simp
    by_cases j6 : x = 60
    · have j60 : ((x.toNat : Int) != 60) = false := by rw [j6]; rfl
      have j6' := Lib.hid j6
      clear j6
      go_wp2_with fail
      refine (rc_any wr b S q A c pl hs.out 0 (by omega)).mono ?_
      rintro e w1 ⟨rfl, hbz⟩
      have hs1 := Lib.hid (hs.out.below hbz)
      have hg1 := Lib.hid (hg.out.trans (grown_in (r := some b) hbz))
      rw [Nat.add_zero, hF'.out]
      clear hbz
      clear c2
      go_wp2_with fail
      refine (rc_any w1 b S q A c pl hs1.out 0 (by omega)).mono ?_
      rintro e w2 ⟨rfl, hbz⟩
      have hs2 := Lib.hid (hs1.out.below hbz)
      have hg2 := Lib.hid (hg1.out.trans (grown_in (r := some b) hbz))
      rw [Nat.add_zero, hF'.out]
      clear hbz
      go_wp2_with fail
      (try simp only [Exit.inBlock, Exit.then])
      go_ret
      refine ⟨hg2.out, ?_⟩
      have := hr.out
      rw [drop_at hx'.out, textF, if_pos j6'.out] at this
      rw [← this]
      refine ⟨by show Ending.returned (.string O) = .returned (.string (strOf o)); rw [← hO.out], ?_⟩
      rw [show k + (q - k + 0) = q by omega]
      exact hs2.out
    have j60 : ((x.toNat : Int) != 60) = true := by
      rw [bne_iff_ne]
      intro e
      exact j6 (UInt8.toNat_inj.1 (by show x.toNat = 60; omega))
    have j6' := Lib.hid j6
    clear j6
    by_cases j3 : x = 38
    · have j38 : ((x.toNat : Int) == 38) = true := by rw [j3]; rfl
      have hx38' : Hid (S[q]? = some 38) := Lib.hid (by rw [← j3]; exact hx'.out)
      have j3' := Lib.hid j3
      clear j3
      go_wp2_with fail
      refine (rc_any wr b S q A c pl hs.out 0 (by omega)).mono ?_
      rintro e w1 ⟨rfl, hbz⟩
      have hs1 := Lib.hid (hs.out.below hbz)
      have hg1 := Lib.hid (hg.out.trans (grown_in (r := some b) hbz))
      rw [Nat.add_zero, hF'.out]
      clear hbz
      clear c2
      go_wp2_with fail
      refine (rc_any w1 b S q A c pl hs1.out 0 (by omega)).mono ?_
      rintro e w2 ⟨rfl, hbz⟩
      have hs2 := Lib.hid (hs1.out.below hbz)
      have hg2 := Lib.hid (hg1.out.trans (grown_in (r := some b) hbz))
      rw [Nat.add_zero, hF'.out]
      clear hbz
      go_wp2_with fail
      refine (rc_any w2 b S q A c pl hs2.out 0 (by omega)).mono ?_
      rintro e w3 ⟨rfl, hb3⟩
      have hs3 := Lib.hid (hs2.out.below hb3)
      have hg3 := Lib.hid (hg2.out.trans (grown_in (r := some b) hb3))
      rw [Nat.add_zero, hF'.out]
      clear hb3 hs2 hg2
      go_wp2_with fail
      refine (rref_any w3 b S q A c pl hs3.out hx38'.out (by omega)).mono ?_
      rintro e w5 ⟨hg5, hG⟩
      cases hrf : refR (S.drop (q + 1)) with
      | bad ec eo =>
        rw [hrf] at hG
        obtain ⟨hec, v, q2, rfl, rfl, hq2, hs5⟩ := hG
        have hRb : Hid (R = .bad ec (q - k + eo)) := Lib.hid (by
          have := hr.out
          rw [drop_at hx'.out, textF, if_neg j6'.out, if_pos j3'.out, hrf] at this
          exact this.symm)
        have hs5' : Hid (Sr w5 b S q2 A c ec (k + (q - k + eo))) := Lib.hid (by rw [show k + (q - k + eo) = q + eo by omega]; exact hs5)
        have hg5' := Lib.hid (hg3.out.trans hg5)
        have e1 := add_run (B1 := O) (B2 := ⟨#[]⟩) (B3 := O ++ ⟨#[]⟩) rfl (by show O.size + 0 ≤ _; omega)
        have hz1 : (O ++ ⟨#[]⟩ : ByteArray).size = O.size + 0 := ByteArray.size_append
        generalize O ++ ⟨#[]⟩ = O2 at e1 hz1
        clear hs5 hg5 hrf
        go_wp2_with fail
        go_roundg 0
        case measure => omega
        case rel => exact .inr ⟨q2, ec, q - k + eo, O2, hec, hq2, rfl, by omega, hRb, hs5', hg5'⟩
      | ok v m =>
        rw [hrf] at hG
        obtain ⟨rfl, hs5⟩ := hG
        have hvl := refR_v hrf
        have hml := refR_len hrf
        rw [List.length_drop] at hml
        have hs5' := Lib.hid hs5
        have hg5' := Lib.hid (hg3.out.trans hg5)
        have hr2 : Hid ((textF f' (S.drop (q + m)) (o ++ v)).shift (q + m - k) = R) := Lib.hid (by
          have := hr.out
          rw [drop_at hx'.out, textF, if_neg j6'.out, if_pos j3'.out, hrf] at this
          simp only at this
          rw [Out.shift_shift, ← drop_at hx'.out, List.drop_drop] at this
          rw [show q + m - k = q - k + m by omega]
          exact this)
        have hO2 : Hid (O ++ strOf v = strOf (o ++ v)) := Lib.hid (by rw [hO.out, strOf_app])
        have hvz : (strOf v).size = v.length := strOf_size' v
        have e1 := add_run (B1 := O) (B2 := strOf v) (B3 := O ++ strOf v) rfl (by omega)
        have hsz2 : (O ++ strOf v).size = O.size + (strOf v).size := ByteArray.size_append
        generalize O ++ strOf v = O2 at e1 hO2 hsz2
        clear hs5 hg5 hrf
        go_wp2_with fail
        go_roundg (S.length - (q + m) + 1)
        case measure => omega
        case rel => exact .inl ⟨q + m, f', o ++ v, O2, by omega, by omega, by omega, rfl, by omega, hO2, Lib.hid (by have := hf.out; omega), hr2, hs5', hg5'⟩
    have j38 : ((x.toNat : Int) == 38) = false := by
      have hj : ¬ x = 38 := j3
      rw [show (38 : Int) = ((38 : UInt8).toNat : Int) from rfl, byte_eq, decide_eq_false hj]
    have j3' := Lib.hid j3
    clear j3
    by_cases j13 : x = 13
    · have k13 : ((x.toNat : Int) == 13) = true := by rw [j13]; rfl
      have hpf : Lib.hasPrefix (S.drop q) [93, 93, 62] = false := by
        rw [Bool.eq_false_iff]
        intro h
        have := hp_iff.1 h 0 (by decide)
        rw [List.getElem?_drop, Nat.add_zero, hx'.out, j13] at this
        exact absurd this (by decide)
      have hli : Hid ((textF f' (S.drop (q + line (S.drop q))) (o ++ [10])).shift (q + line (S.drop q) - k) = R) := Lib.hid (by
        have := hr.out
        rw [drop_at hx'.out, textF, if_neg j6'.out, if_neg j3'.out, if_pos j13, Out.shift_shift, ← drop_at hx'.out, List.drop_drop] at this
        rw [show q + line (S.drop q) - k = q - k + line (S.drop q) by omega]
        exact this)
      rw [line_two hx'.out] at hli
      have e10 := add_run (B1 := O) (B2 := ⟨#[10]⟩) (B3 := O ++ ⟨#[10]⟩) rfl (by show O.size + 1 ≤ _; omega)
      have hO10 : Hid (O ++ ⟨#[10]⟩ = strOf (o ++ [10])) := Lib.hid (by rw [hO.out, ← strOf_app]; rfl)
      have hz10 : (O ++ ⟨#[10]⟩ : ByteArray).size = O.size + 1 := ByteArray.size_append
      generalize O ++ ⟨#[10]⟩ = O10 at e10 hO10 hz10
      by_cases h10 : S[q + 1]? = some 10
      · rw [if_pos ⟨j13, h10⟩] at hli
        have hlt2 : q + 1 < S.length := (List.getElem?_eq_some_iff.1 h10).1
        have hF2 : cF S (q + 1) = 10 := by rw [cF_at h10]; rfl
        have hF2' := Lib.hid hF2
        clear j13 h10 hF2
        go_wp2_with fail
        refine (rc_any wr b S q A c pl hs.out 0 (by omega)).mono ?_
        rintro e w1 ⟨rfl, hbz⟩
        have hs1 := Lib.hid (hs.out.below hbz)
        have hg1 := Lib.hid (hg.out.trans (grown_in (r := some b) hbz))
        rw [Nat.add_zero, hF'.out]
        clear hbz
        clear c2
        go_wp2_with fail
        refine (rc_any w1 b S q A c pl hs1.out 0 (by omega)).mono ?_
        rintro e w2 ⟨rfl, hbz⟩
        have hs2 := Lib.hid (hs1.out.below hbz)
        have hg2 := Lib.hid (hg1.out.trans (grown_in (r := some b) hbz))
        rw [Nat.add_zero, hF'.out]
        clear hbz
        go_wp2_with fail
        refine (rc_any w2 b S q A c pl hs2.out 0 (by omega)).mono ?_
        rintro e w3 ⟨rfl, hbz⟩
        have hs3 := Lib.hid (hs2.out.below hbz)
        have hg3 := Lib.hid (hg2.out.trans (grown_in (r := some b) hbz))
        rw [Nat.add_zero, hF'.out]
        clear hbz
        go_wp2_with fail
        refine (rhas_any w3 b S q A c pl hs3.out [93, 93, 62] (by decide) (by omega)).mono ?_
        rintro e w4 ⟨rfl, hb4⟩
        have hs4 := Lib.hid (hs3.out.below hb4)
        have hg4 := Lib.hid (hg3.out.trans (grown_in (r := some b) hb4))
        rw [hpf]
        clear hb4 hs1 hg1 hs2 hg2 hs3 hg3
        go_wp2_with fail
        refine (rc_any w4 b S q A c pl hs4.out 0 (by omega)).mono ?_
        rintro e w5 ⟨rfl, hbz⟩
        have hs5 := Lib.hid (hs4.out.below hbz)
        have hg5 := Lib.hid (hg4.out.trans (grown_in (r := some b) hbz))
        rw [Nat.add_zero, hF'.out]
        clear hbz
        go_wp2_with fail
        refine (rc_any w5 b S q A c pl hs5.out 1 (by omega)).mono ?_
        rintro e w6 ⟨rfl, hb6⟩
        have hs6 := Lib.hid (hs5.out.below hb6)
        have hg6 := Lib.hid (hg5.out.trans (grown_in (r := some b) hb6))
        rw [hF2'.out]
        have d1 := hs6.out.c1
        have g1 := hs6.out.frozen 1
        have hset := hs6.out.set1 (q + 1)
        have hs7 := Lib.hid hset.1
        have hg7 := Lib.hid (hg6.out.trans hset.2)
        have a1 := hs7.out.c1
        have b1 := hs7.out.frozen 1
        clear hb6 hset
        go_wp2_with fail
        have h8 := hs7.out.set1 (q + 2)
        have hg8 := hg7.out.trans h8.2
        go_roundg (S.length - (q + 2) + 1)
        case measure => omega
        case rel => exact .inl ⟨q + 2, f', o ++ [10], O10, by omega, by omega, by omega, rfl, by omega, hO10, Lib.hid (by have := hf.out; omega), hli, Lib.hid h8.1, Lib.hid hg8⟩
      · rw [if_neg (fun h => h10 h.2)] at hli
        have hF2 : (cF S (q + 1) == 10) = false := by
          rw [beq_eq_false_iff_ne]
          intro e
          apply h10
          unfold cF at e
          split at e
          · cases e
          · rename_i y hy
            rw [hy]
            congr 1
            exact UInt8.toNat_inj.1 (by show y.toNat = 10; omega)
        clear j13 h10
        go_wp2_with fail
        refine (rc_any wr b S q A c pl hs.out 0 (by omega)).mono ?_
        rintro e w1 ⟨rfl, hbz⟩
        have hs1 := Lib.hid (hs.out.below hbz)
        have hg1 := Lib.hid (hg.out.trans (grown_in (r := some b) hbz))
        rw [Nat.add_zero, hF'.out]
        clear hbz
        clear c2
        go_wp2_with fail
        refine (rc_any w1 b S q A c pl hs1.out 0 (by omega)).mono ?_
        rintro e w2 ⟨rfl, hbz⟩
        have hs2 := Lib.hid (hs1.out.below hbz)
        have hg2 := Lib.hid (hg1.out.trans (grown_in (r := some b) hbz))
        rw [Nat.add_zero, hF'.out]
        clear hbz
        go_wp2_with fail
        refine (rc_any w2 b S q A c pl hs2.out 0 (by omega)).mono ?_
        rintro e w3 ⟨rfl, hbz⟩
        have hs3 := Lib.hid (hs2.out.below hbz)
        have hg3 := Lib.hid (hg2.out.trans (grown_in (r := some b) hbz))
        rw [Nat.add_zero, hF'.out]
        clear hbz
        go_wp2_with fail
        refine (rhas_any w3 b S q A c pl hs3.out [93, 93, 62] (by decide) (by omega)).mono ?_
        rintro e w4 ⟨rfl, hb4⟩
        have hs4 := Lib.hid (hs3.out.below hb4)
        have hg4 := Lib.hid (hg3.out.trans (grown_in (r := some b) hb4))
        rw [hpf]
        clear hb4 hs1 hg1 hs2 hg2 hs3 hg3
        go_wp2_with fail
        refine (rc_any w4 b S q A c pl hs4.out 0 (by omega)).mono ?_
        rintro e w5 ⟨rfl, hbz⟩
        have hs5 := Lib.hid (hs4.out.below hbz)
        have hg5 := Lib.hid (hg4.out.trans (grown_in (r := some b) hbz))
        rw [Nat.add_zero, hF'.out]
        clear hbz
        go_wp2_with fail
        refine (rc_any w5 b S q A c pl hs5.out 1 (by omega)).mono ?_
        rintro e w6 ⟨rfl, hb6⟩
        have hs6 := Lib.hid (hs5.out.below hb6)
        have hg6 := Lib.hid (hg5.out.trans (grown_in (r := some b) hb6))
        have d1 := hs6.out.c1
        have g1 := hs6.out.frozen 1
        clear hb6
        go_wp2_with fail
        have h8 := hs6.out.set1 (q + 1)
        have hg8 := hg6.out.trans h8.2
        go_roundg (S.length - (q + 1) + 1)
        case measure => omega
        case rel => exact .inl ⟨q + 1, f', o ++ [10], O10, by omega, by omega, by omega, rfl, by omega, hO10, Lib.hid (by have := hf.out; omega), hli, Lib.hid h8.1, Lib.hid hg8⟩
    have k13 : ((x.toNat : Int) == 13) = false := by rw [show (13 : Int) = ((13 : UInt8).toNat : Int) from rfl, byte_eq, decide_eq_false j13]
    have hOx : Hid (O ++ strOf [x] = strOf (o ++ [x])) := Lib.hid (by rw [hO.out, strOf_app])
    have hzx : (O ++ strOf [x] : ByteArray).size = O.size + 1 := ByteArray.size_append
    have ex := add_run (B1 := O) (B2 := strOf [x]) (B3 := O ++ strOf [x]) rfl (by show O.size + 1 ≤ _; omega)
    generalize O ++ strOf [x] = Ox at ex hOx hzx
    obtain ⟨X, hX⟩ : ∃ X, strOf [x] = X := ⟨_, rfl⟩
    rw [hX] at ex
    have hX' := Lib.hid hX
    clear hX
    have hx8 : (x.toNat : Int) % 256 = (x.toNat : Int) := by have := x.toNat_lt; omega
    have hlt0 : q + 1 ≤ S.length := hlt
    cases hpf : Lib.hasPrefix (S.drop q) [93, 93, 62] with
    | true =>
      have hRb : Hid (R = .bad 2 (q - k)) := Lib.hid (by
        have := hr.out
        rw [drop_at hx'.out, textF, if_neg j6'.out, if_neg j3'.out, if_neg j13, if_pos (by rw [← drop_at hx'.out]; exact hpf)] at this
        exact this.symm)
      clear j13
      go_wp2_with fail
      refine (rc_any wr b S q A c pl hs.out 0 (by omega)).mono ?_
      rintro e w1 ⟨rfl, hbz⟩
      have hs1 := Lib.hid (hs.out.below hbz)
      have hg1 := Lib.hid (hg.out.trans (grown_in (r := some b) hbz))
      rw [Nat.add_zero, hF'.out]
      clear hbz
      clear c2
      go_wp2_with fail
      refine (rc_any w1 b S q A c pl hs1.out 0 (by omega)).mono ?_
      rintro e w2 ⟨rfl, hbz⟩
      have hs2 := Lib.hid (hs1.out.below hbz)
      have hg2 := Lib.hid (hg1.out.trans (grown_in (r := some b) hbz))
      rw [Nat.add_zero, hF'.out]
      clear hbz
      go_wp2_with fail
      refine (rc_any w2 b S q A c pl hs2.out 0 (by omega)).mono ?_
      rintro e w3 ⟨rfl, hbz⟩
      have hs3 := Lib.hid (hs2.out.below hbz)
      have hg3 := Lib.hid (hg2.out.trans (grown_in (r := some b) hbz))
      rw [Nat.add_zero, hF'.out]
      clear hbz
      go_wp2_with fail
      refine (rhas_any w3 b S q A c pl hs3.out [93, 93, 62] (by decide) (by omega)).mono ?_
      rintro e w4 ⟨rfl, hb4⟩
      have hs4 := Lib.hid (hs3.out.below hb4)
      have hg4 := Lib.hid (hg3.out.trans (grown_in (r := some b) hb4))
      rw [hpf]
      clear hb4 hs1 hg1 hs2 hg2 hs3 hg3
      have d0 := hs4.out.c1
      go_wp2_with fail
      refine (rbad_any w4 b S q A c pl hs4.out 2 q).mono ?_
      rintro e wb ⟨rfl, hsb, hgb⟩
      have hsb' := Lib.hid hsb
      have hgb' := Lib.hid (hg4.out.trans hgb)
      clear hsb hgb d0
      go_wp2_with fail
      refine (rc_any wb b S q A c _ hsb'.out 0 (by omega)).mono ?_
      rintro e w5 ⟨rfl, hbz⟩
      have hs5 := Lib.hid (hsb'.out.below hbz)
      have hg5 := Lib.hid (hgb'.out.trans (grown_in (r := some b) hbz))
      rw [Nat.add_zero, hF'.out]
      clear hbz
      go_wp2_with fail
      refine (rc_any w5 b S q A c _ hs5.out 0 (by omega)).mono ?_
      rintro e w6 ⟨rfl, hbz⟩
      have hs6 := Lib.hid (hs5.out.below hbz)
      have hg6 := Lib.hid (hg5.out.trans (grown_in (r := some b) hbz))
      rw [Nat.add_zero, hF'.out]
      clear hbz
      have hcv := conv_one w6 x
      rw [hX'.out] at hcv
      have hal := below_alloc w6 (.cells #[.int .u8 (x.toNat : Int)] 5)
      have hs7 := Lib.hid (hs6.out.below hal)
      have hg7 := Lib.hid (hg6.out.trans (grown_in (r := some b) hal))
      have d1 := hs7.out.c1
      have g1 := hs7.out.frozen 1
      clear hal
      go_wp2_with fail
      have h8 := hs7.out.set1 (q + 1)
      have hg8 := hg7.out.trans h8.2
      go_roundg 0
      case measure => omega
      case rel => exact .inr ⟨q + 1, 2, q - k, Ox, by decide, hlt0, rfl, by omega, hRb, Lib.hid (by rw [show k + (q - k) = q by omega]; exact h8.1), Lib.hid hg8⟩
    | false =>
      have hrr : Hid ((textF f' (S.drop (q + 1)) (o ++ [x])).shift (q + 1 - k) = R) := Lib.hid (by
        have := hr.out
        rw [drop_at hx'.out, textF, if_neg j6'.out, if_neg j3'.out, if_neg j13, if_neg (by rw [← drop_at hx'.out, hpf]; decide), Out.shift_shift] at this
        rw [show q + 1 - k = q - k + 1 by omega]
        exact this)
      clear j13
      go_wp2_with fail
      refine (rc_any wr b S q A c pl hs.out 0 (by omega)).mono ?_
      rintro e w1 ⟨rfl, hbz⟩
      have hs1 := Lib.hid (hs.out.below hbz)
      have hg1 := Lib.hid (hg.out.trans (grown_in (r := some b) hbz))
      rw [Nat.add_zero, hF'.out]
      clear hbz
      clear c2
      go_wp2_with fail
      refine (rc_any w1 b S q A c pl hs1.out 0 (by omega)).mono ?_
      rintro e w2 ⟨rfl, hbz⟩
      have hs2 := Lib.hid (hs1.out.below hbz)
      have hg2 := Lib.hid (hg1.out.trans (grown_in (r := some b) hbz))
      rw [Nat.add_zero, hF'.out]
      clear hbz
      go_wp2_with fail
      refine (rc_any w2 b S q A c pl hs2.out 0 (by omega)).mono ?_
      rintro e w3 ⟨rfl, hbz⟩
      have hs3 := Lib.hid (hs2.out.below hbz)
      have hg3 := Lib.hid (hg2.out.trans (grown_in (r := some b) hbz))
      rw [Nat.add_zero, hF'.out]
      clear hbz
      go_wp2_with fail
      refine (rhas_any w3 b S q A c pl hs3.out [93, 93, 62] (by decide) (by omega)).mono ?_
      rintro e w4 ⟨rfl, hb4⟩
      have hs4 := Lib.hid (hs3.out.below hb4)
      have hg4 := Lib.hid (hg3.out.trans (grown_in (r := some b) hb4))
      rw [hpf]
      clear hb4 hs1 hg1 hs2 hg2 hs3 hg3
      go_wp2_with fail
      refine (rc_any w4 b S q A c pl hs4.out 0 (by omega)).mono ?_
      rintro e w5 ⟨rfl, hbz⟩
      have hs5 := Lib.hid (hs4.out.below hbz)
      have hg5 := Lib.hid (hg4.out.trans (grown_in (r := some b) hbz))
      rw [Nat.add_zero, hF'.out]
      clear hbz
      go_wp2_with fail
      refine (rc_any w5 b S q A c pl hs5.out 0 (by omega)).mono ?_
      rintro e w6 ⟨rfl, hbz⟩
      have hs6 := Lib.hid (hs5.out.below hbz)
      have hg6 := Lib.hid (hg5.out.trans (grown_in (r := some b) hbz))
      rw [Nat.add_zero, hF'.out]
      clear hbz
      have hcv := conv_one w6 x
      rw [hX'.out] at hcv
      have hal := below_alloc w6 (.cells #[.int .u8 (x.toNat : Int)] 5)
      have hs7 := Lib.hid (hs6.out.below hal)
      have hg7 := Lib.hid (hg6.out.trans (grown_in (r := some b) hal))
      have d1 := hs7.out.c1
      have g1 := hs7.out.frozen 1
      clear hal
      go_wp2_with fail
      have h8 := hs7.out.set1 (q + 1)
      have hg8 := hg7.out.trans h8.2
      go_roundg (S.length - (q + 1) + 1)
      case measure => omega
      case rel => exact .inl ⟨q + 1, f', o ++ [x], Ox, by omega, by omega, by omega, rfl, by omega, hOx, Lib.hid (by have := hf.out; omega), hrr, Lib.hid h8.1, Lib.hid hg8⟩
end
end Go.Proofs.YtcecmbbhjaeodaaGreatDoor.Xl
end

section
namespace Go.Proofs.YtcecmbbhjaeodaaGreatDoor.Xl
open Go.RowKit UtfW Er

/-- From place, code and code's place to those behind: where there is a code nothing turns; else the plain outcome. -/
def Stp {α : Type} (x : Out α) (q : Nat) (e0 : Int) (pl : Nat) (v : α) (q' : Nat) (e' : Int) (pl' : Nat) : Prop :=
  (e0 ≠ 0 → e' = e0 ∧ pl' = pl ∧ q' = q) ∧ (e0 = 0 → (∃ cd o, x = .bad cd o ∧ e' = cd ∧ cd ≠ 0 ∧ pl' = q + o) ∨ (∃ n, x = .ok v n ∧ e' = 0 ∧ pl' = pl ∧ q' = q + n))
def GivesA {α : Type} (w : World) (b : Nat) (S : Tx) (q : Nat) (A : Option Addr) (c : Nat) (e0 : Int) (pl : Nat) (V : α → Value) (x : Out α) (e : Ending) (w' : World) : Prop :=
  ∃ v q' e' pl', e = .returned (V v) ∧ w.grownBy w' (some b) ∧ q' ≤ S.length ∧ Sr w' b S q' A c e' pl' ∧ Stp x q e0 pl v q' e' pl'
section
variable (w : World) (b : Nat) (S : Tx) (q : Nat) (A : Option Addr) (c : Nat)
theorem gives_all {α : Type} {V : α → Value} {D : Value → Prop} {x : Out α} {pl : Nat} {d : α} (hd : ∀ v, D v → v = V d) (hx : ∀ a n, x = .ok a n → q + n ≤ S.length) {e : Ending} {w' : World} (h : GivesR w b S q A c pl D V x e w') : GivesA w b S q A c 0 pl V x e w' := by
  obtain ⟨hg, h⟩ := h
  cases x with
  | bad cd o =>
    obtain ⟨hc, v, q', rfl, hv, hq', hs⟩ := h
    exact ⟨d, q', cd, q + o, by rw [hd v hv], hg, hq', hs, fun h0 => absurd rfl h0, fun _ => .inl ⟨cd, o, rfl, rfl, hc, rfl⟩⟩
  | ok a n =>
    obtain ⟨rfl, hs⟩ := h
    exact ⟨a, q + n, 0, pl, rfl, hg, hx a n rfl, hs, fun h0 => absurd rfl h0, fun _ => .inr ⟨n, rfl, rfl, rfl, rfl⟩⟩
theorem rname_all {e0 : Int} (pl : Nat) (h : Sr w b S q A c e0 pl) (hq : q ≤ S.length) (hS : S.length ≤ 65536) :
    Calls Tryz.prog 48 #[.pointer (some ⟨b, 0, none⟩)] w fun e w' => GivesA w b S q A c e0 pl (fun v => .string (strOf v)) (name (S.drop q)) e w' := by
  by_cases h0 : e0 = 0
  · subst h0
    refine (rname_any w b S q A c pl h hq (by omega)).mono ?_
    intro e w' hG
    exact gives_all w b S q A c (d := []) (fun v hv => Eq.trans hv rfl) (fun a n e => by have h := name_len e; rw [List.length_drop] at h; omega) hG
  · refine (rname_idle w b S q A c pl h h0).mono ?_
    rintro e w' ⟨rfl, rfl⟩
    exact ⟨[], q, e0, pl, rfl, World.grownBy.refl _ _, hq, h, fun _ => ⟨rfl, rfl, rfl⟩, fun h => absurd h h0⟩
theorem rvalue_all {e0 : Int} (pl : Nat) (h : Sr w b S q A c e0 pl) (hq : q ≤ S.length) (hS : S.length ≤ 65536) :
    Calls Tryz.prog 71 #[.pointer (some ⟨b, 0, none⟩)] w fun e w' => GivesA w b S q A c e0 pl (fun v => .string (strOf v)) (value (S.drop q)) e w' := by
  by_cases h0 : e0 = 0
  · subst h0
    refine (rvalue_any w b S q A c pl h hq (by omega)).mono ?_
    intro e w' hG
    exact gives_all w b S q A c (d := []) (fun v hv => Eq.trans hv rfl) (fun a n e => by have h := value_len e; rw [List.length_drop] at h; omega) hG
  · refine (rvalue_idle w b S q A c pl h h0).mono ?_
    rintro e w' ⟨rfl, rfl⟩
    exact ⟨[], q, e0, pl, rfl, World.grownBy.refl _ _, hq, h, fun _ => ⟨rfl, rfl, rfl⟩, fun h => absurd h h0⟩
theorem rmust_all {e0 : Int} (pl : Nat) (h : Sr w b S q A c e0 pl) (hq : q ≤ S.length) (hS : S.length ≤ 65536) (x : UInt8) :
    Calls Tryz.prog 50 #[.pointer (some ⟨b, 0, none⟩), .int .u8 (x.toNat : Int)] w fun e w' => GivesA w b S q A c e0 pl (fun _ => .tuple #[]) (eat [x] (S.drop q)) e w' := by
  by_cases h0 : e0 = 0
  · subst h0
    refine (rmust_any w b S q A c pl h hq (by omega) x).mono ?_
    intro e w' hG
    exact gives_all w b S q A c (d := ()) (fun v hv => Eq.trans hv rfl) (fun a n e => by have h := eat_len (show eat [x] (S.drop q) = .ok () n from e); rw [List.length_drop] at h; omega) hG
  · refine (rmust_idle w b S q A c pl h h0 _).mono ?_
    rintro e w' ⟨rfl, rfl⟩
    exact ⟨(), q, e0, pl, rfl, World.grownBy.refl _ _, hq, h, fun _ => ⟨rfl, rfl, rfl⟩, fun h => absurd h h0⟩
theorem rblanks_all {e0 : Int} (pl : Nat) (h : Sr w b S q A c e0 pl) (hq : q ≤ S.length) (hS : S.length ≤ 65536) :
    Calls Tryz.prog 49 #[.pointer (some ⟨b, 0, none⟩)] w fun e w' => ∃ n, e = .returned (.int .i64 ((n : Nat) : Int)) ∧ w.grownBy w' (some b) ∧ q + n ≤ S.length ∧ Sr w' b S (q + n) A c e0 pl ∧ (e0 = 0 → n = blanks (S.drop q)) ∧ (e0 ≠ 0 → n = 0) := by
  by_cases h0 : e0 = 0
  · subst h0
    refine (rblanks_any w b S q A c pl h hq (by omega)).mono ?_
    rintro e w' ⟨rfl, hs, hg⟩
    have hl := blanks_le (S.drop q)
    rw [List.length_drop] at hl
    exact ⟨_, rfl, hg, by omega, hs, fun _ => rfl, fun h => absurd rfl h⟩
  · refine (rblanks_idle w b S q A c pl h h0).mono ?_
    rintro e w' ⟨rfl, rfl⟩
    exact ⟨0, rfl, World.grownBy.refl _ _, by omega, h, fun h => absurd h h0, fun _ => rfl⟩
theorem rbad_all {e0 : Int} (pl : Nat) (h : Sr w b S q A c e0 pl) (cd : Int) (at_ : Nat) :
    Calls Tryz.prog 31 #[.pointer (some ⟨b, 0, none⟩), .int .i64 cd, .int .i64 (at_ : Nat)] w fun e w' => e = .returned (.tuple #[]) ∧ w.grownBy w' (some b) ∧ ∃ e' pl', Sr w' b S q A c e' pl' ∧ (e0 = 0 → e' = cd ∧ pl' = at_) ∧ (e0 ≠ 0 → e' = e0 ∧ pl' = pl) := by
  by_cases h0 : e0 = 0
  · subst h0
    refine (rbad_any w b S q A c pl h cd at_).mono ?_
    rintro e w' ⟨rfl, hs, hg⟩
    exact ⟨rfl, hg, cd, at_, hs, fun _ => ⟨rfl, rfl⟩, fun h => absurd rfl h⟩
  · refine (rbad_idle w b S q A c pl h h0 cd at_).mono ?_
    rintro e w' ⟨rfl, rfl⟩
    exact ⟨rfl, World.grownBy.refl _ _, e0, pl, h, fun h => absurd h h0, fun _ => ⟨rfl, rfl⟩⟩
end

theorem Sr.far {w wr w' : World} {b : Nat} {S : Tx} {k q : Nat} {A : Option Addr} {c : Nat} {e e' : Int} {pl pl' : Nat} (h : Sr w b S k A c e pl) (hg : w.grownBy wr (some b)) (hr : Sr wr b S q A c e' pl') (hb : Below w.heap.size wr w') : Sr w' b S q A c e' pl' ∧ w.grownBy w' (some b) := by
  have h2 : w.grownBy w' (some b) := ⟨hb.os.trans hg.os, hb.tape.trans hg.tape, hb.output.trans hg.output, Nat.le_trans hg.size hb.size, fun j hj hne => (hb.block j hj).trans (hg.block j hj hne)⟩
  exact ⟨h.on h2 ((hb.block b h.lt).trans hr.blk), h2⟩

/-- Where the token's block and the result's lie: T2 and T0 above the caller's memory, B0 above both. -/
structure TgF (w0 : World) (b T2 T0 B0 : Nat) (S : Tx) (k0 : Nat) (A : Option Addr) (c : Nat) (pl0 : Nat) : Prop where
  h0 : Sr w0 b S k0 A c 0 pl0
  t2 : w0.heap.size ≤ T2
  t0 : w0.heap.size ≤ T0
  ne : T0 ≠ T2
  b2 : T2 < B0
  b0 : T0 < B0
structure TgS (w0 w : World) (b T2 T0 B0 : Nat) (S : Tx) (A : Option Addr) (c : Nat) (q : Nat) (e : Int) (pl : Nat) (kd at_ : Int) (nm tx : ByteArray) (va : Value) : Prop where
  sr : Sr w b S q A c e pl
  gr : w0.grownBy w (some b)
  sz : B0 ≤ w.heap.size
  tb : Tb w T2 kd at_ nm tx va
  rb : Tb w T0 0 0 ⟨#[]⟩ ⟨#[]⟩ (.slice none 0 0)
section
variable {w0 w w' : World} {b T2 T0 B0 : Nat} {S : Tx} {A : Option Addr} {c q q' : Nat} {e e' : Int} {pl pl' : Nat} {kd at_ kd' : Int} {nm tx nm' tx' : ByteArray} {va va' : Value} {k0 pl0 : Nat}
theorem TgF.lt (F : TgF w0 b T2 T0 B0 S k0 A c pl0) : b < w0.heap.size := F.h0.lt
theorem TgF.b_2 (F : TgF w0 b T2 T0 B0 S k0 A c pl0) : T2 ≠ b := by have := F.lt; have := F.t2; omega
theorem TgF.b_0 (F : TgF w0 b T2 T0 B0 S k0 A c pl0) : T0 ≠ b := by have := F.lt; have := F.t0; omega
theorem TgF.bB (F : TgF w0 b T2 T0 B0 S k0 A c pl0) : b < B0 := by have := F.lt; have := F.t0; have := F.b0; omega
theorem TgF.wB (F : TgF w0 b T2 T0 B0 S k0 A c pl0) : w0.heap.size ≤ B0 := by have := F.t0; have := F.b0; omega
theorem TgS.on (F : TgF w0 b T2 T0 B0 S k0 A c pl0) (h : TgS w0 w b T2 T0 B0 S A c q e pl kd at_ nm tx va) (hg : w.grownBy w' (some b)) (hs : Sr w' b S q' A c e' pl') : TgS w0 w' b T2 T0 B0 S A c q' e' pl' kd at_ nm tx va :=
  ⟨hs, h.gr.trans hg, Nat.le_trans h.sz hg.size, h.tb.on hg F.b_2, h.rb.on hg F.b_0⟩
theorem TgS.below (h : TgS w0 w b T2 T0 B0 S A c q e pl kd at_ nm tx va) (hb : Below w.heap.size w w') : TgS w0 w' b T2 T0 B0 S A c q e pl kd at_ nm tx va :=
  ⟨h.sr.below hb, h.gr.trans (grown_in hb), Nat.le_trans h.sz hb.size, h.tb.below hb, h.rb.below hb⟩
theorem TgS.far (F : TgF w0 b T2 T0 B0 S k0 A c pl0) (h : TgS w0 w b T2 T0 B0 S A c q e pl kd at_ nm tx va) (hb : Below w0.heap.size w w') (htb : Tb w' T2 kd' at_ nm' tx' va') (hrb : Tb w' T0 0 0 ⟨#[]⟩ ⟨#[]⟩ (.slice none 0 0)) : TgS w0 w' b T2 T0 B0 S A c q e pl kd' at_ nm' tx' va' := by
  have hf := F.h0.far h.gr h.sr hb
  exact ⟨hf.1, hf.2, Nat.le_trans h.sz hb.size, htb, hrb⟩
theorem TgS.set0 (F : TgF w0 b T2 T0 B0 S k0 A c pl0) (h : TgS w0 w b T2 T0 B0 S A c q e pl kd at_ nm tx va) (kd' : Int) : TgS w0 (w.setCell ⟨T2, 0, none⟩ (.int .i64 kd')) b T2 T0 B0 S A c q e pl kd' at_ nm tx va :=
  h.far F ((Below.refl _ w).setCell (p := ⟨T2, 0, none⟩) F.t2 _) (tb_set0 h.tb) (h.rb.on (grown_set w ⟨T2, 0, none⟩ _) F.ne)
theorem TgS.set2 (F : TgF w0 b T2 T0 B0 S k0 A c pl0) (h : TgS w0 w b T2 T0 B0 S A c q e pl kd at_ nm tx va) (nm' : ByteArray) : TgS w0 (w.setCell ⟨T2, 2, none⟩ (.string nm')) b T2 T0 B0 S A c q e pl kd at_ nm' tx va :=
  h.far F ((Below.refl _ w).setCell (p := ⟨T2, 2, none⟩) F.t2 _) (tb_set2 h.tb) (h.rb.on (grown_set w ⟨T2, 2, none⟩ _) F.ne)
theorem TgS.set3 (F : TgF w0 b T2 T0 B0 S k0 A c pl0) (h : TgS w0 w b T2 T0 B0 S A c q e pl kd at_ nm tx va) (tx' : ByteArray) : TgS w0 (w.setCell ⟨T2, 3, none⟩ (.string tx')) b T2 T0 B0 S A c q e pl kd at_ nm tx' va :=
  h.far F ((Below.refl _ w).setCell (p := ⟨T2, 3, none⟩) F.t2 _) (tb_set3 h.tb) (h.rb.on (grown_set w ⟨T2, 3, none⟩ _) F.ne)
theorem TgS.set4 (F : TgF w0 b T2 T0 B0 S k0 A c pl0) (h : TgS w0 w b T2 T0 B0 S A c q e pl kd at_ nm tx va) (va' : Value) : TgS w0 (w.setCell ⟨T2, 4, none⟩ va') b T2 T0 B0 S A c q e pl kd at_ nm tx va' :=
  h.far F ((Below.refl _ w).setCell (p := ⟨T2, 4, none⟩) F.t2 _) (tb_set4 h.tb) (h.rb.on (grown_set w ⟨T2, 4, none⟩ _) F.ne)
theorem TgS.set1 (F : TgF w0 b T2 T0 B0 S k0 A c pl0) (h : TgS w0 w b T2 T0 B0 S A c q e pl kd at_ nm tx va) (q' : Nat) : TgS w0 (w.setCell ⟨b, 1, none⟩ (.int .i64 (q' : Nat))) b T2 T0 B0 S A c q' e pl kd at_ nm tx va :=
  h.on F (h.sr.set1 q').2 (h.sr.set1 q').1
/-- The token handed back. -/
theorem TgS.put {E : Nat} {ats : List At} (F : TgF w0 b T2 T0 B0 S k0 A c pl0) (h : TgS w0 w b T2 T0 B0 S A c q e pl kd at_ nm tx va) (ho : OwS AtEl 2 w B0 E va ats) :
    Tb (putTok w T0 kd at_ nm tx va) T0 kd at_ nm tx va ∧ w0.grownBy (putTok w T0 kd at_ nm tx va) (some b) ∧ Sr (putTok w T0 kd at_ nm tx va) b S q A c e pl ∧ OwS AtEl 2 (putTok w T0 kd at_ nm tx va) w0.heap.size E va ats := by
  have hfar := F.h0.far h.gr h.sr (below_put (Below.refl w0.heap.size w) F.t0 kd at_ nm tx va)
  refine ⟨tb_set h.rb, hfar.2, hfar.1, ?_⟩
  refine OwS.low (OwS.kept ho (grown_put w T0 kd at_ nm tx va) ?_ AtEl.to) F.wB
  cases hv : va.ownBlock with
  | none => exact .inl rfl
  | some j =>
    right
    have := (ho.lt j hv).1
    have := F.b0
    intro e
    injection e with e
    omega
end
/-- What a token's method gives. -/
def GivesRT (w : World) (b : Nat) (S : Tx) (k : Nat) (A : Option Addr) (c : Nat) (pl : Nat) (at0 : Nat) (x : Out Tok) (e : Ending) (w' : World) : Prop :=
  ∃ t va, e = .returned (tkV t va) ∧ w.grownBy w' (some b) ∧ OwS AtEl 2 w' w.heap.size 43 va t.attrs ∧ t.attrs.length ≤ 65537 ∧ ∃ q' e' pl', Sr w' b S q' A c e' pl' ∧
    match x with
    | .bad cd o => e' = cd ∧ cd ≠ 0 ∧ pl' = k + o
    | .ok t' n => e' = 0 ∧ pl' = pl ∧ q' = k + n ∧ t = { t' with at_ := at0 }
end Go.Proofs.YtcecmbbhjaeodaaGreatDoor.Xl
end
