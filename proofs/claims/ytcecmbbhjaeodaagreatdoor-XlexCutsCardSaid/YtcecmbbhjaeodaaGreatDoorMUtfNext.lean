/- The document's Next. -/
import Derived.Test.YtcecmbbhjaeodaaGreatDoorMUtfEnc
import Derived.Test.YtcecmbbhjaeodaaGreatDoorMUtfMath
import Derived.Deep.DeepCutAuto
import Derived.Deep.QuietTactic
import Derived.BigQuiet
import Derived.Lib.SmallJoins
namespace Go.Proofs.YtcecmbbhjaeodaaGreatDoor.UtfW
open Go.RowKit

/-- The byte at a place, as a number. -/
def bt (l : List UInt8) (i : Nat) : Nat := (l[i]?.getD 0).toNat

theorem bt_of {l : List UInt8} {i : Nat} {x : UInt8} (h : l[i]? = some x) : bt l i = x.toNat := by simp [bt, h]
theorem bt_lt (l : List UInt8) (i : Nat) : bt l i < 256 := (l[i]?.getD 0).toNat_lt

/-- What Next tells at a place. -/
def nx (l : List UInt8) (k : Nat) : Nat × Nat := if k < l.length then Utf.nxt (l.length - k) (bt l k) (bt l (k + 1)) (bt l (k + 2)) (bt l (k + 3)) else (0, 0)

def own (j : Nat) (l : List UInt8) (k : Nat) : Bool := Utf.ownB j (bt l k) (bt l (k + 1)) (bt l (k + 2)) (bt l (k + 3))
def vl (j : Nat) (l : List UInt8) (k : Nat) : Nat := Utf.val j (bt l k) (bt l (k + 1)) (bt l (k + 2)) (bt l (k + 3))

theorem nx_hit {l : List UInt8} {k j : Nat} (h1 : 1 ≤ j) (h4 : j ≤ 4) (hj : k + j ≤ l.length) (hn : ∀ i, 1 ≤ i → i < j → own i l k = false) (ho : own j l k = true) : nx l k = (vl j l k, j) := by
  unfold nx
  rw [if_pos (by omega), ← Utf.ref_nxt _ _ _ _ _ (by omega)]
  unfold Utf.ref
  unfold own at hn ho
  rcases (show j = 1 ∨ j = 2 ∨ j = 3 ∨ j = 4 from by omega) with rfl | rfl | rfl | rfl
  · rw [if_pos ⟨by omega, ho⟩]; rfl
  · rw [if_neg (by rw [hn 1 (by omega) (by omega)]; simp), if_pos ⟨by omega, ho⟩]; rfl
  · rw [if_neg (by rw [hn 1 (by omega) (by omega)]; simp), if_neg (by rw [hn 2 (by omega) (by omega)]; simp), if_pos ⟨by omega, ho⟩]; rfl
  · rw [if_neg (by rw [hn 1 (by omega) (by omega)]; simp), if_neg (by rw [hn 2 (by omega) (by omega)]; simp), if_neg (by rw [hn 3 (by omega) (by omega)]; simp), if_pos ⟨by omega, ho⟩]; rfl

theorem nx_miss {l : List UInt8} {k : Nat} (hn : ∀ i, 1 ≤ i → i ≤ 4 → k + i ≤ l.length → own i l k = false) : nx l k = (0, 0) := by
  unfold nx
  split
  · rename_i h
    rw [← Utf.ref_nxt _ _ _ _ _ (by omega)]
    unfold Utf.ref
    unfold own at hn
    have key : ∀ i, 1 ≤ i → i ≤ 4 → ¬ (i ≤ l.length - k ∧ Utf.ownB i (bt l k) (bt l (k + 1)) (bt l (k + 2)) (bt l (k + 3)) = true) := by
      intro i h1 h4 ⟨h5, h6⟩
      rw [hn i h1 h4 (by omega)] at h6
      exact absurd h6 (by simp)
    rw [if_neg (key 1 (by omega) (by omega)), if_neg (key 2 (by omega) (by omega)), if_neg (key 3 (by omega) (by omega)), if_neg (key 4 (by omega) (by omega))]
  · rfl

/-- The value as the loop puts it together. -/
def acc (M : Nat) (l : List UInt8) (k : Nat) : Nat → Nat
  | 0 => M
  | i + 1 => acc M l k i * 64 + bt l (k + (i + 1)) % 64

theorem acc_lt (M : Nat) (l : List UInt8) (k : Nat) (hM : M < 256) : ∀ i, i ≤ 3 → acc M l k i < 67108864
  | 0, _ => by simp only [acc]; omega
  | 1, _ => by simp only [acc]; omega
  | 2, _ => by simp only [acc]; omega
  | 3, _ => by simp only [acc]; omega
  | i + 4, h => by omega

def mask (j x : Nat) : Nat := if j = 1 then x else if j = 2 then x % 32 else if j = 3 then x % 16 else x % 8

theorem acc_val {j : Nat} (l : List UInt8) (k : Nat) (h1 : 1 ≤ j) (h4 : j ≤ 4) : acc (mask j (bt l k)) l k (j - 1) = vl j l k := by
  rcases (show j = 1 ∨ j = 2 ∨ j = 3 ∨ j = 4 from by omega) with rfl | rfl | rfl | rfl <;> rfl

theorem vl_lt {j : Nat} (l : List UInt8) (k : Nat) (h1 : 1 ≤ j) (h4 : j ≤ 4) : vl j l k < 2147483648 := by
  have := bt_lt l k
  rw [← acc_val l k h1 h4]
  have := acc_lt (mask j (bt l k)) l k (by unfold mask; split; omega; split; omega; split <;> omega) (j - 1) (by omega)
  omega

theorem enc_lt (v : Nat) : ∀ n ∈ Utf.enc v, n < 256 := by
  intro n hn
  unfold Utf.enc at hn
  split at hn
  · simp at hn
  split at hn
  · simp at hn; omega
  split at hn
  · simp at hn; omega
  split at hn
  · simp at hn; omega
  · simp at hn; omega

theorem encB_nat (v : Nat) : (encB v).map UInt8.toNat = Utf.enc v := by
  unfold encB
  rw [if_neg (by omega), Int.toNat_natCast, List.map_map]
  have h := enc_lt v
  generalize Utf.enc v = ns at h
  induction ns with
  | nil => rfl
  | cons a r ih =>
    have ha := h a (List.mem_cons_self ..)
    rw [List.map_cons, ih fun n hn => h n (List.mem_cons_of_mem _ hn)]
    simp only [Function.comp]
    rw [UInt8.toNat_ofNat']
    congr 1
    omega

theorem drop_bt {l : List UInt8} {k : Nat} (h : k < l.length) : ((l.drop k).map UInt8.toNat) = bt l k :: ((l.drop (k + 1)).map UInt8.toNat) := by
  rw [List.drop_eq_getElem_cons h, List.map_cons, bt_of (List.getElem?_eq_getElem h)]

theorem head_bt {l : List UInt8} {k j : Nat} (h1 : 1 ≤ j) (h4 : j ≤ 4) (hj : k + j ≤ l.length) : ((l.drop k).take j).map UInt8.toNat = [bt l k, bt l (k + 1), bt l (k + 2), bt l (k + 3)].take j := by
  rw [List.map_take]
  rcases (show j = 1 ∨ j = 2 ∨ j = 3 ∨ j = 4 from by omega) with rfl | rfl | rfl | rfl
  · rw [drop_bt (by omega)]; rfl
  · rw [drop_bt (by omega), drop_bt (by omega)]; rfl
  · rw [drop_bt (by omega), drop_bt (by omega), drop_bt (by omega)]; rfl
  · rw [drop_bt (by omega), drop_bt (by omega), drop_bt (by omega), drop_bt (by omega)]; rfl

theorem map_toNat_inj {a b : List UInt8} (h : a.map UInt8.toNat = b.map UInt8.toNat) : a = b := by
  induction a generalizing b with
  | nil => cases b with
    | nil => rfl
    | cons y r => simp at h
  | cons x r ih => cases b with
    | nil => simp at h
    | cons y s =>
      simp only [List.map_cons, List.cons.injEq] at h
      rw [ih h.2, UInt8.toNat_inj.1 h.1]

theorem own_iff {l : List UInt8} {k j : Nat} (h1 : 1 ≤ j) (h4 : j ≤ 4) (hj : k + j ≤ l.length) :
    own j l k = (decide (encB (vl j l k : Nat) = (l.drop k).take j) && Utf.Char (vl j l k : Nat)) := by
  unfold own Utf.ownB vl
  congr 1
  rw [decide_eq_decide, ← encB_nat, ← head_bt h1 h4 hj]
  exact ⟨map_toNat_inj, fun h => by rw [h]⟩

theorem own_len {l : List UInt8} {k j : Nat} (h1 : 1 ≤ j) (h4 : j ≤ 4) (hj : k + j ≤ l.length) (hne : (encB (vl j l k : Nat)).length ≠ j) : own j l k = false := by
  rw [own_iff h1 h4 hj, Bool.and_eq_false_iff]
  left
  rw [decide_eq_false_iff_not]
  intro h
  apply hne
  rw [h, List.length_take, List.length_drop]
  omega

theorem own_char {l : List UInt8} {k j : Nat} (h1 : 1 ≤ j) (h4 : j ≤ 4) (hj : k + j ≤ l.length) (hc : Utf.Char (vl j l k : Nat) = false) : own j l k = false := by
  rw [own_iff h1 h4 hj, hc, Bool.and_false]

theorem take_step {a b : List UInt8} {q : Nat} {u y : UInt8} {S : Bool} (ha : a[q]? = some u) (hb : b[q]? = some y) (hS : decide (a.take q = b.take q) = S) : decide (a.take (q + 1) = b.take (q + 1)) = (S && decide (u = y)) := by
  rw [take_snoc ha, take_snoc hb]
  have hla := (List.getElem?_eq_some_iff.1 ha).1
  have hlb := (List.getElem?_eq_some_iff.1 hb).1
  rw [← hS, Bool.eq_iff_iff, Bool.and_eq_true, decide_eq_true_eq, decide_eq_true_eq, decide_eq_true_eq]
  constructor
  · intro h
    have := List.append_inj h (by simp; omega)
    exact ⟨this.1, by simpa using this.2⟩
  · rintro ⟨h1, h2⟩
    rw [h1, h2]

theorem toNat_eq (u y : UInt8) : ((u.toNat : Int) == (y.toNat : Int)) = decide (u = y) := by
  rw [Bool.eq_iff_iff, beq_iff_eq, decide_eq_true_eq]
  exact ⟨fun h => UInt8.toNat_inj.1 (by omega), fun h => by rw [h]⟩

/-- What of Next's answer is returned. -/
def nxV (p : Nat × Nat) : Ending := .returned (.tuple #[.int .i32 (p.1 : Nat), .int .i64 (p.2 : Nat)])

set_option maxHeartbeats 4000000 in
set_option maxRecDepth 100000 in
theorem refNext_in (A : Option Addr) (n c : Nat) (l : List UInt8) (k : Nat) (hk : k < n) (hsz : n ≤ 281474976710656) (w : World) (hBs : Bs w A n c l) :
    Calls Tryz.prog 27 #[.slice A n c, .int .i64 k] w fun e w' => e = nxV (nx l k) ∧ Below w.heap.size w w' := by
  have hn := Rd.le hBs
  have hm := Rd.max hBs
  have HL : Hid (l.length = n) := hBs.len
  have i0 : decide ((k : Int) < 0) = false := by simp
  have i1 : decide ((n : Int) ≤ (k : Int)) = false := by simp; omega
  have i2 : decide (n ≤ k) = false := by simp; omega
  obtain ⟨P, hP⟩ : ∃ P, nx l k = P := ⟨_, rfl⟩
  rw [hP]
  have hP' := Lib.hid hP
  clear hP
  obtain ⟨b, off, x0, rfl, hbl, hx0, hx8, hc0⟩ := hBs.at_ hk
  have HX : Hid (bt l k = x0.toNat) := bt_of hx0
  clear hx0
  obtain ⟨X, hX⟩ : ∃ X : Nat, x0.toNat = X := ⟨_, rfl⟩
  rw [hX] at HX hx8 hc0
  clear hX
  clear x0
  go_enter Tryz.func27, Tryz.ntmps27
  go_wp2_with fail
  go_loopw [6] (fun nn wr => ∃ j : Nat, 1 ≤ j ∧ j ≤ 5 ∧ nn = .int .i64 (j : Nat) ∧ Hid (∀ i, 1 ≤ i → i < j → k + i ≤ n → own i l k = false) ∧ Hid (Below w.heap.size w wr)) (fun nn _ => 6 - (intOf nn).toNat)
  case atStart => exact ⟨1, by omega, by omega, rfl, Lib.hid (by intro i h1 h2; omega), Lib.hid (Below.refl _ _)⟩
  case round =>
    obtain ⟨j, h1, h5, rfl, hN, hb⟩ := hrel
    by_cases hj : j ≤ 4 ∧ k + j ≤ n
    case neg =>
      have hj' := Lib.hid hj
      clear hj
      have hmiss : nx l k = (0, 0) := nx_miss fun i a1 a2 a3 => by
        by_cases h : i < j
        · exact hN.out i a1 h (by have := HL.out; omega)
        · have := hj'.out
          have := HL.out
          exfalso
          omega
      rw [hP'.out] at hmiss
      subst hmiss
      by_cases h4 : j ≤ 4
      · have t1 : decide ((j : Int) ≤ 4) = true := by simp; omega
        have t2 : decide ((k : Int) + (j : Int) ≤ (n : Int)) = false := by have := hj'.out; simp; omega
        go_wp2_with fail
        go_ret2
        exact ⟨rfl, hb.out⟩
      · have t1 : decide ((j : Int) ≤ 4) = false := by simp; omega
        go_wp2_with fail
        go_ret2
        exact ⟨rfl, hb.out⟩
    case pos =>
      obtain ⟨h4, hjn⟩ := hj
      have t2 : decide ((k : Int) + (j : Int) ≤ (n : Int)) = true := by simp; omega
      have hw0 := hBs.below hb.out
      have hc0r : wr.cell? ⟨b, off + k, none⟩ = some (.int .u8 (X : Int)) := by rw [hb.out.cell hbl]; exact hc0
      have hM0 : mask j X < 256 := by unfold mask; split; omega; split; omega; split <;> omega
      obtain ⟨M, hM⟩ : ∃ M, mask j X = M := ⟨_, rfl⟩
      rw [hM] at hM0
      have HM := Lib.hid hM
      clear hM
      rcases (show j = 1 ∨ j = 2 ∨ j = 3 ∨ j = 4 from by omega) with rfl | rfl | rfl | rfl

      case inl =>
        have kn : (k : Int) < (n : Int) := by omega
        go_wp2_with fail
        go_loop [7, 8] (fun v kk => ∃ q : Nat, 1 ≤ q ∧ q ≤ 1 ∧ kk = .int .i64 (q : Nat) ∧ v = .int .i64 (acc M l k (q - 1) : Nat)) (fun v kk => 5 - (intOf kk).toNat)
        case atStart => exact ⟨1, by omega, by omega, rfl, val_int (by rw [← HM.out]; simp [acc, mask])⟩
        case round =>
          obtain ⟨q, q1, q2, rfl, rfl⟩ := hrel
          have za := acc_lt M l k hM0 (q - 1) (by omega)
          obtain ⟨z, hz⟩ : ∃ z, acc M l k (q - 1) = z := ⟨_, rfl⟩
          rw [hz] at za
          rw [hz]
          have hz' := Lib.hid hz
          clear hz
          by_cases hq : q < 1
          · obtain ⟨b', off', y, hy1, _, hy, hy8, hyc⟩ := hw0.at_ (k := k + q) (by omega)
            simp only [Option.some.injEq, Addr.mk.injEq, and_true] at hy1
            obtain ⟨rfl, rfl⟩ := hy1
            have HY : Hid (bt l (k + q) = y.toNat) := bt_of hy
            clear hy
            obtain ⟨Y, hY⟩ : ∃ Y : Nat, y.toNat = Y := ⟨_, rfl⟩
            rw [hY] at HY hy8 hyc
            clear hY
            clear y
            have t3 : decide ((q : Int) < 1) = true := by simp; omega
            have kq : (k : Int) + (q : Int) < (n : Int) := by omega
            go_wp2_with fail
            go_round
            case rel =>
              refine ⟨q + 1, by omega, by omega, by go_num, ?_⟩
              obtain ⟨q', rfl⟩ : ∃ q', q = q' + 1 := ⟨q - 1, by omega⟩
              have e1 := hz'.out
              have e2 := HY.out
              simp only [Nat.add_sub_cancel] at e1
              refine val_int ?_
              simp only [Nat.add_sub_cancel, acc, e1, e2]
              omega
            case measure => simp [intOf]; omega
          · have t3 : decide ((q : Int) < 1) = false := by simp; omega
            obtain rfl : q = 1 := by omega
            have hv : vl 1 l k = z := by
              rw [← hz'.out, ← acc_val l k (by omega) (by omega), HX.out, HM.out]
            have zl : z < 2147483648 := by rw [← hv]; exact vl_lt l k (by omega) (by omega)
            have HV := Lib.hid hv
            clear hv
            go_wp2_with fail
            refine (refEncode_any z (by omega) (by omega) wr).mono ?_
            rintro e w1 ⟨A1, c1, rfl, ho1, hb1⟩
            have hwx := hw0.below hb1
            have hx := hb.out.trans (hb1.mono hb.out.size)
            have hx' := Lib.hid hx
            clear hx
            have hcap := Rd.le ho1.bs
            have hcap2 := Rd.max ho1.bs
            have ho1' := Lib.hid ho1
            have hb1' := Lib.hid hb1
            clear ho1 hb1
            obtain ⟨eb, heb⟩ : ∃ eb, encB (z : Nat) = eb := ⟨_, rfl⟩
            rw [heb] at ho1' hcap
            rw [heb]
            obtain ⟨L, hL⟩ : ∃ L, eb.length = L := ⟨_, rfl⟩
            rw [hL] at ho1' hcap
            rw [hL]
            have heb' := Lib.hid heb
            have hL' := Lib.hid hL
            clear heb hL
            by_cases hlen : L = 1
            case neg =>
              have t4 : ((L : Int) != 1) = true := by rw [bne_iff_ne]; omega
              have hlen' := Lib.hid hlen
              clear hlen
              clear q1 q2 hq t3 h1 h5 h4 t2
              go_wp2_with fail
              go_roundw
              case rel =>
                refine ⟨1 + 1, by omega, by omega, by go_num, Lib.hid ?_, hx'⟩
                intro i a1 a2 a3
                by_cases hi : i < 1
                · exact hN.out i a1 hi a3
                · obtain rfl : i = 1 := by omega
                  exact own_len (by omega) (by omega) (by rw [HL.out]; exact a3) (by rw [HV.out, heb'.out, hL'.out]; exact hlen'.out)
              case measure => simp [intOf]
            case pos =>
              have t4 : ((L : Int) != 1) = false := by rw [bne_eq_false_iff_eq]; omega
              subst hlen
              go_wp2_with fail
              refine (refchar_any z w1).mono ?_
              rintro e w2 ⟨rfl, rfl⟩
              cases hch : Utf.Char (z : Nat)
              · go_wp2_with fail
                go_roundw
                case rel =>
                  refine ⟨1 + 1, by omega, by omega, by go_num, Lib.hid ?_, hx'⟩
                  intro i a1 a2 a3
                  by_cases hi : i < 1
                  · exact hN.out i a1 hi a3
                  · obtain rfl : i = 1 := by omega
                    exact own_char (by omega) (by omega) (by rw [HL.out]; exact a3) (by rw [HV.out]; exact hch)
                case measure => simp [intOf]
              · go_wp2_with fail
                go_loopw [10, 11] (fun s kk wr' => ∃ (q p : Nat), q ≤ 1 ∧ kk = .int .i64 (q : Nat) ∧ s = .bool (decide (eb.take q = (l.drop k).take q)) ∧ wr' = w2.drewN p) (fun s kk _ => 5 - (intOf kk).toNat)
                case atStart => exact ⟨0, 0, by omega, rfl, by simp, rfl⟩
                case round =>
                  obtain ⟨q, p, q2, rfl, rfl, rfl⟩ := hrel
                  obtain ⟨S, hS⟩ : ∃ S, decide (eb.take q = (l.drop k).take q) = S := ⟨_, rfl⟩
                  rw [hS]
                  have hS' := Lib.hid hS
                  clear hS
                  by_cases hq : q < 1
                  · have t3 : decide ((q : Int) < 1) = true := by simp; omega
                    obtain ⟨b', off', y, hy1, _, hy, hy8, hyc⟩ := hwx.at_ (k := k + q) (by omega)
                    simp only [Option.some.injEq, Addr.mk.injEq, and_true] at hy1
                    obtain ⟨rfl, rfl⟩ := hy1
                    obtain ⟨b2, off2, u, rfl, _, hu, hu8, huc⟩ := ho1'.out.bs.at_ (k := q) (by omega)
                    have HY := Lib.hid hy
                    have HU := Lib.hid hu
                    clear hy hu
                    have kq : (k : Int) + (q : Int) < (n : Int) := by omega
                    cases S
                    · go_wp2_with fail
                      go_quiet (fail)
                      go_wp2_with fail
                      go_roundw
                      case rel =>
                        refine ⟨q + 1, _, by omega, by go_num, val_bool ?_, rfl⟩
                        rw [take_step HU.out (by rw [List.getElem?_drop]; exact HY.out) hS'.out]
                        rfl
                      case measure => simp [intOf]; omega
                    · go_wp2_with fail
                      go_quiet (fail)
                      go_wp2_with fail
                      go_roundw
                      case rel =>
                        refine ⟨q + 1, _, by omega, by go_num, val_bool ?_, rfl⟩
                        rw [take_step HU.out (by rw [List.getElem?_drop]; exact HY.out) hS'.out, ← toNat_eq]
                        rfl
                      case measure => simp [intOf]; omega
                  · have t3 : decide ((q : Int) < 1) = false := by simp; omega
                    obtain rfl : q = 1 := by omega
                    have ho : own 1 l k = S := by
                      rw [own_iff (by omega) (by omega) (by rw [HL.out]; exact hjn), HV.out, hch, heb'.out, Bool.and_true, ← hS'.out, List.take_of_length_le (l := eb) (by rw [hL'.out]; omega)]
                    cases S
                    · go_wp2_with fail
                      go_roundw
                      case rel =>
                        refine ⟨1 + 1, by omega, by omega, by go_num, Lib.hid ?_, Lib.hid (hx'.out.trans (Joins.below_draws _ _ _))⟩
                        intro i a1 a2 a3
                        by_cases hi : i < 1
                        · exact hN.out i a1 hi a3
                        · obtain rfl : i = 1 := by omega
                          exact ho
                      case measure => simp [intOf]
                    · have hhit : nx l k = (z, 1) := by
                        rw [← HV.out]
                        exact nx_hit (by omega) (by omega) (by rw [HL.out]; exact hjn) (fun i a1 a2 => hN.out i a1 a2 (by omega)) ho
                      rw [hP'.out] at hhit
                      subst hhit
                      go_wp2_with fail
                      go_ret2
                      exact ⟨rfl, hx'.out.trans (Joins.below_draws _ _ _)⟩

      case inr.inl =>
        have kn : (k : Int) < (n : Int) := by omega
        go_wp2_with fail
        go_loop [7, 8] (fun v kk => ∃ q : Nat, 1 ≤ q ∧ q ≤ 2 ∧ kk = .int .i64 (q : Nat) ∧ v = .int .i64 (acc M l k (q - 1) : Nat)) (fun v kk => 5 - (intOf kk).toNat)
        case atStart => exact ⟨1, by omega, by omega, rfl, val_int (by rw [← HM.out]; simp [acc, mask])⟩
        case round =>
          obtain ⟨q, q1, q2, rfl, rfl⟩ := hrel
          have za := acc_lt M l k hM0 (q - 1) (by omega)
          obtain ⟨z, hz⟩ : ∃ z, acc M l k (q - 1) = z := ⟨_, rfl⟩
          rw [hz] at za
          rw [hz]
          have hz' := Lib.hid hz
          clear hz
          by_cases hq : q < 2
          · obtain ⟨b', off', y, hy1, _, hy, hy8, hyc⟩ := hw0.at_ (k := k + q) (by omega)
            simp only [Option.some.injEq, Addr.mk.injEq, and_true] at hy1
            obtain ⟨rfl, rfl⟩ := hy1
            have HY : Hid (bt l (k + q) = y.toNat) := bt_of hy
            clear hy
            obtain ⟨Y, hY⟩ : ∃ Y : Nat, y.toNat = Y := ⟨_, rfl⟩
            rw [hY] at HY hy8 hyc
            clear hY
            clear y
            have t3 : decide ((q : Int) < 2) = true := by simp; omega
            have kq : (k : Int) + (q : Int) < (n : Int) := by omega
            go_wp2_with fail
            go_round
            case rel =>
              refine ⟨q + 1, by omega, by omega, by go_num, ?_⟩
              obtain ⟨q', rfl⟩ : ∃ q', q = q' + 1 := ⟨q - 1, by omega⟩
              have e1 := hz'.out
              have e2 := HY.out
              simp only [Nat.add_sub_cancel] at e1
              refine val_int ?_
              simp only [Nat.add_sub_cancel, acc, e1, e2]
              omega
            case measure => simp [intOf]; omega
          · have t3 : decide ((q : Int) < 2) = false := by simp; omega
            obtain rfl : q = 2 := by omega
            have hv : vl 2 l k = z := by
              rw [← hz'.out, ← acc_val l k (by omega) (by omega), HX.out, HM.out]
            have zl : z < 2147483648 := by rw [← hv]; exact vl_lt l k (by omega) (by omega)
            have HV := Lib.hid hv
            clear hv
            go_wp2_with fail
            refine (refEncode_any z (by omega) (by omega) wr).mono ?_
            rintro e w1 ⟨A1, c1, rfl, ho1, hb1⟩
            have hwx := hw0.below hb1
            have hx := hb.out.trans (hb1.mono hb.out.size)
            have hx' := Lib.hid hx
            clear hx
            have hcap := Rd.le ho1.bs
            have hcap2 := Rd.max ho1.bs
            have ho1' := Lib.hid ho1
            have hb1' := Lib.hid hb1
            clear ho1 hb1
            obtain ⟨eb, heb⟩ : ∃ eb, encB (z : Nat) = eb := ⟨_, rfl⟩
            rw [heb] at ho1' hcap
            rw [heb]
            obtain ⟨L, hL⟩ : ∃ L, eb.length = L := ⟨_, rfl⟩
            rw [hL] at ho1' hcap
            rw [hL]
            have heb' := Lib.hid heb
            have hL' := Lib.hid hL
            clear heb hL
            by_cases hlen : L = 2
            case neg =>
              have t4 : ((L : Int) != 2) = true := by rw [bne_iff_ne]; omega
              have hlen' := Lib.hid hlen
              clear hlen
              clear q1 q2 hq t3 h1 h5 h4 t2
              go_wp2_with fail
              go_roundw
              case rel =>
                refine ⟨2 + 1, by omega, by omega, by go_num, Lib.hid ?_, hx'⟩
                intro i a1 a2 a3
                by_cases hi : i < 2
                · exact hN.out i a1 hi a3
                · obtain rfl : i = 2 := by omega
                  exact own_len (by omega) (by omega) (by rw [HL.out]; exact a3) (by rw [HV.out, heb'.out, hL'.out]; exact hlen'.out)
              case measure => simp [intOf]
            case pos =>
              have t4 : ((L : Int) != 2) = false := by rw [bne_eq_false_iff_eq]; omega
              subst hlen
              go_wp2_with fail
              refine (refchar_any z w1).mono ?_
              rintro e w2 ⟨rfl, rfl⟩
              cases hch : Utf.Char (z : Nat)
              · go_wp2_with fail
                go_roundw
                case rel =>
                  refine ⟨2 + 1, by omega, by omega, by go_num, Lib.hid ?_, hx'⟩
                  intro i a1 a2 a3
                  by_cases hi : i < 2
                  · exact hN.out i a1 hi a3
                  · obtain rfl : i = 2 := by omega
                    exact own_char (by omega) (by omega) (by rw [HL.out]; exact a3) (by rw [HV.out]; exact hch)
                case measure => simp [intOf]
              · go_wp2_with fail
                go_loopw [10, 11] (fun s kk wr' => ∃ (q p : Nat), q ≤ 2 ∧ kk = .int .i64 (q : Nat) ∧ s = .bool (decide (eb.take q = (l.drop k).take q)) ∧ wr' = w2.drewN p) (fun s kk _ => 5 - (intOf kk).toNat)
                case atStart => exact ⟨0, 0, by omega, rfl, by simp, rfl⟩
                case round =>
                  obtain ⟨q, p, q2, rfl, rfl, rfl⟩ := hrel
                  obtain ⟨S, hS⟩ : ∃ S, decide (eb.take q = (l.drop k).take q) = S := ⟨_, rfl⟩
                  rw [hS]
                  have hS' := Lib.hid hS
                  clear hS
                  by_cases hq : q < 2
                  · have t3 : decide ((q : Int) < 2) = true := by simp; omega
                    obtain ⟨b', off', y, hy1, _, hy, hy8, hyc⟩ := hwx.at_ (k := k + q) (by omega)
                    simp only [Option.some.injEq, Addr.mk.injEq, and_true] at hy1
                    obtain ⟨rfl, rfl⟩ := hy1
                    obtain ⟨b2, off2, u, rfl, _, hu, hu8, huc⟩ := ho1'.out.bs.at_ (k := q) (by omega)
                    have HY := Lib.hid hy
                    have HU := Lib.hid hu
                    clear hy hu
                    have kq : (k : Int) + (q : Int) < (n : Int) := by omega
                    cases S
                    · go_wp2_with fail
                      go_quiet (fail)
                      go_wp2_with fail
                      go_roundw
                      case rel =>
                        refine ⟨q + 1, _, by omega, by go_num, val_bool ?_, rfl⟩
                        rw [take_step HU.out (by rw [List.getElem?_drop]; exact HY.out) hS'.out]
                        rfl
                      case measure => simp [intOf]; omega
                    · go_wp2_with fail
                      go_quiet (fail)
                      go_wp2_with fail
                      go_roundw
                      case rel =>
                        refine ⟨q + 1, _, by omega, by go_num, val_bool ?_, rfl⟩
                        rw [take_step HU.out (by rw [List.getElem?_drop]; exact HY.out) hS'.out, ← toNat_eq]
                        rfl
                      case measure => simp [intOf]; omega
                  · have t3 : decide ((q : Int) < 2) = false := by simp; omega
                    obtain rfl : q = 2 := by omega
                    have ho : own 2 l k = S := by
                      rw [own_iff (by omega) (by omega) (by rw [HL.out]; exact hjn), HV.out, hch, heb'.out, Bool.and_true, ← hS'.out, List.take_of_length_le (l := eb) (by rw [hL'.out]; omega)]
                    cases S
                    · go_wp2_with fail
                      go_roundw
                      case rel =>
                        refine ⟨2 + 1, by omega, by omega, by go_num, Lib.hid ?_, Lib.hid (hx'.out.trans (Joins.below_draws _ _ _))⟩
                        intro i a1 a2 a3
                        by_cases hi : i < 2
                        · exact hN.out i a1 hi a3
                        · obtain rfl : i = 2 := by omega
                          exact ho
                      case measure => simp [intOf]
                    · have hhit : nx l k = (z, 2) := by
                        rw [← HV.out]
                        exact nx_hit (by omega) (by omega) (by rw [HL.out]; exact hjn) (fun i a1 a2 => hN.out i a1 a2 (by omega)) ho
                      rw [hP'.out] at hhit
                      subst hhit
                      go_wp2_with fail
                      go_ret2
                      exact ⟨rfl, hx'.out.trans (Joins.below_draws _ _ _)⟩

      case inr.inr.inl =>
        have kn : (k : Int) < (n : Int) := by omega
        go_wp2_with fail
        go_loop [7, 8] (fun v kk => ∃ q : Nat, 1 ≤ q ∧ q ≤ 3 ∧ kk = .int .i64 (q : Nat) ∧ v = .int .i64 (acc M l k (q - 1) : Nat)) (fun v kk => 5 - (intOf kk).toNat)
        case atStart => exact ⟨1, by omega, by omega, rfl, val_int (by rw [← HM.out]; simp [acc, mask])⟩
        case round =>
          obtain ⟨q, q1, q2, rfl, rfl⟩ := hrel
          have za := acc_lt M l k hM0 (q - 1) (by omega)
          obtain ⟨z, hz⟩ : ∃ z, acc M l k (q - 1) = z := ⟨_, rfl⟩
          rw [hz] at za
          rw [hz]
          have hz' := Lib.hid hz
          clear hz
          by_cases hq : q < 3
          · obtain ⟨b', off', y, hy1, _, hy, hy8, hyc⟩ := hw0.at_ (k := k + q) (by omega)
            simp only [Option.some.injEq, Addr.mk.injEq, and_true] at hy1
            obtain ⟨rfl, rfl⟩ := hy1
            have HY : Hid (bt l (k + q) = y.toNat) := bt_of hy
            clear hy
            obtain ⟨Y, hY⟩ : ∃ Y : Nat, y.toNat = Y := ⟨_, rfl⟩
            rw [hY] at HY hy8 hyc
            clear hY
            clear y
            have t3 : decide ((q : Int) < 3) = true := by simp; omega
            have kq : (k : Int) + (q : Int) < (n : Int) := by omega
            go_wp2_with fail
            go_round
            case rel =>
              refine ⟨q + 1, by omega, by omega, by go_num, ?_⟩
              obtain ⟨q', rfl⟩ : ∃ q', q = q' + 1 := ⟨q - 1, by omega⟩
              have e1 := hz'.out
              have e2 := HY.out
              simp only [Nat.add_sub_cancel] at e1
              refine val_int ?_
              simp only [Nat.add_sub_cancel, acc, e1, e2]
              omega
            case measure => simp [intOf]; omega
          · have t3 : decide ((q : Int) < 3) = false := by simp; omega
            obtain rfl : q = 3 := by omega
            have hv : vl 3 l k = z := by
              rw [← hz'.out, ← acc_val l k (by omega) (by omega), HX.out, HM.out]
            have zl : z < 2147483648 := by rw [← hv]; exact vl_lt l k (by omega) (by omega)
            have HV := Lib.hid hv
            clear hv
            go_wp2_with fail
            refine (refEncode_any z (by omega) (by omega) wr).mono ?_
            rintro e w1 ⟨A1, c1, rfl, ho1, hb1⟩
            have hwx := hw0.below hb1
            have hx := hb.out.trans (hb1.mono hb.out.size)
            have hx' := Lib.hid hx
            clear hx
            have hcap := Rd.le ho1.bs
            have hcap2 := Rd.max ho1.bs
            have ho1' := Lib.hid ho1
            have hb1' := Lib.hid hb1
            clear ho1 hb1
            obtain ⟨eb, heb⟩ : ∃ eb, encB (z : Nat) = eb := ⟨_, rfl⟩
            rw [heb] at ho1' hcap
            rw [heb]
            obtain ⟨L, hL⟩ : ∃ L, eb.length = L := ⟨_, rfl⟩
            rw [hL] at ho1' hcap
            rw [hL]
            have heb' := Lib.hid heb
            have hL' := Lib.hid hL
            clear heb hL
            by_cases hlen : L = 3
            case neg =>
              have t4 : ((L : Int) != 3) = true := by rw [bne_iff_ne]; omega
              have hlen' := Lib.hid hlen
              clear hlen
              clear q1 q2 hq t3 h1 h5 h4 t2
              go_wp2_with fail
              go_roundw
              case rel =>
                refine ⟨3 + 1, by omega, by omega, by go_num, Lib.hid ?_, hx'⟩
                intro i a1 a2 a3
                by_cases hi : i < 3
                · exact hN.out i a1 hi a3
                · obtain rfl : i = 3 := by omega
                  exact own_len (by omega) (by omega) (by rw [HL.out]; exact a3) (by rw [HV.out, heb'.out, hL'.out]; exact hlen'.out)
              case measure => simp [intOf]
            case pos =>
              have t4 : ((L : Int) != 3) = false := by rw [bne_eq_false_iff_eq]; omega
              subst hlen
              go_wp2_with fail
              refine (refchar_any z w1).mono ?_
              rintro e w2 ⟨rfl, rfl⟩
              cases hch : Utf.Char (z : Nat)
              · go_wp2_with fail
                go_roundw
                case rel =>
                  refine ⟨3 + 1, by omega, by omega, by go_num, Lib.hid ?_, hx'⟩
                  intro i a1 a2 a3
                  by_cases hi : i < 3
                  · exact hN.out i a1 hi a3
                  · obtain rfl : i = 3 := by omega
                    exact own_char (by omega) (by omega) (by rw [HL.out]; exact a3) (by rw [HV.out]; exact hch)
                case measure => simp [intOf]
              · go_wp2_with fail
                go_loopw [10, 11] (fun s kk wr' => ∃ (q p : Nat), q ≤ 3 ∧ kk = .int .i64 (q : Nat) ∧ s = .bool (decide (eb.take q = (l.drop k).take q)) ∧ wr' = w2.drewN p) (fun s kk _ => 5 - (intOf kk).toNat)
                case atStart => exact ⟨0, 0, by omega, rfl, by simp, rfl⟩
                case round =>
                  obtain ⟨q, p, q2, rfl, rfl, rfl⟩ := hrel
                  obtain ⟨S, hS⟩ : ∃ S, decide (eb.take q = (l.drop k).take q) = S := ⟨_, rfl⟩
                  rw [hS]
                  have hS' := Lib.hid hS
                  clear hS
                  by_cases hq : q < 3
                  · have t3 : decide ((q : Int) < 3) = true := by simp; omega
                    obtain ⟨b', off', y, hy1, _, hy, hy8, hyc⟩ := hwx.at_ (k := k + q) (by omega)
                    simp only [Option.some.injEq, Addr.mk.injEq, and_true] at hy1
                    obtain ⟨rfl, rfl⟩ := hy1
                    obtain ⟨b2, off2, u, rfl, _, hu, hu8, huc⟩ := ho1'.out.bs.at_ (k := q) (by omega)
                    have HY := Lib.hid hy
                    have HU := Lib.hid hu
                    clear hy hu
                    have kq : (k : Int) + (q : Int) < (n : Int) := by omega
                    cases S
                    · go_wp2_with fail
                      go_quiet (fail)
                      go_wp2_with fail
                      go_roundw
                      case rel =>
                        refine ⟨q + 1, _, by omega, by go_num, val_bool ?_, rfl⟩
                        rw [take_step HU.out (by rw [List.getElem?_drop]; exact HY.out) hS'.out]
                        rfl
                      case measure => simp [intOf]; omega
                    · go_wp2_with fail
                      go_quiet (fail)
                      go_wp2_with fail
                      go_roundw
                      case rel =>
                        refine ⟨q + 1, _, by omega, by go_num, val_bool ?_, rfl⟩
                        rw [take_step HU.out (by rw [List.getElem?_drop]; exact HY.out) hS'.out, ← toNat_eq]
                        rfl
                      case measure => simp [intOf]; omega
                  · have t3 : decide ((q : Int) < 3) = false := by simp; omega
                    obtain rfl : q = 3 := by omega
                    have ho : own 3 l k = S := by
                      rw [own_iff (by omega) (by omega) (by rw [HL.out]; exact hjn), HV.out, hch, heb'.out, Bool.and_true, ← hS'.out, List.take_of_length_le (l := eb) (by rw [hL'.out]; omega)]
                    cases S
                    · go_wp2_with fail
                      go_roundw
                      case rel =>
                        refine ⟨3 + 1, by omega, by omega, by go_num, Lib.hid ?_, Lib.hid (hx'.out.trans (Joins.below_draws _ _ _))⟩
                        intro i a1 a2 a3
                        by_cases hi : i < 3
                        · exact hN.out i a1 hi a3
                        · obtain rfl : i = 3 := by omega
                          exact ho
                      case measure => simp [intOf]
                    · have hhit : nx l k = (z, 3) := by
                        rw [← HV.out]
                        exact nx_hit (by omega) (by omega) (by rw [HL.out]; exact hjn) (fun i a1 a2 => hN.out i a1 a2 (by omega)) ho
                      rw [hP'.out] at hhit
                      subst hhit
                      go_wp2_with fail
                      go_ret2
                      exact ⟨rfl, hx'.out.trans (Joins.below_draws _ _ _)⟩

      case inr.inr.inr =>
        have kn : (k : Int) < (n : Int) := by omega
        go_wp2_with fail
        go_loop [7, 8] (fun v kk => ∃ q : Nat, 1 ≤ q ∧ q ≤ 4 ∧ kk = .int .i64 (q : Nat) ∧ v = .int .i64 (acc M l k (q - 1) : Nat)) (fun v kk => 5 - (intOf kk).toNat)
        case atStart => exact ⟨1, by omega, by omega, rfl, val_int (by rw [← HM.out]; simp [acc, mask])⟩
        case round =>
          obtain ⟨q, q1, q2, rfl, rfl⟩ := hrel
          have za := acc_lt M l k hM0 (q - 1) (by omega)
          obtain ⟨z, hz⟩ : ∃ z, acc M l k (q - 1) = z := ⟨_, rfl⟩
          rw [hz] at za
          rw [hz]
          have hz' := Lib.hid hz
          clear hz
          by_cases hq : q < 4
          · obtain ⟨b', off', y, hy1, _, hy, hy8, hyc⟩ := hw0.at_ (k := k + q) (by omega)
            simp only [Option.some.injEq, Addr.mk.injEq, and_true] at hy1
            obtain ⟨rfl, rfl⟩ := hy1
            have HY : Hid (bt l (k + q) = y.toNat) := bt_of hy
            clear hy
            obtain ⟨Y, hY⟩ : ∃ Y : Nat, y.toNat = Y := ⟨_, rfl⟩
            rw [hY] at HY hy8 hyc
            clear hY
            clear y
            have t3 : decide ((q : Int) < 4) = true := by simp; omega
            have kq : (k : Int) + (q : Int) < (n : Int) := by omega
            go_wp2_with fail
            go_round
            case rel =>
              refine ⟨q + 1, by omega, by omega, by go_num, ?_⟩
              obtain ⟨q', rfl⟩ : ∃ q', q = q' + 1 := ⟨q - 1, by omega⟩
              have e1 := hz'.out
              have e2 := HY.out
              simp only [Nat.add_sub_cancel] at e1
              refine val_int ?_
              simp only [Nat.add_sub_cancel, acc, e1, e2]
              omega
            case measure => simp [intOf]; omega
          · have t3 : decide ((q : Int) < 4) = false := by simp; omega
            obtain rfl : q = 4 := by omega
            have hv : vl 4 l k = z := by
              rw [← hz'.out, ← acc_val l k (by omega) (by omega), HX.out, HM.out]
            have zl : z < 2147483648 := by rw [← hv]; exact vl_lt l k (by omega) (by omega)
            have HV := Lib.hid hv
            clear hv
            go_wp2_with fail
            refine (refEncode_any z (by omega) (by omega) wr).mono ?_
            rintro e w1 ⟨A1, c1, rfl, ho1, hb1⟩
            have hwx := hw0.below hb1
            have hx := hb.out.trans (hb1.mono hb.out.size)
            have hx' := Lib.hid hx
            clear hx
            have hcap := Rd.le ho1.bs
            have hcap2 := Rd.max ho1.bs
            have ho1' := Lib.hid ho1
            have hb1' := Lib.hid hb1
            clear ho1 hb1
            obtain ⟨eb, heb⟩ : ∃ eb, encB (z : Nat) = eb := ⟨_, rfl⟩
            rw [heb] at ho1' hcap
            rw [heb]
            obtain ⟨L, hL⟩ : ∃ L, eb.length = L := ⟨_, rfl⟩
            rw [hL] at ho1' hcap
            rw [hL]
            have heb' := Lib.hid heb
            have hL' := Lib.hid hL
            clear heb hL
            by_cases hlen : L = 4
            case neg =>
              have t4 : ((L : Int) != 4) = true := by rw [bne_iff_ne]; omega
              have hlen' := Lib.hid hlen
              clear hlen
              clear q1 q2 hq t3 h1 h5 h4 t2
              go_wp2_with fail
              go_roundw
              case rel =>
                refine ⟨4 + 1, by omega, by omega, by go_num, Lib.hid ?_, hx'⟩
                intro i a1 a2 a3
                by_cases hi : i < 4
                · exact hN.out i a1 hi a3
                · obtain rfl : i = 4 := by omega
                  exact own_len (by omega) (by omega) (by rw [HL.out]; exact a3) (by rw [HV.out, heb'.out, hL'.out]; exact hlen'.out)
              case measure => simp [intOf]
            case pos =>
              have t4 : ((L : Int) != 4) = false := by rw [bne_eq_false_iff_eq]; omega
              subst hlen
              go_wp2_with fail
              refine (refchar_any z w1).mono ?_
              rintro e w2 ⟨rfl, rfl⟩
              cases hch : Utf.Char (z : Nat)
              · go_wp2_with fail
                go_roundw
                case rel =>
                  refine ⟨4 + 1, by omega, by omega, by go_num, Lib.hid ?_, hx'⟩
                  intro i a1 a2 a3
                  by_cases hi : i < 4
                  · exact hN.out i a1 hi a3
                  · obtain rfl : i = 4 := by omega
                    exact own_char (by omega) (by omega) (by rw [HL.out]; exact a3) (by rw [HV.out]; exact hch)
                case measure => simp [intOf]
              · go_wp2_with fail
                go_loopw [10, 11] (fun s kk wr' => ∃ (q p : Nat), q ≤ 4 ∧ kk = .int .i64 (q : Nat) ∧ s = .bool (decide (eb.take q = (l.drop k).take q)) ∧ wr' = w2.drewN p) (fun s kk _ => 5 - (intOf kk).toNat)
                case atStart => exact ⟨0, 0, by omega, rfl, by simp, rfl⟩
                case round =>
                  obtain ⟨q, p, q2, rfl, rfl, rfl⟩ := hrel
                  obtain ⟨S, hS⟩ : ∃ S, decide (eb.take q = (l.drop k).take q) = S := ⟨_, rfl⟩
                  rw [hS]
                  have hS' := Lib.hid hS
                  clear hS
                  by_cases hq : q < 4
                  · have t3 : decide ((q : Int) < 4) = true := by simp; omega
                    obtain ⟨b', off', y, hy1, _, hy, hy8, hyc⟩ := hwx.at_ (k := k + q) (by omega)
                    simp only [Option.some.injEq, Addr.mk.injEq, and_true] at hy1
                    obtain ⟨rfl, rfl⟩ := hy1
                    obtain ⟨b2, off2, u, rfl, _, hu, hu8, huc⟩ := ho1'.out.bs.at_ (k := q) (by omega)
                    have HY := Lib.hid hy
                    have HU := Lib.hid hu
                    clear hy hu
                    have kq : (k : Int) + (q : Int) < (n : Int) := by omega
                    cases S
                    · go_wp2_with fail
                      go_quiet (fail)
                      go_wp2_with fail
                      go_roundw
                      case rel =>
                        refine ⟨q + 1, _, by omega, by go_num, val_bool ?_, rfl⟩
                        rw [take_step HU.out (by rw [List.getElem?_drop]; exact HY.out) hS'.out]
                        rfl
                      case measure => simp [intOf]; omega
                    · go_wp2_with fail
                      go_quiet (fail)
                      go_wp2_with fail
                      go_roundw
                      case rel =>
                        refine ⟨q + 1, _, by omega, by go_num, val_bool ?_, rfl⟩
                        rw [take_step HU.out (by rw [List.getElem?_drop]; exact HY.out) hS'.out, ← toNat_eq]
                        rfl
                      case measure => simp [intOf]; omega
                  · have t3 : decide ((q : Int) < 4) = false := by simp; omega
                    obtain rfl : q = 4 := by omega
                    have ho : own 4 l k = S := by
                      rw [own_iff (by omega) (by omega) (by rw [HL.out]; exact hjn), HV.out, hch, heb'.out, Bool.and_true, ← hS'.out, List.take_of_length_le (l := eb) (by rw [hL'.out]; omega)]
                    cases S
                    · go_wp2_with fail
                      go_roundw
                      case rel =>
                        refine ⟨4 + 1, by omega, by omega, by go_num, Lib.hid ?_, Lib.hid (hx'.out.trans (Joins.below_draws _ _ _))⟩
                        intro i a1 a2 a3
                        by_cases hi : i < 4
                        · exact hN.out i a1 hi a3
                        · obtain rfl : i = 4 := by omega
                          exact ho
                      case measure => simp [intOf]
                    · have hhit : nx l k = (z, 4) := by
                        rw [← HV.out]
                        exact nx_hit (by omega) (by omega) (by rw [HL.out]; exact hjn) (fun i a1 a2 => hN.out i a1 a2 (by omega)) ho
                      rw [hP'.out] at hhit
                      subst hhit
                      go_wp2_with fail
                      go_ret2
                      exact ⟨rfl, hx'.out.trans (Joins.below_draws _ _ _)⟩
end Go.Proofs.YtcecmbbhjaeodaaGreatDoor.UtfW
