/- The law XlexPlaces, plainly. No program stands here. -/
import Derived.Test.YtdnfnkicmfkkmaaGreatDoorVUtfEnc
import Derived.Deep.DeepCutAuto
import Derived.Deep.QuietTactic
import Derived.BigQuiet
import Derived.Lib.SmallJoins
import Derived.Shelf.Lay
import Derived.Ground.NamesProg
import Derived.Shelf.Spec.DecodeRune
import Derived.Deep.LoopGhost
import Derived.Lib.ValidAsc
import Derived.Lib.ConvBytes
import Derived.Lib.Bytealg
import Derived.Lib.SlTrimSet
import Derived.Lib.ReplaceLaws
set_option linter.unusedVariables false
set_option linter.unusedSimpArgs false
section
namespace Go.Proofs.YtdnfnkicmfkkmaaGreatDoor.UtfW
open Go.RowKit
def bt (l : List UInt8) (i : Nat) : Nat := (l[i]?.getD 0).toNat
theorem bt_of {l : List UInt8} {i : Nat} {x : UInt8} (h : l[i]? = some x) : bt l i = x.toNat := by simp [bt, h]
theorem bt_lt (l : List UInt8) (i : Nat) : bt l i < 256 := (l[i]?.getD 0).toNat_lt
def nx (l : List UInt8) (k : Nat) : Nat × Nat := if k < l.length then Utf.nxt (l.length - k) (bt l k) (bt l (k + 1)) (bt l (k + 2)) (bt l (k + 3)) else (0, 0)
def own (j : Nat) (l : List UInt8) (k : Nat) : Bool := Utf.ownB j (bt l k) (bt l (k + 1)) (bt l (k + 2)) (bt l (k + 3))
def vl (j : Nat) (l : List UInt8) (k : Nat) : Nat := Utf.val j (bt l k) (bt l (k + 1)) (bt l (k + 2)) (bt l (k + 3))
theorem nx_hit {l : List UInt8} {k j : Nat} (h1 : 1 <= j) (h4 : j <= 4) (hj : k + j <= l.length) (hn : ∀ i, 1 <= i -> i < j -> own i l k = false) (ho : own j l k = true) : nx l k = (vl j l k, j) := by
 unfold nx;rw [if_pos (by omega), <- Utf.ref_nxt _ _ _ _ _ (by omega)];unfold Utf.ref;unfold own at hn ho;rcases (show j = 1 \/ j = 2 \/ j = 3 \/ j = 4 from by omega) with rfl | rfl | rfl | rfl
 ·rw [if_pos ⟨by omega, ho⟩]; rfl
 ·rw [if_neg (by rw [hn 1 (by omega) (by omega)]; simp), if_pos ⟨by omega, ho⟩]; rfl
 ·rw [if_neg (by rw [hn 1 (by omega) (by omega)]; simp), if_neg (by rw [hn 2 (by omega) (by omega)]; simp), if_pos ⟨by omega, ho⟩]; rfl
 ·rw [if_neg (by rw [hn 1 (by omega) (by omega)]; simp), if_neg (by rw [hn 2 (by omega) (by omega)]; simp), if_neg (by rw [hn 3 (by omega) (by omega)]; simp), if_pos ⟨by omega, ho⟩]; rfl
theorem nx_miss {l : List UInt8} {k : Nat} (hn : ∀ i, 1 <= i -> i <= 4 -> k + i <= l.length -> own i l k = false) : nx l k = (0, 0) := by
 unfold nx
 split
 ·rename_i h
  rw [<- Utf.ref_nxt _ _ _ _ _ (by omega)];unfold Utf.ref;unfold own at hn
  have key : ∀ i, 1 <= i -> i <= 4 -> ¬ (i <= l.length - k /\ Utf.ownB i (bt l k) (bt l (k + 1)) (bt l (k + 2)) (bt l (k + 3)) = true) := by
   intro i h1 h4 ⟨h5, h6⟩;rw [hn i h1 h4 (by omega)] at h6;exact absurd h6 (by simp)
  rw [if_neg (key 1 (by omega) (by omega)), if_neg (key 2 (by omega) (by omega)), if_neg (key 3 (by omega) (by omega)), if_neg (key 4 (by omega) (by omega))]
 ·rfl
def acc (M : Nat) (l : List UInt8) (k : Nat) : Nat -> Nat
 | 0 => M
 | i + 1 => acc M l k i * 64 + bt l (k + (i + 1)) % 64
theorem acc_lt (M : Nat) (l : List UInt8) (k : Nat) (hM : M < 256) : ∀ i, i <= 3 -> acc M l k i < 67108864
 | 0, _ => by simp only [acc]; omega
 | 1, _ => by simp only [acc]; omega
 | 2, _ => by simp only [acc]; omega
 | 3, _ => by simp only [acc]; omega
 | i + 4, h => by omega
def mask (j x : Nat) : Nat := if j = 1 then x else if j = 2 then x % 32 else if j = 3 then x % 16 else x % 8
theorem acc_val {j : Nat} (l : List UInt8) (k : Nat) (h1 : 1 <= j) (h4 : j <= 4) : acc (mask j (bt l k)) l k (j - 1) = vl j l k := by
 rcases (show j = 1 \/ j = 2 \/ j = 3 \/ j = 4 from by omega) with rfl | rfl | rfl | rfl <;> rfl
theorem vl_lt {j : Nat} (l : List UInt8) (k : Nat) (h1 : 1 <= j) (h4 : j <= 4) : vl j l k < 2147483648 := by
 have := bt_lt l k;rw [<- acc_val l k h1 h4];have := acc_lt (mask j (bt l k)) l k (by unfold mask; split; omega; split; omega; split <;> omega) (j - 1) (by omega);omega
theorem enc_lt (v : Nat) : ∀ n ∈ Utf.enc v, n < 256 := by
 intro n hn;unfold Utf.enc at hn
 split at hn
 ·simp at hn
 split at hn
 ·simp at hn; omega
 split at hn
 ·simp at hn; omega
 split at hn
 ·simp at hn; omega
 ·simp at hn; omega
theorem encB_nat (v : Nat) : (encB v).map UInt8.toNat = Utf.enc v := by
 unfold encB;rw [if_neg (by omega), Int.toNat_natCast, List.map_map];have h := enc_lt v;generalize Utf.enc v = ns at h
 induction ns with
 | nil => rfl
 | cons a r ih =>
  have ha := h a (List.mem_cons_self ..);rw [List.map_cons, ih fun n hn => h n (List.mem_cons_of_mem _ hn)];simp only [Function.comp];rw [UInt8.toNat_ofNat']
  congr 1
  omega
theorem drop_bt {l : List UInt8} {k : Nat} (h : k < l.length) : ((l.drop k).map UInt8.toNat) = bt l k :: ((l.drop (k + 1)).map UInt8.toNat) := by
 rw [List.drop_eq_getElem_cons h, List.map_cons, bt_of (List.getElem?_eq_getElem h)]
theorem head_bt {l : List UInt8} {k j : Nat} (h1 : 1 <= j) (h4 : j <= 4) (hj : k + j <= l.length) : ((l.drop k).take j).map UInt8.toNat = [bt l k, bt l (k + 1), bt l (k + 2), bt l (k + 3)].take j := by
 rw [List.map_take];rcases (show j = 1 \/ j = 2 \/ j = 3 \/ j = 4 from by omega) with rfl | rfl | rfl | rfl
 ·rw [drop_bt (by omega)]; rfl
 ·rw [drop_bt (by omega), drop_bt (by omega)]; rfl
 ·rw [drop_bt (by omega), drop_bt (by omega), drop_bt (by omega)]; rfl
 ·rw [drop_bt (by omega), drop_bt (by omega), drop_bt (by omega), drop_bt (by omega)]; rfl
theorem map_toNat_inj {a b : List UInt8} (h : a.map UInt8.toNat = b.map UInt8.toNat) : a = b := by
 induction a generalizing b with
 | nil => cases b with
  | nil => rfl
  | cons y r => simp at h
 | cons x r ih => cases b with
  | nil => simp at h
  | cons y s =>
   simp only [List.map_cons, List.cons.injEq] at h;rw [ih h.2, UInt8.toNat_inj.1 h.1]
theorem own_iff {l : List UInt8} {k j : Nat} (h1 : 1 <= j) (h4 : j <= 4) (hj : k + j <= l.length) :
  own j l k = (decide (encB (vl j l k : Nat) = (l.drop k).take j) && Utf.Char (vl j l k : Nat)) := by
 unfold own Utf.ownB vl
 congr 1
 rw [decide_eq_decide, <- encB_nat, <- head_bt h1 h4 hj];exact ⟨map_toNat_inj, fun h => by rw [h]⟩
theorem own_len {l : List UInt8} {k j : Nat} (h1 : 1 <= j) (h4 : j <= 4) (hj : k + j <= l.length) (hne : (encB (vl j l k : Nat)).length ≠ j) : own j l k = false := by
 rw [own_iff h1 h4 hj, Bool.and_eq_false_iff];left;rw [decide_eq_false_iff_not];intro h;apply hne;rw [h, List.length_take, List.length_drop];omega
theorem own_char {l : List UInt8} {k j : Nat} (h1 : 1 <= j) (h4 : j <= 4) (hj : k + j <= l.length) (hc : Utf.Char (vl j l k : Nat) = false) : own j l k = false := by
 rw [own_iff h1 h4 hj, hc, Bool.and_false]
theorem take_step {a b : List UInt8} {q : Nat} {u y : UInt8} {S : Bool} (ha : a[q]? = some u) (hb : b[q]? = some y) (hS : decide (a.take q = b.take q) = S) : decide (a.take (q + 1) = b.take (q + 1)) = (S && decide (u = y)) := by
 rw [take_snoc ha, take_snoc hb];have hla := (List.getElem?_eq_some_iff.1 ha).1;have hlb := (List.getElem?_eq_some_iff.1 hb).1;rw [<- hS, Bool.eq_iff_iff, Bool.and_eq_true, decide_eq_true_eq, decide_eq_true_eq, decide_eq_true_eq];constructor
 ·intro h;have := List.append_inj h (by simp; omega);exact ⟨this.1, by simpa using this.2⟩
 ·rintro ⟨h1, h2⟩;rw [h1, h2]
theorem toNat_eq (u y : UInt8) : ((u.toNat : Int) == (y.toNat : Int)) = decide (u = y) := by
 rw [Bool.eq_iff_iff, beq_iff_eq, decide_eq_true_eq];exact ⟨fun h => UInt8.toNat_inj.1 (by omega), fun h => by rw [h]⟩
def nxV (p : Nat × Nat) : Ending := .returned (.tuple #[.int .i32 (p.1 : Nat), .int .i64 (p.2 : Nat)])
set_option maxHeartbeats 4000000 in
set_option maxRecDepth 100000 in
theorem refNext_in (A : Option Addr) (n c : Nat) (l : List UInt8) (k : Nat) (hk : k < n) (hsz : n <= 281474976710656) (w : World) (hBs : Bs w A n c l) :
  Calls Tryz.prog 127 #[.slice A n c, .int .i64 k] w fun e w' => e = nxV (nx l k) /\ Below w.heap.size w w' := by
 have hn := Rd.le hBs;have hm := Rd.max hBs;have HL : Hid (l.length = n) := hBs.len;have i0 : decide ((k : Int) < 0) = false := by simp
 have i1 : decide ((n : Int) <= (k : Int)) = false := by simp; omega
 have i2 : decide (n <= k) = false := by simp; omega
 obtain ⟨P, hP⟩ : ∃ P, nx l k = P := ⟨_, rfl⟩;rw [hP];have hP' := Hd hP;clear hP;obtain ⟨b, off, x0, rfl, hbl, hx0, hx8, hc0⟩ := hBs.at_ hk;have HX : Hid (bt l k = x0.toNat) := bt_of hx0;clear hx0;obtain ⟨X, hX⟩ : ∃ X : Nat, x0.toNat = X := ⟨_, rfl⟩;rw [hX] at HX hx8 hc0;clear hX;clear x0
 go_enter Tryz.func127, Tryz.ntmps127
 go_wp2_with fail
 go_loopw [6] (fun nn wr => ∃ j : Nat, 1 <= j /\ j <= 5 /\ nn = .int .i64 (j : Nat) /\ Hid (∀ i, 1 <= i -> i < j -> k + i <= n -> own i l k = false) /\ Hid (Below w.heap.size w wr)) (fun nn _ => 6 - (intOf nn).toNat)
 case atStart => exact ⟨1, by omega, by omega, rfl, Hd (by intro i h1 h2; omega), Hd (Below.refl _ _)⟩
 case round =>
  obtain ⟨j, h1, h5, rfl, hN, hb⟩ := hrel
  by_cases hj : j <= 4 /\ k + j <= n
  case neg =>
   have hj' := Hd hj;clear hj
   have hmiss : nx l k = (0, 0) := nx_miss fun i a1 a2 a3 => by
    by_cases h : i < j
    ·exact hN.out i a1 h (by have := HL.out; omega)
    ·have := hj'.out;have := HL.out;exfalso;omega
   rw [hP'.out] at hmiss;subst hmiss
   by_cases h4 : j <= 4
   ·have t1 : decide ((j : Int) <= 4) = true := by simp; omega
    have t2 : decide ((k : Int) + (j : Int) <= (n : Int)) = false := by have := hj'.out; simp; omega
    go_wp2_with fail
    go_ret2
    exact ⟨rfl, hb.out⟩
   ·have t1 : decide ((j : Int) <= 4) = false := by simp; omega
    go_wp2_with fail
    go_ret2
    exact ⟨rfl, hb.out⟩
  case pos =>
   obtain ⟨h4, hjn⟩ := hj;have t2 : decide ((k : Int) + (j : Int) <= (n : Int)) = true := by simp; omega
   have hw0 := hBs.below hb.out;have hc0r : wr.cell? ⟨b, off + k, none⟩ = some (.int .u8 (X : Int)) := by rw [hb.out.cell hbl]; exact hc0
   have hM0 : mask j X < 256 := by unfold mask; split; omega; split; omega; split <;> omega
   obtain ⟨M, hM⟩ : ∃ M, mask j X = M := ⟨_, rfl⟩;rw [hM] at hM0;have HM := Hd hM;clear hM;rcases (show j = 1 \/ j = 2 \/ j = 3 \/ j = 4 from by omega) with rfl | rfl | rfl | rfl
   case inl =>
    have kn : (k : Int) < (n : Int) := (by omega);go_wp2_with fail
    go_loop [7, 8] (fun v kk => ∃ q : Nat, 1 <= q /\ q <= 1 /\ kk = .int .i64 (q : Nat) /\ v = .int .i64 (acc M l k (q - 1) : Nat)) (fun v kk => 5 - (intOf kk).toNat)
    case atStart => exact ⟨1, by omega, by omega, rfl, val_int (by rw [<- HM.out]; simp [acc, mask])⟩
    case round =>
     obtain ⟨q, q1, q2, rfl, rfl⟩ := hrel;have za := acc_lt M l k hM0 (q - 1) (by omega);obtain ⟨z, hz⟩ : ∃ z, acc M l k (q - 1) = z := ⟨_, rfl⟩;rw [hz] at za;rw [hz];have hz' := Hd hz;clear hz
     by_cases hq : q < 1
     ·obtain ⟨b', off', y, hy1, _, hy, hy8, hyc⟩ := hw0.at_ (k := k + q) (by omega);simp only [Option.some.injEq, Addr.mk.injEq, and_true] at hy1;obtain ⟨rfl, rfl⟩ := hy1;have HY : Hid (bt l (k + q) = y.toNat) := bt_of hy;clear hy;obtain ⟨Y, hY⟩ : ∃ Y : Nat, y.toNat = Y := ⟨_, rfl⟩;rw [hY] at HY hy8 hyc;clear hY;clear y;have t3 : decide ((q : Int) < 1) = true := by simp; omega
      have kq : (k : Int) + (q : Int) < (n : Int) := (by omega);go_wp2_with fail
      go_round
      case rel =>
       refine ⟨q + 1, by omega, by omega, by go_num, ?_⟩;obtain ⟨q', rfl⟩ : ∃ q', q = q' + 1 := ⟨q - 1, by omega⟩;have e1 := hz'.out;have e2 := HY.out;simp only [Nat.add_sub_cancel] at e1;refine val_int ?_;simp only [Nat.add_sub_cancel, acc, e1, e2];omega
      case measure => simp [intOf]; omega
     ·have t3 : decide ((q : Int) < 1) = false := by simp; omega
      obtain rfl : q = 1 := by omega
      have hv : vl 1 l k = z := by
       rw [<- hz'.out, <- acc_val l k (by omega) (by omega), HX.out, HM.out]
      have zl : z < 2147483648 := by rw [<- hv]; exact vl_lt l k (by omega) (by omega)
      have HV := Hd hv;clear hv;go_wp2_with fail;refine (refEncode_any z (by omega) (by omega) wr).mono ?_;rintro e w1 ⟨A1, c1, rfl, ho1, hb1⟩;have hwx := hw0.below hb1;have hx := hb.out.trans (hb1.mono hb.out.size);have hx' := Hd hx;clear hx;have hcap := Rd.le ho1.bs;have hcap2 := Rd.max ho1.bs;have ho1' := Hd ho1;have hb1' := Hd hb1;clear ho1 hb1;obtain ⟨eb, heb⟩ : ∃ eb, encB (z : Nat) = eb := ⟨_, rfl⟩;rw [heb] at ho1' hcap;rw [heb];obtain ⟨L, hL⟩ : ∃ L, eb.length = L := ⟨_, rfl⟩;rw [hL] at ho1' hcap;rw [hL];have heb' := Hd heb;have hL' := Hd hL;clear heb hL
      by_cases hlen : L = 1
      case neg =>
       have t4 : ((L : Int) != 1) = true := by rw [bne_iff_ne]; omega
       have hlen' := Hd hlen;clear hlen;clear q1 q2 hq t3 h1 h5 h4 t2;go_wp2_with fail;go_roundw
       case rel =>
        refine ⟨1 + 1, by omega, by omega, by go_num, Hd ?_, hx'⟩;intro i a1 a2 a3
        by_cases hi : i < 1
        ·exact hN.out i a1 hi a3
        ·obtain rfl : i = 1 := by omega
         exact own_len (by omega) (by omega) (by rw [HL.out]; exact a3) (by rw [HV.out, heb'.out, hL'.out]; exact hlen'.out)
       case measure => simp [intOf]
      case pos =>
       have t4 : ((L : Int) != 1) = false := by rw [bne_eq_false_iff_eq]; omega
       subst hlen;go_wp2_with fail;refine (refchar_any z w1).mono ?_;rintro e w2 ⟨rfl, rfl⟩
       cases hch : Utf.Char (z : Nat)
       ·go_wp2_with fail;go_roundw
        case rel =>
         refine ⟨1 + 1, by omega, by omega, by go_num, Hd ?_, hx'⟩;intro i a1 a2 a3
         by_cases hi : i < 1
         ·exact hN.out i a1 hi a3
         ·obtain rfl : i = 1 := by omega
          exact own_char (by omega) (by omega) (by rw [HL.out]; exact a3) (by rw [HV.out]; exact hch)
        case measure => simp [intOf]
       ·go_wp2_with fail
        go_loopw [10, 11] (fun s kk wr' => ∃ (q p : Nat), q <= 1 /\ kk = .int .i64 (q : Nat) /\ s = .bool (decide (eb.take q = (l.drop k).take q)) /\ wr' = w2.drewN p) (fun s kk _ => 5 - (intOf kk).toNat)
        case atStart => exact ⟨0, 0, by omega, rfl, by simp, rfl⟩
        case round =>
         obtain ⟨q, p, q2, rfl, rfl, rfl⟩ := hrel;obtain ⟨S, hS⟩ : ∃ S, decide (eb.take q = (l.drop k).take q) = S := ⟨_, rfl⟩;rw [hS];have hS' := Hd hS;clear hS
         by_cases hq : q < 1
         ·have t3 : decide ((q : Int) < 1) = true := by simp; omega
          obtain ⟨b', off', y, hy1, _, hy, hy8, hyc⟩ := hwx.at_ (k := k + q) (by omega);simp only [Option.some.injEq, Addr.mk.injEq, and_true] at hy1;obtain ⟨rfl, rfl⟩ := hy1;obtain ⟨b2, off2, u, rfl, _, hu, hu8, huc⟩ := ho1'.out.bs.at_ (k := q) (by omega);have HY := Hd hy;have HU := Hd hu;clear hy hu;have kq : (k : Int) + (q : Int) < (n : Int) := by omega
          cases S
          ·go_wp2_with fail
           go_quiet (fail)
           go_wp2_with fail;go_roundw
           case rel =>
            refine ⟨q + 1, _, by omega, by go_num, val_bool ?_, rfl⟩;rw [take_step HU.out (by rw [List.getElem?_drop]; exact HY.out) hS'.out];rfl
           case measure => simp [intOf]; omega
          ·go_wp2_with fail
           go_quiet (fail)
           go_wp2_with fail;go_roundw
           case rel =>
            refine ⟨q + 1, _, by omega, by go_num, val_bool ?_, rfl⟩;rw [take_step HU.out (by rw [List.getElem?_drop]; exact HY.out) hS'.out, <- toNat_eq];rfl
           case measure => simp [intOf]; omega
         ·have t3 : decide ((q : Int) < 1) = false := by simp; omega
          obtain rfl : q = 1 := by omega
          have ho : own 1 l k = S := by
           rw [own_iff (by omega) (by omega) (by rw [HL.out]; exact hjn), HV.out, hch, heb'.out, Bool.and_true, <- hS'.out, List.take_of_length_le (l := eb) (by rw [hL'.out]; omega)]
          cases S
          ·go_wp2_with fail;go_roundw
           case rel =>
            refine ⟨1 + 1, by omega, by omega, by go_num, Hd ?_, Hd (hx'.out.trans (Joins.below_draws _ _ _))⟩;intro i a1 a2 a3
            by_cases hi : i < 1
            ·exact hN.out i a1 hi a3
            ·obtain rfl : i = 1 := by omega
             exact ho
           case measure => simp [intOf]
          ·have hhit : nx l k = (z, 1) := by
            rw [<- HV.out];exact nx_hit (by omega) (by omega) (by rw [HL.out]; exact hjn) (fun i a1 a2 => hN.out i a1 a2 (by omega)) ho
           rw [hP'.out] at hhit;subst hhit;go_wp2_with fail
           go_ret2
           exact ⟨rfl, hx'.out.trans (Joins.below_draws _ _ _)⟩
   case inr.inl =>
    have kn : (k : Int) < (n : Int) := (by omega);go_wp2_with fail
    go_loop [7, 8] (fun v kk => ∃ q : Nat, 1 <= q /\ q <= 2 /\ kk = .int .i64 (q : Nat) /\ v = .int .i64 (acc M l k (q - 1) : Nat)) (fun v kk => 5 - (intOf kk).toNat)
    case atStart => exact ⟨1, by omega, by omega, rfl, val_int (by rw [<- HM.out]; simp [acc, mask])⟩
    case round =>
     obtain ⟨q, q1, q2, rfl, rfl⟩ := hrel;have za := acc_lt M l k hM0 (q - 1) (by omega);obtain ⟨z, hz⟩ : ∃ z, acc M l k (q - 1) = z := ⟨_, rfl⟩;rw [hz] at za;rw [hz];have hz' := Hd hz;clear hz
     by_cases hq : q < 2
     ·obtain ⟨b', off', y, hy1, _, hy, hy8, hyc⟩ := hw0.at_ (k := k + q) (by omega);simp only [Option.some.injEq, Addr.mk.injEq, and_true] at hy1;obtain ⟨rfl, rfl⟩ := hy1;have HY : Hid (bt l (k + q) = y.toNat) := bt_of hy;clear hy;obtain ⟨Y, hY⟩ : ∃ Y : Nat, y.toNat = Y := ⟨_, rfl⟩;rw [hY] at HY hy8 hyc;clear hY;clear y;have t3 : decide ((q : Int) < 2) = true := by simp; omega
      have kq : (k : Int) + (q : Int) < (n : Int) := (by omega);go_wp2_with fail
      go_round
      case rel =>
       refine ⟨q + 1, by omega, by omega, by go_num, ?_⟩;obtain ⟨q', rfl⟩ : ∃ q', q = q' + 1 := ⟨q - 1, by omega⟩;have e1 := hz'.out;have e2 := HY.out;simp only [Nat.add_sub_cancel] at e1;refine val_int ?_;simp only [Nat.add_sub_cancel, acc, e1, e2];omega
      case measure => simp [intOf]; omega
     ·have t3 : decide ((q : Int) < 2) = false := by simp; omega
      obtain rfl : q = 2 := by omega
      have hv : vl 2 l k = z := by
       rw [<- hz'.out, <- acc_val l k (by omega) (by omega), HX.out, HM.out]
      have zl : z < 2147483648 := by rw [<- hv]; exact vl_lt l k (by omega) (by omega)
      have HV := Hd hv;clear hv;go_wp2_with fail;refine (refEncode_any z (by omega) (by omega) wr).mono ?_;rintro e w1 ⟨A1, c1, rfl, ho1, hb1⟩;have hwx := hw0.below hb1;have hx := hb.out.trans (hb1.mono hb.out.size);have hx' := Hd hx;clear hx;have hcap := Rd.le ho1.bs;have hcap2 := Rd.max ho1.bs;have ho1' := Hd ho1;have hb1' := Hd hb1;clear ho1 hb1;obtain ⟨eb, heb⟩ : ∃ eb, encB (z : Nat) = eb := ⟨_, rfl⟩;rw [heb] at ho1' hcap;rw [heb];obtain ⟨L, hL⟩ : ∃ L, eb.length = L := ⟨_, rfl⟩;rw [hL] at ho1' hcap;rw [hL];have heb' := Hd heb;have hL' := Hd hL;clear heb hL
      by_cases hlen : L = 2
      case neg =>
       have t4 : ((L : Int) != 2) = true := by rw [bne_iff_ne]; omega
       have hlen' := Hd hlen;clear hlen;clear q1 q2 hq t3 h1 h5 h4 t2;go_wp2_with fail;go_roundw
       case rel =>
        refine ⟨2 + 1, by omega, by omega, by go_num, Hd ?_, hx'⟩;intro i a1 a2 a3
        by_cases hi : i < 2
        ·exact hN.out i a1 hi a3
        ·obtain rfl : i = 2 := by omega
         exact own_len (by omega) (by omega) (by rw [HL.out]; exact a3) (by rw [HV.out, heb'.out, hL'.out]; exact hlen'.out)
       case measure => simp [intOf]
      case pos =>
       have t4 : ((L : Int) != 2) = false := by rw [bne_eq_false_iff_eq]; omega
       subst hlen;go_wp2_with fail;refine (refchar_any z w1).mono ?_;rintro e w2 ⟨rfl, rfl⟩
       cases hch : Utf.Char (z : Nat)
       ·go_wp2_with fail;go_roundw
        case rel =>
         refine ⟨2 + 1, by omega, by omega, by go_num, Hd ?_, hx'⟩;intro i a1 a2 a3
         by_cases hi : i < 2
         ·exact hN.out i a1 hi a3
         ·obtain rfl : i = 2 := by omega
          exact own_char (by omega) (by omega) (by rw [HL.out]; exact a3) (by rw [HV.out]; exact hch)
        case measure => simp [intOf]
       ·go_wp2_with fail
        go_loopw [10, 11] (fun s kk wr' => ∃ (q p : Nat), q <= 2 /\ kk = .int .i64 (q : Nat) /\ s = .bool (decide (eb.take q = (l.drop k).take q)) /\ wr' = w2.drewN p) (fun s kk _ => 5 - (intOf kk).toNat)
        case atStart => exact ⟨0, 0, by omega, rfl, by simp, rfl⟩
        case round =>
         obtain ⟨q, p, q2, rfl, rfl, rfl⟩ := hrel;obtain ⟨S, hS⟩ : ∃ S, decide (eb.take q = (l.drop k).take q) = S := ⟨_, rfl⟩;rw [hS];have hS' := Hd hS;clear hS
         by_cases hq : q < 2
         ·have t3 : decide ((q : Int) < 2) = true := by simp; omega
          obtain ⟨b', off', y, hy1, _, hy, hy8, hyc⟩ := hwx.at_ (k := k + q) (by omega);simp only [Option.some.injEq, Addr.mk.injEq, and_true] at hy1;obtain ⟨rfl, rfl⟩ := hy1;obtain ⟨b2, off2, u, rfl, _, hu, hu8, huc⟩ := ho1'.out.bs.at_ (k := q) (by omega);have HY := Hd hy;have HU := Hd hu;clear hy hu;have kq : (k : Int) + (q : Int) < (n : Int) := by omega
          cases S
          ·go_wp2_with fail
           go_quiet (fail)
           go_wp2_with fail;go_roundw
           case rel =>
            refine ⟨q + 1, _, by omega, by go_num, val_bool ?_, rfl⟩;rw [take_step HU.out (by rw [List.getElem?_drop]; exact HY.out) hS'.out];rfl
           case measure => simp [intOf]; omega
          ·go_wp2_with fail
           go_quiet (fail)
           go_wp2_with fail;go_roundw
           case rel =>
            refine ⟨q + 1, _, by omega, by go_num, val_bool ?_, rfl⟩;rw [take_step HU.out (by rw [List.getElem?_drop]; exact HY.out) hS'.out, <- toNat_eq];rfl
           case measure => simp [intOf]; omega
         ·have t3 : decide ((q : Int) < 2) = false := by simp; omega
          obtain rfl : q = 2 := by omega
          have ho : own 2 l k = S := by
           rw [own_iff (by omega) (by omega) (by rw [HL.out]; exact hjn), HV.out, hch, heb'.out, Bool.and_true, <- hS'.out, List.take_of_length_le (l := eb) (by rw [hL'.out]; omega)]
          cases S
          ·go_wp2_with fail;go_roundw
           case rel =>
            refine ⟨2 + 1, by omega, by omega, by go_num, Hd ?_, Hd (hx'.out.trans (Joins.below_draws _ _ _))⟩;intro i a1 a2 a3
            by_cases hi : i < 2
            ·exact hN.out i a1 hi a3
            ·obtain rfl : i = 2 := by omega
             exact ho
           case measure => simp [intOf]
          ·have hhit : nx l k = (z, 2) := by
            rw [<- HV.out];exact nx_hit (by omega) (by omega) (by rw [HL.out]; exact hjn) (fun i a1 a2 => hN.out i a1 a2 (by omega)) ho
           rw [hP'.out] at hhit;subst hhit;go_wp2_with fail
           go_ret2
           exact ⟨rfl, hx'.out.trans (Joins.below_draws _ _ _)⟩
   case inr.inr.inl =>
    have kn : (k : Int) < (n : Int) := (by omega);go_wp2_with fail
    go_loop [7, 8] (fun v kk => ∃ q : Nat, 1 <= q /\ q <= 3 /\ kk = .int .i64 (q : Nat) /\ v = .int .i64 (acc M l k (q - 1) : Nat)) (fun v kk => 5 - (intOf kk).toNat)
    case atStart => exact ⟨1, by omega, by omega, rfl, val_int (by rw [<- HM.out]; simp [acc, mask])⟩
    case round =>
     obtain ⟨q, q1, q2, rfl, rfl⟩ := hrel;have za := acc_lt M l k hM0 (q - 1) (by omega);obtain ⟨z, hz⟩ : ∃ z, acc M l k (q - 1) = z := ⟨_, rfl⟩;rw [hz] at za;rw [hz];have hz' := Hd hz;clear hz
     by_cases hq : q < 3
     ·obtain ⟨b', off', y, hy1, _, hy, hy8, hyc⟩ := hw0.at_ (k := k + q) (by omega);simp only [Option.some.injEq, Addr.mk.injEq, and_true] at hy1;obtain ⟨rfl, rfl⟩ := hy1;have HY : Hid (bt l (k + q) = y.toNat) := bt_of hy;clear hy;obtain ⟨Y, hY⟩ : ∃ Y : Nat, y.toNat = Y := ⟨_, rfl⟩;rw [hY] at HY hy8 hyc;clear hY;clear y;have t3 : decide ((q : Int) < 3) = true := by simp; omega
      have kq : (k : Int) + (q : Int) < (n : Int) := (by omega);go_wp2_with fail
      go_round
      case rel =>
       refine ⟨q + 1, by omega, by omega, by go_num, ?_⟩;obtain ⟨q', rfl⟩ : ∃ q', q = q' + 1 := ⟨q - 1, by omega⟩;have e1 := hz'.out;have e2 := HY.out;simp only [Nat.add_sub_cancel] at e1;refine val_int ?_;simp only [Nat.add_sub_cancel, acc, e1, e2];omega
      case measure => simp [intOf]; omega
     ·have t3 : decide ((q : Int) < 3) = false := by simp; omega
      obtain rfl : q = 3 := by omega
      have hv : vl 3 l k = z := by
       rw [<- hz'.out, <- acc_val l k (by omega) (by omega), HX.out, HM.out]
      have zl : z < 2147483648 := by rw [<- hv]; exact vl_lt l k (by omega) (by omega)
      have HV := Hd hv;clear hv;go_wp2_with fail;refine (refEncode_any z (by omega) (by omega) wr).mono ?_;rintro e w1 ⟨A1, c1, rfl, ho1, hb1⟩;have hwx := hw0.below hb1;have hx := hb.out.trans (hb1.mono hb.out.size);have hx' := Hd hx;clear hx;have hcap := Rd.le ho1.bs;have hcap2 := Rd.max ho1.bs;have ho1' := Hd ho1;have hb1' := Hd hb1;clear ho1 hb1;obtain ⟨eb, heb⟩ : ∃ eb, encB (z : Nat) = eb := ⟨_, rfl⟩;rw [heb] at ho1' hcap;rw [heb];obtain ⟨L, hL⟩ : ∃ L, eb.length = L := ⟨_, rfl⟩;rw [hL] at ho1' hcap;rw [hL];have heb' := Hd heb;have hL' := Hd hL;clear heb hL
      by_cases hlen : L = 3
      case neg =>
       have t4 : ((L : Int) != 3) = true := by rw [bne_iff_ne]; omega
       have hlen' := Hd hlen;clear hlen;clear q1 q2 hq t3 h1 h5 h4 t2;go_wp2_with fail;go_roundw
       case rel =>
        refine ⟨3 + 1, by omega, by omega, by go_num, Hd ?_, hx'⟩;intro i a1 a2 a3
        by_cases hi : i < 3
        ·exact hN.out i a1 hi a3
        ·obtain rfl : i = 3 := by omega
         exact own_len (by omega) (by omega) (by rw [HL.out]; exact a3) (by rw [HV.out, heb'.out, hL'.out]; exact hlen'.out)
       case measure => simp [intOf]
      case pos =>
       have t4 : ((L : Int) != 3) = false := by rw [bne_eq_false_iff_eq]; omega
       subst hlen;go_wp2_with fail;refine (refchar_any z w1).mono ?_;rintro e w2 ⟨rfl, rfl⟩
       cases hch : Utf.Char (z : Nat)
       ·go_wp2_with fail;go_roundw
        case rel =>
         refine ⟨3 + 1, by omega, by omega, by go_num, Hd ?_, hx'⟩;intro i a1 a2 a3
         by_cases hi : i < 3
         ·exact hN.out i a1 hi a3
         ·obtain rfl : i = 3 := by omega
          exact own_char (by omega) (by omega) (by rw [HL.out]; exact a3) (by rw [HV.out]; exact hch)
        case measure => simp [intOf]
       ·go_wp2_with fail
        go_loopw [10, 11] (fun s kk wr' => ∃ (q p : Nat), q <= 3 /\ kk = .int .i64 (q : Nat) /\ s = .bool (decide (eb.take q = (l.drop k).take q)) /\ wr' = w2.drewN p) (fun s kk _ => 5 - (intOf kk).toNat)
        case atStart => exact ⟨0, 0, by omega, rfl, by simp, rfl⟩
        case round =>
         obtain ⟨q, p, q2, rfl, rfl, rfl⟩ := hrel;obtain ⟨S, hS⟩ : ∃ S, decide (eb.take q = (l.drop k).take q) = S := ⟨_, rfl⟩;rw [hS];have hS' := Hd hS;clear hS
         by_cases hq : q < 3
         ·have t3 : decide ((q : Int) < 3) = true := by simp; omega
          obtain ⟨b', off', y, hy1, _, hy, hy8, hyc⟩ := hwx.at_ (k := k + q) (by omega);simp only [Option.some.injEq, Addr.mk.injEq, and_true] at hy1;obtain ⟨rfl, rfl⟩ := hy1;obtain ⟨b2, off2, u, rfl, _, hu, hu8, huc⟩ := ho1'.out.bs.at_ (k := q) (by omega);have HY := Hd hy;have HU := Hd hu;clear hy hu;have kq : (k : Int) + (q : Int) < (n : Int) := by omega
          cases S
          ·go_wp2_with fail
           go_quiet (fail)
           go_wp2_with fail;go_roundw
           case rel =>
            refine ⟨q + 1, _, by omega, by go_num, val_bool ?_, rfl⟩;rw [take_step HU.out (by rw [List.getElem?_drop]; exact HY.out) hS'.out];rfl
           case measure => simp [intOf]; omega
          ·go_wp2_with fail
           go_quiet (fail)
           go_wp2_with fail;go_roundw
           case rel =>
            refine ⟨q + 1, _, by omega, by go_num, val_bool ?_, rfl⟩;rw [take_step HU.out (by rw [List.getElem?_drop]; exact HY.out) hS'.out, <- toNat_eq];rfl
           case measure => simp [intOf]; omega
         ·have t3 : decide ((q : Int) < 3) = false := by simp; omega
          obtain rfl : q = 3 := by omega
          have ho : own 3 l k = S := by
           rw [own_iff (by omega) (by omega) (by rw [HL.out]; exact hjn), HV.out, hch, heb'.out, Bool.and_true, <- hS'.out, List.take_of_length_le (l := eb) (by rw [hL'.out]; omega)]
          cases S
          ·go_wp2_with fail;go_roundw
           case rel =>
            refine ⟨3 + 1, by omega, by omega, by go_num, Hd ?_, Hd (hx'.out.trans (Joins.below_draws _ _ _))⟩;intro i a1 a2 a3
            by_cases hi : i < 3
            ·exact hN.out i a1 hi a3
            ·obtain rfl : i = 3 := by omega
             exact ho
           case measure => simp [intOf]
          ·have hhit : nx l k = (z, 3) := by
            rw [<- HV.out];exact nx_hit (by omega) (by omega) (by rw [HL.out]; exact hjn) (fun i a1 a2 => hN.out i a1 a2 (by omega)) ho
           rw [hP'.out] at hhit;subst hhit;go_wp2_with fail
           go_ret2
           exact ⟨rfl, hx'.out.trans (Joins.below_draws _ _ _)⟩
   case inr.inr.inr =>
    have kn : (k : Int) < (n : Int) := (by omega);go_wp2_with fail
    go_loop [7, 8] (fun v kk => ∃ q : Nat, 1 <= q /\ q <= 4 /\ kk = .int .i64 (q : Nat) /\ v = .int .i64 (acc M l k (q - 1) : Nat)) (fun v kk => 5 - (intOf kk).toNat)
    case atStart => exact ⟨1, by omega, by omega, rfl, val_int (by rw [<- HM.out]; simp [acc, mask])⟩
    case round =>
     obtain ⟨q, q1, q2, rfl, rfl⟩ := hrel;have za := acc_lt M l k hM0 (q - 1) (by omega);obtain ⟨z, hz⟩ : ∃ z, acc M l k (q - 1) = z := ⟨_, rfl⟩;rw [hz] at za;rw [hz];have hz' := Hd hz;clear hz
     by_cases hq : q < 4
     ·obtain ⟨b', off', y, hy1, _, hy, hy8, hyc⟩ := hw0.at_ (k := k + q) (by omega);simp only [Option.some.injEq, Addr.mk.injEq, and_true] at hy1;obtain ⟨rfl, rfl⟩ := hy1;have HY : Hid (bt l (k + q) = y.toNat) := bt_of hy;clear hy;obtain ⟨Y, hY⟩ : ∃ Y : Nat, y.toNat = Y := ⟨_, rfl⟩;rw [hY] at HY hy8 hyc;clear hY;clear y;have t3 : decide ((q : Int) < 4) = true := by simp; omega
      have kq : (k : Int) + (q : Int) < (n : Int) := (by omega);go_wp2_with fail
      go_round
      case rel =>
       refine ⟨q + 1, by omega, by omega, by go_num, ?_⟩;obtain ⟨q', rfl⟩ : ∃ q', q = q' + 1 := ⟨q - 1, by omega⟩;have e1 := hz'.out;have e2 := HY.out;simp only [Nat.add_sub_cancel] at e1;refine val_int ?_;simp only [Nat.add_sub_cancel, acc, e1, e2];omega
      case measure => simp [intOf]; omega
     ·have t3 : decide ((q : Int) < 4) = false := by simp; omega
      obtain rfl : q = 4 := by omega
      have hv : vl 4 l k = z := by
       rw [<- hz'.out, <- acc_val l k (by omega) (by omega), HX.out, HM.out]
      have zl : z < 2147483648 := by rw [<- hv]; exact vl_lt l k (by omega) (by omega)
      have HV := Hd hv;clear hv;go_wp2_with fail;refine (refEncode_any z (by omega) (by omega) wr).mono ?_;rintro e w1 ⟨A1, c1, rfl, ho1, hb1⟩;have hwx := hw0.below hb1;have hx := hb.out.trans (hb1.mono hb.out.size);have hx' := Hd hx;clear hx;have hcap := Rd.le ho1.bs;have hcap2 := Rd.max ho1.bs;have ho1' := Hd ho1;have hb1' := Hd hb1;clear ho1 hb1;obtain ⟨eb, heb⟩ : ∃ eb, encB (z : Nat) = eb := ⟨_, rfl⟩;rw [heb] at ho1' hcap;rw [heb];obtain ⟨L, hL⟩ : ∃ L, eb.length = L := ⟨_, rfl⟩;rw [hL] at ho1' hcap;rw [hL];have heb' := Hd heb;have hL' := Hd hL;clear heb hL
      by_cases hlen : L = 4
      case neg =>
       have t4 : ((L : Int) != 4) = true := by rw [bne_iff_ne]; omega
       have hlen' := Hd hlen;clear hlen;clear q1 q2 hq t3 h1 h5 h4 t2;go_wp2_with fail;go_roundw
       case rel =>
        refine ⟨4 + 1, by omega, by omega, by go_num, Hd ?_, hx'⟩;intro i a1 a2 a3
        by_cases hi : i < 4
        ·exact hN.out i a1 hi a3
        ·obtain rfl : i = 4 := by omega
         exact own_len (by omega) (by omega) (by rw [HL.out]; exact a3) (by rw [HV.out, heb'.out, hL'.out]; exact hlen'.out)
       case measure => simp [intOf]
      case pos =>
       have t4 : ((L : Int) != 4) = false := by rw [bne_eq_false_iff_eq]; omega
       subst hlen;go_wp2_with fail;refine (refchar_any z w1).mono ?_;rintro e w2 ⟨rfl, rfl⟩
       cases hch : Utf.Char (z : Nat)
       ·go_wp2_with fail;go_roundw
        case rel =>
         refine ⟨4 + 1, by omega, by omega, by go_num, Hd ?_, hx'⟩;intro i a1 a2 a3
         by_cases hi : i < 4
         ·exact hN.out i a1 hi a3
         ·obtain rfl : i = 4 := by omega
          exact own_char (by omega) (by omega) (by rw [HL.out]; exact a3) (by rw [HV.out]; exact hch)
        case measure => simp [intOf]
       ·go_wp2_with fail
        go_loopw [10, 11] (fun s kk wr' => ∃ (q p : Nat), q <= 4 /\ kk = .int .i64 (q : Nat) /\ s = .bool (decide (eb.take q = (l.drop k).take q)) /\ wr' = w2.drewN p) (fun s kk _ => 5 - (intOf kk).toNat)
        case atStart => exact ⟨0, 0, by omega, rfl, by simp, rfl⟩
        case round =>
         obtain ⟨q, p, q2, rfl, rfl, rfl⟩ := hrel;obtain ⟨S, hS⟩ : ∃ S, decide (eb.take q = (l.drop k).take q) = S := ⟨_, rfl⟩;rw [hS];have hS' := Hd hS;clear hS
         by_cases hq : q < 4
         ·have t3 : decide ((q : Int) < 4) = true := by simp; omega
          obtain ⟨b', off', y, hy1, _, hy, hy8, hyc⟩ := hwx.at_ (k := k + q) (by omega);simp only [Option.some.injEq, Addr.mk.injEq, and_true] at hy1;obtain ⟨rfl, rfl⟩ := hy1;obtain ⟨b2, off2, u, rfl, _, hu, hu8, huc⟩ := ho1'.out.bs.at_ (k := q) (by omega);have HY := Hd hy;have HU := Hd hu;clear hy hu;have kq : (k : Int) + (q : Int) < (n : Int) := by omega
          cases S
          ·go_wp2_with fail
           go_quiet (fail)
           go_wp2_with fail;go_roundw
           case rel =>
            refine ⟨q + 1, _, by omega, by go_num, val_bool ?_, rfl⟩;rw [take_step HU.out (by rw [List.getElem?_drop]; exact HY.out) hS'.out];rfl
           case measure => simp [intOf]; omega
          ·go_wp2_with fail
           go_quiet (fail)
           go_wp2_with fail;go_roundw
           case rel =>
            refine ⟨q + 1, _, by omega, by go_num, val_bool ?_, rfl⟩;rw [take_step HU.out (by rw [List.getElem?_drop]; exact HY.out) hS'.out, <- toNat_eq];rfl
           case measure => simp [intOf]; omega
         ·have t3 : decide ((q : Int) < 4) = false := by simp; omega
          obtain rfl : q = 4 := by omega
          have ho : own 4 l k = S := by
           rw [own_iff (by omega) (by omega) (by rw [HL.out]; exact hjn), HV.out, hch, heb'.out, Bool.and_true, <- hS'.out, List.take_of_length_le (l := eb) (by rw [hL'.out]; omega)]
          cases S
          ·go_wp2_with fail;go_roundw
           case rel =>
            refine ⟨4 + 1, by omega, by omega, by go_num, Hd ?_, Hd (hx'.out.trans (Joins.below_draws _ _ _))⟩;intro i a1 a2 a3
            by_cases hi : i < 4
            ·exact hN.out i a1 hi a3
            ·obtain rfl : i = 4 := by omega
             exact ho
           case measure => simp [intOf]
          ·have hhit : nx l k = (z, 4) := by
            rw [<- HV.out];exact nx_hit (by omega) (by omega) (by rw [HL.out]; exact hjn) (fun i a1 a2 => hN.out i a1 a2 (by omega)) ho
           rw [hP'.out] at hhit;subst hhit;go_wp2_with fail
           go_ret2
           exact ⟨rfl, hx'.out.trans (Joins.below_draws _ _ _)⟩
end Go.Proofs.YtdnfnkicmfkkmaaGreatDoor.UtfW
end

section
namespace Go.Proofs
open Go.Shelf Go.RowKit
end Go.Proofs
namespace Go.Proofs.YtdnfnkicmfkkmaaGreatDoor.UtfW
open Go.RowKit
structure Ut (w : World) : Prop where
 tabs : Lib.Utf8Tabs 3 4 w
 max : ∃ m, w.cell? ⟨1, 0, none⟩ = some (.int .i64 m)
theorem Ut.below {w w' : World} (h : Ut w) (hb : Below w.heap.size w w') : Ut w' :=
 ⟨Utf8Tabs_below h.tabs hb, by
  obtain ⟨m, hm⟩ := h.max;refine ⟨m, ?_⟩;rw [hb.cell, hm];rcases Nat.lt_or_ge 1 w.heap.size with h' | h'
  ·exact h'
  ·simp [World.cell?, Array.getElem?_eq_none h'] at hm⟩
theorem strOf_size (l : List UInt8) : (strOf l).size = l.length := by simp [strOf, ByteArray.size]
def nxI (l : List UInt8) (a : Int) : Nat × Nat := if a < 0 then (0, 0) else nx l a.toNat
theorem nxI_nat (l : List UInt8) (k : Nat) : nxI l (k : Int) = nx l k := by
 unfold nxI;rw [if_neg (by omega), Int.toNat_natCast]
theorem nxI_out {l : List UInt8} {a : Int} (h : a < 0 \/ (l.length : Int) <= a) : nxI l a = (0, 0) := by
 unfold nxI
 split
 ·rfl
 ·unfold nx;rw [if_neg (by omega)]
theorem refNext_any (A : Option Addr) (n c : Nat) (l : List UInt8) (a : Int) (hsz : n <= 281474976710656) (w : World) (hBs : Bs w A n c l) :
  Calls Tryz.prog 127 #[.slice A n c, .int .i64 a] w fun e w' => e = nxV (nxI l a) /\ Below w.heap.size w w' := by
 have hl := hBs.len
 by_cases h0 : a < 0
 ·have i0 : decide (a < 0) = true := by simp [h0]
  rw [nxI_out (Or.inl h0)]
  go_enter Tryz.func127, Tryz.ntmps127
  go_wp2_with fail
  go_ret2
  exact ⟨rfl, Below.refl _ _⟩
 ·obtain ⟨k, rfl⟩ : ∃ k : Nat, a = k := ⟨a.toNat, by omega⟩
  by_cases h1 : k < n
  ·rw [nxI_nat];exact refNext_in A n c l k h1 hsz w hBs
  ·have i0 : decide ((k : Int) < 0) = false := by simp
   have i1 : decide ((n : Int) <= (k : Int)) = true := by simp; omega
   rw [nxI_out (Or.inr (by omega))]
   go_enter Tryz.func127, Tryz.ntmps127
   go_wp2_with fail
   go_ret2
   exact ⟨rfl, Below.refl _ _⟩
theorem nx_le {l : List UInt8} {k : Nat} (h : k < l.length) : (nx l k).2 <= l.length - k := by
 unfold nx;rw [if_pos h, <- Utf.ref_nxt _ _ _ _ _ (by omega)];unfold Utf.ref
 repeat' split
 all_goals simp only
 all_goals omega
def badW (l : List UInt8) (k : Nat) : Int :=
 if h : k < l.length then (if h2 : (nx l k).2 = 0 then (k : Int) else badW l (k + (nx l k).2)) else -1
termination_by l.length - k
theorem badW_end {l : List UInt8} {k : Nat} (h : l.length <= k) : badW l k = -1 := by
 rw [badW, dif_neg (by omega)]
theorem badW_stop {l : List UInt8} {k : Nat} (h : k < l.length) (h2 : (nx l k).2 = 0) : badW l k = (k : Int) := by
 rw [badW, dif_pos h, dif_pos h2]
theorem badW_on {l : List UInt8} {k : Nat} (h : k < l.length) (h2 : (nx l k).2 ≠ 0) : badW l k = badW l (k + (nx l k).2) := by
 rw [badW, dif_pos h, dif_neg h2]
end Go.Proofs.YtdnfnkicmfkkmaaGreatDoor.UtfW
end

section
namespace Go.Proofs.YtdnfnkicmfkkmaaGreatDoor.UtfW
open Go.RowKit
set_option maxRecDepth 100000 in
theorem refBad_any (A : Option Addr) (n c : Nat) (l : List UInt8) (hsz : n <= 281474976710656) (w : World) (hBs : Bs w A n c l) :
  Calls Tryz.prog 86 #[.slice A n c] w fun e w' => e = .returned (.int .i64 (badW l 0)) /\ Below w.heap.size w w' := by
 have HL : Hid (l.length = n) := hBs.len;obtain ⟨R, hR⟩ : ∃ R, badW l 0 = R := ⟨_, rfl⟩;rw [hR];have hR' := Hd hR;clear hR
 go_enter Tryz.func86, Tryz.ntmps86
 go_wp2_with fail
 go_loopw [3] (fun v wr => ∃ k : Nat, k <= n /\ v = .int .i64 (k : Nat) /\ Hid (badW l k = R) /\ Hid (Below w.heap.size w wr)) (fun v _ => n - (intOf v).toNat)
 case atStart => exact ⟨0, by omega, rfl, hR', Hd (Below.refl _ _)⟩
 case round =>
  obtain ⟨k, hk, rfl, hr, hb⟩ := hrel
  by_cases hlt : k < n
  ·have i0 : decide ((k : Int) < (n : Int)) = true := by simp; omega
   have hl : k < l.length := by rw [HL.out]; exact hlt
   have hle := nx_le hl;rw [HL.out] at hle;have hc := refNext_any A n c l k hsz wr (hBs.below hb.out);rw [nxI_nat] at hc;obtain ⟨P, hP⟩ : ∃ P, nx l k = P := ⟨_, rfl⟩;rw [hP] at hc hle;have hP' := Hd hP;clear hP;obtain ⟨r, m⟩ := P;unfold nxV at hc;simp only at hc hle;go_wp2_with fail;refine hc.mono ?_;rintro e w1 ⟨rfl, hb1⟩;have hx := Hd (hb.out.trans (hb1.mono hb.out.size));clear hb1 hc
   by_cases hm : m = 0
   ·subst hm;have hl' := Hd hl;clear hl;go_wp2_with fail;go_ret;refine ⟨ret_int ?_, hx.out⟩;rw [<- hr.out, badW_stop hl'.out (by rw [hP'.out])]
   ·have j1 : ((m : Int) == 0) = false := by rw [beq_eq_false_iff_ne]; omega
    have j2 : decide ((m : Int) = 0) = false := by simp; omega
    have hl' := Hd hl;clear hl;go_wp2_with fail;go_roundw
    case rel =>
     refine ⟨k + m, by omega, by go_num, Hd ?_, hx⟩;have := badW_on hl'.out (by rw [hP'.out]; exact hm);rw [hP'.out] at this;rw [<- hr.out, this]
    case measure => simp [intOf]; omega
  ·have i0 : decide ((k : Int) < (n : Int)) = false := by simp; omega
   go_wp2_with fail;go_ret;refine ⟨ret_int ?_, hb.out⟩;rw [<- hr.out, badW_end (by rw [HL.out]; omega)]
end Go.Proofs.YtdnfnkicmfkkmaaGreatDoor.UtfW
end

section
namespace Go.Proofs.YtdnfnkicmfkkmaaGreatDoor.UtfW
open Go.RowKit
def dec (l : List UInt8) (k : Nat) : Nat × Nat := Lib.decodeN (l.length - k) (bt l k) (bt l (k + 1)) (bt l (k + 2)) (bt l (k + 3))
theorem nx_dec {l : List UInt8} {k : Nat} (h : k < l.length) : nx l k = if ((dec l k).1 = 65533 /\ (dec l k).2 < 2) \/ Utf.Char (dec l k).1 = false then (0, 0) else dec l k := by
 unfold nx;rw [if_pos h];rfl
def runesW (l : List UInt8) (k : Nat) : Option (List Nat) :=
 if h : k < l.length then (if h2 : (nx l k).2 = 0 then none else (runesW l (k + (nx l k).2)).map ((nx l k).1 :: ·)) else some []
termination_by l.length - k
theorem runesW_end {l : List UInt8} {k : Nat} (h : l.length <= k) : runesW l k = some [] := by
 rw [runesW, dif_neg (by omega)]
theorem runesW_stop {l : List UInt8} {k : Nat} (h : k < l.length) (h2 : (nx l k).2 = 0) : runesW l k = none := by
 rw [runesW, dif_pos h, dif_pos h2]
theorem runesW_on {l : List UInt8} {k : Nat} (h : k < l.length) (h2 : (nx l k).2 ≠ 0) : runesW l k = (runesW l (k + (nx l k).2)).map ((nx l k).1 :: ·) := by
 rw [runesW, dif_pos h, dif_neg h2]
def nameR (l : List UInt8) : Bool :=
 match runesW l 0 with
 | none => false
 | some [] => false
 | some (r :: rs) => Begins r && (GoesOn r && rs.all fun x => GoesOn x)
theorem char_of_goesOn {r : Int} (h : GoesOn r = true) : Utf.Char r = true := by
 unfold GoesOn Begins at h;unfold Utf.Char;rw [decide_eq_true_eq] at *;simp [inb] at h;omega
end Go.Proofs.YtdnfnkicmfkkmaaGreatDoor.UtfW
end

section
namespace Go.Proofs.YtdnfnkicmfkkmaaGreatDoor.UtfW
open Go.RowKit
def E (rs : List Nat) : List UInt8 := (rs.map fun r => encB (r : Nat)).flatten
theorem E_cons (r : Nat) (rs : List Nat) : E (r :: rs) = encB (r : Nat) ++ E rs := rfl
theorem isRune_of_char {r : Int} (h : Utf.Char r = true) : isRune r = true := by
 unfold Utf.Char at h;unfold isRune;rw [decide_eq_true_eq] at *;omega
theorem bt_drop {l t : List UInt8} {k : Nat} (h : l.drop k = t) (i : Nat) : bt l (k + i) = (t[i]?.getD 0).toNat := by
 rw [<- h, List.getElem?_drop];rfl
theorem enc_cases {v : Nat} (h : isRune (v : Nat) = true) :
  (v < 128 /\ Utf.enc v = [v]) \/ (128 <= v /\ v < 2048 /\ Utf.enc v = [192 + v / 64, 128 + v % 64]) ∨
  (2048 <= v /\ v < 65536 /\ ¬ (55296 <= v /\ v <= 57343) /\ Utf.enc v = [224 + v / 4096, 128 + v / 64 % 64, 128 + v % 64]) ∨
  (65536 <= v /\ v <= 1114111 /\ Utf.enc v = [240 + v / 262144, 128 + v / 4096 % 64, 128 + v / 64 % 64, 128 + v % 64]) := by
 simp only [isRune, decide_eq_true_eq] at h;rcases (show v < 128 \/ (128 <= v /\ v < 2048) \/ (2048 <= v /\ v < 65536) \/ 65536 <= v from by omega) with h1 | h1 | h1 | h1
 ·exact .inl ⟨h1, (Utf.enc1 _ _).2 ⟨h1, rfl⟩⟩
 ·exact .inr (.inl ⟨h1.1, h1.2, (Utf.enc2 _ _ _).2 ⟨h1.1, h1.2, rfl, rfl⟩⟩)
 ·exact .inr (.inr (.inl ⟨h1.1, h1.2, by omega, (Utf.enc3 _ _ _ _).2 ⟨h1.1, h1.2, by omega, rfl, rfl, rfl⟩⟩))
 ·exact .inr (.inr (.inr ⟨h1, by omega, (Utf.enc4 _ _ _ _ _).2 ⟨h1, by omega, rfl, rfl, rfl, rfl⟩⟩))
theorem encB_of {v : Nat} {ns : List Nat} (h : Utf.enc v = ns) : encB (v : Nat) = ns.map UInt8.ofNat := by
 unfold encB;rw [if_neg (by omega), Int.toNat_natCast, h]
set_option maxRecDepth 100000 in
theorem dec_enc {v : Nat} (hv : isRune (v : Nat) = true) {l rest : List UInt8} {k : Nat} (h : l.drop k = encB (v : Nat) ++ rest) : dec l k = (v, (encB (v : Nat)).length) := by
 have hlen : l.length - k = (encB (v : Nat)).length + rest.length := by rw [<- List.length_drop, h, List.length_append]
 have h0 := bt_drop h 0;have h1 := bt_drop h 1;have h2 := bt_drop h 2;have h3 := bt_drop h 3;rw [Nat.add_zero] at h0;unfold dec;rw [hlen];rcases enc_cases hv with ⟨a, e⟩ | ⟨a, b, e⟩ | ⟨a, b, c, e⟩ | ⟨a, b, e⟩
 ·rw [encB_of e] at h0 ⊢;simp at h0;rw [h0];simp only [List.map_cons, List.map_nil, List.length_cons, List.length_nil];unfold Lib.decodeN;rw [if_pos (by omega)];refine congr (congrArg Prod.mk ?_) rfl;omega
 ·rw [encB_of e] at h0 h1 ⊢;simp at h0 h1;rw [h0, h1];simp only [List.map_cons, List.map_nil, List.length_cons, List.length_nil];unfold Lib.decodeN;rw [if_neg (by omega), if_pos ⟨by omega, by omega, by omega⟩, if_pos (by omega)];refine congr (congrArg Prod.mk ?_) rfl;omega
 ·rw [encB_of e] at h0 h1 h2 ⊢;simp at h0 h1 h2;rw [h0, h1, h2];simp only [List.map_cons, List.map_nil, List.length_cons, List.length_nil];unfold Lib.decodeN;rw [if_neg (by omega), if_neg (by omega), if_pos ⟨by omega, ⟨by omega, by omega⟩, by omega, by omega⟩, if_pos (by omega)];refine congr (congrArg Prod.mk ?_) rfl;omega
 ·rw [encB_of e] at h0 h1 h2 h3 ⊢;simp at h0 h1 h2 h3;rw [h0, h1, h2, h3];simp only [List.map_cons, List.map_nil, List.length_cons, List.length_nil];unfold Lib.decodeN;rw [if_neg (by omega), if_neg (by omega), if_neg (by omega), if_pos ⟨by omega, ⟨by omega, by omega⟩, ⟨by omega, by omega⟩, by omega, by omega⟩, if_pos (by omega)];refine congr (congrArg Prod.mk ?_) rfl;omega
theorem encB_pos {v : Nat} (hv : isRune (v : Nat) = true) : 1 <= (encB (v : Nat)).length /\ (encB (v : Nat)).length <= 4 /\ (v = 65533 -> (encB (v : Nat)).length = 3) := by
 rcases enc_cases hv with ⟨a, e⟩ | ⟨a, b, e⟩ | ⟨a, b, c, e⟩ | ⟨a, b, e⟩ <;> rw [encB_of e] <;> simp <;> omega
theorem nx_enc {v : Nat} (hv : isRune (v : Nat) = true) {l rest : List UInt8} {k : Nat} (h : l.drop k = encB (v : Nat) ++ rest) :
  nx l k = if Utf.Char (v : Nat) = true then (v, (encB (v : Nat)).length) else (0, 0) := by
 have hp := encB_pos hv
 have hk : k < l.length := by
  have := congrArg List.length h;rw [List.length_drop, List.length_append] at this;omega
 rw [nx_dec hk, dec_enc hv h]
 cases hc : Utf.Char (v : Nat)
 ·rw [if_pos (Or.inr rfl), if_neg (by simp)]
 ·rw [if_neg (by rintro (⟨h1, h2⟩ | h1); (have := hp.2.2 h1; simp only at h2; omega); (cases h1)), if_pos rfl]
theorem drop_step {l a b : List UInt8} {k : Nat} (h : l.drop k = a ++ b) : l.drop (k + a.length) = b := by
 rw [<- List.drop_drop, h, List.drop_append_of_le_length (Nat.le_refl _)];simp
theorem runesW_E (l : List UInt8) : ∀ (rs : List Nat) (k : Nat), (∀ r ∈ rs, Utf.Char (r : Nat) = true) -> l.drop k = E rs -> runesW l k = some rs := by
 intro rs
 induction rs with
 | nil =>
  intro k _ h;have := congrArg List.length h;rw [List.length_drop] at this;simp [E] at this;exact runesW_end (by omega)
 | cons r rs ih =>
  intro k hc h;have hr := hc r (List.mem_cons_self ..);have hv := isRune_of_char hr;have hp := encB_pos hv;rw [E_cons] at h;have hn := nx_enc hv h;rw [if_pos hr] at hn
  have hk : k < l.length := by
   have := congrArg List.length h;rw [List.length_drop, List.length_append] at this;omega
  rw [runesW_on hk (by rw [hn]; simp only; omega), hn];simp only;rw [ih _ (fun x hx => hc x (List.mem_cons_of_mem _ hx)) (drop_step h)];rfl
theorem nx_own {l : List UInt8} {k : Nat} (h : (nx l k).2 ≠ 0) : k + (nx l k).2 <= l.length /\ 1 <= (nx l k).2 /\ (nx l k).2 <= 4 /\ own (nx l k).2 l k = true /\ (nx l k).1 = vl (nx l k).2 l k := by
 by_cases hk : k < l.length
 ·have e : nx l k = Utf.ref (l.length - k) (bt l k) (bt l (k + 1)) (bt l (k + 2)) (bt l (k + 3)) := by
   unfold nx;rw [if_pos hk, Utf.ref_nxt _ _ _ _ _ (by omega)]
  rw [e] at h ⊢;unfold Utf.ref at h ⊢
  split at h
  ·rename_i h1
   rw [if_pos h1];exact ⟨by simp only; omega, by simp only; omega, by simp only; omega, h1.2, rfl⟩
  rename_i h1
  rw [if_neg h1]
  split at h
  ·rename_i h2
   rw [if_pos h2];exact ⟨by simp only; omega, by simp only; omega, by simp only; omega, h2.2, rfl⟩
  rename_i h2
  rw [if_neg h2]
  split at h
  ·rename_i h3
   rw [if_pos h3];exact ⟨by simp only; omega, by simp only; omega, by simp only; omega, h3.2, rfl⟩
  rename_i h3
  rw [if_neg h3]
  split at h
  ·rename_i h4
   rw [if_pos h4];exact ⟨by simp only; omega, by simp only; omega, by simp only; omega, h4.2, rfl⟩
  ·exact absurd rfl h
 ·exfalso;apply h;unfold nx;rw [if_neg hk]
theorem runesW_sound (l : List UInt8) : ∀ n k rs, l.length - k <= n -> k <= l.length -> runesW l k = some rs -> l.drop k = E rs /\ ∀ r ∈ rs, Utf.Char (r : Nat) = true := by
 intro n
 induction n with
 | zero =>
  intro k rs hn hk h;rw [runesW_end (by omega)] at h;injection h with h;subst h;refine ⟨?_, fun r hr => by cases hr⟩;rw [List.drop_eq_nil_of_le (by omega)];rfl
 | succ n ih =>
  intro k rs hn hk h
  by_cases hlt : k < l.length
  ·by_cases h0 : (nx l k).2 = 0
   ·rw [runesW_stop hlt h0] at h;cases h
   ·obtain ⟨o1, o2, o3, o4, o5⟩ := nx_own h0;rw [runesW_on hlt h0] at h;obtain ⟨rs', h3, h4⟩ := Option.map_eq_some_iff.1 h;subst h4;obtain ⟨i1, i2⟩ := ih _ rs' (by omega) o1 h3;rw [own_iff o2 o3 o1, Bool.and_eq_true, decide_eq_true_eq, <- o5] at o4;refine ⟨?_, fun r hr => ?_⟩
    ·rw [E_cons, o4.1, <- i1, <- List.drop_drop, List.take_append_drop]
    ·rcases List.mem_cons.1 hr with rfl | hr
     ·exact o4.2
     ·exact i2 r hr
  ·rw [runesW_end (by omega)] at h;injection h with h;subst h;refine ⟨?_, fun r hr => by cases hr⟩;rw [List.drop_eq_nil_of_le (by omega)];rfl
theorem bad_of_runes (l : List UInt8) : ∀ n k rs, l.length - k <= n -> runesW l k = some rs -> badW l k = -1 := by
 intro n
 induction n with
 | zero =>
  intro k rs hn _;exact badW_end (by omega)
 | succ n ih =>
  intro k rs hn h
  by_cases hlt : k < l.length
  ·by_cases h0 : (nx l k).2 = 0
   ·rw [runesW_stop hlt h0] at h;cases h
   ·rw [runesW_on hlt h0] at h;obtain ⟨rs', h3, h4⟩ := Option.map_eq_some_iff.1 h;rw [badW_on hlt h0];exact ih _ rs' (by omega) h3
  ·exact badW_end (by omega)
/-! ### The sides of a name -/
end Go.Proofs.YtdnfnkicmfkkmaaGreatDoor.UtfW
end

section
namespace Go.Proofs.YtdnfnkicmfkkmaaGreatDoor.Qx
open Go.RowKit UtfW
def blank (b : UInt8) : Bool := Blank (b.toNat : Int)
/-! ### First facts -/
end Go.Proofs.YtdnfnkicmfkkmaaGreatDoor.Qx
end

section
namespace Go.Proofs.YtdnfnkicmfkkmaaGreatDoor.Qx
open Go.RowKit UtfW
def V (l : List UInt8) : Prop := ∃ rs : List Nat, (∀ r ∈ rs, Utf.Char (r : Nat) = true) /\ l = E rs
theorem V.nil : V [] := ⟨[], fun r h => (by cases h), rfl⟩
/-! ### Bad -/
/-! ### Names -/
/-! ### Numbers -/
end Go.Proofs.YtdnfnkicmfkkmaaGreatDoor.Qx
end

section
namespace Go.Proofs.YtdnfnkicmfkkmaaGreatDoor.Utf
open Go.Lib
/-! ### Blanks around a text -/
def cs : List UInt8 := [9, 10, 13, 32]
theorem trim_cut {l : List UInt8} {a b : Nat} (hab : a <= b) (hb : b <= l.length) (h1 : ∀ (j : Nat) x, j < a -> l[j]? = some x -> cs.contains x = true) (h2 : ∀ x, a < b -> l[a]? = some x -> cs.contains x = false)
  (h3 : ∀ (j : Nat) x, b <= j -> l[j]? = some x -> cs.contains x = true) (h4 : ∀ x, a < b -> l[b - 1]? = some x -> cs.contains x = false) (h5 : a = b -> b = l.length) : trimS l cs = (l.drop a).take (b - a) := by
 unfold trimS
 by_cases e : a = b
 ·subst e;have hl := h5 rfl
  have e1 : trimRightS l cs = l.take 0 := by
   refine trimRightS_take l cs 0 (by omega) (fun j x _ hx => ?_) (fun x h => by omega);exact h1 j x (by have := (List.getElem?_eq_some_iff.1 hx).1; omega) hx
  rw [e1];simp [trimLeftS]
 ·have e1 : trimRightS l cs = l.take b := trimRightS_take l cs b hb h3 fun x _ hx => h4 x (by omega) hx
  rw [e1]
  have e2 := trimLeftS_drop (l.take b) cs a (by rw [List.length_take]; omega) (fun j x hj hx => by
   rw [List.getElem?_take, if_pos (by omega)] at hx
   exact h1 j x hj hx) (fun x hx => by
   rw [List.getElem?_take, if_pos (by omega)] at hx
   exact h2 x (by omega) hx)
  rw [e2, List.drop_take]
end Go.Proofs.YtdnfnkicmfkkmaaGreatDoor.Utf
end

section
namespace Go.Proofs.YtdnfnkicmfkkmaaGreatDoor.Xl
open Go.RowKit UtfW Qx
abbrev Tx := List UInt8
def find (t : Tx) : Tx -> Option Nat
 | [] => if t = [] then some 0 else none
 | b :: r => if t.isPrefixOf (b :: r) then some 0 else (find t r).map (· + 1)
/-! ### References -/
/-! ### Values and characters -/
/-! ### Tags -/
abbrev At := Tx × Tx
def low (c : UInt8) : UInt8 := if 65 <= c.toNat /\ c.toNat <= 90 then c + 32 else c
/-! ### The declaration -/
/-! ### All -/
/-! ### How far they go -/
end Go.Proofs.YtdnfnkicmfkkmaaGreatDoor.Xl
end

section
namespace Go.Proofs.YtdnfnkicmfkkmaaGreatDoor.Xl
open Go.RowKit UtfW Qx
/-! ### Ends of lines -/
/-! ### Names -/
/-! ### What is gone past leaves a valid text -/
/-! ### Tags -/
end Go.Proofs.YtdnfnkicmfkkmaaGreatDoor.Xl
end

section
namespace Go.Proofs.YtdnfnkicmfkkmaaGreatDoor.Xl
open Go.RowKit UtfW Qx
end Go.Proofs.YtdnfnkicmfkkmaaGreatDoor.Xl
end
