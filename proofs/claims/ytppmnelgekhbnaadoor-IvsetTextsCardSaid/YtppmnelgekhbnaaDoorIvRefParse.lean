/- The document's Parse. -/
import Derived.Test.YtppmnelgekhbnaaDoorIvNumber
import Derived.Test.YtppmnelgekhbnaaDoorIvWalk2
import Derived.Test.YtppmnelgekhbnaaDoorIvSortLaw
import Derived.Deep.DeepCutAuto
namespace Go.Proofs.YtppmnelgekhbnaaDoor.IvW
open Go.RowKit Iv

theorem num_rest {L : List UInt8} {b f : Nat} {r : List UInt8} (hb : b ≤ L.length) (h : num (L.drop b) = some (f, r)) : ∃ q, b < q ∧ q ≤ L.length ∧ r = L.drop q ∧ L.length - r.length = q := by
  obtain ⟨_, h2, h3⟩ := num_sound h
  have hl : (L.drop b).length = L.length - b := List.length_drop
  have hr : r.length < L.length - b := by omega
  refine ⟨L.length - r.length, by omega, by omega, ?_, rfl⟩
  have e : r = (L.drop b).drop (L.length - b - r.length) := by
    rw [h2] at hl ⊢
    rw [List.length_append] at hl
    rw [List.drop_left' (by omega)]
  rw [e, List.drop_drop]
  congr 1
  simp only [List.length_drop]
  omega

theorem numV_none {L : List UInt8} {b : Nat} (h : num (L.drop b) = none) : numV L b = .tuple #[.int .i64 0, .int .i64 (-1)] := by
  unfold numV; rw [h]
theorem numV_some {L : List UInt8} {b f q : Nat} (h : num (L.drop b) = some (f, L.drop q)) (hq : q ≤ L.length) : numV L b = .tuple #[.int .i64 (f : Nat), .int .i64 (q : Nat)] := by
  unfold numV; rw [h]
  simp only [List.length_drop]
  rw [show L.length - (L.length - q) = q by omega]

theorem dig4_lt : ∀ (k n : Nat) (l : List UInt8), (dig4 k n l).1 < (n + 1) * 10 ^ k
  | 0, n, l => by rw [dig4]; omega
  | k + 1, n, [] => by
    rw [dig4]
    have : 1 ≤ 10 ^ (k + 1) := Nat.pow_pos (by omega)
    calc n < (n + 1) * 1 := by omega
      _ ≤ (n + 1) * 10 ^ (k + 1) := Nat.mul_le_mul_left _ this
  | k + 1, n, c :: r => by
    rw [dig4]
    by_cases hc : isDig c = true
    · rw [if_pos hc]
      obtain ⟨d, hd, _, e2⟩ := isDig_iff hc
      rw [e2]
      have := dig4_lt k (n * 10 + d) r
      have h2 : (n * 10 + d + 1) * 10 ^ k ≤ (n + 1) * 10 ^ (k + 1) := by
        rw [Nat.pow_succ, Nat.mul_comm (10 ^ k) 10, ← Nat.mul_assoc]
        exact Nat.mul_le_mul_right _ (by omega)
      omega
    · rw [if_neg hc]
      have : 1 ≤ 10 ^ (k + 1) := Nat.pow_pos (by omega)
      calc n < (n + 1) * 1 := by omega
        _ ≤ (n + 1) * 10 ^ (k + 1) := Nat.mul_le_mul_left _ this

theorem num_lt {l : List UInt8} {n : Nat} {r : List UInt8} (h : num l = some (n, r)) : n < 10000 := by
  cases l with
  | nil => cases h
  | cons c t =>
    rw [num] at h
    split at h
    · injection h with h
      have := dig4_lt 4 0 (c :: t)
      rw [h] at this
      simpa using this
    · cases h

theorem one_none {first : Bool} {l l' : List UInt8} (h : strip first l = some l') (hn : num l' = none) : one first l = none := by
  unfold one; rw [h]; simp only; rw [hn]
theorem one_dash {first : Bool} {l l' r : List UInt8} {f : Nat} (h : strip first l = some l') (hn : num l' = some (f, 45 :: r)) :
    one first l = match num r with
      | none => none
      | some (t, r') => if t = f then none else some (((f : Int), (t : Int)), r') := by
  unfold one; rw [h]; simp only; rw [hn]; rfl
theorem one_plain {first : Bool} {l l' r : List UInt8} {f : Nat} (h : strip first l = some l') (hn : num l' = some (f, r)) (hr : r.head? ≠ some 45) :
    one first l = some (((f : Int), (f : Int)), r) := by
  unfold one; rw [h]; simp only; rw [hn]
  cases r with
  | nil => rfl
  | cons c r =>
    have hc : c ≠ 45 := fun e => hr (by rw [e]; rfl)
    split
    · rename_i heq; cases heq
    · rename_i heq; injection heq with heq; injection heq with _ heq; injection heq with heq _; exact absurd heq hc
    · rename_i heq; injection heq with heq; injection heq with h1 h2; subst h1 h2; rfl

set_option maxHeartbeats 4000000 in
set_option maxRecDepth 100000 in
theorem refparse_any (s : ByteArray) (hs : s.size ≤ 10000) (w : World) :
    Calls Tryd.prog 10 #[.string s] w fun e w' => ∃ A n c l, e = .returned (.tuple #[.slice A n c, .bool (refparse? s.data.toList).isSome]) ∧ Rp w' A n c l ∧ (∀ l', refparse? s.data.toList = some l' → l' = l) ∧ Below w.heap.size w w' := by
  have HL : Hid (s.data.toList.length = s.size) := Lib.hid (by rw [Array.length_toList]; rfl)
  have HG : ∀ (k : Nat) (h : k < s.size), Hid (s.data.toList.drop k = s[k] :: s.data.toList.drop (k + 1)) := fun k h => Lib.hid (by
    rw [List.drop_eq_getElem_cons (by have := HL.out; omega)]
    rfl)
  have hrp : refparse? s.data.toList = (match refRun s.size [] s.data.toList with | none => none | some l => if okB 1 l then some l else none) := by
    unfold refparse?; rw [HL.out]; rfl
  obtain ⟨R, hR⟩ : ∃ R, refRun s.size [] s.data.toList = R := ⟨_, rfl⟩
  rw [hR] at hrp
  obtain ⟨Q, hQ⟩ : ∃ Q, refparse? s.data.toList = Q := ⟨_, rfl⟩
  rw [hQ] at hrp ⊢
  have hrp' := Lib.hid hrp
  have hR' := Lib.hid hR
  clear hQ hR hrp
  have fail : ∀ (hn : R = none) (w1 : World), Below w.heap.size w w1 → ∃ (A : Option Addr) (n c : Nat) (l : List Span), Ending.returned (.tuple #[.slice none 0 0, .bool false]) = .returned (.tuple #[.slice A n c, .bool Q.isSome]) ∧ Rp w1 A n c l ∧ (∀ l', Q = some l' → l' = l) ∧ Below w.heap.size w w1 := by
    intro hn w1 hb
    have hq : Q = none := by rw [hrp'.out, hn]
    subst hq
    exact ⟨none, 0, 0, [], rfl, Rp.none_ _, (fun l' h => by cases h), hb⟩
  have fail' := Lib.hid fail
  clear fail
  go_enter Tryd.func10, Tryd.ntmps10
  go_wp2_with (fail)
  go_loopw [4, 5] (fun o av wr => ∃ (a k : Nat) (A : Option Addr) (c : Nat) (acc : List Span), a ≤ s.size ∧ acc.length ≤ a ∧ s.size ≤ k + a ∧ o = .slice A acc.length c ∧ av = .int .i64 a ∧ Hid (refRun k acc (s.data.toList.drop a) = R) ∧ OwP wr w.heap.size 40 (.slice A acc.length c) acc ∧ Below w.heap.size w wr) (fun _ av _ => s.size - (intOf av).toNat)
  case atStart => exact ⟨0, s.size, none, 0, [], by omega, by simp, by omega, rfl, rfl, hR', OwP.nil _ _ _, Below.refl _ _⟩
  case round =>
    obtain ⟨a, k, A, c, acc, h1, h2, h3, rfl, rfl, hrun, hO, hbw⟩ := hrel
    have hO' := Lib.hid hO
    have hbw' := Lib.hid hbw
    clear hO hbw
    by_cases hlt : a < s.size
    case neg =>
      obtain rfl : a = s.size := by omega
      have hRs : R = some acc := by
        rw [← hrun.out, List.drop_eq_nil_of_le (by rw [HL.out]; exact Nat.le_refl _)]
        cases k <;> rfl
      have cm := refmay_any A acc.length c acc wr hO'.out.rp
      have hres : ∀ w1, Below w.heap.size w w1 → Rp w1 A acc.length c acc → ∃ (A' : Option Addr) (n' c' : Nat) (l : List Span), Ending.returned (.tuple #[.slice A acc.length c, .bool (okB 1 acc)]) = .returned (.tuple #[.slice A' n' c', .bool Q.isSome]) ∧ Rp w1 A' n' c' l ∧ (∀ l', Q = some l' → l' = l) ∧ Below w.heap.size w w1 := by
        intro w1 hb hr
        have hq : Q = if okB 1 acc then some acc else none := by rw [hrp'.out, hRs]
        refine ⟨A, acc.length, c, acc, ?_, hr, ?_, hb⟩
        · rw [hq]
          cases okB 1 acc <;> rfl
        · intro l' h
          rw [hq] at h
          cases hk : okB 1 acc with
          | false => rw [hk] at h; cases h
          | true => rw [hk] at h; injection h with h; exact h.symm
      have hres' := Lib.hid hres
      obtain ⟨v, hv⟩ : ∃ v, okB 1 acc = v := ⟨_, rfl⟩
      rw [hv] at cm
      have hv' := Lib.hid hv
      clear hRs hres hrun hv
      go_wp2_with fail
      refine cm.mono ?_
      rintro e w1 ⟨rfl, q, rfl⟩
      have hx1 := Lib.hid (hbw'.out.trans ((Joins.below_draws wr.heap.size wr q).mono hbw'.out.size))
      have hr1 := Lib.hid (hO'.out.rp.below (Joins.below_draws wr.heap.size wr q))
      clear cm
      go_wp2_with fail
      go_ret2
      rw [← hv'.out]
      exact hres'.out _ hx1.out hr1.out
    case pos =>
      obtain ⟨k, rfl⟩ : ∃ j, k = j + 1 := ⟨k - 1, by omega⟩
      have hrun2 := hrun.out
      rw [(HG a hlt).out, refRun] at hrun2
      have hrun' := Lib.hid hrun2
      have i0 : decide ((a : Int) < (s.size : Int)) = true := by simp; omega
      have i5 : (a : Int) < (s.size : Int) := by omega
      have hx8 : s[a].toNat < 256 := UInt8.toNat_lt _
      clear hrun hrun2
      have hno : ∀ v : Option (Span × List UInt8), one acc.isEmpty (s[a] :: s.data.toList.drop (a + 1)) = v → R = (match v with | none => none | some (p, r') => refRun k (acc ++ [p]) r') := by
        intro v hv
        rw [← hv]
        exact hrun'.out.symm
      have hno' := Lib.hid hno
      clear hno hrun'
      by_cases hemp : acc.length = 0
      case pos =>
        have hacc : acc = [] := List.eq_nil_of_length_eq_zero hemp
        subst hacc
        have hst : Hid (strip ([] : List Span).isEmpty (s[a] :: s.data.toList.drop (a + 1)) = some (s.data.toList.drop a)) := Lib.hid (by rw [(HG a hlt).out]; rfl)
        have cn := number_any s a (by omega) (by omega) wr
        cases hnum : num (s.data.toList.drop a) with
        | none =>
          have hn := Lib.hid (hno'.out _ (one_none hst.out hnum))
          rw [numV_none hnum] at cn
          clear hnum
          go_wp2_with fail
          refine cn.mono ?_
          rintro e wr ⟨rfl, rfl⟩
          clear cn
          go_wp2_with fail
          go_ret2
          exact fail'.out hn.out _ hbw'.out
        | some fr =>
          obtain ⟨f, r⟩ := fr
          obtain ⟨q, q1, q2, hrq, _⟩ := num_rest (by have := HL.out; omega) hnum
          subst hrq
          have hf := num_lt hnum
          rw [HL.out] at q2
          rw [numV_some hnum (by have := HL.out; omega)] at cn
          have hnum' := Lib.hid hnum
          clear hnum
          have hplain : s.data.toList.drop q = s.data.toList.drop q → (s.data.toList.drop q).head? ≠ some 45 → R = refRun k (([] : List Span) ++ [((f : Int), (f : Int))]) (s.data.toList.drop q) := fun _ h => hno'.out _ (one_plain hst.out hnum'.out h)
          have hplain' := Lib.hid hplain
          clear hplain
          by_cases hq : q < s.size
          case neg =>
            have g0 : decide ((q : Int) < (s.size : Int)) = false := by simp; omega
            have hR2 : Hid (refRun k (([] : List Span) ++ [((f : Int), (f : Int))]) (s.data.toList.drop q) = R) := Lib.hid (hplain'.out rfl (by rw [List.drop_eq_nil_of_le (by have := HL.out; omega)]; simp)).symm
            go_wp2_with fail
            refine cn.mono ?_
            rintro e wr ⟨rfl, rfl⟩
            clear cn
            have hB0 : w.heap.size ≤ wr.heap.size := hbw'.out.size
            go_wp2_with (at_builtin; apply stop_here)
            refine Stop.go (append_spans _ 22 40 _ Tryd.underlying22 info_span rfl rfl _ _ rfl w.heap.size _ ([] : List Span) rfl (hO'.out.below (below_alloc _ _)) _ _ _ [((f : Int), (f : Int))] rfl (rp_lit wr #[.int .i64 (f : Nat), .int .i64 (f : Nat)] _ _ [((f : Int), (f : Int))] 1 rfl (by omega) rfl) (([] : List Span).length + 1) rfl (by omega) (by simp; omega) ?_)
            intro A2 c2 w3 ho3 hb3
            have hx3 := Lib.hid (hbw'.out.trans (((below_alloc wr _).mono hB0).trans hb3))
            have ho3' := Lib.hid ho3
            clear ho3 hb3
            go_wp2_with fail
            go_roundw
            case rel => exact ⟨q, k, A2, c2, ([] : List Span) ++ [((f : Int), (f : Int))], by omega, by simp; omega, by omega, by simp, rfl, hR2, by simpa using ho3'.out, hx3.out⟩
            case measure => simp [intOf]; omega
          case pos =>
          have g0 : decide ((q : Int) < (s.size : Int)) = true := by simp; omega
          have g1 : (q : Int) < (s.size : Int) := by omega
          have hq8 : s[q].toNat < 256 := UInt8.toNat_lt _
          by_cases h45 : s[q].toNat = 45
          case neg =>
            have g2 : ((s[q].toNat : Int) == 45) = false := by rw [beq_eq_false_iff_ne]; omega
            have hR2 : Hid (refRun k (([] : List Span) ++ [((f : Int), (f : Int))]) (s.data.toList.drop q) = R) := Lib.hid (hplain'.out rfl (by rw [(HG q hq).out]; intro h; simp at h; exact h45 (by rw [h]; rfl))).symm
            clear h45
            go_wp2_with fail
            refine cn.mono ?_
            rintro e wr ⟨rfl, rfl⟩
            clear cn
            have hB0 : w.heap.size ≤ wr.heap.size := hbw'.out.size
            go_wp2_with (at_builtin; apply stop_here)
            refine Stop.go (append_spans _ 22 40 _ Tryd.underlying22 info_span rfl rfl _ _ rfl w.heap.size _ ([] : List Span) rfl (hO'.out.below (below_alloc _ _)) _ _ _ [((f : Int), (f : Int))] rfl (rp_lit wr #[.int .i64 (f : Nat), .int .i64 (f : Nat)] _ _ [((f : Int), (f : Int))] 1 rfl (by omega) rfl) (([] : List Span).length + 1) rfl (by omega) (by simp; omega) ?_)
            intro A2 c2 w3 ho3 hb3
            have hx3 := Lib.hid (hbw'.out.trans (((below_alloc wr _).mono hB0).trans hb3))
            have ho3' := Lib.hid ho3
            clear ho3 hb3
            go_wp2_with fail
            go_roundw
            case rel => exact ⟨q, k, A2, c2, ([] : List Span) ++ [((f : Int), (f : Int))], by omega, by simp; omega, by omega, by simp, rfl, hR2, by simpa using ho3'.out, hx3.out⟩
            case measure => simp [intOf]; omega
          case pos =>
          have g2 : ((s[q].toNat : Int) == 45) = true := by rw [beq_iff_eq]; omega
          have hdash := hno'.out _ (one_dash hst.out (by rw [hnum'.out, (HG q hq).out, show s[q] = 45 by apply UInt8.toNat_inj.1; rw [h45]; rfl]))
          have hdash' := Lib.hid hdash
          clear hdash h45
          go_wp2_with fail
          refine cn.mono ?_
          rintro e wr ⟨rfl, rfl⟩
          clear cn
          have cn2 := number_any s (q + 1) (by omega) (by omega) wr
          cases hnum2 : num (s.data.toList.drop (q + 1)) with
          | none =>
            have hn : Hid (R = none) := Lib.hid (by rw [hdash'.out, hnum2])
            rw [numV_none hnum2] at cn2
            clear hnum2
            go_wp2_with fail
            refine cn2.mono ?_
            rintro e wr ⟨rfl, rfl⟩
            clear cn2
            go_wp2_with fail
            go_ret2
            exact fail'.out hn.out _ hbw'.out
          | some tr =>
            obtain ⟨t, r2⟩ := tr
            obtain ⟨q3, q4, q5, hrq, _⟩ := num_rest (by have := HL.out; omega) hnum2
            subst hrq
            have ht := num_lt hnum2
            rw [HL.out] at q5
            rw [numV_some hnum2 (by have := HL.out; omega)] at cn2
            by_cases htf : t = f
            · have hn : Hid (R = none) := Lib.hid (by rw [hdash'.out, hnum2]; simp only; rw [if_pos htf])
              subst htf
              clear hnum2
              go_wp2_with fail
              refine cn2.mono ?_
              rintro e wr ⟨rfl, rfl⟩
              clear cn2
              go_wp2_with fail
              go_ret2
              exact fail'.out hn.out _ hbw'.out
            · have hR2 : Hid (refRun k (([] : List Span) ++ [((f : Int), (t : Int))]) (s.data.toList.drop q3) = R) := Lib.hid (by rw [hdash'.out, hnum2]; simp only; rw [if_neg htf])
              have g3 : ((t : Int) == (f : Int)) = false := by rw [beq_eq_false_iff_ne]; omega
              have g4 : (t == f) = false := by rw [beq_eq_false_iff_ne]; omega
              clear hnum2 htf
              go_wp2_with fail
              refine cn2.mono ?_
              rintro e wr ⟨rfl, rfl⟩
              clear cn2
              have hB0 : w.heap.size ≤ wr.heap.size := hbw'.out.size
              go_wp2_with (at_builtin; apply stop_here)
              refine Stop.go (append_spans _ 22 40 _ Tryd.underlying22 info_span rfl rfl _ _ rfl w.heap.size _ ([] : List Span) rfl (hO'.out.below (below_alloc _ _)) _ _ _ [((f : Int), (t : Int))] rfl (rp_lit wr #[.int .i64 (f : Nat), .int .i64 (t : Nat)] _ _ [((f : Int), (t : Int))] 1 rfl (by omega) rfl) (([] : List Span).length + 1) rfl (by omega) (by simp; omega) ?_)
              intro A2 c2 w3 ho3 hb3
              have hx3 := Lib.hid (hbw'.out.trans (((below_alloc wr _).mono hB0).trans hb3))
              have ho3' := Lib.hid ho3
              clear ho3 hb3
              go_wp2_with fail
              go_roundw
              case rel => exact ⟨q3, k, A2, c2, ([] : List Span) ++ [((f : Int), (t : Int))], by omega, by simp; omega, by omega, by simp, rfl, hR2, by simpa using ho3'.out, hx3.out⟩
              case measure => simp [intOf]; omega
      case neg =>
        have hne : acc.isEmpty = false := by cases acc with | nil => exact absurd rfl hemp | cons _ _ => rfl
        have e0 : decide (0 < (acc.length : Int)) = true := by simp; omega
        have hemp' : 0 < acc.length := by omega
        by_cases h44 : s[a].toNat = 44
        case neg =>
          have hn : R = none := by
            have := hno'.out none (by
              have hs0 : strip acc.isEmpty (s[a] :: s.data.toList.drop (a + 1)) = none := by
                rw [hne, strip, if_neg (fun h => h44 (by rw [h]; rfl))]
              unfold one
              rw [hs0])
            exact this
          have e1 : ((s[a].toNat : Int) != 44) = true := by rw [bne_iff_ne]; omega
          have hn' := Lib.hid hn
          clear hemp hne h44 hn
          go_wp2_with fail
          go_ret2
          exact fail'.out hn'.out _ hbw'.out
        case pos =>
        have hst : Hid (strip acc.isEmpty (s[a] :: s.data.toList.drop (a + 1)) = some (s.data.toList.drop (a + 1))) := Lib.hid (by
          rw [hne, strip, if_pos (by apply UInt8.toNat_inj.1; rw [h44]; rfl)])
        have e1 : ((s[a].toNat : Int) != 44) = false := by rw [bne_eq_false_iff_eq]; omega
        clear hemp hne h44
        have cn := number_any s (a + 1) (by omega) (by omega) wr
        cases hnum : num (s.data.toList.drop (a + 1)) with
        | none =>
          have hn := Lib.hid (hno'.out _ (one_none hst.out hnum))
          rw [numV_none hnum] at cn
          clear hnum
          go_wp2_with fail
          refine cn.mono ?_
          rintro e wr ⟨rfl, rfl⟩
          clear cn
          go_wp2_with fail
          go_ret2
          exact fail'.out hn.out _ hbw'.out
        | some fr =>
          obtain ⟨f, r⟩ := fr
          obtain ⟨q, q1, q2, hrq, _⟩ := num_rest (by have := HL.out; omega) hnum
          subst hrq
          have hf := num_lt hnum
          rw [HL.out] at q2
          rw [numV_some hnum (by have := HL.out; omega)] at cn
          have hnum' := Lib.hid hnum
          clear hnum
          have hplain : s.data.toList.drop q = s.data.toList.drop q → (s.data.toList.drop q).head? ≠ some 45 → R = refRun k (acc ++ [((f : Int), (f : Int))]) (s.data.toList.drop q) := fun _ h => hno'.out _ (one_plain hst.out hnum'.out h)
          have hplain' := Lib.hid hplain
          clear hplain
          by_cases hq : q < s.size
          case neg =>
            have g0 : decide ((q : Int) < (s.size : Int)) = false := by simp; omega
            have hR2 : Hid (refRun k (acc ++ [((f : Int), (f : Int))]) (s.data.toList.drop q) = R) := Lib.hid (hplain'.out rfl (by rw [List.drop_eq_nil_of_le (by have := HL.out; omega)]; simp)).symm
            go_wp2_with fail
            refine cn.mono ?_
            rintro e wr ⟨rfl, rfl⟩
            clear cn
            have hB0 : w.heap.size ≤ wr.heap.size := hbw'.out.size
            go_wp2_with (at_builtin; apply stop_here)
            refine Stop.go (append_spans _ 22 40 _ Tryd.underlying22 info_span rfl rfl _ _ rfl w.heap.size _ acc rfl (hO'.out.below (below_alloc _ _)) _ _ _ [((f : Int), (f : Int))] rfl (rp_lit wr #[.int .i64 (f : Nat), .int .i64 (f : Nat)] _ _ [((f : Int), (f : Int))] 1 rfl (by omega) rfl) (acc.length + 1) rfl (by omega) (by simp; omega) ?_)
            intro A2 c2 w3 ho3 hb3
            have hx3 := Lib.hid (hbw'.out.trans (((below_alloc wr _).mono hB0).trans hb3))
            have ho3' := Lib.hid ho3
            clear ho3 hb3
            go_wp2_with fail
            go_roundw
            case rel => exact ⟨q, k, A2, c2, acc ++ [((f : Int), (f : Int))], by omega, by simp; omega, by omega, by simp, rfl, hR2, by simpa using ho3'.out, hx3.out⟩
            case measure => simp [intOf]; omega
          case pos =>
          have g0 : decide ((q : Int) < (s.size : Int)) = true := by simp; omega
          have g1 : (q : Int) < (s.size : Int) := by omega
          have hq8 : s[q].toNat < 256 := UInt8.toNat_lt _
          by_cases h45 : s[q].toNat = 45
          case neg =>
            have g2 : ((s[q].toNat : Int) == 45) = false := by rw [beq_eq_false_iff_ne]; omega
            have hR2 : Hid (refRun k (acc ++ [((f : Int), (f : Int))]) (s.data.toList.drop q) = R) := Lib.hid (hplain'.out rfl (by rw [(HG q hq).out]; intro h; simp at h; exact h45 (by rw [h]; rfl))).symm
            clear h45
            go_wp2_with fail
            refine cn.mono ?_
            rintro e wr ⟨rfl, rfl⟩
            clear cn
            have hB0 : w.heap.size ≤ wr.heap.size := hbw'.out.size
            go_wp2_with (at_builtin; apply stop_here)
            refine Stop.go (append_spans _ 22 40 _ Tryd.underlying22 info_span rfl rfl _ _ rfl w.heap.size _ acc rfl (hO'.out.below (below_alloc _ _)) _ _ _ [((f : Int), (f : Int))] rfl (rp_lit wr #[.int .i64 (f : Nat), .int .i64 (f : Nat)] _ _ [((f : Int), (f : Int))] 1 rfl (by omega) rfl) (acc.length + 1) rfl (by omega) (by simp; omega) ?_)
            intro A2 c2 w3 ho3 hb3
            have hx3 := Lib.hid (hbw'.out.trans (((below_alloc wr _).mono hB0).trans hb3))
            have ho3' := Lib.hid ho3
            clear ho3 hb3
            go_wp2_with fail
            go_roundw
            case rel => exact ⟨q, k, A2, c2, acc ++ [((f : Int), (f : Int))], by omega, by simp; omega, by omega, by simp, rfl, hR2, by simpa using ho3'.out, hx3.out⟩
            case measure => simp [intOf]; omega
          case pos =>
          have g2 : ((s[q].toNat : Int) == 45) = true := by rw [beq_iff_eq]; omega
          have hdash := hno'.out _ (one_dash hst.out (by rw [hnum'.out, (HG q hq).out, show s[q] = 45 by apply UInt8.toNat_inj.1; rw [h45]; rfl]))
          have hdash' := Lib.hid hdash
          clear hdash h45
          go_wp2_with fail
          refine cn.mono ?_
          rintro e wr ⟨rfl, rfl⟩
          clear cn
          have cn2 := number_any s (q + 1) (by omega) (by omega) wr
          cases hnum2 : num (s.data.toList.drop (q + 1)) with
          | none =>
            have hn : Hid (R = none) := Lib.hid (by rw [hdash'.out, hnum2])
            rw [numV_none hnum2] at cn2
            clear hnum2
            go_wp2_with fail
            refine cn2.mono ?_
            rintro e wr ⟨rfl, rfl⟩
            clear cn2
            go_wp2_with fail
            go_ret2
            exact fail'.out hn.out _ hbw'.out
          | some tr =>
            obtain ⟨t, r2⟩ := tr
            obtain ⟨q3, q4, q5, hrq, _⟩ := num_rest (by have := HL.out; omega) hnum2
            subst hrq
            have ht := num_lt hnum2
            rw [HL.out] at q5
            rw [numV_some hnum2 (by have := HL.out; omega)] at cn2
            by_cases htf : t = f
            · have hn : Hid (R = none) := Lib.hid (by rw [hdash'.out, hnum2]; simp only; rw [if_pos htf])
              subst htf
              clear hnum2
              go_wp2_with fail
              refine cn2.mono ?_
              rintro e wr ⟨rfl, rfl⟩
              clear cn2
              go_wp2_with fail
              go_ret2
              exact fail'.out hn.out _ hbw'.out
            · have hR2 : Hid (refRun k (acc ++ [((f : Int), (t : Int))]) (s.data.toList.drop q3) = R) := Lib.hid (by rw [hdash'.out, hnum2]; simp only; rw [if_neg htf])
              have g3 : ((t : Int) == (f : Int)) = false := by rw [beq_eq_false_iff_ne]; omega
              have g4 : (t == f) = false := by rw [beq_eq_false_iff_ne]; omega
              clear hnum2 htf
              go_wp2_with fail
              refine cn2.mono ?_
              rintro e wr ⟨rfl, rfl⟩
              clear cn2
              have hB0 : w.heap.size ≤ wr.heap.size := hbw'.out.size
              go_wp2_with (at_builtin; apply stop_here)
              refine Stop.go (append_spans _ 22 40 _ Tryd.underlying22 info_span rfl rfl _ _ rfl w.heap.size _ acc rfl (hO'.out.below (below_alloc _ _)) _ _ _ [((f : Int), (t : Int))] rfl (rp_lit wr #[.int .i64 (f : Nat), .int .i64 (t : Nat)] _ _ [((f : Int), (t : Int))] 1 rfl (by omega) rfl) (acc.length + 1) rfl (by omega) (by simp; omega) ?_)
              intro A2 c2 w3 ho3 hb3
              have hx3 := Lib.hid (hbw'.out.trans (((below_alloc wr _).mono hB0).trans hb3))
              have ho3' := Lib.hid ho3
              clear ho3 hb3
              go_wp2_with fail
              go_roundw
              case rel => exact ⟨q3, k, A2, c2, acc ++ [((f : Int), (t : Int))], by omega, by simp; omega, by omega, by simp, rfl, hR2, by simpa using ho3'.out, hx3.out⟩
              case measure => simp [intOf]; omega
end Go.Proofs.YtppmnelgekhbnaaDoor.IvW
