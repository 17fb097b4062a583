/- What bytes are as a manifest: the document's. -/
import Derived.Test.YtfdpnjebhllpkaaGreatDoorMMnCod
import Derived.Deep.RegionHeld3
import Derived.Deep.AppendLies
namespace Go.Proofs.YtfdpnjebhllpkaaGreatDoor.Ma
open Go.RowKit Go.Shelf

theorem below_dN {B : Nat} {a w : World} (h : Below B a w) (k : Nat) : Below B a (w.drewN k) := h.trans (Joins.below_draws _ _ _)
theorem below_wA {a w : World} (h : Below a.heap.size a w) (o : Obj) : Below a.heap.size a (w.alloc o) := h.alloc h.size o

theorem wrap_nat (n : Nat) (h : n < 9223372036854775808) : IntKind.i64.wrap (n : Int) = (n : Int) := by
  have e : (n : Int) % 2 ^ 64 = n := Int.emod_eq_of_lt (by omega) (by omega)
  simp only [IntKind.wrap, IntKind.bits, IntKind.signed, e]
  rw [if_neg]
  simp
  omega
theorem cell_new (w : World) (E : TypeId) (v : Value) (V : Nat) (h : w.heap.size = V) : (w.alloc (.cells #[v] E)).cell? ⟨V, 0, none⟩ = some v := by
  subst h
  exact World.cell?_alloc_at _ _ _ _ rfl
theorem OwZ.set_other {w : World} {B E b i : Nat} {v x : Value} {zs : List Int} (h : OwZ w B E v zs) (hb : b < B) : OwZ (w.setCell ⟨b, i, none⟩ x) B E v zs := by
  rcases h with ⟨h1, h2 | ⟨g, cap, cur, hv, hB, hh, hr⟩⟩
  · exact ⟨h1, .inl h2⟩
  · refine ⟨h1, .inr ⟨g, cap, cur, hv, hB, ?_, hr⟩⟩
    rw [Deep.blk_setCell_other _ _ _ _ (by simp only; omega)]
    exact hh
theorem mb_set2 {w : World} {b : Nat} {g la : Int} {A : Option Addr} {n c : Nat} (h : Mb w b g la A n c) (A' : Option Addr) (n' c' : Nat) :
    Mb (w.setCell ⟨b, 2, none⟩ (.slice A' n' c')) b g la A' n' c' := setCell_mb h (i := 2) (.slice A' n' c')
theorem nums_drop4 (r : List UInt8) (q : Nat) : (nums r (q + 4)).drop 4 = nums (r.drop 16) q := by
  rw [← nums_drop, ← nums_drop, ← nums_drop, ← nums_drop]
  simp [List.drop_drop]
theorem below_dA {a w : World} (h : Below a.heap.size a w) (k : Nat) (o : Obj) : Below a.heap.size a ((w.drewN k).alloc o) := below_wA (below_dN h k) o

/-- 'append(x, y)' at ints, as a step of a region that draws. -/
theorem step_append_ints {P : Program} {ops : Array Oper} {o : Oper} {a : Act} {K : Act → World → Prop} {Q : Exit → Act → World → Prop} {E0 : Prop} (w : World) (t e : TypeId) (ht : P.underlying t = some (.slice e))
    (hinfo : (P.info? e).map (fun i => (i.zero, i.size, i.bytes)) = some (some (.int .i64 0), 1, 8))
    (hgd : o.guard = none) (s x : Operand)
    (ho : o.op = .call { callee := .builtin .append, args := #[s, x], argTypes := #[t, t] })
    (B : Nat) (v : Value) (la : List Int) (hs : a.eval s = v) (hown : OwZ w B e v la)
    (b c : Nat) (z : Int) (hx : a.eval x = .slice (some ⟨b, 0, none⟩) 1 c) (hr : w.cell? ⟨b, 0, none⟩ = some (.int .i64 z))
    (N : Nat) (hN : la.length + 1 = N) (hsz : N ≤ 17592186044416) (hB : B ≤ w.heap.size)
    (h : ∀ A' c' w', OwZ w' B e (.slice A' N c') (la ++ [z]) → Below B w w' → K (a.put o.dst (.slice A' N c')) w') :
    if Region.wanted o (yielded ops a.tmps) = true then Oper.wp P o a w K Q else E0 := by
  obtain ⟨i, hi, hz, hsz', hby⟩ := info_parts hinfo
  refine step_append_lies w hgd s x t ho B e i _ 1 8 ht hi hz hsz' hby rfl (by omega) v la.length (la.map (Value.int .i64)) hs hown ⟨b, 0, none⟩ 1 c [.int .i64 z] hx rfl ?_ ?_ (by omega) (by unfold maxLen; omega) (by omega) hB _ rfl ?_
  · intro j u hu
    obtain rfl : j = 0 := by have := (List.getElem?_eq_some_iff.1 hu).1; simp at this; omega
    simp at hu
    subst hu
    exact hr
  · intro u hu
    simp at hu
    subst hu
    rfl
  · intro g cap w' h1 hg _ _
    rw [hN] at h1 ⊢
    refine h _ _ w' ?_ (below_of_grown hown hB hg)
    unfold OwZ
    rw [List.map_append, List.length_append, show la.length + [z].length = N from hN]
    exact h1

/-- What Decode's answer is: its segments in memory of the call's own. -/
def ToldF (T : Nat) (w : World) (d : Bool × Int × Int × List Int) (e : Ending) : Prop :=
  ∃ A n c, e = .returned (.tuple #[.agg #[.int .i64 d.2.1, .int .i64 d.2.2.1, .slice A n c], .bool d.1]) ∧ Is w A n c d.2.2.2 ∧ ∀ a, A = some a → 0 < n → T ≤ a.block

set_option maxHeartbeats 20000000 in
set_option maxRecDepth 100000 in
/-- The document's Decode: the segments lie in memory of the call's own. -/
theorem refDecodeF_any (A : Option Addr) (n c : Nat) (l : List UInt8) (w : World) (hBs : Bs w A n c l) :
    Calls Tryz.prog 109 #[.slice A n c] w fun e w' => ToldF w.heap.size w' (decM l) e ∧ Below w.heap.size w w' := by
  have hl := hBs.len
  have hle := Rd.le hBs
  have hm := Rd.max hBs
  obtain ⟨D, hD⟩ : ∃ D, decM l = D := ⟨_, rfl⟩
  have hD2 := hD
  unfold decM at hD2
  rw [hD]
  have hb0 := below_alloc w (.cells #[.int .i64 0, .int .i64 0, .slice none 0 0] 75)
  have c1 := FrW.refnext_any A n c l _ (hBs.below hb0)
  have hrl := next_rec_len l
  obtain ⟨N, hN⟩ : ∃ N, Fr.next l = N := ⟨_, rfl⟩
  obtain ⟨r, m, st⟩ := N
  rw [hN] at c1 hD2 hrl
  simp only at c1 hD2 hrl
  rw [hl] at hD2
  have hD' := Lib.hid hD2
  clear hD hD2 hN hl
  go_enter Tryz.func109, Tryz.ntmps109
  go_wp2_with fail
  refine c1.mono ?_
  rintro e w1 ⟨A1, cc1, rfl, ho1, hb1⟩
  have hx1 := Lib.hid (hb0.trans (hb1.mono hb0.size))
  have hz := Lib.hid ((mb_new w 0 0 none 0 0).below hb1)
  have hB1 := ho1.bs
  have hlt1 := OwB.lt ho1
  have hcc := Rd.le hB1
  have hccm := Rd.max hB1
  clear ho1 hb1 hb0 c1 hBs
  obtain ⟨f0, f1, f2, hsz⟩ := hz.out.mf
  have z0 := hz.out.frozen 0
  have z1 := hz.out.frozen 1
  have z2 := hz.out.frozen 2
  obtain ⟨L, hL⟩ : ∃ L, r.length = L := ⟨_, rfl⟩
  rw [hL] at hrl hcc hB1 hlt1 ⊢
  have hL' := Lib.hid hL
  clear hL
  by_cases h1 : st = 1
  case neg =>
    have hno : D = (false, 0, 0, []) := by rw [← hD'.out, if_neg (fun h => h1 h.1)]
    have t1 : ((st : Int) != 1) = true := by rw [bne_iff_ne]; omega
    clear h1
    go_wp2_with fail
    refine bodyPost_ret (res_mb rfl (mb_set hz.out 0 0 none 0 0) rfl rfl) rfl ?_
    try rw [hno]
    exact ⟨⟨none, 0, 0, rfl, Rd.none_ _, fun a h => (by cases h)⟩, below_set (below_set (below_set hx1.out (Nat.le_refl _) _) (Nat.le_refl _) _) (Nat.le_refl _) _⟩
  case pos =>
    have t1 : ((st : Int) != 1) = false := by rw [bne_eq_false_iff_eq]; omega
    by_cases h2 : m = n
    case neg =>
      have hno : D = (false, 0, 0, []) := by rw [← hD'.out, if_neg (fun h => h2 h.2)]
      have t2 : ((m : Int) != (n : Int)) = true := by rw [bne_iff_ne]; omega
      clear h1 h2
      go_wp2_with fail
      refine bodyPost_ret (res_mb rfl (mb_set hz.out 0 0 none 0 0) rfl rfl) rfl ?_
      try rw [hno]
      exact ⟨⟨none, 0, 0, rfl, Rd.none_ _, fun a h => (by cases h)⟩, below_set (below_set (below_set hx1.out (Nat.le_refl _) _) (Nat.le_refl _) _) (Nat.le_refl _) _⟩
    case pos =>
      have t2 : ((m : Int) != (n : Int)) = false := by rw [bne_eq_false_iff_eq]; omega
      have hrec : ofRec r = D := by rw [← hD'.out, if_pos ⟨h1, h2⟩]
      have hrec' := Lib.hid hrec
      clear hrec h1 h2 hD'
      by_cases h16 : 16 ≤ L
      case neg =>
        have hno : D = (false, 0, 0, []) := by rw [← hrec'.out, ofRec, if_neg (fun h => h16 (by rw [← hL'.out]; exact h.2.1))]
        have t3 : decide ((L : Int) < 16) = true := by simp; omega
        clear h16
        go_wp2_with fail
        refine bodyPost_ret (res_mb rfl (mb_set hz.out 0 0 none 0 0) rfl rfl) rfl ?_
        try rw [hno]
        exact ⟨⟨none, 0, 0, rfl, Rd.none_ _, fun a h => (by cases h)⟩, below_set (below_set (below_set hx1.out (Nat.le_refl _) _) (Nat.le_refl _) _) (Nat.le_refl _) _⟩
      case pos =>
        have t3 : decide ((L : Int) < 16) = false := by simp; omega
        have hcut := hB1.cut 0 4 (by omega) (by omega) A1 (fun b off h _ => by rw [h]; rfl) (fun h => h) (fun h => h)
        rw [List.drop_zero, Nat.sub_zero, Nat.sub_zero] at hcut
        have hcv := hcut.conv (P := Tryz.prog) (src := 22) (dst := 9) (e := 5) Tryz.underlying22 Tryz.underlying5 Tryz.underlying9
        have hc4 : (⟨#[82, 67, 77, 49]⟩ : ByteArray) = strOf mag := rfl
        have hc5 : [82, 67, 77, 49] = (⟨#[82, 67, 77, 49]⟩ : ByteArray).toList := by rw [Lib.toList_data]
        have j4 : (4 : Int) ≤ (L : Int) := by omega
        have j4' : (4 : Int) ≤ (cc1 : Int) := by omega
        by_cases hp : r.take 4 = mag
        case neg =>
          have hno : D = (false, 0, 0, []) := by rw [← hrec'.out, ofRec, if_neg (fun h => hp h.1)]
          have hsb : ((strOf (r.take 4)).toList == [82, 67, 77, 49]) = false := by
            rw [hc5, str_beq]
            refine decide_eq_false fun h => hp ?_
            rw [hc4] at h
            exact strOf_inj h
          clear hp hc4 hc5 hcut
          go_wp2_with fail
          refine bodyPost_ret (res_mb rfl (mb_set hz.out 0 0 none 0 0) rfl rfl) rfl ?_
          try rw [hno]
          exact ⟨⟨none, 0, 0, rfl, Rd.none_ _, fun a h => (by cases h)⟩, below_set (below_set (below_set hx1.out (Nat.le_refl _) _) (Nat.le_refl _) _) (Nat.le_refl _) _⟩
        case pos =>
          have hsb : ((strOf (r.take 4)).toList == [82, 67, 77, 49]) = true := by
            rw [hc5, str_beq]
            exact decide_eq_true (by rw [hp, hc4])
          by_cases h4 : L % 4 = 0
          case neg =>
            have hno : D = (false, 0, 0, []) := by rw [← hrec'.out, ofRec, if_neg (fun h => h4 (by rw [← hL'.out]; exact h.2.2))]
            have t4 : ((L : Int) % 4 != 0) = true := by rw [bne_iff_ne]; omega
            clear hp hc4 hc5 hcut
            go_wp2_with fail
            refine bodyPost_ret (res_mb rfl (mb_set hz.out 0 0 none 0 0) rfl rfl) rfl ?_
            try rw [hno]
            exact ⟨⟨none, 0, 0, rfl, Rd.none_ _, fun a h => (by cases h)⟩, below_set (below_set (below_set hx1.out (Nat.le_refl _) _) (Nat.le_refl _) _) (Nat.le_refl _) _⟩
          case pos =>
            have t4 : ((L : Int) % 4 != 0) = false := by rw [bne_eq_false_iff_eq]; omega
            have hp' := Lib.hid hp
            clear hp hc4 hc5 hcut z0 z1 z2 f0 f1 f2
            obtain ⟨b, off, x0, rfl, hbl, _, _, _⟩ := hB1.at_ (k := 0) (by omega)
            have hne4 : ¬ cc1 = 4 := by omega
            have hne8 : ¬ cc1 = 8 := by omega
            have j8 : (8 : Int) ≤ (L : Int) := by omega
            have hcutK : ∀ k, 4 ≤ k → k + 4 ≤ L → Bs w1 (some ⟨b, off + k, none⟩) (L - k) (cc1 - k) (r.drop k) := by
              intro k h1 h2
              have h := hB1.cut k L (by omega) (Nat.le_refl _) (some ⟨b, off + k, none⟩) (fun b' off' e _ => by injection e with e; injection e with e1 e2 _; rw [e1, e2]) (fun e => by cases e) (fun _ e => by cases e)
              rw [List.take_of_length_le (by rw [List.length_drop, hL'.out]; omega)] at h
              exact h
            have hget : ∀ k, 4 ≤ k → k + 4 ≤ L → ∀ W, Below w1.heap.size w1 W → Calls Tryz.prog 164 #[.slice (some ⟨b, off + k, none⟩) (L - k) (cc1 - k)] W fun e w' => e = .returned (.int .u32 (Fr.get (r.drop k) : Nat)) ∧ ∃ q, w' = W.drewN q := by
              intro k h1 h2 W hW
              exact FrW.get32_any _ _ _ _ W ((hcutK k h1 h2).below hW) (by omega)
            have g4 := hget 4 (by omega) (by omega)
            have g8 := hget 8 (by omega) (by omega)
            have e4 : Fr.get (r.drop 4) = num r 1 := rfl
            have e8 : Fr.get (r.drop 8) = num r 2 := rfl
            rw [e4] at g4
            rw [e8] at g8
            have b4 : num r 1 < 4294967296 := Fr.get_lt _
            have b8 : num r 2 < 4294967296 := Fr.get_lt _
            obtain ⟨y0, hy0⟩ : ∃ y, num r 1 = y := ⟨_, rfl⟩
            obtain ⟨y1, hy1⟩ : ∃ y, num r 2 = y := ⟨_, rfl⟩
            rw [hy0] at g4 b4
            rw [hy1] at g8 b8
            have hy0' := Lib.hid hy0
            have hy1' := Lib.hid hy1
            have hget' := Lib.hid hget
            have hcut' := Lib.hid hcutK
            clear hy0 hy1 e4 e8 hget hcutK
            go_upto_region 4 with fail
            go_cut [7] (fun v wx => v = .pointer (some ⟨w1.heap.size, 0, none⟩) ∧ Mb wx w1.heap.size y0 y1 none 0 0 ∧ Below w1.heap.size w1 wx)
            · have k0 : ∀ k j, (((w1.drewN k).alloc (.cells #[.int .i64 0, .int .i64 0, .slice none 0 0] 75)).drewN j).cell? ⟨w1.heap.size, 0, none⟩ = some (.int .i64 0) := fun k j => ((mb_new (w1.drewN k) 0 0 none 0 0).below (Joins.below_draws _ _ j)).mf.1
              have k1 : ∀ k j, (((w1.drewN k).alloc (.cells #[.int .i64 0, .int .i64 0, .slice none 0 0] 75)).drewN j).cell? ⟨w1.heap.size, 1, none⟩ = some (.int .i64 0) := fun k j => ((mb_new (w1.drewN k) 0 0 none 0 0).below (Joins.below_draws _ _ j)).mf.2.1
              have k2 : ∀ k j, (((w1.drewN k).alloc (.cells #[.int .i64 0, .int .i64 0, .slice none 0 0] 75)).drewN j).cell? ⟨w1.heap.size, 2, none⟩ = some (.slice none 0 0) := fun k j => ((mb_new (w1.drewN k) 0 0 none 0 0).below (Joins.below_draws _ _ j)).mf.2.2.1
              have k3 : ∀ k j i, (((w1.drewN k).alloc (.cells #[.int .i64 0, .int .i64 0, .slice none 0 0] 75)).drewN j).frozen? ⟨w1.heap.size, i, none⟩ = false := fun k j i => ((mb_new (w1.drewN k) 0 0 none 0 0).below (Joins.below_draws _ _ j)).frozen i
              have m0 : ∀ k, ((w1.drewN k).alloc (.cells #[.int .i64 0, .int .i64 0, .slice none 0 0] 75)).cell? ⟨w1.heap.size, 0, none⟩ = some (.int .i64 0) := fun k => (mb_new (w1.drewN k) 0 0 none 0 0).mf.1
              have m1 : ∀ k, ((w1.drewN k).alloc (.cells #[.int .i64 0, .int .i64 0, .slice none 0 0] 75)).cell? ⟨w1.heap.size, 1, none⟩ = some (.int .i64 0) := fun k => (mb_new (w1.drewN k) 0 0 none 0 0).mf.2.1
              have m2 : ∀ k, ((w1.drewN k).alloc (.cells #[.int .i64 0, .int .i64 0, .slice none 0 0] 75)).cell? ⟨w1.heap.size, 2, none⟩ = some (.slice none 0 0) := fun k => (mb_new (w1.drewN k) 0 0 none 0 0).mf.2.2.1
              have m3 : ∀ k i, ((w1.drewN k).alloc (.cells #[.int .i64 0, .int .i64 0, .slice none 0 0] 75)).frozen? ⟨w1.heap.size, i, none⟩ = false := fun k i => (mb_new (w1.drewN k) 0 0 none 0 0).frozen i
              have n0 : ∀ j, ((w1.alloc (.cells #[.int .i64 0, .int .i64 0, .slice none 0 0] 75)).drewN j).cell? ⟨w1.heap.size, 0, none⟩ = some (.int .i64 0) := fun j => ((mb_new w1 0 0 none 0 0).below (Joins.below_draws _ _ j)).mf.1
              have n1 : ∀ j, ((w1.alloc (.cells #[.int .i64 0, .int .i64 0, .slice none 0 0] 75)).drewN j).cell? ⟨w1.heap.size, 1, none⟩ = some (.int .i64 0) := fun j => ((mb_new w1 0 0 none 0 0).below (Joins.below_draws _ _ j)).mf.2.1
              have n2 : ∀ j, ((w1.alloc (.cells #[.int .i64 0, .int .i64 0, .slice none 0 0] 75)).drewN j).cell? ⟨w1.heap.size, 2, none⟩ = some (.slice none 0 0) := fun j => ((mb_new w1 0 0 none 0 0).below (Joins.below_draws _ _ j)).mf.2.2.1
              have n3 : ∀ j i, ((w1.alloc (.cells #[.int .i64 0, .int .i64 0, .slice none 0 0] 75)).drewN j).frozen? ⟨w1.heap.size, i, none⟩ = false := fun j i => ((mb_new w1 0 0 none 0 0).below (Joins.below_draws _ _ j)).frozen i
              have p0 : ((w1.alloc (.cells #[.int .i64 0, .int .i64 0, .slice none 0 0] 75)).drew).cell? ⟨w1.heap.size, 0, none⟩ = some (.int .i64 0) := ((mb_new w1 0 0 none 0 0).below (Below.refl _ _).drew).mf.1
              have p1 : ((w1.alloc (.cells #[.int .i64 0, .int .i64 0, .slice none 0 0] 75)).drew).cell? ⟨w1.heap.size, 1, none⟩ = some (.int .i64 0) := ((mb_new w1 0 0 none 0 0).below (Below.refl _ _).drew).mf.2.1
              have p2 : ((w1.alloc (.cells #[.int .i64 0, .int .i64 0, .slice none 0 0] 75)).drew).cell? ⟨w1.heap.size, 2, none⟩ = some (.slice none 0 0) := ((mb_new w1 0 0 none 0 0).below (Below.refl _ _).drew).mf.2.2.1
              have p3 : ∀ i, ((w1.alloc (.cells #[.int .i64 0, .int .i64 0, .slice none 0 0] 75)).drew).frozen? ⟨w1.heap.size, i, none⟩ = false := fun i => ((mb_new w1 0 0 none 0 0).below (Below.refl _ _).drew).frozen i
              go_region_held3 (fun w' => Below w1.heap.size w1 w')
                (with_reducible first | assumption | exact Joins.below_draws _ _ _ | exact Below.refl _ _ | exact below_dN (by assumption) _ | exact below_wA (Joins.below_draws _ _ _) _ | exact below_wA (by assumption) _ | exact Below.drew (below_wA (Below.refl _ _) _) | exact Below.drew (below_wA (by assumption) _) | exact below_dN (below_wA (Below.refl _ _) _) _ | exact below_dN (below_wA (Joins.below_draws _ _ _) _) _ | exact Below.drew (Below.refl _ _) | exact Below.drew (Joins.below_draws _ _ _) | exact Below.drew (by assumption) | exact below_set (below_set (below_set (by assumption) (Nat.le_refl _) _) (Nat.le_refl _) _) (Nat.le_refl _) _ | fail "NO ARM")
                (first | (go_at_call 164; with_reducible refine (g4 _ (by first | assumption | exact Joins.below_draws _ _ _)).mono ?_; rintro e w' ⟨rfl, q, rfl⟩) | (go_at_call 164; with_reducible refine (g8 _ (by first | assumption | exact Joins.below_draws _ _ _)).mono ?_; rintro e w' ⟨rfl, q, rfl⟩))
              all_goals clear k0 k1 k2 k3 m0 m1 m2 m3 n0 n1 n2 n3 p0 p1 p2 p3
              all_goals clear hget' hcut' g4 g8 hlt1 hB1 hcv
              all_goals go_wp2_with fail
              all_goals go_meet
              all_goals refine ⟨rfl, ?_, by assumption⟩
              all_goals rw [wrap_nat y0 (by omega), wrap_nat y1 (by omega)]
              · exact mb_set (mb_new (w1.drewN _) 0 0 none 0 0) y0 y1 none 0 0
              · exact mb_set ((mb_new (w1.drewN _) 0 0 none 0 0).below (Joins.below_draws _ _ _)) y0 y1 none 0 0
              · exact mb_set ((mb_new w1 0 0 none 0 0).below (Joins.below_draws _ _ _)) y0 y1 none 0 0
            obtain ⟨rfl, hmc, hbc⟩ := hcut
            clear g4 g8
            have hmc' := Lib.hid hmc
            have hbc' := Lib.hid hbc
            have hBr' := Lib.hid hB1
            clear hmc hbc hB1 hne4 hne8 j4 j4' j8 hsb hcv hbl
            obtain ⟨U, hU⟩ : ∃ U, w1.heap.size = U := ⟨_, rfl⟩
            have hU' := Lib.hid hU
            rw [hU] at hmc' ⊢
            clear hU
            go_wp2_with fail
            go_loopw [8] (fun v wr => ∃ (q i : Nat) (A3 : Option Addr) (c3 : Nat), i ≤ L ∧ Hid (i = 16 + 4 * q) ∧ q ≤ 1048576 ∧ v = .int .i64 (i : Nat) ∧
              Hid (Mb wr U y0 y1 A3 q c3) ∧ Hid (OwZ wr (U + 1) 3 (.slice A3 q c3) (nums (r.drop 16) q)) ∧ Hid (Below w1.heap.size w1 wr)) (fun v _ => L + 4 - (intOf v).toNat)
            case atStart => exact ⟨0, 16, none, 0, by omega, Lib.hid rfl, by omega, rfl, hmc', Lib.hid (OwZ.nil _ _ _), hbc'⟩
            case round =>
              obtain ⟨q, i, A3, c3, hi, hiq, hq, rfl, hmr, hoz, hbw⟩ := hrel
              by_cases hlt : i < L
              · have i0 : decide ((i : Int) < (L : Int)) = true := by simp; omega
                have i1 : i + 4 ≤ L := by have := hiq.out; omega
                have i2 : (i : Int) ≤ (L : Int) := by omega
                have hUr : U < wr.heap.size := hmr.out.lt
                have hgi := fun W (hW : Below wr.heap.size wr W) => hget'.out i (by have := hiq.out; omega) i1 W (hbw.out.trans (hW.mono hbw.out.size))
                have hnum : Fr.get (r.drop i) = num (r.drop 16) q := by rw [num, List.drop_drop, hiq.out]
                rw [hnum] at hgi
                have hnl : num (r.drop 16) q < 4294967296 := Fr.get_lt _
                have hnext : nums (r.drop 16) (q + 1) = nums (r.drop 16) q ++ [(num (r.drop 16) q : Int)] := rfl
                obtain ⟨z, hz'⟩ : ∃ z, num (r.drop 16) q = z := ⟨_, rfl⟩
                rw [hz'] at hgi hnl hnext
                have hnext' := Lib.hid hnext
                clear hnum hnext hz'
                have hqlen := nums_len (r.drop 16) q
                have hqlen' := Lib.hid hqlen
                have hcci : ¬ cc1 = i := by omega
                clear hqlen
                obtain ⟨V, hV⟩ : ∃ V, wr.heap.size = V := ⟨_, rfl⟩
                go_upto_region 8 with fail
                have HV := Lib.hid hV
                have hWz : IntKind.i64.wrap (z : Int) = (z : Int) := wrap_nat z (by omega)
                have LL : wr.cell? ⟨U, 2, none⟩ = some (.slice A3 q c3) := hmr.out.mf.2.2.1
                have L2 : ∀ k, ((wr.drewN k).alloc (.cells #[.int .i64 (z : Int)] 3)).cell? ⟨V, 0, none⟩ = some (.int .i64 (z : Int)) := fun k => cell_new _ _ _ _ (by simp [HV.out])
                have L0 : ∀ k, (wr.drewN k).cell? ⟨U, 2, none⟩ = some (.slice A3 q c3) := fun k => (hmr.out.below (Joins.below_draws _ _ k)).mf.2.2.1
                have L1 : ∀ k o, ((wr.drewN k).alloc o).cell? ⟨U, 2, none⟩ = some (.slice A3 q c3) := fun k o => (hmr.out.below (below_dA (Below.refl _ _) k o)).mf.2.2.1
                go_region_law (first
                  | (refine step_append_ints _ 37 3 Tryz.underlying37 i64_info rfl _ _ rfl (U + 1) _ _ rfl (hoz.out.below (by first | exact Joins.below_draws _ _ _ | exact below_dA (Below.refl _ _) _ _)) _ _ (z : Int) rfl (by exact L2 _) (q + 1) (by rw [hqlen'.out]) (by omega) (by have := hbw.out.size; simp; omega) ?_; intro A' c' w' h1 h2; have hmq := (h2.block U (by omega)).trans (hmr.out.below (below_dA (Below.refl _ _) _ _)); have hbq := hbw.out.trans (((below_dA (Below.refl wr.heap.size wr) _ _).mono hbw.out.size).trans (h2.mono (by rw [hU'.out]; omega))); have c2 := Mb.mf hmq |>.2.2.1; have z2 := Mb.frozen hmq 2)
                  | (go_simp; go_at_call 164; refine (hgi _ (by first | exact Joins.below_draws _ _ _ | exact below_dA (Below.refl _ _) _ _)).mono ?_; rintro e w' ⟨rfl, dq, rfl⟩))
                all_goals have h1' := Lib.hid (OwZ.set_other (i := 2) (x := .slice A' (q + 1) c') h1 (Nat.lt_succ_self U))
                all_goals have hm2' := Lib.hid (mb_set2 hmq A' (q + 1) c')
                all_goals have hb2' := Lib.hid (below_set hbq (i := 2) (b := U) (by rw [hU'.out]; exact Nat.le_refl _) (.slice A' (q + 1) c'))
                all_goals clear h1 h2 hmq hbq c2 z2 L0 L1 L2 LL hgi hV hWz
                all_goals go_wp2_with fail
                all_goals go_roundw
                case rel | rel | rel => exact ⟨q + 1, i + 4, A', c', by omega, Lib.hid (by have := hiq.out; omega), by have := hiq.out; omega, by go_num, hm2', by rw [hnext'.out]; exact h1', hb2'⟩
                all_goals (simp [intOf]; omega)
              · have i0 : decide ((i : Int) < (L : Int)) = false := by simp; omega
                have hqL : L = 16 + 4 * q := by have := hiq.out; omega
                have hUr : U < wr.heap.size := hmr.out.lt
                have hg12 := fun W (hW : Below wr.heap.size wr W) => hget'.out 12 (by omega) (by omega) W (hbw.out.trans (hW.mono hbw.out.size))
                have e12 : Fr.get (r.drop 12) = num r 3 := rfl
                rw [e12] at hg12
                obtain ⟨y2, hy2⟩ : ∃ y, num r 3 = y := ⟨_, rfl⟩
                rw [hy2] at hg12
                have hy2b : y2 < 4294967296 := by rw [← hy2]; exact Fr.get_lt _
                have hwy2 : IntKind.i64.wrap (y2 : Int) = (y2 : Int) := wrap_nat y2 (by omega)
                have hrd' := Lib.hid hoz.out.rd
                have hIs : Is wr A3 q c3 (nums (r.drop 16) q) := hrd'.out
                obtain ⟨ss, hss⟩ : ∃ ss, nums (r.drop 16) q = ss := ⟨_, rfl⟩
                have hof : D = if y2 = q ∧ mayM y0 y1 ss = true then (true, (y0 : Int), (y1 : Int), ss) else (false, 0, 0, []) := by
                  have e1 : r.length / 4 = q + 4 := by rw [hL'.out]; omega
                  rw [← hrec'.out, ofRec, if_pos ⟨hp'.out, by rw [hL'.out]; omega, by rw [hL'.out]; exact h4⟩, e1, nums_drop4, hss, hy0'.out, hy1'.out, hy2, Nat.add_sub_cancel]
                rw [hss] at hIs
                have hof' := Lib.hid hof
                have hIs' := Lib.hid hIs
                have hge0 : ∀ a, A3 = some a → 0 < q → w.heap.size < a.block := by
                  intro a ha hq0
                  obtain ⟨b', off', e, _, _⟩ := hrd'.out.cell hq0
                  rw [ha] at e
                  injection e with e
                  subst e
                  have := (World.ownsRow.lt hoz.out b' (by rw [ha]; rfl)).1
                  have := hU'.out
                  simp only
                  omega
                have hge0' := Lib.hid hge0
                have hge : ∀ a, A3 = some a → 0 < q → a.block ≠ w.heap.size := fun a h1 h2 => by have := hge0 a h1 h2; omega
                have hge' := Lib.hid hge
                clear hof hss hy2 e12 hge hge0 hIs hqL
                have cG : ∀ d os, Calls Tryz.prog 164 #[.slice (some ⟨b, off + 12, none⟩) (L - 12) (cc1 - 12)] (Sort.grow (redrawn wr d) os) fun e w'' => e = .returned (.int .u32 (y2 : Nat)) ∧ ∃ p : Regrown, w'' = Sort.grow (redrawn wr p.d) p.os := fun d os =>
                  Calls.regrown_of ((hg12 _ (below_regrown wr d os)).mono fun e w'' h => ⟨h.1, by obtain ⟨_, q', rfl⟩ := h; exact Joins.below_draws _ _ _⟩)
                have cM : ∀ d os, Calls Tryz.prog 44 #[.agg #[.int .i64 y0, .int .i64 y1, .slice A3 q c3]] (Sort.grow (redrawn wr d) os) fun e w'' => e = .returned (.bool (mayM y0 y1 ss)) ∧ ∃ p : Regrown, w'' = Sort.grow (redrawn wr p.d) p.os := fun d os =>
                  Calls.regrown_of (refMay_any y0 y1 A3 q c3 ss _ (hIs'.out.below (below_regrown wr d os)))
                obtain ⟨g0, g1, g2, _⟩ := hmr.out.mf
                have m0 := cell_regrown g0
                have m1 := cell_regrown g1
                have m2 := cell_regrown g2
                have j12 : (12 : Int) ≤ (L : Int) := by omega
                have hne12 : ¬ cc1 = 12 := by omega
                clear hg12
                by_cases hy : y2 = q
                · have s1 : ((y2 : Int) != (q : Int)) = false := by rw [bne_eq_false_iff_eq]; omega
                  obtain ⟨M, hM⟩ : ∃ M, mayM y0 y1 ss = M := ⟨_, rfl⟩
                  rw [hM] at cM
                  cases M
                  · have hno : D = (false, 0, 0, []) := by rw [hof'.out, if_neg (fun h => by rw [hM] at h; cases h.2)]
                    clear hM hy
                    go_wp2_with fail
                    refine wp_region_quiet_below (by kernel_rfl) (by kernel_rfl) ?_
                    repeat (quiet_step (first | exact cM _ _ | exact cG _ _))
                    refine wpQuiet_nil ?_
                    intro _ hw'
                    obtain ⟨⟨dq, osq⟩, hw''⟩ := hw'
                    subst hw''
                    have hbQ := below_regrown wr dq osq
                    obtain ⟨wQ, hwQ⟩ : ∃ wQ, Sort.grow (redrawn wr dq) osq = wQ := ⟨_, rfl⟩
                    rw [hwQ] at hbQ ⊢
                    clear hwQ
                    have hxr := Lib.hid (hx1.out.trans (hbw.out.mono hx1.out.size))
                    have hxQ := Lib.hid (hxr.out.trans (hbQ.mono hxr.out.size))
                    have hzQ := Lib.hid (hz.out.below (hbw.out.trans (hbQ.mono hbw.out.size)))
                    have hmQ := Lib.hid (hmr.out.below hbQ)
                    have hIQ := Lib.hid (hIs'.out.below hbQ)
                    obtain ⟨f0, f1, f2, _⟩ := hzQ.out.mf
                    obtain ⟨p0, p1, p2, _⟩ := hmQ.out.mf
                    have z0 := hzQ.out.frozen 0
                    have z1 := hzQ.out.frozen 1
                    have z2 := hzQ.out.frozen 2
                    clear hbQ m0 m1 m2 cG cM g0 g1 g2
                    go_wp2_with fail
                    refine bodyPost_ret (res_mb rfl (mb_set hzQ.out 0 0 none 0 0) rfl rfl) rfl ?_
                    try rw [hno]
                    exact ⟨⟨none, 0, 0, rfl, Rd.none_ _, fun a h => (by cases h)⟩, below_set (below_set (below_set hxQ.out (Nat.le_refl _) _) (Nat.le_refl _) _) (Nat.le_refl _) _⟩
                  · have hyes' := Lib.hid (show D = (true, (y0 : Int), (y1 : Int), ss) by rw [hof'.out, if_pos ⟨hy, hM⟩])
                    clear hM hy
                    go_wp2_with fail
                    refine wp_region_quiet_below (by kernel_rfl) (by kernel_rfl) ?_
                    repeat (quiet_step (first | exact cM _ _ | exact cG _ _))
                    refine wpQuiet_nil ?_
                    intro _ hw'
                    obtain ⟨⟨dq, osq⟩, hw''⟩ := hw'
                    subst hw''
                    have hbQ := below_regrown wr dq osq
                    obtain ⟨wQ, hwQ⟩ : ∃ wQ, Sort.grow (redrawn wr dq) osq = wQ := ⟨_, rfl⟩
                    rw [hwQ] at hbQ ⊢
                    clear hwQ
                    have hxr := Lib.hid (hx1.out.trans (hbw.out.mono hx1.out.size))
                    have hxQ := Lib.hid (hxr.out.trans (hbQ.mono hxr.out.size))
                    have hzQ := Lib.hid (hz.out.below (hbw.out.trans (hbQ.mono hbw.out.size)))
                    have hmQ := Lib.hid (hmr.out.below hbQ)
                    have hIQ := Lib.hid (hIs'.out.below hbQ)
                    obtain ⟨f0, f1, f2, _⟩ := hzQ.out.mf
                    obtain ⟨p0, p1, p2, _⟩ := hmQ.out.mf
                    have z0 := hzQ.out.frozen 0
                    have z1 := hzQ.out.frozen 1
                    have z2 := hzQ.out.frozen 2
                    clear hbQ m0 m1 m2 cG cM g0 g1 g2
                    go_wp2_with fail
                    refine bodyPost_ret (res_mb rfl (mb_set hzQ.out y0 y1 A3 q c3) rfl rfl) rfl ?_
                    rw [hyes'.out]
                    exact ⟨⟨A3, q, c3, rfl, rd_set (rd_set (rd_set hIQ.out hge'.out _) hge'.out _) hge'.out _, fun a h1 h2 => Nat.le_of_lt (hge0'.out a h1 h2)⟩, below_set (below_set (below_set hxQ.out (Nat.le_refl _) _) (Nat.le_refl _) _) (Nat.le_refl _) _⟩
                · have hno : D = (false, 0, 0, []) := by rw [hof'.out, if_neg (fun h => hy h.1)]
                  have s1 : ((y2 : Int) != (q : Int)) = true := by rw [bne_iff_ne]; omega
                  clear hy
                  go_wp2_with fail
                  refine wp_region_quiet_below (by kernel_rfl) (by kernel_rfl) ?_
                  repeat (quiet_step (first | exact cM _ _ | exact cG _ _))
                  refine wpQuiet_nil ?_
                  intro _ hw'
                  obtain ⟨⟨dq, osq⟩, hw''⟩ := hw'
                  subst hw''
                  have hbQ := below_regrown wr dq osq
                  obtain ⟨wQ, hwQ⟩ : ∃ wQ, Sort.grow (redrawn wr dq) osq = wQ := ⟨_, rfl⟩
                  rw [hwQ] at hbQ ⊢
                  clear hwQ
                  have hxr := Lib.hid (hx1.out.trans (hbw.out.mono hx1.out.size))
                  have hxQ := Lib.hid (hxr.out.trans (hbQ.mono hxr.out.size))
                  have hzQ := Lib.hid (hz.out.below (hbw.out.trans (hbQ.mono hbw.out.size)))
                  have hmQ := Lib.hid (hmr.out.below hbQ)
                  have hIQ := Lib.hid (hIs'.out.below hbQ)
                  obtain ⟨f0, f1, f2, _⟩ := hzQ.out.mf
                  obtain ⟨p0, p1, p2, _⟩ := hmQ.out.mf
                  have z0 := hzQ.out.frozen 0
                  have z1 := hzQ.out.frozen 1
                  have z2 := hzQ.out.frozen 2
                  clear hbQ m0 m1 m2 cG cM g0 g1 g2
                  go_wp2_with fail
                  refine bodyPost_ret (res_mb rfl (mb_set hzQ.out 0 0 none 0 0) rfl rfl) rfl ?_
                  try rw [hno]
                  exact ⟨⟨none, 0, 0, rfl, Rd.none_ _, fun a h => (by cases h)⟩, below_set (below_set (below_set hxQ.out (Nat.le_refl _) _) (Nat.le_refl _) _) (Nat.le_refl _) _⟩
/-- The document's Decode. -/
theorem refDecode_any (A : Option Addr) (n c : Nat) (l : List UInt8) (w : World) (hBs : Bs w A n c l) :
    Calls Tryz.prog 109 #[.slice A n c] w fun e w' => Told w' (decM l) e ∧ Below w.heap.size w w' :=
  (refDecodeF_any A n c l w hBs).mono fun _ _ ⟨⟨A', n', c', h1, h2, _⟩, hb⟩ => ⟨⟨A', n', c', h1, h2⟩, hb⟩
end Go.Proofs.YtfdpnjebhllpkaaGreatDoor.Ma
