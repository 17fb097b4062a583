/- Which files a manifest needs: what the code asks of a name is what the document says. Plain. -/
import Derived.Test.YtfdpnjebhllpkaaGreatDoorMManMay2
import Derived.Test.YtfdpnjebhllpkaaGreatDoorMMnCod
import Derived.Shelf.Strconv.AtoiAll
import Derived.Shelf.Strconv.ErrVarAll
section
namespace Go.Proofs
open Go.Shelf Go.RowKit

shelf_lay LaysC.n172 Nm 172 at Tryz as Tryz.lays172

end Go.Proofs
namespace Go.Proofs.YtfdpnjebhllpkaaGreatDoor.Ma
open Go.RowKit Go.Shelf

/-- What the list's two errors' variables hold. -/
structure Ev (w : World) : Prop where
  syn : ∃ tp p, w.cell? ⟨1, 0, none⟩ = some (.iface tp p)
  rng : ∃ tp p, w.cell? ⟨2, 0, none⟩ = some (.iface tp p)

theorem lt_cell {w : World} {a : Addr} {v : Value} (h : w.cell? a = some v) : a.block < w.heap.size := World.block_lt_of_cell? w _ h

theorem Ev.below {w w' : World} (h : Ev w) (hb : Below w.heap.size w w') : Ev w' :=
  ⟨by obtain ⟨tp, p, h1⟩ := h.syn; exact ⟨tp, p, by rw [hb.cell (lt_cell h1)]; exact h1⟩, by obtain ⟨tp, p, h1⟩ := h.rng; exact ⟨tp, p, by rw [hb.cell (lt_cell h1)]; exact h1⟩⟩

theorem below_bytes (w : World) (t : ByteArray) : Below w.heap.size w (Lib.bytesWorld w 5 t) :=
  ⟨rfl, rfl, rfl, by rw [Lib.bytesWorld_size]; omega, fun k hk => Lib.bytesWorld_at_old w 5 t k hk⟩

/-- strconv.Atoi. -/
theorem atoi_any (s : ByteArray) (hs : s.size ≤ 1000000) (w : World) (hE : Ev w) :
    Calls Tryz.prog 63 #[.string s] w fun e w' => ∃ n er, e = .returned (.tuple #[.int .i64 n, er]) ∧
      ((er = .nilIface ∧ Lib.atoiAll s.data.toList = .ok n) ∨ ((∃ t a, er = .iface t (.pointer (some a))) ∧ ∀ m, Lib.atoiAll s.data.toList ≠ .ok m)) ∧ (-9223372036854775808 ≤ n ∧ n ≤ 9223372036854775807) ∧ Below w.heap.size w w' := by
  generalize h : Lib.atoiAll s.data.toList = R
  rcases R with n | _ | _
  ·
    refine (Any.strconv_Atoi_ok Tryz.lays172 s (by omega) n h w).mono ?_
    rintro e w' ⟨rfl, hw⟩
    refine ⟨n, .nilIface, rfl, .inl ⟨rfl, rfl⟩, Lib.atoiAll_bounds h, ?_⟩
    rcases hw with rfl | ⟨t, rfl⟩
    · exact Below.refl _ _
    · exact below_bytes w t
  ·
    obtain ⟨tp, p, hv⟩ := hE.syn
    refine (Any.strconv_Atoi_syntax Tryz.lays172 s (by omega) h (.iface tp p) w hv (.inr ⟨tp, p, rfl⟩)).mono ?_
    rintro e w' ⟨N, rfl, _, _, hb⟩
    exact ⟨0, _, rfl, .inr ⟨⟨_, _, rfl⟩, fun m hm => by cases hm⟩, by omega, hb⟩
  ·
    obtain ⟨tp, p, hv⟩ := hE.rng
    refine (Any.strconv_Atoi_range Tryz.lays172 s (by omega) h (.iface tp p) w hv (.inr ⟨tp, p, rfl⟩)).mono ?_
    rintro e w' ⟨N, rfl, _, _, hb⟩
    exact ⟨_, _, rfl, .inr ⟨⟨_, _, rfl⟩, fun m hm => by cases hm⟩, Lib.atoiSat_bounds _, hb⟩

theorem hasPrefix_man (r : List UInt8) : Lib.hasPrefix r man4 = decide (r.take 4 = man4) := by
  unfold Lib.hasPrefix
  rw [Bool.eq_iff_iff, decide_eq_true_eq]
  rw [List.isPrefixOf_iff_prefix, List.prefix_iff_eq_take]
  exact eq_comm

theorem trimPrefix_man {r : List UInt8} (h : r.take 4 = man4) : Lib.trimPrefix r man4 = r.drop 4 := by
  unfold Lib.trimPrefix
  rw [hasPrefix_man, decide_eq_true h, if_pos rfl]
  rfl

/-- What of a generation is returned. -/
def genV (p : Int × Bool) : Ending := .returned (.tuple #[.int .i64 p.1, .bool p.2])

theorem trim_size (r p : List UInt8) : (Lib.trimPrefix r p).length ≤ r.length := by
  unfold Lib.trimPrefix
  split
  · simp
  · exact Nat.le_refl _

set_option maxHeartbeats 1000000 in
set_option maxRecDepth 100000 in
/-- man.Generation. -/
theorem manGen_any (s : ByteArray) (hs : s.size ≤ 1000) (w : World) (hT : Nu.Tens w) (hE : Ev w) :
    Calls Tryz.prog 103 #[.string s] w fun e w' => e = genV (genC s.data.toList) ∧ Below w.heap.size w w' := by
  have HL : s.data.toList.length = s.size := by rw [Array.length_toList]; rfl
  obtain ⟨R, hR⟩ : ∃ R, genC s.data.toList = R := ⟨_, rfl⟩
  rw [hR]
  have hR2 := hR
  unfold genC at hR2
  have hR' := Lib.hid hR2
  clear hR hR2
  have c1 := cutPrefix_any s ⟨#[109, 97, 110, 46]⟩ w
  have e1 : Lib.hasPrefix s.data.toList (⟨#[109, 97, 110, 46]⟩ : ByteArray).data.toList = decide (s.data.toList.take 4 = man4) := hasPrefix_man _
  rw [e1] at c1
  have e2 : (strOf (Lib.trimPrefix s.data.toList (⟨#[109, 97, 110, 46]⟩ : ByteArray).data.toList)).size ≤ 1000 := by
    rw [strOf_size']
    have := trim_size s.data.toList (⟨#[109, 97, 110, 46]⟩ : ByteArray).data.toList
    omega
  obtain ⟨T, hT1⟩ : ∃ T, strOf (Lib.trimPrefix s.data.toList (⟨#[109, 97, 110, 46]⟩ : ByteArray).data.toList) = T := ⟨_, rfl⟩
  have hTd : s.data.toList.take 4 = man4 → T.data.toList = s.data.toList.drop 4 := fun h => by
    rw [← hT1]
    exact trimPrefix_man h
  rw [hT1] at c1 e2
  have hTd' := Lib.hid hTd
  have c2 := atoi_any T (by omega) w hE
  clear e1 hT1 hTd HL
  by_cases hp : s.data.toList.take 4 = man4
  case neg =>
    rw [decide_eq_false hp] at c1
    have hno : R = (0, false) := by
      rw [← hR'.out]
      split
      · rw [if_neg (fun h => hp h.1)]
      · rfl
    subst hno
    clear hp
    go_enter Tryz.func103, Tryz.ntmps103
    go_wp2_with fail
    refine c1.mono ?_
    rintro e w1 ⟨rfl, rfl⟩
    go_wp2_with fail
    refine c2.mono ?_
    rintro e w2 ⟨n, er, rfl, _, _, hb2⟩
    have hx2 := Lib.hid hb2
    clear hb2 c1 c2
    go_wp2_with fail
    go_ret2
    exact ⟨rfl, hx2.out⟩
  case pos =>
    rw [decide_eq_true hp] at c1
    have hTl := hTd'.out hp
    have hp' := Lib.hid hp
    have hTl' := Lib.hid hTl
    clear hp hTl
    go_enter Tryz.func103, Tryz.ntmps103
    go_wp2_with fail
    refine c1.mono ?_
    rintro e w1 ⟨rfl, rfl⟩
    go_wp2_with fail
    refine c2.mono ?_
    rintro e w2 ⟨n, er, rfl, hor, ⟨n0, n1⟩, hb2⟩
    have hx2 := Lib.hid hb2
    clear hb2 c1 c2
    rcases hor with ⟨rfl, hok⟩ | ⟨⟨t, ad, rfl⟩, hnot⟩
    · rw [hTl'.out] at hok
      have hRn : R = if okN n = true ∧ nameOf man4 n = s.data.toList then (n, true) else (0, false) := by
        rw [← hR'.out, hok]
        simp only
        by_cases hq : okN n = true ∧ nameOf man4 n = s.data.toList
        · rw [if_pos ⟨hp'.out, hq⟩, if_pos hq]
        · rw [if_neg (fun h => hq h.2), if_neg hq]
      have hRn' := Lib.hid hRn
      have hN := manName_any n
      have hEm := name_isEmpty [109, 97, 110, 46] (by simp) n
      obtain ⟨S, hS⟩ : ∃ S, strOf (nameOf [109, 97, 110, 46] n) = S := ⟨_, rfl⟩
      rw [hS] at hN hEm
      have hS' := Lib.hid hS
      clear hok hRn hS
      go_wp2_with fail
      refine (hN w2 (hT.below hx2.out)).mono ?_
      rintro e w3 ⟨rfl, hb3⟩
      have hx3 := Lib.hid (hx2.out.trans (hb3.mono hx2.out.size))
      clear hb3
      cases hkn : okN n
      · have hno : R = (0, false) := by rw [hRn'.out, hkn, if_neg (by simp)]
        subst hno
        rw [hkn, Bool.not_false] at hEm
        go_wp2_with fail
        go_ret2
        exact ⟨rfl, hx3.out⟩
      · rw [hkn, Bool.not_true] at hEm
        go_wp2_with fail
        refine (hN w3 (hT.below hx3.out)).mono ?_
        rintro e w4 ⟨rfl, hb4⟩
        have hx4 := Lib.hid (hx3.out.trans (hb4.mono hx3.out.size))
        clear hb4 hN
        by_cases hsn : S = s
        · have hyes : R = (n, true) := by
            rw [hRn'.out, if_pos ⟨hkn, by
              have := hS'.out.trans hsn
              have := congrArg (fun x : ByteArray => x.data.toList) this
              exact this⟩]
          subst hyes
          go_wp2_with fail
          go_ret2
          exact ⟨rfl, hx4.out⟩
        · have hno : R = (0, false) := by
            rw [hRn'.out, if_neg]
            rintro ⟨_, h2⟩
            apply hsn
            rw [← hS'.out]
            exact congrArg strOf h2
          subst hno
          have hsd : (S.toList == s.toList) = false := by rw [str_beq]; simp [hsn]
          go_wp2_with fail
          go_ret2
          exact ⟨rfl, hx4.out⟩
    · have hno : R = (0, false) := by
        rw [← hR'.out]
        split
        · rename_i m hm
          exact absurd (by rw [hTl'.out]; exact hm) (hnot m)
        · rfl
      subst hno
      clear hnot
      go_wp2_with fail
      go_ret2
      exact ⟨rfl, hx2.out⟩

def seg4 : List UInt8 := [115, 101, 103, 46]

/-- What Number tells of a name. -/
def numR (l : List UInt8) : Int × Bool :=
  if l.length = 12 ∧ l.take 4 = seg4 then
    match Lib.decFrom 0 (l.drop 4) with
    | some v => ((v : Int), decide (0 < v))
    | none => (0, false)
  else (0, false)

theorem dec_stop {l : List UInt8} {k a : Nat} {x : UInt8} (h : Lib.decFrom 0 (l.take k) = some a) (hx : l[k]? = some x) (hd : Lib.digitVal x = none) : Lib.decFrom 0 l = none := by
  have e : l = l.take k ++ (x :: l.drop (k + 1)) := by
    obtain ⟨h2, h3⟩ := List.getElem?_eq_some_iff.1 hx
    rw [← h3, ← List.drop_eq_getElem_cons h2, List.take_append_drop]
  rw [e, decFrom_append, h]
  show Lib.decFrom a (x :: _) = none
  rw [Lib.decFrom, hd]

theorem dec_next {l : List UInt8} {k a d : Nat} {x : UInt8} (h : Lib.decFrom 0 (l.take k) = some a) (hx : l[k]? = some x) (hd : Lib.digitVal x = some d) : Lib.decFrom 0 (l.take (k + 1)) = some (a * 10 + d) := by
  rw [take_snoc hx, decFrom_append, h]
  exact decFrom_one a x d hd

theorem ext_head (s : ByteArray) : s.extract 0 4 = strOf (s.data.toList.take 4) := by
  have := strOf_cut s.data.toList 0 4
  rw [List.drop_zero, Nat.sub_zero] at this
  exact this

theorem ext_tail (s : ByteArray) : s.extract 4 s.size = strOf (s.data.toList.drop 4) := by
  have h := strOf_cut s.data.toList 4 s.size
  have hl : s.data.toList.length = s.size := by rw [Array.length_toList]; rfl
  rw [List.take_of_length_le (by rw [List.length_drop]; omega)] at h
  exact h

set_option maxHeartbeats 1000000 in
set_option maxRecDepth 100000 in
/-- The document's Number. -/
theorem number_any (s : ByteArray) (hs : s.size ≤ 10000) (w : World) :
    Calls Tryz.prog 16 #[.string s] w fun e w' => e = genV (numR s.data.toList) ∧ w' = w := by
  have HL : Hid (s.data.toList.length = s.size) := Lib.hid (by rw [Array.length_toList]; rfl)
  obtain ⟨R, hR⟩ : ∃ R, numR s.data.toList = R := ⟨_, rfl⟩
  rw [hR]
  have hR2 := hR
  unfold numR at hR2
  have hR' := Lib.hid hR2
  clear hR hR2
  by_cases h12 : s.size = 12
  case neg =>
    have hno : R = (0, false) := by rw [← hR'.out, if_neg (fun h => h12 (by rw [← HL.out]; exact h.1))]
    subst hno
    have t1 : ((s.size : Int) != 12) = true := by rw [bne_iff_ne]; omega
    go_enter Tryz.func16, Tryz.ntmps16
    go_wp2_with fail
    go_ret2
    exact ⟨rfl, rfl⟩
  case pos =>
    have hc4 : (⟨#[115, 101, 103, 46]⟩ : ByteArray) = strOf seg4 := rfl
    have hc5 : [115, 101, 103, 46] = (⟨#[115, 101, 103, 46]⟩ : ByteArray).toList := by rw [Lib.toList_data]
    by_cases hp : s.data.toList.take 4 = seg4
    case neg =>
      have hno : R = (0, false) := by rw [← hR'.out, if_neg (fun h => hp h.2)]
      subst hno
      have hsb : ((s.extract 0 4).toList == [115, 101, 103, 46]) = false := by
        rw [hc5, str_beq]
        refine decide_eq_false fun h => hp ?_
        rw [ext_head, hc4] at h
        exact strOf_inj h
      have t2 : (4 : Int) ≤ (s.size : Int) := by omega
      clear hp hc4 hc5
      go_enter Tryz.func16, Tryz.ntmps16
      go_wp2_with fail
      go_ret2
      exact ⟨rfl, rfl⟩
    case pos =>
      have hsb : ((s.extract 0 4).toList == [115, 101, 103, 46]) = true := by
        rw [hc5, str_beq]
        refine decide_eq_true ?_
        rw [ext_head, hp, hc4]
      have hRr := hR'.out
      rw [if_pos ⟨by rw [HL.out]; exact h12, hp⟩] at hRr
      have hRr' := Lib.hid hRr
      have HG : ∀ (k : Nat) (h : k < s.size), Hid (s.data.toList[k]? = some s[k]) := fun k h => Lib.hid (List.getElem?_eq_getElem (by have := HL.out; omega))
      have t2 : (4 : Int) ≤ (s.size : Int) := by omega
      clear hp hc4 hc5 hRr
      go_enter Tryz.func16, Tryz.ntmps16
      go_wp2_with fail
      go_loop [4, 5] (fun nv v => ∃ (k a j : Nat), k ≤ 8 ∧ a < 10 ^ k ∧ nv = .int .i64 (a : Nat) ∧ v = .int .i64 (j : Nat) ∧ j ≤ 12 ∧ Hid (j = k + 4) ∧ Hid (Lib.decFrom 0 ((s.data.toList.drop 4).take k) = some a)) (fun _ v => 13 - (intOf v).toNat)
      case atStart => exact ⟨0, 0, 4, by omega, by simp, rfl, rfl, by omega, Lib.hid rfl, Lib.hid rfl⟩
      case round =>
        obtain ⟨k, a, j, hk, ha, rfl, rfl, hj, hjk, hd⟩ := hrel
        have ha8 : a < 100000000 := Nat.lt_of_lt_of_le ha (Nat.pow_le_pow_right (n := 10) (by omega) hk)
        by_cases hlt : j < 12
        · have i0 : decide ((j : Int) < 12) = true := by simp; omega
          have hjs : j < s.size := by omega
          have i1 : (j : Int) < (s.size : Int) := by omega
          have hgx := HG j hjs
          have hx8 : s[j].toNat < 256 := UInt8.toNat_lt _
          have hxd : (s.data.toList.drop 4)[k]? = some s[j] := by
            rw [List.getElem?_drop, ← hgx.out, hjk.out, Nat.add_comm]
          have hxd' := Lib.hid hxd
          have hpow : Hid (∀ b, b < 10 → a * 10 + b < 10 ^ (k + 1)) := Lib.hid (fun b hb => by rw [Nat.pow_succ]; omega)
          clear hxd ha
          by_cases hdig : 48 ≤ s[j].toNat ∧ s[j].toNat ≤ 57
          · obtain ⟨h48, h57⟩ := hdig
            have hdv : Lib.digitVal s[j] = some (s[j].toNat - 48) := by unfold Lib.digitVal; rw [if_pos ⟨h48, h57⟩]
            have hdv' := Lib.hid hdv
            have d1 : decide ((s[j].toNat : Int) < 48) = false := by simp; omega
            have d2 : decide ((57 : Int) < (s[j].toNat : Int)) = false := by simp; omega
            have d3 : ((s[j].toNat : Int) - 48) % 256 = (s[j].toNat : Int) - 48 := by omega
            clear hdv
            go_wp2_with fail
            go_round
            case rel => exact ⟨k + 1, a * 10 + (s[j].toNat - 48), j + 1, by have := hjk.out; omega, hpow.out _ (by omega), val_int (by omega), by go_num, by omega, Lib.hid (by have := hjk.out; omega), Lib.hid (dec_next hd.out hxd'.out hdv'.out)⟩
            case measure => simp [intOf]; omega
          · have hdv : Lib.digitVal s[j] = none := by unfold Lib.digitVal; rw [if_neg hdig]
            have hno : R = (0, false) := by rw [← hRr'.out, dec_stop hd.out hxd'.out hdv]
            have hdig' := Lib.hid hdig
            subst hno
            clear hdv hdig
            by_cases h48 : s[j].toNat < 48
            · have d1 : decide ((s[j].toNat : Int) < 48) = true := by simp; omega
              go_wp2_with fail
              go_ret2
              exact ⟨rfl, rfl⟩
            · have d1 : decide ((s[j].toNat : Int) < 48) = false := by simp; omega
              have d2 : decide ((57 : Int) < (s[j].toNat : Int)) = true := by have := hdig'.out; simp; omega
              go_wp2_with fail
              go_ret2
              exact ⟨rfl, rfl⟩
        · have i0 : decide ((j : Int) < 12) = false := by simp; omega
          obtain rfl : j = 12 := by omega
          obtain rfl : k = 8 := by have := hjk.out; omega
          have hfin := hd.out
          rw [List.take_of_length_le (by rw [List.length_drop]; have := HL.out; omega)] at hfin
          have hr : R = ((a : Int), decide (0 < a)) := by rw [← hRr'.out, hfin]
          have hr' := Lib.hid hr
          clear hr hfin ha
          go_wp2_with fail
          go_ret2
          rw [hr'.out]
          exact ⟨by simp [genV], rfl⟩

set_option maxHeartbeats 1000000 in
set_option maxRecDepth 100000 in
/-- The document's Generation. -/
theorem refGen_any (s : ByteArray) (hs : s.size ≤ 1000) (w : World) :
    Calls Tryz.prog 108 #[.string s] w fun e w' => e = genV (genR s.data.toList) ∧ w' = w := by
  have HL : Hid (s.data.toList.length = s.size) := Lib.hid (by rw [Array.length_toList]; rfl)
  obtain ⟨R, hR⟩ : ∃ R, genR s.data.toList = R := ⟨_, rfl⟩
  rw [hR]
  have hR2 := hR
  unfold genR at hR2
  have hR' := Lib.hid hR2
  clear hR hR2
  by_cases h12 : s.size = 12
  case neg =>
    have hno : R = (0, false) := by rw [← hR'.out, if_neg (fun h => h12 (by rw [← HL.out]; exact h.1))]
    subst hno
    have t1 : ((s.size : Int) != 12) = true := by rw [bne_iff_ne]; omega
    go_enter Tryz.func108, Tryz.ntmps108
    go_wp2_with fail
    go_ret2
    exact ⟨rfl, rfl⟩
  case pos =>
    have hc4 : (⟨#[109, 97, 110, 46]⟩ : ByteArray) = strOf man4 := rfl
    have hc5 : [109, 97, 110, 46] = (⟨#[109, 97, 110, 46]⟩ : ByteArray).toList := by rw [Lib.toList_data]
    by_cases hp : s.data.toList.take 4 = man4
    case neg =>
      have hno : R = (0, false) := by rw [← hR'.out, if_neg (fun h => hp h.2)]
      subst hno
      have hsb : ((s.extract 0 4).toList == [109, 97, 110, 46]) = false := by
        rw [hc5, str_beq]
        refine decide_eq_false fun h => hp ?_
        rw [ext_head, hc4] at h
        exact strOf_inj h
      have t2 : (4 : Int) ≤ (s.size : Int) := by omega
      clear hp hc4 hc5
      go_enter Tryz.func108, Tryz.ntmps108
      go_wp2_with fail
      go_ret2
      exact ⟨rfl, rfl⟩
    case pos =>
      have hsb : ((s.extract 0 4).toList == [109, 97, 110, 46]) = true := by
        rw [hc5, str_beq]
        refine decide_eq_true ?_
        rw [ext_head, hp, hc4]
      have t2 : (4 : Int) ≤ (s.size : Int) := by omega
      obtain ⟨X, hX⟩ : ∃ X, s.extract 4 s.size = X := ⟨_, rfl⟩
      have hXd : X.data.toList = s.data.toList.drop 4 := by rw [← hX, ext_tail]; rfl
      have hXs : X.size = 8 := by rw [← hX, ext_tail, strOf_size', List.length_drop, HL.out]; omega
      have hadd := fun w => run_string_add_sum (P := Tryz.prog) w ⟨#[115, 101, 103, 46]⟩ X (by rw [hXs]; decide)
      obtain ⟨Y, hY⟩ : ∃ Y, (⟨#[115, 101, 103, 46]⟩ ++ X : ByteArray) = Y := ⟨_, rfl⟩
      have hYd : Y.data.toList = seg4 ++ s.data.toList.drop 4 := by rw [← hY, ByteArray.data_append, Array.toList_append, hXd]; rfl
      have hYs : Y.size = 12 := by rw [← hY, ByteArray.size_append, hXs]; rfl
      have hnum : numR Y.data.toList = R := by
        rw [← hR'.out, if_pos ⟨by rw [HL.out]; exact h12, hp⟩, hYd]
        unfold numR
        rw [if_pos ⟨by rw [List.length_append, List.length_drop, HL.out, h12]; rfl, rfl⟩]
        rfl
      have c1 := number_any Y (by omega) w
      rw [hnum] at c1
      unfold genV at c1
      rw [h12] at hX
      rw [hY] at hadd
      clear hXd hY hYd hnum hp hc4 hc5
      go_enter Tryz.func108, Tryz.ntmps108
      go_wp2_with fail
      refine c1.mono ?_
      rintro e w1 ⟨rfl, rfl⟩
      go_wp2_with fail
      go_ret2
      exact ⟨rfl, rfl⟩

/-- The document's Name. -/
theorem refName_any (n : Int) (w : World) :
    Calls Tryz.prog 110 #[.int .i64 n] w fun e w' => e = .returned (.string (strOf (nameOf man4 n))) ∧ Below w.heap.size w w' := by
  cases hok : okN n
  · have hno : nameOf man4 n = [] := by unfold nameOf; rw [hok, if_neg (by simp)]
    rw [hno]
    go_enter Tryz.func110, Tryz.ntmps110
    go_wp2_with fail
    refine (may7_any n w).mono ?_
    rintro e w1 ⟨rfl, rfl⟩
    rw [hok]
    go_wp2_with fail
    go_ret
    exact ⟨rfl, Below.refl _ _⟩
  · obtain ⟨k, rfl, h1, h2⟩ := okN_nat hok
    have hadd := fun w => run_string_add_sum (P := Tryz.prog) w ⟨#[109, 97, 110, 46]⟩ (strOf (Nu.eight k)) (by rw [strOf_size', Nu.eight_len]; decide)
    have hsum : (⟨#[109, 97, 110, 46]⟩ ++ strOf (Nu.eight k) : ByteArray) = strOf (nameOf man4 k) := by
      unfold nameOf
      rw [hok, if_pos rfl, ← strOf_add]
      rfl
    rw [hsum] at hadd
    have c1 := eight_any k h2 w
    obtain ⟨X, hX⟩ : ∃ X, strOf (Nu.eight k) = X := ⟨_, rfl⟩
    obtain ⟨Y, hY⟩ : ∃ Y, strOf (nameOf man4 k) = Y := ⟨_, rfl⟩
    rw [hX, hY] at hadd
    rw [hX] at c1
    rw [hY]
    clear hsum hX hY
    go_enter Tryz.func110, Tryz.ntmps110
    go_wp2_with fail
    refine (may7_any k w).mono ?_
    rintro e w1 ⟨rfl, rfl⟩
    rw [hok]
    go_wp2_with fail
    refine c1.mono ?_
    rintro e w2 ⟨rfl, hb⟩
    have hx := Lib.hid hb
    clear hb c1
    go_wp2_with fail
    go_ret
    exact ⟨rfl, hx.out⟩
end Go.Proofs.YtfdpnjebhllpkaaGreatDoor.Ma
end

section
namespace Go.Proofs.YtfdpnjebhllpkaaGreatDoor.Ma
open Go.RowKit Go.Shelf Go.Lib

/-- What the code tells of a name. -/
def segC (l : List UInt8) : Int × Bool :=
  match atoiAll (l.drop 4) with
  | .ok n => if l.take 4 = seg4 ∧ okN n = true ∧ nameOf seg4 n = l then (n, true) else (0, false)
  | _ => (0, false)

theorem numR_of_name {n : Int} (h : okN n = true) : numR (nameOf seg4 n) = (n, true) := by
  obtain ⟨k, rfl, h1, h2⟩ := okN_nat h
  have e : nameOf seg4 k = seg4 ++ Nu.eight k := by unfold nameOf; rw [h, if_pos rfl]; rfl
  have hl := Nu.eight_len k
  have hd : (seg4 ++ Nu.eight k).drop 4 = Nu.eight k := rfl
  unfold numR
  rw [e, if_pos ⟨by rw [List.length_append, hl]; rfl, rfl⟩, hd, Nu.eight, dec_digits 8 k 0 (by omega)]
  simp
  omega

/-- THE LAW OF Number. -/
theorem seg_eq (l : List UInt8) : segC l = numR l := by
  have back : ∀ n, okN n = true → nameOf seg4 n = l → numR l = (n, true) := fun n h1 h2 => by rw [← h2]; exact numR_of_name h1
  by_cases hr : (numR l).2 = true
  · -- the document tells a number
    have hr2 := hr
    unfold numR at hr2
    split at hr2
    · rename_i h
      cases hd : decFrom 0 (l.drop 4) with
      | none => rw [hd] at hr2; cases hr2
      | some v =>
        rw [hd] at hr2
        simp only [decide_eq_true_eq] at hr2
        have hl8 : (l.drop 4).length = 8 := by rw [List.length_drop]; omega
        have hdig := digits_dec 8 v (l.drop 4) hl8 hd
        have hv := decFrom_lt (l.drop 4) 0 v hd
        rw [hl8] at hv
        have hv2 : v ≤ 99999999 := by simp at hv; omega
        have hok : okN (v : Int) = true := by unfold okN; rw [decide_eq_true_eq]; omega
        have hname : nameOf seg4 (v : Int) = l := by
          unfold nameOf
          rw [hok, if_pos rfl, Int.toNat_natCast, ← h.2, show Nu.eight v = l.drop 4 from hdig.symm, List.take_append_drop]
        rw [back v hok hname]
        unfold segC
        rw [show l.drop 4 = Nu.eight v from hdig, atoi_eight hv2]
        simp only
        rw [if_pos ⟨h.2, hok, hname⟩]
    · cases hr2
  · have hz : numR l = (0, false) := by
      unfold numR at hr ⊢
      split
      · rename_i h
        rw [if_pos h] at hr
        cases hd : decFrom 0 (l.drop 4) with
        | none => rfl
        | some v =>
          rw [hd] at hr
          simp only [decide_eq_true_eq] at hr
          obtain rfl : v = 0 := by omega
          rfl
      · rfl
    rw [hz]
    unfold segC
    generalize ha : atoiAll (l.drop 4) = R
    rcases R with n | _ | _
    case ok =>
      simp only
      rw [if_neg]
      rintro ⟨_, h2, h3⟩
      rw [back n h2 h3] at hz
      cases hz
    all_goals rfl
theorem hasPrefix_seg (r : List UInt8) : Lib.hasPrefix r seg4 = decide (r.take 4 = seg4) := by
  unfold Lib.hasPrefix
  rw [Bool.eq_iff_iff, decide_eq_true_eq]
  rw [List.isPrefixOf_iff_prefix, List.prefix_iff_eq_take]
  exact eq_comm

theorem trimPrefix_seg {r : List UInt8} (h : r.take 4 = seg4) : Lib.trimPrefix r seg4 = r.drop 4 := by
  unfold Lib.trimPrefix
  rw [hasPrefix_seg, decide_eq_true h, if_pos rfl]
  rfl

set_option maxHeartbeats 1000000 in
set_option maxRecDepth 100000 in
/-- seg.Number. -/
theorem segNum_any (s : ByteArray) (hs : s.size ≤ 1000) (w : World) (hT : Nu.Tens w) (hE : Ev w) :
    Calls Tryz.prog 15 #[.string s] w fun e w' => e = genV (segC s.data.toList) ∧ Below w.heap.size w w' := by
  have HL : s.data.toList.length = s.size := by rw [Array.length_toList]; rfl
  obtain ⟨R, hR⟩ : ∃ R, segC s.data.toList = R := ⟨_, rfl⟩
  rw [hR]
  have hR2 := hR
  unfold segC at hR2
  have hR' := Lib.hid hR2
  clear hR hR2
  have c1 := cutPrefix_any s ⟨#[115, 101, 103, 46]⟩ w
  have e1 : Lib.hasPrefix s.data.toList (⟨#[115, 101, 103, 46]⟩ : ByteArray).data.toList = decide (s.data.toList.take 4 = seg4) := hasPrefix_seg _
  rw [e1] at c1
  have e2 : (strOf (Lib.trimPrefix s.data.toList (⟨#[115, 101, 103, 46]⟩ : ByteArray).data.toList)).size ≤ 1000 := by
    rw [strOf_size']
    have := trim_size s.data.toList (⟨#[115, 101, 103, 46]⟩ : ByteArray).data.toList
    omega
  obtain ⟨T, hT1⟩ : ∃ T, strOf (Lib.trimPrefix s.data.toList (⟨#[115, 101, 103, 46]⟩ : ByteArray).data.toList) = T := ⟨_, rfl⟩
  have hTd : s.data.toList.take 4 = seg4 → T.data.toList = s.data.toList.drop 4 := fun h => by
    rw [← hT1]
    exact trimPrefix_seg h
  rw [hT1] at c1 e2
  have hTd' := Lib.hid hTd
  have c2 := atoi_any T (by omega) w hE
  clear e1 hT1 hTd HL
  by_cases hp : s.data.toList.take 4 = seg4
  case neg =>
    rw [decide_eq_false hp] at c1
    have hno : R = (0, false) := by
      rw [← hR'.out]
      split
      · rw [if_neg (fun h => hp h.1)]
      · rfl
    subst hno
    clear hp
    go_enter Tryz.func15, Tryz.ntmps15
    go_wp2_with fail
    refine c1.mono ?_
    rintro e w1 ⟨rfl, rfl⟩
    go_wp2_with fail
    refine c2.mono ?_
    rintro e w2 ⟨n, er, rfl, _, _, hb2⟩
    have hx2 := Lib.hid hb2
    clear hb2 c1 c2
    go_wp2_with fail
    go_ret2
    exact ⟨rfl, hx2.out⟩
  case pos =>
    rw [decide_eq_true hp] at c1
    have hTl := hTd'.out hp
    have hp' := Lib.hid hp
    have hTl' := Lib.hid hTl
    clear hp hTl
    go_enter Tryz.func15, Tryz.ntmps15
    go_wp2_with fail
    refine c1.mono ?_
    rintro e w1 ⟨rfl, rfl⟩
    go_wp2_with fail
    refine c2.mono ?_
    rintro e w2 ⟨n, er, rfl, hor, ⟨n0, n1⟩, hb2⟩
    have hx2 := Lib.hid hb2
    clear hb2 c1 c2
    rcases hor with ⟨rfl, hok⟩ | ⟨⟨t, ad, rfl⟩, hnot⟩
    · rw [hTl'.out] at hok
      have hRn : R = if okN n = true ∧ nameOf seg4 n = s.data.toList then (n, true) else (0, false) := by
        rw [← hR'.out, hok]
        simp only
        by_cases hq : okN n = true ∧ nameOf seg4 n = s.data.toList
        · rw [if_pos ⟨hp'.out, hq⟩, if_pos hq]
        · rw [if_neg (fun h => hq h.2), if_neg hq]
      have hRn' := Lib.hid hRn
      have hN := segName_any n
      obtain ⟨S, hS⟩ : ∃ S, strOf (nameOf [115, 101, 103, 46] n) = S := ⟨_, rfl⟩
      rw [hS] at hN
      have hS' := Lib.hid hS
      clear hok hRn hS
      go_wp2_with fail
      refine (segmay_any n w2).mono ?_
      rintro e w3 ⟨rfl, rfl⟩
      have hx3 := hx2
      cases hkn : okN n
      · have hno : R = (0, false) := by rw [hRn'.out, hkn, if_neg (by simp)]
        subst hno
        go_wp2_with fail
        go_ret2
        exact ⟨rfl, hx3.out⟩
      · go_wp2_with fail
        refine (hN w3 (hT.below hx3.out)).mono ?_
        rintro e w4 ⟨rfl, hb4⟩
        have hx4 := Lib.hid (hx3.out.trans (hb4.mono hx3.out.size))
        clear hb4 hN
        by_cases hsn : S = s
        · have hyes : R = (n, true) := by
            rw [hRn'.out, if_pos ⟨hkn, by
              have := hS'.out.trans hsn
              have := congrArg (fun x : ByteArray => x.data.toList) this
              exact this⟩]
          subst hyes
          go_wp2_with fail
          go_ret2
          exact ⟨rfl, hx4.out⟩
        · have hno : R = (0, false) := by
            rw [hRn'.out, if_neg]
            rintro ⟨_, h2⟩
            apply hsn
            rw [← hS'.out]
            exact congrArg strOf h2
          subst hno
          have hsd : (S.toList == s.toList) = false := by rw [str_beq]; simp [hsn]
          go_wp2_with fail
          go_ret2
          exact ⟨rfl, hx4.out⟩
    · have hno : R = (0, false) := by
        rw [← hR'.out]
        split
        · rename_i m hm
          exact absurd (by rw [hTl'.out]; exact hm) (hnot m)
        · rfl
      subst hno
      clear hnot
      go_wp2_with fail
      go_ret2
      exact ⟨rfl, hx2.out⟩

/-- The document's Name. -/
theorem refSegName_any (n : Int) (w : World) :
    Calls Tryz.prog 18 #[.int .i64 n] w fun e w' => e = .returned (.string (strOf (nameOf seg4 n))) ∧ Below w.heap.size w w' := by
  cases hok : okN n
  · have hno : nameOf seg4 n = [] := by unfold nameOf; rw [hok, if_neg (by simp)]
    rw [hno]
    go_enter Tryz.func18, Tryz.ntmps18
    go_wp2_with fail
    refine (may7_any n w).mono ?_
    rintro e w1 ⟨rfl, rfl⟩
    rw [hok]
    go_wp2_with fail
    go_ret
    exact ⟨rfl, Below.refl _ _⟩
  · obtain ⟨k, rfl, h1, h2⟩ := okN_nat hok
    have hadd := fun w => run_string_add_sum (P := Tryz.prog) w ⟨#[115, 101, 103, 46]⟩ (strOf (Nu.eight k)) (by rw [strOf_size', Nu.eight_len]; decide)
    have hsum : (⟨#[115, 101, 103, 46]⟩ ++ strOf (Nu.eight k) : ByteArray) = strOf (nameOf seg4 k) := by
      unfold nameOf
      rw [hok, if_pos rfl, ← strOf_add]
      rfl
    rw [hsum] at hadd
    have c1 := eight_any k h2 w
    obtain ⟨X, hX⟩ : ∃ X, strOf (Nu.eight k) = X := ⟨_, rfl⟩
    obtain ⟨Y, hY⟩ : ∃ Y, strOf (nameOf seg4 k) = Y := ⟨_, rfl⟩
    rw [hX, hY] at hadd
    rw [hX] at c1
    rw [hY]
    clear hsum hX hY
    go_enter Tryz.func18, Tryz.ntmps18
    go_wp2_with fail
    refine (may7_any k w).mono ?_
    rintro e w1 ⟨rfl, rfl⟩
    rw [hok]
    go_wp2_with fail
    refine c1.mono ?_
    rintro e w2 ⟨rfl, hb⟩
    have hx := Lib.hid hb
    clear hb c1
    go_wp2_with fail
    go_ret
    exact ⟨rfl, hx.out⟩
end Go.Proofs.YtfdpnjebhllpkaaGreatDoor.Ma
end

section
namespace Go.Proofs.YtfdpnjebhllpkaaGreatDoor.Mn
open Go Dk Ma

/-- What the code asks of a name. -/
def live (g : Int) (ss : List Int) (x : List UInt8) : Bool := if (numR x).2 = true then ss.contains (numR x).1 else if (genR x).2 = true then decide (x = nameOf man4 g) else false
/-- What the document says. -/
def needed (g : Int) (ss : List Int) (x : List UInt8) : Bool := decide (x = nameOf man4 g) || ss.any fun n => decide (x = nameOf seg4 n)

theorem numR_name {x : List UInt8} {g : Int} (h : numR x = (g, true)) : okN g = true ∧ x = nameOf seg4 g := by
  unfold numR at h
  split at h
  · rename_i hx
    cases hd : Lib.decFrom 0 (x.drop 4) with
    | none => rw [hd] at h; simp at h
    | some v =>
      rw [hd] at h
      simp only [Prod.mk.injEq, decide_eq_true_eq] at h
      obtain ⟨rfl, hv0⟩ := h
      have hl8 : (x.drop 4).length = 8 := by rw [List.length_drop]; omega
      have hdig := digits_dec 8 v (x.drop 4) hl8 hd
      have hv := Lib.decFrom_lt (x.drop 4) 0 v hd
      rw [hl8] at hv
      have hok : okN (v : Int) = true := by unfold okN; rw [decide_eq_true_eq]; simp at hv; omega
      refine ⟨hok, ?_⟩
      unfold nameOf
      rw [hok, if_pos rfl, Int.toNat_natCast, ← hx.2, show Nu.eight v = x.drop 4 from hdig.symm, List.take_append_drop]
  · simp at h

theorem name_of_ok {p x : List UInt8} (hx : x ≠ []) {n : Int} (h : x = nameOf p n) : okN n = true := by
  cases hn : okN n with
  | true => rfl
  | false =>
    unfold nameOf at h
    rw [hn, if_neg (by simp)] at h
    exact absurd h hx
theorem seg_not_man {n g : Int} (h : okN n = true) : nameOf seg4 n ≠ nameOf man4 g := by
  intro e
  have h1 : nameOf seg4 n ≠ [] := by unfold nameOf; rw [h, if_pos rfl]; simp [seg4]
  have h2 := name_of_ok h1 e
  unfold nameOf at e
  rw [h, h2, if_pos rfl, if_pos rfl] at e
  have := congrArg (fun l : List UInt8 => l.head?) e
  simp [seg4, man4] at this

theorem live_eq {g : Int} {ss : List Int} {x : List UInt8} (hx : x ≠ []) : live g ss x = needed g ss x := by
  unfold live needed
  cases hn : (numR x).2 with
  | true =>
    obtain ⟨h1, h2⟩ := numR_name (x := x) (g := (numR x).1) (by rw [← hn])
    obtain ⟨n, hnn⟩ : ∃ n, (numR x).1 = n := ⟨_, rfl⟩
    rw [hnn] at h1 h2 ⊢
    rw [if_pos rfl, decide_eq_false (by rw [h2]; exact seg_not_man h1), Bool.false_or, Bool.eq_iff_iff, List.contains_iff_mem, List.any_eq_true]
    refine ⟨fun h => ⟨n, h, by rw [decide_eq_true_eq]; exact h2⟩, ?_⟩
    rintro ⟨m, hm, he⟩
    rw [decide_eq_true_eq] at he
    have hok := name_of_ok hx he
    have e1 := numR_of_name hok
    rw [← he, h2, numR_of_name h1] at e1
    rw [(Prod.mk.inj e1).1]
    exact hm
  | false =>
    have h0 : (ss.any fun n => decide (x = nameOf seg4 n)) = false := by
      rw [List.any_eq_false]
      intro m _ he
      rw [decide_eq_true_eq] at he
      have e1 := numR_of_name (name_of_ok hx he)
      rw [← he] at e1
      rw [e1] at hn
      cases hn
    rw [if_neg (by simp), h0, Bool.or_false]
    cases hg : (genR x).2 with
    | true => rw [if_pos rfl]
    | false =>
      rw [if_neg (by simp)]
      symm
      rw [decide_eq_false_iff_not]
      intro he
      have e1 := genR_of_name (name_of_ok hx he)
      rw [← he] at e1
      rw [e1] at hg
      cases hg

theorem orphans_eq {g : Int} {ss : List Int} {fs : Fs} (h : ∀ p ∈ fs, p.1 ≠ []) : orphans (live g ss) fs = orphans (needed g ss) fs := by
  unfold orphans
  apply List.filter_congr
  intro x hx
  obtain ⟨p, hp, rfl⟩ := List.mem_map.1 hx
  rw [live_eq (h p hp)]
end Go.Proofs.YtfdpnjebhllpkaaGreatDoor.Mn
end
