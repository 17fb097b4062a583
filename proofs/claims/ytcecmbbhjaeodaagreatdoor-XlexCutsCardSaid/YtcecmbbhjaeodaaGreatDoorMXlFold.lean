/- strings.EqualFold with xml. -/
import Derived.Test.YtcecmbbhjaeodaaGreatDoorMXlNumber
import Derived.Deep.LoopGhost
namespace Go.Proofs.YtcecmbbhjaeodaaGreatDoor.Xl
open Go.RowKit Go.Shelf UtfW

theorem foldT_low : ∀ x ∈ foldT, x.1 < 128 ∧ x.2 < 128 := by decide
set_option maxRecDepth 100000 in
theorem simple_any (w : World) (hU : Un w) (a v : Nat) (hx : (a, v) ∈ foldT) : Calls Tryz.prog 115 #[.int .i32 (a : Nat)] w fun e w' => e = .returned (.int .i32 (v : Nat)) ∧ w' = w := by
  have hc := hU.fold _ hx
  obtain ⟨h1, h2⟩ := foldT_low _ hx
  dsimp only at hc h1 h2
  clear hx hU
  have i0 : decide ((a : Int) < 0) = false := by simp
  have i1 : decide ((1114111 : Int) < (a : Int)) = false := by simp; omega
  have i2 : decide ((a : Int) < 128) = true := by simp; omega
  go_enter Tryz.func115, Tryz.ntmps115
  go_wp2_with fail
  go_ret
  exact ⟨rfl, rfl⟩

set_option maxRecDepth 100000 in
theorem decR_any (w : World) (y : UInt8) (r : Tx) (hy : y.toNat < 128) (hr : r.length ≤ 65536) : Calls Tryz.prog 114 #[.string (strOf (y :: r))] w fun e w' => e = .returned (.tuple #[.int .i32 (y.toNat : Nat), .int .i64 1]) ∧ w' = w := by
  obtain ⟨T, hT⟩ : ∃ T, strOf (y :: r) = T := ⟨_, rfl⟩
  have hsz : T.size = r.length + 1 := by rw [← hT]; exact strOf_size' _
  have hem : T.toList.isEmpty = false := by rw [Lib.toList_data, ← hT]; simp [strOf]
  have h0 : 0 < T.size := by omega
  have hg : T[0]'h0 = y := by
    subst hT
    rfl
  have i0 : decide ((y.toNat : Int) < 128) = true := by simp; omega
  rw [hT]
  clear hT
  have hsz' := Lib.hid hsz
  clear hsz
  go_enter Tryz.func114, Tryz.ntmps114
  go_wp2_with fail
  go_ret2
  exact ⟨rfl, rfl⟩
/-! ### The walk -/
def Jump (s : Tx) (i : Nat) : Prop := ∃ x y, s[i]? = some x ∧ ([120, 109, 108] : Tx)[i]? = some y ∧ 128 ≤ x.toNat
/-- The slots at the jump. -/
def jt (s : Tx) (i : Nat) (u : Nat → Value) : Array Value := #[.string (strOf s), .string (strOf [120, 109, 108]), u 2, u 3, u 4, .int .i64 (i : Nat), u 6, u 7, u 8, u 9, u 10, u 11, u 12, u 13, u 14, u 15, u 16, u 17, u 18, u 19, u 20, u 21, u 22, u 23, u 24, u 25, u 26, u 27, u 28, u 29, u 30, u 31, u 32, u 33, u 34, u 35, u 36, u 37, u 38, u 39, u 40, u 41, u 42, u 43, u 44, u 45, u 46, u 47, u 48, u 49, u 50, u 51, u 52, u 53, u 54, u 55, u 56, u 57, u 58, u 59, u 60, u 61, u 62, u 63, u 64, u 65, u 66, u 67, u 68, u 69, u 70, u 71, u 72, u 73, u 74, u 75, u 76, u 77, u 78, u 79, u 80, u 81, u 82, u 83, u 84, u 85, u 86, u 87, u 88, u 89, u 90, u 91, u 92, u 93, u 94, u 95, u 96, u 97, u 98, u 99, u 100, u 101, u 102, u 103, u 104, u 105, u 106, u 107, u 108, u 109, u 110, u 111, u 112, u 113, u 114, u 115, u 116, u 117, u 118, u 119, u 120, u 121, u 122]
theorem xml_low {i : Nat} {y : UInt8} (h : ([120, 109, 108] : Tx)[i]? = some y) : 97 ≤ y.toNat ∧ y.toNat ≤ 122 ∧ i < 3 := by
  match i, h with
  | 0, h => injection h with h; subst h; decide
  | 1, h => injection h with h; subst h; decide
  | 2, h => injection h with h; subst h; decide
theorem low_iff {x y : UInt8} (hy : 97 ≤ y.toNat ∧ y.toNat ≤ 122) : low x = y ↔ (x.toNat = y.toNat ∨ (65 ≤ x.toNat ∧ x.toNat ≤ 90 ∧ x.toNat + 32 = y.toNat)) := by
  unfold low
  have hx := x.toNat_lt
  split
  · rw [← UInt8.toNat_inj, UInt8.toNat_add]
    have : (32 : UInt8).toNat = 32 := rfl
    omega
  · rw [← UInt8.toNat_inj]
    omega
/-- What EqualFold gives. -/
def foldB (s t : Tx) : Bool := decide (s.map low = t)
theorem fold_on {s t : Tx} {i : Nat} {x y : UInt8} (hs : s[i]? = some x) (ht : t[i]? = some y) (h : low x = y) : foldB (s.drop i) (t.drop i) = foldB (s.drop (i + 1)) (t.drop (i + 1)) := by
  unfold foldB
  rw [drop_at hs, drop_at ht, List.map_cons, h]
  simp
theorem fold_off {s t : Tx} {i : Nat} {x y : UInt8} (hs : s[i]? = some x) (ht : t[i]? = some y) (h : low x ≠ y) : foldB (s.drop i) (t.drop i) = false := by
  unfold foldB
  rw [drop_at hs, drop_at ht, List.map_cons]
  simp [h]
theorem fold_end {s t : Tx} {i : Nat} (h : i = s.length ∨ i = t.length) (hs : i ≤ s.length) (ht : i ≤ t.length) : foldB (s.drop i) (t.drop i) = decide (s.length = t.length) := by
  unfold foldB
  rw [decide_eq_decide]
  constructor
  · intro e
    have := congrArg List.length e
    rw [List.length_map, List.length_drop, List.length_drop] at this
    omega
  · intro e
    rw [drop_end (by omega), drop_end (by omega)]
    rfl

theorem fold_at {s t : Tx} {i : Nat} {x y : UInt8} (hs : s[i]? = some x) (ht : t[i]? = some y) (h : low x ≠ y) : foldB s t = false := by
  unfold foldB
  rw [decide_eq_false_iff_not]
  intro e
  rw [← e, List.getElem?_map, hs] at ht
  injection ht with ht
  exact h ht
theorem xml_fold {i : Nat} {y : UInt8} (h : ([120, 109, 108] : Tx)[i]? = some y) : ∃ v, (y.toNat, v) ∈ foldT ∧ (v, y.toNat) ∈ foldT ∧ v ≠ y.toNat ∧ v < 128 := by
  match i, h with
  | 0, h => injection h with h; subst h; exact ⟨88, by decide⟩
  | 1, h => injection h with h; subst h; exact ⟨77, by decide⟩
  | 2, h => injection h with h; subst h; exact ⟨76, by decide⟩

set_option maxHeartbeats 4000000 in
set_option maxRecDepth 1000000 in
theorem fold_any (w : World) (hU : Un w) (s : Tx) (hl : s.length ≤ 65536) :
    Calls Tryz.prog 90 #[.string (strOf s), .string (strOf [120, 109, 108])] w fun e w' => e = .returned (.bool (foldB s [120, 109, 108])) ∧ Below w.heap.size w w' := by
  have hsz : (strOf s).size = s.length := strOf_size' s
  obtain ⟨M, hM⟩ : ∃ M : Nat, min (s.length : Int) 3 = (M : Int) := ⟨min s.length 3, by omega⟩
  have hMs : M ≤ s.length := by omega
  have hMt : M ≤ 3 := by omega
  have hMe : M = s.length ∨ M = 3 := by omega
  have hU' := Lib.hid hU
  clear hU
  go_enter Tryz.func90, Tryz.ntmps90
  go_wp2
  refine wp_scope_jumps 0 (fun a' w' => w' = w ∧ ∃ i : Nat, a'.defers = [] ∧ a'.tmps = jt s i (fun k => a'.tmps.getD k undef) ∧ Jump s i) (fun _ _ => 0) rfl ?_ ?_
  · have hy3 : (strOf [120, 109, 108]).size = 3 := rfl
    go_wp2_with fail
    go_loopg [5, 7, 8] M (fun g s5 _ _ wx => w = wx ∧ ∃ i : Nat, i + g = M ∧ s5 = .int .i64 i ∧ Hid (foldB (s.drop i) (([120, 109, 108] : Tx).drop i) = foldB s [120, 109, 108]))
    case atStart => exact ⟨rfl, 0, by omega, rfl, Lib.hid rfl⟩
    case round =>
      obtain ⟨rfl, i, hig, rfl, hinv⟩ := hrel
      cases gk with
      | zero =>
        have i0 : decide ((i : Int) < (M : Int)) = false := by simp; omega
        obtain rfl : i = M := by omega
        have hE : Hid (foldB s [120, 109, 108] = decide (s.length = 3)) := Lib.hid (by rw [← hinv.out]; exact fold_end hMe hMs hMt)
        by_cases hst : s.length = 3
        · have hb : ((s.length : Int) == 3) = true := beq_iff_eq.2 (by omega)
          go_wp2_with fail
          (try simp only [Exit.inBlock, Exit.then, Exit.jump])
          go_ret
          exact ⟨by rw [hE.out, decide_eq_true hst]; rfl, Below.refl _ _⟩
        · have hb : ((s.length : Int) == 3) = false := beq_eq_false_iff_ne.2 (by omega)
          go_wp2_with fail
          (try simp only [Exit.inBlock, Exit.then, Exit.jump])
          go_ret
          exact ⟨by rw [hE.out, decide_eq_false hst]; rfl, Below.refl _ _⟩
      | succ g =>
        have i0 : decide ((i : Int) < (M : Int)) = true := by simp; omega
        have his : i < s.length := by omega
        have hx : s[i]? = some s[i] := List.getElem?_eq_getElem his
        generalize s[i] = x at hx
        have hi3 : i < ([120, 109, 108] : Tx).length := by simp; omega
        have hy : ([120, 109, 108] : Tx)[i]? = some ([120, 109, 108] : Tx)[i] := List.getElem?_eq_getElem hi3
        generalize ([120, 109, 108] : Tx)[i] = y at hy
        obtain ⟨y1, y2, _⟩ := xml_low hy
        have hlow := low_iff (x := x) ⟨y1, y2⟩
        have hx256 := x.toNat_lt
        have his' : i < (strOf s).size := by omega
        have hi3' : i < (strOf [120, 109, 108]).size := by rw [hy3]; omega
        have gx := str_at hx his'
        have gy := str_at hy hi3'
        have b1 : (i : Int) < (s.length : Int) := by omega
        have b2 : (i : Int) < 3 := by omega
        have hor : bits .or .u8 (x.toNat : Int) (y.toNat : Int) = ((x.toNat ||| y.toNat : Nat) : Int) := u8_or_nat _ _ (by omega) (by omega)
        have hx' := Lib.hid hx
        have hy' := Lib.hid hy
        clear hx hy hM hMe
        by_cases h128 : 128 ≤ x.toNat
        · have hge : decide ((128 : Int) ≤ ((x.toNat ||| y.toNat : Nat) : Int)) = true := by
            have := Nat.left_le_or (n := x.toNat) (m := y.toNat)
            simp
            omega
          have h128' := Lib.hid h128
          clear h128 hlow
          go_wp2_with fail
          go_step3
          simp only [Exit.inBlock, Exit.then, Exit.jump]
          exact ⟨rfl, rfl, i, rfl, rfl, x, y, hx'.out, hy'.out, h128'.out⟩
        have hge : decide ((128 : Int) ≤ ((x.toNat ||| y.toNat : Nat) : Int)) = false := by
          have := Nat.or_lt_two_pow (n := 7) (x := x.toNat) (y := y.toNat) (by omega) (by omega)
          simp
          omega
        by_cases he : x = y
        · subst he
          have hon : Hid (foldB (s.drop (i + 1)) (([120, 109, 108] : Tx).drop (i + 1)) = foldB s [120, 109, 108]) := Lib.hid (by
            rw [← hinv.out]
            exact (fold_on hx'.out hy'.out (hlow.2 (.inl rfl))).symm)
          have k0 : ((x.toNat : Int) == (x.toNat : Int)) = true := by simp
          clear hlow hinv
          go_wp2_with fail
          go_roundg g
          case measure => omega
          case rel => exact ⟨rfl, i + 1, by omega, by go_num, hon⟩
        have k0 : ((y.toNat : Int) == (x.toNat : Int)) = false := by
          rw [beq_eq_false_iff_ne]
          intro e
          exact he (UInt8.toNat_inj.1 (by omega))
        have hne : x.toNat ≠ y.toNat := fun e => he (UInt8.toNat_inj.1 e)
        clear he
        by_cases hup : 65 ≤ x.toNat ∧ x.toNat ≤ 90 ∧ x.toNat + 32 = y.toNat
        · have hon : Hid (foldB (s.drop (i + 1)) (([120, 109, 108] : Tx).drop (i + 1)) = foldB s [120, 109, 108]) := Lib.hid (by
            rw [← hinv.out]
            exact (fold_on hx'.out hy'.out (hlow.2 (.inr hup))).symm)
          obtain ⟨u1, u2, u3⟩ := hup
          have k1 : decide (y.toNat < x.toNat) = false := by simp; omega
          have k2 : decide ((65 : Int) ≤ (x.toNat : Int)) = true := by simp; omega
          have k3 : decide ((x.toNat : Int) ≤ 90) = true := by simp; omega
          have k4 : ((x.toNat : Int) + 97 - 65) = (y.toNat : Int) := by omega
          have hxy : (x.toNat : Int) + 32 = (y.toNat : Int) := by omega
          clear hlow hinv u1 u2 u3 hne
          go_wp2_with fail
          all_goals (try exact ())
          go_roundg g
          case measure => omega
          case rel => exact ⟨rfl, i + 1, by omega, by go_num, hon⟩
        have hoff : Hid (foldB s [120, 109, 108] = false) := Lib.hid (by
          rw [← hinv.out]
          exact fold_off hx'.out hy'.out (fun e => (hlow.1 e).elim hne hup))
        by_cases hlt : x.toNat < y.toNat
        · have k1 : decide (y.toNat < x.toNat) = false := by simp; omega
          by_cases h65 : 65 ≤ x.toNat
          · have k2 : decide ((65 : Int) ≤ (x.toNat : Int)) = true := by simp; omega
            by_cases h90 : x.toNat ≤ 90
            · have k3 : decide ((x.toNat : Int) ≤ 90) = true := by simp; omega
              have k4 : ((y.toNat : Int) == (x.toNat : Int) + 97 - 65) = false := by simp; omega
              have k5 : IntKind.u8.wrap (IntKind.u8.wrap ((x.toNat : Int) + 97) - 65) = (x.toNat : Int) + 97 - 65 := by
                unfold IntKind.wrap
                simp [IntKind.signed, IntKind.bits]
                omega
              clear hlow hinv hne hup hlt h65 h90
              go_wp2_with fail
              (try simp only [Exit.inBlock, Exit.then, Exit.jump])
              go_ret
              exact ⟨by rw [hoff.out]; rfl, Below.refl _ _⟩
            · have k3 : decide ((x.toNat : Int) ≤ 90) = false := by simp; omega
              clear hlow hinv hne hup hlt h65 h90
              go_wp2_with fail
              (try simp only [Exit.inBlock, Exit.then, Exit.jump])
              go_ret
              exact ⟨by rw [hoff.out]; rfl, Below.refl _ _⟩
          · have k2 : decide ((65 : Int) ≤ (x.toNat : Int)) = false := by simp; omega
            clear hlow hinv hne hup hlt h65
            go_wp2_with fail
            (try simp only [Exit.inBlock, Exit.then, Exit.jump])
            go_ret
            exact ⟨by rw [hoff.out]; rfl, Below.refl _ _⟩
        · have k1 : decide (y.toNat < x.toNat) = true := by simp; omega
          have k2 : decide ((65 : Int) ≤ (y.toNat : Int)) = true := by simp; omega
          have k3 : decide ((y.toNat : Int) ≤ 90) = false := by simp; omega
          clear hlow hinv hne hup hlt
          go_wp2_with fail
          (try simp only [Exit.inBlock, Exit.then, Exit.jump])
          go_ret
          exact ⟨by rw [hoff.out]; rfl, Below.refl _ _⟩
  · rintro ⟨tm, df⟩ w' ⟨rfl, i, hdf, htm, x, y, hx, hy, hxy⟩
    dsimp only at hdf htm
    subst hdf
    generalize (fun k => tm.getD k undef) = u at htm
    subst htm
    unfold jt
    obtain ⟨y1, y2, hi3⟩ := xml_low hy
    have his := (List.getElem?_eq_some_iff.1 hx).1
    have b1 : (0 : Int) ≤ (i : Int) ∧ (i : Int) ≤ (s.length : Int) := ⟨by omega, by omega⟩
    have b2 : (0 : Int) ≤ (i : Int) ∧ (i : Int) ≤ 3 := ⟨by omega, by omega⟩
    have ex1 : (strOf s).extract i s.length = strOf (s.drop i) := by rw [strOf_cut, List.take_of_length_le (by rw [List.length_drop]; omega)]
    have ex2 : (strOf [120, 109, 108]).extract i 3 = strOf (y :: ([120, 109, 108] : Tx).drop (i + 1)) := by
      rw [strOf_cut, List.take_of_length_le (by rw [List.length_drop]; simp), ← drop_at hy]
    have hsz3 : (strOf [120, 109, 108]).size = 3 := rfl
    obtain ⟨v, g1, g2, g3, g4⟩ := xml_fold hy
    have hfin : Hid (foldB s [120, 109, 108] = false) := Lib.hid (fold_at hx hy (fun e => by
      have := (low_iff ⟨y1, y2⟩).1 e
      omega))
    have hd0 : (s.drop i)[0]? = some x := by rw [List.getElem?_drop]; exact hx
    obtain ⟨S2, hS2⟩ : ∃ S2, s.drop i = S2 := ⟨_, rfl⟩
    rw [hS2] at ex1 hd0
    have hl2 : S2.length ≤ 65536 := by rw [← hS2, List.length_drop]; omega
    obtain ⟨T2, hT2⟩ : ∃ T2, ([120, 109, 108] : Tx).drop (i + 1) = T2 := ⟨_, rfl⟩
    rw [hT2] at ex2
    have hl3 : T2.length ≤ 65536 := by rw [← hT2, List.length_drop]; simp; omega
    have hy' : Hid (([120, 109, 108] : Tx)[i]? = some y) := Lib.hid hy
    clear hS2 hT2 hx hy
    have hU := hU'.out
    have b0 := World.block_lt_of_cell? w' _ (hU.fold _ g1)
    have hL := Lib.hid b0
    have hsz2 : (strOf S2).size = S2.length := strOf_size' S2
    have hpos : 0 < S2.length := (List.getElem?_eq_some_iff.1 hd0).1
    have hpos2 : 0 < (strOf S2).size := by omega
    obtain ⟨r, m, hD⟩ : ∃ r m, dec S2 0 = (r, m) := ⟨_, _, rfl⟩
    have hrr : 128 ≤ r := by have := dec_high hd0 hxy; rw [hD] at this; exact this
    have hls : (strOf S2).data.toList = S2 := by simp [strOf]
    have hnx : ∀ w1 : World, w1.heap[w'.heap.size]? = some (.stringIter (strOf S2) 0) → ∀ ty, (Instr.next (.pointer (some ⟨w'.heap.size, 0, none⟩)) true ty).run Tryz.prog w1 = .ok (.tuple #[.bool true, .int .i64 (0 : Nat), .int .i32 (r : Nat)]) (w1.iterAt w'.heap.size (strOf S2) (0 + m)) := fun w1 h1 ty => by
      have := Lib.run_next_any_at (P := Tryz.prog) w1 w'.heap.size (strOf S2) 0 ty h1 hpos2
      rw [decode_str, hls, hD] at this
      exact this
    have hnx' := Lib.hid hnx
    have hlt2 : (strOf (y :: T2)).size = T2.length + 1 := strOf_size' _
    have e1T : (strOf (y :: T2)).extract 1 (T2.length + 1) = strOf T2 := by rw [strOf_cut, List.take_of_length_le (by rw [List.length_drop]; simp)]; rfl
    have k0 : (((T2.length + 1 : Nat) : Int) == 0) = false := by simp; omega
    have k1 : ((y.toNat : Int) == (r : Int)) = false := by simp; omega
    have k2 : decide ((y.toNat : Int) < (r : Int)) = true := by simp; omega
    have k3 : decide ((r : Int) < 128) = false := by simp; omega
    have k4 : ((v : Int) != (y.toNat : Int)) = true := by simp; omega
    have k5 : decide ((v : Int) < (r : Int)) = true := by simp; omega
    have k6 : ((y.toNat : Int) != (y.toNat : Int)) = false := by simp
    clear hd0 hD hls hnx hxy hpos
    go_upto_region 16 with fail
    clear ex1 ex2 b1 b2 hsz3
    go_wp2_with fail
    go_loopw [1, 10, 11, 12, 13] (fun v1 _ _ _ _ wr => v1 = .string (strOf (y :: T2)) ∧ wr.heap[w'.heap.size]? = some (.stringIter (strOf S2) 0) ∧ Hid (Below w'.heap.size w' wr)) (fun _ _ _ _ _ _ => 0)
    case atStart => exact ⟨rfl, World.iter_heap _ _ _, Lib.hid ((Below.refl _ w').alloc (Nat.le_refl _) _)⟩
    case round =>
      obtain ⟨rfl, hit, hb⟩ := hrel
      have hn := hnx'.out _ hit
      have hb2 := Lib.hid (Lib.below_iterAt hb.out (k := w'.heap.size) (Nat.le_refl _) (strOf S2) (0 + m))
      obtain ⟨wi, hwi⟩ : ∃ wi, wr.iterAt w'.heap.size (strOf S2) (0 + m) = wi := ⟨_, rfl⟩
      rw [hwi] at hn hb2
      have hUi := Lib.hid (hU'.out.below hb2.out)
      clear hit hb hwi
      go_wp2_with fail
      refine (decR_any wi y T2 (by omega) hl3).mono ?_
      rintro e w2 ⟨rfl, hww⟩
      subst hww
      go_wp2_with fail
      refine (simple_any w2 hUi.out y.toNat v g1).mono ?_
      rintro e w3 ⟨rfl, hww⟩
      subst hww
      go_wp2_with fail
      go_loopw [13] (fun v13 wr => Hid (w3 = wr) ∧ (v13 = .int .i32 (v : Nat) ∨ v13 = .int .i32 (y.toNat : Nat))) (fun v13 _ => if intOf v13 = (y.toNat : Int) then 0 else 1)
      case atStart => exact ⟨Lib.hid rfl, .inl rfl⟩
      case round =>
        obtain ⟨hww, rfl | rfl⟩ := hrel
        · go_wp2_with fail
          refine (simple_any wr (by rw [← hww.out]; exact hUi.out) v y.toNat g2).mono ?_
          rintro e w4 ⟨rfl, hww4⟩
          subst hww4
          go_wp2_with fail
          go_roundw
          case rel => exact ⟨hww, .inr rfl⟩
          case measure => simp [intOf, show ¬ ((v : Int) = (y.toNat : Int)) by omega]
        · go_wp2_with fail
          (try simp only [Exit.inBlock, Exit.then, Exit.jump])
          go_ret
          exact ⟨by rw [hfin.out]; rfl, by rw [← hww.out]; exact hb2.out⟩
end Go.Proofs.YtcecmbbhjaeodaaGreatDoor.Xl
