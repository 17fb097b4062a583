/- keys.key, keys.twice, keys.rule. -/
import Derived.Test.YtjofkodncplhaaaGreatDoorMKyRow
import Derived.Test.YtjofkodncplhaaaGreatDoorMKyPcs
import Derived.Test.YtjofkodncplhaaaGreatDoorMKyName
import Derived.Test.YtjofkodncplhaaaGreatDoorMUtfLines2
import Derived.Shelf.Strings.Split
import Derived.Shelf.Strings.SplitShaped
import Derived.Shelf.Strings.Cut
import Derived.Shelf.Strings.Prefix
import Derived.Shelf.Small.Wraps
import Derived.Shelf.Small.Strs
import Derived.Shelf.Slices.Turned
import Derived.Shelf.Slices.Equal
import Derived.Shelf.Slices.Empties2
import Derived.Shelf.Slices.Clone
import Derived.Shelf.Lay
import Derived.Ground.NamesProg
import Derived.Ground.Names2Prog
section
namespace Go.Proofs
open Go.Shelf Go.RowKit
shelf_lay LaysM.n146 Nm 146 at Tryz as Tryz.lays146
shelf_lay LaysM.n145 Nm 145 at Tryz as Tryz.lays145
shelf_lay Lays.n101 Nm 101 at Tryz as Tryz.lays101
shelf_lay Lays.n103 Nm 103 at Tryz as Tryz.lays103
shelf_lay Lays.n104 Nm 104 at Tryz as Tryz.lays104
shelf_lay Lays.n110 Nm 110 at Tryz as Tryz.lays110
shelf_lay Lays.n137 Nm 137 at Tryz as Tryz.lays137
shelf_lay Lays.n156 Nm 156 at Tryz as Tryz.lays156
shelf_lay Lays.n193 Nm 193 at Tryz as Tryz.lays193
shelf_lay Lays2.n16 Nm2 16 at Tryz as Tryz.laysCl
theorem Tryz.extra156 : Builder.Extra Tryz.prog Tryz.lays156_ren where
  sizeBuilder := by kernel_rfl
  liesBuilder := by kernel_rfl
  t5 := Tryz.underlying5
  a5 := Tryz.isAgg5
  z5 := Tryz.sizeOf5
  v5 := Tryz.zeroValue5
  infoByte := by kernel_rfl
  cellsByte := by kernel_rfl
  sizeByte := by kernel_rfl
  neB5 := by decide
end Go.Proofs
namespace Go.Proofs.YtjofkodncplhaaaGreatDoor.Ky
open Go.RowKit Go.Shelf UtfW

/-- A new row of texts. -/
theorem owx_lit (w : World) (B : Nat) (hB : B ≤ w.heap.size) (C : Array Value) (E : TypeId) (ts : List Tx) (n : Nat) (hn : ts.length = n) (hn2 : n ≤ 1000000000000) (hC : C.toList = ts.map tv) :
    OwX (w.alloc (.cells C E)) B E (.slice (some ⟨w.heap.size, 0, none⟩) n n) ts := by
  subst hn
  have hs : C.size = ts.length := by
    have := congrArg List.length hC
    simpa using this
  refine ⟨by simp, .inr ⟨_, _, C, rfl, hB, heap_alloc_new w _, Nat.le_refl _, by unfold maxLen; omega, by omega, ?_⟩⟩
  rw [hC, List.take_of_length_le (by simp)]

/-- strings.Split at a byte. -/
theorem split_any (c : UInt8) (s : ByteArray) (hs : s.size ≤ 1000000) (w : World) (hU : Ut w) :
    Calls Tryz.prog 53 #[.string s, .string ⟨#[c]⟩] w fun e w' => ∃ n, (split c s.data.toList).length = n ∧ n ≤ 1000001 ∧ 0 < n ∧ e = .returned (.slice (some ⟨w.heap.size, 0, none⟩) n n) ∧ OwX w' w.heap.size 9 (.slice (some ⟨w.heap.size, 0, none⟩) n n) (split c s.data.toList) ∧ Below w.heap.size w w' := by
  obtain ⟨m, hm⟩ := hU.max
  refine (Any.strings_Split { Tryz.lays146 with } Tryz.lays146.i9 s ⟨#[c]⟩ m w (by omega) hm (Nat.le_refl 1)).mono ?_
  rintro e w' ⟨rfl, rfl⟩
  have hlen := Lib.splitB_all ⟨#[c]⟩ (Nat.le_refl 1) 0 (Lib.countB s ⟨#[c]⟩) s rfl
  have hdat := Lib.splitB_data ⟨#[c]⟩ 0 (Lib.countB s ⟨#[c]⟩) s
  have hsp : Lib.splitK [c] 0 (Lib.countB s ⟨#[c]⟩) s.data.toList = split c s.data.toList := split_eq c _ s.data.toList (Nat.le_refl _)
  have hdat' : (Lib.splitB ⟨#[c]⟩ 0 (Lib.countB s ⟨#[c]⟩) s).map (·.data.toList) = split c s.data.toList := hdat.trans hsp
  have hl : (split c s.data.toList).length = Lib.countB s ⟨#[c]⟩ + 1 := by rw [← hdat', List.length_map]; exact hlen
  have hle := split_len c s.data.toList
  rw [Array.length_toList] at hle
  have hle' : (split c s.data.toList).length ≤ s.size + 1 := hle
  refine ⟨_, hl, by omega, by omega, rfl, ?_, below_alloc w _⟩
  refine owx_lit w w.heap.size (Nat.le_refl _) _ _ _ _ hl (by omega) ?_
  rw [← hdat', List.map_map]
  rfl

/-- strings.Cut at a byte. -/
theorem cut_any (c : UInt8) (s : ByteArray) (hs : s.size ≤ 1000000) (w : World) (hU : Ut w) :
    Calls Tryz.prog 50 #[.string s, .string ⟨#[c]⟩] w fun e w' => e = .returned (.tuple #[.string (strOf (Lib.cut s.data.toList [c]).1), .string (strOf (Lib.cut s.data.toList [c]).2.1), .bool (Lib.cut s.data.toList [c]).2.2]) ∧ ∃ k, w' = w.drewN k := by
  obtain ⟨m, hm⟩ := hU.max
  exact Any.strings_Cut { Tryz.lays145 with } s ⟨#[c]⟩ m w (by omega) hm
theorem cutPrefix_any (s p : ByteArray) (w : World) :
    Calls Tryz.prog 52 #[.string s, .string p] w fun e w' => e = .returned (.tuple #[.string (strOf (Lib.trimPrefix s.data.toList p.data.toList)), .bool (Lib.hasPrefix s.data.toList p.data.toList)]) ∧ w' = w :=
  Any.strings_CutPrefix Tryz.lays103 s p w
theorem cutSuffix_any (s p : ByteArray) (hs : s.size ≤ 1000000) (w : World) :
    Calls Tryz.prog 51 #[.string s, .string p] w fun e w' => e = .returned (.tuple #[.string (strOf (Lib.trimSuffix s.data.toList p.data.toList)), .bool (Lib.hasSuffix s.data.toList p.data.toList)]) ∧ w' = w :=
  Any.strings_CutSuffix Tryz.lays104 s p w (by omega)
theorem strip_any (s : ByteArray) (w : World) :
    Calls Tryz.prog 89 #[.string s, .string ⟨#[64]⟩] w fun e w' => e = .returned (.string (strOf (strip s.data.toList))) ∧ w' = w := by
  have h := Any.strings_TrimPrefix Tryz.lays101 s ⟨#[64]⟩ w
  have e : Lib.trimPrefix s.data.toList (⟨#[64]⟩ : ByteArray).data.toList = strip s.data.toList := strip_eq s.data.toList
  rw [e] at h
  exact h
theorem indexByte_any (s : ByteArray) (c : UInt8) (w : World) :
    Calls Tryz.prog 47 #[.string s, .int .u8 c.toNat] w fun e w' => e = .returned (.int .i64 (Lib.indexByte s.data.toList c)) ∧ w' = w := by
  refine Calls.mono (Any.strings_IndexByte Tryz.lays137 s c.toNat w) ?_
  rintro e w' ⟨rfl, rfl⟩
  refine ⟨?_, rfl⟩
  simp

/-- slices.Contains at texts. -/
theorem contains_any (A : Option Addr) (n c : Nat) (ts : List Tx) (t : Tx) (w : World) (h : Ts w A n c ts) :
    Calls Tryz.prog 85 #[.slice A n c, .string (strOf t)] w fun e w' => e = .returned (.bool (ts.contains t)) ∧ w' = w := by
  have hl := h.len
  have hle := Rd.le h
  have hm := Rd.max h
  rcases Nat.eq_zero_or_pos n with h0 | h0
  · subst h0
    obtain rfl : ts = [] := List.length_eq_zero_iff.1 hl
    exact Any.slices_Contains_string_empty Tryz.lays110 A c (strOf t) w
  · obtain ⟨b, off, rfl, _, hc⟩ := Rd.cell h h0
    have h9 := Any.slices_Contains_string Tryz.lays110 b off n c (ts.map strOf) (strOf t) w (by simp; omega) (by omega) (by
      intro j hj
      rw [List.length_map] at hj
      rw [hc j (tv ts[j]) (by rw [List.getElem?_map, List.getElem?_eq_getElem hj]; rfl)]
      simp [List.getD, List.getElem?_eq_getElem hj, tv])
    rw [List.take_of_length_le (by simp; omega)] at h9
    refine h9.mono ?_
    rintro e w' ⟨rfl, rfl⟩
    refine ⟨?_, rfl⟩
    refine ret_bool ?_
    rw [Bool.eq_iff_iff, Lib.containsS_iff, List.contains_iff_mem, List.mem_map]
    exact ⟨fun ⟨x, hx, e⟩ => by rw [← strOf_inj e]; exact hx, fun hx => ⟨t, hx, rfl⟩⟩

theorem texts_eq (xs ys : List Tx) : decide (xs.map strOf = ys.map strOf) = decide (xs = ys) := by
  rw [Bool.eq_iff_iff, decide_eq_true_eq, decide_eq_true_eq]
  refine ⟨fun h => ?_, fun h => by rw [h]⟩
  have h2 := congrArg (List.map (·.data.toList)) h
  rw [List.map_map, List.map_map] at h2
  have e : ((fun x : ByteArray => x.data.toList) ∘ strOf) = id := funext fun x => rfl
  rw [e, List.map_id, List.map_id] at h2
  exact h2
/-- slices.Equal at texts. -/
theorem equal_any (A : Option Addr) (n c : Nat) (xs : List Tx) (A2 : Option Addr) (n2 c2 : Nat) (ys : List Tx) (w : World) (h : Ts w A n c xs) (h2 : Ts w A2 n2 c2 ys) :
    Calls Tryz.prog 26 #[.slice A n c, .slice A2 n2 c2] w fun e w' => e = .returned (.bool (decide (xs = ys))) ∧ ∃ q, w' = w.drewN q := by
  have hl := h.len
  have hl2 := h2.len
  have hm := Rd.max h
  have hm2 := Rd.max h2
  have hle := Rd.le h
  have hle2 := Rd.le h2
  rcases Nat.eq_zero_or_pos n with h0 | h0
  · subst h0
    obtain rfl : xs = [] := List.length_eq_zero_iff.1 hl
    refine (Any.slices_Equal_string_empty Tryz.lays193 A A2 c n2 c2 w (by omega)).mono ?_
    rintro e w' ⟨rfl, rfl⟩
    refine ⟨ret_bool ?_, 0, rfl⟩
    rw [Bool.eq_iff_iff, decide_eq_true_eq, decide_eq_true_eq]
    constructor
    · intro e
      rw [e] at hl2
      exact (List.length_eq_zero_iff.1 hl2).symm
    · intro e
      rw [← e] at hl2
      exact hl2.symm
  · by_cases hn : n = n2
    · subst hn
      obtain ⟨b, off, rfl, _, hc⟩ := Rd.cell h h0
      obtain ⟨b2, off2, rfl, _, hc2⟩ := Rd.cell h2 h0
      have h9 := Any.slices_Equal_string Tryz.lays193 b off n c b2 off2 n c2 (xs.map strOf) (ys.map strOf) w (by simp; omega) (by simp; omega) (by omega) (by omega) (by
        intro j hj
        rw [List.length_map] at hj
        rw [hc j (tv xs[j]) (by rw [List.getElem?_map, List.getElem?_eq_getElem hj]; rfl)]
        simp [List.getD, List.getElem?_eq_getElem hj, tv]) (by
        intro j hj
        rw [List.length_map] at hj
        rw [hc2 j (tv ys[j]) (by rw [List.getElem?_map, List.getElem?_eq_getElem hj]; rfl)]
        simp [List.getD, List.getElem?_eq_getElem hj, tv])
      rw [List.take_of_length_le (by simp; omega), List.take_of_length_le (by simp; omega), texts_eq] at h9
      exact h9
    · refine (Any.slices_Equal_string_lens Tryz.lays193 A A2 n c n2 c2 w hn).mono ?_
      rintro e w' ⟨rfl, rfl⟩
      refine ⟨ret_bool ?_, 0, rfl⟩
      symm
      rw [decide_eq_false_iff_not]
      intro e
      rw [e] at hl
      omega
/-- strings.Join. -/
theorem join_any (A : Option Addr) (n c : Nat) (ts : List Tx) (sep : ByteArray) (w : World) (h : Ts w A n c ts) (hN : n ≤ 1000000)
    (hlen : (join sep.data.toList ts).length ≤ 1000000) :
    Calls Tryz.prog 42 #[.slice A n c, .string sep] w fun e w' => e = .returned (.string (strOf (join sep.data.toList ts))) ∧ Below w.heap.size w w' := by
  have hl := h.len
  have hle := Rd.le h
  by_cases h0 : n = 0
  · subst h0
    obtain rfl : ts = [] := List.length_eq_zero_iff.1 hl
    refine (Any.strings_Join_none Tryz.lays156 Tryz.extra156 A c sep w).mono ?_
    rintro e w' ⟨rfl, rfl⟩
    exact ⟨rfl, Below.refl _ _⟩
  · obtain ⟨b, off, rfl, hb, hc⟩ := Rd.cell h (by omega)
    have e : (ts.map strOf).map (·.data.toList) = ts := by
      rw [List.map_map]
      have e : ((fun x : ByteArray => x.data.toList) ∘ strOf) = id := funext fun x => rfl
      rw [e, List.map_id]
    have hl' : (ts.map strOf).length = n := by rw [List.length_map]; exact hl
    have h9 := Any.strings_Join Tryz.lays156 Tryz.extra156 b off c (ts.map strOf) sep w (fun j x hx => by
      rw [List.getElem?_map, Option.map_eq_some_iff] at hx
      obtain ⟨t, ht, rfl⟩ := hx
      exact hc j _ (by rw [List.getElem?_map, ht]; rfl)) hb (by omega) (by omega) (by rw [e, join_eq]; omega)
    rw [e, join_eq, hl'] at h9
    exact h9

theorem owx_of_own {w : World} {B E n : Nat} {v : Value} {ss : List ByteArray} {ts : List Tx} (h : w.ownsRow B E 1 v n (ss.map Value.string)) (hn : ts.length = n) (ht : ss = ts.map strOf) : ∃ A c, v = .slice A n c ∧ OwX w B E (.slice A n c) ts := by
  obtain ⟨A', c', rfl⟩ : ∃ A' c', v = .slice A' n c' := by
    rcases h.2 with ⟨h1, h2⟩ | ⟨g, cap, cur, h1, _⟩
    · exact ⟨_, _, by rw [h1, h2]⟩
    · exact ⟨_, _, h1⟩
  subst ht
  refine ⟨_, _, rfl, ?_⟩
  unfold OwX
  rw [List.map_map] at h
  rw [hn]
  exact h
/-- slices.Clone at texts. -/
theorem clone_any (A : Option Addr) (n c : Nat) (ts : List Tx) (w : World) (h : Ts w A n c ts) (hN : n ≤ 1000000000000) :
    Calls Tryz.prog 40 #[.slice A n c] w fun e w' => ∃ A' c', e = .returned (.slice A' n c') ∧ OwX w' w.heap.size 9 (.slice A' n c') ts ∧ Below w.heap.size w w' := by
  have hl := h.len
  rcases A with _ | a
  · obtain ⟨rfl, rfl⟩ := Rd.nil h rfl
    obtain rfl : ts = [] := List.length_eq_zero_iff.1 hl
    refine (Any.slices_Clone_string_nil Tryz.laysCl 0 0 w).mono ?_
    rintro e w' ⟨rfl, rfl⟩
    exact ⟨none, 0, rfl, OwX.nil _ _ _, Below.refl _ _⟩
  · rcases Nat.eq_zero_or_pos n with h0 | h0
    · subst h0
      obtain rfl : ts = [] := List.length_eq_zero_iff.1 hl
      refine (Any.slices_Clone_string_zero Tryz.laysCl a c w).mono ?_
      rintro e w' ⟨v', rfl, h1, _, hb⟩
      obtain ⟨A', c', rfl, h2⟩ := owx_of_own (ss := []) (ts := []) h1 rfl rfl
      exact ⟨A', c', rfl, h2, hb⟩
    · obtain ⟨b, off, e0, hb, hc⟩ := Rd.cell h h0
      injection e0 with e0
      subst e0
      refine (Any.slices_Clone_string Tryz.laysCl b off n c (ts.map strOf) w (by simp; omega) (by omega) (by
        intro j hj
        rw [List.length_map] at hj
        rw [hc j (tv ts[j]) (by rw [List.getElem?_map, List.getElem?_eq_getElem hj]; rfl)]
        simp [List.getD, List.getElem?_eq_getElem hj, tv])).mono ?_
      rintro e w' ⟨v', rfl, h1, _, hb⟩
      rw [List.take_of_length_le (by simp; omega)] at h1
      obtain ⟨A', c', rfl, h2⟩ := owx_of_own h1 hl rfl
      exact ⟨A', c', rfl, h2, hb⟩
end Go.Proofs.YtjofkodncplhaaaGreatDoor.Ky
end

section
namespace Go.Proofs.YtjofkodncplhaaaGreatDoor.Ky
open Go.RowKit

section
variable (B : Nat) (w0 : World) (g : FuncId) (lb : Array Value) (p : ByteArray → Bool)

/-- What IndexFunc answers. -/
def IdxP (ss : List ByteArray) (w : World) (e : Ending) (w' : World) : Prop :=
  ∃ z : Int, e = .returned (.int .i64 z) ∧ Below w.heap.size w w' ∧ ((z = -1 ∧ ∀ (j : Nat) s, ss[j]? = some s → p s = false) ∨ ∃ (k : Nat) (s : ByteArray), z = (k : Int) ∧ ss[k]? = some s ∧ p s = true ∧ ∀ (j : Nat) s, j < k → ss[j]? = some s → p s = false)

set_option maxHeartbeats 1000000 in
set_option maxRecDepth 100000 in
theorem IndexFunc_any (eg : ∀ args w, (callFunc g args).run Tryz.prog w = .ok (.enter g args) w)
    (A : Option Addr) (n c : Nat) (ss : List ByteArray)
    (hp : ∀ w', Below B w0 w' → ∀ s, s ∈ ss → Calls Tryz.prog g (#[.string s] ++ lb) w' fun e w'' => e = .returned (.bool (p s)) ∧ Below w'.heap.size w' w'')
    (w : World) (hw : Below B w0 w) (hB : B ≤ w.heap.size) (hS : Rd w A n c (ss.map .string)) :
    Calls Tryz.prog 113 #[.slice A n c, .func (.func g) #[] lb] w (IdxP p ss w) := by
  have hle := hS.le
  have hmx := hS.max
  have hln := Lib.hid (by have := hS.len; rwa [List.length_map] at this : ss.length = n)
  have hS' := Lib.hid hS
  have hp' := Lib.hid hp
  have hw' := Lib.hid hw
  clear hS hp hw
  go_enter Tryz.func113, Tryz.ntmps113
  go_wp2_with fail
  go_loopw [8] (fun i wr => ∃ k : Nat, k ≤ n ∧ i = .int .i64 k ∧ Hid (∀ (j : Nat) s, j < k → ss[j]? = some s → p s = false) ∧ Hid (Below w.heap.size w wr)) (fun i _ => n - (intOf i).toNat)
  case atStart => exact ⟨0, by omega, rfl, Lib.hid (fun j s h => absurd h (by omega)), Lib.hid (Below.refl _ _)⟩
  case round =>
    obtain ⟨k, hk, rfl, hno, hbw⟩ := hrel
    by_cases hlt : k < n
    · have i1 : decide ((k : Int) < (n : Int)) = true := by rw [decide_eq_true_eq]; omega
      have i2 : decide (k < n) = true := by rw [decide_eq_true_eq]; omega
      have i3 : (k : Int) < (n : Int) := by omega
      obtain ⟨b, off, u, rfl, hb, hu, hc⟩ := Rd.at_ (hS'.out.below hbw.out) hlt
      rw [List.getElem?_map, Option.map_eq_some_iff] at hu
      obtain ⟨s, hs, rfl⟩ := hu
      have hs' := Lib.hid hs
      have hcall := hp'.out wr (hw'.out.trans (hbw.out.mono hB)) s (List.mem_of_getElem? hs)
      clear hs
      cases hps : p s with
      | true =>
        rw [hps] at hcall
        have hps' := Lib.hid hps
        clear hps
        go_wp2_with fail
        refine hcall.mono ?_
        rintro e w2 ⟨rfl, hb2⟩
        have hx2 := Lib.hid (hbw.out.trans (hb2.mono hbw.out.size))
        clear hb2 hcall
        go_wp2_with fail
        go_ret
        exact ⟨_, rfl, hx2.out, .inr ⟨k, s, rfl, hs'.out, hps'.out, hno.out⟩⟩
      | false =>
        rw [hps] at hcall
        have hps' := Lib.hid hps
        clear hps
        go_wp2_with fail
        refine hcall.mono ?_
        rintro e w2 ⟨rfl, hb2⟩
        have hx2 := Lib.hid (hbw.out.trans (hb2.mono hbw.out.size))
        clear hb2 hcall
        go_wp2_with fail
        go_roundw
        case rel =>
          refine ⟨k + 1, by omega, by go_num, Lib.hid fun j s2 hj hs2 => ?_, hx2⟩
          rcases Nat.lt_or_ge j k with h9 | h9
          · exact hno.out j s2 h9 hs2
          · obtain rfl : j = k := by omega
            rw [hs'.out] at hs2
            injection hs2 with hs2
            rw [← hs2]
            exact hps'.out
        case measure => simp [intOf]; omega
    · have i1 : decide ((k : Int) < (n : Int)) = false := by rw [decide_eq_false_iff_not]; omega
      have i2 : decide (k < n) = false := by rw [decide_eq_false_iff_not]; omega
      obtain rfl : k = n := by omega
      go_wp2_with fail
      go_ret
      exact ⟨_, rfl, hbw.out, .inl ⟨rfl, fun j s hs => hno.out j s (by have := (List.getElem?_eq_some_iff.1 hs).1; have := hln.out; omega) hs⟩⟩
end
end Go.Proofs.YtjofkodncplhaaaGreatDoor.Ky
end

section
namespace Go.Proofs.YtjofkodncplhaaaGreatDoor.Ky
open Go.RowKit Go.Shelf UtfW

theorem name_any (s : ByteArray) (hs : s.size ≤ 281474976710656) (w : World) (hU : Ut w) :
    Calls Tryz.prog 62 #[.string s] w fun e w' => e = .returned (.bool (nameR s.data.toList)) ∧ Below w.heap.size w w' := by
  have h := utfName_any s hs w hU
  rw [name_eq] at h
  exact h

theorem clos_any (s : ByteArray) (hs : s.size ≤ 281474976710656) (w : World) (hU : Ut w) :
    Calls Tryz.prog 91 #[.string s] w fun e w' => e = .returned (.bool (!nameR s.data.toList)) ∧ Below w.heap.size w w' := by
  have hc := name_any s hs w hU
  obtain ⟨R, hR⟩ : ∃ R, nameR s.data.toList = R := ⟨_, rfl⟩
  rw [hR] at hc ⊢
  clear hR
  go_enter Tryz.func91, Tryz.ntmps91
  go_wp2_with fail
  refine hc.mono ?_
  rintro e w1 ⟨rfl, hb⟩
  have hb' := Lib.hid hb
  clear hb hc
  go_wp2_with fail
  go_ret
  exact ⟨rfl, hb'.out⟩

/-- slices.ContainsFunc at texts, the predicate being that of keys. -/
theorem anyBad_any (A : Option Addr) (n c : Nat) (ts : List Tx) (w : World) (h : Ts w A n c ts) (hs : ∀ t ∈ ts, t.length ≤ 1000000) (hU : Ut w) :
    Calls Tryz.prog 90 #[.slice A n c, .func (.func 91) #[] #[]] w fun e w' => e = .returned (.bool (!ts.all nameR)) ∧ Below w.heap.size w w' := by
  have hi := IndexFunc_any w.heap.size w 91 #[] (fun s => !nameR s.data.toList) (enters_of Tryz.func91 (by kernel_rfl) rfl) A n c (ts.map strOf) (fun w' hb s hsm => by
    obtain ⟨t, ht, rfl⟩ := List.mem_map.1 hsm
    exact clos_any (strOf t) (by rw [strOf_size']; have := hs t ht; omega) w' (hU.below hb)) w (Below.refl _ _) (Nat.le_refl _) (by rw [List.map_map]; exact h)
  have hall : Hid (∀ (z : Int), (z = -1 ∧ ∀ (j : Nat) s, (ts.map strOf)[j]? = some s → (!nameR s.data.toList) = false) ∨ (∃ (k : Nat) (s : ByteArray), z = (k : Int) ∧ (ts.map strOf)[k]? = some s ∧ (!nameR s.data.toList) = true ∧ ∀ (j : Nat) s, j < k → (ts.map strOf)[j]? = some s → (!nameR s.data.toList) = false) → decide (z ≥ 0) = (!ts.all nameR)) := Lib.hid (by
    rintro z (⟨rfl, h1⟩ | ⟨k, s, rfl, h1, h2, _⟩)
    · have : ts.all nameR = true := by
        rw [List.all_eq_true]
        intro t ht
        obtain ⟨j, hj⟩ := List.mem_iff_getElem?.1 ht
        have : (!nameR t) = false := h1 j (strOf t) (by rw [List.getElem?_map, hj]; rfl)
        simpa using this
      rw [this]
      rfl
    · rw [List.getElem?_map, Option.map_eq_some_iff] at h1
      obtain ⟨t, ht, rfl⟩ := h1
      have : ts.all nameR = false := by
        rw [List.all_eq_false]
        have h3 : (!nameR t) = true := h2
        exact ⟨t, List.mem_of_getElem? ht, by simpa using h3⟩
      rw [this]
      simp)
  obtain ⟨R, hR⟩ : ∃ R, (!ts.all nameR) = R := ⟨_, rfl⟩
  rw [hR] at hall ⊢
  clear hR
  go_enter Tryz.func90, Tryz.ntmps90
  go_wp2_with fail
  refine hi.mono ?_
  rintro e w1 ⟨z, rfl, hb, hz⟩
  have hb' := Lib.hid hb
  have hz' := hall.out z hz
  clear hb hi hz h hU
  have hz'' := Lib.hid hz'
  clear hz'
  go_wp2_with fail
  go_ret
  exact ⟨ret_bool hz''.out, hb'.out⟩

set_option maxHeartbeats 1000000 in
set_option maxRecDepth 100000 in
/-- keys.key. -/
theorem key_any (s : ByteArray) (hs : s.size ≤ 1000000) (w : World) (hU : Ut w) :
    Calls Tryz.prog 63 #[.string s] w fun e w' => e = .returned (.bool (keyB nameR s.data.toList)) ∧ Below w.heap.size w w' := by
  have hsp := split_any 47 s hs w hU
  by_cases h0 : s.data.toList = [46]
  · have hk : keyB nameR s.data.toList = true := by rw [h0]; exact key_dot
    rw [hk]
    have i0 : (s.toList == [46]) = true := by rw [Lib.toList_data, h0]; rfl
    clear hk h0 hsp
    go_enter Tryz.func63, Tryz.ntmps63
    go_wp2_with fail
    go_ret
    exact ⟨rfl, Below.refl _ _⟩
  · have hk := key_not (nm := nameR) h0
    have i0 : (s.toList == [46]) = false := by rw [Lib.toList_data, beq_eq_false_iff_ne]; exact h0
    obtain ⟨R, hR⟩ : ∃ R, keyB nameR s.data.toList = R := ⟨_, rfl⟩
    rw [hR] at hk ⊢
    have hne := split_ne 47 s.data.toList
    have hsm := split_small 47 s.data.toList
    have hsz : s.data.toList.length ≤ 1000000 := by rw [Array.length_toList]; exact hs
    obtain ⟨L, hL⟩ : ∃ L, split 47 s.data.toList = L := ⟨_, rfl⟩
    rw [hL] at hsp hk hne hsm
    have hk' := Lib.hid hk
    have hsm' := Lib.hid (fun x hx => Nat.le_trans (hsm x hx) hsz)
    have hne' := Lib.hid hne
    have hU' := Lib.hid hU
    clear hR hL h0 hk hsm hne hsz hU
    go_enter Tryz.func63, Tryz.ntmps63
    go_wp2_with fail
    refine hsp.mono ?_
    rintro e w1 ⟨n, hn, hn2, hn3, rfl, ho, hb⟩
    clear hsp
    have hB := hb.size
    have hU1 := Lib.hid (hU'.out.below hb)
    have hb' := Lib.hid hb
    have ho' := Lib.hid ho
    obtain ⟨m, rfl⟩ : ∃ m, n = m + 1 := ⟨n - 1, by omega⟩
    obtain ⟨b, off, t, e0, hbl, ht, hc⟩ := Ts.at_ ho.rd (k := m) (by omega)
    obtain ⟨g, e1, hg1, hg2, hf, hset⟩ := OwX.set ho (k := m) (by omega)
    injection e1 with e1
    injection e1 with e1 _ _
    subst e1
    injection e0 with e0
    injection e0 with e0 e2 _
    subst e0; subst e2
    rw [Nat.zero_add] at hc
    have hst := strip_any (strOf t) w1
    rw [strOf_data'] at hst
    have hset' := Lib.hid (hset (strip t))
    have ht' := Lib.hid ht
    have hn' := Lib.hid hn
    clear hb ho hset ht hn
    go_wp2_with fail
    refine hst.mono ?_
    rintro e w2 ⟨rfl, rfl⟩
    clear hst
    obtain ⟨w3, hw3⟩ : ∃ w3, w2.setCell ⟨w.heap.size, m, none⟩ (tv (strip t)) = w3 := ⟨_, rfl⟩
    have hb3 : Below w.heap.size w w3 := by
      rw [← hw3]
      exact hb'.out.setCell (p := ⟨w.heap.size, m, none⟩) (Nat.le_refl _) _
    have hU3 := Lib.hid (hU'.out.below hb3)
    have ho3 := hset'.out
    rw [hw3] at ho3
    have hall : (L.set m (strip t)).all nameR = R := by
      rw [hk'.out, hn'.out, Nat.add_sub_cancel, List.getLast?_eq_getElem?, hn'.out, Nat.add_sub_cancel, ht'.out]
      rfl
    have hx := anyBad_any (some ⟨w.heap.size, 0, none⟩) (m + 1) (m + 1) (L.set m (strip t)) w3 ho3.rd (fun x hx => by
      rcases List.mem_or_eq_of_mem_set hx with h | rfl
      · exact hsm'.out x h
      · have h9 := hsm'.out t (List.mem_of_getElem? ht'.out)
        rcases strip_ways t with ⟨r, rfl, e⟩ | e
        · rw [e]; simp at h9; omega
        · rw [e]; exact h9) hU3.out
    rw [hall] at hx
    have hb3' := Lib.hid hb3
    have hz3 := hb3.size
    clear ho3 hset' hall hb3 hU3
    go_wp2_with fail
    refine hx.mono ?_
    rintro e w4 ⟨rfl, hb4⟩
    have hb4' := Lib.hid (hb3'.out.trans (hb4.mono hz3))
    clear hx hb4 hw3
    go_wp2_with fail
    go_ret
    refine ⟨ret_bool ?_, hb4'.out⟩
    simp

set_option maxHeartbeats 1000000 in
set_option maxRecDepth 100000 in
/-- keys.twice. -/
theorem twice_any (A : Option Addr) (n c : Nat) (ts : List Tx) (w : World) (h : Ts w A n c ts) :
    Calls Tryz.prog 61 #[.slice A n c] w fun e w' => e = .returned (.bool (!onceB ts)) ∧ Below w.heap.size w w' := by
  have hl := Lib.hid h.len
  have hle := Rd.le h
  have hm := Rd.max h
  obtain ⟨R, hR⟩ : ∃ R, onceB ts = R := ⟨_, rfl⟩
  rw [hR]
  have hR' := Lib.hid hR
  have h' := Lib.hid h
  clear hR h
  go_enter Tryz.func61, Tryz.ntmps61
  go_wp2_with fail
  go_loopw [7] (fun i wr => ∃ k : Nat, k ≤ n ∧ i = .int .i64 k ∧ Hid (onceB (ts.take k) = true) ∧ Hid (Below w.heap.size w wr)) (fun i _ => n - (intOf i).toNat)
  case atStart => exact ⟨0, by omega, rfl, Lib.hid rfl, Lib.hid (Below.refl _ _)⟩
  case round =>
    obtain ⟨k, hk, rfl, ho, hb⟩ := hrel
    have hr := h'.out.below hb.out
    by_cases hlt : k < n
    · have i1 : decide ((k : Int) < (n : Int)) = true := by rw [decide_eq_true_eq]; omega
      have i2 : decide (k < n) = true := by rw [decide_eq_true_eq]; omega
      have i3 : (k : Int) < (n : Int) := by omega
      obtain ⟨b, off, t, rfl, hbl, ht, hc⟩ := hr.at_ hlt
      have hcut := hr.cut 0 k (by omega) (by omega) (some ⟨b, off, none⟩) (fun b' o' e _ => by injection e with e; injection e with e1 e2; subst e1; subst e2; rfl) (fun h => by cases h) (fun _ h => by cases h)
      rw [Nat.sub_zero, Nat.sub_zero, List.drop_zero] at hcut
      have hcon := contains_any (some ⟨b, off, none⟩) k c (ts.take k) t wr hcut
      cases hx : (ts.take k).contains t with
      | true =>
        rw [hx] at hcon
        have hf : R = false := by rw [← hR'.out]; exact once_not ht hx
        subst hf
        have hb' := hb
        clear hcut ht hx
        go_wp2_with fail
        refine hcon.mono ?_
        rintro e w2 ⟨rfl, rfl⟩
        clear hcon
        go_wp2_with fail
        go_ret
        exact ⟨rfl, hb'.out⟩
      | false =>
        rw [hx] at hcon
        have ho2 := Lib.hid (show onceB (ts.take (k + 1)) = true by rw [once_take ht, ho.out, hx]; rfl)
        clear hcut ht hx
        go_wp2_with fail
        refine hcon.mono ?_
        rintro e w2 ⟨rfl, rfl⟩
        clear hcon
        go_wp2_with fail
        go_roundw
        case rel => exact ⟨k + 1, by omega, by go_num, ho2, hb⟩
        case measure => simp [intOf]; omega
    · have i1 : decide ((k : Int) < (n : Int)) = false := by rw [decide_eq_false_iff_not]; omega
      have i2 : decide (k < n) = false := by rw [decide_eq_false_iff_not]; omega
      have hf : R = true := by
        have := ho.out
        rw [List.take_of_length_le (by have := hl.out; omega)] at this
        rw [← hR'.out]; exact this
      subst hf
      go_wp2_with fail
      go_ret
      exact ⟨rfl, hb.out⟩
end Go.Proofs.YtjofkodncplhaaaGreatDoor.Ky
end
