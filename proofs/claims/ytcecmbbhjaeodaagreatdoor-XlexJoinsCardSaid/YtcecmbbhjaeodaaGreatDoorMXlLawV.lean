/- XlexValues. Printed by xl_lawv.py. -/
import Derived.Test.YtcecmbbhjaeodaaGreatDoorMXlRow
import Derived.Test.YtcecmbbhjaeodaaGreatDoorMUtfEnc2
import Derived.Deep.QuietTactic
import Derived.BigQuiet
import Derived.Test.YtcecmbbhjaeodaaGreatDoorMXlLawA
import Derived.Test.YtcecmbbhjaeodaaGreatDoorMXlValues
import Derived.Test.YtcecmbbhjaeodaaGreatDoorMUtfBad
import Derived.Laws.StructEq
section
namespace Go.Proofs.YtcecmbbhjaeodaaGreatDoor.UtfW
open Go.RowKit
theorem rd_one (w : World) (v : Value) (E : TypeId) : Rd (w.alloc (.cells #[v] E)) (some ⟨w.heap.size, 0, none⟩) 1 1 [v] :=
  { len := rfl, le := Nat.le_refl _, max := by omega, nil := (fun h => by cases h), cell := fun _ => ⟨w.heap.size, 0, rfl, by simp, fun j u hu => by
    obtain rfl : j = 0 := by have := (List.getElem?_eq_some_iff.1 hu).1; simp at this; omega
    simp at hu
    subst hu
    exact World.cell?_alloc_at _ _ _ _ rfl⟩ }

set_option maxHeartbeats 2000000 in
set_option maxRecDepth 100000 in

set_option maxHeartbeats 2000000 in
set_option maxRecDepth 100000 in
/-- The document's Lines. -/
theorem refLines_any (s : ByteArray) (hs : s.size ≤ 1000000) (w : World) :
    Calls Tryz.prog 20 #[.string s] w fun e w' => e = .returned (.string (strOf (Utf.lines s.data.toList))) ∧ Below w.heap.size w w' := by
  have HL : Hid (s.data.toList.length = s.size) := Lib.hid (by rw [Array.length_toList]; rfl)
  go_enter Tryz.func20, Tryz.ntmps20
  go_wp2_with fail
  go_loopw [3, 4] (fun out v wr => ∃ (k : Nat) (A : Option Addr) (c m : Nat) (acc : List UInt8), k ≤ s.size ∧ m ≤ k ∧ v = .int .i64 (k : Nat) ∧ out = .slice A m c ∧ acc.length = m ∧ Hid (Utf.lines s.data.toList = acc ++ Utf.lines (s.data.toList.drop k)) ∧ Hid (OwB wr w.heap.size 5 out acc) ∧ Hid (Below w.heap.size w wr)) (fun _ v _ => s.size - (intOf v).toNat)
  case atStart => exact ⟨0, none, 0, 0, [], by omega, by omega, rfl, rfl, rfl, Lib.hid rfl, Lib.hid (OwB.nil _ _ _), Lib.hid (Below.refl _ _)⟩
  case round =>
    obtain ⟨k, A, c, m, acc, hk, hmk, rfl, rfl, hm, hr, ho, hb⟩ := hrel
    by_cases hlt : k < s.size
    · have i0 : decide ((k : Int) < (s.size : Int)) = true := by simp; omega
      have i1 : (k : Int) < (s.size : Int) := by omega
      have hd : s.data.toList.drop k = s[k] :: s.data.toList.drop (k + 1) := by
        rw [List.drop_eq_getElem_cons (by have := HL.out; omega)]
        rfl
      have hd' := Lib.hid hd
      clear hd
      have i2 : (0 : Int) ≤ (k : Int) + 1 := by omega
      by_cases h13 : s[k] = 13
      · have t1 : ((s[k].toNat : Int) != 13) = false := by rw [h13]; rfl
        have h13' := Lib.hid h13
        clear h13
        by_cases hB : ∃ h : k + 1 < s.size, s[k + 1] = 10
        · obtain ⟨h2, h10⟩ := hB
          have t2 : ((s[k + 1].toNat : Int) != 10) = false := by rw [h10]; rfl
          have t3 : decide ((s.size : Int) ≤ (k : Int) + 1) = false := by simp; omega
          have t4 : (k : Int) + 1 < (s.size : Int) := by omega
          have h10' := Lib.hid h10
          clear h10
          go_wp2_with fail
          go_roundw
          case rel =>
            refine ⟨k + 1, A, c, m, acc, by omega, by omega, by go_num, rfl, hm, Lib.hid ?_, ho, hb⟩
            rw [hr.out, hd'.out, Utf.lines, if_pos h13'.out, if_pos]
            rw [List.head?_drop]
            exact (List.getElem?_eq_getElem (by have := HL.out; omega)).trans (congrArg some h10'.out)
          case measure => simp [intOf]; omega
        · have hB' := Lib.hid hB
          clear hB
          have hl2 : Utf.lines s.data.toList = (acc ++ [10]) ++ Utf.lines (s.data.toList.drop (k + 1)) := by
            rw [hr.out, hd'.out, Utf.lines, if_pos h13'.out, if_neg, List.append_assoc]
            · rfl
            · intro h
              rw [List.head?_drop] at h
              obtain ⟨h3, h4⟩ := List.getElem?_eq_some_iff.1 h
              exact hB'.out ⟨by have := HL.out; omega, h4⟩
          have hl2' := Lib.hid hl2
          clear hl2
          by_cases h2 : k + 1 < s.size
          · have t2 : ((s[k + 1].toNat : Int) != 10) = true := by
              rw [bne_iff_ne]
              intro h
              exact hB'.out ⟨h2, UInt8.toNat_inj.1 (by rw [show (s[k + 1]).toNat = 10 by omega]; rfl)⟩
            have t3 : decide ((s.size : Int) ≤ (k : Int) + 1) = false := by simp; omega
            have t4 : (k : Int) + 1 < (s.size : Int) := by omega
            go_wp2_with (at_builtin; apply stop_here)
            refine Stop.go (append_bytes _ 22 5 Tryz.underlying22 (by kernel_rfl) rfl _ _ rfl w.heap.size _ acc rfl (ho.out.below (below_alloc _ _)) _ 1 _ [10] rfl (rd_one _ _ _) (m + 1) (by omega) (by omega) (by have := hb.out.size; simp; omega) ?_)
            intro A' c' w' h1 h2 h3
            have h1' := Lib.hid h1
            have hx := Lib.hid ((hb.out.trans ((below_alloc _ _).mono hb.out.size)).trans h3)
            clear h1 h2 h3
            go_wp2_with fail
            go_roundw
            case rel => exact ⟨k + 1, A', c', m + 1, acc ++ [10], by omega, by omega, by go_num, rfl, by simp; omega, hl2', h1', hx⟩
            case measure => simp [intOf]; omega
          · have t3 : decide ((s.size : Int) ≤ (k : Int) + 1) = true := by simp; omega
            go_wp2_with (at_builtin; apply stop_here)
            refine Stop.go (append_bytes _ 22 5 Tryz.underlying22 (by kernel_rfl) rfl _ _ rfl w.heap.size _ acc rfl (ho.out.below (below_alloc _ _)) _ 1 _ [10] rfl (rd_one _ _ _) (m + 1) (by omega) (by omega) (by have := hb.out.size; simp; omega) ?_)
            intro A' c' w' h1 h2 h3
            have h1' := Lib.hid h1
            have hx := Lib.hid ((hb.out.trans ((below_alloc _ _).mono hb.out.size)).trans h3)
            clear h1 h2 h3
            go_wp2_with fail
            go_roundw
            case rel => exact ⟨k + 1, A', c', m + 1, acc ++ [10], by omega, by omega, by go_num, rfl, by simp; omega, hl2', h1', hx⟩
            case measure => simp [intOf]; omega
      · have t1 : ((s[k].toNat : Int) != 13) = true := by
          rw [bne_iff_ne]
          intro h
          exact h13 (UInt8.toNat_inj.1 (by rw [show (s[k]).toNat = 13 by omega]; rfl))
        have hl2 : Utf.lines s.data.toList = (acc ++ [s[k]]) ++ Utf.lines (s.data.toList.drop (k + 1)) := by
          rw [hr.out, hd'.out, Utf.lines, if_neg h13, List.append_assoc]
          rfl
        have hl2' := Lib.hid hl2
        clear hl2 h13
        go_wp2_with (at_builtin; apply stop_here)
        refine Stop.go (append_bytes _ 22 5 Tryz.underlying22 (by kernel_rfl) rfl _ _ rfl w.heap.size _ acc rfl (ho.out.below (below_alloc _ _)) _ 1 _ [s[k]] rfl (rd_one _ _ _) (m + 1) (by omega) (by omega) (by have := hb.out.size; simp; omega) ?_)
        intro A' c' w' h1 h2 h3
        have h1' := Lib.hid h1
        have hx := Lib.hid ((hb.out.trans ((below_alloc _ _).mono hb.out.size)).trans h3)
        clear h1 h2 h3
        go_wp2_with fail
        go_roundw
        case rel => exact ⟨k + 1, A', c', m + 1, acc ++ [s[k]], by omega, by omega, by go_num, rfl, by simp; omega, hl2', h1', hx⟩
        case measure => simp [intOf]; omega
    · have i0 : decide ((k : Int) < (s.size : Int)) = false := by simp; omega
      have hfin : Utf.lines s.data.toList = acc := by
        rw [hr.out, List.drop_eq_nil_of_le (by have := HL.out; omega), Utf.lines, List.append_nil]
      rw [hfin]
      have hfin' := Lib.hid hfin
      clear hfin
      have hcv := ho.out.bs.conv (P := Tryz.prog) (src := 22) (dst := 9) (e := 5) Tryz.underlying22 Tryz.underlying5 Tryz.underlying9
      go_wp2_with fail
      go_ret
      exact ⟨by rw [hfin'.out]; rfl, hb.out⟩
end Go.Proofs.YtcecmbbhjaeodaaGreatDoor.UtfW
end

section
namespace Go.Proofs.YtcecmbbhjaeodaaGreatDoor.Xl
open Go.RowKit UtfW Er

theorem add_str (w : World) (a b : Tx) (h : a.length + b.length ≤ 1000000) : (Op.stringOp .add (strOf a) (strOf b)).run Tryz.prog w = .ok (.string (strOf (a ++ b))) w := by
  rw [← strOf_add]
  exact run_string_add_sum (P := Tryz.prog) w (strOf a) (strOf b) (by rw [strOf_size' a, strOf_size' b]; omega)
theorem at_eq (w : World) (x y : ByteArray) : (binOp .eql 43 (.agg #[.string x, .string y]) (.agg #[.string x, .string y])).run Tryz.prog w = .ok (.bool true) w := by
  have hS : Tryz.prog.underlying 43 = some (.struct (Tryz.prog.fieldsOf 43)) := by kernel_rfl
  have hp : Tryz.prog.stoodInHeld 43 = false := by kernel_rfl
  rw [run_eql_struct, show (10000 : Nat) = 9999 + 1 from rfl, run_equalIn_agg w 9999 43 _ _ hS hp]
  simp only [Program.fieldsOf, Tryz.underlying43]
  go_simp
theorem badW_leA (l : Tx) : ∀ n k, l.length - k ≤ n → badW l k ≤ l.length := by
  intro n
  induction n with
  | zero => intro k h; rw [badW_end (by omega)]; omega
  | succ n ih =>
    intro k h
    by_cases hlt : k < l.length
    · by_cases h0 : (nx l k).2 = 0
      · rw [badW_stop hlt h0]; omega
      · rw [badW_on hlt h0]
        exact ih _ (by omega)
    · rw [badW_end (by omega)]; omega
theorem badW_le2 (S : Tx) : badW S 0 ≤ S.length := badW_leA S S.length 0 (by omega)

section
variable (w : World) (S : Tx) (single : Bool)
set_option maxHeartbeats 8000000 in
set_option maxRecDepth 100000 in
theorem values_any (hU : Un w) (hE : En w.heap.size w) :
    Calls Tryz.prog 7 #[.string (strOf S), .bool single] w fun e w' => e = .returned (.bool true) ∧ Below w.heap.size w w' := by
  have hsz : (strOf S).size = S.length := strOf_size' S
  have hls : (strOf S).data.toList = S := by simp [strOf]
  have hU' := Lib.hid hU
  have hE' := Lib.hid hE
  go_enter Tryz.func7, Tryz.ntmps7
  go_wp2_with fail
  refine (awake_any w hU hE).mono ?_
  rintro e w1 ⟨rfl, hb1⟩
  have hb1' := Lib.hid hb1
  clear hb1 hU hE
  by_cases hlen : 2000 < S.length
  · have i0 : decide ((2000 : Int) < (S.length : Int)) = true := by simp; omega
    go_wp2_with fail
    (try simp only [Exit.inBlock, Exit.then])
    go_ret
    exact ⟨rfl, hb1'.out⟩
  have i0 : decide ((2000 : Int) < (S.length : Int)) = false := by simp; omega
  have hlen' : S.length ≤ 2000 := by omega
  clear hlen
  go_wp2_with fail
  refine (refLines_any (strOf S) (by rw [hsz]; omega) w1).mono ?_
  rintro e w2 ⟨rfl, hb2⟩
  rw [hls]
  obtain ⟨L, hL⟩ : ∃ L, Utf.lines S = L := ⟨_, rfl⟩
  rw [hL]
  have hLsz : (strOf L).size = L.length := strOf_size' L
  have hLl : L.length ≤ 2000 := by rw [← hL]; have := Utf.lines_len S; omega
  have hL' := Lib.hid hL
  have hb2' := Lib.hid (hb1'.out.trans (hb2.mono hb1'.out.size))
  clear hb2 hb1' hL
  go_wp2_with fail
  go_loopw [5, 7, 8] (fun v5 v7 _ wr => ∃ j : Nat, j ≤ L.length ∧ v7 = .int .i64 (j : Nat) ∧ v5 = .string (strOf ((L.take j).map bl)) ∧ Hid (∀ c ∈ L.take j, c ≠ 34 ∧ c ≠ 39 ∧ c ≠ 60 ∧ c ≠ 38) ∧ Hid (Below w.heap.size w wr)) (fun _ v7 _ _ => L.length - (intOf v7).toNat)
  case atStart => exact ⟨0, by omega, rfl, by simp; rfl, Lib.hid (by simp), hb2'⟩
  case round =>
    clear hb2'
    obtain ⟨j, hj, rfl, rfl, hok, hb⟩ := hrel
    by_cases hlt : j < L.length
    · have i1 : decide ((j : Int) < (L.length : Int)) = true := by simp; omega
      have hx : L[j]? = some L[j] := List.getElem?_eq_getElem hlt
      generalize L[j] = x at hx
      have hlt' : j < (strOf L).size := by omega
      have hgx := str_at hx hlt'
      have q1 : (j : Int) < (L.length : Int) := by omega
      have htk : L.take (j + 1) = L.take j ++ [x] := by rw [List.take_add_one, hx]; rfl
      have htk' := Lib.hid htk
      by_cases h34 : x = 34
      · have j34 : ((x.toNat : Int) == 34) = true := by rw [h34]; rfl
        go_wp2_with fail
        (try simp only [Exit.inBlock, Exit.then])
        go_ret
        exact ⟨rfl, hb.out⟩
      have j34 : ((x.toNat : Int) == 34) = false := by rw [show (34 : Int) = ((34 : UInt8).toNat : Int) from rfl, byte_eq, decide_eq_false h34]
      by_cases h39 : x = 39
      · have j39 : ((x.toNat : Int) == 39) = true := by rw [h39]; rfl
        clear h34
        go_wp2_with fail
        (try simp only [Exit.inBlock, Exit.then])
        go_ret
        exact ⟨rfl, hb.out⟩
      have j39 : ((x.toNat : Int) == 39) = false := by rw [show (39 : Int) = ((39 : UInt8).toNat : Int) from rfl, byte_eq, decide_eq_false h39]
      by_cases h60 : x = 60
      · have j60 : ((x.toNat : Int) == 60) = true := by rw [h60]; rfl
        clear h34 h39
        go_wp2_with fail
        (try simp only [Exit.inBlock, Exit.then])
        go_ret
        exact ⟨rfl, hb.out⟩
      have j60 : ((x.toNat : Int) == 60) = false := by rw [show (60 : Int) = ((60 : UInt8).toNat : Int) from rfl, byte_eq, decide_eq_false h60]
      by_cases h38 : x = 38
      · have j38 : ((x.toNat : Int) == 38) = true := by rw [h38]; rfl
        clear h34 h39 h60
        go_wp2_with fail
        (try simp only [Exit.inBlock, Exit.then])
        go_ret
        exact ⟨rfl, hb.out⟩
      have j38 : ((x.toNat : Int) == 38) = false := by rw [show (38 : Int) = ((38 : UInt8).toNat : Int) from rfl, byte_eq, decide_eq_false h38]
      have hok2 : Hid (∀ c ∈ L.take (j + 1), c ≠ 34 ∧ c ≠ 39 ∧ c ≠ 60 ∧ c ≠ 38) := Lib.hid (by
        rw [htk'.out]
        intro c hc
        rcases List.mem_append.1 hc with hc | hc
        · exact hok.out c hc
        · rw [List.mem_singleton.1 hc]
          exact ⟨h34, h39, h60, h38⟩)
      clear h34 h39 h60 h38 htk
      obtain ⟨O, hO⟩ : ∃ O, (L.take j).map bl = O := ⟨_, rfl⟩
      have hOl : O.length ≤ 2000 := by rw [← hO, List.length_map, List.length_take]; omega
      rw [hO]
      have hO' := Lib.hid hO
      clear hO
      by_cases hbl : x = 9 ∨ x = 10
      · have hblx : bl x = 32 := by unfold bl; rw [if_pos hbl]
        have hrel2 : Hid ((L.take (j + 1)).map bl = O ++ [32]) := Lib.hid (by rw [htk'.out, List.map_append, hO'.out, List.map_cons, hblx]; rfl)
        have ha : ∀ w, (Op.stringOp .add (strOf O) ⟨#[32]⟩).run Tryz.prog w = .ok (.string (strOf (O ++ [32]))) w := fun w => add_str w O [32] (by simp; omega)
        clear hblx
        by_cases h9 : x = 9
        · have j9 : ((x.toNat : Int) == 9) = true := by rw [h9]; rfl
          clear hbl h9
          go_wp2_with fail
          go_roundw
          case rel => exact ⟨j + 1, by omega, by go_num, by rw [hrel2.out], hok2, hb⟩
          case measure => simp [intOf]; omega
        · have j9 : ((x.toNat : Int) == 9) = false := by rw [show (9 : Int) = ((9 : UInt8).toNat : Int) from rfl, byte_eq, decide_eq_false h9]
          have j10 : ((x.toNat : Int) == 10) = true := by rw [hbl.resolve_left h9]; rfl
          clear hbl h9
          go_wp2_with fail
          go_roundw
          case rel => exact ⟨j + 1, by omega, by go_num, by rw [hrel2.out], hok2, hb⟩
          case measure => simp [intOf]; omega
      have j9 : ((x.toNat : Int) == 9) = false := by rw [show (9 : Int) = ((9 : UInt8).toNat : Int) from rfl, byte_eq, decide_eq_false fun e => hbl (.inl e)]
      have j10 : ((x.toNat : Int) == 10) = false := by rw [show (10 : Int) = ((10 : UInt8).toNat : Int) from rfl, byte_eq, decide_eq_false fun e => hbl (.inr e)]
      have hblx : bl x = x := by unfold bl; rw [if_neg hbl]
      have hrel2 : Hid ((L.take (j + 1)).map bl = O ++ [x]) := Lib.hid (by rw [htk'.out, List.map_append, hO'.out, List.map_cons, hblx]; rfl)
      have ha := fun w => add_str w O [x] (by simp; omega)
      have hcut : (strOf L).extract j (j + 1) = strOf [x] := by rw [strOf_cut, show j + 1 - j = 1 by omega, drop_at hx]; rfl
      have q2 : (0 : Int) ≤ (j : Int) ∧ (j : Int) ≤ (j : Int) + 1 := ⟨by omega, by omega⟩
      have q3 : (j : Int) + 1 ≤ (L.length : Int) := by omega
      clear hblx hbl
      go_wp2_with fail
      go_roundw
      case rel => exact ⟨j + 1, by omega, by go_num, by rw [hrel2.out], hok2, hb⟩
      case measure => simp [intOf]; omega
    · have i1 : decide ((j : Int) < (L.length : Int)) = false := by simp; omega
      obtain rfl : j = L.length := by omega
      rw [List.take_length] at hok ⊢
      rw [← hL'.out] at hok
      have hLe := hL'.out
      clear hlt
      cases single with
      | false =>
        have hs1 : ∀ w, (Op.stringOp .add ⟨#[60, 97, 32, 120, 61]⟩ ⟨#[34]⟩).run Tryz.prog w = .ok (.string (strOf ([60, 97, 32, 120, 61] ++ [34]))) w := fun w => add_str w [60, 97, 32, 120, 61] [34] (by decide)
        have hs2 := fun w => add_str w ([60, 97, 32, 120, 61] ++ [34]) S (by simp; omega)
        have hs3 : ∀ w, (Op.stringOp .add (strOf ([60, 97, 32, 120, 61] ++ [34] ++ S)) ⟨#[34]⟩).run Tryz.prog w = .ok (.string (strOf ([60, 97, 32, 120, 61] ++ [34] ++ S ++ [34]))) w := fun w => add_str w ([60, 97, 32, 120, 61] ++ [34] ++ S) [34] (by simp; omega)
        have hs4 : ∀ w, (Op.stringOp .add (strOf ([60, 97, 32, 120, 61] ++ [34] ++ S ++ [34])) ⟨#[47, 62]⟩).run Tryz.prog w = .ok (.string (strOf ([60, 97, 32, 120, 61] ++ [34] ++ S ++ [34] ++ [47, 62]))) w := fun w => add_str w ([60, 97, 32, 120, 61] ++ [34] ++ S ++ [34]) [47, 62] (by simp; omega)
        obtain ⟨D, hD⟩ : ∃ D, docV 34 S = D := ⟨_, rfl⟩
        have hDe : [60, 97, 32, 120, 61] ++ [34] ++ S ++ [34] ++ [47, 62] = D := by rw [← hD]; unfold docV; simp
        rw [hDe] at hs4
        obtain ⟨D3, hD3⟩ : ∃ D3, [60, 97, 32, 120, 61] ++ [34] ++ S ++ [34] = D3 := ⟨_, rfl⟩
        rw [hD3] at hs3 hs4
        obtain ⟨D2, hD2⟩ : ∃ D2, [60, 97, 32, 120, 61] ++ [34] ++ S = D2 := ⟨_, rfl⟩
        rw [hD2] at hs2 hs3
        obtain ⟨D1, hD1⟩ : ∃ D1 : Tx, [60, 97, 32, 120, 61] ++ [34] = D1 := ⟨_, rfl⟩
        rw [hD1] at hs1 hs2
        have hDl : D.length ≤ 65536 := by rw [← hD]; unfold docV; simp; omega
        have hD' := Lib.hid hD
        obtain ⟨bd, cb, wD, hcv, hbs, hbD⟩ := conv_bytes wr D (by omega)
        have hxD := Lib.hid (hb.out.trans (hbD.mono hb.out.size))
        have hbs' := Lib.hid hbs
        clear hDe hD3 hD2 hD1 hD hbs hbD
        go_wp2_with fail
        refine (All_any wD (hU'.out.below hxD.out) _ D.length cb D hbs'.out (by omega)).mono ?_
        intro e w3 h3
        have hbad := docV_bad (q := 34) (.inl rfl) S
        rw [hD'.out] at hbad
        obtain ⟨bs2, cb2, wS, hcv2, hbsS, hbS⟩ := conv_bytes w3 S (by omega)
        by_cases hbd : 0 ≤ badW S 0
        · have hall : allF D = (1, (badW D 0).toNat, []) := all_bad' (by omega) (by rw [hbad, if_pos hbd]; omega)
          rw [hbad, if_pos hbd] at hall
          obtain ⟨hb3, v, rfl, f3⟩ := h3.no hall (by decide)
          have hx3 := Lib.hid (hxD.out.trans (hb3.mono hxD.out.size))
          have hxS := Lib.hid (hx3.out.trans (hbS.mono hx3.out.size))
          have fS := Lib.hid (Fe.later f3 hbS)
          have hbsS' := Lib.hid hbsS
          obtain ⟨Tv, av, rfl⟩ := f3.iface
          obtain ⟨bn, hbn⟩ : ∃ bn, badW S 0 = bn := ⟨_, rfl⟩
          rw [hbn] at hbd
          have i3 : decide (0 ≤ bn) = true := by simpa using hbd
          have hbn' := Lib.hid hbn
          have hplace : Hid ((((badW S 0 + 6).toNat : Nat) : Int) = 6 + bn) := Lib.hid (by rw [hbn]; omega)
          rw [hplace.out] at fS
          clear h3 hb3 f3 hbsS hbS hbad hall hbn hbd
          go_wp2_with fail
          refine (refBad_any _ S.length cb2 S (by omega) wS hbsS'.out).mono ?_
          rintro e w4 ⟨rfl, hb4⟩
          rw [hbn'.out]
          have f4 := Lib.hid (Fe.later fS.out hb4)
          have hx4 := Lib.hid (hxS.out.trans (hb4.mono hxS.out.size))
          clear hb4 fS hcv2
          go_wp2_with fail
          refine (Code_any 1 (6 + bn) _ _ w.heap.size w4 (hE'.out.on hx4.out) f4.out).mono ?_
          rintro e w5 ⟨rfl, hb5⟩
          have f5 := Lib.hid (Fe.later f4.out hb5)
          have hx5 := Lib.hid (hx4.out.trans (hb5.mono hx4.out.size))
          clear hb5 f4
          go_wp2_with fail
          refine (At_any 1 (6 + bn) _ _ w.heap.size w5 (hE'.out.on hx5.out) f5.out).mono ?_
          rintro e w6 ⟨rfl, hb6⟩
          have hx6 := Lib.hid (hx5.out.trans (hb6.mono hx5.out.size))
          clear hb6 f5
          obtain ⟨bs3, cb3, wT, hcv3, hbsT, hbT⟩ := conv_bytes w6 S (by omega)
          have hxT := Lib.hid (hx6.out.trans (hbT.mono hx6.out.size))
          have hbsT' := Lib.hid hbsT
          clear hbsT hbT
          go_wp2_with fail
          refine (refBad_any _ S.length cb3 S (by omega) wT hbsT'.out).mono ?_
          rintro e w7 ⟨rfl, hb7⟩
          rw [hbn'.out]
          have hx7 := Lib.hid (hxT.out.trans (hb7.mono hxT.out.size))
          clear hb7 hcv3
          have hbnl : bn ≤ 2000 := by
            have := badW_le2 S
            rw [hbn'.out] at this
            omega
          have hbn0 : 0 ≤ bn := by simpa using i3
          clear i3
          go_wp2_with fail
          (try simp only [Exit.inBlock, Exit.then])
          go_ret
          exact ⟨ret_bool (by simp), hx7.out⟩
        · have hall : allF D = (0, 0, [⟨2, 0, [97], [], [([120], (Utf.lines S).map bl)]⟩]) := by
            rw [← hD'.out]
            exact docV_ok (q := 34) (.inl rfl) (by omega) (by omega) hok.out
          rw [hLe] at hall
          obtain ⟨hb3, A3, c3, rfl, ho3⟩ := h3.ok hall
          simp only [List.length_cons, List.length_nil] at ho3
          have hx3 := Lib.hid (hxD.out.trans (hb3.mono hxD.out.size))
          have hxS := Lib.hid (hx3.out.trans (hbS.mono hx3.out.size))
          have hoS := Lib.hid (ho3.below hbS)
          have hbsS' := Lib.hid hbsS
          obtain ⟨bn, hbn⟩ : ∃ bn, badW S 0 = bn := ⟨_, rfl⟩
          rw [hbn] at hbd
          have i3 : decide (0 ≤ bn) = false := by simpa using hbd
          have hbn' := Lib.hid hbn
          clear h3 hb3 ho3 hbsS hbS hbad hall hbn hbd
          go_wp2_with fail
          refine (refBad_any _ S.length cb2 S (by omega) wS hbsS'.out).mono ?_
          rintro e w4 ⟨rfl, hb4⟩
          rw [hbn'.out]
          have ho4 := Lib.hid (hoS.out.below hb4)
          have hx4 := Lib.hid (hxS.out.trans (hb4.mono hxS.out.size))
          clear hb4 hoS hcv2
          go_wp2_with fail
          refine (Code_ok w4).mono ?_
          rintro e w5 ⟨rfl, hb5⟩
          have ho5 := ho4.out.below hb5
          have hx5 := Lib.hid (hx4.out.trans (hb5.mono hx4.out.size))
          obtain ⟨b1, off1, At, ct, rfl, _, k0, _, _, _, k4, hats⟩ := tk_at ho5 (i := 0) rfl
          obtain ⟨b2, off2, x2, vs2, rfl, _, hx2, _, hv2, hc2⟩ := (OwS.sq' hats (by decide)).at_ (i := 0) (by simp)
          simp at hx2
          subst hx2
          unfold AtEl at hv2
          subst hv2
          have m0 := hc2 0 _ rfl
          have m1 := hc2 1 _ rfl
          rw [Nat.zero_mul, Nat.add_zero] at k0 k4 m0 m1
          dsimp only at m0 m1
          have hstr : (strOf [120]).toList = [120] := by rw [Lib.toList_data]; rfl
          clear hb5 ho4 ho5 hats hc2
          go_wp2_with fail
          (try simp only [Exit.inBlock, Exit.then])
          go_ret
          exact ⟨rfl, hx5.out⟩
      | true =>
        have hs1 : ∀ w, (Op.stringOp .add ⟨#[60, 97, 32, 120, 61]⟩ ⟨#[39]⟩).run Tryz.prog w = .ok (.string (strOf ([60, 97, 32, 120, 61] ++ [39]))) w := fun w => add_str w [60, 97, 32, 120, 61] [39] (by decide)
        have hs2 := fun w => add_str w ([60, 97, 32, 120, 61] ++ [39]) S (by simp; omega)
        have hs3 : ∀ w, (Op.stringOp .add (strOf ([60, 97, 32, 120, 61] ++ [39] ++ S)) ⟨#[39]⟩).run Tryz.prog w = .ok (.string (strOf ([60, 97, 32, 120, 61] ++ [39] ++ S ++ [39]))) w := fun w => add_str w ([60, 97, 32, 120, 61] ++ [39] ++ S) [39] (by simp; omega)
        have hs4 : ∀ w, (Op.stringOp .add (strOf ([60, 97, 32, 120, 61] ++ [39] ++ S ++ [39])) ⟨#[47, 62]⟩).run Tryz.prog w = .ok (.string (strOf ([60, 97, 32, 120, 61] ++ [39] ++ S ++ [39] ++ [47, 62]))) w := fun w => add_str w ([60, 97, 32, 120, 61] ++ [39] ++ S ++ [39]) [47, 62] (by simp; omega)
        obtain ⟨D, hD⟩ : ∃ D, docV 39 S = D := ⟨_, rfl⟩
        have hDe : [60, 97, 32, 120, 61] ++ [39] ++ S ++ [39] ++ [47, 62] = D := by rw [← hD]; unfold docV; simp
        rw [hDe] at hs4
        obtain ⟨D3, hD3⟩ : ∃ D3, [60, 97, 32, 120, 61] ++ [39] ++ S ++ [39] = D3 := ⟨_, rfl⟩
        rw [hD3] at hs3 hs4
        obtain ⟨D2, hD2⟩ : ∃ D2, [60, 97, 32, 120, 61] ++ [39] ++ S = D2 := ⟨_, rfl⟩
        rw [hD2] at hs2 hs3
        obtain ⟨D1, hD1⟩ : ∃ D1 : Tx, [60, 97, 32, 120, 61] ++ [39] = D1 := ⟨_, rfl⟩
        rw [hD1] at hs1 hs2
        have hDl : D.length ≤ 65536 := by rw [← hD]; unfold docV; simp; omega
        have hD' := Lib.hid hD
        obtain ⟨bd, cb, wD, hcv, hbs, hbD⟩ := conv_bytes wr D (by omega)
        have hxD := Lib.hid (hb.out.trans (hbD.mono hb.out.size))
        have hbs' := Lib.hid hbs
        clear hDe hD3 hD2 hD1 hD hbs hbD
        go_wp2_with fail
        refine (All_any wD (hU'.out.below hxD.out) _ D.length cb D hbs'.out (by omega)).mono ?_
        intro e w3 h3
        have hbad := docV_bad (q := 39) (.inr rfl) S
        rw [hD'.out] at hbad
        obtain ⟨bs2, cb2, wS, hcv2, hbsS, hbS⟩ := conv_bytes w3 S (by omega)
        by_cases hbd : 0 ≤ badW S 0
        · have hall : allF D = (1, (badW D 0).toNat, []) := all_bad' (by omega) (by rw [hbad, if_pos hbd]; omega)
          rw [hbad, if_pos hbd] at hall
          obtain ⟨hb3, v, rfl, f3⟩ := h3.no hall (by decide)
          have hx3 := Lib.hid (hxD.out.trans (hb3.mono hxD.out.size))
          have hxS := Lib.hid (hx3.out.trans (hbS.mono hx3.out.size))
          have fS := Lib.hid (Fe.later f3 hbS)
          have hbsS' := Lib.hid hbsS
          obtain ⟨Tv, av, rfl⟩ := f3.iface
          obtain ⟨bn, hbn⟩ : ∃ bn, badW S 0 = bn := ⟨_, rfl⟩
          rw [hbn] at hbd
          have i3 : decide (0 ≤ bn) = true := by simpa using hbd
          have hbn' := Lib.hid hbn
          have hplace : Hid ((((badW S 0 + 6).toNat : Nat) : Int) = 6 + bn) := Lib.hid (by rw [hbn]; omega)
          rw [hplace.out] at fS
          clear h3 hb3 f3 hbsS hbS hbad hall hbn hbd
          go_wp2_with fail
          refine (refBad_any _ S.length cb2 S (by omega) wS hbsS'.out).mono ?_
          rintro e w4 ⟨rfl, hb4⟩
          rw [hbn'.out]
          have f4 := Lib.hid (Fe.later fS.out hb4)
          have hx4 := Lib.hid (hxS.out.trans (hb4.mono hxS.out.size))
          clear hb4 fS hcv2
          go_wp2_with fail
          refine (Code_any 1 (6 + bn) _ _ w.heap.size w4 (hE'.out.on hx4.out) f4.out).mono ?_
          rintro e w5 ⟨rfl, hb5⟩
          have f5 := Lib.hid (Fe.later f4.out hb5)
          have hx5 := Lib.hid (hx4.out.trans (hb5.mono hx4.out.size))
          clear hb5 f4
          go_wp2_with fail
          refine (At_any 1 (6 + bn) _ _ w.heap.size w5 (hE'.out.on hx5.out) f5.out).mono ?_
          rintro e w6 ⟨rfl, hb6⟩
          have hx6 := Lib.hid (hx5.out.trans (hb6.mono hx5.out.size))
          clear hb6 f5
          obtain ⟨bs3, cb3, wT, hcv3, hbsT, hbT⟩ := conv_bytes w6 S (by omega)
          have hxT := Lib.hid (hx6.out.trans (hbT.mono hx6.out.size))
          have hbsT' := Lib.hid hbsT
          clear hbsT hbT
          go_wp2_with fail
          refine (refBad_any _ S.length cb3 S (by omega) wT hbsT'.out).mono ?_
          rintro e w7 ⟨rfl, hb7⟩
          rw [hbn'.out]
          have hx7 := Lib.hid (hxT.out.trans (hb7.mono hxT.out.size))
          clear hb7 hcv3
          have hbnl : bn ≤ 2000 := by
            have := badW_le2 S
            rw [hbn'.out] at this
            omega
          have hbn0 : 0 ≤ bn := by simpa using i3
          clear i3
          go_wp2_with fail
          (try simp only [Exit.inBlock, Exit.then])
          go_ret
          exact ⟨ret_bool (by simp), hx7.out⟩
        · have hall : allF D = (0, 0, [⟨2, 0, [97], [], [([120], (Utf.lines S).map bl)]⟩]) := by
            rw [← hD'.out]
            exact docV_ok (q := 39) (.inr rfl) (by omega) (by omega) hok.out
          rw [hLe] at hall
          obtain ⟨hb3, A3, c3, rfl, ho3⟩ := h3.ok hall
          simp only [List.length_cons, List.length_nil] at ho3
          have hx3 := Lib.hid (hxD.out.trans (hb3.mono hxD.out.size))
          have hxS := Lib.hid (hx3.out.trans (hbS.mono hx3.out.size))
          have hoS := Lib.hid (ho3.below hbS)
          have hbsS' := Lib.hid hbsS
          obtain ⟨bn, hbn⟩ : ∃ bn, badW S 0 = bn := ⟨_, rfl⟩
          rw [hbn] at hbd
          have i3 : decide (0 ≤ bn) = false := by simpa using hbd
          have hbn' := Lib.hid hbn
          clear h3 hb3 ho3 hbsS hbS hbad hall hbn hbd
          go_wp2_with fail
          refine (refBad_any _ S.length cb2 S (by omega) wS hbsS'.out).mono ?_
          rintro e w4 ⟨rfl, hb4⟩
          rw [hbn'.out]
          have ho4 := Lib.hid (hoS.out.below hb4)
          have hx4 := Lib.hid (hxS.out.trans (hb4.mono hxS.out.size))
          clear hb4 hoS hcv2
          go_wp2_with fail
          refine (Code_ok w4).mono ?_
          rintro e w5 ⟨rfl, hb5⟩
          have ho5 := ho4.out.below hb5
          have hx5 := Lib.hid (hx4.out.trans (hb5.mono hx4.out.size))
          obtain ⟨b1, off1, At, ct, rfl, _, k0, _, _, _, k4, hats⟩ := tk_at ho5 (i := 0) rfl
          obtain ⟨b2, off2, x2, vs2, rfl, _, hx2, _, hv2, hc2⟩ := (OwS.sq' hats (by decide)).at_ (i := 0) (by simp)
          simp at hx2
          subst hx2
          unfold AtEl at hv2
          subst hv2
          have m0 := hc2 0 _ rfl
          have m1 := hc2 1 _ rfl
          rw [Nat.zero_mul, Nat.add_zero] at k0 k4 m0 m1
          dsimp only at m0 m1
          have hstr : (strOf [120]).toList = [120] := by rw [Lib.toList_data]; rfl
          clear hb5 ho4 ho5 hats hc2
          go_wp2_with fail
          (try simp only [Exit.inBlock, Exit.then])
          go_ret
          exact ⟨rfl, hx5.out⟩
end
end Go.Proofs.YtcecmbbhjaeodaaGreatDoor.Xl
end
