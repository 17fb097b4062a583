/- upto of the scanner. Printed by xl_upto.py. -/
import Derived.Test.YtokdnhdfmgfkeaaGreatDoorMXlStep
import Derived.Test.YtokdnhdfmgfkeaaGreatDoorMPlan2
import Derived.Lib.ConvBytes
import Derived.Test.YtokdnhdfmgfkeaaGreatDoorMQxVal
import Derived.Lib.OthersKept
import Derived.Test.YtokdnhdfmgfkeaaGreatDoorMUtfEnc
import Derived.Shelf.Lay
import Derived.Ground.NamesProg
import Derived.Shelf.Small.Utf8
import Derived.Shelf.Utf8.AppendRunePlain
import Derived.Lib.AppendStr
import Derived.Test.YtokdnhdfmgfkeaaGreatDoorMXlCell
section
namespace Go.Proofs.YtokdnhdfmgfkeaaGreatDoor.Xl
open Go.RowKit UtfW

theorem str_at {S : Tx} {k : Nat} {x : UInt8} (h : S[k]? = some x) (hk : k < (strOf S).size) : (strOf S)[k]'hk = x := by
  have hk' : k < S.length := (List.getElem?_eq_some_iff.1 h).1
  rw [List.getElem?_eq_getElem hk'] at h
  exact Option.some.inj h
theorem wrap32_byte (x : UInt8) : wrap32 (x.toNat : Int) = (x.toNat : Int) := by
  have := x.toNat_lt
  unfold wrap32
  omega
theorem bs_convert (w : World) (s : ByteArray) (hs : s.size ≤ 281474976710656) :
    Bs (Lib.bytesWorld w 5 s) (some ⟨w.heap.size, 0, none⟩) s.size (grownCap w s.size 0 5) s.data.toList ∧ Below w.heap.size w (Lib.bytesWorld w 5 s) := by
  have hl : s.data.toList.length = s.size := by rw [Array.length_toList]; rfl
  refine ⟨{ len := by rw [bv_length, hl], le := grownCap_ge _ _ _ _, max := ?_, nil := (fun h => by cases h), cell := fun h0 => ⟨w.heap.size, 0, rfl, by rw [Lib.bytesWorld_size]; omega, ?_⟩ }, ?_⟩
  · have := grownCap_le_maxLen w s.size 0 5 (by unfold maxLen; omega)
    unfold maxLen at this
    omega
  · intro j u hu
    obtain ⟨x, hx, rfl⟩ := bv_get hu
    have hj : j < s.size := by rw [← hl]; exact (List.getElem?_eq_some_iff.1 hx).1
    rw [Nat.zero_add, Lib.bytesWorld_cell w 5 s j hj, List.getD_eq_getElem?_getD, hx]
    rfl
  · exact ⟨rfl, rfl, rfl, by rw [Lib.bytesWorld_size]; omega, fun k hk => Lib.bytesWorld_at_old w 5 s k hk⟩
theorem conv_bytes (w : World) (l : Tx) (hl : l.length ≤ 281474976710656) : ∃ bd cb w', (convert 9 41 (.string (strOf l))).run Tryz.prog w = .ok (.slice (some ⟨bd, 0, none⟩) l.length cb) w' ∧ Bs w' (some ⟨bd, 0, none⟩) l.length cb l ∧ Below w.heap.size w w' := by
  have hsz : (strOf l).size = l.length := strOf_size' l
  obtain ⟨h1, h2⟩ := bs_convert w (strOf l) (by omega)
  have h3 := Lib.run_convert_string_bytes w 9 41 5 (strOf l) Tryz.underlying9 Tryz.underlying41 Tryz.underlying5
  rw [hsz] at h1 h3
  have hlst : (strOf l).data.toList = l := by simp [strOf]
  rw [hlst] at h1
  exact ⟨_, _, _, h3, h1, h2⟩

def offA (A : Option Addr) (c k : Nat) : Option Addr := if c = k then A else A.map (fun a => a.add k)
theorem Bs.from {w : World} {A : Option Addr} {n c : Nat} {l : Tx} (h : Bs w A n c l) {k m : Nat} (hk : k ≤ m) (hm : m ≤ n) : Bs w (offA A c k) (m - k) (c - k) ((l.drop k).take (m - k)) :=
  h.cut k m hk hm _ (fun b off e hlt => by
    unfold offA
    rw [if_neg (by omega), e]
    show some (Addr.add ⟨b, off, none⟩ k) = _
    unfold Addr.add
    split
    · rename_i h0; rw [h0]; rfl
    · rfl) (fun e => by
    unfold offA
    split
    · exact e
    · rw [e]; rfl) (fun hne => by
    unfold offA
    split
    · exact hne
    · intro e
      cases A with
      | none => exact hne rfl
      | some a => cases e)

section
variable (w : World) (b : Nat) (S : Tx) (k : Nat) (A : Option Addr) (c : Nat) (vo : Value)
set_option maxRecDepth 100000 in
theorem has_any (h : Xc w b S k A c vo) (hk : k ≤ S.length) (hS : S.length ≤ 65536) (p : Tx) (hp : p.length ≤ 65536) :
    Calls Tryz.prog 156 #[.pointer (some ⟨b, 0, none⟩), .string (strOf p)] w fun e w' => e = .returned (.bool (Lib.hasPrefix (S.drop k) p)) ∧ Below w.heap.size w w' := by
  have hlc := Rd.le h.bs
  have hcm := Rd.max h.bs
  have hq : Hid (∀ x, Below w.heap.size w x → x.cell? ⟨b, 0, none⟩ = some (.slice A S.length c) ∧ x.cell? ⟨b, 1, none⟩ = some (.int .i64 (k : Nat))) := Lib.hid fun x hx => ⟨(h.below hx).c0, (h.below hx).c1⟩
  have hdr : Hid (Below w.heap.size w w.drew) := Lib.hid (Joins.below_draws w.heap.size w 1)
  have h' := Lib.hid h
  clear h
  obtain ⟨bd, cb, w1, hcv, hbs, hb1⟩ := conv_bytes w.drew p (by omega)
  have hb1' := Lib.hid (hdr.out.trans (hb1.mono hdr.out.size))
  have hc : Hid (Calls Tryz.prog 174 #[.slice (offA A c k) (S.length - k) (c - k), .slice (some ⟨bd, 0, none⟩) p.length cb] w1 fun e w' => e = .returned (.bool (Lib.hasPrefix (S.drop k) p)) ∧ w' = w1) := Lib.hid (by
    have hf := Bs.from (h'.out.below hb1'.out).bs hk (Nat.le_refl _)
    rw [List.take_of_length_le (by rw [List.length_drop]; omega)] at hf
    exact hasB_any w1 hf hbs)
  obtain ⟨R, hR⟩ : ∃ R, Lib.hasPrefix (S.drop k) p = R := ⟨_, rfl⟩
  rw [hR] at hc ⊢
  clear hbs hb1 hR
  unfold offA at hc
  obtain ⟨A1, hA1⟩ : ∃ A1, (if c = k then A else Option.map (fun x => x.add k) A) = A1 := ⟨_, rfl⟩
  rw [hA1] at hc
  go_enter Tryz.func156, Tryz.ntmps156
  go_wp2_with fail
  refine Pl.wp_region_plan 11 (.take 0 (.take 1 (.take 2 (.take 3 (.take 4 (.take 5 (.take 6 (.take 7 (.take 8 (.take 9 (.run 10 .done))))))))))) (fun x => x.cell? ⟨b, 0, none⟩ = some (.slice A S.length c) ∧ x.cell? ⟨b, 1, none⟩ = some (.int .i64 (k : Nat))) (by kernel_rfl) (by kernel_rfl) (by exact hq.out _ hdr.out) ?_
  simp only [Pl.fill, List.getElem?_cons_zero, List.getElem?_cons_succ, List.drop_succ_cons, List.drop_zero]
  iterate 10
    refine Pl.take_go ?_ (by rfl) (fun _ _ _ h => h) ?_ ?_
    rotate_left
    · (intro x hSw; (try dsimp only at hSw); (try obtain ⟨s0, s1⟩ := hSw); go_simp; try with_reducible rfl)
    try simp only [Act.put, List.setIfInBounds_toArray, List.set_cons_zero, List.set_cons_succ]
  refine Pl.run_go (fun K hK => ?_)
  go_simp
  refine hK.out _ _ (Pl.more_go _ (fun _ h => h) (by exact hq.out _ hb1'.out) ?_)
  clear hK K
  refine Pl.done_go ?_
  go_wp2_with fail
  refine hc.out.mono ?_
  rintro e w2 ⟨rfl, rfl⟩
  go_wp2_with fail
  go_ret
  exact ⟨rfl, hb1'.out⟩
end
end Go.Proofs.YtokdnhdfmgfkeaaGreatDoor.Xl
end

section
namespace Go.Proofs.YtokdnhdfmgfkeaaGreatDoor.Xl
open Go.RowKit Go.Shelf UtfW

theorem decN_high {n b0 b1 b2 b3 : Nat} (h : 128 ≤ b0) : 128 ≤ (Lib.decodeN n b0 b1 b2 b3).1 := by
  unfold Lib.decodeN
  rw [if_neg (by omega)]
  repeat' split
  all_goals simp only
  all_goals omega
theorem bt_at {l : Tx} {k : Nat} {x : UInt8} (h : l[k]? = some x) : bt l k = x.toNat := by
  unfold bt
  simp [List.getD, h]
theorem dec_low {l : Tx} {k : Nat} {x : UInt8} (hx : l[k]? = some x) (h : x.toNat < 128) : dec l k = (x.toNat, 1) := by
  unfold dec
  rw [bt_at hx, Lib.decodeN_ascii _ _ _ _ _ h]
theorem dec_high {l : Tx} {k : Nat} {x : UInt8} (hx : l[k]? = some x) (h : 128 ≤ x.toNat) : 128 ≤ (dec l k).1 := by
  unfold dec
  rw [bt_at hx]
  exact decN_high h
theorem byteS_gen (s : Tx) (cv : Int) (w : World) :
    Calls Tryz.prog 75 #[.string (strOf s), .int .u8 cv] w fun e w' => e = .returned (.int .i64 (Lib.indexByte s cv.toNat.toUInt8)) ∧ w' = w := by
  refine Calls.mono (Any.strings_IndexByte Tryz.lays137 (strOf s) cv w) ?_
  rintro e w' ⟨rfl, rfl⟩
  exact ⟨rfl, rfl⟩
def hexT : Tx := [48, 49, 50, 51, 52, 53, 54, 55, 56, 57, 97, 98, 99, 100, 101, 102]

def numV (base : Nat) (s : Tx) : Int := match numR base s with | some v => (v : Nat) | none => -1
theorem numF_step {base : Nat} {s : Tx} {pos v : Nat} {x : UInt8} (h : s[pos]? = some x) : numF base (s.drop pos) v = if digV x < base then numF base (s.drop (pos + 1)) (min (v * base + digV x) 1114112) else none := by
  rw [drop_at h, numF]
theorem numF_end {base : Nat} {s : Tx} {pos v : Nat} (h : s.length ≤ pos) : numF base (s.drop pos) v = some v := by
  rw [drop_end h, numF]
def tabD (r : Nat) : Int := if 97 ≤ r then ((r - 87 : Nat) : Int) else if r ≤ 70 ∧ 65 ≤ r then ((r - 55 : Nat) : Int) else -1
theorem tab_all : ((List.range 45).all fun i => Lib.indexByte hexT (bits BinOp.or IntKind.i32 (((i + 58 : Nat) : Int)) 32 % 256).toNat.toUInt8 == tabD (i + 58)) = true := by kernel_rfl
theorem tab_at {r : Nat} (h1 : 58 ≤ r) (h2 : r ≤ 102) : Lib.indexByte hexT (bits BinOp.or IntKind.i32 (r : Int) 32 % 256).toNat.toUInt8 = tabD r := by
  have := List.all_eq_true.1 tab_all (r - 58) (by simp; omega)
  rw [Nat.sub_add_cancel h1] at this
  simpa using this
theorem index_le (x : UInt8) : Lib.indexByte hexT x < 16 := by
  rw [byte_find]
  cases hf : find [x] hexT with
  | none => decide
  | some n =>
    have := (find_len hf).1
    simp [hexT] at this
    simp only [idxV]
    omega

set_option maxHeartbeats 1000000 in
set_option maxRecDepth 100000 in
theorem number_any (w : World) (s : Tx) (base : Nat) (hb : base = 10 ∨ base = 16) (hs : s.length ≤ 65536) :
    Calls Tryz.prog 202 #[.string (strOf s), .int .i32 (base : Nat)] w fun e w' => e = .returned (.int .i32 (numV base s)) ∧ Below w.heap.size w w' := by
  have hsz : (strOf s).size = s.length := strOf_size' s
  have hls : (strOf s).data.toList = s := by simp [strOf]
  obtain ⟨V, hV⟩ : ∃ V, numV base s = V := ⟨_, rfl⟩
  rw [hV]
  have hV' := Lib.hid hV
  clear hV
  go_enter Tryz.func202, Tryz.ntmps202
  go_wp2_with fail
  go_loopw [5, 7, 8] (fun v5 v7 v8 wr => ∃ pos v : Nat, wr.heap[w.heap.size]? = some (.stringIter (strOf s) pos) ∧ v5 = .int .i32 (v : Nat) ∧ v ≤ 1114112 ∧ Hid (numF base (s.drop pos) v = numF base s 0) ∧ Hid (Below w.heap.size w wr)) (fun _ _ _ wr => (strOf s).size - wr.iterPos w.heap.size)
  case atStart => exact ⟨0, 0, World.iter_heap _ _ _, rfl, by omega, Lib.hid rfl, Lib.hid ((Below.refl _ w).alloc (Nat.le_refl _) _)⟩
  case round =>
    obtain ⟨pos, v, hit, rfl, hv, hn, hbw⟩ := hrel
    by_cases hp : pos < (strOf s).size
    · have hnx : ∀ ty, (Instr.next (.pointer (some ⟨w.heap.size, 0, none⟩)) true ty).run Tryz.prog wr = _ := fun ty => Lib.run_next_any_at wr w.heap.size (strOf s) pos ty hit hp
      rw [decode_str, hls] at hnx
      have hl : pos < s.length := by omega
      have hx : s[pos]? = some s[pos] := List.getElem?_eq_getElem hl
      generalize s[pos] = x at hx
      obtain ⟨r, m, hD⟩ : ∃ r m, dec s pos = (r, m) := ⟨_, _, rfl⟩
      rw [hD] at hnx
      simp only at hnx
      have hit2 := Lib.iterAt_heap wr w.heap.size (strOf s) pos (pos + m) hit
      have hbw2 := Lib.hid (Lib.below_iterAt hbw.out (k := w.heap.size) (Nat.le_refl _) (strOf s) (pos + m))
      obtain ⟨wi, hwi⟩ : ∃ wi, wr.iterAt w.heap.size (strOf s) (pos + m) = wi := ⟨_, rfl⟩
      rw [hwi] at hnx hit2 hbw2
      have hD' := Lib.hid hD
      have hx' := Lib.hid hx
      clear hD hwi hl hx
      have hdg : Hid (digV x = if r < 48 ∨ 102 < r then 99 else if r ≤ 57 then r - 48 else if 97 ≤ r then r - 87 else if 65 ≤ r ∧ r ≤ 70 then r - 55 else 99) := Lib.hid (by
        have hx2 := hx'.out
        unfold digV
        rcases Nat.lt_or_ge x.toNat 128 with hlo | hhi
        · have e := dec_low hx2 hlo
          rw [hD'.out] at e
          injection e with e1 e2
          rw [e1]
          repeat' split
          all_goals omega
        · have e := dec_high hx2 hhi
          rw [hD'.out] at e
          simp only at e
          repeat' split
          all_goals omega)
      have hm1 : Hid (r < 128 → m = 1) := Lib.hid (by
        intro hr
        rcases Nat.lt_or_ge x.toNat 128 with hlo | hhi
        · have e := dec_low hx'.out hlo
          rw [hD'.out] at e
          injection e with e1 e2
        · have e := dec_high hx'.out hhi
          rw [hD'.out] at e
          simp only at e
          omega)
      have hstop : Hid (¬ digV x < base → V = -1) := Lib.hid (by
        intro hd
        have := hn.out
        rw [numF_step hx'.out, if_neg hd] at this
        rw [← hV'.out]
        unfold numV numR
        split
        · rename_i h
          split at h
          · cases h
          · rw [← this] at h
            cases h
        · rfl)
      go_wp2_with fail
      refine (byteS_gen hexT _ wi).mono ?_
      rintro e w2 ⟨rfl, rfl⟩
      obtain ⟨D, hDe⟩ : ∃ D, Lib.indexByte hexT (bits BinOp.or IntKind.i32 (r : Int) 32 % 256).toNat.toUInt8 = D := ⟨_, rfl⟩
      rw [hDe]
      have hD1 : -1 ≤ D := by rw [← hDe]; exact Lib.indexByte_ge _ _
      have hD2 : D < 16 := by rw [← hDe]; exact index_le _
      have hwD : wrap32 D = D := by unfold wrap32; omega
      have hDt : Hid (58 ≤ r → r ≤ 102 → D = tabD r) := Lib.hid fun h1 h2 => by rw [← hDe]; exact tab_at h1 h2
      have hbw3 := hbw2
      clear hDe
      by_cases a1 : r < 48
      · have hno : Hid (V = -1) := Lib.hid (hstop.out (by rw [hdg.out, if_pos (.inl a1)]; omega))
        have e1 : decide ((48 : Int) ≤ (r : Int)) = false := by simp; omega
        have e4 : decide ((r : Int) < 48) = true := by simp; omega
        by_cases a2 : D < 0
        · have e2 : decide (D < 0) = true := decide_eq_true a2
          go_wp2_with fail
          go_ret
          exact ⟨ret_int hno.out.symm, hbw3.out⟩
        have e2 : decide (D < 0) = false := decide_eq_false a2
        by_cases a3 : (base : Int) ≤ D
        · have e3 : decide ((base : Int) ≤ D) = true := decide_eq_true a3
          go_wp2_with fail
          go_ret
          exact ⟨ret_int hno.out.symm, hbw3.out⟩
        have e3 : decide ((base : Int) ≤ D) = false := decide_eq_false a3
        go_wp2_with fail
        go_ret
        exact ⟨ret_int hno.out.symm, hbw3.out⟩
      have e1 : decide ((48 : Int) ≤ (r : Int)) = true := by simp; omega
      have e4 : decide ((r : Int) < 48) = false := by simp; omega
      by_cases a5 : 102 < r
      · have hno : Hid (V = -1) := Lib.hid (hstop.out (by rw [hdg.out, if_pos (.inr a5)]; omega))
        have e5 : decide ((r : Int) ≤ 57) = false := by simp; omega
        have e6 : decide ((102 : Int) < (r : Int)) = true := by simp; omega
        by_cases a2 : D < 0
        · have e2 : decide (D < 0) = true := decide_eq_true a2
          go_wp2_with fail
          go_ret
          exact ⟨ret_int hno.out.symm, hbw3.out⟩
        have e2 : decide (D < 0) = false := decide_eq_false a2
        by_cases a3 : (base : Int) ≤ D
        · have e3 : decide ((base : Int) ≤ D) = true := decide_eq_true a3
          go_wp2_with fail
          go_ret
          exact ⟨ret_int hno.out.symm, hbw3.out⟩
        have e3 : decide ((base : Int) ≤ D) = false := decide_eq_false a3
        go_wp2_with fail
        go_ret
        exact ⟨ret_int hno.out.symm, hbw3.out⟩
      have e6 : decide ((102 : Int) < (r : Int)) = false := by simp; omega
      have hm := hm1.out (by omega)
      obtain ⟨P, hP⟩ : ∃ P : Nat, v * base = P := ⟨_, rfl⟩
      have hPI : (v : Int) * (base : Int) = (P : Int) := by rw [← hP]; simp
      have hPb : P ≤ 17825792 := by
        rw [← hP]
        rcases hb with rfl | rfl <;> omega
      have hP' := Lib.hid hP
      clear hP
      by_cases a7 : r ≤ 57
      · have e5 : decide ((r : Int) ≤ 57) = true := by simp; omega
        have hdx : Hid (digV x = r - 48) := Lib.hid (by rw [hdg.out, if_neg (by omega), if_pos a7])
        obtain ⟨d, hd⟩ : ∃ d : Nat, r = d + 48 := ⟨r - 48, by omega⟩
        have hdI : (r : Int) - 48 = (d : Int) := by omega
        have hdb : d < base := by omega
        have e8 : decide ((d : Int) < 0) = false := by simp
        have e9 : decide ((base : Int) ≤ (d : Int)) = false := by simp; omega
        have hd' := Lib.hid hd
        clear hd
        go_wp2_with fail
        go_roundw
        case rel =>
          refine ⟨pos + m, min (P + d) 1114112, hit2, by rw [show ((min (P + d) 1114112 : Nat) : Int) = min ((P : Int) + (d : Int)) 1114112 from by omega], Nat.min_le_right _ _, Lib.hid ?_, hbw3⟩
          have := hn.out
          rw [numF_step hx'.out, if_pos (by rw [hdx.out]; omega), hdx.out, hP'.out] at this
          rw [← this, hm]
          try rw [show r - 48 = d from by have := hd'.out; omega]
        case measure =>
          simp only [World.iterPos, hit2, hit]
          omega
      have e5 : decide ((r : Int) ≤ 57) = false := by simp; omega
      have hDT := hDt.out (by omega) (by omega)
      by_cases a8 : 97 ≤ r ∨ 65 ≤ r ∧ r ≤ 70
      · obtain ⟨d, hd, hdx⟩ : ∃ d : Nat, D = (d : Int) ∧ Hid (digV x = d) := by
          have hg : digV x = if 97 ≤ r then r - 87 else if 65 ≤ r ∧ r ≤ 70 then r - 55 else 99 := by rw [hdg.out, if_neg (by omega), if_neg a7]
          rw [hDT, hg]
          unfold tabD
          by_cases a9 : 97 ≤ r
          · rw [if_pos a9, if_pos a9]
            exact ⟨_, rfl, Lib.hid rfl⟩
          · rw [if_neg a9, if_neg a9, if_pos (by omega), if_pos (by omega)]
            exact ⟨_, rfl, Lib.hid rfl⟩
        subst hd
        clear hDT hDt
        have e8 : decide ((d : Int) < 0) = false := by simp
        by_cases a3 : base ≤ d
        · have e3 : decide ((base : Int) ≤ (d : Int)) = true := by simp; omega
          have hno : Hid (V = -1) := Lib.hid (hstop.out (by rw [hdx.out]; omega))
          go_wp2_with fail
          go_ret
          exact ⟨ret_int hno.out.symm, hbw3.out⟩
        have e9 : decide ((base : Int) ≤ (d : Int)) = false := by simp; omega
        go_wp2_with fail
        go_roundw
        case rel =>
          refine ⟨pos + m, min (P + d) 1114112, hit2, by rw [show ((min (P + d) 1114112 : Nat) : Int) = min ((P : Int) + (d : Int)) 1114112 from by omega], Nat.min_le_right _ _, Lib.hid ?_, hbw3⟩
          have := hn.out
          rw [numF_step hx'.out, if_pos (by rw [hdx.out]; omega), hdx.out, hP'.out] at this
          rw [← this, hm]
        case measure =>
          simp only [World.iterPos, hit2, hit]
          omega
      · have hD0 : D = -1 := by
          rw [hDT]
          unfold tabD
          rw [if_neg (by omega), if_neg (by omega)]
        have hno : Hid (V = -1) := Lib.hid (hstop.out (by rw [hdg.out, if_neg (by omega), if_neg (by omega), if_neg (by omega), if_neg (by omega)]; omega))
        subst hD0
        clear hDT hDt
        go_wp2_with fail
        go_ret
        exact ⟨ret_int hno.out.symm, hbw3.out⟩
    · have hnx : ∀ ty, (Instr.next (.pointer (some ⟨w.heap.size, 0, none⟩)) true ty).run Tryz.prog wr = _ := fun ty => Lib.run_next_end_at wr w.heap.size (strOf s) pos ty hit hp
      have hfin : Hid (numF base s 0 = some v) := Lib.hid (by rw [← hn.out, numF_end (by omega)])
      by_cases hs0 : s = []
      · have i0 : (strOf s).toList.isEmpty = true := by rw [Lib.toList_data, hs0]; rfl
        have hno : Hid (V = -1) := Lib.hid (by rw [← hV'.out]; unfold numV numR; rw [if_pos hs0])
        clear hs0
        go_wp2_with fail
        go_ret
        exact ⟨ret_int hno.out.symm, hbw.out⟩
      · have i0 : (strOf s).toList.isEmpty = false := by rw [Lib.toList_data, hls]; simpa using hs0
        have hs0' := Lib.hid hs0
        clear hs0
        cases hch : Utf.Char (v : Nat) with
        | false =>
          have hno : Hid (V = -1) := Lib.hid (by rw [← hV'.out]; unfold numV numR; rw [if_neg hs0'.out, hfin.out]; simp only; rw [hch]; rfl)
          go_wp2_with fail
          refine (char_any (v : Nat) wr).mono ?_
          rintro e w2 ⟨rfl, rfl⟩
          rw [hch]
          go_wp2_with fail
          go_ret
          exact ⟨ret_int hno.out.symm, hbw.out⟩
        | true =>
          have hyes : Hid (V = (v : Nat)) := Lib.hid (by rw [← hV'.out]; unfold numV numR; rw [if_neg hs0'.out, hfin.out]; simp only; rw [hch]; rfl)
          go_wp2_with fail
          refine (char_any (v : Nat) wr).mono ?_
          rintro e w2 ⟨rfl, rfl⟩
          rw [hch]
          go_wp2_with fail
          go_ret
          exact ⟨ret_int hyes.out.symm, hbw.out⟩
end Go.Proofs.YtokdnhdfmgfkeaaGreatDoor.Xl
end

section
namespace Go.Proofs
open Go.Shelf Go.RowKit

shelf_lay Lays.n119 Nm 119 at Tryz as Tryz.lays119
shelf_lay Lays.n242 Nm 242 at Tryz as Tryz.lays242

end Go.Proofs
namespace Go.Proofs.YtokdnhdfmgfkeaaGreatDoor.UtfW
open Go.RowKit

theorem runeCells_encB {r : Int} (h : isRune r = true) : Lib.runeCells r = bv (encB r) := by
  simp only [isRune, decide_eq_true_eq] at h
  obtain ⟨v, rfl⟩ : ∃ v : Nat, r = v := ⟨r.toNat, by omega⟩
  have e : encB (v : Int) = (Utf.enc v).map UInt8.ofNat := by
    unfold encB
    rw [if_neg (by omega), Int.toNat_natCast]
  have key : ∀ ns : List Nat, Utf.enc v = ns → (∀ n ∈ ns, n < 256) → Lib.encodeRuneZ v = ns.map (fun n : Nat => (n : Int)) → Lib.runeCells v = bv (encB v) := by
    intro ns h1 h2 h3
    rw [e, h1, bv_ofNat _ h2, Lib.runeCells, h3, List.map_map]
    rfl
  rcases (show v < 128 ∨ (128 ≤ v ∧ v < 2048) ∨ (2048 ≤ v ∧ v < 65536) ∨ 65536 ≤ v from by omega) with h1 | h1 | h1 | h1
  · exact key [v] ((Utf.enc1 _ _).2 ⟨h1, rfl⟩) (by intro n hn; simp at hn; omega) (by rw [Lib.encodeRuneZ_one (by omega) (by omega)]; rfl)
  · exact key [192 + v / 64, 128 + v % 64] ((Utf.enc2 _ _ _).2 ⟨h1.1, h1.2, rfl, rfl⟩) (by intro n hn; simp at hn; omega) (by rw [Lib.encodeRuneZ_two (by omega) (by omega)]; rfl)
  · exact key [224 + v / 4096, 128 + v / 64 % 64, 128 + v % 64] ((Utf.enc3 _ _ _ _).2 ⟨h1.1, h1.2, by omega, rfl, rfl, rfl⟩) (by intro n hn; simp at hn; omega) (by rw [Lib.encodeRuneZ_three (by omega)]; rfl)
  · exact key [240 + v / 262144, 128 + v / 4096 % 64, 128 + v / 64 % 64, 128 + v % 64] ((Utf.enc4 _ _ _ _ _).2 ⟨h1, by omega, rfl, rfl, rfl, rfl⟩) (by intro n hn; simp at hn; omega) (by
      unfold Lib.encodeRuneZ
      rw [if_neg (by omega), if_neg (by omega), if_neg (by omega), if_pos (by omega)]
      rfl)

theorem validRune_any (r : Int) (w : World) :
    Calls Tryz.prog 214 #[.int .i32 r] w fun e w' => e = .returned (.bool (isRune r)) ∧ w' = w :=
  Any.utf8_ValidRune Tryz.lays119 r w

theorem appendRune_any (r : Int) (hr0 : -2147483648 ≤ r) (hr1 : r ≤ 2147483647) (hr : isRune r = true) (w : World) :
    Calls Tryz.prog 154 #[.slice none 0 0, .int .i32 r] w fun e w' => ∃ A c, e = .returned (.slice A (encB r).length c) ∧ OwB w' w.heap.size 5 (.slice A (encB r).length c) (encB r) ∧ Below w.heap.size w w' := by
  refine (Any.utf8_AppendRune_plain Tryz.lays242 (by kernel_rfl) w.heap.size (.slice none 0 0) 0 [] r hr0 hr1 w (World.ownsRow_nil w _ _ 1) (by omega) (Nat.le_refl _)).mono ?_
  rintro e w' ⟨v', rfl, h1, o, h2⟩
  rw [runeCells_encB hr, bv_length, List.nil_append, Nat.zero_add] at h1
  have h1' : w'.ownsRow w.heap.size 5 1 v' (encB r).length (bv (encB r)) := h1
  obtain ⟨A, c, rfl⟩ := ownsRow_form h1'
  have hb : Below w.heap.size w w' := by
    have h3 := below_of_grown (World.ownsRow_nil (w.alloc o) w.heap.size 5 1) (by simp) h2
    exact (below_alloc w o).trans h3
  refine ⟨A, c, rfl, h1', hb⟩

theorem utfEncode_any (r : Int) (hr0 : -2147483648 ≤ r) (hr1 : r ≤ 2147483647) (w : World) :
    Calls Tryz.prog 203 #[.int .i32 r] w fun e w' => ∃ A c, e = .returned (.slice A (encB r).length c) ∧ OwB w' w.heap.size 5 (.slice A (encB r).length c) (encB r) ∧ Below w.heap.size w w' := by
  cases hr : isRune r
  · have en := encB_none hr
    rw [en]
    go_enter Tryz.func203, Tryz.ntmps203
    go_wp2_with fail
    refine (validRune_any r w).mono ?_
    rintro e w1 ⟨rfl, rfl⟩
    go_wp2_with fail
    go_ret
    exact ⟨none, 0, rfl, OwB.nil _ _ _, Below.refl _ _⟩
  · have c1 := appendRune_any r hr0 hr1 hr w
    obtain ⟨l, hl⟩ : ∃ l, encB r = l := ⟨_, rfl⟩
    rw [hl] at c1 ⊢
    clear hl hr0 hr1
    go_enter Tryz.func203, Tryz.ntmps203
    go_wp2_with fail
    refine (validRune_any r w).mono ?_
    rintro e w1 ⟨rfl, rfl⟩
    go_wp2_with fail
    refine c1.mono ?_
    rintro e w1 ⟨A, c, rfl, h1, h2⟩
    have h1' := Lib.hid h1
    have h2' := Lib.hid h2
    clear h1 h2 c1
    go_wp2_with fail
    go_ret
    exact ⟨A, c, rfl, h1'.out, h2'.out⟩
end Go.Proofs.YtokdnhdfmgfkeaaGreatDoor.UtfW
end

section
namespace Go.Proofs.YtokdnhdfmgfkeaaGreatDoor.Xl
open Go.RowKit UtfW

theorem str_eqL (s t : Tx) : ((strOf s).toList == t) = decide (s = t) := by
  have h : (strOf s).data.toList = s := by simp [strOf]
  rw [Lib.toList_data, h, Bool.eq_iff_iff, beq_iff_eq, decide_eq_true_eq]
def runeV : Option Nat → Int
  | some v => (v : Nat)
  | none => -1
theorem numV_eq (base : Nat) (s : Tx) : numV base s = runeV (numR base s) := by
  unfold numV runeV
  cases numR base s <;> rfl

set_option maxRecDepth 100000 in
theorem named_any (w : World) (s : Tx) : Calls Tryz.prog 200 #[.string (strOf s)] w fun e w' => e = .returned (.int .i32 (runeV (named s))) ∧ w' = w := by
  have i0 := str_eqL s [97, 109, 112]
  have i1 := str_eqL s [108, 116]
  have i2 := str_eqL s [103, 116]
  have i3 := str_eqL s [113, 117, 111, 116]
  have i4 := str_eqL s [97, 112, 111, 115]
  obtain ⟨V, hV⟩ : ∃ V, runeV (named s) = V := ⟨_, rfl⟩
  rw [hV]
  have hV' := Lib.hid hV
  clear hV
  by_cases h0 : s = [97, 109, 112]
  · rw [decide_eq_true h0] at i0
    have hh : Hid (V = 38) := Lib.hid (by rw [← hV'.out, h0]; rfl)
    clear h0
    clear i1 i2 i3 i4
    go_enter Tryz.func200, Tryz.ntmps200
    go_wp2_with fail
    go_ret
    exact ⟨ret_int hh.out.symm, rfl⟩
  rw [decide_eq_false h0] at i0
  have h0' := Lib.hid h0
  clear h0
  by_cases h1 : s = [108, 116]
  · rw [decide_eq_true h1] at i1
    have hh : Hid (V = 60) := Lib.hid (by rw [← hV'.out, h1]; rfl)
    clear h1
    clear i2 i3 i4
    go_enter Tryz.func200, Tryz.ntmps200
    go_wp2_with fail
    go_ret
    exact ⟨ret_int hh.out.symm, rfl⟩
  rw [decide_eq_false h1] at i1
  have h1' := Lib.hid h1
  clear h1
  by_cases h2 : s = [103, 116]
  · rw [decide_eq_true h2] at i2
    have hh : Hid (V = 62) := Lib.hid (by rw [← hV'.out, h2]; rfl)
    clear h2
    clear i3 i4
    go_enter Tryz.func200, Tryz.ntmps200
    go_wp2_with fail
    go_ret
    exact ⟨ret_int hh.out.symm, rfl⟩
  rw [decide_eq_false h2] at i2
  have h2' := Lib.hid h2
  clear h2
  by_cases h3 : s = [113, 117, 111, 116]
  · rw [decide_eq_true h3] at i3
    have hh : Hid (V = 34) := Lib.hid (by rw [← hV'.out, h3]; rfl)
    clear h3
    clear i4
    go_enter Tryz.func200, Tryz.ntmps200
    go_wp2_with fail
    go_ret
    exact ⟨ret_int hh.out.symm, rfl⟩
  rw [decide_eq_false h3] at i3
  have h3' := Lib.hid h3
  clear h3
  by_cases h4 : s = [97, 112, 111, 115]
  · rw [decide_eq_true h4] at i4
    have hh : Hid (V = 39) := Lib.hid (by rw [← hV'.out, h4]; rfl)
    clear h4
    go_enter Tryz.func200, Tryz.ntmps200
    go_wp2_with fail
    go_ret
    exact ⟨ret_int hh.out.symm, rfl⟩
  rw [decide_eq_false h4] at i4
  have h4' := Lib.hid h4
  clear h4
  have hh : Hid (V = -1) := Lib.hid (by
    rw [← hV'.out]
    unfold named
    rw [if_neg h0'.out, if_neg h1'.out, if_neg h2'.out, if_neg h3'.out, if_neg h4'.out]
    rfl)
  go_enter Tryz.func200, Tryz.ntmps200
  go_wp2_with fail
  go_ret
  exact ⟨ret_int hh.out.symm, rfl⟩

theorem cutP_any (s p : Tx) (w : World) :
    Calls Tryz.prog 201 #[.string (strOf s), .string (strOf p)] w fun e w' => e = .returned (.tuple #[.string (strOf (Lib.trimPrefix s p)), .bool (Lib.hasPrefix s p)]) ∧ w' = w := by
  have := Any.strings_CutPrefix Tryz.lays103 (strOf s) (strOf p) w
  have h1 : (strOf s).data.toList = s := by simp [strOf]
  have h2 : (strOf p).data.toList = p := by simp [strOf]
  rw [h1, h2] at this
  exact this
theorem find_skip (t : Tx) : find [59] (38 :: t) = (find [59] t).map (· + 1) := by
  rw [find, if_neg (by simp [List.isPrefixOf])]
theorem char_top {v : Nat} (h : Utf.Char (v : Nat) = true) : v ≤ 1114111 := by
  unfold Utf.Char at h
  simp at h
  omega
theorem refV_top {t : Tx} {v : Nat} (h : refV t = some v) : v ≤ 1114111 := by
  have hn : ∀ {base : Nat} {d : Tx}, numR base d = some v → v ≤ 1114111 := by
    intro base d h
    unfold numR at h
    split at h
    · cases h
    · split at h
      · split at h
        · rename_i hc
          injection h with h
          subst h
          exact char_top hc
        · cases h
      · cases h
  unfold refV at h
  split at h
  · exact hn h
  · exact hn h
  · unfold named at h
    repeat' split at h
    all_goals (cases h <;> omega)
theorem refV_x {t : Tx} (h : Lib.hasPrefix t [35, 120] = true) : refV t = numR 16 (Lib.trimPrefix t [35, 120]) := by
  obtain ⟨d, rfl⟩ := List.isPrefixOf_iff_prefix.1 h
  rfl
theorem refV_d {t : Tx} (h1 : Lib.hasPrefix t [35, 120] = false) (h : Lib.hasPrefix t [35] = true) : refV t = numR 10 (Lib.trimPrefix t [35]) := by
  obtain ⟨d, rfl⟩ := List.isPrefixOf_iff_prefix.1 h
  cases d with
  | nil => rfl
  | cons a d =>
    have ha : a ≠ 120 := by
      rintro rfl
      simp [Lib.hasPrefix, List.isPrefixOf] at h1
    show refV (35 :: a :: d) = _
    unfold refV
    split
    · rename_i h2
      injection h2 with _ h2
      injection h2 with h2 _
      exact absurd h2 ha
    · rename_i h2
      injection h2 with _ h2
      subst h2
      rfl
    · rename_i h2
      exact absurd rfl (h2 _)
theorem refV_n {t : Tx} (h1 : Lib.hasPrefix t [35] = false) : refV t = named t := by
  unfold refV
  split
  · simp [Lib.hasPrefix, List.isPrefixOf] at h1
  · simp [Lib.hasPrefix, List.isPrefixOf] at h1
  · rfl

section
variable (w : World) (b : Nat) (S : Tx) (k : Nat) (A : Option Addr) (c : Nat) (vo : Value)
set_option maxHeartbeats 1000000 in
set_option maxRecDepth 100000 in
theorem reference_any (h : Xc w b S k A c vo) (hk : S[k]? = some 38) (hS : S.length ≤ 65536) :
    Calls Tryz.prog 178 #[.pointer (some ⟨b, 0, none⟩)] w fun e w' => Gives w b S k A c vo (fun v => .string (strOf v)) (refR (S.drop (k + 1))) e w' := by
  have hkl : k < S.length := (List.getElem?_eq_some_iff.1 hk).1
  have hlc := Rd.le h.bs
  have hcm := Rd.max h.bs
  have c0 := h.c0
  have c1 := h.c1
  have f1 := h.frozen 1
  have hf0 : find [59] (S.drop k) = (find [59] (S.drop (k + 1))).map (· + 1) := by rw [drop_at hk, find_skip]
  have h' := Lib.hid h
  clear h hk
  have hc : Hid (Calls Tryz.prog 197 #[.slice (offA A c k) (S.length - k) (c - k), .int .u8 59] w fun e w' => e = .returned (.int .i64 (idxV (find [59] (S.drop k)))) ∧ w' = w) := Lib.hid (by
    have hf := Bs.from h'.out.bs (Nat.le_of_lt hkl) (Nat.le_refl _)
    rw [List.take_of_length_le (by rw [List.length_drop]; omega)] at hf
    exact byteB_any 59 w hf)
  rw [hf0] at hc
  clear hf0
  unfold offA at hc
  obtain ⟨A1, hA1⟩ : ∃ A1, (if c = k then A else Option.map (fun x => x.add k) A) = A1 := ⟨_, rfl⟩
  rw [hA1] at hc
  cases hf : find [59] (S.drop (k + 1)) with
  | none =>
    have hf' := Lib.hid hf
    rw [hf] at hc
    clear hf
    have hc2 : Hid (Calls Tryz.prog 197 #[.slice A1 (S.length - k) (c - k), .int .u8 59] w fun e w' => e = .returned (.int .i64 (-1)) ∧ w' = w) := hc
    clear hc
    go_enter Tryz.func178, Tryz.ntmps178
    go_wp2_with fail
    refine hc2.out.mono ?_
    rintro e w1 ⟨rfl, rfl⟩
    go_wp2_with fail
    refine (fail_any _ 5 (k : Nat)).mono ?_
    rintro e w2 ⟨rfl, rfl⟩
    go_wp2_with fail
    refine ⟨rfl, World.grownBy.refl _ _, ?_⟩
    unfold refR
    rw [hf'.out]
    rfl
  | some n =>
    obtain ⟨hn1, _⟩ := find_len hf
    rw [List.length_drop] at hn1
    simp only [List.length_cons, List.length_nil] at hn1
    have hf' := Lib.hid hf
    rw [hf] at hc
    clear hf
    have hc2 : Hid (Calls Tryz.prog 197 #[.slice A1 (S.length - k) (c - k), .int .u8 59] w fun e w' => e = .returned (.int .i64 ((n + 1 : Nat) : Int)) ∧ w' = w) := hc
    clear hc
    obtain ⟨N, hN⟩ : ∃ N, n + 1 = N := ⟨_, rfl⟩
    rw [hN] at hc2
    have hNb : n = N - 1 := by omega
    have hN0 : 1 ≤ N := by omega
    have hNl : k + N < S.length := by omega
    have hN' := Lib.hid hN
    clear hN
    have i0 : decide ((N : Int) < 0) = false := by simp
    obtain ⟨M, hM⟩ : ∃ M, k + N = M := ⟨_, rfl⟩
    obtain ⟨L, hL⟩ : ∃ L, k + 1 = L := ⟨_, rfl⟩
    have hMI : (k : Int) + (N : Int) = (M : Int) := by omega
    have hLI : (k : Int) + 1 = (L : Int) := by omega
    have q1 : (0 : Int) ≤ (L : Int) ∧ (L : Int) ≤ (M : Int) := ⟨by omega, by omega⟩
    have q2 : L ≤ M := by omega
    have q3 : M < S.length := by omega
    have hcut : Bs w (offA A c L) (M - L) (c - L) ((S.drop L).take (M - L)) := Bs.from h'.out.bs q2 (by omega)
    unfold offA at hcut
    obtain ⟨A2, hA2⟩ : ∃ A2, (if c = L then A else Option.map (fun x => x.add L) A) = A2 := ⟨_, rfl⟩
    rw [hA2] at hcut
    obtain ⟨T, hT⟩ : ∃ T, (S.drop L).take (M - L) = T := ⟨_, rfl⟩
    rw [hT] at hcut
    have hTl : T.length ≤ 65536 := by rw [← hT, List.length_take]; omega
    have hcv2 : (convert 41 9 (.slice A2 (M - L) (c - L))).run Tryz.prog w = .ok (.string (strOf T)) w := Bs.conv hcut Tryz.underlying41 Tryz.underlying5 Tryz.underlying9
    have hres : Hid (refR (S.drop (k + 1)) = match refV T with | none => .bad 5 0 | some v => .ok (encB (v : Nat)) (n + 2)) := Lib.hid (by
      unfold refR
      rw [hf'.out]
      simp only
      rw [← hT, show M - L = n by have := hN'.out; omega, hL]
      cases refV (List.take n (List.drop L S)) <;> rfl)
    have hM' := Lib.hid hM
    have hL' := Lib.hid hL
    have hNb' := Lib.hid hNb
    clear hT hcut hM hL hNb hn1
    obtain ⟨V, hV⟩ : ∃ V, refV T = V := ⟨_, rfl⟩
    rw [hV] at hres
    cases hp : Lib.hasPrefix T [35, 120] with
    | true =>
      have hR : Hid (V = numR 16 (Lib.trimPrefix T [35, 120])) := Lib.hid (by rw [← hV, refV_x hp])
      have hp' := Lib.hid hp
      clear hp
      go_enter Tryz.func178, Tryz.ntmps178
      go_wp2_with fail
      refine hc2.out.mono ?_
      rintro e w1 ⟨rfl, rfl⟩
      go_wp2_with fail
      refine (named_any _ T).mono ?_
      rintro e w2 ⟨rfl, rfl⟩
      go_wp2_with fail
      refine (cutP_any T [35, 120] _).mono ?_
      rintro e w3 ⟨rfl, rfl⟩
      rw [hp'.out]
      go_wp2_with fail
      refine (number_any _ (Lib.trimPrefix T [35, 120]) 16 (.inr rfl) ?_).mono ?_
      · unfold Lib.trimPrefix
        split
        · rw [List.length_drop]; omega
        · exact hTl
      rintro e w4 ⟨rfl, hb4⟩
      rw [numV_eq, ← hR.out]
      have hs4 := Lib.hid (h'.out.below hb4)
      have hg4 := Lib.hid (grown_in (r := some b) hb4)
      clear hb4 c0 c1 f1 hcv2
      cases V with
      | none =>
        have hV2 : runeV none = -1 := rfl
        rw [hV2]
        clear hV2
        go_wp2_with fail
        refine (fail_any _ 5 (k : Nat)).mono ?_
        rintro e w8 ⟨rfl, rfl⟩
        go_wp2_with fail
        refine ⟨rfl, hg4.out, ?_⟩
        rw [hres.out]
        rfl
      | some v =>
        have hvt : v ≤ 1114111 := refV_top hV
        have hV2 : runeV (some v) = (v : Nat) := rfl
        rw [hV2]
        clear hV2
        have hv' := Lib.hid hV
        clear hV
        have j0 : decide ((v : Int) < 0) = false := by simp
        have g1 := hs4.out.c1
        have e1 := hs4.out.frozen 1
        go_wp2_with fail
        refine (utfEncode_any (v : Nat) (by omega) (by omega) _).mono ?_
        rintro e w9 ⟨A9, c9, rfl, ho9, hb9⟩
        have hset := hs4.out.set1 (M + 1)
        have hs9 := Lib.hid (hset.1.below hb9)
        have hg9 := Lib.hid ((hg4.out.trans hset.2).trans (grown_in hb9))
        have hcv9 : (convert 41 9 (.slice A9 (encB (v : Nat)).length c9)).run Tryz.prog w9 = .ok (.string (strOf (encB (v : Nat)))) w9 := Bs.conv ho9.bs Tryz.underlying41 Tryz.underlying5 Tryz.underlying9
        clear ho9 hb9 hset
        go_wp2_with fail
        go_ret
        rw [hres.out]
        refine ⟨hg9.out, rfl, ?_⟩
        rw [show k + (n + 2) = M + 1 by have := hM'.out; have := hN'.out; omega]
        exact hs9.out
    | false =>
      cases hq : Lib.hasPrefix T [35] with
      | true =>
        have hR : Hid (V = numR 10 (Lib.trimPrefix T [35])) := Lib.hid (by rw [← hV, refV_d hp hq])
        have hp' := Lib.hid hp
        have hq' := Lib.hid hq
        clear hp hq
        go_enter Tryz.func178, Tryz.ntmps178
        go_wp2_with fail
        refine hc2.out.mono ?_
        rintro e w1 ⟨rfl, rfl⟩
        go_wp2_with fail
        refine (named_any _ T).mono ?_
        rintro e w2 ⟨rfl, rfl⟩
        go_wp2_with fail
        refine (cutP_any T [35, 120] _).mono ?_
        rintro e w3 ⟨rfl, rfl⟩
        rw [hp'.out]
        go_wp2_with fail
        refine (cutP_any T [35] _).mono ?_
        rintro e w3 ⟨rfl, rfl⟩
        rw [hq'.out]
        go_wp2_with fail
        refine (number_any _ (Lib.trimPrefix T [35]) 10 (.inl rfl) ?_).mono ?_
        · unfold Lib.trimPrefix
          split
          · rw [List.length_drop]; omega
          · exact hTl
        rintro e w4 ⟨rfl, hb4⟩
        rw [numV_eq, ← hR.out]
        have hs4 := Lib.hid (h'.out.below hb4)
        have hg4 := Lib.hid (grown_in (r := some b) hb4)
        clear hb4 c0 c1 f1 hcv2
        cases V with
        | none =>
          have hV2 : runeV none = -1 := rfl
          rw [hV2]
          clear hV2
          go_wp2_with fail
          refine (fail_any _ 5 (k : Nat)).mono ?_
          rintro e w8 ⟨rfl, rfl⟩
          go_wp2_with fail
          refine ⟨rfl, hg4.out, ?_⟩
          rw [hres.out]
          rfl
        | some v =>
          have hvt : v ≤ 1114111 := refV_top hV
          have hV2 : runeV (some v) = (v : Nat) := rfl
          rw [hV2]
          clear hV2
          have hv' := Lib.hid hV
          clear hV
          have j0 : decide ((v : Int) < 0) = false := by simp
          have g1 := hs4.out.c1
          have e1 := hs4.out.frozen 1
          go_wp2_with fail
          refine (utfEncode_any (v : Nat) (by omega) (by omega) _).mono ?_
          rintro e w9 ⟨A9, c9, rfl, ho9, hb9⟩
          have hset := hs4.out.set1 (M + 1)
          have hs9 := Lib.hid (hset.1.below hb9)
          have hg9 := Lib.hid ((hg4.out.trans hset.2).trans (grown_in hb9))
          have hcv9 : (convert 41 9 (.slice A9 (encB (v : Nat)).length c9)).run Tryz.prog w9 = .ok (.string (strOf (encB (v : Nat)))) w9 := Bs.conv ho9.bs Tryz.underlying41 Tryz.underlying5 Tryz.underlying9
          clear ho9 hb9 hset
          go_wp2_with fail
          go_ret
          rw [hres.out]
          refine ⟨hg9.out, rfl, ?_⟩
          rw [show k + (n + 2) = M + 1 by have := hM'.out; have := hN'.out; omega]
          exact hs9.out
      | false =>
        have hR : Hid (V = named T) := Lib.hid (by rw [← hV, refV_n hq])
        have hg4 := Lib.hid (World.grownBy.refl w (some b))
        have hp' := Lib.hid hp
        have hq' := Lib.hid hq
        clear hp hq
        go_enter Tryz.func178, Tryz.ntmps178
        go_wp2_with fail
        refine hc2.out.mono ?_
        rintro e w1 ⟨rfl, rfl⟩
        go_wp2_with fail
        refine (named_any _ T).mono ?_
        rintro e w2 ⟨rfl, rfl⟩
        go_wp2_with fail
        refine (cutP_any T [35, 120] _).mono ?_
        rintro e w3 ⟨rfl, rfl⟩
        rw [hp'.out]
        go_wp2_with fail
        refine (cutP_any T [35] _).mono ?_
        rintro e w3 ⟨rfl, rfl⟩
        rw [hq'.out, ← hR.out]
        clear hcv2
        cases V with
        | none =>
          have hV2 : runeV none = -1 := rfl
          rw [hV2]
          clear hV2
          go_wp2_with fail
          refine (fail_any _ 5 (k : Nat)).mono ?_
          rintro e w8 ⟨rfl, rfl⟩
          go_wp2_with fail
          refine ⟨rfl, hg4.out, ?_⟩
          rw [hres.out]
          rfl
        | some v =>
          have hvt : v ≤ 1114111 := refV_top hV
          have hV2 : runeV (some v) = (v : Nat) := rfl
          rw [hV2]
          clear hV2
          have hv' := Lib.hid hV
          clear hV
          have j0 : decide ((v : Int) < 0) = false := by simp
          have g1 := h'.out.c1
          have e1 := h'.out.frozen 1
          go_wp2_with fail
          refine (utfEncode_any (v : Nat) (by omega) (by omega) _).mono ?_
          rintro e w9 ⟨A9, c9, rfl, ho9, hb9⟩
          have hset := h'.out.set1 (M + 1)
          have hs9 := Lib.hid (hset.1.below hb9)
          have hg9 := Lib.hid ((hg4.out.trans hset.2).trans (grown_in hb9))
          have hcv9 : (convert 41 9 (.slice A9 (encB (v : Nat)).length c9)).run Tryz.prog w9 = .ok (.string (strOf (encB (v : Nat)))) w9 := Bs.conv ho9.bs Tryz.underlying41 Tryz.underlying5 Tryz.underlying9
          clear ho9 hb9 hset
          go_wp2_with fail
          go_ret
          rw [hres.out]
          refine ⟨hg9.out, rfl, ?_⟩
          rw [show k + (n + 2) = M + 1 by have := hM'.out; have := hN'.out; omega]
          exact hs9.out
end
end Go.Proofs.YtokdnhdfmgfkeaaGreatDoor.Xl
end

section
namespace Go.Proofs.YtokdnhdfmgfkeaaGreatDoor.Xl
open Go.RowKit UtfW

section
variable (w : World) (b : Nat) (S : Tx) (k : Nat) (A : Option Addr) (c : Nat) (vo : Value)
set_option maxRecDepth 100000 in
theorem line_any (h : Xc w b S k A c vo) (hk : k < S.length) (hS : S.length ≤ 65536) :
    Calls Tryz.prog 179 #[.pointer (some ⟨b, 0, none⟩)] w fun e w' => e = .returned (.tuple #[]) ∧ Xc w' b S (k + line (S.drop k)) A c vo ∧ w.grownBy w' (some b) := by
  have hh := has_any w b S k A c vo h (Nat.le_of_lt hk) hS [13, 10] (by decide)
  obtain ⟨B, hB⟩ : ∃ B, Lib.hasPrefix (S.drop k) [13, 10] = B := ⟨_, rfl⟩
  rw [hB] at hh
  have hB' := Lib.hid hB
  have h' := Lib.hid h
  have hh' := Lib.hid hh
  clear hB h hh
  cases B with
  | true =>
    have hl : Hid (line (S.drop k) = 2) := Lib.hid (by unfold line; rw [if_pos hB'.out])
    rw [hl.out]
    go_enter Tryz.func179, Tryz.ntmps179
    go_wp2_with fail
    refine hh'.out.mono ?_
    rintro e w1 ⟨rfl, hb1⟩
    have hs1 := Lib.hid (h'.out.below hb1)
    have hg1 := Lib.hid (grown_in (r := some b) hb1)
    have c1 := hs1.out.c1
    have f1 := hs1.out.frozen 1
    clear hb1
    go_wp2_with fail
    go_end0
    have h2 := hs1.out.set1 (k + 1)
    have h3 := h2.1.set1 (k + 1 + 1)
    exact ⟨rfl, h3.1, (hg1.out.trans h2.2).trans h3.2⟩
  | false =>
    have hl : Hid (line (S.drop k) = 1) := Lib.hid (by unfold line; rw [if_neg]; rw [hB'.out]; simp)
    rw [hl.out]
    go_enter Tryz.func179, Tryz.ntmps179
    go_wp2_with fail
    refine hh'.out.mono ?_
    rintro e w1 ⟨rfl, hb1⟩
    have hs1 := Lib.hid (h'.out.below hb1)
    have hg1 := Lib.hid (grown_in (r := some b) hb1)
    have c1 := hs1.out.c1
    have f1 := hs1.out.frozen 1
    clear hb1
    go_wp2_with fail
    go_end0
    have h2 := hs1.out.set1 (k + 1)
    exact ⟨rfl, h2.1, hg1.out.trans h2.2⟩
end
end Go.Proofs.YtokdnhdfmgfkeaaGreatDoor.Xl
end

section
namespace Go.Proofs.YtokdnhdfmgfkeaaGreatDoor.Xl
open Go.RowKit UtfW

theorem Xc.far {w wr w' : World} {b : Nat} {S : Tx} {k q : Nat} {A : Option Addr} {c : Nat} {vo vo' : Value} (h : Xc w b S k A c vo) (hg : w.grownBy wr (some b)) (hr : Xc wr b S q A c vo') (hb : Below w.heap.size wr w') : Xc w' b S q A c vo' ∧ w.grownBy w' (some b) := by
  have h2 : w.grownBy w' (some b) := ⟨hb.os.trans hg.os, hb.tape.trans hg.tape, hb.output.trans hg.output, Nat.le_trans hg.size hb.size, fun j hj hne => (hb.block j hj).trans (hg.block j hj hne)⟩
  exact ⟨h.on h2 ((hb.block b h.lt).trans hr.blk), h2⟩
theorem ow_kept {w w' : World} {B E b : Nat} {v : Value} {l : Tx} (h : OwB w B E v l) (hg : w.grownBy w' (some b)) (hb : b < B) : OwB w' B E v l :=
  World.ownsRow.kept h hg (by
    cases hv : v.ownBlock with
    | none => exact .inl rfl
    | some j =>
      right
      have := (OwB.lt h j hv).1
      intro e
      injection e with e
      omega)
theorem byte_eq (x y : UInt8) : ((x.toNat : Int) == (y.toNat : Int)) = decide (x = y) := by
  rw [Bool.eq_iff_iff, beq_iff_eq, decide_eq_true_eq]
  exact ⟨fun h => UInt8.toNat_inj.1 (by omega), fun h => by rw [h]⟩
theorem info_u8 : (Tryz.prog.info? 5).map (fun i => (i.zero, i.size, i.bytes)) = some (some (.int .u8 0), 1, 1) := by kernel_rfl
theorem append_string {ops : Array Oper} {rest : List Oper} {o : Oper} {a : Act} {Q : Exit → Act → World → Prop} (w : World) (hgd : o.guard = none) (s x : Operand)
    (ho : o.op = .call { callee := .builtin .append, args := #[s, x], argTypes := #[41, 9] })
    (B : Nat) (v : Value) (la : Tx) (hs : a.eval s = v) (hown : OwB w B 5 v la) (lb : Tx) (hx : a.eval x = .string (strOf lb))
    (hsz : la.length + lb.length ≤ 140737488355328) (hB : B ≤ w.heap.size)
    (h : ∀ v' w', OwB w' B 5 v' (la ++ lb) → Below B w w' → wpList Tryz.prog ops Q rest (a.put o.dst v') w') :
    wpList Tryz.prog ops Q (o :: rest) a w := by
  have hsl : (strOf lb).size = lb.length := strOf_size' lb
  obtain ⟨i, hi, hz, hs1, hb1⟩ := info_parts info_u8
  refine Lib.wpList_append_own_string w hgd s x 41 9 ho B 5 i Tryz.underlying41 Tryz.underlying9 hi hz hs1 hb1 v la.length (bv la) hs hown (strOf lb) hx (by unfold maxLen; omega) (by omega) hB ?_
  intro v' w' h1 h2 _
  refine h v' w' ?_ (below_of_grown hown hB h2)
  unfold OwB
  rw [bv_append, List.length_append, ← hsl]
  have e : Lib.strCells (strOf lb) = bv lb := by
    unfold Lib.strCells bv strOf
    simp
  rw [← e]
  exact h1

theorem pan_eq {c : Int} {x y : Nat} (h : x = y) : Ending.panicked [wr c (x : Nat)] = Ending.panicked [wr c (y : Nat)] := by rw [h]
theorem encB_le (v : Nat) : (encB (v : Nat)).length ≤ 4 := by
  cases h : isRune (v : Nat) with
  | true => exact (encB_pos h).2.1
  | false => rw [encB_none h]; simp
theorem refR_v {t v : Tx} {n : Nat} (h : refR t = .ok v n) : v.length ≤ 4 := by
  unfold refR at h
  split at h
  · cases h
  · split at h
    · cases h
    · injection h with h1 h2
      rw [← h1]
      exact encB_le _
section
variable (w : World) (b : Nat) (S : Tx) (k : Nat) (A : Option Addr) (c : Nat) (vo : Value)
set_option maxHeartbeats 2000000 in
set_option maxRecDepth 100000 in
theorem value_any (h : Xc w b S k A c vo) (hk : k ≤ S.length) (hS : S.length ≤ 65536) :
    Calls Tryz.prog 207 #[.pointer (some ⟨b, 0, none⟩)] w fun e w' => Gives w b S k A c vo (fun v => .string (strOf v)) (value (S.drop k)) e w' := by
  have hbw : b < w.heap.size := h.lt
  have h' := Lib.hid h
  clear h
  by_cases hend : S.length ≤ k
  · go_enter Tryz.func207, Tryz.ntmps207
    go_wp2_with fail
    refine (need_bad w b S k A c vo h'.out hend).mono ?_
    rintro e w1 ⟨rfl, hb1⟩
    go_wp2_with fail
    refine ⟨rfl, grown_in hb1, ?_⟩
    rw [drop_end hend]
    have e : S.length = k + 0 := by omega
    rw [e]
    rfl
  have hkl : k < S.length := by omega
  clear hend
  obtain ⟨R, hR⟩ : ∃ R, value (S.drop k) = R := ⟨_, rfl⟩
  rw [hR]
  have hR' := Lib.hid hR
  clear hR
  go_enter Tryz.func207, Tryz.ntmps207
  go_wp2_with fail
  refine (need_ok w b S k A c vo h'.out hkl).mono ?_
  rintro e w1 ⟨rfl, hb1⟩
  have hs1 := Lib.hid (h'.out.below hb1)
  have hb1' := Lib.hid hb1
  clear hb1
  have c0 := hs1.out.c0
  have c1 := hs1.out.c1
  obtain ⟨ba, off, rfl, hx, hcell⟩ := hs1.out.at_ hkl
  generalize S[k] = x0 at hx hcell
  have hx0 := Lib.hid hx
  clear hx
  go_wp2_with fail
  go_big_quiet (fail)
  have hb2 := Lib.hid (hb1'.out.trans ((Joins.below_draws _ w1 nq).mono hb1'.out.size))
  have hs2 := Lib.hid (h'.out.below hb2.out)
  generalize w1.drewN nq = w2 at hb2 hs2 ⊢
  clear hs1 hb1' c0 c1 hcell
  have c1 := hs2.out.c1
  have f1 := hs2.out.frozen 1
  have j34 := byte_eq x0 34
  have j39 := byte_eq x0 39
  by_cases hqt : ¬ (x0 = 34 ∨ x0 = 39)
  · have hqt' := Lib.hid hqt
    rw [decide_eq_false fun e => hqt (.inl e)] at j34
    rw [decide_eq_false fun e => hqt (.inr e)] at j39
    have j34' : ((x0.toNat : Int) == 34) = false := j34
    have j39' : ((x0.toNat : Int) == 39) = false := j39
    have m34 : ((x0.toNat : Int) != 34) = true := by unfold bne; rw [j34']; rfl
    have m39 : ((x0.toNat : Int) != 39) = true := by unfold bne; rw [j39']; rfl
    clear hqt j34 j39
    go_wp2_with fail
    refine (fail_any _ 2 (k : Nat)).mono ?_
    rintro e w3 ⟨rfl, rfl⟩
    go_wp2_with fail
    refine ⟨rfl, grown_in hb2.out, ?_⟩
    have := hR'.out
    rw [drop_at hx0.out, value, if_neg hqt'.out] at this
    rw [← this]
    rfl
  have hqt := Classical.not_not.1 hqt
  have hgo : Hid ((valF (S.length - k) x0 (S.drop (k + 1)) []).shift 1 = R) := Lib.hid (by
    have := hR'.out
    rw [drop_at hx0.out, value, if_pos hqt, List.length_drop] at this
    rw [← this, show S.length - k = S.length - (k + 1) + 1 by omega])
  have hall : Hid (x0 = 34 ∨ x0 = 39) := Lib.hid hqt
  clear hqt j34 j39
  have hset := hs2.out.set1 (k + 1)
  have HS2 := hset
  go_upto_region 3 with fail
  go_cut [23] (fun v wx => v = .bool false ∧ wx = w2)
  case first =>
    rcases hall.out with e | e
    · have j1 : ((x0.toNat : Int) == 34) = true := by rw [e]; rfl
      go_wp2_with fail
      go_meet
      exact ⟨rfl, rfl⟩
    · have j1 : ((x0.toNat : Int) == 34) = false := by rw [e]; rfl
      have j2 : ((x0.toNat : Int) == 39) = true := by rw [e]; rfl
      go_wp2_with fail
      go_meet
      exact ⟨rfl, rfl⟩
  obtain ⟨rfl, hwc⟩ := hcut
  subst hwc
  clear c1 f1 hset HS2
  have c1 := hs2.out.c1
  have f1 := hs2.out.frozen 1
  have hset := hs2.out.set1 (k + 1)
  have hss := Lib.hid hset.1
  have hgg := Lib.hid ((grown_in hb2.out).trans hset.2)
  have hszs : Hid (w.heap.size ≤ (wc.setCell ⟨b, 1, none⟩ (.int .i64 ((k + 1 : Nat) : Int))).heap.size) := Lib.hid hgg.out.size
  clear hset
  go_wp2_with fail
  go_loopg [4, 5] (S.length + 1) (fun m v4 v5 wr => ∃ (q f n c4 : Nat) (A4 : Option Addr) (o : Tx), k < q ∧ q ≤ S.length ∧ S.length - q < m ∧ v4 = .slice A4 n c4 ∧ o.length ≤ 4 * (q - k) ∧ Hid (S.length - q < f) ∧ Hid ((valF f x0 (S.drop q) o).shift (q - k) = R) ∧ Hid (Xc wr b S q (some ⟨ba, off, none⟩) c vo) ∧ Hid (w.grownBy wr (some b)) ∧ Hid (OwB wr w.heap.size 5 (.slice A4 n c4) o))
  case atStart =>
    refine ⟨k + 1, S.length - k, 0, 0, none, [], by omega, by omega, by omega, rfl, by simp, Lib.hid (by omega), Lib.hid ?_, hss, hgg, Lib.hid (OwB.nil _ _ _)⟩
    rw [show k + 1 - k = 1 by omega]
    exact hgo.out
  case round =>
    clear c1 f1 hss hgg hszs
    obtain ⟨q, f, n, c4, A4, o, hkq, hql, hms, rfl, hol, hf, hr, hs, hg, ho⟩ := hrel
    by_cases hge : S.length ≤ q
    · go_wp2_with fail
      refine (need_bad wr b S q _ c vo hs.out hge).mono ?_
      rintro e w3 ⟨rfl, hb3⟩
      go_wp2_with fail
      refine ⟨rfl, hg.out.trans (grown_in hb3), ?_⟩
      have := hr.out
      rw [drop_end hge, show valF f x0 [] o = .bad 6 0 by cases f <;> rfl] at this
      rw [← this]
      exact pan_eq (by omega)
    have hlt : q < S.length := by omega
    clear hge
    go_wp2_with fail
    refine (need_ok wr b S q _ c vo hs.out hlt).mono ?_
    rintro e w3 ⟨rfl, hb3⟩
    have hs3 := Lib.hid (hs.out.below hb3)
    have hg3 := Lib.hid (hg.out.trans (grown_in hb3))
    have ho3 := Lib.hid (OwB.below ho.out hb3)
    clear hb3 hs hg ho
    have c0 := hs3.out.c0
    have c1 := hs3.out.c1
    obtain ⟨ba', off', he, hx, hcell⟩ := hs3.out.at_ hlt
    injection he with he
    injection he with e1 e2
    subst e1
    subst e2
    generalize S[q] = x at hx hcell
    have hx' := Lib.hid hx
    clear hx
    obtain ⟨f', rfl⟩ : ∃ f', f = f' + 1 := ⟨f - 1, by have := hf.out; omega⟩
    go_wp2_with fail
    go_big_quiet (fail)
    have hs4 := Lib.hid (hs3.out.below (Joins.below_draws _ w3 nq))
    have hg4 := Lib.hid (hg3.out.trans (grown_in (Joins.below_draws _ w3 nq)))
    have ho4 := Lib.hid (OwB.below ho3.out (Joins.below_draws _ w3 nq))
    generalize w3.drewN nq = w4 at hs4 hg4 ho4 ⊢
    clear hs3 hg3 ho3 c0 c1 hcell
    have c1 := hs4.out.c1
    have f1 := hs4.out.frozen 1
    have hon : o.length = n := (OwB.bs ho4.out).len
    by_cases jq : x = x0
    · subst jq
      have hcv : ∀ u, (convert 41 9 (.slice A4 n c4)).run Tryz.prog (w4.setCell ⟨b, 1, none⟩ u) = .ok (.string (strOf o)) (w4.setCell ⟨b, 1, none⟩ u) := fun u => Bs.conv (ow_kept ho4.out (grown_set w4 ⟨b, 1, none⟩ u) hbw).bs Tryz.underlying41 Tryz.underlying5 Tryz.underlying9
      go_wp2_with fail
      go_ret
      have h5 := hs4.out.set1 (q + 1)
      refine ⟨hg4.out.trans h5.2, ?_⟩
      have := hr.out
      rw [drop_at hx'.out, valF, if_pos rfl] at this
      rw [← this]
      refine ⟨rfl, ?_⟩
      rw [show k + (q - k + 1) = q + 1 by omega]
      exact h5.1
    have jq0 : ((x.toNat : Int) == (x0.toNat : Int)) = false := by rw [byte_eq, decide_eq_false jq]
    have jq' := Lib.hid jq
    clear jq
    by_cases j6 : x = 60
    · have j60 : ((x.toNat : Int) == 60) = true := by rw [j6]; rfl
      have j6' := Lib.hid j6
      clear j6
      go_wp2_with fail
      refine (fail_any _ 2 (q : Nat)).mono ?_
      rintro e w5 ⟨rfl, rfl⟩
      go_wp2_with fail
      refine ⟨rfl, hg4.out, ?_⟩
      have := hr.out
      rw [drop_at hx'.out, valF, if_neg jq'.out, if_pos j6'.out] at this
      rw [← this]
      exact pan_eq (by omega)
    have j60 : ((x.toNat : Int) == 60) = false := by rw [show (60 : Int) = ((60 : UInt8).toNat : Int) from rfl, byte_eq, decide_eq_false j6]
    have j6' := Lib.hid j6
    clear j6
    by_cases j3 : x = 38
    · have j38 : ((x.toNat : Int) == 38) = true := by rw [j3]; rfl
      have hx38 : S[q]? = some 38 := by rw [← j3]; exact hx'.out
      have hx38' := Lib.hid hx38
      have j3' := Lib.hid j3
      clear hx38 j3
      go_wp2_with fail
      refine (reference_any w4 b S q _ c vo hs4.out hx38'.out hS).mono ?_
      rintro e w5 ⟨hg5, hG⟩
      cases hrf : refR (S.drop (q + 1)) with
      | bad ec eo =>
        rw [hrf] at hG
        subst hG
        go_wp2_with fail
        refine ⟨rfl, hg4.out.trans hg5, ?_⟩
        have := hr.out
        rw [drop_at hx'.out, valF, if_neg jq'.out, if_neg j6'.out, if_pos j3'.out, hrf] at this
        rw [← this]
        exact pan_eq (by omega)
      | ok v m =>
        rw [hrf] at hG
        obtain ⟨rfl, hs5⟩ := hG
        have hvl := refR_v hrf
        have hml := refR_len hrf
        rw [List.length_drop] at hml
        have hs5' := Lib.hid hs5
        have hg45 := Lib.hid (hg4.out.trans hg5)
        have ho5 := Lib.hid (ow_kept ho4.out hg5 hbw)
        have hrf' := Lib.hid hrf
        clear hs5 hg5 hrf c1 f1 hs4 hg4 ho4
        go_wp2_with (at_builtin; apply stop_here)
        refine Stop.go (append_string w5 rfl _ _ rfl w.heap.size _ o rfl ho5.out v rfl (by omega) hg45.out.size ?_)
        intro v6 w6 ho6 hb6
        obtain ⟨A6, c6, rfl⟩ := ownsRow_form ho6
        have hs6 := h'.out.far hg45.out hs5'.out hb6
        have hss6 := Lib.hid hs6.1
        have hgg6 := Lib.hid hs6.2
        have ho6' := Lib.hid ho6
        clear ho6 hb6 hs6 hs5' hg45 ho5
        go_wp2_with fail
        go_roundg (S.length - (q + m) + 1)
        case measure => omega
        case rel =>
          refine ⟨q + m, f', (o ++ v).length, c6, A6, o ++ v, by omega, by omega, by omega, by rw [List.length_append, hon], by rw [List.length_append]; omega, Lib.hid (by have := hf.out; omega), Lib.hid ?_, hss6, hgg6, ho6'⟩
          have := hr.out
          rw [drop_at hx'.out, valF, if_neg jq'.out, if_neg j6'.out, if_pos j3'.out, hrf'.out] at this
          simp only at this
          rw [Out.shift_shift, ← drop_at hx'.out, List.drop_drop] at this
          rw [show q + m - k = q - k + m by omega]
          exact this
    have j38 : ((x.toNat : Int) == 38) = false := by
      have hj : ¬ x = 38 := j3
      rw [show (38 : Int) = ((38 : UInt8).toNat : Int) from rfl, byte_eq, decide_eq_false hj]
    have j3' := Lib.hid j3
    clear j3
    have hlin : x = 9 ∨ x = 10 ∨ x = 13 → Hid ((valF f' x0 (S.drop (q + line (S.drop q))) (o ++ [32])).shift (q + line (S.drop q) - k) = R) := fun hj => Lib.hid (by
      have := hr.out
      rw [drop_at hx'.out, valF, if_neg jq'.out, if_neg j6'.out, if_neg j3'.out, if_pos hj, Out.shift_shift, ← drop_at hx'.out, List.drop_drop] at this
      rw [show q + line (S.drop q) - k = q - k + line (S.drop q) by omega]
      exact this)
    have hline : 1 ≤ line (S.drop q) ∧ q + line (S.drop q) ≤ S.length := by
      have := line_len (c := x) (S.drop (q + 1))
      rw [← drop_at hx'.out, List.length_drop] at this
      omega
    obtain ⟨LL, hLL⟩ : ∃ LL, line (S.drop q) = LL := ⟨_, rfl⟩
    rw [hLL] at hlin hline
    have hLL' := Lib.hid hLL
    clear hLL
    by_cases j9 : x = 9
    · have hli := hlin (.inl j9)
      have k9 : ((x.toNat : Int) == 9) = true := by rw [j9]; rfl
      clear hlin j9
      go_wp2_with fail
      refine (line_any w4 b S q _ c vo hs4.out hlt hS).mono ?_
      rintro e w5 ⟨rfl, hs5, hg5⟩
      rw [hLL'.out] at hs5
      have hs5' := Lib.hid hs5
      have hg45 := Lib.hid (hg4.out.trans hg5)
      have ho5 := Lib.hid (ow_kept ho4.out hg5 hbw)
      clear hs5 hg5 c1 f1 hs4 hg4 ho4

      go_wp2_with (at_builtin; apply stop_here)
      refine Stop.go (append_bytes _ 41 5 Tryz.underlying41 info_u8 rfl _ _ rfl w.heap.size _ o rfl (OwB.below ho5.out (below_alloc _ _)) _ _ _ [32] rfl (bs_lit _ _ _ _ _ _ rfl (by decide) rfl) (n + 1) (by rw [hon]) (by omega) (Nat.le_trans hg45.out.size (below_alloc _ _).size) ?_)
      intro A6 c6 w6 ho6 _ hb6'
      have hb6 : Below w.heap.size w5 w6 := ((below_alloc w5 _).mono hg45.out.size).trans hb6'
      have hs6 := h'.out.far hg45.out hs5'.out hb6
      have hss6 := Lib.hid hs6.1
      have hgg6 := Lib.hid hs6.2
      have ho6' := Lib.hid ho6
      clear ho6 hb6 hb6' hs6

      go_wp2_with fail
      go_roundg (S.length - (q + LL) + 1)
      case measure => omega
      case rel => exact ⟨q + LL, f', n + 1, c6, A6, o ++ [32], by omega, by omega, by omega, rfl, by rw [List.length_append]; simp; omega, Lib.hid (by have := hf.out; omega), hli, hss6, hgg6, ho6'⟩
    have k9 : ((x.toNat : Int) == 9) = false := by rw [show (9 : Int) = ((9 : UInt8).toNat : Int) from rfl, byte_eq, decide_eq_false j9]
    by_cases j10 : x = 10
    · have hli := hlin (.inr (.inl j10))
      have k10 : ((x.toNat : Int) == 10) = true := by rw [j10]; rfl
      clear hlin j10 j9
      go_wp2_with fail
      refine (line_any w4 b S q _ c vo hs4.out hlt hS).mono ?_
      rintro e w5 ⟨rfl, hs5, hg5⟩
      rw [hLL'.out] at hs5
      have hs5' := Lib.hid hs5
      have hg45 := Lib.hid (hg4.out.trans hg5)
      have ho5 := Lib.hid (ow_kept ho4.out hg5 hbw)
      clear hs5 hg5 c1 f1 hs4 hg4 ho4

      go_wp2_with (at_builtin; apply stop_here)
      refine Stop.go (append_bytes _ 41 5 Tryz.underlying41 info_u8 rfl _ _ rfl w.heap.size _ o rfl (OwB.below ho5.out (below_alloc _ _)) _ _ _ [32] rfl (bs_lit _ _ _ _ _ _ rfl (by decide) rfl) (n + 1) (by rw [hon]) (by omega) (Nat.le_trans hg45.out.size (below_alloc _ _).size) ?_)
      intro A6 c6 w6 ho6 _ hb6'
      have hb6 : Below w.heap.size w5 w6 := ((below_alloc w5 _).mono hg45.out.size).trans hb6'
      have hs6 := h'.out.far hg45.out hs5'.out hb6
      have hss6 := Lib.hid hs6.1
      have hgg6 := Lib.hid hs6.2
      have ho6' := Lib.hid ho6
      clear ho6 hb6 hb6' hs6

      go_wp2_with fail
      go_roundg (S.length - (q + LL) + 1)
      case measure => omega
      case rel => exact ⟨q + LL, f', n + 1, c6, A6, o ++ [32], by omega, by omega, by omega, rfl, by rw [List.length_append]; simp; omega, Lib.hid (by have := hf.out; omega), hli, hss6, hgg6, ho6'⟩
    have k10 : ((x.toNat : Int) == 10) = false := by rw [show (10 : Int) = ((10 : UInt8).toNat : Int) from rfl, byte_eq, decide_eq_false j10]
    by_cases j13 : x = 13
    · have hli := hlin (.inr (.inr j13))
      have k13 : ((x.toNat : Int) == 13) = true := by rw [j13]; rfl
      clear hlin j13 j10 j9
      go_wp2_with fail
      refine (line_any w4 b S q _ c vo hs4.out hlt hS).mono ?_
      rintro e w5 ⟨rfl, hs5, hg5⟩
      rw [hLL'.out] at hs5
      have hs5' := Lib.hid hs5
      have hg45 := Lib.hid (hg4.out.trans hg5)
      have ho5 := Lib.hid (ow_kept ho4.out hg5 hbw)
      clear hs5 hg5 c1 f1 hs4 hg4 ho4

      go_wp2_with (at_builtin; apply stop_here)
      refine Stop.go (append_bytes _ 41 5 Tryz.underlying41 info_u8 rfl _ _ rfl w.heap.size _ o rfl (OwB.below ho5.out (below_alloc _ _)) _ _ _ [32] rfl (bs_lit _ _ _ _ _ _ rfl (by decide) rfl) (n + 1) (by rw [hon]) (by omega) (Nat.le_trans hg45.out.size (below_alloc _ _).size) ?_)
      intro A6 c6 w6 ho6 _ hb6'
      have hb6 : Below w.heap.size w5 w6 := ((below_alloc w5 _).mono hg45.out.size).trans hb6'
      have hs6 := h'.out.far hg45.out hs5'.out hb6
      have hss6 := Lib.hid hs6.1
      have hgg6 := Lib.hid hs6.2
      have ho6' := Lib.hid ho6
      clear ho6 hb6 hb6' hs6

      go_wp2_with fail
      go_roundg (S.length - (q + LL) + 1)
      case measure => omega
      case rel => exact ⟨q + LL, f', n + 1, c6, A6, o ++ [32], by omega, by omega, by omega, rfl, by rw [List.length_append]; simp; omega, Lib.hid (by have := hf.out; omega), hli, hss6, hgg6, ho6'⟩
    have k13 : ((x.toNat : Int) == 13) = false := by rw [show (13 : Int) = ((13 : UInt8).toNat : Int) from rfl, byte_eq, decide_eq_false j13]
    have hrr : Hid ((valF f' x0 (S.drop (q + 1)) (o ++ [x])).shift (q + 1 - k) = R) := Lib.hid (by
      have := hr.out
      rw [drop_at hx'.out, valF, if_neg jq'.out, if_neg j6'.out, if_neg j3'.out, if_neg (by rintro (h | h | h); exact j9 h; exact j10 h; exact j13 h), Out.shift_shift] at this
      rw [show q + 1 - k = q - k + 1 by omega]
      exact this)
    clear hlin j9 j10 j13
    go_wp2_with (at_builtin; apply stop_here)
    refine Stop.go (append_bytes _ 41 5 Tryz.underlying41 info_u8 rfl _ _ rfl w.heap.size _ o rfl (OwB.below ho4.out (below_alloc _ _)) _ _ _ [x] rfl (bs_lit _ _ _ _ _ _ rfl (by decide) rfl) (n + 1) (by rw [hon]) (by omega) (Nat.le_trans hg4.out.size (below_alloc _ _).size) ?_)
    intro A6 c6 w6 ho6 _ hb6'
    have hb6 : Below w.heap.size w4 w6 := ((below_alloc w4 _).mono hg4.out.size).trans hb6'
    have hs6 := h'.out.far hg4.out hs4.out hb6
    have hss6 := Lib.hid hs6.1
    have hgg6 := Lib.hid hs6.2
    have ho6' := Lib.hid ho6
    clear ho6 hb6 hb6' hs6

    have d1 := hss6.out.c1
    have e1 := hss6.out.frozen 1
    go_wp2_with fail
    have h7 := hss6.out.set1 (q + 1)
    have hg7 := hgg6.out.trans h7.2
    have ho7 := ow_kept ho6'.out (grown_set w6 ⟨b, 1, none⟩ (.int .i64 ((q + 1 : Nat) : Int))) hbw
    go_roundg (S.length - (q + 1) + 1)
    case measure => omega
    case rel => exact ⟨q + 1, f', n + 1, c6, A6, o ++ [x], by omega, by omega, by omega, rfl, by rw [List.length_append]; simp; omega, Lib.hid (by have := hf.out; omega), hrr, Lib.hid h7.1, Lib.hid hg7, Lib.hid ho7⟩
end
end Go.Proofs.YtokdnhdfmgfkeaaGreatDoor.Xl
end

section
namespace Go.Proofs.YtokdnhdfmgfkeaaGreatDoor.Xl
open Go.RowKit UtfW Qx

theorem nameF_end {f : Nat} {first : Bool} {S : Tx} {p : Nat} (h : S.length ≤ p) : nameF f first (S.drop p) = 0 := by
  have := nameF_le f first (S.drop p)
  rw [List.length_drop] at this
  omega
theorem nameF_stop {f : Nat} {first : Bool} {S : Tx} {p : Nat} (h : (first = true ∧ Begins (nx S p).1 = false) ∨ GoesOn (nx S p).1 = false) : nameF f first (S.drop p) = 0 := by
  cases f with
  | zero => rfl
  | succ f =>
    rw [nameF, ← nx_drop, if_pos]
    rcases h with ⟨rfl, h⟩ | h
    · simp [h]
    · simp [h]
theorem nameF_on {f : Nat} {first : Bool} {S : Tx} {p : Nat} (h1 : first = true → Begins (nx S p).1 = true) (h2 : GoesOn (nx S p).1 = true) : nameF (f + 1) first (S.drop p) = (nx S p).2 + nameF f false (S.drop (p + (nx S p).2)) := by
  rw [nameF, ← nx_drop, if_neg, List.drop_drop]
  cases first
  · simp [h2]
  · simp [h2, h1 rfl]
theorem goesOn_pos {S : Tx} {p : Nat} (h : GoesOn (nx S p).1 = true) : 1 ≤ (nx S p).2 := by
  rcases Nat.eq_zero_or_pos (nx S p).2 with h0 | h0
  · exfalso
    have : (nx S p).1 = 0 := by
      unfold nx at h0 ⊢
      split
      · rename_i hlt
        rw [if_pos hlt] at h0
        unfold Utf.nxt at h0 ⊢
        have hge := Lib.decodeN_ge1 (S.length - p) (bt S p) (bt S (p + 1)) (bt S (p + 2)) (bt S (p + 3))
        simp only at h0 ⊢
        split at h0
        · rename_i hb
          rw [if_pos hb]
        · omega
      · rfl
    rw [this] at h
    exact absurd h (by decide)
  · exact h0

section
variable (w : World) (b : Nat) (S : Tx) (k : Nat) (A : Option Addr) (c : Nat) (vo : Value)
set_option maxHeartbeats 1000000 in
set_option maxRecDepth 100000 in
theorem name_any (h : Xc w b S k A c vo) (hk : k ≤ S.length) (hS : S.length ≤ 65536) :
    Calls Tryz.prog 183 #[.pointer (some ⟨b, 0, none⟩)] w fun e w' => Gives w b S k A c vo (fun v => .string (strOf v)) (name (S.drop k)) e w' := by
  have hlc := Rd.le h.bs
  have hcm := Rd.max h.bs
  have h' := Lib.hid h
  clear h
  obtain ⟨R, hR⟩ : ∃ R, nameL (S.drop k) = R := ⟨_, rfl⟩
  have hR' := Lib.hid hR
  clear hR
  obtain ⟨A1, hA1⟩ : ∃ A1, (if c = k then A else Option.map (fun x => x.add k) A) = A1 := ⟨_, rfl⟩
  by_cases hend : S.length ≤ k
  · go_enter Tryz.func183, Tryz.ntmps183
    go_wp2_with fail
    refine (need_bad w b S k A c vo h'.out hend).mono ?_
    rintro e w1 ⟨rfl, hb1⟩
    go_wp2_with fail
    refine ⟨rfl, grown_in hb1, ?_⟩
    unfold name
    rw [drop_end hend, if_pos rfl]
    have e : S.length = k + 0 := by omega
    rw [e]
  have hne : Hid (S.drop k ≠ []) := Lib.hid (by
    intro e
    have := congrArg List.length e
    rw [List.length_drop] at this
    simp at this
    omega)
  have hkl : k < S.length := by omega
  go_enter Tryz.func183, Tryz.ntmps183
  go_wp2_with fail
  refine (need_ok w b S k A c vo h'.out hkl).mono ?_
  rintro e w1 ⟨rfl, hb1⟩
  have hs1 := Lib.hid (h'.out.below hb1)
  have hg1 := Lib.hid (grown_in (r := some b) hb1)
  have hb1' := Lib.hid hb1
  have c1 := hs1.out.c1
  clear hb1 hend
  go_wp2_with fail
  go_loopg [4, 5] (S.length - k) (fun m u v wr => ∃ q f : Nat, k ≤ q ∧ q ≤ S.length ∧ S.length - q ≤ m ∧ Hid (S.length < q + f) ∧ Hid ((q - k) + nameF f (decide (q = k)) (S.drop q) = R) ∧ Hid (Xc wr b S q A c vo) ∧ Hid (w.grownBy wr (some b)))
  case atStart =>
    refine ⟨k, S.length - k + 1, Nat.le_refl _, hk, Nat.le_refl _, Lib.hid (by omega), Lib.hid ?_, hs1, hg1⟩
    have := hR'.out
    unfold nameL at this
    rw [List.length_drop] at this
    simpa using this
  case round =>
    clear c1
    obtain ⟨q, f, hkq, hql, hms, hf, hr, hs, hg⟩ := hrel
    have c0 := hs.out.c0
    have c1 := hs.out.c1
    by_cases hlt : q < S.length
    · have i0 : decide ((q : Int) < (S.length : Int)) = true := by simp; omega
      go_wp2_with fail
      go_big_quiet (fail)
      have hs2 := Lib.hid (hs.out.below (Joins.below_draws _ wr nq))
      have hg2 := Lib.hid (hg.out.trans (grown_in (Joins.below_draws _ wr nq)))
      generalize wr.drewN nq = w2 at hs2 hg2 ⊢
      clear hs hg c0 c1
      have hq : Hid (∀ x, Below w2.heap.size w2 x → x.cell? ⟨b, 0, none⟩ = some (.slice A S.length c) ∧ x.cell? ⟨b, 1, none⟩ = some (.int .i64 (q : Nat))) := Lib.hid fun x hx => ⟨(hs2.out.below hx).c0, (hs2.out.below hx).c1⟩
      have hdr : Hid (Below w2.heap.size w2 w2.drew) := Lib.hid (Joins.below_draws w2.heap.size w2 1)
      have hle := nx_le hlt
      have hc := utfNext_any A S.length c S q (by omega) w2.drew (hs2.out.below hdr.out).bs (hs2.out.below hdr.out).us.ut
      rw [nxI_nat] at hc
      have hpos := @goesOn_pos S q
      obtain ⟨P, hP⟩ : ∃ P, nx S q = P := ⟨_, rfl⟩
      rw [hP] at hc hle hpos
      have hP' := Lib.hid hP
      clear hP
      obtain ⟨r, m⟩ := P
      unfold nxV at hc
      simp only at hc hle hpos
      have hpos' := Lib.hid hpos
      have hc' := Lib.hid hc
      clear hpos hc
      have hlt' := Lib.hid hlt
      go_wp2_with fail
      refine Pl.wp_region_plan 13 (.take 0 (.take 1 (.take 2 (.take 3 (.take 4 (.take 5 (.take 6 (.take 7 (.run 8 (.take 9 (.take 10 (.take 11 (.take 12 .done))))))))))))) (fun x => x.cell? ⟨b, 0, none⟩ = some (.slice A S.length c) ∧ x.cell? ⟨b, 1, none⟩ = some (.int .i64 (q : Nat))) (by kernel_rfl) (by kernel_rfl) (by exact hq.out _ hdr.out) ?_
      simp only [Pl.fill, List.getElem?_cons_zero, List.getElem?_cons_succ, List.drop_succ_cons, List.drop_zero]
      iterate 8
        refine Pl.take_go ?_ (by rfl) (fun _ _ _ h => h) ?_ ?_
        rotate_left
        · (intro x hSw; (try dsimp only at hSw); (try obtain ⟨s0, s1⟩ := hSw); go_simp; try with_reducible rfl)
        try simp only [Act.put, List.setIfInBounds_toArray, List.set_cons_zero, List.set_cons_succ]
      refine Pl.run_go (fun K hK => ?_)
      go_simp
      refine hc'.out.mono ?_
      rintro e w3 ⟨rfl, hb3⟩
      have hb3' := Lib.hid (hdr.out.trans (hb3.mono hdr.out.size))
      have hs3 := Lib.hid (hs2.out.below hb3'.out)
      have hg3 := Lib.hid (hg2.out.trans (grown_in hb3'.out))
      dsimp only
      refine hK.out _ _ (Pl.more_go _ (fun _ h => h) (by exact hq.out _ hb3'.out) ?_)
      clear hK K
      try simp only [Act.put, List.setIfInBounds_toArray, List.set_cons_zero, List.set_cons_succ]
      iterate 4
        refine Pl.take_go ?_ (by rfl) (fun _ _ _ h => h) ?_ ?_
        rotate_left
        · (intro x hSw; (try dsimp only at hSw); (try obtain ⟨s0, s1⟩ := hSw); go_simp; try with_reducible rfl)
        try simp only [Act.put, List.setIfInBounds_toArray, List.set_cons_zero, List.set_cons_succ]
      refine Pl.done_go ?_
      clear hq hdr hb3 hs2 hg2 hb3' hc'
      have d1 := hs3.out.c1
      by_cases h0 : q = k
      · have e0 : ((q : Int) == (k : Int)) = true := by rw [beq_iff_eq]; omega
        subst h0
        cases hbg : Begins (r : Nat) with
        | false =>
          go_wp2_with fail
          refine (utfBegins_any r w3).mono ?_
          rintro e w4 ⟨rfl, hb4⟩
          rw [hbg]
          have hs4 := Lib.hid (hs3.out.below hb4)
          have hg4 := Lib.hid (hg3.out.trans (grown_in hb4))
          have g1 := hs4.out.c1
          clear hb4 d1
          go_wp2_with fail
          refine (fail_any _ 2 ((q : Nat) : Int)).mono ?_
          rintro e w9 ⟨rfl, rfl⟩
          go_wp2_with fail
          refine ⟨rfl, hg4.out, ?_⟩
          have hz : R = 0 := by
            have := hr.out
            rw [nameF_stop (Or.inl ⟨by simp, by rw [hP'.out]; exact hbg⟩)] at this
            omega
          unfold name
          rw [if_neg hne.out, if_pos (hR'.out.trans hz)]
          rfl
        | true =>
          go_wp2_with fail
          refine (utfBegins_any r w3).mono ?_
          rintro e w4 ⟨rfl, hb4⟩
          rw [hbg]
          have hs4 := Lib.hid (hs3.out.below hb4)
          have hg4 := Lib.hid (hg3.out.trans (grown_in hb4))
          clear hb4 d1
          go_wp2_with fail
          refine (utfGoesOn_any r w4).mono ?_
          rintro e w5 ⟨rfl, hb5⟩
          have hs5 := Lib.hid (hs4.out.below hb5)
          have hg5 := Lib.hid (hg4.out.trans (grown_in hb5))
          have g1 := hs5.out.c1
          have f1 := hs5.out.frozen 1
          clear hb5
          cases hgo : GoesOn (r : Nat) with
          | false =>
            go_wp2_with fail
            refine (fail_any _ 2 ((q : Nat) : Int)).mono ?_
            rintro e w9 ⟨rfl, rfl⟩
            go_wp2_with fail
            refine ⟨rfl, hg5.out, ?_⟩
            have hz : R = 0 := by
              have := hr.out
              rw [nameF_stop (Or.inr (by rw [hP'.out]; exact hgo))] at this
              omega
            unfold name
            rw [if_neg hne.out, if_pos (hR'.out.trans hz)]
            rfl
          | true =>
            have hm := hpos'.out hgo
            go_wp2_with fail
            go_roundg (S.length - (q + m))
            case measure => omega
            case rel =>
              obtain ⟨g, rfl⟩ : ∃ g, f = g + 1 := ⟨f - 1, by have := hf.out; have := hlt'.out; omega⟩
              have h6 := hs5.out.set1 (q + m)
              refine ⟨q + m, g, by omega, by omega, Nat.le_refl _, Lib.hid (by have := hf.out; omega), Lib.hid ?_, Lib.hid h6.1, Lib.hid (hg5.out.trans h6.2)⟩
              have := hr.out
              rw [nameF_on (fun _ => by rw [hP'.out]; exact hbg) (by rw [hP'.out]; exact hgo), hP'.out] at this
              rw [show decide (q + m = q) = false by simp; omega]
              simp only at this
              omega
      · have e0 : ((q : Int) == (k : Int)) = false := by rw [beq_eq_false_iff_ne]; omega
        have h0' := Lib.hid h0
        have hkq2 : k < q := by omega
        clear h0
        go_wp2_with fail
        refine (utfGoesOn_any r w3).mono ?_
        rintro e w5 ⟨rfl, hb5⟩
        have hs5 := Lib.hid (hs3.out.below hb5)
        have hg5 := Lib.hid (hg3.out.trans (grown_in hb5))
        have g1 := hs5.out.c1
        have f1 := hs5.out.frozen 1
        clear hb5 d1
        cases hgo : GoesOn (r : Nat) with
        | false =>
          have hqk : Hid (nameL (S.drop k) = q - k) := Lib.hid (by
            have := hr.out
            rw [nameF_stop (Or.inr (by rw [hP'.out]; exact hgo)), Nat.add_zero] at this
            rw [hR'.out, this])
          have hcut : Bs w5 (offA A c k) (q - k) (c - k) ((S.drop k).take (q - k)) := Bs.from hs5.out.bs hkq (by omega)
          unfold offA at hcut
          rw [hA1] at hcut
          have q1 : (0 : Int) ≤ (k : Int) ∧ (k : Int) ≤ (q : Int) := ⟨by omega, by omega⟩
          have z0 := hs5.out.c0
          have z1 := hs5.out.c1
          have hq9 : Hid (∀ x, Below w5.heap.size w5 x → x.cell? ⟨b, 0, none⟩ = some (.slice A S.length c) ∧ x.cell? ⟨b, 1, none⟩ = some (.int .i64 (q : Nat))) := Lib.hid fun x hx => ⟨(hs5.out.below hx).c0, (hs5.out.below hx).c1⟩
          have hdr9 : Hid (Below w5.heap.size w5 w5.drew) := Lib.hid (Joins.below_draws w5.heap.size w5 1)
          go_wp2_with fail
          refine Pl.wp_region_plan 9 (.take 0 (.take 1 (.take 2 (.take 3 (.take 4 (.take 5 (.take 6 (.take 7 (.take 8 .done))))))))) (fun x => x.cell? ⟨b, 0, none⟩ = some (.slice A S.length c) ∧ x.cell? ⟨b, 1, none⟩ = some (.int .i64 (q : Nat))) (by kernel_rfl) (by kernel_rfl) (by exact hq9.out _ hdr9.out) ?_
          simp only [Pl.fill, List.getElem?_cons_zero, List.getElem?_cons_succ, List.drop_succ_cons, List.drop_zero]
          iterate 9
            refine Pl.take_go ?_ (by rfl) (fun _ _ _ h => h) ?_ ?_
            rotate_left
            · (intro x hSw; (try dsimp only at hSw); (try obtain ⟨s0, s1⟩ := hSw); go_simp; try with_reducible rfl)
            try simp only [Act.put, List.setIfInBounds_toArray, List.set_cons_zero, List.set_cons_succ]
          refine Pl.done_go ?_
          have hcv2 : (convert 41 9 (.slice A1 (q - k) (c - k))).run Tryz.prog w5.drew = .ok (.string (strOf ((S.drop k).take (q - k)))) w5.drew := Bs.conv (Bs.below hcut hdr9.out) Tryz.underlying41 Tryz.underlying5 Tryz.underlying9
          have hs8 := Lib.hid (hs5.out.below hdr9.out)
          have hg8 := Lib.hid (hg5.out.trans (grown_in hdr9.out))
          go_wp2_with fail
          go_ret
          refine ⟨hg8.out, ?_⟩
          unfold name
          rw [if_neg hne.out, hqk.out, if_neg (by omega)]
          refine ⟨rfl, ?_⟩
          rw [Nat.add_sub_cancel' hkq]
          exact hs8.out
        | true =>
          have hm := hpos'.out hgo
          go_wp2_with fail
          go_roundg (S.length - (q + m))
          case measure => omega
          case rel =>
            obtain ⟨g, rfl⟩ : ∃ g, f = g + 1 := ⟨f - 1, by have := hf.out; have := hlt'.out; omega⟩
            have h6 := hs5.out.set1 (q + m)
            refine ⟨q + m, g, by omega, by omega, Nat.le_refl _, Lib.hid (by have := hf.out; omega), Lib.hid ?_, Lib.hid h6.1, Lib.hid (hg5.out.trans h6.2)⟩
            have := hr.out
            rw [nameF_on (fun hh => absurd (by simpa using hh) h0'.out) (by rw [hP'.out]; exact hgo), hP'.out] at this
            rw [show decide (q + m = k) = false by simp; omega]
            simp only at this
            omega
    · have i0 : decide ((q : Int) < (S.length : Int)) = false := by simp; omega
      have hge : S.length ≤ q := by omega
      have e0 : ((q : Int) == (k : Int)) = false := by rw [beq_eq_false_iff_ne]; omega
      go_wp2_with fail
      go_big_quiet (fail)
      have hs2 := Lib.hid (hs.out.below (Joins.below_draws _ wr nq))
      have hg2 := Lib.hid (hg.out.trans (grown_in (Joins.below_draws _ wr nq)))
      generalize wr.drewN nq = w2 at hs2 hg2 ⊢
      clear hs hg c0 c1
      have hqk : Hid (nameL (S.drop k) = q - k) := Lib.hid (by
        have := hr.out
        rw [nameF_end hge, Nat.add_zero] at this
        rw [hR'.out, this])
      have hcut : Bs w2 (offA A c k) (q - k) (c - k) ((S.drop k).take (q - k)) := Bs.from hs2.out.bs hkq (by omega)
      unfold offA at hcut
      rw [hA1] at hcut
      have q1 : (0 : Int) ≤ (k : Int) ∧ (k : Int) ≤ (q : Int) := ⟨by omega, by omega⟩
      have z0 := hs2.out.c0
      have z1 := hs2.out.c1
      have hq9 : Hid (∀ x, Below w2.heap.size w2 x → x.cell? ⟨b, 0, none⟩ = some (.slice A S.length c) ∧ x.cell? ⟨b, 1, none⟩ = some (.int .i64 (q : Nat))) := Lib.hid fun x hx => ⟨(hs2.out.below hx).c0, (hs2.out.below hx).c1⟩
      have hdr9 : Hid (Below w2.heap.size w2 w2.drew) := Lib.hid (Joins.below_draws w2.heap.size w2 1)
      go_wp2_with fail
      refine Pl.wp_region_plan 9 (.take 0 (.take 1 (.take 2 (.take 3 (.take 4 (.take 5 (.take 6 (.take 7 (.take 8 .done))))))))) (fun x => x.cell? ⟨b, 0, none⟩ = some (.slice A S.length c) ∧ x.cell? ⟨b, 1, none⟩ = some (.int .i64 (q : Nat))) (by kernel_rfl) (by kernel_rfl) (by exact hq9.out _ hdr9.out) ?_
      simp only [Pl.fill, List.getElem?_cons_zero, List.getElem?_cons_succ, List.drop_succ_cons, List.drop_zero]
      iterate 9
        refine Pl.take_go ?_ (by rfl) (fun _ _ _ h => h) ?_ ?_
        rotate_left
        · (intro x hSw; (try dsimp only at hSw); (try obtain ⟨s0, s1⟩ := hSw); go_simp; try with_reducible rfl)
        try simp only [Act.put, List.setIfInBounds_toArray, List.set_cons_zero, List.set_cons_succ]
      refine Pl.done_go ?_
      have hcv2 : (convert 41 9 (.slice A1 (q - k) (c - k))).run Tryz.prog w2.drew = .ok (.string (strOf ((S.drop k).take (q - k)))) w2.drew := Bs.conv (Bs.below hcut hdr9.out) Tryz.underlying41 Tryz.underlying5 Tryz.underlying9
      have hs8 := Lib.hid (hs2.out.below hdr9.out)
      have hg8 := Lib.hid (hg2.out.trans (grown_in hdr9.out))
      go_wp2_with fail
      go_ret
      refine ⟨hg8.out, ?_⟩
      unfold name
      rw [if_neg hne.out, hqk.out, if_neg (by omega)]
      refine ⟨rfl, ?_⟩
      rw [Nat.add_sub_cancel' hkq]
      exact hs8.out
end
end Go.Proofs.YtokdnhdfmgfkeaaGreatDoor.Xl
end

section
namespace Go.Proofs.YtokdnhdfmgfkeaaGreatDoor.Xl
open Go.RowKit UtfW

section
variable (w : World) (b : Nat) (S : Tx) (k : Nat) (A : Option Addr) (c : Nat) (vo : Value)
set_option maxRecDepth 100000 in
theorem blanks_any (h : Xc w b S k A c vo) (hk : k ≤ S.length) (hS : S.length ≤ 65536) :
    Calls Tryz.prog 175 #[.pointer (some ⟨b, 0, none⟩)] w fun e w' => e = .returned (.bool (decide (0 < blanks (S.drop k)))) ∧ Xc w' b S (k + blanks (S.drop k)) A c vo ∧ w.grownBy w' (some b) := by
  have c1 := h.c1
  have h' := Lib.hid h
  clear h
  obtain ⟨R, hR⟩ : ∃ R, blanks (S.drop k) = R := ⟨_, rfl⟩
  rw [hR]
  have hR' := Lib.hid hR
  clear hR
  go_enter Tryz.func175, Tryz.ntmps175
  go_wp2_with fail
  go_loopg [] (S.length - k) (fun m wr => ∃ q : Nat, k ≤ q ∧ q ≤ S.length ∧ S.length - q ≤ m ∧ Hid (q - k + blanks (S.drop q) = R) ∧ Hid (Xc wr b S q A c vo) ∧ Hid (w.grownBy wr (some b)))
  case atStart => exact ⟨k, Nat.le_refl _, hk, Nat.le_refl _, Lib.hid (by rw [Nat.sub_self, Nat.zero_add]; exact hR'.out), h', Lib.hid (World.grownBy.refl _ _)⟩
  case round =>
    clear c1
    obtain ⟨q, hkq, hql, hm, hr, hs, hg⟩ := hrel
    have c0 := hs.out.c0
    have c1 := hs.out.c1
    have f1 := hs.out.frozen 1
    by_cases hlt : q < S.length
    · have i0 : decide ((q : Int) < (S.length : Int)) = true := by simp; omega
      obtain ⟨ba, off, rfl, hx, hcell⟩ := hs.out.at_ hlt
      generalize S[q] = x at hx hcell
      have hw := wrap32_byte x
      cases hbl : Qx.blank x with
      | true =>
        have hbl' : Blank (x.toNat : Int) = true := hbl
        have hx' := Lib.hid hx
        have hbh := Lib.hid hbl
        clear hx hbl
        go_wp2_with fail
        go_big_quiet ((go_at_call 50; exact Calls.quiet_of_same (blank_any _ _)))
        go_wp2_with fail
        have hs2 := hs.out.below (Joins.below_draws _ wr nq)
        have h3 := hs2.set1 (q + 1)
        go_roundg (S.length - (q + 1))
        case measure => omega
        case rel => exact ⟨q + 1, by omega, by omega, Nat.le_refl _, Lib.hid (by have := hr.out; rw [blanks_on hx'.out hbh.out] at this; rw [← this]; omega), h3.1, Lib.hid ((hg.out.trans (grown_in (Joins.below_draws _ wr nq))).trans h3.2)⟩
      | false =>
        have hbl' : Blank (x.toNat : Int) = false := hbl
        have hx' := Lib.hid hx
        have hbh := Lib.hid hbl
        clear hx hbl
        go_wp2_with fail
        go_big_quiet ((go_at_call 50; exact Calls.quiet_of_same (blank_any _ _)))
        go_wp2_with fail
        go_ret
        have hs2 := hs.out.below (Joins.below_draws _ wr nq)
        have := hr.out
        rw [blanks_off hx'.out hbh.out] at this
        rw [← this, Nat.add_zero, Nat.add_sub_cancel' hkq]
        exact ⟨ret_bool (by congr 1; simp; omega), hs2, hg.out.trans (grown_in (Joins.below_draws _ wr nq))⟩
    · have i0 : decide ((q : Int) < (S.length : Int)) = false := by simp; omega
      go_wp2_with fail
      go_big_quiet (fail)
      go_wp2_with fail
      go_ret
      have hs2 := hs.out.below (Joins.below_draws _ wr nq)
      have := hr.out
      rw [blanks_end (by omega)] at this
      rw [← this, Nat.add_zero, Nat.add_sub_cancel' hkq]
      exact ⟨ret_bool (by congr 1; simp; omega), hs2, hg.out.trans (grown_in (Joins.below_draws _ wr nq))⟩

set_option maxRecDepth 100000 in
theorem eat_any (h : Xc w b S k A c vo) (hk : k ≤ S.length) (hS : S.length ≤ 65536) (p : Tx) (hp : p.length ≤ 65536) :
    Calls Tryz.prog 185 #[.pointer (some ⟨b, 0, none⟩), .string (strOf p)] w fun e w' => Gives w b S k A c vo (fun _ => .tuple #[]) (eat p (S.drop k)) e w' := by
  have hsz : (strOf p).size = p.length := strOf_size' p
  have h' := Lib.hid h
  clear h
  obtain ⟨R, hR⟩ : ∃ R, eat p (S.drop k) = R := ⟨_, rfl⟩
  rw [hR]
  have hR' := Lib.hid hR
  clear hR
  go_enter Tryz.func185, Tryz.ntmps185
  go_wp2_with fail
  go_loopw [4, 7] (fun u v wr => ∃ j : Nat, j ≤ p.length ∧ v = .int .i64 (j : Nat) ∧ k + j ≤ S.length ∧ Hid ((eat (p.drop j) (S.drop (k + j))).shift j = R) ∧ Hid (Xc wr b S (k + j) A c vo) ∧ Hid (w.grownBy wr (some b))) (fun _ v _ => p.length - (intOf v).toNat)
  case atStart => exact ⟨0, by omega, rfl, hk, Lib.hid (by rw [Out.shift_zero]; exact hR'.out), h', Lib.hid (World.grownBy.refl _ _)⟩
  case round =>
    obtain ⟨j, hj, rfl, hkj, hr, hs, hg⟩ := hrel
    by_cases hlt : j < p.length
    · have i0 : decide ((j : Int) < (p.length : Int)) = true := by simp; omega
      have hy : p[j]? = some p[j] := List.getElem?_eq_getElem hlt
      generalize p[j] = y at hy
      have hlt' : j < (strOf p).size := by rw [hsz]; exact hlt
      have hgy := str_at hy hlt'
      have hy' := Lib.hid hy
      clear hy
      by_cases hend : k + j < S.length
      · go_wp2_with fail
        refine (need_ok wr b S (k + j) A c vo hs.out hend).mono ?_
        rintro e w1 ⟨rfl, hb1⟩
        have hs1 := Lib.hid (hs.out.below hb1)
        have hg1 := Lib.hid (hg.out.trans (grown_in hb1))
        clear hb1
        have c0 := hs1.out.c0
        have c1 := hs1.out.c1
        have f1 := hs1.out.frozen 1
        obtain ⟨ba, off, rfl, hx, hcell⟩ := hs1.out.at_ hend
        generalize S[k + j] = x at hx hcell
        have hx' := Lib.hid hx
        clear hx
        by_cases hxy : x = y
        · subst hxy
          go_wp2_with fail
          go_big_quiet (fail)
          go_wp2_with fail
          have hs2 := hs1.out.below (Joins.below_draws _ w1 nq)
          have h3 := hs2.set1 (k + (j + 1))
          go_roundw
          case rel => exact ⟨j + 1, by omega, by go_num, by omega, Lib.hid (by have := hr.out; rw [eat_on hy'.out hx'.out, Out.shift_shift] at this; exact this), h3.1, Lib.hid ((hg1.out.trans (grown_in (Joins.below_draws _ w1 nq))).trans h3.2)⟩
          case measure => simp [intOf]; omega
        · have hne : ((x.toNat : Int) == (y.toNat : Int)) = false := by
            rw [beq_eq_false_iff_ne]
            intro e
            exact hxy (UInt8.toNat_inj.1 (by omega))
          have hxy' := Lib.hid hxy
          clear hxy
          go_wp2_with fail
          go_big_quiet (fail)
          go_wp2_with fail
          refine (fail_any _ 2 ((k + j : Nat) : Int)).mono ?_
          rintro e w2 ⟨rfl, rfl⟩
          go_wp2_with fail
          refine ⟨rfl, hg1.out.trans (grown_in (Joins.below_draws _ w1 nq)), ?_⟩
          have := hr.out
          rw [eat_off hy'.out hx'.out hxy'.out] at this
          subst this
          rfl
      · go_wp2_with fail
        refine (need_bad wr b S (k + j) A c vo hs.out (by omega)).mono ?_
        rintro e w1 ⟨rfl, hb1⟩
        go_wp2_with fail
        refine ⟨rfl, hg.out.trans (grown_in hb1), ?_⟩
        have := hr.out
        rw [eat_end hy'.out (by omega)] at this
        subst this
        have e : S.length = k + (j + 0) := by omega
        rw [e]
        rfl
    · have i0 : decide ((j : Int) < (p.length : Int)) = false := by simp; omega
      go_wp2_with fail
      go_end0
      refine ⟨hg.out, ?_⟩
      have := hr.out
      rw [eat_done (by omega)] at this
      subst this
      exact ⟨rfl, hs.out⟩
end
end Go.Proofs.YtokdnhdfmgfkeaaGreatDoor.Xl
end

section
namespace Go.Proofs.YtokdnhdfmgfkeaaGreatDoor.Xl
open Go.RowKit UtfW

section
variable {there : List At} {S nm v : Tx} {k n1 B1 B2 m n eo : Nat} {ec : Int}
theorem attr_eat (hn : name (S.drop k) = .ok nm n1) (hm : nm ∉ there.map (·.1)) (hB : blanks (S.drop (k + n1)) = B1) (he : eat [61] (S.drop (k + n1 + B1)) = .bad ec eo) : attr there (S.drop k) = .bad ec (n1 + B1 + eo) := by
  unfold attr
  rw [hn]
  simp only
  rw [if_neg hm]
  simp only [List.drop_drop, ← Nat.add_assoc, hB, he]
theorem attr_value (hn : name (S.drop k) = .ok nm n1) (hm : nm ∉ there.map (·.1)) (hB : blanks (S.drop (k + n1)) = B1) (he : eat [61] (S.drop (k + n1 + B1)) = .ok () m) (hB2 : blanks (S.drop (k + n1 + B1 + m)) = B2)
    (hv : value (S.drop (k + n1 + B1 + m + B2)) = .bad ec eo) : attr there (S.drop k) = .bad ec (n1 + B1 + m + B2 + eo) := by
  unfold attr
  rw [hn]
  simp only
  rw [if_neg hm]
  simp only [List.drop_drop, ← Nat.add_assoc, hB, he, hB2, hv]
theorem attr_ok (hn : name (S.drop k) = .ok nm n1) (hm : nm ∉ there.map (·.1)) (hB : blanks (S.drop (k + n1)) = B1) (he : eat [61] (S.drop (k + n1 + B1)) = .ok () m) (hB2 : blanks (S.drop (k + n1 + B1 + m)) = B2)
    (hv : value (S.drop (k + n1 + B1 + m + B2)) = .ok v n) : attr there (S.drop k) = .ok (nm, v) (n1 + B1 + m + B2 + n) := by
  unfold attr
  rw [hn]
  simp only
  rw [if_neg hm]
  simp only [List.drop_drop, ← Nat.add_assoc, hB, he, hB2, hv]
end
def atV (a : At) : Value := .agg #[.string (strOf a.1), .string (strOf a.2)]

section
variable (w : World) (b : Nat) (S : Tx) (k : Nat) (A : Option Addr) (c : Nat) (vo : Value)
set_option maxHeartbeats 2000000 in
set_option maxRecDepth 100000 in
theorem attribute_any (h : Xc w b S k A c vo) (hk : k ≤ S.length) (hS : S.length ≤ 65536) (A5 : Option Addr) (n5 c5 : Nat) (there : List At) (hth : Sq AtEl 2 w A5 n5 c5 there) (hne : ∀ a, A5 = some a → 0 < n5 → a.block ≠ b) (hn5 : n5 ≤ 65536) :
    Calls Tryz.prog 187 #[.pointer (some ⟨b, 0, none⟩), .slice A5 n5 c5] w fun e w' => Gives w b S k A c vo atV (attr there (S.drop k)) e w' := by
  have hbw : b < w.heap.size := h.lt
  have hba := below_alloc w (.cells #[.string ⟨#[]⟩, .string ⟨#[]⟩] 55)
  have hab := ab_new w ⟨#[]⟩ ⟨#[]⟩
  obtain ⟨T0, hT0⟩ : ∃ T0, w.heap.size = T0 := ⟨_, rfl⟩
  obtain ⟨w1, hw1⟩ : ∃ w1, w.alloc (.cells #[.string ⟨#[]⟩, .string ⟨#[]⟩] 55) = w1 := ⟨_, rfl⟩
  rw [hw1] at hba hab
  rw [hT0] at hab
  have hs1 := Lib.hid (h.below hba)
  have hg1 := Lib.hid (grown_in (r := some b) hba)
  have hth1 := Lib.hid (Sq.below hth AtEl.to hba)
  have hab1 := Lib.hid hab
  have hbT : b ≠ T0 := by omega
  have c1 := hs1.out.c1
  have hne' := Lib.hid hne
  have h0 := Lib.hid h
  have hTlo : w.heap.size ≤ T0 := by omega
  obtain ⟨R, hR⟩ : ∃ R, attr there (S.drop k) = R := ⟨_, rfl⟩
  rw [hR]
  have hR' := Lib.hid hR
  clear h hth hba hab hR hne
  go_enter Tryz.func187, Tryz.ntmps187
  go_wp2_with fail
  refine (name_any w1 b S k A c vo hs1.out hk hS).mono ?_
  rintro e w2 ⟨hg2, hG⟩
  cases hnm : name (S.drop k) with
  | bad ec eo =>
    rw [hnm] at hG
    subst hG
    go_wp2_with fail
    refine ⟨rfl, hg1.out.trans hg2, ?_⟩
    have := hR'.out
    unfold attr at this
    rw [hnm] at this
    simp only at this
    rw [← this]
    exact pan_eq rfl
  | ok nm n1 =>
    rw [hnm] at hG
    obtain ⟨rfl, hs2⟩ := hG
    have hnl := name_len hnm
    have hn1 := hnl.1
    have hn2 := hnl.2.1
    clear hnl
    rw [List.length_drop] at hn2
    have hs2' := Lib.hid hs2
    have hg2' := Lib.hid (hg1.out.trans hg2)
    have hab2 := Lib.hid (hab1.out.on hg2 hbT.symm)
    have hth2 : Hid (Sq AtEl 2 w2 A5 n5 c5 there) := Lib.hid ⟨hth1.out.len, hth1.out.le, hth1.out.max, hth1.out.nil, fun hn => by
      obtain ⟨b5, off5, e5, hlt5, hc5⟩ := hth1.out.cell hn
      refine ⟨b5, off5, e5, Nat.lt_of_lt_of_le hlt5 hg2.size, fun i x hi => ?_⟩
      obtain ⟨vs, g1, g2, g3⟩ := hc5 i x hi
      exact ⟨vs, g1, g2, fun j v hj => hg2.cell (g3 j v hj) (by have := hne'.out _ e5 hn; simp; exact this)⟩⟩
    have hnm' := Lib.hid hnm
    clear hs2 hg2 hnm c1
    have hba3 := below_alloc w2 (.cells #[.string (strOf nm), .string ⟨#[]⟩] 55)
    have hab3 := ab_new w2 (strOf nm) ⟨#[]⟩
    have hT02 := hab2.out.lt
    have hb2 := hs2'.out.lt
    obtain ⟨T2, hT2⟩ : ∃ T2, w2.heap.size = T2 := ⟨_, rfl⟩
    obtain ⟨w3, hw3⟩ : ∃ w3, w2.alloc (.cells #[.string (strOf nm), .string ⟨#[]⟩] 55) = w3 := ⟨_, rfl⟩
    rw [hw3] at hba3 hab3
    rw [hT2] at hab3
    have hs3 := Lib.hid (hs2'.out.below hba3)
    have hg3 := Lib.hid (hg2'.out.trans (grown_in hba3))
    have hth3 := Lib.hid (Sq.below hth2.out AtEl.to hba3)
    have hr3 := Lib.hid (hab2.out.below hba3)
    have hab3' := Lib.hid hab3
    have hbT2 : b ≠ T2 := by omega
    have hTT : T0 ≠ T2 := by omega
    have hT2lo : w.heap.size ≤ T2 := by have := hg2'.out.size; omega
    have hw3' := Lib.hid hw3
    have hT2' := Lib.hid hT2
    clear hba3 hab3 hT02 hb2 hw3 hT2
    go_wp2_with fail
    rw [hw3'.out, hT2'.out]
    clear hw3' hT2'
    have a2 := hab3'.out.c0
    go_loopw [8, 18] (fun v8 v18 wr => ∃ j : Nat, j ≤ n5 ∧ v18 = .int .i64 (j : Nat) ∧ Hid (∀ (i : Nat) x, i < j → there[i]? = some x → x.1 ≠ nm) ∧ Hid (Below w3.heap.size w3 wr)) (fun _ v18 _ => n5 - (intOf v18).toNat)
    case atStart => exact ⟨0, by omega, rfl, Lib.hid fun i x hi => absurd hi (by omega), Lib.hid (Below.refl _ _)⟩
    case round =>
      obtain ⟨j, hj, rfl, hno, hb⟩ := hrel
      clear a2
      have a2 := (hab3'.out.below hb.out).c0
      by_cases hlt : j < n5
      · have i0 : decide ((j : Int) < (n5 : Int)) = true := by simp; omega
        obtain ⟨b5, off5, x, vs, rfl, hb5, hxj, hv2, hve, hvc⟩ := (Sq.below hth3.out AtEl.to hb.out).at_ hlt
        unfold AtEl at hve
        subst hve
        have k0 := hvc 0 _ rfl
        have k1 := hvc 1 _ rfl
        rw [Nat.add_zero] at k0
        have hse := str_eqL
        have hxj' := Lib.hid hxj
        clear hxj hv2 hvc
        have hcmp : ((strOf x.1).toList == (strOf nm).toList) = decide (x.1 = nm) := by
          have e : (strOf nm).toList = nm := by rw [Lib.toList_data]; simp [strOf]
          rw [e]
          exact str_eqL x.1 nm
        clear hse
        have hbn := Lib.hid (hb.out.trans ((below_alloc _ (.cells #[.string (strOf x.1), .string (strOf x.2)] 55)).mono hb.out.size))
        have a3 := (hab3'.out.below hbn.out).c0
        by_cases hx : x.1 = nm
        · rw [decide_eq_true hx] at hcmp
          have hx' := Lib.hid hx
          clear hx
          go_wp2_with fail
          refine (fail_any _ 4 (k : Nat)).mono ?_
          rintro e w9 ⟨rfl, rfl⟩
          go_wp2_with fail
          refine ⟨rfl, hg3.out.trans (grown_in hbn.out), ?_⟩
          have := hR'.out
          unfold attr at this
          rw [hnm'.out] at this
          simp only at this
          rw [if_pos (List.mem_map.2 ⟨x, List.mem_of_getElem? hxj'.out, hx'.out⟩)] at this
          rw [← this]
          exact pan_eq (by omega)
        · rw [decide_eq_false hx] at hcmp
          have hx' := Lib.hid hx
          clear hx
          go_wp2_with fail
          go_roundw
          case rel =>
            refine ⟨j + 1, by omega, by go_num, Lib.hid fun i y hi hy => ?_, hbn⟩
            rcases Nat.lt_or_ge i j with h | h
            · exact hno.out i y h hy
            · obtain rfl : i = j := by omega
              rw [hxj'.out] at hy
              injection hy with hy
              rw [← hy]
              exact hx'.out
          case measure => simp [intOf]; omega
      · have i0 : decide ((j : Int) < (n5 : Int)) = false := by simp; omega
        have hnot : Hid (nm ∉ there.map (·.1)) := Lib.hid (by
          intro hm
          obtain ⟨y, hy, hyn⟩ := List.mem_map.1 hm
          obtain ⟨i, hi⟩ := List.mem_iff_getElem?.1 hy
          have hil := (List.getElem?_eq_some_iff.1 hi).1
          have := hth3.out.len
          exact hno.out i y (by omega) hi hyn)
        have hs4 := Lib.hid (hs3.out.below hb.out)
        have hg4 := Lib.hid (hg3.out.trans (grown_in hb.out))
        have hr4 := Lib.hid (hr3.out.below hb.out)
        have hab4 := Lib.hid (hab3'.out.below hb.out)
        clear hno hb a2
        go_wp2_with fail
        refine (blanks_any wr b S (k + n1) A c vo hs4.out (by omega) hS).mono ?_
        rintro e w5 ⟨rfl, hs5, hg5⟩
        have hB1 := blanks_le (S.drop (k + n1))
        rw [List.length_drop] at hB1
        obtain ⟨B1, hB1e⟩ : ∃ B1, blanks (S.drop (k + n1)) = B1 := ⟨_, rfl⟩
        rw [hB1e] at hs5 hB1
        have hB1' := Lib.hid hB1e
        have hs5' := Lib.hid hs5
        have hg5' := Lib.hid (hg4.out.trans hg5)
        have hr5 := Lib.hid (hr4.out.on hg5 hbT.symm)
        have hab5 := Lib.hid (hab4.out.on hg5 hbT2.symm)
        clear hs5 hg5 hB1e
        go_wp2_with fail
        refine (eat_any w5 b S (k + n1 + B1) A c vo hs5'.out (by omega) hS [61] (by decide)).mono ?_
        rintro e w6 ⟨hg6, hG⟩
        cases hea : eat [61] (S.drop (k + n1 + B1)) with
        | bad ec eo =>
          rw [hea] at hG
          subst hG
          go_wp2_with fail
          refine ⟨rfl, hg5'.out.trans hg6, ?_⟩
          have := hR'.out
          rw [attr_eat hnm'.out hnot.out hB1'.out hea] at this
          rw [← this]
          exact pan_eq (by omega)
        | ok u m =>
          rw [hea] at hG
          obtain ⟨rfl, hs6⟩ := hG
          obtain ⟨hm1, hm2⟩ := eat_len hea
          rw [List.length_drop] at hm2
          have hs6' := Lib.hid hs6
          have hg6' := Lib.hid (hg5'.out.trans hg6)
          have hr6 := Lib.hid (hr5.out.on hg6 hbT.symm)
          have hab6 := Lib.hid (hab5.out.on hg6 hbT2.symm)
          have hea' := Lib.hid hea
          clear hs6 hg6 hea hm1
          go_wp2_with fail
          refine (blanks_any w6 b S (k + n1 + B1 + m) A c vo hs6'.out (by omega) hS).mono ?_
          rintro e w7 ⟨rfl, hs7, hg7⟩
          have hB2 := blanks_le (S.drop (k + n1 + B1 + m))
          rw [List.length_drop] at hB2
          obtain ⟨B2, hB2e⟩ : ∃ B2, blanks (S.drop (k + n1 + B1 + m)) = B2 := ⟨_, rfl⟩
          rw [hB2e] at hs7 hB2
          have hB2' := Lib.hid hB2e
          have hs7' := Lib.hid hs7
          have hg7' := Lib.hid (hg6'.out.trans hg7)
          have hr7 := Lib.hid (hr6.out.on hg7 hbT.symm)
          have hab7 := Lib.hid (hab6.out.on hg7 hbT2.symm)
          clear hs7 hg7 hB2e
          go_wp2_with fail
          refine (value_any w7 b S (k + n1 + B1 + m + B2) A c vo hs7'.out (by omega) hS).mono ?_
          rintro e w8 ⟨hg8, hG⟩
          cases hva : value (S.drop (k + n1 + B1 + m + B2)) with
          | bad ec eo =>
            rw [hva] at hG
            subst hG
            go_wp2_with fail
            refine ⟨rfl, hg7'.out.trans hg8, ?_⟩
            have := hR'.out
            rw [attr_value hnm'.out hnot.out hB1'.out hea'.out hB2'.out hva] at this
            rw [← this]
            exact pan_eq (by omega)
          | ok v n =>
            rw [hva] at hG
            obtain ⟨rfl, hs8⟩ := hG
            have hs8' := Lib.hid hs8
            have hg8' := Lib.hid (hg7'.out.trans hg8)
            have hr8 := Lib.hid (hr7.out.on hg8 hbT.symm)
            have hab8 := Lib.hid (hab7.out.on hg8 hbT2.symm)
            have hva' := Lib.hid hva
            clear hs8 hg8 hva
            have z0 := hab8.out.c0
            have z1 := hab8.out.c1
            have y0 := hr8.out.c0
            have y1 := hr8.out.c1
            have zf := hab8.out.frozen 1
            have yf0 := hr8.out.frozen 0
            have yf1 := hr8.out.frozen 1
            go_wp2_with fail
            have hx8 : Ab (w8.setCell ⟨T2, 1, none⟩ (.string (strOf v))) T0 ⟨#[]⟩ ⟨#[]⟩ := hr8.out.on (grown_set w8 ⟨T2, 1, none⟩ _) hTT
            have hfb : Below w.heap.size w8 (((w8.setCell ⟨T2, 1, none⟩ (.string (strOf v))).setCell ⟨T0, 0, none⟩ (.string (strOf nm))).setCell ⟨T0, 1, none⟩ (.string (strOf v))) :=
              (((Below.refl _ w8).setCell (p := ⟨T2, 1, none⟩) hT2lo _).setCell (p := ⟨T0, 0, none⟩) hTlo _).setCell (p := ⟨T0, 1, none⟩) hTlo _
            have hfar := h0.out.far hg8'.out hs8'.out hfb
            refine bodyPost_ret (res_ab rfl (ab_set hx8) rfl) rfl ?_
            refine ⟨hfar.2, ?_⟩
            have := hR'.out
            rw [attr_ok hnm'.out hnot.out hB1'.out hea'.out hB2'.out hva'.out] at this
            rw [← this]
            refine ⟨rfl, ?_⟩
            rw [show k + (n1 + B1 + m + B2 + n) = k + n1 + B1 + m + B2 + n by omega]
            exact hfar.1
end
end Go.Proofs.YtokdnhdfmgfkeaaGreatDoor.Xl
end

section
namespace Go.Proofs.YtokdnhdfmgfkeaaGreatDoor.Xl
open Go.RowKit UtfW

theorem pan_eqI {c x y : Int} (h : x = y) : Ending.panicked [wr c x] = Ending.panicked [wr c y] := by rw [h]
def tkV (t : Tok) (va : Value) : Value := .agg #[.int .i64 (t.kind : Nat), .int .i64 (t.at_ : Nat), .string (strOf t.name), .string (strOf t.text), va]
def GivesT (w : World) (b : Nat) (S : Tx) (k : Nat) (A : Option Addr) (c : Nat) (vo : Value) (x : Out Tok) (e : Ending) (w' : World) : Prop :=
  w.grownBy w' (some b) ∧ match x with
  | .bad cd o => e = .panicked [wr cd ((k + o : Nat) : Int)]
  | .ok t n => ∃ va, e = .returned (tkV { t with at_ := k } va) ∧ Xc w' b S (k + n) A c vo ∧ OwS AtEl 2 w' w.heap.size 55 va t.attrs

section
variable {S nm : Tx} {k n B m o : Nat} {ec : Int}
theorem endT_name (h : name (S.drop (k + 2)) = .bad ec o) : endT (S.drop k) = .bad ec (2 + o) := by
  unfold endT
  rw [List.drop_drop, h]
theorem endT_eat (h : name (S.drop (k + 2)) = .ok nm n) (hB : blanks (S.drop (k + 2 + n)) = B) (he : eat [62] (S.drop (k + 2 + n + B)) = .bad ec o) : endT (S.drop k) = .bad ec (2 + n + B + o) := by
  unfold endT
  rw [List.drop_drop, h]
  simp only [List.drop_drop, ← Nat.add_assoc, hB, he]
theorem endT_ok (h : name (S.drop (k + 2)) = .ok nm n) (hB : blanks (S.drop (k + 2 + n)) = B) (he : eat [62] (S.drop (k + 2 + n + B)) = .ok () m) : endT (S.drop k) = .ok ⟨3, 0, nm, [], []⟩ (2 + n + B + m) := by
  unfold endT
  rw [List.drop_drop, h]
  simp only [List.drop_drop, ← Nat.add_assoc, hB, he]
end

section
variable (w : World) (b : Nat) (S : Tx) (k : Nat) (A : Option Addr) (c : Nat) (vo : Value)
set_option maxHeartbeats 2000000 in
set_option maxRecDepth 100000 in
theorem end_any (h : Xc w b S k A c vo) (hk : k + 2 ≤ S.length) (hS : S.length ≤ 65536) :
    Calls Tryz.prog 164 #[.pointer (some ⟨b, 0, none⟩)] w fun e w' => GivesT w b S k A c vo (endT (S.drop k)) e w' := by
  have hbw : b < w.heap.size := h.lt
  have hba := below_alloc w (.cells #[.int .i64 0, .int .i64 0, .string ⟨#[]⟩, .string ⟨#[]⟩, .slice none 0 0] 87)
  have hrb := tb_new w 0 0 ⟨#[]⟩ ⟨#[]⟩ (.slice none 0 0)
  obtain ⟨T0, hT0⟩ : ∃ T0, w.heap.size = T0 := ⟨_, rfl⟩
  obtain ⟨w1, hw1⟩ : ∃ w1, w.alloc (.cells #[.int .i64 0, .int .i64 0, .string ⟨#[]⟩, .string ⟨#[]⟩, .slice none 0 0] 87) = w1 := ⟨_, rfl⟩
  rw [hw1] at hba hrb
  rw [hT0] at hrb
  have hs1 := Lib.hid (h.below hba)
  have hba2 := below_alloc w1 (.cells #[.int .i64 3, .int .i64 (k : Nat), .string ⟨#[]⟩, .string ⟨#[]⟩, .slice none 0 0] 87)
  have htb := tb_new w1 3 (k : Nat) ⟨#[]⟩ ⟨#[]⟩ (.slice none 0 0)
  have hs2 := Lib.hid (hs1.out.below hba2)
  have hg2 := Lib.hid (grown_in (r := some b) (hba.trans (hba2.mono hba.size)))
  have hrb2 := Lib.hid (hrb.below hba2)
  have hTT : T0 ≠ w1.heap.size := by have := hrb.lt; omega
  have hTT' := Lib.hid hTT
  have h1lo := Lib.hid hba.size
  have htb' := Lib.hid htb
  have h0 := Lib.hid h
  have hbT : b ≠ T0 := by omega
  have hT0' := Lib.hid hT0
  have c1 := hs1.out.c1
  have c2 := hs2.out.c1
  have f2 := hs2.out.frozen 1
  have hset := hs2.out.set1 (k + 2)
  have hs3 := Lib.hid hset.1
  have hg3 := Lib.hid (hg2.out.trans hset.2)
  obtain ⟨R, hR⟩ : ∃ R, endT (S.drop k) = R := ⟨_, rfl⟩
  rw [hR]
  have hR' := Lib.hid hR
  clear h hba hba2 hrb htb hTT hset hR
  go_enter Tryz.func164, Tryz.ntmps164
  go_wp2_with fail
  have e2 : ((k : Int) + 2) = ((k + 2 : Nat) : Int) := by omega
  rw [e2]
  have hT2b : Hid (w1.heap.size ≠ b) := Lib.hid (by have := h1lo.out; omega)
  have htb3 := Lib.hid (htb'.out.on (grown_set _ ⟨b, 1, none⟩ (.int .i64 ((k + 2 : Nat) : Int))) hT2b.out)
  have hrb3 := Lib.hid (hrb2.out.on (grown_set _ ⟨b, 1, none⟩ (.int .i64 ((k + 2 : Nat) : Int))) hbT.symm)
  clear hs2 hg2 hrb2 htb' c1 c2 f2 e2
  generalize (w1.alloc (.cells #[.int .i64 3, .int .i64 (k : Nat), .string ⟨#[]⟩, .string ⟨#[]⟩, .slice none 0 0] 87)).setCell ⟨b, 1, none⟩ (.int .i64 ((k + 2 : Nat) : Int)) = w3 at hs3 hg3 htb3 hrb3 ⊢
  generalize w1.heap.size = T2 at htb3 hTT' hT2b h1lo ⊢
  clear hs1
  refine (name_any w3 b S (k + 2) A c vo hs3.out hk hS).mono ?_
  rintro e w4 ⟨hg4, hG⟩
  cases hnm : name (S.drop (k + 2)) with
  | bad ec o =>
    rw [hnm] at hG
    subst hG
    go_wp2_with fail
    refine ⟨rfl, hg3.out.trans hg4, ?_⟩
    have := hR'.out
    rw [endT_name hnm] at this
    rw [← this]
    exact pan_eqI (by omega)
  | ok nm n =>
    rw [hnm] at hG
    obtain ⟨rfl, hs4⟩ := hG
    have hnl := name_len hnm
    have hn1 := hnl.1
    have hn2 := hnl.2.1
    rw [List.length_drop] at hn2
    clear hnl
    have htb4 := htb3.out.on hg4 hT2b.out
    have hrb4 := hrb3.out.on hg4 hbT.symm
    have hfb : Below w.heap.size w4 (w4.setCell ⟨T2, 2, none⟩ (.string (strOf nm))) := (Below.refl _ w4).setCell (p := ⟨T2, 2, none⟩) h1lo.out _
    have hfar := h0.out.far (hg3.out.trans hg4) hs4 hfb
    have hs5 := Lib.hid hfar.1
    have hg5 := Lib.hid hfar.2
    have htb5 := Lib.hid (tb_set2 (nm' := strOf nm) htb4)
    have hrb5 := Lib.hid (hrb4.on (grown_set w4 ⟨T2, 2, none⟩ (.string (strOf nm))) hTT'.out)
    have z2 := htb4.cell 2
    have zf := htb4.frozen 2
    have hnm' := Lib.hid hnm
    clear hs4 hg4 htb4 hrb4 hfb hfar hnm hs3 hg3 htb3 hrb3
    go_wp2_with fail
    generalize w4.setCell ⟨T2, 2, none⟩ (.string (strOf nm)) = w5 at hs5 hg5 htb5 hrb5 ⊢
    clear z2 zf
    refine (blanks_any w5 b S (k + 2 + n) A c vo hs5.out (by omega) hS).mono ?_
    rintro e w6 ⟨rfl, hs6, hg6⟩
    have hB1 := blanks_le (S.drop (k + 2 + n))
    rw [List.length_drop] at hB1
    obtain ⟨B, hBe⟩ : ∃ B, blanks (S.drop (k + 2 + n)) = B := ⟨_, rfl⟩
    rw [hBe] at hs6 hB1
    have hB' := Lib.hid hBe
    have hs6' := Lib.hid hs6
    have hg6' := Lib.hid (hg5.out.trans hg6)
    have htb6 := Lib.hid (htb5.out.on hg6 hT2b.out)
    have hrb6 := Lib.hid (hrb5.out.on hg6 hbT.symm)
    clear hs6 hg6 hBe
    go_wp2_with fail
    refine (eat_any w6 b S (k + 2 + n + B) A c vo hs6'.out (by omega) hS [62] (by decide)).mono ?_
    rintro e w7 ⟨hg7, hG⟩
    cases hea : eat [62] (S.drop (k + 2 + n + B)) with
    | bad ec eo =>
      rw [hea] at hG
      subst hG
      go_wp2_with fail
      refine ⟨rfl, hg6'.out.trans hg7, ?_⟩
      have := hR'.out
      rw [endT_eat hnm'.out hB'.out hea] at this
      rw [← this]
      exact pan_eqI (by omega)
    | ok u m =>
      rw [hea] at hG
      obtain ⟨rfl, hs7⟩ := hG
      have hs7' := Lib.hid hs7
      have hg7' := Lib.hid (hg6'.out.trans hg7)
      have htb7 := Lib.hid (htb6.out.on hg7 hT2b.out)
      have hrb7 := Lib.hid (hrb6.out.on hg7 hbT.symm)
      have hea' := Lib.hid hea
      clear hs7 hg7 hea
      have z0 := htb7.out.cell 0
      have z1 := htb7.out.cell 1
      have z2 := htb7.out.cell 2
      have z3 := htb7.out.cell 3
      have z4 := htb7.out.cell 4
      have y0 := hrb7.out.cell 0
      have y1 := hrb7.out.cell 1
      have y2 := hrb7.out.cell 2
      have y3 := hrb7.out.cell 3
      have y4 := hrb7.out.cell 4
      have g0 := hrb7.out.frozen 0
      have g1 := hrb7.out.frozen 1
      have g2 := hrb7.out.frozen 2
      have g3 := hrb7.out.frozen 3
      have g4 := hrb7.out.frozen 4
      go_wp2_with fail
      have hTlo : w.heap.size ≤ T0 := by have := hT0'.out; omega
      have hset := tb_set (kd' := 3) (at' := (k : Nat)) (nm' := strOf nm) (tx' := ⟨#[]⟩) (va' := .slice none 0 0) hrb7.out
      have hfb := (((((Below.refl w.heap.size w7).setCell (p := ⟨T0, 0, none⟩) hTlo (.int .i64 3)).setCell (p := ⟨T0, 1, none⟩) hTlo (.int .i64 (k : Nat))).setCell (p := ⟨T0, 2, none⟩) hTlo (.string (strOf nm))).setCell (p := ⟨T0, 3, none⟩) hTlo (.string ⟨#[]⟩)).setCell (p := ⟨T0, 4, none⟩) hTlo (.slice none 0 0)
      have hfar := h0.out.far hg7'.out hs7'.out hfb
      refine bodyPost_ret (res_tb rfl hset rfl) rfl ?_
      refine ⟨hfar.2, ?_⟩
      have := hR'.out
      rw [endT_ok hnm'.out hB'.out hea'.out] at this
      rw [← this]
      refine ⟨.slice none 0 0, rfl, ?_, OwS.nil _ _ _⟩
      rw [show k + (2 + n + B + m) = k + 2 + n + B + m by omega]
      exact hfar.1
end
end Go.Proofs.YtokdnhdfmgfkeaaGreatDoor.Xl
end

section
namespace Go.Proofs.YtokdnhdfmgfkeaaGreatDoor.Xl
open Go.RowKit UtfW

theorem below_put' {w w' : World} {B T : Nat} (h : Below B w w') (hT : B ≤ T) (kd at_ : Int) (nm tx : ByteArray) (va : Value) : Below B w (((((w'.setCell ⟨T, 0, none⟩ (.int .i64 kd)).setCell ⟨T, 1, none⟩ (.int .i64 at_)).setCell ⟨T, 2, none⟩ (.string nm)).setCell ⟨T, 3, none⟩ (.string tx)).setCell ⟨T, 4, none⟩ va) :=
  ((((h.setCell (p := ⟨T, 0, none⟩) hT _).setCell (p := ⟨T, 1, none⟩) hT _).setCell (p := ⟨T, 2, none⟩) hT _).setCell (p := ⟨T, 3, none⟩) hT _).setCell (p := ⟨T, 4, none⟩) hT _
theorem prefix_head {x y : UInt8} {t p : Tx} (h : Lib.hasPrefix (x :: t) (y :: p) = true) : y = x := by
  have h' : List.isPrefixOf (y :: p) (x :: t) = true := h
  rw [List.isPrefixOf, Bool.and_eq_true, beq_iff_eq] at h'
  exact h'.1

section
variable (w : World) (b : Nat) (S : Tx) (k : Nat) (A : Option Addr) (c : Nat) (vo : Value)
set_option maxHeartbeats 2000000 in
set_option maxRecDepth 100000 in
theorem characters_any (h : Xc w b S k A c vo) (hk : k ≤ S.length) (hS : S.length ≤ 65536) :
    Calls Tryz.prog 161 #[.pointer (some ⟨b, 0, none⟩)] w fun e w' => GivesT w b S k A c vo (chars (S.drop k)) e w' := by
  have hbw : b < w.heap.size := h.lt
  have hba := below_alloc w (.cells #[.int .i64 0, .int .i64 0, .string ⟨#[]⟩, .string ⟨#[]⟩, .slice none 0 0] 87)
  have hrb := tb_new w 0 0 ⟨#[]⟩ ⟨#[]⟩ (.slice none 0 0)
  obtain ⟨T0, hT0⟩ : ∃ T0, w.heap.size = T0 := ⟨_, rfl⟩
  obtain ⟨w1, hw1⟩ : ∃ w1, w.alloc (.cells #[.int .i64 0, .int .i64 0, .string ⟨#[]⟩, .string ⟨#[]⟩, .slice none 0 0] 87) = w1 := ⟨_, rfl⟩
  rw [hw1] at hba hrb
  rw [hT0] at hrb
  have hs1 := Lib.hid (h.below hba)
  have hba2 := below_alloc w1 (.cells #[.int .i64 4, .int .i64 (k : Nat), .string ⟨#[]⟩, .string ⟨#[]⟩, .slice none 0 0] 87)
  have htb := tb_new w1 4 (k : Nat) ⟨#[]⟩ ⟨#[]⟩ (.slice none 0 0)
  have hs2 := Lib.hid (hs1.out.below hba2)
  have hg2 := Lib.hid (grown_in (r := some b) (hba.trans (hba2.mono hba.size)))
  have hrb2 := Lib.hid (hrb.below hba2)
  have hTT : T0 ≠ w1.heap.size := by have := hrb.lt; omega
  have hTT' := Lib.hid hTT
  have h1lo := Lib.hid hba.size
  have htb' := Lib.hid htb
  have h0 := Lib.hid h
  have hbT : b ≠ T0 := by omega
  have hT0' := Lib.hid hT0
  have c1 := hs1.out.c1
  have c2 := hs2.out.c1
  have f2 := hs2.out.frozen 1
  obtain ⟨R, hR⟩ : ∃ R, chars (S.drop k) = R := ⟨_, rfl⟩
  rw [hR]
  have hR' := Lib.hid hR
  have hT2b : Hid (w1.heap.size ≠ b) := Lib.hid (by have := h1lo.out; omega)
  clear h hba hba2 hrb htb hTT hR
  go_enter Tryz.func161, Tryz.ntmps161
  go_wp2_with fail
  clear c1 c2 f2
  generalize w1.alloc (.cells #[.int .i64 4, .int .i64 (k : Nat), .string ⟨#[]⟩, .string ⟨#[]⟩, .slice none 0 0] 87) = w2 at hs2 hg2 htb' hrb2 ⊢
  generalize w1.heap.size = T2 at htb' hTT' hT2b h1lo ⊢
  clear hs1
  have hlt2 := Lib.hid htb'.out.lt
  have hbw2 : Hid (b < w2.heap.size) := Lib.hid hs2.out.lt
  go_loopg [4, 5] (S.length + 1) (fun m v4 v5 wr => ∃ (q f n c4 : Nat) (A4 : Option Addr) (o : Tx), k ≤ q ∧ q ≤ S.length ∧ S.length - q < m ∧ v4 = .slice A4 n c4 ∧ o.length ≤ 4 * (q - k) ∧ Hid (S.length - q < f) ∧ Hid ((textF f (S.drop q) o).shift (q - k) = textF (S.length - k + 1) (S.drop k) []) ∧ Hid (Xc wr b S q A c vo) ∧ Hid (w2.grownBy wr (some b)) ∧ Hid (OwB wr w2.heap.size 5 (.slice A4 n c4) o))
  case atStart =>
    exact ⟨k, S.length - k + 1, 0, 0, none, [], by omega, hk, by omega, rfl, by simp, Lib.hid (by omega), Lib.hid (by rw [Nat.sub_self, Out.shift_zero]), hs2, Lib.hid (World.grownBy.refl _ _), Lib.hid (OwB.nil _ _ _)⟩
  case round =>
    obtain ⟨q, f, n, c4, A4, o, hkq, hql, hms, rfl, hol, hf, hr, hs, hg, ho⟩ := hrel
    have c0 := hs.out.c0
    have c1 := hs.out.c1
    obtain ⟨f', rfl⟩ : ∃ f', f = f' + 1 := ⟨f - 1, by have := hf.out; omega⟩
    by_cases hlt : q < S.length
    · have i0 : decide ((q : Int) < (S.length : Int)) = true := by simp; omega
      obtain ⟨ba, off, rfl, hx, hcell⟩ := hs.out.at_ hlt
      generalize S[q] = x at hx hcell
      have hx' := Lib.hid hx
      clear hx
      by_cases j6 : x = 60
      · have j60 : ((x.toNat : Int) != 60) = false := by rw [j6]; rfl
        have hend : Hid (textF (f' + 1) (S.drop q) o = .ok o 0) := Lib.hid (by rw [drop_at hx'.out, textF, if_pos j6])
        clear j6
        go_wp2_with fail
        go_big_quiet (fail)
        have hs4 := Lib.hid (hs.out.below (Joins.below_draws _ wr nq))
        have hg4 := Lib.hid (hg.out.trans (grown_in (Joins.below_draws _ wr nq)))
        have ho4 := Lib.hid (OwB.below ho.out (Joins.below_draws _ wr nq))
        generalize wr.drewN nq = w4 at hs4 hg4 ho4 ⊢
        clear hs hg ho c0 c1
        have hcv : (convert 41 9 (.slice A4 n c4)).run Tryz.prog w4 = .ok (.string (strOf o)) w4 := Bs.conv (OwB.bs ho4.out) Tryz.underlying41 Tryz.underlying5 Tryz.underlying9
        have htb4 := htb'.out.on hg4.out hT2b.out
        have hrb4 := hrb2.out.on hg4.out hbT.symm
        have z3 := htb4.cell 3
        have zf := htb4.frozen 3
        have hrb5 := Lib.hid (hrb4.on (grown_set w4 ⟨T2, 3, none⟩ (.string (strOf o))) hTT'.out)
        have htb5 := Lib.hid (tb_set3 (tx' := strOf o) htb4)
        have hfb : Below w.heap.size w4 (w4.setCell ⟨T2, 3, none⟩ (.string (strOf o))) := (Below.refl _ w4).setCell (p := ⟨T2, 3, none⟩) h1lo.out _
        have hfar := h0.out.far (hg2.out.trans hg4.out) hs4.out hfb
        have hs5 := Lib.hid hfar.1
        have hg5 := Lib.hid hfar.2
        clear htb4 hrb4 hfb hfar
        go_upto_region 17 with fail
        clear hcv z3 zf
        generalize w4.setCell ⟨T2, 3, none⟩ (.string (strOf o)) = w5 at hs5 hg5 htb5 hrb5 ⊢
        have z0 := htb5.out.cell 0
        have z1 := htb5.out.cell 1
        have z2 := htb5.out.cell 2
        have z3 := htb5.out.cell 3
        have z4 := htb5.out.cell 4
        have y0 := hrb5.out.cell 0
        have g0 := hrb5.out.frozen 0
        have y1 := hrb5.out.cell 1
        have g1 := hrb5.out.frozen 1
        have y2 := hrb5.out.cell 2
        have g2 := hrb5.out.frozen 2
        have y3 := hrb5.out.cell 3
        have g3 := hrb5.out.frozen 3
        have y4 := hrb5.out.cell 4
        have g4 := hrb5.out.frozen 4
        go_wp2_with fail
        have hTlo : w.heap.size ≤ T0 := by have := hT0'.out; omega
        have hset := tb_set (kd' := 4) (at' := (k : Nat)) (nm' := ⟨#[]⟩) (tx' := strOf o) (va' := .slice none 0 0) hrb5.out
        have hfb := below_put' (Below.refl w.heap.size w5) hTlo 4 (k : Nat) ⟨#[]⟩ (strOf o) (.slice none 0 0)
        have hfar := h0.out.far hg5.out hs5.out hfb
        refine bodyPost_ret (res_tb rfl hset rfl) rfl ?_
        refine ⟨hfar.2, ?_⟩
        have := hr.out
        rw [hend.out] at this
        have hR2 := hR'.out
        unfold chars at hR2
        rw [List.length_drop, ← this] at hR2
        rw [← hR2]
        refine ⟨.slice none 0 0, rfl, ?_, OwS.nil _ _ _⟩
        rw [show k + (q - k + 0) = q by omega]
        exact hfar.1

      have j60 : ((x.toNat : Int) == 60) = false := by rw [show (60 : Int) = ((60 : UInt8).toNat : Int) from rfl, byte_eq, decide_eq_false j6]
      have m60 : ((x.toNat : Int) != 60) = true := by unfold bne; rw [j60]; rfl
      have j6' := Lib.hid j6
      clear j6 j60
      go_wp2_with fail
      go_big_quiet (fail)
      have hs3 := Lib.hid (hs.out.below (Joins.below_draws _ wr nq))
      have hg3 := Lib.hid (hg.out.trans (grown_in (Joins.below_draws _ wr nq)))
      have ho3 := Lib.hid (OwB.below ho.out (Joins.below_draws _ wr nq))
      generalize wr.drewN nq = w3 at hs3 hg3 ho3 ⊢
      clear hs hg ho c0 c1 hcell m60 i0
      have c0 := hs3.out.c0
      have c1 := hs3.out.c1
      have hcell : w3.cell? ⟨ba, off + q, none⟩ = some (.int .u8 (x.toNat : Int)) := by
        obtain ⟨ba', off', he, hy, hc⟩ := hs3.out.at_ hlt
        injection he with he
        injection he with e1 e2
        rw [hx'.out] at hy
        injection hy with hy
        rw [e1, e2, hy]
        exact hc
      go_wp2_with fail
      go_big_quiet (fail)
      have hs4 := Lib.hid (hs3.out.below (Joins.below_draws _ w3 nq))
      have hg4 := Lib.hid (hg3.out.trans (grown_in (Joins.below_draws _ w3 nq)))
      have ho4 := Lib.hid (OwB.below ho3.out (Joins.below_draws _ w3 nq))
      generalize w3.drewN nq = w4 at hs4 hg4 ho4 ⊢
      clear hs3 hg3 ho3 c0 c1 hcell
      have c1 := hs4.out.c1
      have f1 := hs4.out.frozen 1
      have hon : o.length = n := (OwB.bs ho4.out).len
      by_cases j3 : x = 38
      · have j38 : ((x.toNat : Int) == 38) = true := by rw [j3]; rfl
        have hx38 : S[q]? = some 38 := by rw [← j3]; exact hx'.out
        have hx38' := Lib.hid hx38
        have j3' := Lib.hid j3
        clear hx38 j3
        go_wp2_with fail
        refine (reference_any w4 b S q _ c vo hs4.out hx38'.out hS).mono ?_
        rintro e w5 ⟨hg5, hG⟩
        cases hrf : refR (S.drop (q + 1)) with
        | bad ec eo =>
          rw [hrf] at hG
          subst hG
          go_wp2_with fail
          refine ⟨rfl, hg2.out.trans (hg4.out.trans hg5), ?_⟩
          have := hr.out
          rw [drop_at hx'.out, textF, if_neg j6'.out, if_pos j3'.out, hrf] at this
          have hR2 := hR'.out
          unfold chars at hR2
          rw [List.length_drop, ← this] at hR2
          rw [← hR2]
          exact pan_eq (by omega)
        | ok v m =>
          rw [hrf] at hG
          obtain ⟨rfl, hs5⟩ := hG
          have hvl := refR_v hrf
          have hml := refR_len hrf
          rw [List.length_drop] at hml
          have hs5' := Lib.hid hs5
          have hg45 := Lib.hid (hg4.out.trans hg5)
          have ho5 := Lib.hid (ow_kept ho4.out hg5 hbw2.out)
          have hrf' := Lib.hid hrf
          clear hs5 hg5 hrf c1 f1 hs4 hg4 ho4
          go_wp2_with (at_builtin; apply stop_here)
          refine Stop.go (append_string w5 rfl _ _ rfl w2.heap.size _ o rfl ho5.out v rfl (by omega) hg45.out.size ?_)
          intro v6 w6 ho6 hb6
          obtain ⟨A6, c6, rfl⟩ := ownsRow_form ho6
          have hs6 := hs2.out.far hg45.out hs5'.out hb6
          have hss6 := Lib.hid hs6.1
          have hgg6 := Lib.hid hs6.2
          have ho6' := Lib.hid ho6
          clear ho6 hb6 hs6 hs5' hg45 ho5
          go_wp2_with fail
          go_roundg (S.length - (q + m) + 1)
          case measure => omega
          case rel =>
            refine ⟨q + m, f', (o ++ v).length, c6, A6, o ++ v, by omega, by omega, by omega, by rw [List.length_append, hon], by rw [List.length_append]; omega, Lib.hid (by have := hf.out; omega), Lib.hid ?_, hss6, hgg6, ho6'⟩
            have := hr.out
            rw [drop_at hx'.out, textF, if_neg j6'.out, if_pos j3'.out, hrf'.out] at this
            simp only at this
            rw [Out.shift_shift, ← drop_at hx'.out, List.drop_drop] at this
            rw [show q + m - k = q - k + m by omega]
            exact this
      have j38 : ((x.toNat : Int) == 38) = false := by
        have hj : ¬ x = 38 := j3
        rw [show (38 : Int) = ((38 : UInt8).toNat : Int) from rfl, byte_eq, decide_eq_false hj]
      have j3' := Lib.hid j3
      clear j3
      by_cases j13 : x = 13
      · have k13 : ((x.toNat : Int) == 13) = true := by rw [j13]; rfl
        have hli : Hid ((textF f' (S.drop (q + line (S.drop q))) (o ++ [10])).shift (q + line (S.drop q) - k) = textF (S.length - k + 1) (S.drop k) []) := Lib.hid (by
          have := hr.out
          rw [drop_at hx'.out, textF, if_neg j6'.out, if_neg j3'.out, if_pos j13, Out.shift_shift, ← drop_at hx'.out, List.drop_drop] at this
          rw [show q + line (S.drop q) - k = q - k + line (S.drop q) by omega]
          exact this)
        have hline : 1 ≤ line (S.drop q) ∧ q + line (S.drop q) ≤ S.length := by
          have := line_len (c := x) (S.drop (q + 1))
          rw [← drop_at hx'.out, List.length_drop] at this
          omega
        obtain ⟨LL, hLL⟩ : ∃ LL, line (S.drop q) = LL := ⟨_, rfl⟩
        rw [hLL] at hli hline
        have hLL' := Lib.hid hLL
        clear hLL j13
        go_wp2_with fail
        refine (line_any w4 b S q _ c vo hs4.out hlt hS).mono ?_
        rintro e w5 ⟨rfl, hs5, hg5⟩
        rw [hLL'.out] at hs5
        have hs5' := Lib.hid hs5
        have hg45 := Lib.hid (hg4.out.trans hg5)
        have ho5 := Lib.hid (ow_kept ho4.out hg5 hbw2.out)
        clear hs5 hg5 c1 f1 hs4 hg4 ho4
        go_wp2_with (at_builtin; apply stop_here)
        refine Stop.go (append_bytes _ 41 5 Tryz.underlying41 info_u8 rfl _ _ rfl w2.heap.size _ o rfl (OwB.below ho5.out (below_alloc _ _)) _ _ _ [10] rfl (bs_lit _ _ _ _ _ _ rfl (by decide) rfl) (n + 1) (by rw [hon]) (by omega) (Nat.le_trans hg45.out.size (below_alloc _ _).size) ?_)
        intro A6 c6 w6 ho6 _ hb6'
        have hb6 : Below w2.heap.size w5 w6 := ((below_alloc w5 _).mono hg45.out.size).trans hb6'
        have hs6 := hs2.out.far hg45.out hs5'.out hb6
        have hss6 := Lib.hid hs6.1
        have hgg6 := Lib.hid hs6.2
        have ho6' := Lib.hid ho6
        clear ho6 hb6 hb6' hs6
        go_wp2_with fail
        go_roundg (S.length - (q + LL) + 1)
        case measure => omega
        case rel => exact ⟨q + LL, f', n + 1, c6, A6, o ++ [10], by omega, by omega, by omega, rfl, by rw [List.length_append]; simp; omega, Lib.hid (by have := hf.out; omega), hli, hss6, hgg6, ho6'⟩
      have k13 : ((x.toNat : Int) == 13) = false := by rw [show (13 : Int) = ((13 : UInt8).toNat : Int) from rfl, byte_eq, decide_eq_false j13]
      by_cases hpx : Lib.hasPrefix (S.drop q) [93, 93, 62] = true
      · have hx93 : x = 93 := by
          rw [drop_at hx'.out] at hpx
          exact (prefix_head hpx).symm
        have k93 : ((x.toNat : Int) == 93) = true := by rw [hx93]; rfl
        have hpx' := Lib.hid hpx
        have hbad : Hid (k + (q - k) = q ∧ Out.bad 2 (q - k) = textF (S.length - k + 1) (S.drop k) []) := Lib.hid ⟨by omega, by
          have := hr.out
          rw [drop_at hx'.out, textF, if_neg j6'.out, if_neg j3'.out, if_neg j13, if_pos (by rw [← drop_at hx'.out]; exact hpx)] at this
          exact this⟩
        clear hpx hx93 j13
        go_wp2_with fail
        refine (has_any w4 b S q _ c vo hs4.out (Nat.le_of_lt hlt) hS [93, 93, 62] (by decide)).mono ?_
        rintro e w5 ⟨rfl, hb5⟩
        rw [hpx'.out]
        have hs5 := Lib.hid (hs4.out.below hb5)
        have hg5 := Lib.hid (hg4.out.trans (grown_in hb5))
        clear hb5 c1 f1
        have c1 := hs5.out.c1
        go_wp2_with fail
        refine (fail_any _ 2 (q : Nat)).mono ?_
        rintro e w6 ⟨rfl, rfl⟩
        go_wp2_with fail
        refine ⟨rfl, hg2.out.trans hg5.out, ?_⟩
        have hR2 := hR'.out
        unfold chars at hR2
        rw [List.length_drop, ← hbad.out.2] at hR2
        rw [← hR2]
        exact pan_eq (by omega)
      have hrr : Hid ((textF f' (S.drop (q + 1)) (o ++ [x])).shift (q + 1 - k) = textF (S.length - k + 1) (S.drop k) []) := Lib.hid (by
        have := hr.out
        rw [drop_at hx'.out, textF, if_neg j6'.out, if_neg j3'.out, if_neg j13, if_neg (by rw [← drop_at hx'.out]; exact hpx), Out.shift_shift] at this
        rw [show q + 1 - k = q - k + 1 by omega]
        exact this)
      have hpx' := Lib.hid (Bool.eq_false_iff.2 hpx)
      clear j13 hpx
      by_cases j93 : x = 93
      · have k93 : ((x.toNat : Int) == 93) = true := by rw [j93]; rfl
        clear j93
        go_wp2_with fail
        refine (has_any w4 b S q _ c vo hs4.out (Nat.le_of_lt hlt) hS [93, 93, 62] (by decide)).mono ?_
        rintro e w5 ⟨rfl, hb5⟩
        rw [hpx'.out]
        have hs5' := Lib.hid (hs4.out.below hb5)
        have hg45 := Lib.hid (hg4.out.trans (grown_in hb5))
        have ho5 := Lib.hid (OwB.below ho4.out hb5)
        clear hb5 c1 f1 hs4 hg4 ho4
        go_wp2_with (at_builtin; apply stop_here)
        refine Stop.go (append_bytes _ 41 5 Tryz.underlying41 info_u8 rfl _ _ rfl w2.heap.size _ o rfl (OwB.below ho5.out (below_alloc _ _)) _ _ _ [x] rfl (bs_lit _ _ _ _ _ _ rfl (by decide) rfl) (n + 1) (by rw [hon]) (by omega) (Nat.le_trans hg45.out.size (below_alloc _ _).size) ?_)
        intro A6 c6 w6 ho6 _ hb6'
        have hb6 : Below w2.heap.size w5 w6 := ((below_alloc w5 _).mono hg45.out.size).trans hb6'
        have hs6 := hs2.out.far hg45.out hs5'.out hb6
        have hss6 := Lib.hid hs6.1
        have hgg6 := Lib.hid hs6.2
        have ho6' := Lib.hid ho6
        clear ho6 hb6 hb6' hs6
        have d1 := hss6.out.c1
        have e1 := hss6.out.frozen 1
        go_wp2_with fail
        have h7 := hss6.out.set1 (q + 1)
        have hg7 := hgg6.out.trans h7.2
        have ho7 := ow_kept ho6'.out (grown_set w6 ⟨b, 1, none⟩ (.int .i64 ((q + 1 : Nat) : Int))) hbw2.out
        go_roundg (S.length - (q + 1) + 1)
        case measure => omega
        case rel => exact ⟨q + 1, f', n + 1, c6, A6, o ++ [x], by omega, by omega, by omega, rfl, by rw [List.length_append]; simp; omega, Lib.hid (by have := hf.out; omega), hrr, Lib.hid h7.1, Lib.hid hg7, Lib.hid ho7⟩
      have k93 : ((x.toNat : Int) == 93) = false := by rw [show (93 : Int) = ((93 : UInt8).toNat : Int) from rfl, byte_eq, decide_eq_false j93]
      clear j93
      go_wp2_with (at_builtin; apply stop_here)
      refine Stop.go (append_bytes _ 41 5 Tryz.underlying41 info_u8 rfl _ _ rfl w2.heap.size _ o rfl (OwB.below ho4.out (below_alloc _ _)) _ _ _ [x] rfl (bs_lit _ _ _ _ _ _ rfl (by decide) rfl) (n + 1) (by rw [hon]) (by omega) (Nat.le_trans hg4.out.size (below_alloc _ _).size) ?_)
      intro A6 c6 w6 ho6 _ hb6'
      have hb6 : Below w2.heap.size w4 w6 := ((below_alloc w4 _).mono hg4.out.size).trans hb6'
      have hs6 := hs2.out.far hg4.out hs4.out hb6
      have hss6 := Lib.hid hs6.1
      have hgg6 := Lib.hid hs6.2
      have ho6' := Lib.hid ho6
      clear ho6 hb6 hb6' hs6
      have d1 := hss6.out.c1
      have e1 := hss6.out.frozen 1
      go_wp2_with fail
      have h7 := hss6.out.set1 (q + 1)
      have hg7 := hgg6.out.trans h7.2
      have ho7 := ow_kept ho6'.out (grown_set w6 ⟨b, 1, none⟩ (.int .i64 ((q + 1 : Nat) : Int))) hbw2.out
      go_roundg (S.length - (q + 1) + 1)
      case measure => omega
      case rel => exact ⟨q + 1, f', n + 1, c6, A6, o ++ [x], by omega, by omega, by omega, rfl, by rw [List.length_append]; simp; omega, Lib.hid (by have := hf.out; omega), hrr, Lib.hid h7.1, Lib.hid hg7, Lib.hid ho7⟩
    · have i0 : decide ((q : Int) < (S.length : Int)) = false := by simp; omega
      have hend : Hid (textF (f' + 1) (S.drop q) o = .ok o 0) := Lib.hid (by rw [drop_end (by omega)]; rfl)
      go_wp2_with fail
      go_big_quiet (fail)
      have hs4 := Lib.hid (hs.out.below (Joins.below_draws _ wr nq))
      have hg4 := Lib.hid (hg.out.trans (grown_in (Joins.below_draws _ wr nq)))
      have ho4 := Lib.hid (OwB.below ho.out (Joins.below_draws _ wr nq))
      generalize wr.drewN nq = w4 at hs4 hg4 ho4 ⊢
      clear hs hg ho c0 c1
      have hcv : (convert 41 9 (.slice A4 n c4)).run Tryz.prog w4 = .ok (.string (strOf o)) w4 := Bs.conv (OwB.bs ho4.out) Tryz.underlying41 Tryz.underlying5 Tryz.underlying9
      have htb4 := htb'.out.on hg4.out hT2b.out
      have hrb4 := hrb2.out.on hg4.out hbT.symm
      have z3 := htb4.cell 3
      have zf := htb4.frozen 3
      have hrb5 := Lib.hid (hrb4.on (grown_set w4 ⟨T2, 3, none⟩ (.string (strOf o))) hTT'.out)
      have htb5 := Lib.hid (tb_set3 (tx' := strOf o) htb4)
      have hfb : Below w.heap.size w4 (w4.setCell ⟨T2, 3, none⟩ (.string (strOf o))) := (Below.refl _ w4).setCell (p := ⟨T2, 3, none⟩) h1lo.out _
      have hfar := h0.out.far (hg2.out.trans hg4.out) hs4.out hfb
      have hs5 := Lib.hid hfar.1
      have hg5 := Lib.hid hfar.2
      clear htb4 hrb4 hfb hfar
      go_upto_region 17 with fail
      clear hcv z3 zf
      generalize w4.setCell ⟨T2, 3, none⟩ (.string (strOf o)) = w5 at hs5 hg5 htb5 hrb5 ⊢
      have z0 := htb5.out.cell 0
      have z1 := htb5.out.cell 1
      have z2 := htb5.out.cell 2
      have z3 := htb5.out.cell 3
      have z4 := htb5.out.cell 4
      have y0 := hrb5.out.cell 0
      have g0 := hrb5.out.frozen 0
      have y1 := hrb5.out.cell 1
      have g1 := hrb5.out.frozen 1
      have y2 := hrb5.out.cell 2
      have g2 := hrb5.out.frozen 2
      have y3 := hrb5.out.cell 3
      have g3 := hrb5.out.frozen 3
      have y4 := hrb5.out.cell 4
      have g4 := hrb5.out.frozen 4
      go_wp2_with fail
      have hTlo : w.heap.size ≤ T0 := by have := hT0'.out; omega
      have hset := tb_set (kd' := 4) (at' := (k : Nat)) (nm' := ⟨#[]⟩) (tx' := strOf o) (va' := .slice none 0 0) hrb5.out
      have hfb := below_put' (Below.refl w.heap.size w5) hTlo 4 (k : Nat) ⟨#[]⟩ (strOf o) (.slice none 0 0)
      have hfar := h0.out.far hg5.out hs5.out hfb
      refine bodyPost_ret (res_tb rfl hset rfl) rfl ?_
      refine ⟨hfar.2, ?_⟩
      have := hr.out
      rw [hend.out] at this
      have hR2 := hR'.out
      unfold chars at hR2
      rw [List.length_drop, ← this] at hR2
      rw [← hR2]
      refine ⟨.slice none 0 0, rfl, ?_, OwS.nil _ _ _⟩
      rw [show k + (q - k + 0) = q by omega]
      exact hfar.1
end
end Go.Proofs.YtokdnhdfmgfkeaaGreatDoor.Xl
end

section
namespace Go.Proofs.YtokdnhdfmgfkeaaGreatDoor.Xl
open Go.RowKit UtfW

section
variable (w : World) (b : Nat) (S : Tx) (k : Nat) (A : Option Addr) (c : Nat) (vo : Value)
set_option maxRecDepth 100000 in
theorem upto_any (h : Xc w b S k A c vo) (hk : k ≤ S.length) (hS : S.length ≤ 65536) (p : Tx) (hp0 : 0 < p.length) (hp : p.length ≤ 65536) :
    Calls Tryz.prog 159 #[.pointer (some ⟨b, 0, none⟩), .string (strOf p)] w fun e w' => Gives w b S k A c vo (fun v => .string (strOf v)) (upto p (S.drop k)) e w' := by
  have hsz : (strOf p).size = p.length := strOf_size' p
  have hlc := Rd.le h.bs
  have hcm := Rd.max h.bs
  have h' := Lib.hid h
  clear h
  have hq : Hid (∀ x, Below w.heap.size w x → x.cell? ⟨b, 0, none⟩ = some (.slice A S.length c) ∧ x.cell? ⟨b, 1, none⟩ = some (.int .i64 (k : Nat))) := Lib.hid fun x hx => ⟨(h'.out.below hx).c0, (h'.out.below hx).c1⟩
  have hdr : Hid (Below w.heap.size w w.drew) := Lib.hid (Joins.below_draws w.heap.size w 1)
  obtain ⟨bd, cb, w1, hcv, hbs, hb1⟩ := conv_bytes w.drew p (by omega)
  have hb1' := Lib.hid (hdr.out.trans (hb1.mono hdr.out.size))
  have hc : Hid (Calls Tryz.prog 177 #[.slice (offA A c k) (S.length - k) (c - k), .slice (some ⟨bd, 0, none⟩) p.length cb] w1 fun e w' => e = .returned (.int .i64 (idxV (find p (S.drop k)))) ∧ ∃ q, w' = w1.drewN q) := Lib.hid (by
    have hx := h'.out.below hb1'.out
    have hf := Bs.from hx.bs hk (Nat.le_refl _)
    rw [List.take_of_length_le (by rw [List.length_drop]; omega)] at hf
    exact indexB_any w1 hx.us.ut hf hbs (by omega) hp0 (by omega))
  clear hbs hb1
  unfold offA at hc
  obtain ⟨A1, hA1⟩ : ∃ A1, (if c = k then A else Option.map (fun x => x.add k) A) = A1 := ⟨_, rfl⟩
  rw [hA1] at hc
  cases hf : find p (S.drop k) with
  | none =>
    have hf' := Lib.hid hf
    rw [hf] at hc
    unfold idxV at hc
    clear hf
    go_enter Tryz.func159, Tryz.ntmps159
    go_wp2_with fail
    refine Pl.wp_region_plan 11 (.take 0 (.take 1 (.take 2 (.take 3 (.take 4 (.take 5 (.take 6 (.take 7 (.take 8 (.take 9 (.run 10 .done))))))))))) (fun x => x.cell? ⟨b, 0, none⟩ = some (.slice A S.length c) ∧ x.cell? ⟨b, 1, none⟩ = some (.int .i64 (k : Nat))) (by kernel_rfl) (by kernel_rfl) (by exact hq.out _ hdr.out) ?_
    simp only [Pl.fill, List.getElem?_cons_zero, List.getElem?_cons_succ, List.drop_succ_cons, List.drop_zero]
    iterate 10
      refine Pl.take_go ?_ (by rfl) (fun _ _ _ h => h) ?_ ?_
      rotate_left
      · (intro x hSw; (try dsimp only at hSw); (try obtain ⟨s0, s1⟩ := hSw); go_simp; try with_reducible rfl)
      try simp only [Act.put, List.setIfInBounds_toArray, List.set_cons_zero, List.set_cons_succ]
    refine Pl.run_go (fun K hK => ?_)
    go_simp
    refine hK.out _ _ (Pl.more_go _ (fun _ h => h) (by exact hq.out _ hb1'.out) ?_)
    clear hK K
    refine Pl.done_go ?_
    go_wp2_with fail
    refine hc.out.mono ?_
    rintro e w2' ⟨rfl, q, rfl⟩
    have hb2 := Lib.hid (hb1'.out.trans ((Joins.below_draws _ w1 q).mono hb1'.out.size))
    have hs2 := Lib.hid (h'.out.below hb2.out)
    generalize w1.drewN q = w2 at hb2 hs2 ⊢
    clear hcv hc hq hdr
    have c0 := hs2.out.c0
    have c1 := hs2.out.c1
    have f1 := hs2.out.frozen 1
    go_wp2_with fail
    refine (fail_any _ 6 S.length).mono ?_
    rintro e w3 ⟨rfl, rfl⟩
    go_wp2_with fail
    refine ⟨rfl, grown_in hb2.out, ?_⟩
    unfold upto
    rw [hf'.out]
    simp only
    rw [List.length_drop, Nat.add_sub_cancel' hk]
  | some n =>
    obtain ⟨hn1, hn2⟩ := find_len hf
    rw [List.length_drop] at hn1
    have hf' := Lib.hid hf
    have hn2' := Lib.hid hn2
    rw [hf] at hc
    unfold idxV at hc
    clear hf hn2
    have i0 : decide ((n : Int) < 0) = false := by simp
    go_enter Tryz.func159, Tryz.ntmps159
    go_wp2_with fail
    refine Pl.wp_region_plan 11 (.take 0 (.take 1 (.take 2 (.take 3 (.take 4 (.take 5 (.take 6 (.take 7 (.take 8 (.take 9 (.run 10 .done))))))))))) (fun x => x.cell? ⟨b, 0, none⟩ = some (.slice A S.length c) ∧ x.cell? ⟨b, 1, none⟩ = some (.int .i64 (k : Nat))) (by kernel_rfl) (by kernel_rfl) (by exact hq.out _ hdr.out) ?_
    simp only [Pl.fill, List.getElem?_cons_zero, List.getElem?_cons_succ, List.drop_succ_cons, List.drop_zero]
    iterate 10
      refine Pl.take_go ?_ (by rfl) (fun _ _ _ h => h) ?_ ?_
      rotate_left
      · (intro x hSw; (try dsimp only at hSw); (try obtain ⟨s0, s1⟩ := hSw); go_simp; try with_reducible rfl)
      try simp only [Act.put, List.setIfInBounds_toArray, List.set_cons_zero, List.set_cons_succ]
    refine Pl.run_go (fun K hK => ?_)
    go_simp
    refine hK.out _ _ (Pl.more_go _ (fun _ h => h) (by exact hq.out _ hb1'.out) ?_)
    clear hK K
    refine Pl.done_go ?_
    go_wp2_with fail
    refine hc.out.mono ?_
    rintro e w2' ⟨rfl, q, rfl⟩
    have hb2 := Lib.hid (hb1'.out.trans ((Joins.below_draws _ w1 q).mono hb1'.out.size))
    have hs2 := Lib.hid (h'.out.below hb2.out)
    generalize w1.drewN q = w2 at hb2 hs2 ⊢
    clear hcv hc hq hdr
    have c0 := hs2.out.c0
    have c1 := hs2.out.c1
    have f1 := hs2.out.frozen 1
    go_wp2_with fail
    obtain ⟨m, hm⟩ : ∃ m, k + n = m := ⟨_, rfl⟩
    have hmk := Lib.hid (show m - k = n by omega)
    have hcut : Bs w2 (offA A c k) (m - k) (c - k) ((S.drop k).take (m - k)) := Bs.from hs2.out.bs (by omega) (by omega)
    unfold offA at hcut
    rw [hA1] at hcut
    have hmI : (k : Int) + (n : Int) = (m : Int) := by omega
    have q1 : (0 : Int) ≤ (k : Int) ∧ (k : Int) ≤ (m : Int) := ⟨by omega, by omega⟩
    have hq2 : Hid (∀ x, Below w2.heap.size w2 x → x.cell? ⟨b, 0, none⟩ = some (.slice A S.length c) ∧ x.cell? ⟨b, 1, none⟩ = some (.int .i64 (k : Nat))) := Lib.hid fun x hx => ⟨(hs2.out.below hx).c0, (hs2.out.below hx).c1⟩
    have hdr2 : Hid (Below w2.heap.size w2 w2.drew) := Lib.hid (Joins.below_draws w2.heap.size w2 1)
    refine Pl.wp_region_plan 14 (.take 0 (.take 1 (.take 2 (.take 3 (.take 4 (.take 5 (.take 6 (.take 7 (.take 8 (.take 9 (.take 10 (.take 11 (.take 12 (.take 13 .done)))))))))))))) (fun x => x.cell? ⟨b, 0, none⟩ = some (.slice A S.length c) ∧ x.cell? ⟨b, 1, none⟩ = some (.int .i64 (k : Nat))) (by kernel_rfl) (by kernel_rfl) (by exact hq2.out _ hdr2.out) ?_
    simp only [Pl.fill, List.getElem?_cons_zero, List.getElem?_cons_succ, List.drop_succ_cons, List.drop_zero]
    iterate 14
      refine Pl.take_go ?_ (by rfl) (fun _ _ _ h => h) ?_ ?_
      rotate_left
      · (intro x hSw; (try dsimp only at hSw); (try obtain ⟨s0, s1⟩ := hSw); go_simp; try with_reducible rfl)
      try simp only [Act.put, List.setIfInBounds_toArray, List.set_cons_zero, List.set_cons_succ]
    refine Pl.done_go ?_
    have hcv2 : (convert 41 9 (.slice A1 (m - k) (c - k))).run Tryz.prog w2.drew = .ok (.string (strOf ((S.drop k).take (m - k)))) w2.drew := Bs.conv (Bs.below hcut hdr2.out) Tryz.underlying41 Tryz.underlying5 Tryz.underlying9
    have hs3 := Lib.hid (hs2.out.below hdr2.out)
    have hb3 := Lib.hid (hb2.out.trans (hdr2.out.mono hb2.out.size))
    have d1 := hs3.out.c1
    have e1 := hs3.out.frozen 1
    clear hdr2 hq2 c0 c1 f1
    generalize w2.drew = w3 at hcv2 hs3 hb3 d1 e1 ⊢
    go_wp2_with fail
    go_ret
    have h4 := hs3.out.set1 (k + (n + p.length))
    have ee : ((k : Int) + ((n : Int) + (p.length : Int))) = ((k + (n + p.length) : Nat) : Int) := by omega
    rw [ee]
    refine ⟨(grown_in hb3.out).trans h4.2, ?_⟩
    unfold upto
    rw [hf'.out, hmk.out]
    exact ⟨rfl, h4.1⟩
end
end Go.Proofs.YtokdnhdfmgfkeaaGreatDoor.Xl
end
