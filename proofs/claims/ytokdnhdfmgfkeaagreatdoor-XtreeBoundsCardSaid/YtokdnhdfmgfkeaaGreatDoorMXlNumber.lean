/- number and named of xlex. -/
import Derived.Test.YtokdnhdfmgfkeaaGreatDoorMXlStep
import Derived.Test.YtokdnhdfmgfkeaaGreatDoorMPlan2
import Derived.Lib.ConvBytes
import Derived.Test.YtokdnhdfmgfkeaaGreatDoorMQxVal
import Derived.Lib.OthersKept
section
namespace Go.Proofs.YtokdnhdfmgfkeaaGreatDoor.Xl
open Go.RowKit UtfW

theorem str_at {S : Tx} {k : Nat} {x : UInt8} (h : S[k]? = some x) (hk : k < (strOf S).size) : (strOf S)[k]'hk = x := by
  have hk' : k < S.length := (List.getElem?_eq_some_iff.1 h).1
  rw [List.getElem?_eq_getElem hk'] at h
  exact Option.some.inj h
theorem wrap32_byte (x : UInt8) : wrap32 (x.toNat : Int) = (x.toNat : Int) := by
  have := x.toNat_lt
  unfold wrap32
  omega
/-- '[]byte(s)'. -/
theorem bs_convert (w : World) (s : ByteArray) (hs : s.size ≤ 281474976710656) :
    Bs (Lib.bytesWorld w 5 s) (some ⟨w.heap.size, 0, none⟩) s.size (grownCap w s.size 0 5) s.data.toList ∧ Below w.heap.size w (Lib.bytesWorld w 5 s) := by
  have hl : s.data.toList.length = s.size := by rw [Array.length_toList]; rfl
  refine ⟨{ len := by rw [bv_length, hl], le := grownCap_ge _ _ _ _, max := ?_, nil := (fun h => by cases h), cell := fun h0 => ⟨w.heap.size, 0, rfl, by rw [Lib.bytesWorld_size]; omega, ?_⟩ }, ?_⟩
  · have := grownCap_le_maxLen w s.size 0 5 (by unfold maxLen; omega)
    unfold maxLen at this
    omega
  · intro j u hu
    obtain ⟨x, hx, rfl⟩ := bv_get hu
    have hj : j < s.size := by rw [← hl]; exact (List.getElem?_eq_some_iff.1 hx).1
    rw [Nat.zero_add, Lib.bytesWorld_cell w 5 s j hj, List.getD_eq_getElem?_getD, hx]
    rfl
  · exact ⟨rfl, rfl, rfl, by rw [Lib.bytesWorld_size]; omega, fun k hk => Lib.bytesWorld_at_old w 5 s k hk⟩
/-- '[]byte(text)' of a list. -/
theorem conv_bytes (w : World) (l : Tx) (hl : l.length ≤ 281474976710656) : ∃ bd cb w', (convert 9 41 (.string (strOf l))).run Tryz.prog w = .ok (.slice (some ⟨bd, 0, none⟩) l.length cb) w' ∧ Bs w' (some ⟨bd, 0, none⟩) l.length cb l ∧ Below w.heap.size w w' := by
  have hsz : (strOf l).size = l.length := strOf_size' l
  obtain ⟨h1, h2⟩ := bs_convert w (strOf l) (by omega)
  have h3 := Lib.run_convert_string_bytes w 9 41 5 (strOf l) Tryz.underlying9 Tryz.underlying41 Tryz.underlying5
  rw [hsz] at h1 h3
  have hlst : (strOf l).data.toList = l := by simp [strOf]
  rw [hlst] at h1
  exact ⟨_, _, _, h3, h1, h2⟩

/-- Where a piece of a slice begins. -/
def offA (A : Option Addr) (c k : Nat) : Option Addr := if c = k then A else A.map (fun a => a.add k)
theorem Bs.from {w : World} {A : Option Addr} {n c : Nat} {l : Tx} (h : Bs w A n c l) {k m : Nat} (hk : k ≤ m) (hm : m ≤ n) : Bs w (offA A c k) (m - k) (c - k) ((l.drop k).take (m - k)) :=
  h.cut k m hk hm _ (fun b off e hlt => by
    unfold offA
    rw [if_neg (by omega), e]
    show some (Addr.add ⟨b, off, none⟩ k) = _
    unfold Addr.add
    split
    · rename_i h0; rw [h0]; rfl
    · rfl) (fun e => by
    unfold offA
    split
    · exact e
    · rw [e]; rfl) (fun hne => by
    unfold offA
    split
    · exact hne
    · intro e
      cases A with
      | none => exact hne rfl
      | some a => cases e)

section
variable (w : World) (b : Nat) (S : Tx) (k : Nat) (A : Option Addr) (c : Nat) (vo : Value)
set_option maxRecDepth 100000 in
theorem has_any (h : Xc w b S k A c vo) (hk : k ≤ S.length) (hS : S.length ≤ 65536) (p : Tx) (hp : p.length ≤ 65536) :
    Calls Tryz.prog 156 #[.pointer (some ⟨b, 0, none⟩), .string (strOf p)] w fun e w' => e = .returned (.bool (Lib.hasPrefix (S.drop k) p)) ∧ Below w.heap.size w w' := by
  have hlc := Rd.le h.bs
  have hcm := Rd.max h.bs
  have hq : Hid (∀ x, Below w.heap.size w x → x.cell? ⟨b, 0, none⟩ = some (.slice A S.length c) ∧ x.cell? ⟨b, 1, none⟩ = some (.int .i64 (k : Nat))) := Lib.hid fun x hx => ⟨(h.below hx).c0, (h.below hx).c1⟩
  have hdr : Hid (Below w.heap.size w w.drew) := Lib.hid (Joins.below_draws w.heap.size w 1)
  have h' := Lib.hid h
  clear h
  obtain ⟨bd, cb, w1, hcv, hbs, hb1⟩ := conv_bytes w.drew p (by omega)
  have hb1' := Lib.hid (hdr.out.trans (hb1.mono hdr.out.size))
  have hc : Hid (Calls Tryz.prog 174 #[.slice (offA A c k) (S.length - k) (c - k), .slice (some ⟨bd, 0, none⟩) p.length cb] w1 fun e w' => e = .returned (.bool (Lib.hasPrefix (S.drop k) p)) ∧ w' = w1) := Lib.hid (by
    have hf := Bs.from (h'.out.below hb1'.out).bs hk (Nat.le_refl _)
    rw [List.take_of_length_le (by rw [List.length_drop]; omega)] at hf
    exact hasB_any w1 hf hbs)
  obtain ⟨R, hR⟩ : ∃ R, Lib.hasPrefix (S.drop k) p = R := ⟨_, rfl⟩
  rw [hR] at hc ⊢
  clear hbs hb1 hR
  unfold offA at hc
  obtain ⟨A1, hA1⟩ : ∃ A1, (if c = k then A else Option.map (fun x => x.add k) A) = A1 := ⟨_, rfl⟩
  rw [hA1] at hc
  go_enter Tryz.func156, Tryz.ntmps156
  go_wp2_with fail
  refine Pl.wp_region_plan 11 (.take 0 (.take 1 (.take 2 (.take 3 (.take 4 (.take 5 (.take 6 (.take 7 (.take 8 (.take 9 (.run 10 .done))))))))))) (fun x => x.cell? ⟨b, 0, none⟩ = some (.slice A S.length c) ∧ x.cell? ⟨b, 1, none⟩ = some (.int .i64 (k : Nat))) (by kernel_rfl) (by kernel_rfl) (by exact hq.out _ hdr.out) ?_
  simp only [Pl.fill, List.getElem?_cons_zero, List.getElem?_cons_succ, List.drop_succ_cons, List.drop_zero]
  iterate 10
    refine Pl.take_go ?_ (by rfl) (fun _ _ _ h => h) ?_ ?_
    rotate_left
    · (intro x hSw; (try dsimp only at hSw); (try obtain ⟨s0, s1⟩ := hSw); go_simp; try with_reducible rfl)
    try simp only [Act.put, List.setIfInBounds_toArray, List.set_cons_zero, List.set_cons_succ]
  refine Pl.run_go (fun K hK => ?_)
  go_simp
  refine hK.out _ _ (Pl.more_go _ (fun _ h => h) (by exact hq.out _ hb1'.out) ?_)
  clear hK K
  refine Pl.done_go ?_
  go_wp2_with fail
  refine hc.out.mono ?_
  rintro e w2 ⟨rfl, rfl⟩
  go_wp2_with fail
  go_ret
  exact ⟨rfl, hb1'.out⟩
end
end Go.Proofs.YtokdnhdfmgfkeaaGreatDoor.Xl
end

section
namespace Go.Proofs.YtokdnhdfmgfkeaaGreatDoor.Xl
open Go.RowKit Go.Shelf UtfW

theorem decN_high {n b0 b1 b2 b3 : Nat} (h : 128 ≤ b0) : 128 ≤ (Lib.decodeN n b0 b1 b2 b3).1 := by
  unfold Lib.decodeN
  rw [if_neg (by omega)]
  repeat' split
  all_goals simp only
  all_goals omega
theorem bt_at {l : Tx} {k : Nat} {x : UInt8} (h : l[k]? = some x) : bt l k = x.toNat := by
  unfold bt
  simp [List.getD, h]
theorem dec_low {l : Tx} {k : Nat} {x : UInt8} (hx : l[k]? = some x) (h : x.toNat < 128) : dec l k = (x.toNat, 1) := by
  unfold dec
  rw [bt_at hx, Lib.decodeN_ascii _ _ _ _ _ h]
theorem dec_high {l : Tx} {k : Nat} {x : UInt8} (hx : l[k]? = some x) (h : 128 ≤ x.toNat) : 128 ≤ (dec l k).1 := by
  unfold dec
  rw [bt_at hx]
  exact decN_high h
theorem byteS_gen (s : Tx) (cv : Int) (w : World) :
    Calls Tryz.prog 75 #[.string (strOf s), .int .u8 cv] w fun e w' => e = .returned (.int .i64 (Lib.indexByte s cv.toNat.toUInt8)) ∧ w' = w := by
  refine Calls.mono (Any.strings_IndexByte Tryz.lays137 (strOf s) cv w) ?_
  rintro e w' ⟨rfl, rfl⟩
  exact ⟨rfl, rfl⟩
def hexT : Tx := [48, 49, 50, 51, 52, 53, 54, 55, 56, 57, 97, 98, 99, 100, 101, 102]

def numV (base : Nat) (s : Tx) : Int := match numR base s with | some v => (v : Nat) | none => -1
theorem numF_step {base : Nat} {s : Tx} {pos v : Nat} {x : UInt8} (h : s[pos]? = some x) : numF base (s.drop pos) v = if digV x < base then numF base (s.drop (pos + 1)) (min (v * base + digV x) 1114112) else none := by
  rw [drop_at h, numF]
theorem numF_end {base : Nat} {s : Tx} {pos v : Nat} (h : s.length ≤ pos) : numF base (s.drop pos) v = some v := by
  rw [drop_end h, numF]
def tabD (r : Nat) : Int := if 97 ≤ r then ((r - 87 : Nat) : Int) else if r ≤ 70 ∧ 65 ≤ r then ((r - 55 : Nat) : Int) else -1
theorem tab_all : ((List.range 45).all fun i => Lib.indexByte hexT (bits BinOp.or IntKind.i32 (((i + 58 : Nat) : Int)) 32 % 256).toNat.toUInt8 == tabD (i + 58)) = true := by kernel_rfl
theorem tab_at {r : Nat} (h1 : 58 ≤ r) (h2 : r ≤ 102) : Lib.indexByte hexT (bits BinOp.or IntKind.i32 (r : Int) 32 % 256).toNat.toUInt8 = tabD r := by
  have := List.all_eq_true.1 tab_all (r - 58) (by simp; omega)
  rw [Nat.sub_add_cancel h1] at this
  simpa using this
theorem index_le (x : UInt8) : Lib.indexByte hexT x < 16 := by
  rw [byte_find]
  cases hf : find [x] hexT with
  | none => decide
  | some n =>
    have := (find_len hf).1
    simp [hexT] at this
    simp only [idxV]
    omega

set_option maxHeartbeats 1000000 in
set_option maxRecDepth 100000 in
theorem number_any (w : World) (s : Tx) (base : Nat) (hb : base = 10 ∨ base = 16) (hs : s.length ≤ 65536) :
    Calls Tryz.prog 202 #[.string (strOf s), .int .i32 (base : Nat)] w fun e w' => e = .returned (.int .i32 (numV base s)) ∧ Below w.heap.size w w' := by
  have hsz : (strOf s).size = s.length := strOf_size' s
  have hls : (strOf s).data.toList = s := by simp [strOf]
  obtain ⟨V, hV⟩ : ∃ V, numV base s = V := ⟨_, rfl⟩
  rw [hV]
  have hV' := Lib.hid hV
  clear hV
  go_enter Tryz.func202, Tryz.ntmps202
  go_wp2_with fail
  go_loopw [5, 7, 8] (fun v5 v7 v8 wr => ∃ pos v : Nat, wr.heap[w.heap.size]? = some (.stringIter (strOf s) pos) ∧ v5 = .int .i32 (v : Nat) ∧ v ≤ 1114112 ∧ Hid (numF base (s.drop pos) v = numF base s 0) ∧ Hid (Below w.heap.size w wr)) (fun _ _ _ wr => (strOf s).size - wr.iterPos w.heap.size)
  case atStart => exact ⟨0, 0, World.iter_heap _ _ _, rfl, by omega, Lib.hid rfl, Lib.hid ((Below.refl _ w).alloc (Nat.le_refl _) _)⟩
  case round =>
    obtain ⟨pos, v, hit, rfl, hv, hn, hbw⟩ := hrel
    by_cases hp : pos < (strOf s).size
    · have hnx : ∀ ty, (Instr.next (.pointer (some ⟨w.heap.size, 0, none⟩)) true ty).run Tryz.prog wr = _ := fun ty => Lib.run_next_any_at wr w.heap.size (strOf s) pos ty hit hp
      rw [decode_str, hls] at hnx
      have hl : pos < s.length := by omega
      have hx : s[pos]? = some s[pos] := List.getElem?_eq_getElem hl
      generalize s[pos] = x at hx
      obtain ⟨r, m, hD⟩ : ∃ r m, dec s pos = (r, m) := ⟨_, _, rfl⟩
      rw [hD] at hnx
      simp only at hnx
      have hit2 := Lib.iterAt_heap wr w.heap.size (strOf s) pos (pos + m) hit
      have hbw2 := Lib.hid (Lib.below_iterAt hbw.out (k := w.heap.size) (Nat.le_refl _) (strOf s) (pos + m))
      obtain ⟨wi, hwi⟩ : ∃ wi, wr.iterAt w.heap.size (strOf s) (pos + m) = wi := ⟨_, rfl⟩
      rw [hwi] at hnx hit2 hbw2
      have hD' := Lib.hid hD
      have hx' := Lib.hid hx
      clear hD hwi hl hx
      have hdg : Hid (digV x = if r < 48 ∨ 102 < r then 99 else if r ≤ 57 then r - 48 else if 97 ≤ r then r - 87 else if 65 ≤ r ∧ r ≤ 70 then r - 55 else 99) := Lib.hid (by
        have hx2 := hx'.out
        unfold digV
        rcases Nat.lt_or_ge x.toNat 128 with hlo | hhi
        · have e := dec_low hx2 hlo
          rw [hD'.out] at e
          injection e with e1 e2
          rw [e1]
          repeat' split
          all_goals omega
        · have e := dec_high hx2 hhi
          rw [hD'.out] at e
          simp only at e
          repeat' split
          all_goals omega)
      have hm1 : Hid (r < 128 → m = 1) := Lib.hid (by
        intro hr
        rcases Nat.lt_or_ge x.toNat 128 with hlo | hhi
        · have e := dec_low hx'.out hlo
          rw [hD'.out] at e
          injection e with e1 e2
        · have e := dec_high hx'.out hhi
          rw [hD'.out] at e
          simp only at e
          omega)
      have hstop : Hid (¬ digV x < base → V = -1) := Lib.hid (by
        intro hd
        have := hn.out
        rw [numF_step hx'.out, if_neg hd] at this
        rw [← hV'.out]
        unfold numV numR
        split
        · rename_i h
          split at h
          · cases h
          · rw [← this] at h
            cases h
        · rfl)
      go_wp2_with fail
      refine (byteS_gen hexT _ wi).mono ?_
      rintro e w2 ⟨rfl, rfl⟩
      obtain ⟨D, hDe⟩ : ∃ D, Lib.indexByte hexT (bits BinOp.or IntKind.i32 (r : Int) 32 % 256).toNat.toUInt8 = D := ⟨_, rfl⟩
      rw [hDe]
      have hD1 : -1 ≤ D := by rw [← hDe]; exact Lib.indexByte_ge _ _
      have hD2 : D < 16 := by rw [← hDe]; exact index_le _
      have hwD : wrap32 D = D := by unfold wrap32; omega
      have hDt : Hid (58 ≤ r → r ≤ 102 → D = tabD r) := Lib.hid fun h1 h2 => by rw [← hDe]; exact tab_at h1 h2
      have hbw3 := hbw2
      clear hDe
      by_cases a1 : r < 48
      · have hno : Hid (V = -1) := Lib.hid (hstop.out (by rw [hdg.out, if_pos (.inl a1)]; omega))
        have e1 : decide ((48 : Int) ≤ (r : Int)) = false := by simp; omega
        have e4 : decide ((r : Int) < 48) = true := by simp; omega
        by_cases a2 : D < 0
        · have e2 : decide (D < 0) = true := decide_eq_true a2
          go_wp2_with fail
          go_ret
          exact ⟨ret_int hno.out.symm, hbw3.out⟩
        have e2 : decide (D < 0) = false := decide_eq_false a2
        by_cases a3 : (base : Int) ≤ D
        · have e3 : decide ((base : Int) ≤ D) = true := decide_eq_true a3
          go_wp2_with fail
          go_ret
          exact ⟨ret_int hno.out.symm, hbw3.out⟩
        have e3 : decide ((base : Int) ≤ D) = false := decide_eq_false a3
        go_wp2_with fail
        go_ret
        exact ⟨ret_int hno.out.symm, hbw3.out⟩
      have e1 : decide ((48 : Int) ≤ (r : Int)) = true := by simp; omega
      have e4 : decide ((r : Int) < 48) = false := by simp; omega
      by_cases a5 : 102 < r
      · have hno : Hid (V = -1) := Lib.hid (hstop.out (by rw [hdg.out, if_pos (.inr a5)]; omega))
        have e5 : decide ((r : Int) ≤ 57) = false := by simp; omega
        have e6 : decide ((102 : Int) < (r : Int)) = true := by simp; omega
        by_cases a2 : D < 0
        · have e2 : decide (D < 0) = true := decide_eq_true a2
          go_wp2_with fail
          go_ret
          exact ⟨ret_int hno.out.symm, hbw3.out⟩
        have e2 : decide (D < 0) = false := decide_eq_false a2
        by_cases a3 : (base : Int) ≤ D
        · have e3 : decide ((base : Int) ≤ D) = true := decide_eq_true a3
          go_wp2_with fail
          go_ret
          exact ⟨ret_int hno.out.symm, hbw3.out⟩
        have e3 : decide ((base : Int) ≤ D) = false := decide_eq_false a3
        go_wp2_with fail
        go_ret
        exact ⟨ret_int hno.out.symm, hbw3.out⟩
      have e6 : decide ((102 : Int) < (r : Int)) = false := by simp; omega
      have hm := hm1.out (by omega)
      obtain ⟨P, hP⟩ : ∃ P : Nat, v * base = P := ⟨_, rfl⟩
      have hPI : (v : Int) * (base : Int) = (P : Int) := by rw [← hP]; simp
      have hPb : P ≤ 17825792 := by
        rw [← hP]
        rcases hb with rfl | rfl <;> omega
      have hP' := Lib.hid hP
      clear hP
      by_cases a7 : r ≤ 57
      · have e5 : decide ((r : Int) ≤ 57) = true := by simp; omega
        have hdx : Hid (digV x = r - 48) := Lib.hid (by rw [hdg.out, if_neg (by omega), if_pos a7])
        obtain ⟨d, hd⟩ : ∃ d : Nat, r = d + 48 := ⟨r - 48, by omega⟩
        have hdI : (r : Int) - 48 = (d : Int) := by omega
        have hdb : d < base := by omega
        have e8 : decide ((d : Int) < 0) = false := by simp
        have e9 : decide ((base : Int) ≤ (d : Int)) = false := by simp; omega
        have hd' := Lib.hid hd
        clear hd
        go_wp2_with fail
        go_roundw
        case rel =>
          refine ⟨pos + m, min (P + d) 1114112, hit2, by rw [show ((min (P + d) 1114112 : Nat) : Int) = min ((P : Int) + (d : Int)) 1114112 from by omega], Nat.min_le_right _ _, Lib.hid ?_, hbw3⟩
          have := hn.out
          rw [numF_step hx'.out, if_pos (by rw [hdx.out]; omega), hdx.out, hP'.out] at this
          rw [← this, hm]
          try rw [show r - 48 = d from by have := hd'.out; omega]
        case measure =>
          simp only [World.iterPos, hit2, hit]
          omega
      have e5 : decide ((r : Int) ≤ 57) = false := by simp; omega
      have hDT := hDt.out (by omega) (by omega)
      by_cases a8 : 97 ≤ r ∨ 65 ≤ r ∧ r ≤ 70
      · obtain ⟨d, hd, hdx⟩ : ∃ d : Nat, D = (d : Int) ∧ Hid (digV x = d) := by
          have hg : digV x = if 97 ≤ r then r - 87 else if 65 ≤ r ∧ r ≤ 70 then r - 55 else 99 := by rw [hdg.out, if_neg (by omega), if_neg a7]
          rw [hDT, hg]
          unfold tabD
          by_cases a9 : 97 ≤ r
          · rw [if_pos a9, if_pos a9]
            exact ⟨_, rfl, Lib.hid rfl⟩
          · rw [if_neg a9, if_neg a9, if_pos (by omega), if_pos (by omega)]
            exact ⟨_, rfl, Lib.hid rfl⟩
        subst hd
        clear hDT hDt
        have e8 : decide ((d : Int) < 0) = false := by simp
        by_cases a3 : base ≤ d
        · have e3 : decide ((base : Int) ≤ (d : Int)) = true := by simp; omega
          have hno : Hid (V = -1) := Lib.hid (hstop.out (by rw [hdx.out]; omega))
          go_wp2_with fail
          go_ret
          exact ⟨ret_int hno.out.symm, hbw3.out⟩
        have e9 : decide ((base : Int) ≤ (d : Int)) = false := by simp; omega
        go_wp2_with fail
        go_roundw
        case rel =>
          refine ⟨pos + m, min (P + d) 1114112, hit2, by rw [show ((min (P + d) 1114112 : Nat) : Int) = min ((P : Int) + (d : Int)) 1114112 from by omega], Nat.min_le_right _ _, Lib.hid ?_, hbw3⟩
          have := hn.out
          rw [numF_step hx'.out, if_pos (by rw [hdx.out]; omega), hdx.out, hP'.out] at this
          rw [← this, hm]
        case measure =>
          simp only [World.iterPos, hit2, hit]
          omega
      · have hD0 : D = -1 := by
          rw [hDT]
          unfold tabD
          rw [if_neg (by omega), if_neg (by omega)]
        have hno : Hid (V = -1) := Lib.hid (hstop.out (by rw [hdg.out, if_neg (by omega), if_neg (by omega), if_neg (by omega), if_neg (by omega)]; omega))
        subst hD0
        clear hDT hDt
        go_wp2_with fail
        go_ret
        exact ⟨ret_int hno.out.symm, hbw3.out⟩
    · have hnx : ∀ ty, (Instr.next (.pointer (some ⟨w.heap.size, 0, none⟩)) true ty).run Tryz.prog wr = _ := fun ty => Lib.run_next_end_at wr w.heap.size (strOf s) pos ty hit hp
      have hfin : Hid (numF base s 0 = some v) := Lib.hid (by rw [← hn.out, numF_end (by omega)])
      by_cases hs0 : s = []
      · have i0 : (strOf s).toList.isEmpty = true := by rw [Lib.toList_data, hs0]; rfl
        have hno : Hid (V = -1) := Lib.hid (by rw [← hV'.out]; unfold numV numR; rw [if_pos hs0])
        clear hs0
        go_wp2_with fail
        go_ret
        exact ⟨ret_int hno.out.symm, hbw.out⟩
      · have i0 : (strOf s).toList.isEmpty = false := by rw [Lib.toList_data, hls]; simpa using hs0
        have hs0' := Lib.hid hs0
        clear hs0
        cases hch : Utf.Char (v : Nat) with
        | false =>
          have hno : Hid (V = -1) := Lib.hid (by rw [← hV'.out]; unfold numV numR; rw [if_neg hs0'.out, hfin.out]; simp only; rw [hch]; rfl)
          go_wp2_with fail
          refine (char_any (v : Nat) wr).mono ?_
          rintro e w2 ⟨rfl, rfl⟩
          rw [hch]
          go_wp2_with fail
          go_ret
          exact ⟨ret_int hno.out.symm, hbw.out⟩
        | true =>
          have hyes : Hid (V = (v : Nat)) := Lib.hid (by rw [← hV'.out]; unfold numV numR; rw [if_neg hs0'.out, hfin.out]; simp only; rw [hch]; rfl)
          go_wp2_with fail
          refine (char_any (v : Nat) wr).mono ?_
          rintro e w2 ⟨rfl, rfl⟩
          rw [hch]
          go_wp2_with fail
          go_ret
          exact ⟨ret_int hyes.out.symm, hbw.out⟩
end Go.Proofs.YtokdnhdfmgfkeaaGreatDoor.Xl
end
