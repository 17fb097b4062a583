/- The law XlexPlaces, plainly. No program stands here. -/
import Derived.Test.YtokdnhdfmgfkeaaGreatDoorWUtfMath
import Derived.Test.YtokdnhdfmgfkeaaGreatDoorWXlStep
import Derived.Test.YtokdnhdfmgfkeaaGreatDoorWPlan2
import Derived.Lib.ConvBytes
import Derived.Test.YtokdnhdfmgfkeaaGreatDoorWQxVal
import Derived.Lib.OthersKept
import Derived.Shelf.Strings.CaseAny
import Derived.Test.YtokdnhdfmgfkeaaGreatDoorWStrLaws
import Derived.Shelf.Strings.Replace
import Derived.Shelf.Strings.OnBuilder
set_option linter.unusedVariables false
set_option linter.unusedSimpArgs false
section
namespace Go.Proofs.YtokdnhdfmgfkeaaGreatDoor.Xl
open Go.RowKit UtfW
theorem str_at {S : Tx} {k : Nat} {x : UInt8} (h : S[k]? = some x) (hk : k < (strOf S).size) : (strOf S)[k]'hk = x := by
 have hk' : k < S.length := (List.getElem?_eq_some_iff.1 h).1;rw [List.getElem?_eq_getElem hk'] at h;exact Option.some.inj h
theorem wrap32_byte (x : UInt8) : wrap32 (x.toNat : Int) = (x.toNat : Int) := by
 have := x.toNat_lt;unfold wrap32;omega
theorem bs_convert (w : World) (s : ByteArray) (hs : s.size <= 281474976710656) :
  Bs (Lib.bytesWorld w 5 s) (some ⟨w.heap.size, 0, none⟩) s.size (grownCap w s.size 0 5) s.data.toList /\ Below w.heap.size w (Lib.bytesWorld w 5 s) := by
 have hl : s.data.toList.length = s.size := by rw [Array.length_toList]; rfl
 refine ⟨{ len := by rw [bv_length, hl], le := grownCap_ge _ _ _ _, max := ?_, nil := (fun h => by cases h), cell := fun h0 => ⟨w.heap.size, 0, rfl, by rw [Lib.bytesWorld_size]; omega, ?_⟩ }, ?_⟩
 ·have := grownCap_le_maxLen w s.size 0 5 (by unfold maxLen; omega);unfold maxLen at this;omega
 ·intro j u hu;obtain ⟨x, hx, rfl⟩ := bv_get hu;have hj : j < s.size := by rw [<- hl]; exact (List.getElem?_eq_some_iff.1 hx).1
  rw [Nat.zero_add, Lib.bytesWorld_cell w 5 s j hj, List.getD_eq_getElem?_getD, hx];rfl
 ·exact ⟨rfl, rfl, rfl, by rw [Lib.bytesWorld_size]; omega, fun k hk => Lib.bytesWorld_at_old w 5 s k hk⟩
theorem conv_bytes (w : World) (l : Tx) (hl : l.length <= 281474976710656) : ∃ bd cb w', (convert 9 41 (.string (strOf l))).run Tryz.prog w = .ok (.slice (some ⟨bd, 0, none⟩) l.length cb) w' /\ Bs w' (some ⟨bd, 0, none⟩) l.length cb l /\ Below w.heap.size w w' := by
 have hsz : (strOf l).size = l.length := strOf_size' l;obtain ⟨h1, h2⟩ := bs_convert w (strOf l) (by omega);have h3 := Lib.run_convert_string_bytes w 9 41 5 (strOf l) Tryz.underlying9 Tryz.underlying41 Tryz.underlying5;rw [hsz] at h1 h3;have hlst : (strOf l).data.toList = l := by simp [strOf]
 rw [hlst] at h1;exact ⟨_, _, _, h3, h1, h2⟩
def offA (A : Option Addr) (c k : Nat) : Option Addr := if c = k then A else A.map (fun a => a.add k)
theorem Bs.from {w : World} {A : Option Addr} {n c : Nat} {l : Tx} (h : Bs w A n c l) {k m : Nat} (hk : k <= m) (hm : m <= n) : Bs w (offA A c k) (m - k) (c - k) ((l.drop k).take (m - k)) :=
 h.cut k m hk hm _ (fun b off e hlt => by
  unfold offA;rw [if_neg (by omega), e]
  show some (Addr.add ⟨b, off, none⟩ k) = _
  unfold Addr.add
  split
  ·rename_i h0; rw [h0]; rfl
  ·rfl) (fun e => by
  unfold offA
  split
  ·exact e
  ·rw [e]; rfl) (fun hne => by
  unfold offA
  split
  ·exact hne
  ·intro e
   cases A with
   | none => exact hne rfl
   | some a => cases e)
section
variable (w : World) (b : Nat) (S : Tx) (k : Nat) (A : Option Addr) (c : Nat) (vo : Value)
set_option maxRecDepth 100000 in
theorem has_any (h : Xc w b S k A c vo) (hk : k <= S.length) (hS : S.length <= 65536) (p : Tx) (hp : p.length <= 65536) :
  Calls Tryz.prog 156 #[.pointer (some ⟨b, 0, none⟩), .string (strOf p)] w fun e w' => e = .returned (.bool (Lib.hasPrefix (S.drop k) p)) /\ Below w.heap.size w w' := by
 have hlc := Rd.le h.bs;have hcm := Rd.max h.bs;have hq : Hid (∀ x, Below w.heap.size w x -> x.cell? ⟨b, 0, none⟩ = some (.slice A S.length c) /\ x.cell? ⟨b, 1, none⟩ = some (.int .i64 (k : Nat))) := Hd fun x hx => ⟨(h.below hx).c0, (h.below hx).c1⟩
 have hdr : Hid (Below w.heap.size w w.drew) := Hd (Joins.below_draws w.heap.size w 1);have h' := Hd h;clear h;obtain ⟨bd, cb, w1, hcv, hbs, hb1⟩ := conv_bytes w.drew p (by omega);have hb1' := Hd (hdr.out.trans (hb1.mono hdr.out.size))
 have hc : Hid (Calls Tryz.prog 174 #[.slice (offA A c k) (S.length - k) (c - k), .slice (some ⟨bd, 0, none⟩) p.length cb] w1 fun e w' => e = .returned (.bool (Lib.hasPrefix (S.drop k) p)) /\ w' = w1) := Hd (by
  have hf := Bs.from (h'.out.below hb1'.out).bs hk (Nat.le_refl _);rw [List.take_of_length_le (by rw [List.length_drop]; omega)] at hf
  exact hasB_any w1 hf hbs)
 obtain ⟨R, hR⟩ : ∃ R, Lib.hasPrefix (S.drop k) p = R := ⟨_, rfl⟩;rw [hR] at hc ⊢;clear hbs hb1 hR;unfold offA at hc;obtain ⟨A1, hA1⟩ : ∃ A1, (if c = k then A else Option.map (fun x => x.add k) A) = A1 := ⟨_, rfl⟩;rw [hA1] at hc
 go_enter Tryz.func156, Tryz.ntmps156
 go_wp2_with fail;refine Pl.wp_region_plan 11 (.take 0 (.take 1 (.take 2 (.take 3 (.take 4 (.take 5 (.take 6 (.take 7 (.take 8 (.take 9 (.run 10 .done))))))))))) (fun x => x.cell? ⟨b, 0, none⟩ = some (.slice A S.length c) /\ x.cell? ⟨b, 1, none⟩ = some (.int .i64 (k : Nat))) (by kernel_rfl) (by kernel_rfl) (by exact hq.out _ hdr.out) ?_;simp only [Pl.fill, Al_4, Al_5, Al_6, Al_7]
 iterate 10
  refine Pl.take_go ?_ (by rfl) (fun _ _ _ h => h) ?_ ?_
  rotate_left
  ·(intro x hSw; (try dsimp only at hSw); (try obtain ⟨s0, s1⟩ := hSw); go_simp; try with_reducible rfl)
  try simp only [Act.put, Al_1, Al_2, Al_3]
 refine Pl.run_go (fun K hK => ?_);go_simp;refine hK.out _ _ (Pl.more_go _ (fun _ h => h) (by exact hq.out _ hb1'.out) ?_);clear hK K;refine Pl.done_go ?_;go_wp2_with fail;refine hc.out.mono ?_;rintro e w2 ⟨rfl, rfl⟩;go_wp2_with fail;go_ret;exact ⟨rfl, hb1'.out⟩
end
end Go.Proofs.YtokdnhdfmgfkeaaGreatDoor.Xl
end

section
namespace Go.Proofs.YtokdnhdfmgfkeaaGreatDoor.Xl
open Go.RowKit Go.Shelf UtfW
theorem decN_high {n b0 b1 b2 b3 : Nat} (h : 128 <= b0) : 128 <= (Lib.decodeN n b0 b1 b2 b3).1 := by
 unfold Lib.decodeN;rw [if_neg (by omega)]
 repeat' split
 all_goals simp only
 all_goals omega
theorem bt_at {l : Tx} {k : Nat} {x : UInt8} (h : l[k]? = some x) : bt l k = x.toNat := by
 unfold bt;simp [List.getD, h]
theorem dec_low {l : Tx} {k : Nat} {x : UInt8} (hx : l[k]? = some x) (h : x.toNat < 128) : dec l k = (x.toNat, 1) := by
 unfold dec;rw [bt_at hx, Lib.decodeN_ascii _ _ _ _ _ h]
theorem dec_high {l : Tx} {k : Nat} {x : UInt8} (hx : l[k]? = some x) (h : 128 <= x.toNat) : 128 <= (dec l k).1 := by
 unfold dec;rw [bt_at hx];exact decN_high h
theorem byteS_gen (s : Tx) (cv : Int) (w : World) :
  Calls Tryz.prog 75 #[.string (strOf s), .int .u8 cv] w fun e w' => e = .returned (.int .i64 (Lib.indexByte s cv.toNat.toUInt8)) /\ w' = w := by
 refine Calls.mono (Any.strings_IndexByte Tryz.lays137 (strOf s) cv w) ?_;rintro e w' ⟨rfl, rfl⟩;exact ⟨rfl, rfl⟩
def hexT : Tx := [48, 49, 50, 51, 52, 53, 54, 55, 56, 57, 97, 98, 99, 100, 101, 102]
def numV (base : Nat) (s : Tx) : Int := match numR base s with | some v => (v : Nat) | none => -1
theorem numF_step {base : Nat} {s : Tx} {pos v : Nat} {x : UInt8} (h : s[pos]? = some x) : numF base (s.drop pos) v = if digV x < base then numF base (s.drop (pos + 1)) (min (v * base + digV x) 1114112) else none := by
 rw [drop_at h, numF]
theorem numF_end {base : Nat} {s : Tx} {pos v : Nat} (h : s.length <= pos) : numF base (s.drop pos) v = some v := by
 rw [drop_end h, numF]
def tabD (r : Nat) : Int := if 97 <= r then ((r - 87 : Nat) : Int) else if r <= 70 /\ 65 <= r then ((r - 55 : Nat) : Int) else -1
theorem tab_all : ((List.range 45).all fun i => Lib.indexByte hexT (bits BinOp.or IntKind.i32 (((i + 58 : Nat) : Int)) 32 % 256).toNat.toUInt8 == tabD (i + 58)) = true := by kernel_rfl
theorem tab_at {r : Nat} (h1 : 58 <= r) (h2 : r <= 102) : Lib.indexByte hexT (bits BinOp.or IntKind.i32 (r : Int) 32 % 256).toNat.toUInt8 = tabD r := by
 have := List.all_eq_true.1 tab_all (r - 58) (by simp; omega);rw [Nat.sub_add_cancel h1] at this
 simpa using this
theorem index_le (x : UInt8) : Lib.indexByte hexT x < 16 := by
 rw [byte_find]
 cases hf : find [x] hexT with
 | none => decide
 | some n =>
  have := (find_len hf).1;simp [hexT] at this;simp only [idxV];omega
set_option maxHeartbeats 1000000 in
set_option maxRecDepth 100000 in
theorem number_any (w : World) (s : Tx) (base : Nat) (hb : base = 10 \/ base = 16) (hs : s.length <= 65536) :
  Calls Tryz.prog 202 #[.string (strOf s), .int .i32 (base : Nat)] w fun e w' => e = .returned (.int .i32 (numV base s)) /\ Below w.heap.size w w' := by
 have hsz : (strOf s).size = s.length := strOf_size' s;have hls : (strOf s).data.toList = s := by simp [strOf]
 obtain ⟨V, hV⟩ : ∃ V, numV base s = V := ⟨_, rfl⟩;rw [hV];have hV' := Hd hV;clear hV
 go_enter Tryz.func202, Tryz.ntmps202
 go_wp2_with fail
 go_loopw [5, 7, 8] (fun v5 v7 v8 wr => ∃ pos v : Nat, wr.heap[w.heap.size]? = some (.stringIter (strOf s) pos) /\ v5 = .int .i32 (v : Nat) /\ v <= 1114112 /\ Hid (numF base (s.drop pos) v = numF base s 0) /\ Hid (Below w.heap.size w wr)) (fun _ _ _ wr => (strOf s).size - wr.iterPos w.heap.size)
 case atStart => exact ⟨0, 0, World.iter_heap _ _ _, rfl, by omega, Hd rfl, Hd ((Below.refl _ w).alloc (Nat.le_refl _) _)⟩
 case round =>
  obtain ⟨pos, v, hit, rfl, hv, hn, hbw⟩ := hrel
  by_cases hp : pos < (strOf s).size
  ·have hnx : ∀ ty, (Instr.next (.pointer (some ⟨w.heap.size, 0, none⟩)) true ty).run Tryz.prog wr = _ := fun ty => Lib.run_next_any_at wr w.heap.size (strOf s) pos ty hit hp
   rw [decode_str, hls] at hnx;have hl : pos < s.length := by omega
   have hx : s[pos]? = some s[pos] := List.getElem?_eq_getElem hl;generalize s[pos] = x at hx;obtain ⟨r, m, hD⟩ : ∃ r m, dec s pos = (r, m) := ⟨_, _, rfl⟩;rw [hD] at hnx;simp only at hnx;have hit2 := Lib.iterAt_heap wr w.heap.size (strOf s) pos (pos + m) hit;have hbw2 := Hd (Lib.below_iterAt hbw.out (k := w.heap.size) (Nat.le_refl _) (strOf s) (pos + m));obtain ⟨wi, hwi⟩ : ∃ wi, wr.iterAt w.heap.size (strOf s) (pos + m) = wi := ⟨_, rfl⟩;rw [hwi] at hnx hit2 hbw2;have hD' := Hd hD;have hx' := Hd hx;clear hD hwi hl hx
   have hdg : Hid (digV x = if r < 48 \/ 102 < r then 99 else if r <= 57 then r - 48 else if 97 <= r then r - 87 else if 65 <= r /\ r <= 70 then r - 55 else 99) := Hd (by
    have hx2 := hx'.out;unfold digV;rcases Nat.lt_or_ge x.toNat 128 with hlo | hhi
    ·have e := dec_low hx2 hlo;rw [hD'.out] at e;injection e with e1 e2;rw [e1]
     repeat' split
     all_goals omega
    ·have e := dec_high hx2 hhi;rw [hD'.out] at e;simp only at e
     repeat' split
     all_goals omega)
   have hm1 : Hid (r < 128 -> m = 1) := Hd (by
    intro hr;rcases Nat.lt_or_ge x.toNat 128 with hlo | hhi
    ·have e := dec_low hx'.out hlo;rw [hD'.out] at e;injection e with e1 e2
    ·have e := dec_high hx'.out hhi;rw [hD'.out] at e;simp only at e
     omega)
   have hstop : Hid (¬ digV x < base -> V = -1) := Hd (by
    intro hd;have := hn.out;rw [numF_step hx'.out, if_neg hd] at this;rw [<- hV'.out];unfold numV numR
    split
    ·rename_i h
     split at h
     ·cases h
     ·rw [<- this] at h;cases h
    ·rfl)
   go_wp2_with fail;refine (byteS_gen hexT _ wi).mono ?_;rintro e w2 ⟨rfl, rfl⟩;obtain ⟨D, hDe⟩ : ∃ D, Lib.indexByte hexT (bits BinOp.or IntKind.i32 (r : Int) 32 % 256).toNat.toUInt8 = D := ⟨_, rfl⟩;rw [hDe];have hD1 : -1 <= D := by rw [<- hDe]; exact Lib.indexByte_ge _ _
   have hD2 : D < 16 := by rw [<- hDe]; exact index_le _
   have hwD : wrap32 D = D := by unfold wrap32; omega
   have hDt : Hid (58 <= r -> r <= 102 -> D = tabD r) := Hd fun h1 h2 => by rw [<- hDe]; exact tab_at h1 h2
   have hbw3 := hbw2;clear hDe
   by_cases a1 : r < 48
   ·have hno : Hid (V = -1) := Hd (hstop.out (by rw [hdg.out, if_pos (.inl a1)]; omega));have e1 : decide ((48 : Int) <= (r : Int)) = false := by simp; omega
    have e4 : decide ((r : Int) < 48) = true := by simp; omega
    by_cases a2 : D < 0
    ·have e2 : decide (D < 0) = true := decide_eq_true a2;go_wp2_with fail;go_ret;exact ⟨ret_int hno.out.symm, hbw3.out⟩
    have e2 : decide (D < 0) = false := decide_eq_false a2
    by_cases a3 : (base : Int) <= D
    ·have e3 : decide ((base : Int) <= D) = true := decide_eq_true a3;go_wp2_with fail;go_ret;exact ⟨ret_int hno.out.symm, hbw3.out⟩
    have e3 : decide ((base : Int) <= D) = false := decide_eq_false a3;go_wp2_with fail;go_ret;exact ⟨ret_int hno.out.symm, hbw3.out⟩
   have e1 : decide ((48 : Int) <= (r : Int)) = true := by simp; omega
   have e4 : decide ((r : Int) < 48) = false := by simp; omega
   by_cases a5 : 102 < r
   ·have hno : Hid (V = -1) := Hd (hstop.out (by rw [hdg.out, if_pos (.inr a5)]; omega));have e5 : decide ((r : Int) <= 57) = false := by simp; omega
    have e6 : decide ((102 : Int) < (r : Int)) = true := by simp; omega
    by_cases a2 : D < 0
    ·have e2 : decide (D < 0) = true := decide_eq_true a2;go_wp2_with fail;go_ret;exact ⟨ret_int hno.out.symm, hbw3.out⟩
    have e2 : decide (D < 0) = false := decide_eq_false a2
    by_cases a3 : (base : Int) <= D
    ·have e3 : decide ((base : Int) <= D) = true := decide_eq_true a3;go_wp2_with fail;go_ret;exact ⟨ret_int hno.out.symm, hbw3.out⟩
    have e3 : decide ((base : Int) <= D) = false := decide_eq_false a3;go_wp2_with fail;go_ret;exact ⟨ret_int hno.out.symm, hbw3.out⟩
   have e6 : decide ((102 : Int) < (r : Int)) = false := by simp; omega
   have hm := hm1.out (by omega);obtain ⟨P, hP⟩ : ∃ P : Nat, v * base = P := ⟨_, rfl⟩;have hPI : (v : Int) * (base : Int) = (P : Int) := by rw [<- hP]; simp
   have hPb : P <= 17825792 := by
    rw [<- hP];rcases hb with rfl | rfl <;> omega
   have hP' := Hd hP;clear hP
   by_cases a7 : r <= 57
   ·have e5 : decide ((r : Int) <= 57) = true := by simp; omega
    have hdx : Hid (digV x = r - 48) := Hd (by rw [hdg.out, if_neg (by omega), if_pos a7]);obtain ⟨d, hd⟩ : ∃ d : Nat, r = d + 48 := ⟨r - 48, by omega⟩;have hdI : (r : Int) - 48 = (d : Int) := (by omega);have hdb : d < base := (by omega);have e8 : decide ((d : Int) < 0) = false := (by simp);have e9 : decide ((base : Int) <= (d : Int)) = false := by simp; omega
    have hd' := Hd hd;clear hd;go_wp2_with fail;go_roundw
    case rel =>
     refine ⟨pos + m, min (P + d) 1114112, hit2, by rw [show ((min (P + d) 1114112 : Nat) : Int) = min ((P : Int) + (d : Int)) 1114112 from by omega], Nat.min_le_right _ _, Hd ?_, hbw3⟩;have := hn.out;rw [numF_step hx'.out, if_pos (by rw [hdx.out]; omega), hdx.out, hP'.out] at this;rw [<- this, hm]
     try rw [show r - 48 = d from by have := hd'.out; omega]
    case measure =>
     simp only [World.iterPos, hit2, hit];omega
   have e5 : decide ((r : Int) <= 57) = false := by simp; omega
   have hDT := hDt.out (by omega) (by omega)
   by_cases a8 : 97 <= r \/ 65 <= r /\ r <= 70
   ·obtain ⟨d, hd, hdx⟩ : ∃ d : Nat, D = (d : Int) /\ Hid (digV x = d) := by
     have hg : digV x = if 97 <= r then r - 87 else if 65 <= r /\ r <= 70 then r - 55 else 99 := (by rw [hdg.out, if_neg (by omega), if_neg a7]);rw [hDT, hg];unfold tabD
     by_cases a9 : 97 <= r
     ·rw [if_pos a9, if_pos a9];exact ⟨_, rfl, Hd rfl⟩
     ·rw [if_neg a9, if_neg a9, if_pos (by omega), if_pos (by omega)];exact ⟨_, rfl, Hd rfl⟩
    subst hd;clear hDT hDt;have e8 : decide ((d : Int) < 0) = false := by simp
    by_cases a3 : base <= d
    ·have e3 : decide ((base : Int) <= (d : Int)) = true := by simp; omega
     have hno : Hid (V = -1) := Hd (hstop.out (by rw [hdx.out]; omega));go_wp2_with fail;go_ret;exact ⟨ret_int hno.out.symm, hbw3.out⟩
    have e9 : decide ((base : Int) <= (d : Int)) = false := by simp; omega
    go_wp2_with fail;go_roundw
    case rel =>
     refine ⟨pos + m, min (P + d) 1114112, hit2, by rw [show ((min (P + d) 1114112 : Nat) : Int) = min ((P : Int) + (d : Int)) 1114112 from by omega], Nat.min_le_right _ _, Hd ?_, hbw3⟩;have := hn.out;rw [numF_step hx'.out, if_pos (by rw [hdx.out]; omega), hdx.out, hP'.out] at this;rw [<- this, hm]
    case measure =>
     simp only [World.iterPos, hit2, hit];omega
   ·have hD0 : D = -1 := by
     rw [hDT];unfold tabD;rw [if_neg (by omega), if_neg (by omega)]
    have hno : Hid (V = -1) := Hd (hstop.out (by rw [hdg.out, if_neg (by omega), if_neg (by omega), if_neg (by omega), if_neg (by omega)]; omega));subst hD0;clear hDT hDt;go_wp2_with fail;go_ret;exact ⟨ret_int hno.out.symm, hbw3.out⟩
  ·have hnx : ∀ ty, (Instr.next (.pointer (some ⟨w.heap.size, 0, none⟩)) true ty).run Tryz.prog wr = _ := fun ty => Lib.run_next_end_at wr w.heap.size (strOf s) pos ty hit hp
   have hfin : Hid (numF base s 0 = some v) := Hd (by rw [<- hn.out, numF_end (by omega)])
   by_cases hs0 : s = []
   ·have i0 : (strOf s).toList.isEmpty = true := by rw [Lib.toList_data, hs0]; rfl
    have hno : Hid (V = -1) := Hd (by rw [<- hV'.out]; unfold numV numR; rw [if_pos hs0]);clear hs0;go_wp2_with fail;go_ret;exact ⟨ret_int hno.out.symm, hbw.out⟩
   ·have i0 : (strOf s).toList.isEmpty = false := by rw [Lib.toList_data, hls]; simpa using hs0
    have hs0' := Hd hs0;clear hs0
    cases hch : Utf.Char (v : Nat) with
    | false =>
     have hno : Hid (V = -1) := Hd (by rw [<- hV'.out]; unfold numV numR; rw [if_neg hs0'.out, hfin.out]; simp only; rw [hch]; rfl);go_wp2_with fail;refine (char_any (v : Nat) wr).mono ?_;rintro e w2 ⟨rfl, rfl⟩;rw [hch];go_wp2_with fail;go_ret;exact ⟨ret_int hno.out.symm, hbw.out⟩
    | true =>
     have hyes : Hid (V = (v : Nat)) := Hd (by rw [<- hV'.out]; unfold numV numR; rw [if_neg hs0'.out, hfin.out]; simp only; rw [hch]; rfl);go_wp2_with fail;refine (char_any (v : Nat) wr).mono ?_;rintro e w2 ⟨rfl, rfl⟩;rw [hch];go_wp2_with fail;go_ret;exact ⟨ret_int hyes.out.symm, hbw.out⟩
end Go.Proofs.YtokdnhdfmgfkeaaGreatDoor.Xl
end

section
namespace Go.Proofs
open Go.Shelf Go.RowKit
shelf_lay Lays.n159 Nm 159 at Tryz as Tryz.lays159
theorem Tryz.extra159 : Builder.Extra Tryz.prog Tryz.lays159_ren where
 sizeBuilder := by kernel_rfl
 liesBuilder := by kernel_rfl
 t5 := Tryz.underlying5
 a5 := Tryz.lays187.a5
 z5 := Tryz.lays187.z5
 v5 := Tryz.lays187.v5
 infoByte := by kernel_rfl
 cellsByte := by kernel_rfl
 sizeByte := by kernel_rfl
 neB5 := by decide
end Go.Proofs
namespace Go.Proofs.YtokdnhdfmgfkeaaGreatDoor.Xl
open Go.RowKit Go.Shelf UtfW
def utfT : Tx := [117, 116, 102, 45, 56]
def rowOk (x : Lib.CaseRow) : Bool :=
 if x.delta 1 > 1114111 then decide (128 <= x.1)
 else decide (x.2.1 < 128) || decide (128 <= x.1) && (decide (128 <= (x.1 : Int) + x.delta 1) || decide (x.1 = x.2.1) && (decide ((x.1 : Int) + x.delta 1 = 105) || decide ((x.1 : Int) + x.delta 1 = 107)))
theorem rows_ok : Lib.caseT.all rowOk = true := by decide +kernel
theorem row_at {i : Nat} (h : i < Lib.caseA.size) : rowOk (Lib.caseA.getD i (0, 0, 0, 0, 0)) = true := by
 have hr2 := rows_ok;unfold Lib.caseA at h ⊢;generalize Lib.caseT = T at hr2 h ⊢;have h2 : i < T.length := by simpa using h
 have hm : T.toArray.getD i (0, 0, 0, 0, 0) = T[i] := by
  rw [Array.getD_eq_getD_getElem?];simp [h2]
 rw [hm];exact List.all_eq_true.1 hr2 _ (List.getElem_mem h2)
theorem conv_hi (x : Lib.CaseRow) (r : Int) (hr : 128 <= r) (hlo : (x.1 : Int) <= r) (hhi : r <= (x.2.1 : Int)) (hrow : rowOk x = true) : 128 <= Lib.convertR 1 r x \/ Lib.convertR 1 r x = 105 \/ Lib.convertR 1 r x = 107 := by
 unfold rowOk at hrow;unfold Lib.convertR
 split at hrow
 ·rename_i hd
  rw [if_pos hd];have := of_decide_eq_true hrow;left;omega
 ·rename_i hd
  rw [if_neg hd];simp only [Bool.or_eq_true, Bool.and_eq_true, decide_eq_true_eq] at hrow;omega
theorem lowU_hi (r : Int) (hr : 128 <= r) : 128 <= Lib.toLowerU r \/ Lib.toLowerU r = 105 \/ Lib.toLowerU r = 107 := by
 unfold Lib.toLowerU;rw [if_neg (by omega)];unfold Lib.toR Lib.lookupGo;have hrow := @row_at;generalize Lib.caseA = C at hrow ⊢
 cases hi : Lib.lookupIdx C r (C.size + 1) 0 C.size with
 | none => exact .inl hr
 | some i =>
  obtain ⟨hil, hlo, hhi⟩ := Lib.lookupIdx_some C r _ _ _ i hi;exact conv_hi _ r hr hlo hhi (hrow hil)
theorem enc_head {v : Int} (h : 128 <= v \/ v = 105 \/ v = 107) : ∃ b t, Lib.encodeRune v = b :: t /\ (128 <= b.toNat \/ b = 105 \/ b = 107) := by
 rcases h with h | rfl | rfl
 ·unfold Lib.encodeRune Lib.encodeRuneZ;rw [if_neg (by omega)]
  split
  ·refine ⟨_, _, rfl, .inl ?_⟩;simp;omega
  ·split
   ·refine ⟨_, _, rfl, .inl ?_⟩;simp;omega
   ·split
    ·refine ⟨_, _, rfl, .inl ?_⟩;simp;omega
    ·exact ⟨_, _, rfl, .inl (by decide)⟩
 ·exact ⟨_, _, rfl, .inr (.inl rfl)⟩
 ·exact ⟨_, _, rfl, .inr (.inr rfl)⟩
theorem dec_hi (b : UInt8) (t : Tx) (h : 128 <= b.toNat) : 128 <= (Lib.decodeL (b :: t)).1 := by
 rw [Lib.decodeL_N];exact decN_high h
theorem low_lower (b : UInt8) : Lib.lowerB b = low b := by
 have e : Lib.isUpperB b = decide (65 <= b.toNat /\ b.toNat <= 90) := by
  unfold Lib.isUpperB;rw [Bool.eq_iff_iff, Bool.and_eq_true, decide_eq_true_eq, decide_eq_true_eq, decide_eq_true_eq];exact Iff.rfl
 unfold Lib.lowerB low;rw [e]
 by_cases h : 65 <= b.toNat /\ b.toNat <= 90
 ·rw [if_pos h, if_pos (decide_eq_true h)]
 ·rw [if_neg h, if_neg (by rw [decide_eq_false h]; decide)]
theorem lower_ascii : ∀ (l t : Tx), Lib.toLowerD l = t -> (∀ b ∈ t, b.toNat < 128 /\ b ≠ 105 /\ b ≠ 107) -> ∀ b ∈ l, b.toNat < 128
 | [], _, _, _ => fun b hb => by cases hb
 | b :: l, t, h, ht => by
  unfold Lib.toLowerD at h;rw [Lib.mapD_step Lib.toLowerU (b :: l) (by simp)] at h
  by_cases hb : b.toNat < 128
  ·rw [Lib.decodeL_ascii b l hb] at h;dsimp only at h;rw [if_pos (Lib.toLowerU_range b.toNat (by omega)).1, Lib.lower_byte ⟨b.toNat, hb⟩, List.drop_succ_cons, List.drop_zero] at h;subst h;intro x hx;rcases List.mem_cons.1 hx with rfl | hx
   ·exact hb
   ·exact lower_ascii l _ rfl (fun y hy => ht y (List.mem_append_right _ hy)) x hx
  ·exfalso;have h1 := lowU_hi ((Lib.decodeL (b :: l)).1 : Nat) (by have := dec_hi b l (by omega); omega);rw [if_pos (by omega)] at h;obtain ⟨c, u, hc, hcc⟩ := enc_head h1;rw [hc] at h;have := ht c (by rw [<- h]; simp);rcases hcc with e | e | e
   ·omega
   ·exact this.2.1 e
   ·exact this.2.2 e
theorem lower_utf (l : Tx) : Lib.toLowerD l = utfT ↔ l.map low = utfT := by
 constructor
 ·intro h;have ha := lower_ascii l _ h (by decide);rw [Lib.toLowerD_ascii l ha] at h;rw [<- h];unfold Lib.toLowerA;exact List.map_congr_left fun b _ => (low_lower b).symm
 ·intro h
  have ha : ∀ b ∈ l, b.toNat < 128 := fun b hb => by
   have hm : low b ∈ utfT := by rw [<- h]; exact List.mem_map_of_mem hb
   have h2 : ∀ x ∈ utfT, x.toNat < 128 := by decide
   have := h2 _ hm;unfold low at this
   split at this
   ·omega
   ·exact this
  rw [Lib.toLowerD_ascii l ha, <- h];unfold Lib.toLowerA;exact List.map_congr_left fun b _ => low_lower b
theorem lower_any (w : World) (hU : Un w) (s : Tx) (hs : s.length <= 65536) :
  Calls Tryz.prog 51 #[.string (strOf s)] w fun e w' => ∃ t, e = .returned (.string (strOf t)) /\ decide (t = utfT) = decide (s.map low = utfT) /\ Below w.heap.size w w' := by
 have hls : (strOf s).data.toList = s := by simp [strOf]
 refine (Any.strings_ToLower_any Tryz.lays159 Tryz.extra159 (strOf s) w (by rw [strOf_size' s]; omega) hU.case_ hU.ut.tabs).mono ?_;rintro e w' ⟨rfl, hb⟩;rw [hls];exact ⟨_, rfl, decide_eq_decide.2 (lower_utf s), hb⟩
end Go.Proofs.YtokdnhdfmgfkeaaGreatDoor.Xl
end

section
namespace Go.Proofs
open Go.Shelf Go.RowKit
shelf_lay Lays.n155 Nm 155 at Tryz as Tryz.lays155
theorem Tryz.extra155 : Builder.Extra Tryz.prog Tryz.lays155_ren where
 sizeBuilder := by kernel_rfl
 liesBuilder := by kernel_rfl
 t5 := Tryz.underlying5
 a5 := Tryz.lays187.a5
 z5 := Tryz.lays187.z5
 v5 := Tryz.lays187.v5
 infoByte := by kernel_rfl
 cellsByte := by kernel_rfl
 sizeByte := by kernel_rfl
 neB5 := by decide
end Go.Proofs
namespace Go.Proofs.YtokdnhdfmgfkeaaGreatDoor.UtfW
open Go.RowKit
theorem replaceAll_any (s old : ByteArray) (w : World) (hU : Ut w) (hs : s.size <= 1000000) (h1 : 1 <= old.size) :
  Calls Tryz.prog 204 #[.string s, .string old, .string ⟨#[10]⟩] w fun e w' => e = .returned (.string (strOf (Lib.replaceAll s.data.toList old.data.toList [10]))) /\ Below w.heap.size w w' := by
 obtain ⟨m, hm⟩ := hU.max;have hc := Lib.countB_le old h1 s.size s (Nat.le_refl _)
 exact Any.strings_ReplaceAll Tryz.lays155 Tryz.extra155 s old ⟨#[10]⟩ m w (by omega) hm h1 (by
  have : (⟨#[10]⟩ : ByteArray).size = 1 := rfl;rw [this]
  omega)
theorem utfLines_any (s : ByteArray) (hs : s.size <= 1000000) (w : World) (hU : Ut w) :
  Calls Tryz.prog 181 #[.string s] w fun e w' => e = .returned (.string (strOf (Utf.lines s.data.toList))) /\ Below w.heap.size w w' := by
 have hl : s.data.toList.length = s.size := by rw [Array.length_toList]; rfl
 have c1 := replaceAll_any s ⟨#[13, 10]⟩ w hU hs (by decide);have e1 : Lib.replaceAll s.data.toList (⟨#[13, 10]⟩ : ByteArray).data.toList [10] = Utf.rep2 s.data.toList := Utf.rep2_eq _;rw [e1] at c1;have hlen := Utf.rep2_len s.data.toList;have hfin := Utf.lines_eq _ s.data.toList (Nat.le_refl _);obtain ⟨m, hm⟩ : ∃ m, Utf.rep2 s.data.toList = m := ⟨_, rfl⟩;rw [hm] at c1 hlen hfin;obtain ⟨z, hz⟩ : ∃ z, Utf.lines s.data.toList = z := ⟨_, rfl⟩;rw [hz] at hfin ⊢;have hfin' := Hd hfin;clear hz hm e1 hfin
 go_enter Tryz.func181, Tryz.ntmps181
 go_wp2_with fail;refine c1.mono ?_;rintro e w1 ⟨rfl, hb1⟩;have c2 := replaceAll_any (strOf m) ⟨#[13]⟩ w1 (hU.below hb1) (by rw [strOf_size]; omega) (by decide);have e2 : Lib.replaceAll (strOf m).data.toList (⟨#[13]⟩ : ByteArray).data.toList [10] = Utf.rep1 m := Utf.rep1_eq _;rw [e2, hfin'.out] at c2;have hb1' := Hd hb1;clear hb1 e2;go_wp2_with fail;refine c2.mono ?_;rintro e w2 ⟨rfl, hb2⟩;have hx := Hd (hb1'.out.trans (hb2.mono hb1'.out.size));clear hb2 c1 c2;go_wp2_with fail;go_ret;exact ⟨rfl, hx.out⟩
end Go.Proofs.YtokdnhdfmgfkeaaGreatDoor.UtfW
end

section
namespace Go.Proofs.YtokdnhdfmgfkeaaGreatDoor.Xl
open Go.RowKit UtfW Qx
theorem V_of_bad {l : Tx} (h : badW l 0 < 0) : V l := by
 obtain ⟨rs, u, h1, h2, h3⟩ := runes_split l.length l (Nat.le_refl _);rcases h3 with rfl | ⟨h4, h5⟩
 ·exact ⟨rs, h1, by rw [h2, List.append_nil]⟩
 ·rw [badW_E h4 h5 rs 0 h1 (by rw [List.drop_zero]; exact h2)] at h;omega
theorem V.cons {c : UInt8} {b : Tx} (hc : c.toNat < 128) {a : Tx} (h : V (a ++ c :: b)) : V (c :: b) := by
 obtain ⟨rs, hr, e⟩ := h;exact (V.split hc hr e).2
theorem V.enc {v : Nat} (h : Utf.Char (v : Nat) = true) : V (encB (v : Nat)) := ⟨[v], fun r hr => by rw [List.mem_singleton.1 hr]; exact h, (E_one v).symm⟩
/-! ### Ends of lines -/
theorem lines_app : ∀ {a : Tx}, 13 ∉ a -> ∀ s, Utf.lines (a ++ s) = a ++ Utf.lines s
 | [], _, _ => rfl
 | b :: a, h, s => by
  rw [List.mem_cons, not_or] at h;rw [List.cons_append, Utf.lines, if_neg (fun e => h.1 e.symm), lines_app h.2 s, List.cons_append]
theorem cut13 (c : UInt8) : ∀ s : Tx, c ∉ s \/ ∃ x r, s = x ++ c :: r /\ c ∉ x
 | [] => .inl (by simp)
 | b :: s => by
  by_cases hb : b = c
  ·exact .inr ⟨[], s, by rw [hb]; rfl, by simp⟩
  ·rcases cut13 c s with h | ⟨x, r, e, h⟩
   ·exact .inl (by rw [List.mem_cons, not_or]; exact ⟨fun e => hb e.symm, h⟩)
   ·exact .inr ⟨b :: x, r, by rw [e]; rfl, by rw [List.mem_cons, not_or]; exact ⟨fun e => hb e.symm, h⟩⟩
theorem V.lines : ∀ (n : Nat) {s : Tx}, s.length <= n -> V s -> V (Utf.lines s)
 | 0, s, h, hv => by
  obtain rfl : s = [] := List.eq_nil_of_length_eq_zero (by omega);exact hv
 | n + 1, s, h, hv => by
  rcases cut13 13 s with h1 | ⟨x, r, rfl, h1⟩
  ·have := lines_app h1 [];rw [List.append_nil] at this;rw [this]
   show V (s ++ [])
   rw [List.append_nil];exact hv
  ·obtain ⟨hx, hr⟩ := V.cut (c := 13) (by decide) hv;have ih := V.lines n (s := r) (by simp at h; omega) hr;rw [lines_app h1];refine hx.append ?_;rw [Utf.lines, if_pos rfl]
   split
   ·exact ih
   ·exact V.append (V.one (c := 10) (by decide) (by decide)) ih
/-! ### Names -/
theorem nameR_take {r : Tx} (h : V r) (h0 : nameL r ≠ 0) : nameR (r.take (nameL r)) = true := by
 obtain ⟨rs, hr, rfl⟩ := h;have hge := E_ge hr;obtain ⟨qs, ss, h1, h2, h3, h4⟩ := name_split rs ((E rs).length + 1) true (by omega) hr;have h2' : nameL (E rs) = (E qs).length := h2;subst h1;have hq : ∀ r ∈ qs, Utf.Char (r : Nat) = true := fun r h => hr r (List.mem_append_left _ h)
 rw [h2', E_append, List.take_append_of_le_length (Nat.le_refl _), List.take_length];unfold nameR;rw [runesW_E (E qs) qs 0 hq (by rw [List.drop_zero])]
 cases qs with
 | nil => rw [h2'] at h0; exact absurd rfl h0
 | cons q qs =>
  simp only;rw [h4 rfl q rfl, h3 q (List.mem_cons_self ..), Bool.true_and, Bool.true_and, List.all_eq_true];exact fun x hx => h3 x (List.mem_cons_of_mem _ hx)
theorem name_V {r x : Tx} {n : Nat} (hv : V r) (h : name r = .ok x n) : nameR x = true /\ V x /\ V (r.drop n) := by
 obtain ⟨h1, h2, rfl, rfl⟩ := name_len h;obtain ⟨g1, g2, _⟩ := nameL_V hv;exact ⟨nameR_take hv (by omega), g1, g2⟩
/-! ### What is gone past leaves a valid text -/
theorem blanks_V {r : Tx} (h : V r) : V (r.drop (blanks r)) := by
 have e : r = r.takeWhile Qx.blank ++ r.drop (blanks r) := by
  have h1 := takeWhile_take Qx.blank r;unfold blanks;rw [<- h1]
  conv => lhs; rw [<- List.take_append_drop (r.takeWhile Qx.blank).length r]
  rw [h1]
 rw [e] at h;refine h.drop fun c hc => ?_
 have hb := takeWhile_all Qx.blank r c hc;unfold Qx.blank Blank at hb;simp at hb;omega
theorem eat_V {t r : Tx} {n : Nat} (hv : V r) (h : eat t r = .ok () n) (ht : ∀ c ∈ t, c.toNat < 128) : V (r.drop n) := by
 have key : ∀ {t r : Tx} {n : Nat}, eat t r = .ok () n -> r = t ++ r.drop n := by
  intro t
  induction t with
  | nil =>
   intro r n h;injection h with _ h;subst h;simp
  | cons c t ih =>
   intro r n h
   cases r with
   | nil => cases h
   | cons b r =>
    rw [eat] at h
    split at h
    ·rename_i hb
     obtain ⟨m, hm, rfl⟩ := shift_ok h;have := ih hm;rw [Nat.add_comm 1 m, List.drop_succ_cons, List.cons_append, <- this, hb]
    ·cases h
 rw [key h] at hv;exact hv.drop ht
theorem upto_V {c : UInt8} {t r x : Tx} {n : Nat} (hv : V r) (h : upto (c :: t) r = .ok x n) (ht : ∀ b ∈ c :: t, b.toNat < 128) : V x /\ V (r.drop n) := by
 obtain ⟨g1, g2, y, g3⟩ := upto_len h;have hc := ht c (List.mem_cons_self ..)
 have e : r.drop n = y := by
  rw [g3, <- g2, <- List.length_append, List.drop_left]
 rw [e];rw [g3, List.append_assoc, List.cons_append] at hv;obtain ⟨k1, k2⟩ := V.cut hc hv;exact ⟨k1, k2.drop fun b hb => ht b (List.mem_cons_of_mem _ hb)⟩
theorem refV_char {t : Tx} {v : Nat} (h : refV t = some v) : Utf.Char (v : Nat) = true := by
 have hn : ∀ {base : Nat} {d : Tx} {v : Nat}, numR base d = some v -> Utf.Char (v : Nat) = true := by
  intro base d v h;unfold numR at h
  split at h
  ·cases h
  ·split at h
   ·split at h
    ·rename_i hc
     injection h with h;rw [<- h];exact hc
    ·cases h
   ·cases h
 unfold refV at h
 split at h
 ·exact hn h
 ·exact hn h
 ·unfold named at h
  repeat (split at h; · (injection h with h; rw [<- h]; decide))
  cases h
theorem refR_V {t v : Tx} {n : Nat} {c : UInt8} (hc : c.toNat < 128) (hv : V (c :: t)) (h : refR t = .ok v n) : V v /\ V ((c :: t).drop n) := by
 have hg := refR_len h;unfold refR at h
 cases hf : find [59] t with
 | none => rw [hf] at h; cases h
 | some m =>
  rw [hf] at h;simp only at h;obtain ⟨g1, y, g2⟩ := find_len hf
  cases hr : refV (t.take m) with
  | none => rw [hr] at h; cases h
  | some u =>
   rw [hr] at h;injection h with h1 h2;subst h1; subst h2
   refine ⟨V.enc (refV_char hr), ?_⟩;have hvt := hv.tail hc;rw [g2, List.append_assoc] at hvt;obtain ⟨_, k2⟩ := V.cut (c := 59) (by decide) hvt
   have e : (c :: t).drop (m + 2) = y := by
    rw [show m + 2 = (m + 1) + 1 by omega, List.drop_succ_cons]
    conv => lhs; rw [g2]
    have : (t.take m ++ [59]).length = m + 1 := by
     rw [List.length_append, List.length_take];simp at g1 ⊢;omega
    rw [<- this, List.drop_left]
   rw [e];exact k2
def Half (out r : Tx) : Prop := ∃ o p, out = o ++ p /\ V o /\ V (p ++ r)
theorem Half.nil {r : Tx} (h : V r) : Half [] r := ⟨[], [], rfl, V.nil, h⟩
theorem Half.cut {out t : Tx} {c : UInt8} (h : Half out (c :: t)) (hc : c.toNat < 128) : V out /\ V (c :: t) := by
 obtain ⟨o, p, rfl, h1, h2⟩ := h;exact ⟨h1.append (V.cut hc h2).1, V.cons hc h2⟩
theorem Half.put {out t : Tx} {c : UInt8} (h : Half out (c :: t)) : Half (out ++ [c]) t := by
 obtain ⟨o, p, rfl, h1, h2⟩ := h;exact ⟨o, p ++ [c], by simp, h1, by simpa using h2⟩
theorem line_V {c : UInt8} {t : Tx} (hc : c.toNat < 128) (h : V (c :: t)) : V ((c :: t).drop (line (c :: t))) := by
 unfold line
 split
 ·rename_i hp
  obtain ⟨x, hx⟩ := List.isPrefixOf_iff_prefix.1 (show ([13, 10] : Tx).isPrefixOf (c :: t) = true from hp);rw [<- hx] at h ⊢;exact V.drop (a := [13, 10]) (b := x) h (by decide)
 ·exact h.tail hc
theorem valF_V : ∀ {f : Nat} {q : UInt8} {r out v : Tx} {n : Nat}, q.toNat < 128 -> valF f q r out = .ok v n -> Half out r -> V v /\ V (r.drop n)
 | 0, q, r, out, v, n, _, h, _ => by cases h
 | f + 1, q, [], out, v, n, _, h, _ => by cases h
 | f + 1, q, c :: t, out, v, n, hq, h, hh => by
  rw [valF] at h
  split at h
  ·rename_i h1
   injection h with h2 h3;subst h2; subst h3; subst h1
   obtain ⟨k1, k2⟩ := hh.cut hq;exact ⟨k1, k2.tail hq⟩
  ·split at h
   ·cases h
   ·split at h
    ·rename_i h1
     subst h1;obtain ⟨k1, k2⟩ := hh.cut (by decide)
     cases hr : refR t with
     | bad e o => rw [hr] at h; cases h
     | ok u m =>
      rw [hr] at h;obtain ⟨p, hp, rfl⟩ := shift_ok h;obtain ⟨k3, k4⟩ := refR_V (by decide) k2 hr;rw [<- List.drop_drop];exact valF_V hq hp ⟨out ++ u, [], by simp, k1.append k3, k4⟩
    ·split at h
     ·rename_i h1
      have hc : c.toNat < 128 := by rcases h1 with rfl | rfl | rfl <;> decide
      obtain ⟨k1, k2⟩ := hh.cut hc;obtain ⟨p, hp, rfl⟩ := shift_ok h;rw [<- List.drop_drop];exact valF_V hq hp ⟨out ++ [32], [], by simp, k1.append (V.one (by decide) (by decide)), line_V hc k2⟩
     ·obtain ⟨p, hp, rfl⟩ := shift_ok h;rw [Nat.add_comm 1 p, List.drop_succ_cons];exact valF_V hq hp hh.put
theorem value_V {r v : Tx} {n : Nat} (hv : V r) (h : value r = .ok v n) : V v /\ V (r.drop n) := by
 cases r with
 | nil => cases h
 | cons q t =>
  rw [value] at h
  split at h
  ·rename_i h1
   have hq : q.toNat < 128 := by rcases h1 with rfl | rfl <;> decide
   obtain ⟨p, hp, rfl⟩ := shift_ok h;rw [Nat.add_comm 1 p, List.drop_succ_cons];exact valF_V hq hp (Half.nil (hv.tail hq))
  ·cases h
theorem textF_V : ∀ {f : Nat} {r out v : Tx} {n : Nat}, textF f r out = .ok v n -> Half out r -> V v /\ V (r.drop n)
 | 0, r, out, v, n, h, _ => by cases h
 | f + 1, [], out, v, n, h, hh => by
  injection h with h1 h2;subst h1; subst h2
  obtain ⟨o, p, rfl, k1, k2⟩ := hh;rw [List.append_nil] at k2;exact ⟨k1.append k2, V.nil⟩
 | f + 1, c :: t, out, v, n, h, hh => by
  rw [textF] at h
  split at h
  ·rename_i h1
   injection h with h2 h3;subst h2; subst h3; subst h1
   exact hh.cut (by decide)
  ·split at h
   ·rename_i h1
    subst h1;obtain ⟨k1, k2⟩ := hh.cut (by decide)
    cases hr : refR t with
    | bad e o => rw [hr] at h; cases h
    | ok u m =>
     rw [hr] at h;obtain ⟨p, hp, rfl⟩ := shift_ok h;obtain ⟨k3, k4⟩ := refR_V (by decide) k2 hr;rw [<- List.drop_drop];exact textF_V hp ⟨out ++ u, [], by simp, k1.append k3, k4⟩
   ·split at h
    ·rename_i h1
     subst h1;obtain ⟨k1, k2⟩ := hh.cut (by decide);obtain ⟨p, hp, rfl⟩ := shift_ok h;rw [<- List.drop_drop];exact textF_V hp ⟨out ++ [10], [], by simp, k1.append (V.one (by decide) (by decide)), line_V (by decide) k2⟩
    ·split at h
     ·cases h
     ·obtain ⟨p, hp, rfl⟩ := shift_ok h;rw [Nat.add_comm 1 p, List.drop_succ_cons];exact textF_V hp hh.put
/-! ### Tags -/
def AtV (a : At) : Prop := nameR a.1 = true /\ V a.2
theorem attr_V {there : List At} {r : Tx} {a : At} {n : Nat} (hv : V r) (h : attr there r = .ok a n) : AtV a /\ V (r.drop n) := by
 unfold attr at h
 cases hn : name r with
 | bad c o => rw [hn] at h; cases h
 | ok nm n1 =>
  rw [hn] at h;simp only at h;obtain ⟨g1, g2, g3⟩ := name_V hv hn
  split at h
  ·cases h
  ·split at h
   ·cases h
   ·rename_i u m he
    have g4 := blanks_V g3;rw [List.drop_drop] at g4;have g5 := eat_V g4 he (by decide);rw [List.drop_drop] at g5;have g6 := blanks_V g5;rw [List.drop_drop] at g6
    split at h
    ·cases h
    ·rename_i v n2 hval
     injection h with h1 h2;subst h1; subst h2
     obtain ⟨g7, g8⟩ := value_V g6 hval;rw [List.drop_drop] at g8;exact ⟨⟨g1, g7⟩, g8⟩
theorem tagF_V : ∀ {f : Nat} {r : Tx} {ats : List At} {v : Bool × List At} {n : Nat}, V r -> tagF f r ats = .ok v n -> (∀ a ∈ ats, AtV a) -> (∀ a ∈ v.2, AtV a) /\ V (r.drop n)
 | 0, r, ats, v, n, _, h, _ => by cases h
 | f + 1, r, ats, v, n, hv, h, ha => by
  have hb := blanks_V hv
  cases hd : r.drop (blanks r) with
  | nil => rw [tagF_nil f ats hd] at h; cases h
  | cons c t =>
   rw [hd] at hb;rw [tagF_cons f ats hd] at h
   by_cases h1 : c = 62
   ·rw [if_pos h1] at h;injection h with h2 h3;subst h2; subst h3; subst h1
    rw [<- List.drop_drop, hd];exact ⟨ha, hb.tail (by decide)⟩
   ·rw [if_neg h1] at h
    by_cases h2 : c = 47
    ·rw [if_pos h2] at h
     cases he : eat [47, 62] (c :: t) with
     | bad e o => rw [he] at h; cases h
     | ok u m =>
      rw [he] at h;injection h with h3 h4;subst h3; subst h4
      have := eat_V hb he (by decide);rw [<- List.drop_drop, hd];exact ⟨ha, this⟩
    ·rw [if_neg h2] at h
     by_cases h3 : blanks r = 0
     ·rw [if_pos h3] at h; cases h
     ·rw [if_neg h3] at h
      cases hat : attr ats (c :: t) with
      | bad e o => rw [hat] at h; cases h
      | ok a m =>
       rw [hat] at h;obtain ⟨p, hp, rfl⟩ := shift_ok h;obtain ⟨g1, g2⟩ := attr_V hb hat
       have g3 := tagF_V g2 hp (fun x hx => by
        rcases List.mem_append.1 hx with hx | hx
        ·exact ha x hx
        ·rw [List.mem_singleton.1 hx]; exact g1)
       rw [List.drop_drop] at g3;rw [<- List.drop_drop, <- List.drop_drop, hd, List.drop_drop];exact g3
def named_ (k : Nat) : Bool := k == 1 || k == 2 || k == 3 || k == 7
structure TokV (t : Tok) : Prop where
 kind : 1 <= t.kind /\ t.kind <= 7
 text : V t.text
 name : nameR t.name = named_ t.kind
 attrs : ∀ a ∈ t.attrs, AtV a
theorem nameR_nil : nameR [] = false := by decide +kernel
theorem hp_cut {p r : Tx} (h : Lib.hasPrefix r p = true) : ∃ x, r = p ++ x := by
 obtain ⟨x, hx⟩ := List.isPrefixOf_iff_prefix.1 (show p.isPrefixOf r = true from h);exact ⟨x, hx.symm⟩
theorem V.past {p r : Tx} (hv : V r) (h : Lib.hasPrefix r p = true) (hp : ∀ c ∈ p, c.toNat < 128) : V (r.drop p.length) := by
 obtain ⟨x, rfl⟩ := hp_cut h;rw [List.drop_left];exact V.drop hv hp
theorem tag_V {r : Tx} {t : Tok} {n : Nat} (hv : V (r.drop 1)) (h : tag r = .ok t n) : TokV t /\ V (r.drop n) /\ t.kind ≠ 4 := by
 unfold tag at h
 split at h
 ·cases h
 ·rename_i nm m hn
  obtain ⟨g1, g2, g3⟩ := name_V hv hn;rw [List.drop_drop] at g3
  split at h
  ·cases h
  ·rename_i e ats p ht
   injection h with h1 h2;subst h1; subst h2
   obtain ⟨g4, g5⟩ := tagF_V g3 ht (fun a ha => by cases ha);rw [List.drop_drop] at g5;exact ⟨⟨by cases e <;> simp, V.nil, by rw [g1]; cases e <;> rfl, g4⟩, g5, by cases e <;> simp⟩
theorem instr_V {r : Tx} {t : Tok} {n : Nat} (hv : V (r.drop 2)) (h : instr r = .ok t n) : TokV t /\ V (r.drop n) /\ t.kind ≠ 4 := by
 unfold instr at h
 split at h
 ·cases h
 ·rename_i nm m hn
  obtain ⟨g1, g2, g3⟩ := name_V hv hn;rw [List.drop_drop] at g3
  split at h
  ·cases h
  ·split at h
   ·split at h
    ·cases h
    ·rename_i u p he
     injection h with h1 h2;subst h1; subst h2
     have g4 := eat_V g3 he (by decide);rw [List.drop_drop] at g4;exact ⟨⟨by simp, V.nil, by rw [g1]; rfl, fun a ha => by cases ha⟩, g4, by simp⟩
   ·have g4 := blanks_V g3;rw [List.drop_drop] at g4
    split at h
    ·cases h
    ·rename_i x p hu
     injection h with h1 h2;subst h1; subst h2
     obtain ⟨g5, g6⟩ := upto_V g4 hu (by decide);rw [List.drop_drop] at g6;exact ⟨⟨by simp, V.lines _ (Nat.le_refl _) g5, by rw [g1]; rfl, fun a ha => by cases ha⟩, g6, by simp⟩
theorem comment_V {r : Tx} {t : Tok} {n : Nat} (hv : V (r.drop 4)) (h : comment r = .ok t n) : TokV t /\ V (r.drop n) /\ t.kind ≠ 4 := by
 unfold comment at h
 split at h
 ·cases h
 ·rename_i x m hu
  obtain ⟨g5, g6⟩ := upto_V hv hu (by decide);rw [List.drop_drop] at g6
  split at h
  ·cases h
  ·rename_i c y hd
   split at h
   ·rename_i hc
    injection h with h1 h2;subst h1; subst h2; subst hc
    rw [hd] at g6;rw [<- List.drop_drop, hd];exact ⟨⟨by simp, V.lines _ (Nat.le_refl _) g5, by rw [nameR_nil]; rfl, fun a ha => by cases ha⟩, g6.tail (by decide), by simp⟩
   ·cases h
theorem cdata_V {r : Tx} {t : Tok} {n : Nat} (hv : V (r.drop 9)) (h : cdata r = .ok t n) : TokV t /\ V (r.drop n) /\ t.kind ≠ 4 := by
 unfold cdata at h
 split at h
 ·cases h
 ·rename_i x m hu
  obtain ⟨g5, g6⟩ := upto_V hv hu (by decide);rw [List.drop_drop] at g6;injection h with h1 h2;subst h1; subst h2
  exact ⟨⟨by simp, V.lines _ (Nat.le_refl _) g5, by rw [nameR_nil]; rfl, fun a ha => by cases ha⟩, g6, by simp⟩
theorem endT_V {r : Tx} {t : Tok} {n : Nat} (hv : V (r.drop 2)) (h : endT r = .ok t n) : TokV t /\ V (r.drop n) /\ t.kind ≠ 4 := by
 unfold endT at h
 split at h
 ·cases h
 ·rename_i nm m hn
  obtain ⟨g1, g2, g3⟩ := name_V hv hn;rw [List.drop_drop] at g3;have g4 := blanks_V g3;rw [List.drop_drop] at g4
  split at h
  ·cases h
  ·rename_i u p he
   injection h with h1 h2;subst h1; subst h2
   have g5 := eat_V g4 he (by decide);rw [List.drop_drop] at g5;exact ⟨⟨by simp, V.nil, by rw [g1]; rfl, fun a ha => by cases ha⟩, g5, by simp⟩
theorem mark_V {r : Tx} {t : Tok} {n : Nat} (hv : V r) (h : mark r = .ok t n) : TokV t /\ V (r.drop n) /\ t.kind ≠ 4 := by
 unfold mark at h
 split at h
 ·rename_i hp
  exact comment_V (V.past hv hp (by decide)) h
 ·split at h
  ·rename_i hp
   exact cdata_V (V.past hv hp (by decide)) h
  ·split at h <;> cases h
theorem chars_V {r : Tx} {t : Tok} {n : Nat} (hv : V r) (h : chars r = .ok t n) : TokV t /\ V (r.drop n) /\ t.kind = 4 := by
 unfold chars at h
 split at h
 ·cases h
 ·rename_i x m ht
  injection h with h1 h2;subst h1; subst h2
  obtain ⟨g1, g2⟩ := textF_V ht (Half.nil hv);exact ⟨⟨by simp, g1, by rw [nameR_nil]; rfl, fun a ha => by cases ha⟩, g2, rfl⟩
theorem head_60 {r : Tx} (h : ¬ r.head? ≠ some 60) : ∃ t, r = 60 :: t := by
 cases r with
 | nil => exact absurd (by simp) h
 | cons c t =>
  simp at h;exact ⟨t, by rw [h]⟩
theorem token_V {r : Tx} {t : Tok} {n : Nat} (hv : V r) (h : token r = .ok t n) : TokV t /\ V (r.drop n) /\ (t.kind = 4 ↔ r.head? ≠ some 60) := by
 unfold token at h
 split at h
 ·rename_i h1
  obtain ⟨g1, g2, g3⟩ := chars_V hv h;exact ⟨g1, g2, fun _ => h1, fun _ => g3⟩
 ·rename_i h1
  have fin : (TokV t /\ V (r.drop n) /\ t.kind ≠ 4) -> TokV t /\ V (r.drop n) /\ (t.kind = 4 ↔ r.head? ≠ some 60) := fun ⟨g1, g2, g3⟩ => ⟨g1, g2, fun e => absurd e g3, fun e => absurd e h1⟩
  split at h
  ·exact fin (mark_V hv h)
  ·split at h
   ·rename_i hp
    exact fin (instr_V (V.past hv hp (by decide)) h)
   ·split at h
    ·rename_i hp
     exact fin (endT_V (V.past hv hp (by decide)) h)
    ·obtain ⟨s, rfl⟩ := head_60 h1;exact fin (tag_V (hv.tail (by decide)) h)
theorem decl_V {S : Tx} {n : Nat} (hv : V S) (h : decl S = .ok () n) : V (S.drop n) := by
 unfold decl at h
 split at h
 ·rename_i hp
  have g1 := V.past hv hp.1 (by decide)
  split at h
  ·cases h
  ·rename_i x m hu
   obtain ⟨_, g2⟩ := upto_V (r := S.drop 5) g1 hu (by decide);rw [List.drop_drop] at g2
   split at h
   ·injection h with _ h2;subst h2;exact g2
   ·cases h
 ·injection h with _ h2;subst h2;exact hv
end Go.Proofs.YtokdnhdfmgfkeaaGreatDoor.Xl
end

section
namespace Go.Proofs.YtokdnhdfmgfkeaaGreatDoor.Xl
open Go.RowKit UtfW Qx
def Next (a b : Tok) : Prop := a.at_ < b.at_ /\ ¬(a.kind = 4 /\ b.kind = 4)
end Go.Proofs.YtokdnhdfmgfkeaaGreatDoor.Xl
end
