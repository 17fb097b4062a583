/- Methods of the document's scanner, whatever its code is at their start; what the walk of a token keeps. Printed by xr_step.py. -/
import Derived.Test.YtokdnhdfmgfkeaaGreatDoorMRowS
import Derived.Test.YtokdnhdfmgfkeaaGreatDoorMXlRname
import Derived.Test.YtokdnhdfmgfkeaaGreatDoorMStrs
import Derived.Test.YtokdnhdfmgfkeaaGreatDoorMXtSame
import Derived.Test.YtokdnhdfmgfkeaaGreatDoorMXlScan
import Derived.Deep.QuietTactic
import Derived.BigQuiet
import Derived.Test.YtokdnhdfmgfkeaaGreatDoorMXnTok
section
namespace Go.Proofs.YtokdnhdfmgfkeaaGreatDoor.Xu
open Go.RowKit
def OwT (w : World) (B E : Nat) (v : Value) (ss : List ByteArray) : Prop := w.ownsRow B E 1 v ss.length (ss.map Value.string)
theorem OwT.ss {w : World} {B E : Nat} {A : Option Addr} {n c : Nat} {ss : List ByteArray} (h : OwT w B E (.slice A n c) ss) : Ss w A n c ss := by
 obtain ⟨A', c', e⟩ := ownsRow_form h;injection e with e1 e2 e3;subst e2;exact rd_of_own h
theorem owt_empty (w : World) (B : Nat) (hB : B <= w.heap.size) (E : TypeId) : OwT (w.alloc (.cells #[] E)) B E (.slice (some ⟨w.heap.size, 0, none⟩) 0 0) [] :=
 ⟨by simp, .inr ⟨_, _, #[], rfl, hB, heap_alloc_new w _, Nat.le_refl _, by unfold maxLen; omega, by simp, by simp⟩⟩
section
variable {P : Program} {ops : Array Oper} {rest : List Oper} {o : Oper} {a : Act} {Q : Exit -> Act -> World -> Prop}
theorem append_ss (w : World) (t e : TypeId) (ht : P.underlying t = some (.slice e))
  (hinfo : (P.info? e).map (fun i => (i.zero, i.size, i.bytes)) = some (some (.string ByteArray.empty), 1, 16))
  (hgd : o.guard = none) (s x : Operand)
  (ho : o.op = .call { callee := .builtin .append, args := #[s, x], argTypes := #[t, t] })
  (B : Nat) (v : Value) (la : List ByteArray) (hs : a.eval s = v) (hown : OwT w B e v la)
  (A : Option Addr) (m c : Nat) (lb : List ByteArray) (hx : a.eval x = .slice A m c) (hr : Ss w A m c lb)
  (N : Nat) (hN : la.length + m = N) (hsz : N <= 1000000) (hB : B <= w.heap.size)
  (h : ∀ A' c' w', OwT w' B e (.slice A' N c') (la ++ lb) -> w.grownBy w' v.ownBlock -> Below B w w' -> wpList P ops Q rest (a.put o.dst (.slice A' N c')) w') :
  wpList P ops Q (o :: rest) a w := by
 refine wpList_append_rd w hgd s x t ho B e (.string ByteArray.empty) 16 ht hinfo rfl v la.length (la.map Value.string) hs hown A m c (lb.map Value.string) hx hr (fun u hu => ?_) (by omega) (by omega) hB ?_
 ·obtain ⟨s, _, rfl⟩ := List.mem_map.1 hu;rfl
 intro A' c' w' h1 h2 h3 _;have hl := hr.len;rw [hN] at h1 ⊢;refine h A' c' w' ?_ h2 h3;unfold OwT;rw [List.map_append, List.length_append, show la.length + lb.length = N from by omega];exact h1
end
open Go.ChangeShapes in
theorem info_str : (Tryz.prog.info? 9).map (fun i => (i.zero, i.size, i.bytes)) = some (some (.string ByteArray.empty), 1, 16) := by kernel_rfl
end Go.Proofs.YtokdnhdfmgfkeaaGreatDoor.Xu
end

section
namespace Go.Proofs.YtokdnhdfmgfkeaaGreatDoor.Xt
open Go.RowKit UtfW Xl Xo
section
variable (ts : List Tok) (A : Option Addr) (n c Bt len : Nat) (w : World)
set_option maxHeartbeats 16000000 in
set_option maxRecDepth 100000 in
theorem scan_any (hn : n <= 1000000) (hk : Ok ts) (hx : ∀ t ∈ ts, t.kind = 4 -> t.text.length <= 1000000) (hat : ∀ t ∈ ts, t.kind = 1 \/ t.kind = 2 -> t.attrs.length <= 400000) (hB : Bt <= w.heap.size) (hQ : Sq (TkP ⟨0, Bt⟩) 5 w A n c ts) :
  Calls Tryz.prog 64 #[.slice A n c, .int .i64 (len : Nat)] w fun e w' => Below w.heap.size w w' /\ e = .returned (.tuple #[.int .i64 (scanF len ts).1, .int .i64 ((scanF len ts).2 : Nat)]) := by
 have hl : ts.length = n := hQ.len;replace hk := Hd hk;replace hx := Hd hx;replace hat := Hd hat;replace hl := Hd hl;obtain ⟨B, hBe⟩ : ∃ B, w.heap.size = B := ⟨_, rfl⟩
 have hQx : Hid (∀ x, Below B w x -> Sq (TkP ⟨0, Bt⟩) 5 x A n c ts) := Hd fun x hx => by
  rw [<- hBe] at hx;exact Sq.kept_ hQ hx fun vs t ht => TkP.below ht (hx.mono hB)
 have hbw : Hid (Below B w w /\ B <= w.heap.size) := Hd (by rw [<- hBe]; exact ⟨Below.refl _ _, Nat.le_refl _⟩);have hBB : Hid (Bt <= B) := Hd (by omega);obtain ⟨P, hP⟩ : ∃ P : Ending -> World -> Prop, (fun e w' => Below w.heap.size w w' /\ e = .returned (.tuple #[.int .i64 (scanF len ts).1, .int .i64 ((scanF len ts).2 : Nat)])) = P := ⟨_, rfl⟩;rw [hP]
 have hfin : Hid (∀ (e : Int) (a : Nat) w', Below B w w' -> scanF len ts = (e, a) -> P (.returned (.tuple #[.int .i64 e, .int .i64 (a : Nat)])) w') := Hd fun e a w' h1 h2 => by
  rw [<- hP];rw [<- hBe] at h1;exact ⟨h1, by rw [h2]⟩
 clear hQ hB hBe hP
 go_enter Tryz.func64, Tryz.ntmps64
 go_wp2_with fail
 go_loopw [6, 7, 8, 9, 10] (fun v6 v7 v8 v9 v10 x => ∃ Ao co lo N i, ∃ R Wi : Bool, v6 = .slice Ao lo co /\ v7 = .bool R /\ v8 = .int .i64 ((N : Nat) : Int) /\ v9 = .bool Wi /\ v10 = .int .i64 ((i : Nat) : Int) /\ lo <= 32 /\ N <= 4096 /\ i <= n ∧
  Hid (Below B w x /\ B <= x.heap.size /\ ∃ o : List Tx, o.length = lo /\ Xu.OwT x B 9 (.slice Ao lo co) (o.reverse.map strOf) /\ scanR ts .start = scanR (ts.drop i) ⟨o, R, N, Wi⟩)) (fun _ _ _ _ v10 _ => n - (intOf v10).toNat)
 case atStart => exact ⟨none, 0, 0, 0, 0, false, false, rfl, rfl, rfl, rfl, rfl, by omega, by omega, by omega, Hd ⟨hbw.out.1, hbw.out.2, [], rfl, World.ownsRow_nil _ _ _ _, rfl⟩⟩
 case round =>
  obtain ⟨Ao, co, lo, N, i, R, Wi, rfl, rfl, rfl, rfl, rfl, hlo, hN, hi, hR⟩ := hrel
  by_cases hlt : i < n
  ·have i1 : decide ((i : Int) < (n : Int)) = true := by simp; omega
   have q1 : (i : Int) < (n : Int) := by omega
   obtain ⟨hbx, hszx, o, hol, hO, hF⟩ := hR.out;have hQr := hQx.out _ hbx;have hmx := hQr.max;have hle := hQr.le;obtain ⟨b1, off1, t, vs1, rfl, hbl, ht1, _, hv1, hc1⟩ := hQr.at_ hlt;have hkt := hk.out t (List.mem_of_getElem? ht1);have htx := hx.out t (List.mem_of_getElem? ht1);have hat1 := Hd (hat.out t (List.mem_of_getElem? ht1));obtain ⟨Aa, ca, rfl, hAs, hAx⟩ := hv1;have m0 := hc1 0 _ rfl;rw [Nat.add_zero] at m0;have m1 := hc1 1 _ rfl;have m2 := hc1 2 _ rfl;have m3 := hc1 3 _ rfl;have m4 := hc1 4 _ rfl;obtain ⟨kd, ta, nm, tx, ats⟩ := t;have hkt : 1 <= kd /\ kd <= 7 := hkt.1;change wr.cell? ⟨b1, off1 + i * 5, none⟩ = some (.int .i64 (kd : Nat)) at m0;obtain ⟨la, hla⟩ : ∃ la, ats.length = la := ⟨_, rfl⟩;simp only [hla] at m1 m2 m3 m4;have ht1H := Hd ht1;have hFH := Hd hF;have hOH := Hd hO;have hbxH := Hd hbx;have hszxH := Hd hszx;have htxH := Hd htx;have hcs : kd = 1 \/ kd = 2 \/ kd = 3 \/ kd = 4 \/ kd = 5 \/ kd = 6 \/ kd = 7 := by omega
   clear hkt hQr hbl hc1 hR hAs hAx ht1 hF hO hbx hszx htx;rcases hcs with rfl | rfl | rfl | rfl | rfl | rfl | rfl
   ·rw [show (((1 : Nat) : Int)) = 1 from rfl] at m0;have hbt := below_alloc wr (.cells #[.int .i64 1, .int .i64 (ta : Nat), .string (strOf nm), .string (strOf tx), .slice Aa la ca] 87);have hnt := heap_alloc_new wr (.cells #[.int .i64 1, .int .i64 (ta : Nat), .string (strOf nm), .string (strOf tx), .slice Aa la ca] 87);obtain ⟨T, hTe⟩ : ∃ T, wr.heap.size = T := ⟨_, rfl⟩;obtain ⟨x1, hx1⟩ : ∃ x1, wr.alloc (.cells #[.int .i64 1, .int .i64 (ta : Nat), .string (strOf nm), .string (strOf tx), .slice Aa la ca] 87) = x1 := ⟨_, rfl⟩;rw [hx1] at hbt hnt;rw [hTe] at hnt;have t0 : x1.cell? ⟨T, 0, none⟩ = some (.int .i64 1) := cell_blk hnt rfl;have t1 : x1.cell? ⟨T, 1, none⟩ = some (.int .i64 (ta : Nat)) := cell_blk hnt rfl;have t2 : x1.cell? ⟨T, 2, none⟩ = some (.string (strOf nm)) := cell_blk hnt rfl;have t3 : x1.cell? ⟨T, 3, none⟩ = some (.string (strOf tx)) := cell_blk hnt rfl;have t4 : x1.cell? ⟨T, 4, none⟩ = some (.slice Aa la ca) := cell_blk hnt rfl;have hbtH := Hd hbt;have hntH := Hd hnt;have hBx1 := Hd (hbxH.out.trans (hbt.mono hszxH.out));have hsz1 := Hd (Nat.le_trans hszxH.out hbt.size);have hO1 := Hd (World.ownsRow.kept hOH.out (grown_in (r := none) hbt) (by cases hv : (Value.slice Ao lo co).ownBlock with | none => exact .inl rfl | some b => exact .inr (by simp)));have hTn := Hd (fun k hk => (hTe ▸ (World.ownsRow.lt hOH.out k hk).2 : k < T));clear hbt hnt;have q2 : ats.length <= 400000 := hat1.out (.inl rfl);rw [hla] at q2;have q3 : (la : Int) <= 400000 := by omega
    by_cases d1 : 32 <= lo
    ·have g1 : decide ((lo : Int) ≥ 32) = true := by simp; omega
     have g2 : decide ((32 : Int) <= (lo : Int)) = true := by simp; omega
     have hfin' := Hd (hfin.out 7 ta _ hBx1.out.drew (scan_err ht1H.out hFH.out (sc_deep (.inl rfl) (by omega))));go_wp2_with fail
     go_region
     go_wp2_with fail;exact hfin'.out
    ·have g1 : decide ((lo : Int) ≥ 32) = false := by simp; omega
     have g2 : decide ((32 : Int) <= (lo : Int)) = false := by simp; omega
     by_cases d2 : 4096 < N + (1 + la)
     ·have g3 : decide ((N : Int) + 1 + (la : Int) > 4096) = true := by simp; omega
      have g4 : decide ((4096 : Int) < (N : Int) + 1 + (la : Int)) = true := by simp; omega
      have hfin' := Hd (hfin.out 8 ta _ hBx1.out.drew (scan_err ht1H.out hFH.out (sc_many (.inl rfl) (by omega) (by show 4096 < N + (1 + ats.length); omega))));go_wp2_with fail
      go_region
      go_wp2_with fail;exact hfin'.out
     ·have g3 : decide ((N : Int) + 1 + (la : Int) > 4096) = false := by simp; omega
      have g4 : decide ((4096 : Int) < (N : Int) + 1 + (la : Int)) = false := by simp; omega
      by_cases d3 : lo = 0
      ·subst d3;have hoe : o = [] := List.length_eq_zero_iff.1 hol
       cases R with
       | true =>
        have hfin' := Hd (hfin.out 2 ta _ hBx1.out.drew (scan_err ht1H.out hFH.out (sc_two (.inl rfl) (by omega) (by show ¬ 4096 < N + (1 + ats.length); omega) ⟨hoe, rfl⟩)));go_wp2_with fail
        go_region
        go_wp2_with fail;exact hfin'.out
       | false =>
        have hF' := Hd (scan_ok ht1H.out hFH.out (sc_start (.inl rfl) (by omega) (by show ¬ 4096 < N + (1 + ats.length); omega) (fun e => absurd e.2 (by decide))));have hbl9 := below_alloc x1 (.cells #[.string (strOf nm)] 9);have hO9 := Hd (World.ownsRow.kept hO1.out (grown_in (r := none) hbl9) (by cases hv : (Value.slice Ao 0 co).ownBlock with | none => exact .inl rfl | some b => exact .inr (by simp)));have hB9 := Hd (hBx1.out.trans (hbl9.mono hsz1.out));have hs9 := Hd (Nat.le_trans hsz1.out hbl9.size);have hz : Hid (Ss (x1.alloc (.cells #[.string (strOf nm)] 9)) (some ⟨x1.heap.size, 0, none⟩) 1 1 [strOf nm]) := Hd (Xu.OwT.ss (B := 0) (E := 9) (World.ownsRow_lit (base := 0) (size := 1) (e := 9) x1 #[.string (strOf nm)] 1 (Nat.zero_le _) (by unfold maxLen; omega) rfl))
        go_wp2_with (at_builtin; apply stop_here)
        refine Stop.go (Xu.append_ss _ 143 9 Tryz.underlying143 Xu.info_str rfl _ _ rfl B _ _ rfl hO9.out _ 1 1 _ rfl hz.out (0 + 1) (by rw [List.length_map, List.length_reverse, hol]) (by omega) hs9.out ?_);intro A8 c8 x8 ho8 hg8 hb8;have ho8' : Hid (Xu.OwT x8 B 9 (.slice A8 (0 + 1) c8) ((nm :: o).reverse.map strOf)) := Hd (by simpa using ho8);have hB8 := Hd (hB9.out.trans hb8);have hs8 := Hd (Nat.le_trans hs9.out hg8.size);have hT8 : x8.heap[T]? = _ := (hg8.block T (Nat.lt_of_lt_of_le (Array.getElem?_eq_some_iff.1 hntH.out).1 hbl9.size) (fun e => by have := hTn.out T e.symm; omega)).trans ((hbl9.block T (Array.getElem?_eq_some_iff.1 hntH.out).1).trans hntH.out);have w0 : x8.cell? ⟨T, 0, none⟩ = some (.int .i64 1) := cell_blk hT8 rfl;clear ho8 hg8 hb8 hO9 hz hB9 hs9 hT8 hbl9;go_wp2_with fail;go_roundw
        case rel => exact ⟨A8, c8, 0 + 1, N + (1 + la), i + 1, true, false, rfl, rfl, by go_num, rfl, by go_num, by omega, by omega, by omega, Hd ⟨hB8.out, hs8.out, nm :: o, by rw [List.length_cons, hol], ho8'.out, by have h := hF'.out; rw [<- hla]; exact h⟩⟩
        case measure => simp [intOf]; omega
      ·have g5 : ((lo : Int) == 0) = false := by simp; omega
       have g6 : (lo == 0) = false := by simp; omega
       have hF' := Hd (scan_ok ht1H.out hFH.out (sc_start (.inl rfl) (by omega) (by show ¬ 4096 < N + (1 + ats.length); omega) (fun e => d3 (by rw [<- hol, e.1]; rfl))));have hbl9 := below_alloc x1 (.cells #[.string (strOf nm)] 9);have hO9 := Hd (World.ownsRow.kept hO1.out (grown_in (r := none) hbl9) (by cases hv : (Value.slice Ao lo co).ownBlock with | none => exact .inl rfl | some b => exact .inr (by simp)));have hB9 := Hd (hBx1.out.trans (hbl9.mono hsz1.out));have hs9 := Hd (Nat.le_trans hsz1.out hbl9.size);have hz : Hid (Ss (x1.alloc (.cells #[.string (strOf nm)] 9)) (some ⟨x1.heap.size, 0, none⟩) 1 1 [strOf nm]) := Hd (Xu.OwT.ss (B := 0) (E := 9) (World.ownsRow_lit (base := 0) (size := 1) (e := 9) x1 #[.string (strOf nm)] 1 (Nat.zero_le _) (by unfold maxLen; omega) rfl))
       go_wp2_with (at_builtin; apply stop_here)
       refine Stop.go (Xu.append_ss _ 143 9 Tryz.underlying143 Xu.info_str rfl _ _ rfl B _ _ rfl hO9.out _ 1 1 _ rfl hz.out (lo + 1) (by rw [List.length_map, List.length_reverse, hol]) (by omega) hs9.out ?_);intro A8 c8 x8 ho8 hg8 hb8;have ho8' : Hid (Xu.OwT x8 B 9 (.slice A8 (lo + 1) c8) ((nm :: o).reverse.map strOf)) := Hd (by simpa using ho8);have hB8 := Hd (hB9.out.trans hb8);have hs8 := Hd (Nat.le_trans hs9.out hg8.size);have hT8 : x8.heap[T]? = _ := (hg8.block T (Nat.lt_of_lt_of_le (Array.getElem?_eq_some_iff.1 hntH.out).1 hbl9.size) (fun e => by have := hTn.out T e.symm; omega)).trans ((hbl9.block T (Array.getElem?_eq_some_iff.1 hntH.out).1).trans hntH.out);have w0 : x8.cell? ⟨T, 0, none⟩ = some (.int .i64 1) := cell_blk hT8 rfl;clear ho8 hg8 hb8 hO9 hz hB9 hs9 hT8 hbl9;go_wp2_with fail;go_roundw
       case rel => exact ⟨A8, c8, lo + 1, N + (1 + la), i + 1, true, false, rfl, rfl, by go_num, rfl, by go_num, by omega, by omega, by omega, Hd ⟨hB8.out, hs8.out, nm :: o, by rw [List.length_cons, hol], ho8'.out, by have h := hF'.out; rw [<- hla]; exact h⟩⟩
       case measure => simp [intOf]; omega
   ·rw [show (((2 : Nat) : Int)) = 2 from rfl] at m0;have hbt := below_alloc wr (.cells #[.int .i64 2, .int .i64 (ta : Nat), .string (strOf nm), .string (strOf tx), .slice Aa la ca] 87);have hnt := heap_alloc_new wr (.cells #[.int .i64 2, .int .i64 (ta : Nat), .string (strOf nm), .string (strOf tx), .slice Aa la ca] 87);obtain ⟨T, hTe⟩ : ∃ T, wr.heap.size = T := ⟨_, rfl⟩;obtain ⟨x1, hx1⟩ : ∃ x1, wr.alloc (.cells #[.int .i64 2, .int .i64 (ta : Nat), .string (strOf nm), .string (strOf tx), .slice Aa la ca] 87) = x1 := ⟨_, rfl⟩;rw [hx1] at hbt hnt;rw [hTe] at hnt;have t0 : x1.cell? ⟨T, 0, none⟩ = some (.int .i64 2) := cell_blk hnt rfl;have t1 : x1.cell? ⟨T, 1, none⟩ = some (.int .i64 (ta : Nat)) := cell_blk hnt rfl;have t2 : x1.cell? ⟨T, 2, none⟩ = some (.string (strOf nm)) := cell_blk hnt rfl;have t3 : x1.cell? ⟨T, 3, none⟩ = some (.string (strOf tx)) := cell_blk hnt rfl;have t4 : x1.cell? ⟨T, 4, none⟩ = some (.slice Aa la ca) := cell_blk hnt rfl;have hbtH := Hd hbt;have hntH := Hd hnt;have hBx1 := Hd (hbxH.out.trans (hbt.mono hszxH.out));have hsz1 := Hd (Nat.le_trans hszxH.out hbt.size);have hO1 := Hd (World.ownsRow.kept hOH.out (grown_in (r := none) hbt) (by cases hv : (Value.slice Ao lo co).ownBlock with | none => exact .inl rfl | some b => exact .inr (by simp)));have hTn := Hd (fun k hk => (hTe ▸ (World.ownsRow.lt hOH.out k hk).2 : k < T));clear hbt hnt;have q2 : ats.length <= 400000 := hat1.out (.inr rfl);rw [hla] at q2;have q3 : (la : Int) <= 400000 := by omega
    by_cases d1 : 32 <= lo
    ·have g1 : decide ((lo : Int) ≥ 32) = true := by simp; omega
     have g2 : decide ((32 : Int) <= (lo : Int)) = true := by simp; omega
     have hfin' := Hd (hfin.out 7 ta _ hBx1.out.drew (scan_err ht1H.out hFH.out (sc_deep (.inr rfl) (by omega))));go_wp2_with fail
     go_region
     go_wp2_with fail;exact hfin'.out
    ·have g1 : decide ((lo : Int) ≥ 32) = false := by simp; omega
     have g2 : decide ((32 : Int) <= (lo : Int)) = false := by simp; omega
     by_cases d2 : 4096 < N + (1 + la)
     ·have g3 : decide ((N : Int) + 1 + (la : Int) > 4096) = true := by simp; omega
      have g4 : decide ((4096 : Int) < (N : Int) + 1 + (la : Int)) = true := by simp; omega
      have hfin' := Hd (hfin.out 8 ta _ hBx1.out.drew (scan_err ht1H.out hFH.out (sc_many (.inr rfl) (by omega) (by show 4096 < N + (1 + ats.length); omega))));go_wp2_with fail
      go_region
      go_wp2_with fail;exact hfin'.out
     ·have g3 : decide ((N : Int) + 1 + (la : Int) > 4096) = false := by simp; omega
      have g4 : decide ((4096 : Int) < (N : Int) + 1 + (la : Int)) = false := by simp; omega
      by_cases d3 : lo = 0
      ·subst d3;have hoe : o = [] := List.length_eq_zero_iff.1 hol
       cases R with
       | true =>
        have hfin' := Hd (hfin.out 2 ta _ hBx1.out.drew (scan_err ht1H.out hFH.out (sc_two (.inr rfl) (by omega) (by show ¬ 4096 < N + (1 + ats.length); omega) ⟨hoe, rfl⟩)));go_wp2_with fail
        go_region
        go_wp2_with fail;exact hfin'.out
       | false =>
        have hF' := Hd (scan_ok ht1H.out hFH.out (sc_start (.inr rfl) (by omega) (by show ¬ 4096 < N + (1 + ats.length); omega) (fun e => absurd e.2 (by decide))));go_wp2_with fail;go_roundw
        case rel => exact ⟨Ao, co, 0, N + (1 + la), i + 1, true, false, rfl, rfl, by go_num, rfl, by go_num, by omega, by omega, by omega, Hd ⟨hBx1.out, hsz1.out, o, hol, hO1.out, by have h := hF'.out; rw [if_neg (by simp)] at h; rw [<- hla]; exact h⟩⟩
        case measure => simp [intOf]; omega
      ·have g5 : ((lo : Int) == 0) = false := by simp; omega
       have g6 : (lo == 0) = false := by simp; omega
       have hF' := Hd (scan_ok ht1H.out hFH.out (sc_start (.inr rfl) (by omega) (by show ¬ 4096 < N + (1 + ats.length); omega) (fun e => d3 (by rw [<- hol, e.1]; rfl))));go_wp2_with fail;go_roundw
       case rel => exact ⟨Ao, co, lo, N + (1 + la), i + 1, true, false, rfl, rfl, by go_num, rfl, by go_num, by omega, by omega, by omega, Hd ⟨hBx1.out, hsz1.out, o, hol, hO1.out, by have h := hF'.out; rw [if_neg (by simp)] at h; rw [<- hla]; exact h⟩⟩
       case measure => simp [intOf]; omega
   ·rw [show (((3 : Nat) : Int)) = 3 from rfl] at m0;have hbt := below_alloc wr (.cells #[.int .i64 3, .int .i64 (ta : Nat), .string (strOf nm), .string (strOf tx), .slice Aa la ca] 87);have hnt := heap_alloc_new wr (.cells #[.int .i64 3, .int .i64 (ta : Nat), .string (strOf nm), .string (strOf tx), .slice Aa la ca] 87);obtain ⟨T, hTe⟩ : ∃ T, wr.heap.size = T := ⟨_, rfl⟩;obtain ⟨x1, hx1⟩ : ∃ x1, wr.alloc (.cells #[.int .i64 3, .int .i64 (ta : Nat), .string (strOf nm), .string (strOf tx), .slice Aa la ca] 87) = x1 := ⟨_, rfl⟩;rw [hx1] at hbt hnt;rw [hTe] at hnt;have t0 : x1.cell? ⟨T, 0, none⟩ = some (.int .i64 3) := cell_blk hnt rfl;have t1 : x1.cell? ⟨T, 1, none⟩ = some (.int .i64 (ta : Nat)) := cell_blk hnt rfl;have t2 : x1.cell? ⟨T, 2, none⟩ = some (.string (strOf nm)) := cell_blk hnt rfl;have t3 : x1.cell? ⟨T, 3, none⟩ = some (.string (strOf tx)) := cell_blk hnt rfl;have t4 : x1.cell? ⟨T, 4, none⟩ = some (.slice Aa la ca) := cell_blk hnt rfl;have hbtH := Hd hbt;have hntH := Hd hnt;have hBx1 := Hd (hbxH.out.trans (hbt.mono hszxH.out));have hsz1 := Hd (Nat.le_trans hszxH.out hbt.size);have hO1 := Hd (World.ownsRow.kept hOH.out (grown_in (r := none) hbt) (by cases hv : (Value.slice Ao lo co).ownBlock with | none => exact .inl rfl | some b => exact .inr (by simp)));have hTn := Hd (fun k hk => (hTe ▸ (World.ownsRow.lt hOH.out k hk).2 : k < T));clear hbt hnt
    by_cases d3 : lo = 0
    ·subst d3;have hoe : o = [] := List.length_eq_zero_iff.1 hol;rw [hoe] at hFH;have hse := Hd (scan_err (len := len) ht1H.out hFH.out (sc_end0 rfl));go_wp2_with fail
     go_big_quiet (fail)
     go_wp2_with fail
     go_region
     go_wp2_with fail;refine hfin.out 3 ta _ ?_ hse.out
     first | exact hBx1.out.drew.drew | exact hBx1.out.drew | exact (hBx1.out.trans ((Joins.below_draws _ _ _).mono hsz1.out)) | exact (hBx1.out.trans ((Joins.below_draws _ _ _).mono hsz1.out)).drew
    ·have g5 : ((lo : Int) == 0) = false := by simp; omega
     have g6 : (lo == 0) = false := by simp; omega
     obtain ⟨p, hp⟩ : ∃ l, lo = l + 1 := ⟨lo - 1, by omega⟩
     obtain ⟨z, o, rfl⟩ : ∃ z o', o = z :: o' := by
      cases o with
      | nil => exact absurd hol.symm (by simpa using d3)
      | cons z o => exact ⟨z, o, rfl⟩
     have hol : o.length = p := by simp at hol; omega
     have hS := Xu.OwT.ss hO1.out;have hmS := Rd.max hS;have hlS := Rd.le hS;obtain ⟨b3, off3, eS, hbS, hcS⟩ := Rd.cell hS (by omega);subst eS;have y0 := hcS p (.string (strOf z)) (by simp [List.getElem?_append_right, hol]);have e1 : (lo : Int) - 1 = (p : Int) := (by omega);have e2 : IntKind.i64.wrap ((lo : Int) - 1) = (p : Int) := by rw [e1]; exact wrap_nat_ p (by omega)
     have q5 : (p : Int) < (lo : Int) := (by omega);have q6 : p < lo := (by omega);have hpH := Hd hp;have hlo' : p + 1 <= 32 := (by omega);clear hcS hbS e1 hp
     by_cases d4 : z = nm
     ·subst d4
      have hst : Hid (Ss x1 (some ⟨b3, off3, none⟩) p co (o.reverse.map strOf)) := Hd (by
       have h := Rd.cut hS 0 p (Nat.zero_le _) (by omega) (some ⟨b3, off3, none⟩) (fun b off e _ => by rw [e]; rfl) (fun e => by cases e) (fun _ => by simp);rw [Nat.sub_zero, Nat.sub_zero, List.drop_zero] at h;unfold Ss;have e : ((z :: o).reverse.map strOf).map Value.string = ((o.reverse.map strOf).map Value.string) ++ [.string (strOf z)] := (by simp);rw [e, List.take_append_of_le_length (by simp [hol]), List.take_of_length_le (by simp [hol])] at h
       exact h)
      have se : ((strOf z).toList == (strOf z).toList) = true := beq_self_eq_true _;have se2 : ((strOf z).toList != (strOf z).toList) = false := by rw [bne, se]; rfl
      have hF' := Hd (scan_ok ht1H.out hFH.out (sc_end2 rfl rfl));clear hS;go_wp2_with fail
      go_big_quiet (fail)
      have hbY : Below x1.heap.size x1 (x1.drewN nq) := Joins.below_draws x1.heap.size x1 nq;obtain ⟨y, hy⟩ : ∃ y, x1.drewN nq = y := ⟨_, rfl⟩;rw [hy] at hbY ⊢;have w0 := cell_keep t0 hbY;have hblE := below_alloc y (.cells #[] 9);have hszY : Hid (B <= y.heap.size) := Hd (Nat.le_trans hsz1.out hbY.size);have hoE := Hd (Xu.owt_empty y B hszY.out 9);have hstE : Hid (Ss (y.alloc (.cells #[] 9)) (some ⟨b3, off3, none⟩) p co (o.reverse.map strOf)) := Hd ((hst.out.below hbY).below hblE);have hB9 := Hd ((hBx1.out.trans (hbY.mono hsz1.out)).trans (hblE.mono hszY.out));have hs9 := Hd (Nat.le_trans hszY.out hblE.size);have hT9 : Hid ((y.alloc (.cells #[] 9)).heap[T]? = _) := Hd ((hblE.block T (Nat.lt_of_lt_of_le (Array.getElem?_eq_some_iff.1 hntH.out).1 hbY.size)).trans ((hbY.block T (Array.getElem?_eq_some_iff.1 hntH.out).1).trans hntH.out));have hyT : Hid (T < y.heap.size) := Hd (Nat.lt_of_lt_of_le (Array.getElem?_eq_some_iff.1 hntH.out).1 hbY.size);have e1 : (lo : Int) - 1 = (p : Int) := by have := hpH.out; omega
      clear hy hbY hblE t0 t1 t2 t3 t4 hx1 y0 e2 se se2 m0 m1 m2 m3 m4
      go_wp2_with (at_builtin; apply stop_here)
      refine Stop.go (Xu.append_ss _ 143 9 Tryz.underlying143 Xu.info_str rfl _ _ rfl B _ _ rfl hoE.out _ p co _ rfl hstE.out p (by simp) (by omega) hs9.out ?_);intro A8 c8 x8 ho8 hg8 hb8;have ho8' : Hid (Xu.OwT x8 B 9 (.slice A8 p c8) (o.reverse.map strOf)) := Hd (by simpa using ho8);have hB8 := Hd (hB9.out.trans hb8);have hs8 := Hd (Nat.le_trans hs9.out hg8.size);have hT8 : x8.heap[T]? = _ := (hg8.block T (Array.getElem?_eq_some_iff.1 hT9.out).1 (fun e => by injection e with e; have e : T = y.heap.size := e; have := hyT.out; omega)).trans hT9.out;have v0 : x8.cell? ⟨T, 0, none⟩ = some (.int .i64 3) := cell_blk hT8 rfl;clear ho8 hg8 hb8 hB9 hs9 hT8 hoE hstE w0;go_wp2_with fail;go_roundw
      case rel => exact ⟨A8, c8, p, N, i + 1, R, false, rfl, rfl, by go_num, rfl, by go_num, by omega, by omega, by omega, Hd ⟨hB8.out, hs8.out, o, hol, ho8'.out, hF'.out⟩⟩
      case measure => simp [intOf]; omega
     ·have se : ((strOf z).toList == (strOf nm).toList) = false := str_ne d4;have se2 : ((strOf z).toList != (strOf nm).toList) = true := by rw [bne, se]; rfl
      clear hS;have hse := Hd (scan_err (len := len) ht1H.out hFH.out (sc_end1 rfl d4));go_wp2_with fail
      go_big_quiet (fail)
      go_wp2_with fail
      go_region
      go_wp2_with fail;refine hfin.out 3 ta _ ?_ hse.out
      first | exact hBx1.out.drew.drew | exact hBx1.out.drew | exact (hBx1.out.trans ((Joins.below_draws _ _ _).mono hsz1.out)) | exact (hBx1.out.trans ((Joins.below_draws _ _ _).mono hsz1.out)).drew
   ·rw [show (((4 : Nat) : Int)) = 4 from rfl] at m0;have hbt := below_alloc wr (.cells #[.int .i64 4, .int .i64 (ta : Nat), .string (strOf nm), .string (strOf tx), .slice Aa la ca] 87);have hnt := heap_alloc_new wr (.cells #[.int .i64 4, .int .i64 (ta : Nat), .string (strOf nm), .string (strOf tx), .slice Aa la ca] 87);obtain ⟨T, hTe⟩ : ∃ T, wr.heap.size = T := ⟨_, rfl⟩;obtain ⟨x1, hx1⟩ : ∃ x1, wr.alloc (.cells #[.int .i64 4, .int .i64 (ta : Nat), .string (strOf nm), .string (strOf tx), .slice Aa la ca] 87) = x1 := ⟨_, rfl⟩;rw [hx1] at hbt hnt;rw [hTe] at hnt;have t0 : x1.cell? ⟨T, 0, none⟩ = some (.int .i64 4) := cell_blk hnt rfl;have t1 : x1.cell? ⟨T, 1, none⟩ = some (.int .i64 (ta : Nat)) := cell_blk hnt rfl;have t2 : x1.cell? ⟨T, 2, none⟩ = some (.string (strOf nm)) := cell_blk hnt rfl;have t3 : x1.cell? ⟨T, 3, none⟩ = some (.string (strOf tx)) := cell_blk hnt rfl;have t4 : x1.cell? ⟨T, 4, none⟩ = some (.slice Aa la ca) := cell_blk hnt rfl;have hbtH := Hd hbt;have hntH := Hd hnt;have hBx1 := Hd (hbxH.out.trans (hbt.mono hszxH.out));have hsz1 := Hd (Nat.le_trans hszxH.out hbt.size);have hO1 := Hd (World.ownsRow.kept hOH.out (grown_in (r := none) hbt) (by cases hv : (Value.slice Ao lo co).ownBlock with | none => exact .inl rfl | some b => exact .inr (by simp)));have hTn := Hd (fun k hk => (hTe ▸ (World.ownsRow.lt hOH.out k hk).2 : k < T));clear hbt hnt;obtain ⟨S3, hS3⟩ : ∃ S, strOf tx = S := ⟨_, rfl⟩
    by_cases d3 : lo = 0
    ·subst d3;have hoe : o = [] := List.length_eq_zero_iff.1 hol;subst hoe;have htr := rtrim_any tx (by rw [strOf_size']; have := htxH.out rfl; exact Nat.le_trans this (by omega)) x1
     by_cases d5 : Ky.trim tx = []
     ·rw [d5] at htr;replace htr := Hd htr;have e3 : (strOf []).toList.isEmpty = true := by rw [strOf_empty]; rfl
      clear hS3;go_wp2_with fail;refine htr.out.mono ?_;rintro e w5 ⟨rfl, rfl⟩;have hF' := Hd (scan_ok ht1H.out hFH.out (sc_out rfl d5));go_wp2_with fail;go_roundw
      case rel => exact ⟨Ao, co, 0, N, i + 1, R, Wi, rfl, rfl, by go_num, rfl, by go_num, by omega, by omega, by omega, Hd ⟨hBx1.out, hsz1.out, [], rfl, hO1.out, hF'.out⟩⟩
      case measure => simp [intOf]; omega
     ·have e3 : (strOf (Ky.trim tx)).toList.isEmpty = false := by
       rw [strOf_empty]
       cases htt : Ky.trim tx with
       | nil => exact absurd htt d5
       | cons c t => rfl
      replace htr := Hd htr;clear hS3;obtain ⟨S4, hS4⟩ : ∃ S, strOf (Ky.trim tx) = S := ⟨_, rfl⟩;rw [hS4] at e3 htr;clear hS4;go_wp2_with fail;refine htr.out.mono ?_;rintro e w5 ⟨rfl, rfl⟩;have hfin' := Hd (hfin.out 2 ta _ hBx1.out.drew (scan_err ht1H.out hFH.out (sc_out2 (.inl rfl) (.inr d5))));go_wp2_with fail
      go_region
      go_wp2_with fail;exact hfin'.out
    ·have g5 : ((lo : Int) == 0) = false := by simp; omega
     have g6 : (lo == 0) = false := by simp; omega
     have g7 : decide ((lo : Int) > 0) = true := by simp; omega
     have g8 : decide ((0 : Int) < (lo : Int)) = true := by simp; omega
     have g9 : decide (0 < lo) = true := by simp; omega
     have ho : o ≠ [] := fun e => d3 (by rw [<- hol, e]; rfl)
     rw [hS3] at t3 hx1 m3
     by_cases d4 : tx = []
     ·have e2 : S3.toList.isEmpty = true := by rw [<- hS3, strOf_empty, d4]; rfl
      clear hS3;have hF' := Hd (scan_ok ht1H.out hFH.out (sc_ch (.inl rfl) ho (.inl d4)));go_wp2_with fail;go_roundw
      case rel => exact ⟨Ao, co, lo, N, i + 1, R, Wi, rfl, rfl, by go_num, rfl, by go_num, by omega, by omega, by omega, Hd ⟨hBx1.out, hsz1.out, o, hol, hO1.out, hF'.out⟩⟩
      case measure => simp [intOf]; omega
     ·have e2 : S3.toList.isEmpty = false := by
       rw [<- hS3, strOf_empty]
       cases htt : tx with
       | nil => exact absurd htt d4
       | cons c t => rfl
      clear hS3
      cases Wi with
      | true =>
       have hF' := Hd (scan_ok ht1H.out hFH.out (sc_ch (.inl rfl) ho (.inr rfl)));go_wp2_with fail;go_roundw
       case rel => exact ⟨Ao, co, lo, N, i + 1, R, true, rfl, rfl, by go_num, rfl, by go_num, by omega, by omega, by omega, Hd ⟨hBx1.out, hsz1.out, o, hol, hO1.out, hF'.out⟩⟩
       case measure => simp [intOf]; omega
      | false =>
       by_cases d1 : 4096 < N + 1
       ·have g3 : decide ((N : Int) + 1 > 4096) = true := by simp; omega
        have g4 : decide ((4096 : Int) < (N : Int) + 1) = true := by simp; omega
        have hfin' := Hd (hfin.out 8 ta _ hBx1.out.drew (scan_err ht1H.out hFH.out (sc_ch8 (.inl rfl) ho d4 rfl d1)));go_wp2_with fail
        go_region
        go_wp2_with fail;exact hfin'.out
       ·have g3 : decide ((N : Int) + 1 > 4096) = false := by simp; omega
        have g4 : decide ((4096 : Int) < (N : Int) + 1) = false := by simp; omega
        have hF' := Hd (scan_ok ht1H.out hFH.out (sc_ch1 (.inl rfl) ho d4 rfl d1));go_wp2_with fail;go_roundw
        case rel => exact ⟨Ao, co, lo, N + 1, i + 1, R, true, rfl, rfl, by go_num, rfl, by go_num, by omega, by omega, by omega, Hd ⟨hBx1.out, hsz1.out, o, hol, hO1.out, hF'.out⟩⟩
        case measure => simp [intOf]; omega
   ·rw [show (((5 : Nat) : Int)) = 5 from rfl] at m0;have hbt := below_alloc wr (.cells #[.int .i64 5, .int .i64 (ta : Nat), .string (strOf nm), .string (strOf tx), .slice Aa la ca] 87);have hnt := heap_alloc_new wr (.cells #[.int .i64 5, .int .i64 (ta : Nat), .string (strOf nm), .string (strOf tx), .slice Aa la ca] 87);obtain ⟨T, hTe⟩ : ∃ T, wr.heap.size = T := ⟨_, rfl⟩;obtain ⟨x1, hx1⟩ : ∃ x1, wr.alloc (.cells #[.int .i64 5, .int .i64 (ta : Nat), .string (strOf nm), .string (strOf tx), .slice Aa la ca] 87) = x1 := ⟨_, rfl⟩;rw [hx1] at hbt hnt;rw [hTe] at hnt;have t0 : x1.cell? ⟨T, 0, none⟩ = some (.int .i64 5) := cell_blk hnt rfl;have t1 : x1.cell? ⟨T, 1, none⟩ = some (.int .i64 (ta : Nat)) := cell_blk hnt rfl;have t2 : x1.cell? ⟨T, 2, none⟩ = some (.string (strOf nm)) := cell_blk hnt rfl;have t3 : x1.cell? ⟨T, 3, none⟩ = some (.string (strOf tx)) := cell_blk hnt rfl;have t4 : x1.cell? ⟨T, 4, none⟩ = some (.slice Aa la ca) := cell_blk hnt rfl;have hbtH := Hd hbt;have hntH := Hd hnt;have hBx1 := Hd (hbxH.out.trans (hbt.mono hszxH.out));have hsz1 := Hd (Nat.le_trans hszxH.out hbt.size);have hO1 := Hd (World.ownsRow.kept hOH.out (grown_in (r := none) hbt) (by cases hv : (Value.slice Ao lo co).ownBlock with | none => exact .inl rfl | some b => exact .inr (by simp)));have hTn := Hd (fun k hk => (hTe ▸ (World.ownsRow.lt hOH.out k hk).2 : k < T));clear hbt hnt;obtain ⟨S3, hS3⟩ : ∃ S, strOf tx = S := ⟨_, rfl⟩
    by_cases d3 : lo = 0
    ·subst d3;have hoe : o = [] := List.length_eq_zero_iff.1 hol;subst hoe;clear hS3;have hfin' := Hd (hfin.out 2 ta _ hBx1.out.drew (scan_err ht1H.out hFH.out (sc_out2 (.inr rfl) (.inl rfl))));go_wp2_with fail
     go_region
     go_wp2_with fail;exact hfin'.out
    ·have g5 : ((lo : Int) == 0) = false := by simp; omega
     have g6 : (lo == 0) = false := by simp; omega
     have g7 : decide ((lo : Int) > 0) = true := by simp; omega
     have g8 : decide ((0 : Int) < (lo : Int)) = true := by simp; omega
     have g9 : decide (0 < lo) = true := by simp; omega
     have ho : o ≠ [] := fun e => d3 (by rw [<- hol, e]; rfl)
     rw [hS3] at t3 hx1 m3
     by_cases d4 : tx = []
     ·have e2 : S3.toList.isEmpty = true := by rw [<- hS3, strOf_empty, d4]; rfl
      clear hS3;have hF' := Hd (scan_ok ht1H.out hFH.out (sc_ch (.inr rfl) ho (.inl d4)));go_wp2_with fail;go_roundw
      case rel => exact ⟨Ao, co, lo, N, i + 1, R, Wi, rfl, rfl, by go_num, rfl, by go_num, by omega, by omega, by omega, Hd ⟨hBx1.out, hsz1.out, o, hol, hO1.out, hF'.out⟩⟩
      case measure => simp [intOf]; omega
     ·have e2 : S3.toList.isEmpty = false := by
       rw [<- hS3, strOf_empty]
       cases htt : tx with
       | nil => exact absurd htt d4
       | cons c t => rfl
      clear hS3
      cases Wi with
      | true =>
       have hF' := Hd (scan_ok ht1H.out hFH.out (sc_ch (.inr rfl) ho (.inr rfl)));go_wp2_with fail;go_roundw
       case rel => exact ⟨Ao, co, lo, N, i + 1, R, true, rfl, rfl, by go_num, rfl, by go_num, by omega, by omega, by omega, Hd ⟨hBx1.out, hsz1.out, o, hol, hO1.out, hF'.out⟩⟩
       case measure => simp [intOf]; omega
      | false =>
       by_cases d1 : 4096 < N + 1
       ·have g3 : decide ((N : Int) + 1 > 4096) = true := by simp; omega
        have g4 : decide ((4096 : Int) < (N : Int) + 1) = true := by simp; omega
        have hfin' := Hd (hfin.out 8 ta _ hBx1.out.drew (scan_err ht1H.out hFH.out (sc_ch8 (.inr rfl) ho d4 rfl d1)));go_wp2_with fail
        go_region
        go_wp2_with fail;exact hfin'.out
       ·have g3 : decide ((N : Int) + 1 > 4096) = false := by simp; omega
        have g4 : decide ((4096 : Int) < (N : Int) + 1) = false := by simp; omega
        have hF' := Hd (scan_ok ht1H.out hFH.out (sc_ch1 (.inr rfl) ho d4 rfl d1));go_wp2_with fail;go_roundw
        case rel => exact ⟨Ao, co, lo, N + 1, i + 1, R, true, rfl, rfl, by go_num, rfl, by go_num, by omega, by omega, by omega, Hd ⟨hBx1.out, hsz1.out, o, hol, hO1.out, hF'.out⟩⟩
        case measure => simp [intOf]; omega
   ·rw [show (((6 : Nat) : Int)) = 6 from rfl] at m0;have hbt := below_alloc wr (.cells #[.int .i64 6, .int .i64 (ta : Nat), .string (strOf nm), .string (strOf tx), .slice Aa la ca] 87);have hnt := heap_alloc_new wr (.cells #[.int .i64 6, .int .i64 (ta : Nat), .string (strOf nm), .string (strOf tx), .slice Aa la ca] 87);obtain ⟨T, hTe⟩ : ∃ T, wr.heap.size = T := ⟨_, rfl⟩;obtain ⟨x1, hx1⟩ : ∃ x1, wr.alloc (.cells #[.int .i64 6, .int .i64 (ta : Nat), .string (strOf nm), .string (strOf tx), .slice Aa la ca] 87) = x1 := ⟨_, rfl⟩;rw [hx1] at hbt hnt;rw [hTe] at hnt;have t0 : x1.cell? ⟨T, 0, none⟩ = some (.int .i64 6) := cell_blk hnt rfl;have t1 : x1.cell? ⟨T, 1, none⟩ = some (.int .i64 (ta : Nat)) := cell_blk hnt rfl;have t2 : x1.cell? ⟨T, 2, none⟩ = some (.string (strOf nm)) := cell_blk hnt rfl;have t3 : x1.cell? ⟨T, 3, none⟩ = some (.string (strOf tx)) := cell_blk hnt rfl;have t4 : x1.cell? ⟨T, 4, none⟩ = some (.slice Aa la ca) := cell_blk hnt rfl;have hbtH := Hd hbt;have hntH := Hd hnt;have hBx1 := Hd (hbxH.out.trans (hbt.mono hszxH.out));have hsz1 := Hd (Nat.le_trans hszxH.out hbt.size);have hO1 := Hd (World.ownsRow.kept hOH.out (grown_in (r := none) hbt) (by cases hv : (Value.slice Ao lo co).ownBlock with | none => exact .inl rfl | some b => exact .inr (by simp)));have hTn := Hd (fun k hk => (hTe ▸ (World.ownsRow.lt hOH.out k hk).2 : k < T));clear hbt hnt
    by_cases d1 : 4096 < N + 1
    ·have g3 : decide ((N : Int) + 1 > 4096) = true := by simp; omega
     have g4 : decide ((4096 : Int) < (N : Int) + 1) = true := by simp; omega
     have hfin' := Hd (hfin.out 8 ta _ hBx1.out.drew (scan_err ht1H.out hFH.out (sc_one8 (.inl rfl) d1)));go_wp2_with fail
     go_region
     go_wp2_with fail;exact hfin'.out
    ·have g3 : decide ((N : Int) + 1 > 4096) = false := by simp; omega
     have g4 : decide ((4096 : Int) < (N : Int) + 1) = false := by simp; omega
     have hF' := Hd (scan_ok ht1H.out hFH.out (sc_one (.inl rfl) d1));go_wp2_with fail;go_roundw
     case rel => exact ⟨Ao, co, lo, N + 1, i + 1, R, false, rfl, rfl, by go_num, rfl, by go_num, by omega, by omega, by omega, Hd ⟨hBx1.out, hsz1.out, o, hol, hO1.out, hF'.out⟩⟩
     case measure => simp [intOf]; omega
   ·rw [show (((7 : Nat) : Int)) = 7 from rfl] at m0;have hbt := below_alloc wr (.cells #[.int .i64 7, .int .i64 (ta : Nat), .string (strOf nm), .string (strOf tx), .slice Aa la ca] 87);have hnt := heap_alloc_new wr (.cells #[.int .i64 7, .int .i64 (ta : Nat), .string (strOf nm), .string (strOf tx), .slice Aa la ca] 87);obtain ⟨T, hTe⟩ : ∃ T, wr.heap.size = T := ⟨_, rfl⟩;obtain ⟨x1, hx1⟩ : ∃ x1, wr.alloc (.cells #[.int .i64 7, .int .i64 (ta : Nat), .string (strOf nm), .string (strOf tx), .slice Aa la ca] 87) = x1 := ⟨_, rfl⟩;rw [hx1] at hbt hnt;rw [hTe] at hnt;have t0 : x1.cell? ⟨T, 0, none⟩ = some (.int .i64 7) := cell_blk hnt rfl;have t1 : x1.cell? ⟨T, 1, none⟩ = some (.int .i64 (ta : Nat)) := cell_blk hnt rfl;have t2 : x1.cell? ⟨T, 2, none⟩ = some (.string (strOf nm)) := cell_blk hnt rfl;have t3 : x1.cell? ⟨T, 3, none⟩ = some (.string (strOf tx)) := cell_blk hnt rfl;have t4 : x1.cell? ⟨T, 4, none⟩ = some (.slice Aa la ca) := cell_blk hnt rfl;have hbtH := Hd hbt;have hntH := Hd hnt;have hBx1 := Hd (hbxH.out.trans (hbt.mono hszxH.out));have hsz1 := Hd (Nat.le_trans hszxH.out hbt.size);have hO1 := Hd (World.ownsRow.kept hOH.out (grown_in (r := none) hbt) (by cases hv : (Value.slice Ao lo co).ownBlock with | none => exact .inl rfl | some b => exact .inr (by simp)));have hTn := Hd (fun k hk => (hTe ▸ (World.ownsRow.lt hOH.out k hk).2 : k < T));clear hbt hnt
    by_cases d1 : 4096 < N + 1
    ·have g3 : decide ((N : Int) + 1 > 4096) = true := by simp; omega
     have g4 : decide ((4096 : Int) < (N : Int) + 1) = true := by simp; omega
     have hfin' := Hd (hfin.out 8 ta _ hBx1.out.drew (scan_err ht1H.out hFH.out (sc_one8 (.inr rfl) d1)));go_wp2_with fail
     go_region
     go_wp2_with fail;exact hfin'.out
    ·have g3 : decide ((N : Int) + 1 > 4096) = false := by simp; omega
     have g4 : decide ((4096 : Int) < (N : Int) + 1) = false := by simp; omega
     have hF' := Hd (scan_ok ht1H.out hFH.out (sc_one (.inr rfl) d1));go_wp2_with fail;go_roundw
     case rel => exact ⟨Ao, co, lo, N + 1, i + 1, R, false, rfl, rfl, by go_num, rfl, by go_num, by omega, by omega, by omega, Hd ⟨hBx1.out, hsz1.out, o, hol, hO1.out, hF'.out⟩⟩
     case measure => simp [intOf]; omega
  ·have hie : i = n := by omega
   have i1 : decide ((i : Int) < (n : Int)) = false := by simp; omega
   obtain ⟨hbx, hszx, o, hol, hO, hF⟩ := hR.out;have hE := scan_end (len := len) (by rw [hl.out]; omega) hF
   by_cases hbad : o ≠ [] \/ R = false
   ·rw [if_pos hbad] at hE;have hfin' := Hd (hfin.out 6 len _ hbx hE)
    by_cases h0 : lo = 0
    ·have hr : R = false := by
      rcases hbad with h | h
      ·exact absurd (List.length_eq_zero_iff.1 (by omega)) h
      ·exact h
     subst h0;subst hr;clear hbad hO hF hbx hszx hE hR;go_wp2_with fail;exact hfin'.out
    ·have g1 : decide ((lo : Int) > 0) = true := by simp; omega
     have g2 : decide ((0 : Int) < (lo : Int)) = true := by simp; omega
     have g3 : decide (0 < lo) = true := by simp; omega
     clear hbad hO hF hbx hszx hE hR;go_wp2_with fail;exact hfin'.out
   ·rw [if_neg hbad] at hE;have hfin' := Hd (hfin.out 0 0 _ hbx hE)
    have h0 : lo = 0 := by
     rw [<- hol, List.length_eq_zero_iff];exact Classical.byContradiction fun e => hbad (.inl e)
    have hr : R = true := by
     cases R with
     | true => rfl
     | false => exact absurd (.inr rfl) hbad
    subst h0;subst hr;clear hbad hO hF hbx hszx hE hR;go_wp2_with fail;exact hfin'.out
end
end Go.Proofs.YtokdnhdfmgfkeaaGreatDoor.Xt
end

section
namespace Go.Proofs.YtokdnhdfmgfkeaaGreatDoor.Xt
open Go.RowKit UtfW Xl Xo
def KidsP (ts : List Tok) (n at_ f : Nat) (Bt : Pp) (w : World) (e : Ending) (w' : World) : Prop := Below w.heap.size w w' /\ ∃ A2 c2 ks m, kidsF f (ts.drop at_) = (ks, ts.drop m) /\ at_ <= m /\ m + at_ <= 2 * n /\ ks.length + at_ <= m ∧
 e = .returned (.tuple #[.slice A2 ks.length c2, .int .i64 (m : Nat)]) /\ OutR Bt w.heap.size w' (.slice A2 ks.length c2) ks
section
variable (ts : List Tok) (A : Option Addr) (n c : Nat) (Bt : Pp) (hn : n <= 1000000) (hk : Ok ts) (hT : ∀ j, (span_ (ts.drop j)).1.length <= 1000000)
include hn hk hT
set_option maxHeartbeats 16000000 in
set_option maxRecDepth 100000 in
theorem kids_any : ∀ (k f at_ : Nat) (w : World), f <= k -> at_ <= n -> n - at_ < f -> Bt.hi <= w.heap.size -> Sq (TkP Bt) 5 w A n c ts →
  Calls Tryz.prog 65 #[.slice A n c, .int .i64 (at_ : Nat)] w fun e w' => KidsP ts n at_ f Bt w e w' := by
 intro k
 induction k with
 | zero =>
  intro f at_ w h1 h2 h3;omega
 | succ k ih =>
  intro f at_ w hf ha hfa hB hQ;have hl : ts.length = n := hQ.len;replace ih := Hd ih;replace hT := Hd hT;replace hk := Hd hk;replace hl := Hd hl;obtain ⟨B, hBe⟩ : ∃ B, w.heap.size = B := ⟨_, rfl⟩
  have hQx : Hid (∀ x, Below B w x -> Sq (TkP Bt) 5 x A n c ts) := Hd fun x hx => by
   rw [<- hBe] at hx;exact Sq.kept_ hQ hx fun vs t ht => TkP.below ht (hx.mono hB)
  have hB' : Bt.hi <= B := by omega
  have hO0 : Hid (OutR Bt B w (.slice none 0 0) []) := Hd (OutR.nil hB' (by omega));have hbw : Hid (Below B w w) := Hd (by rw [<- hBe]; exact Below.refl _ _)
  have hKP : Hid (∀ e w', (Below B w w' /\ ∃ A2 c2 ks m, kidsF f (ts.drop at_) = (ks, ts.drop m) /\ at_ <= m /\ m + at_ <= 2 * n /\ ks.length + at_ <= m /\ e = .returned (.tuple #[.slice A2 ks.length c2, .int .i64 (m : Nat)]) /\ OutR Bt B w' (.slice A2 ks.length c2) ks) -> KidsP ts n at_ f Bt w e w') := Hd fun e w' h => by
   unfold KidsP;rw [hBe];exact h
  have hfH := Hd hf;have hfaH := Hd hfa;have hsz0 : Hid (w.heap.size = B) := Hd hBe;clear hQ hB hBe hf hfa
  go_enter Tryz.func65, Tryz.ntmps65
  go_wp2_with fail
  go_loopw [1, 6] (fun v1 v6 x => ∃ m g lo, v1 = .int .i64 (m : Nat) /\ at_ <= m /\ m + at_ <= 2 * n /\ lo + at_ <= m /\ ∃ Ao co, v6 = .slice Ao lo co ∧
   Hid (Below B w x /\ g <= f /\ n - m < g /\ ∃ ks, ks.length = lo /\ OutR Bt B x (.slice Ao lo co) ks /\ kidsF f (ts.drop at_) = (ks ++ (kidsF g (ts.drop m)).1, (kidsF g (ts.drop m)).2))) (fun v1 _ _ => n - (intOf v1).toNat)
  case atStart => exact ⟨at_, f, 0, rfl, Nat.le_refl _, by omega, by omega, none, 0, rfl, Hd ⟨hbw.out, Nat.le_refl _, hfaH.out, [], rfl, hO0.out, rfl⟩⟩
  case round =>
   obtain ⟨m, g, lo, rfl, hm1, hm2, hlo, Ao, co, rfl, hR⟩ := hrel;have hm3 : m < 9000000 := by omega
   by_cases hlt : m < n
   ·have i1 : decide ((m : Int) < (n : Int)) = true := by simp; omega
    have q1 : (m : Int) < (n : Int) := (by omega);obtain ⟨hbx, hgf, hgm, ks, hks, hO, hF⟩ := hR.out;have hQr := hQx.out _ hbx;have hmx := hQr.max;have hle := hQr.le;obtain ⟨b1, off1, t, vs1, rfl, hbl, ht1, _, hv1, hc1⟩ := hQr.at_ hlt;have hkt := hk.out t (List.mem_of_getElem? ht1);obtain ⟨Aa, ca, rfl, hAs, hAx⟩ := hv1;have m0 := hc1 0 _ rfl;rw [Nat.add_zero] at m0;have ht1H := Hd ht1;obtain ⟨kd, ta, nm, tx, ats⟩ := t;have hkt : 1 <= kd /\ kd <= 7 := hkt.1;replace hAs := Hd hAs;replace hAx := Hd hAx;change wr.cell? ⟨b1, off1 + m * 5, none⟩ = some (.int .i64 (kd : Nat)) at m0
    by_cases k3 : kd = 3
    ·have b3 : (((kd : Nat) : Int) != 3) = false := by simp; omega
     have b3' : (((kd : Nat) : Int) == 3) = true := by simp; omega
     have hfin : Hid (KidsP ts n at_ f Bt w (.returned (.tuple #[.slice Ao lo co, .int .i64 (m : Nat)])) wr) := Hd (hKP.out _ _ (by
      obtain ⟨g, rfl⟩ : ∃ g', g = g' + 1 := ⟨g - 1, by omega⟩;rw [kids_3 ht1 k3] at hF;subst hks
      exact ⟨hbx, Ao, co, ks, m, by simpa using hF, hm1, hm2, hlo, rfl, hO⟩))
     clear hQr hbl hc1 hbx hgf hgm hO hF;go_wp2_with fail
     go_ret2
     exact hfin.out
    ·have b3 : (((kd : Nat) : Int) != 3) = true := by simp; omega
     have b3' : (((kd : Nat) : Int) == 3) = false := by simp; omega
     have hcs : kd = 1 \/ kd = 2 \/ kd = 4 \/ kd = 5 \/ kd = 6 \/ kd = 7 := (by omega);clear b3 b3' k3 hkt;rcases hcs with rfl | rfl | rfl | rfl | rfl | rfl
     ·rw [show (((1 : Nat) : Int)) = 1 from rfl] at m0;have m1 := hc1 1 _ rfl;have m2 := hc1 2 _ rfl;have m3 := hc1 3 _ rfl;have m4 := hc1 4 _ rfl;obtain ⟨la, hla⟩ : ∃ la, ats.length = la := ⟨_, rfl⟩;simp only [hla] at m1 m2 m3 m4;have hbt := below_alloc wr (.cells #[.int .i64 1, .int .i64 (ta : Nat), .string (strOf nm), .string (strOf tx), .slice Aa la ca] 87);have hnt := heap_alloc_new wr (.cells #[.int .i64 1, .int .i64 (ta : Nat), .string (strOf nm), .string (strOf tx), .slice Aa la ca] 87);obtain ⟨T, hTe⟩ : ∃ T, wr.heap.size = T := ⟨_, rfl⟩;obtain ⟨x1, hx1⟩ : ∃ x1, wr.alloc (.cells #[.int .i64 1, .int .i64 (ta : Nat), .string (strOf nm), .string (strOf tx), .slice Aa la ca] 87) = x1 := ⟨_, rfl⟩;rw [hx1] at hbt hnt;rw [hTe] at hnt;have t0 : x1.cell? ⟨T, 0, none⟩ = some (.int .i64 1) := cell_blk hnt rfl;have t2 : x1.cell? ⟨T, 2, none⟩ = some (.string (strOf nm)) := cell_blk hnt rfl;have t3 : x1.cell? ⟨T, 3, none⟩ = some (.string (strOf tx)) := cell_blk hnt rfl;have t4 : x1.cell? ⟨T, 4, none⟩ = some (.slice Aa la ca) := cell_blk hnt rfl;have hO1 := Hd (hO.below hbt);have hBx1 := Hd (hbx.trans (hbt.mono hO.2.2))
      have hAs1 : Hid (∀ y, Below x1.heap.size x1 y -> Sq AtEl 2 y Aa ats.length ca ats /\ ∀ a, Aa = some a -> 0 < ats.length -> (Bt.lo <= a.block /\ a.block < Bt.hi)) := Hd fun y hy => ⟨Sq.stay hAs.out (fun a e hn' => by
       have h1 := (hAx.out a e hn').2;have h1 : a.block < Bt.hi := h1;have h2 : Bt.hi <= wr.heap.size := by have := hO.2.1; have := hO.2.2; omega
       have h3 := hbt.size
       rw [hy.block _ (by omega), hbt.block _ (by omega)]) (fun _ _ h => h), fun a e hn' => hAx.out a e hn'⟩
      have hown : Hid (∀ k, (Value.slice Ao lo co).ownBlock = some k -> k < x1.heap.size) := Hd fun k hk => (OwS.lt hO1.out.1 k hk).2
      have hszB : Hid (B <= x1.heap.size) := Hd hO1.out.2.2;clear hQr hbl hc1 hbx hO hbt hnt;have hgfH := Hd hgf;have hgmH := Hd hgm;have hFH := Hd hF;have hksH := Hd hks;clear hgf hgm hF hks ht1 hR;obtain ⟨g0, hg0⟩ : ∃ g0, g = g0 + 1 := ⟨g - 1, by have := hgmH.out; omega⟩;have hbn := below_alloc x1 (.cells #[.int .i64 1, .string (strOf nm), .string ⟨#[]⟩, .slice Aa la ca, .slice none 0 0] 25);have hnn := heap_alloc_new x1 (.cells #[.int .i64 1, .string (strOf nm), .string ⟨#[]⟩, .slice Aa la ca, .slice none 0 0] 25);obtain ⟨N, hNe⟩ : ∃ N, x1.heap.size = N := ⟨_, rfl⟩;obtain ⟨x2, hx2⟩ : ∃ x2, x1.alloc (.cells #[.int .i64 1, .string (strOf nm), .string ⟨#[]⟩, .slice Aa la ca, .slice none 0 0] 25) = x2 := ⟨_, rfl⟩;rw [hx2] at hbn hnn;rw [hNe] at hnn;have hBx2 := Hd (hBx1.out.trans (hbn.mono hszB.out));have hcall := ih.out g0 (m + 1) x2 (by have := hgfH.out; have := hfH.out; omega) (by omega) (by have := hgmH.out; omega) (by have := hbn.size; have := hszB.out; omega) (hQx.out x2 hBx2.out);have e9 : ((m + 1 : Nat) : Int) = (m : Int) + 1 := (by omega);rw [e9] at hcall;clear e9;replace hcall := Hd hcall;have hnnH := Hd hnn;have hbnH := Hd hbn;have hNH := Hd hNe;have z0 : ∀ i, x2.frozen? ⟨N, i, none⟩ = false := fun i => frozen_of_row x2 N i _ _ hnn
      have u0 : x2.cell? ⟨N, 0, none⟩ = some (.int .i64 1) := cell_blk hnn rfl;have u1 : x2.cell? ⟨N, 1, none⟩ = some (.string (strOf nm)) := cell_blk hnn rfl;have u3 : x2.cell? ⟨N, 3, none⟩ = some (.slice Aa la ca) := cell_blk hnn rfl;have v0 : x2.setCell ⟨N, 0, none⟩ (.int .i64 1) = x2 := setCell_same hnn rfl;have v1 : x2.setCell ⟨N, 1, none⟩ (.string (strOf nm)) = x2 := setCell_same hnn rfl;have v3 : x2.setCell ⟨N, 3, none⟩ (.slice Aa la ca) = x2 := setCell_same hnn rfl;have u2 : x2.cell? ⟨N, 2, none⟩ = some (.string ⟨#[]⟩) := cell_blk hnn rfl;have u4 : x2.cell? ⟨N, 4, none⟩ = some (.slice none 0 0) := cell_blk hnn rfl;have v2 : x2.setCell ⟨N, 2, none⟩ (.string ⟨#[]⟩) = x2 := setCell_same hnn rfl;have v4 : x2.setCell ⟨N, 4, none⟩ (.slice none 0 0) = x2 := setCell_same hnn rfl;clear hbn hnn;go_wp2_with fail;clear z0 u0 u1 u2 u3 u4 v0 v1 v2 v3 v4;refine hcall.out.mono ?_;rintro e x3 ⟨hb3, A2, c2, ks2, m2, hF2, hm21, hm22, hl22, rfl, hO3⟩;obtain ⟨l2, hl2⟩ : ∃ l2, ks2.length = l2 := ⟨_, rfl⟩;rw [hl2] at hO3;simp only [hl2];have hN2 : N < x2.heap.size := (Array.getElem?_eq_some_iff.1 hnnH.out).1;have hn3 := (hb3.block N hN2).trans hnnH.out;have hn4 := blk_setCell hn3 (i := 4) (.slice A2 l2 c2);have hb14 : Below x1.heap.size x1 (x3.setCell ⟨N, 4, none⟩ (.slice A2 l2 c2)) := (hbnH.out.trans (hb3.mono hbnH.out.size)).setCell (p := ⟨N, 4, none⟩) (by rw [hNH.out]; exact Nat.le_refl _) _;have hBt1 : Bt.hi <= B := hO1.out.2.1;have hO4 := Hd (hO1.out.same (x' := x3.setCell ⟨N, 4, none⟩ (.slice A2 l2 c2)) (fun k hk => hb14.block k (by have := hszB.out; have := hO1.out.2.2; omega)) hb14.size);have hO34 := Hd (hO3.same (x' := x3.setCell ⟨N, 4, none⟩ (.slice A2 l2 c2)) (fun k hk => set_other (by have := hszB.out; have := hNH.out; omega)) (by rw [set_size]; exact Nat.le_refl _));obtain ⟨x4, hx4⟩ : ∃ x4, x3.setCell ⟨N, 4, none⟩ (.slice A2 l2 c2) = x4 := ⟨_, rfl⟩;rw [hx4] at hn4 hb14 hO4 hO34
      have p4 : x3.cell? ⟨N, 4, none⟩ = some (.slice none 0 0) := cell_blk hn3 rfl;have z3 : x3.frozen? ⟨N, 4, none⟩ = false := frozen_of_row x3 N 4 _ _ hn3;have n0 : x4.cell? ⟨N, 0, none⟩ = some (.int .i64 1) := cell_blk hn4 rfl;have n1 : x4.cell? ⟨N, 1, none⟩ = some (.string (strOf nm)) := cell_blk hn4 rfl;have n2 : x4.cell? ⟨N, 2, none⟩ = some (.string ⟨#[]⟩) := cell_blk hn4 rfl;have n3 : x4.cell? ⟨N, 3, none⟩ = some (.slice Aa la ca) := cell_blk hn4 rfl;have n4 : x4.cell? ⟨N, 4, none⟩ = some (.slice A2 l2 c2) := cell_blk hn4 rfl
      have hBx4 := Hd (hBx2.out.trans ((hb3.mono (Nat.le_trans hszB.out hbnH.out.size)).trans (by
       have h := Below.setCell (p := ⟨N, 4, none⟩) (Below.refl B x3) (by have := hNH.out; have := hszB.out; show B <= N; omega) (.slice A2 l2 c2);rw [hx4] at h
       exact h)))
      have hF2H := Hd hF2;have hb14H := Hd hb14;have hszB4 : Hid (B <= x4.heap.size) := Hd (Nat.le_trans hszB.out hb14.size);have hm2b : m2 < 9000000 := (by omega);have hl2H := Hd hl2;clear hn3 hn4 hb3 hO3 hF2 hb14 hcall hN2;have hbl9 := below_alloc x4 (.cells #[.int .i64 1, .string (strOf nm), .string ⟨#[]⟩, .slice Aa la ca, .slice A2 l2 c2] 25);have hO9 := Hd ((hO4.out).below hbl9)
      have hz : Hid (Sq (NdE (XK Bt B (x4.alloc (.cells #[.int .i64 1, .string (strOf nm), .string ⟨#[]⟩, .slice Aa la ca, .slice A2 l2 c2] 25)) (.slice Ao lo co))) 5 (x4.alloc (.cells #[.int .i64 1, .string (strOf nm), .string ⟨#[]⟩, .slice Aa la ca, .slice A2 l2 c2] 25)) (some ⟨x4.heap.size, 0, none⟩) 1 1 [Nd.mk 1 nm [] ats ks2]) := Hd (sq_one (El := NdE (XK Bt B (x4.alloc (.cells #[.int .i64 1, .string (strOf nm), .string ⟨#[]⟩, .slice Aa la ca, .slice A2 l2 c2] 25)) (.slice Ao lo co))) (k := 5) x4 [.int .i64 1, .string (strOf nm), .string ⟨#[]⟩, .slice Aa la ca, .slice A2 l2 c2] (Nd.mk 1 nm [] ats ks2) 25 (0, 0) rfl (by
       obtain ⟨g1, g2⟩ := hAs1.out _ (hb14H.out.trans ((below_alloc x4 (.cells #[.int .i64 1, .string (strOf nm), .string ⟨#[]⟩, .slice Aa la ca, .slice A2 l2 c2] 25)).mono hb14H.out.size));obtain ⟨r1, r2⟩ := OutR.sub (B := B) (u := .slice Ao lo co) (hO34.out.below (below_alloc x4 (.cells #[.int .i64 1, .string (strOf nm), .string ⟨#[]⟩, .slice Aa la ca, .slice A2 l2 c2] 25))) (Nat.le_trans hszB.out hbnH.out.size) (fun k hk => Nat.lt_of_lt_of_le (hown.out k hk) hbnH.out.size)
       exact nd_make rfl rfl hla hl2H.out g1 (fun a e h => .inl (g2 a e h)) r1 r2))
      have hB9 := Hd ((hBx4.out).trans (hbl9.mono (Nat.le_trans hszB4.out (Nat.le_refl _))));have hN9 : lo + 1 <= 1000000 := (by omega);clear hbl9 hO1
      go_wp2_with (at_builtin; apply stop_here)
      refine Stop.go (append_sq (El := NdE (XK Bt B (x4.alloc (.cells #[.int .i64 1, .string (strOf nm), .string ⟨#[]⟩, .slice Aa la ca, .slice A2 l2 c2] 25)) (.slice Ao lo co))) (k := 5) _ 22 25 (.agg #[.int .i64 0, .string ⟨#[]⟩, .string ⟨#[]⟩, .slice none 0 0, .slice none 0 0]) 88 Tryz.underlying22 info_node rfl (by omega) rfl _ _ rfl B (.slice Ao lo co) ks rfl hO9.out.1 _ 1 1 [Nd.mk 1 nm [] ats ks2] rfl hz.out (fun vs x h => NdI.one h) hO9.out.keep (lo + 1) (by rw [hksH.out]) (by omega) (by omega) hO9.out.2.2 ?_);intro A8 c8 x8 ho8 hg8 hb8 hv8;have hO8 := Hd (hO9.out.app ho8 hg8 hv8);have hB8 := Hd (hB9.out.trans hb8);clear ho8 hg8 hb8 hv8 hO9 hz hB9;go_wp2_with fail;go_roundw
      case rel =>
       obtain ⟨g', hg'⟩ : ∃ g', g = g' + 1 := ⟨g - 1, by have := hgmH.out; omega⟩;refine ⟨m2 + 1, g', lo + 1, by go_num, by omega, by omega, by omega, A8, c8, rfl, Hd ⟨hB8.out, by have := hgfH.out; omega, by have := hgmH.out; omega, ks ++ [Nd.mk 1 nm [] ats ks2], by rw [List.length_append, hksH.out]; rfl, hO8.out, ?_⟩⟩;have hF := hFH.out;rw [hg', kids_1 ht1H.out rfl (f := g') (m2 := m2) (by rw [show g' = g0 from by omega]; exact hF2H.out)] at hF;rw [hF];simp
      case measure => simp [intOf]; omega
     ·rw [show (((2 : Nat) : Int)) = 2 from rfl] at m0;have m1 := hc1 1 _ rfl;have m2 := hc1 2 _ rfl;have m3 := hc1 3 _ rfl;have m4 := hc1 4 _ rfl;obtain ⟨la, hla⟩ : ∃ la, ats.length = la := ⟨_, rfl⟩;simp only [hla] at m1 m2 m3 m4;have hbt := below_alloc wr (.cells #[.int .i64 2, .int .i64 (ta : Nat), .string (strOf nm), .string (strOf tx), .slice Aa la ca] 87);have hnt := heap_alloc_new wr (.cells #[.int .i64 2, .int .i64 (ta : Nat), .string (strOf nm), .string (strOf tx), .slice Aa la ca] 87);obtain ⟨T, hTe⟩ : ∃ T, wr.heap.size = T := ⟨_, rfl⟩;obtain ⟨x1, hx1⟩ : ∃ x1, wr.alloc (.cells #[.int .i64 2, .int .i64 (ta : Nat), .string (strOf nm), .string (strOf tx), .slice Aa la ca] 87) = x1 := ⟨_, rfl⟩;rw [hx1] at hbt hnt;rw [hTe] at hnt;have t0 : x1.cell? ⟨T, 0, none⟩ = some (.int .i64 2) := cell_blk hnt rfl;have t2 : x1.cell? ⟨T, 2, none⟩ = some (.string (strOf nm)) := cell_blk hnt rfl;have t3 : x1.cell? ⟨T, 3, none⟩ = some (.string (strOf tx)) := cell_blk hnt rfl;have t4 : x1.cell? ⟨T, 4, none⟩ = some (.slice Aa la ca) := cell_blk hnt rfl;have hO1 := Hd (hO.below hbt);have hBx1 := Hd (hbx.trans (hbt.mono hO.2.2))
      have hAs1 : Hid (∀ y, Below x1.heap.size x1 y -> Sq AtEl 2 y Aa ats.length ca ats /\ ∀ a, Aa = some a -> 0 < ats.length -> (Bt.lo <= a.block /\ a.block < Bt.hi)) := Hd fun y hy => ⟨Sq.stay hAs.out (fun a e hn' => by
       have h1 := (hAx.out a e hn').2;have h1 : a.block < Bt.hi := h1;have h2 : Bt.hi <= wr.heap.size := by have := hO.2.1; have := hO.2.2; omega
       have h3 := hbt.size
       rw [hy.block _ (by omega), hbt.block _ (by omega)]) (fun _ _ h => h), fun a e hn' => hAx.out a e hn'⟩
      have hown : Hid (∀ k, (Value.slice Ao lo co).ownBlock = some k -> k < x1.heap.size) := Hd fun k hk => (OwS.lt hO1.out.1 k hk).2
      have hszB : Hid (B <= x1.heap.size) := Hd hO1.out.2.2;clear hQr hbl hc1 hbx hO hbt hnt;have hgfH := Hd hgf;have hgmH := Hd hgm;have hFH := Hd hF;have hksH := Hd hks;clear hgf hgm hF hks ht1 hR;have hbl9 := below_alloc x1 (.cells #[.int .i64 1, .string (strOf nm), .string ⟨#[]⟩, .slice Aa la ca, .slice none 0 0] 25);have hO9 := Hd ((hO1.out).below hbl9)
      have hz : Hid (Sq (NdE (XK Bt B (x1.alloc (.cells #[.int .i64 1, .string (strOf nm), .string ⟨#[]⟩, .slice Aa la ca, .slice none 0 0] 25)) (.slice Ao lo co))) 5 (x1.alloc (.cells #[.int .i64 1, .string (strOf nm), .string ⟨#[]⟩, .slice Aa la ca, .slice none 0 0] 25)) (some ⟨x1.heap.size, 0, none⟩) 1 1 [Nd.mk 1 nm [] ats []]) := Hd (sq_one (El := NdE (XK Bt B (x1.alloc (.cells #[.int .i64 1, .string (strOf nm), .string ⟨#[]⟩, .slice Aa la ca, .slice none 0 0] 25)) (.slice Ao lo co))) (k := 5) x1 [.int .i64 1, .string (strOf nm), .string ⟨#[]⟩, .slice Aa la ca, .slice none 0 0] (Nd.mk 1 nm [] ats []) 25 (0, 0) rfl (by
       obtain ⟨g1, g2⟩ := hAs1.out _ (below_alloc x1 _)
       exact nd_make (ks := []) rfl rfl hla rfl g1 (fun a e h => .inl (g2 a e h)) (Sq.none_ _) (fun a e => by cases e)))
      have hB9 := Hd ((hBx1.out).trans (hbl9.mono (Nat.le_trans hszB.out (Nat.le_refl _))));have hN9 : lo + 1 <= 1000000 := (by omega);clear hbl9 hO1
      go_wp2_with (at_builtin; apply stop_here)
      refine Stop.go (append_sq (El := NdE (XK Bt B (x1.alloc (.cells #[.int .i64 1, .string (strOf nm), .string ⟨#[]⟩, .slice Aa la ca, .slice none 0 0] 25)) (.slice Ao lo co))) (k := 5) _ 22 25 (.agg #[.int .i64 0, .string ⟨#[]⟩, .string ⟨#[]⟩, .slice none 0 0, .slice none 0 0]) 88 Tryz.underlying22 info_node rfl (by omega) rfl _ _ rfl B (.slice Ao lo co) ks rfl hO9.out.1 _ 1 1 [Nd.mk 1 nm [] ats []] rfl hz.out (fun vs x h => NdI.one h) hO9.out.keep (lo + 1) (by rw [hksH.out]) (by omega) (by omega) hO9.out.2.2 ?_);intro A8 c8 x8 ho8 hg8 hb8 hv8;have hO8 := Hd (hO9.out.app ho8 hg8 hv8);have hB8 := Hd (hB9.out.trans hb8);clear ho8 hg8 hb8 hv8 hO9 hz hB9;go_wp2_with fail;go_roundw
      case rel =>
       obtain ⟨g', hg'⟩ : ∃ g', g = g' + 1 := ⟨g - 1, by have := hgmH.out; omega⟩;refine ⟨m + 1, g', lo + 1, by go_num, by omega, by omega, by omega, A8, c8, rfl, Hd ⟨hB8.out, by have := hgfH.out; omega, by have := hgmH.out; omega, ks ++ [Nd.mk 1 nm [] ats []], by rw [List.length_append, hksH.out]; rfl, hO8.out, ?_⟩⟩;have hF := hFH.out;rw [hg', kids_2 ht1H.out rfl] at hF;rw [hF];simp
      case measure => simp [intOf]; omega
     ·rw [show (((4 : Nat) : Int)) = 4 from rfl] at m0;have m1 := hc1 1 _ rfl;have m2 := hc1 2 _ rfl;have m3 := hc1 3 _ rfl;have m4 := hc1 4 _ rfl;obtain ⟨la, hla⟩ : ∃ la, ats.length = la := ⟨_, rfl⟩;simp only [hla] at m1 m2 m3 m4;have hbt := below_alloc wr (.cells #[.int .i64 4, .int .i64 (ta : Nat), .string (strOf nm), .string (strOf tx), .slice Aa la ca] 87);have hnt := heap_alloc_new wr (.cells #[.int .i64 4, .int .i64 (ta : Nat), .string (strOf nm), .string (strOf tx), .slice Aa la ca] 87);obtain ⟨T, hTe⟩ : ∃ T, wr.heap.size = T := ⟨_, rfl⟩;obtain ⟨x1, hx1⟩ : ∃ x1, wr.alloc (.cells #[.int .i64 4, .int .i64 (ta : Nat), .string (strOf nm), .string (strOf tx), .slice Aa la ca] 87) = x1 := ⟨_, rfl⟩;rw [hx1] at hbt hnt;rw [hTe] at hnt;have t0 : x1.cell? ⟨T, 0, none⟩ = some (.int .i64 4) := cell_blk hnt rfl;have t2 : x1.cell? ⟨T, 2, none⟩ = some (.string (strOf nm)) := cell_blk hnt rfl;have t3 : x1.cell? ⟨T, 3, none⟩ = some (.string (strOf tx)) := cell_blk hnt rfl;have t4 : x1.cell? ⟨T, 4, none⟩ = some (.slice Aa la ca) := cell_blk hnt rfl;have hO1 := Hd (hO.below hbt);have hBx1 := Hd (hbx.trans (hbt.mono hO.2.2))
      have hAs1 : Hid (∀ y, Below x1.heap.size x1 y -> Sq AtEl 2 y Aa ats.length ca ats /\ ∀ a, Aa = some a -> 0 < ats.length -> (Bt.lo <= a.block /\ a.block < Bt.hi)) := Hd fun y hy => ⟨Sq.stay hAs.out (fun a e hn' => by
       have h1 := (hAx.out a e hn').2;have h1 : a.block < Bt.hi := h1;have h2 : Bt.hi <= wr.heap.size := by have := hO.2.1; have := hO.2.2; omega
       have h3 := hbt.size
       rw [hy.block _ (by omega), hbt.block _ (by omega)]) (fun _ _ h => h), fun a e hn' => hAx.out a e hn'⟩
      have hown : Hid (∀ k, (Value.slice Ao lo co).ownBlock = some k -> k < x1.heap.size) := Hd fun k hk => (OwS.lt hO1.out.1 k hk).2
      have hszB : Hid (B <= x1.heap.size) := Hd hO1.out.2.2;clear hQr hbl hc1 hbx hO hbt hnt;have hgfH := Hd hgf;have hgmH := Hd hgm;have hFH := Hd hF;have hksH := Hd hks;clear hgf hgm hF hks ht1 hR
      go_upto_region 6 with fail
      go_wp2_with fail
      go_loopw [1, 9] (fun v1 v9 y => ∃ j u, v1 = .int .i64 (j : Nat) /\ v9 = .string (strOf (tx ++ u)) /\ m + 1 <= j /\ j <= n /\ Hid (Below x1.heap.size x1 y) /\ Hid (span_ (ts.drop (m + 1)) = (u ++ (span_ (ts.drop j)).1, (span_ (ts.drop j)).2))) (fun v1 _ _ => n - (intOf v1).toNat)
      case atStart => exact ⟨m + 1, [], by go_num, by rw [List.append_nil], Nat.le_refl _, by omega, Hd (Below.refl _ _), Hd rfl⟩
      case round =>
       obtain ⟨j, u, rfl, rfl, hj1, hj2, hby, hspr⟩ := hrel;have hj3 : j < 9000000 := by omega
       by_cases hltj : j < n
       ·have j1 : decide ((j : Int) < (n : Int)) = true := by simp; omega
        have r1 : (j : Int) < (n : Int) := (by omega);have hQy := hQx.out _ (hBx1.out.trans (hby.out.mono hszB.out));have hmy := hQy.max;have hley := hQy.le;obtain ⟨b2, off2, t2', vs2, eb, _, ht2, _, hv2, hc2⟩ := hQy.at_ hltj;injection eb with eb;injection eb with eb1 eb2 _;subst eb1;subst eb2;obtain ⟨Ab, cb, rfl, -, -⟩ := hv2;obtain ⟨kd, ta2, nm2, tx2, ats2⟩ := t2';have z0 := hc2 0 _ rfl;rw [Nat.add_zero] at z0;have z3 := hc2 3 _ rfl;have ht2H := Hd ht2;change wr.cell? ⟨b1, off1 + j * 5, none⟩ = some (.int .i64 (kd : Nat)) at z0;change wr.cell? ⟨b1, off1 + j * 5 + 3, none⟩ = some (.string (strOf tx2)) at z3;clear hQy hc2 ht2
        by_cases hch : kd = 4 \/ kd = 5
        ·have hsn : Hid (span_ (ts.drop (m + 1)) = ((u ++ tx2) ++ (span_ (ts.drop (j + 1))).1, (span_ (ts.drop (j + 1))).2)) := Hd (by
          rw [hspr.out, span_on (u := []) ht2H.out (by rcases hch with rfl | rfl <;> rfl)]
          simp)
         have hlt9 : ((tx ++ u) ++ tx2).length <= 1000000 := by
          have h1 := hT.out m;rw [span_on (u := []) ht1H.out rfl, hsn.out] at h1;simp only [List.length_append] at h1 ⊢;have h1 : tx.length + (u.length + tx2.length + (span_ (List.drop (j + 1) ts)).fst.length) <= 1000000 := h1;omega
         have hadd : ∀ x, (Op.stringOp .add (strOf (tx ++ u)) (strOf tx2)).run Tryz.prog x = .ok (.string (strOf (tx ++ (u ++ tx2)))) x := fun x => by
          have := add_str x (tx ++ u) tx2 (by rw [List.length_append] at hlt9; exact hlt9);rw [List.append_assoc] at this;exact this
         obtain ⟨S7, hS7⟩ : ∃ S, strOf (tx ++ u) = S := ⟨_, rfl⟩;obtain ⟨S8, hS8⟩ : ∃ S, strOf (tx ++ (u ++ tx2)) = S := ⟨_, rfl⟩;rw [hS7, hS8] at hadd;rw [hS7];have hS8H := Hd hS8;clear hS7 hS8 hlt9;rcases hch with rfl | rfl
         ·rw [show (((4 : Nat) : Int)) = 4 from rfl] at z0;go_wp2_with fail;go_roundw
          case rel => exact ⟨j + 1, u ++ tx2, by go_num, by rw [hS8H.out], by omega, by omega, hby, hsn⟩
          case measure => simp [intOf]; omega
         ·rw [show (((5 : Nat) : Int)) = 5 from rfl] at z0;go_wp2_with fail;go_roundw
          case rel => exact ⟨j + 1, u ++ tx2, by go_num, by rw [hS8H.out], by omega, by omega, hby, hsn⟩
          case measure => simp [intOf]; omega
        ·have b4 : (((kd : Nat) : Int) == 4) = false := by simp; omega
         have b5 : (((kd : Nat) : Int) == 5) = false := by simp; omega
         have hch' : isCh ⟨kd, ta2, nm2, tx2, ats2⟩ = false := by unfold isCh; simp; omega
         have hsp : Hid (span_ (ts.drop m) = (tx ++ u, ts.drop j)) := Hd (by rw [span_on (u := []) ht1H.out rfl, hspr.out, span_off ht2H.out hch']; simp);have hlen : (tx ++ u).length <= 1000000 := by have := hT.out m; rw [hsp.out] at this; exact this
         obtain ⟨U, hU⟩ : ∃ U, tx ++ u = U := ⟨_, rfl⟩;rw [hU] at hsp hlen;rw [hU];obtain ⟨S9, hS9⟩ : ∃ S, strOf U = S := ⟨_, rfl⟩;rw [hS9]
         by_cases hUe : U = []
         ·have e9 : S9.toList.isEmpty = true := by rw [<- hS9, strOf_empty, hUe]; rfl
          have hUH := Hd hUe;clear hS9 hU hUe;go_wp2_with fail;go_roundw
          case rel =>
           obtain ⟨g', hg'⟩ : ∃ g', g = g' + 1 := ⟨g - 1, by have := hgmH.out; omega⟩;refine ⟨j, g', lo, by go_num, by omega, by omega, by omega, Ao, co, rfl, Hd ⟨hBx1.out.trans (hby.out.mono hszB.out), by have := hgfH.out; omega, by have := hgmH.out; omega, ks, hksH.out, hO1.out.below hby.out, ?_⟩⟩;have hF := hFH.out;rw [hg', kids_4 ht1H.out (.inl rfl) hsp.out, if_pos hUH.out] at hF;exact hF
          case measure => simp [intOf]; omega
         ·have e9 : S9.toList.isEmpty = false := by
           rw [<- hS9, strOf_empty]
           cases hUU : U with
           | nil => exact absurd hUU hUe
           | cons a b => rfl
          have hUH := Hd hUe;have hS9H := Hd hS9;have hszBy : Hid (B <= wr.heap.size) := Hd (Nat.le_trans hszB.out hby.out.size);clear hS9 hU hUe;have hbl9 := below_alloc wr (.cells #[.int .i64 2, .string ⟨#[]⟩, .string S9, .slice none 0 0, .slice none 0 0] 25);have hO9 := Hd ((hO1.out.below hby.out).below hbl9)
          have hz : Hid (Sq (NdE (XK Bt B (wr.alloc (.cells #[.int .i64 2, .string ⟨#[]⟩, .string S9, .slice none 0 0, .slice none 0 0] 25)) (.slice Ao lo co))) 5 (wr.alloc (.cells #[.int .i64 2, .string ⟨#[]⟩, .string S9, .slice none 0 0, .slice none 0 0] 25)) (some ⟨wr.heap.size, 0, none⟩) 1 1 [Nd.mk 2 [] U [] []]) := Hd (sq_one (El := NdE (XK Bt B (wr.alloc (.cells #[.int .i64 2, .string ⟨#[]⟩, .string S9, .slice none 0 0, .slice none 0 0] 25)) (.slice Ao lo co))) (k := 5) wr [.int .i64 2, .string ⟨#[]⟩, .string S9, .slice none 0 0, .slice none 0 0] (Nd.mk 2 [] U [] []) 25 (0, 0) rfl (by
           exact nd_leaf rfl hS9H.out))
          have hB9 := Hd ((hBx1.out.trans (hby.out.mono hszB.out)).trans (hbl9.mono (Nat.le_trans hszBy.out (Nat.le_refl _))));have hN9 : lo + 1 <= 1000000 := (by omega);clear hbl9 hO1
          go_wp2_with (at_builtin; apply stop_here)
          refine Stop.go (append_sq (El := NdE (XK Bt B (wr.alloc (.cells #[.int .i64 2, .string ⟨#[]⟩, .string S9, .slice none 0 0, .slice none 0 0] 25)) (.slice Ao lo co))) (k := 5) _ 22 25 (.agg #[.int .i64 0, .string ⟨#[]⟩, .string ⟨#[]⟩, .slice none 0 0, .slice none 0 0]) 88 Tryz.underlying22 info_node rfl (by omega) rfl _ _ rfl B (.slice Ao lo co) ks rfl hO9.out.1 _ 1 1 [Nd.mk 2 [] U [] []] rfl hz.out (fun vs x h => NdI.one h) hO9.out.keep (lo + 1) (by rw [hksH.out]) (by omega) (by omega) hO9.out.2.2 ?_);intro A8 c8 x8 ho8 hg8 hb8 hv8;have hO8 := Hd (hO9.out.app ho8 hg8 hv8);have hB8 := Hd (hB9.out.trans hb8);clear ho8 hg8 hb8 hv8 hO9 hz hB9;go_wp2_with fail;go_roundw
          case rel =>
           obtain ⟨g', hg'⟩ : ∃ g', g = g' + 1 := ⟨g - 1, by have := hgmH.out; omega⟩;refine ⟨j, g', lo + 1, by go_num, by omega, by omega, by omega, A8, c8, rfl, Hd ⟨hB8.out, by have := hgfH.out; omega, by have := hgmH.out; omega, ks ++ [Nd.mk 2 [] U [] []], by rw [List.length_append, hksH.out]; rfl, hO8.out, ?_⟩⟩;have hF := hFH.out;rw [hg', kids_4 ht1H.out (.inl rfl) hsp.out, if_neg hUH.out] at hF;rw [hF];simp [textN]
          case measure => simp [intOf]; omega
       ·have hje : j = n := (by omega);have j1 : decide ((j : Int) < (n : Int)) = false := by simp; omega
        have hsp : Hid (span_ (ts.drop m) = (tx ++ u, ts.drop j)) := Hd (by rw [span_on (u := []) ht1H.out rfl, hspr.out, span_out (by rw [hl.out]; omega)]; simp);have hlen : (tx ++ u).length <= 1000000 := by have := hT.out m; rw [hsp.out] at this; exact this
        obtain ⟨U, hU⟩ : ∃ U, tx ++ u = U := ⟨_, rfl⟩;rw [hU] at hsp hlen;rw [hU];obtain ⟨S9, hS9⟩ : ∃ S, strOf U = S := ⟨_, rfl⟩;rw [hS9]
        by_cases hUe : U = []
        ·have e9 : S9.toList.isEmpty = true := by rw [<- hS9, strOf_empty, hUe]; rfl
         have hUH := Hd hUe;clear hS9 hU hUe;go_wp2_with fail;go_roundw
         case rel =>
          obtain ⟨g', hg'⟩ : ∃ g', g = g' + 1 := ⟨g - 1, by have := hgmH.out; omega⟩;refine ⟨j, g', lo, by go_num, by omega, by omega, by omega, Ao, co, rfl, Hd ⟨hBx1.out.trans (hby.out.mono hszB.out), by have := hgfH.out; omega, by have := hgmH.out; omega, ks, hksH.out, hO1.out.below hby.out, ?_⟩⟩;have hF := hFH.out;rw [hg', kids_4 ht1H.out (.inl rfl) hsp.out, if_pos hUH.out] at hF;exact hF
         case measure => simp [intOf]; omega
        ·have e9 : S9.toList.isEmpty = false := by
          rw [<- hS9, strOf_empty]
          cases hUU : U with
          | nil => exact absurd hUU hUe
          | cons a b => rfl
         have hUH := Hd hUe;have hS9H := Hd hS9;have hszBy : Hid (B <= wr.heap.size) := Hd (Nat.le_trans hszB.out hby.out.size);clear hS9 hU hUe;have hbl9 := below_alloc wr (.cells #[.int .i64 2, .string ⟨#[]⟩, .string S9, .slice none 0 0, .slice none 0 0] 25);have hO9 := Hd ((hO1.out.below hby.out).below hbl9)
         have hz : Hid (Sq (NdE (XK Bt B (wr.alloc (.cells #[.int .i64 2, .string ⟨#[]⟩, .string S9, .slice none 0 0, .slice none 0 0] 25)) (.slice Ao lo co))) 5 (wr.alloc (.cells #[.int .i64 2, .string ⟨#[]⟩, .string S9, .slice none 0 0, .slice none 0 0] 25)) (some ⟨wr.heap.size, 0, none⟩) 1 1 [Nd.mk 2 [] U [] []]) := Hd (sq_one (El := NdE (XK Bt B (wr.alloc (.cells #[.int .i64 2, .string ⟨#[]⟩, .string S9, .slice none 0 0, .slice none 0 0] 25)) (.slice Ao lo co))) (k := 5) wr [.int .i64 2, .string ⟨#[]⟩, .string S9, .slice none 0 0, .slice none 0 0] (Nd.mk 2 [] U [] []) 25 (0, 0) rfl (by
          exact nd_leaf rfl hS9H.out))
         have hB9 := Hd ((hBx1.out.trans (hby.out.mono hszB.out)).trans (hbl9.mono (Nat.le_trans hszBy.out (Nat.le_refl _))));have hN9 : lo + 1 <= 1000000 := (by omega);clear hbl9 hO1
         go_wp2_with (at_builtin; apply stop_here)
         refine Stop.go (append_sq (El := NdE (XK Bt B (wr.alloc (.cells #[.int .i64 2, .string ⟨#[]⟩, .string S9, .slice none 0 0, .slice none 0 0] 25)) (.slice Ao lo co))) (k := 5) _ 22 25 (.agg #[.int .i64 0, .string ⟨#[]⟩, .string ⟨#[]⟩, .slice none 0 0, .slice none 0 0]) 88 Tryz.underlying22 info_node rfl (by omega) rfl _ _ rfl B (.slice Ao lo co) ks rfl hO9.out.1 _ 1 1 [Nd.mk 2 [] U [] []] rfl hz.out (fun vs x h => NdI.one h) hO9.out.keep (lo + 1) (by rw [hksH.out]) (by omega) (by omega) hO9.out.2.2 ?_);intro A8 c8 x8 ho8 hg8 hb8 hv8;have hO8 := Hd (hO9.out.app ho8 hg8 hv8);have hB8 := Hd (hB9.out.trans hb8);clear ho8 hg8 hb8 hv8 hO9 hz hB9;go_wp2_with fail;go_roundw
         case rel =>
          obtain ⟨g', hg'⟩ : ∃ g', g = g' + 1 := ⟨g - 1, by have := hgmH.out; omega⟩;refine ⟨j, g', lo + 1, by go_num, by omega, by omega, by omega, A8, c8, rfl, Hd ⟨hB8.out, by have := hgfH.out; omega, by have := hgmH.out; omega, ks ++ [Nd.mk 2 [] U [] []], by rw [List.length_append, hksH.out]; rfl, hO8.out, ?_⟩⟩;have hF := hFH.out;rw [hg', kids_4 ht1H.out (.inl rfl) hsp.out, if_neg hUH.out] at hF;rw [hF];simp [textN]
         case measure => simp [intOf]; omega
     ·rw [show (((5 : Nat) : Int)) = 5 from rfl] at m0;have m1 := hc1 1 _ rfl;have m2 := hc1 2 _ rfl;have m3 := hc1 3 _ rfl;have m4 := hc1 4 _ rfl;obtain ⟨la, hla⟩ : ∃ la, ats.length = la := ⟨_, rfl⟩;simp only [hla] at m1 m2 m3 m4;have hbt := below_alloc wr (.cells #[.int .i64 5, .int .i64 (ta : Nat), .string (strOf nm), .string (strOf tx), .slice Aa la ca] 87);have hnt := heap_alloc_new wr (.cells #[.int .i64 5, .int .i64 (ta : Nat), .string (strOf nm), .string (strOf tx), .slice Aa la ca] 87);obtain ⟨T, hTe⟩ : ∃ T, wr.heap.size = T := ⟨_, rfl⟩;obtain ⟨x1, hx1⟩ : ∃ x1, wr.alloc (.cells #[.int .i64 5, .int .i64 (ta : Nat), .string (strOf nm), .string (strOf tx), .slice Aa la ca] 87) = x1 := ⟨_, rfl⟩;rw [hx1] at hbt hnt;rw [hTe] at hnt;have t0 : x1.cell? ⟨T, 0, none⟩ = some (.int .i64 5) := cell_blk hnt rfl;have t2 : x1.cell? ⟨T, 2, none⟩ = some (.string (strOf nm)) := cell_blk hnt rfl;have t3 : x1.cell? ⟨T, 3, none⟩ = some (.string (strOf tx)) := cell_blk hnt rfl;have t4 : x1.cell? ⟨T, 4, none⟩ = some (.slice Aa la ca) := cell_blk hnt rfl;have hO1 := Hd (hO.below hbt);have hBx1 := Hd (hbx.trans (hbt.mono hO.2.2))
      have hAs1 : Hid (∀ y, Below x1.heap.size x1 y -> Sq AtEl 2 y Aa ats.length ca ats /\ ∀ a, Aa = some a -> 0 < ats.length -> (Bt.lo <= a.block /\ a.block < Bt.hi)) := Hd fun y hy => ⟨Sq.stay hAs.out (fun a e hn' => by
       have h1 := (hAx.out a e hn').2;have h1 : a.block < Bt.hi := h1;have h2 : Bt.hi <= wr.heap.size := by have := hO.2.1; have := hO.2.2; omega
       have h3 := hbt.size
       rw [hy.block _ (by omega), hbt.block _ (by omega)]) (fun _ _ h => h), fun a e hn' => hAx.out a e hn'⟩
      have hown : Hid (∀ k, (Value.slice Ao lo co).ownBlock = some k -> k < x1.heap.size) := Hd fun k hk => (OwS.lt hO1.out.1 k hk).2
      have hszB : Hid (B <= x1.heap.size) := Hd hO1.out.2.2;clear hQr hbl hc1 hbx hO hbt hnt;have hgfH := Hd hgf;have hgmH := Hd hgm;have hFH := Hd hF;have hksH := Hd hks;clear hgf hgm hF hks ht1 hR
      go_upto_region 6 with fail
      go_wp2_with fail
      go_loopw [1, 9] (fun v1 v9 y => ∃ j u, v1 = .int .i64 (j : Nat) /\ v9 = .string (strOf (tx ++ u)) /\ m + 1 <= j /\ j <= n /\ Hid (Below x1.heap.size x1 y) /\ Hid (span_ (ts.drop (m + 1)) = (u ++ (span_ (ts.drop j)).1, (span_ (ts.drop j)).2))) (fun v1 _ _ => n - (intOf v1).toNat)
      case atStart => exact ⟨m + 1, [], by go_num, by rw [List.append_nil], Nat.le_refl _, by omega, Hd (Below.refl _ _), Hd rfl⟩
      case round =>
       obtain ⟨j, u, rfl, rfl, hj1, hj2, hby, hspr⟩ := hrel;have hj3 : j < 9000000 := by omega
       by_cases hltj : j < n
       ·have j1 : decide ((j : Int) < (n : Int)) = true := by simp; omega
        have r1 : (j : Int) < (n : Int) := (by omega);have hQy := hQx.out _ (hBx1.out.trans (hby.out.mono hszB.out));have hmy := hQy.max;have hley := hQy.le;obtain ⟨b2, off2, t2', vs2, eb, _, ht2, _, hv2, hc2⟩ := hQy.at_ hltj;injection eb with eb;injection eb with eb1 eb2 _;subst eb1;subst eb2;obtain ⟨Ab, cb, rfl, -, -⟩ := hv2;obtain ⟨kd, ta2, nm2, tx2, ats2⟩ := t2';have z0 := hc2 0 _ rfl;rw [Nat.add_zero] at z0;have z3 := hc2 3 _ rfl;have ht2H := Hd ht2;change wr.cell? ⟨b1, off1 + j * 5, none⟩ = some (.int .i64 (kd : Nat)) at z0;change wr.cell? ⟨b1, off1 + j * 5 + 3, none⟩ = some (.string (strOf tx2)) at z3;clear hQy hc2 ht2
        by_cases hch : kd = 4 \/ kd = 5
        ·have hsn : Hid (span_ (ts.drop (m + 1)) = ((u ++ tx2) ++ (span_ (ts.drop (j + 1))).1, (span_ (ts.drop (j + 1))).2)) := Hd (by
          rw [hspr.out, span_on (u := []) ht2H.out (by rcases hch with rfl | rfl <;> rfl)]
          simp)
         have hlt9 : ((tx ++ u) ++ tx2).length <= 1000000 := by
          have h1 := hT.out m;rw [span_on (u := []) ht1H.out rfl, hsn.out] at h1;simp only [List.length_append] at h1 ⊢;have h1 : tx.length + (u.length + tx2.length + (span_ (List.drop (j + 1) ts)).fst.length) <= 1000000 := h1;omega
         have hadd : ∀ x, (Op.stringOp .add (strOf (tx ++ u)) (strOf tx2)).run Tryz.prog x = .ok (.string (strOf (tx ++ (u ++ tx2)))) x := fun x => by
          have := add_str x (tx ++ u) tx2 (by rw [List.length_append] at hlt9; exact hlt9);rw [List.append_assoc] at this;exact this
         obtain ⟨S7, hS7⟩ : ∃ S, strOf (tx ++ u) = S := ⟨_, rfl⟩;obtain ⟨S8, hS8⟩ : ∃ S, strOf (tx ++ (u ++ tx2)) = S := ⟨_, rfl⟩;rw [hS7, hS8] at hadd;rw [hS7];have hS8H := Hd hS8;clear hS7 hS8 hlt9;rcases hch with rfl | rfl
         ·rw [show (((4 : Nat) : Int)) = 4 from rfl] at z0;go_wp2_with fail;go_roundw
          case rel => exact ⟨j + 1, u ++ tx2, by go_num, by rw [hS8H.out], by omega, by omega, hby, hsn⟩
          case measure => simp [intOf]; omega
         ·rw [show (((5 : Nat) : Int)) = 5 from rfl] at z0;go_wp2_with fail;go_roundw
          case rel => exact ⟨j + 1, u ++ tx2, by go_num, by rw [hS8H.out], by omega, by omega, hby, hsn⟩
          case measure => simp [intOf]; omega
        ·have b4 : (((kd : Nat) : Int) == 4) = false := by simp; omega
         have b5 : (((kd : Nat) : Int) == 5) = false := by simp; omega
         have hch' : isCh ⟨kd, ta2, nm2, tx2, ats2⟩ = false := by unfold isCh; simp; omega
         have hsp : Hid (span_ (ts.drop m) = (tx ++ u, ts.drop j)) := Hd (by rw [span_on (u := []) ht1H.out rfl, hspr.out, span_off ht2H.out hch']; simp);have hlen : (tx ++ u).length <= 1000000 := by have := hT.out m; rw [hsp.out] at this; exact this
         obtain ⟨U, hU⟩ : ∃ U, tx ++ u = U := ⟨_, rfl⟩;rw [hU] at hsp hlen;rw [hU];obtain ⟨S9, hS9⟩ : ∃ S, strOf U = S := ⟨_, rfl⟩;rw [hS9]
         by_cases hUe : U = []
         ·have e9 : S9.toList.isEmpty = true := by rw [<- hS9, strOf_empty, hUe]; rfl
          have hUH := Hd hUe;clear hS9 hU hUe;go_wp2_with fail;go_roundw
          case rel =>
           obtain ⟨g', hg'⟩ : ∃ g', g = g' + 1 := ⟨g - 1, by have := hgmH.out; omega⟩;refine ⟨j, g', lo, by go_num, by omega, by omega, by omega, Ao, co, rfl, Hd ⟨hBx1.out.trans (hby.out.mono hszB.out), by have := hgfH.out; omega, by have := hgmH.out; omega, ks, hksH.out, hO1.out.below hby.out, ?_⟩⟩;have hF := hFH.out;rw [hg', kids_4 ht1H.out (.inr rfl) hsp.out, if_pos hUH.out] at hF;exact hF
          case measure => simp [intOf]; omega
         ·have e9 : S9.toList.isEmpty = false := by
           rw [<- hS9, strOf_empty]
           cases hUU : U with
           | nil => exact absurd hUU hUe
           | cons a b => rfl
          have hUH := Hd hUe;have hS9H := Hd hS9;have hszBy : Hid (B <= wr.heap.size) := Hd (Nat.le_trans hszB.out hby.out.size);clear hS9 hU hUe;have hbl9 := below_alloc wr (.cells #[.int .i64 2, .string ⟨#[]⟩, .string S9, .slice none 0 0, .slice none 0 0] 25);have hO9 := Hd ((hO1.out.below hby.out).below hbl9)
          have hz : Hid (Sq (NdE (XK Bt B (wr.alloc (.cells #[.int .i64 2, .string ⟨#[]⟩, .string S9, .slice none 0 0, .slice none 0 0] 25)) (.slice Ao lo co))) 5 (wr.alloc (.cells #[.int .i64 2, .string ⟨#[]⟩, .string S9, .slice none 0 0, .slice none 0 0] 25)) (some ⟨wr.heap.size, 0, none⟩) 1 1 [Nd.mk 2 [] U [] []]) := Hd (sq_one (El := NdE (XK Bt B (wr.alloc (.cells #[.int .i64 2, .string ⟨#[]⟩, .string S9, .slice none 0 0, .slice none 0 0] 25)) (.slice Ao lo co))) (k := 5) wr [.int .i64 2, .string ⟨#[]⟩, .string S9, .slice none 0 0, .slice none 0 0] (Nd.mk 2 [] U [] []) 25 (0, 0) rfl (by
           exact nd_leaf rfl hS9H.out))
          have hB9 := Hd ((hBx1.out.trans (hby.out.mono hszB.out)).trans (hbl9.mono (Nat.le_trans hszBy.out (Nat.le_refl _))));have hN9 : lo + 1 <= 1000000 := (by omega);clear hbl9 hO1
          go_wp2_with (at_builtin; apply stop_here)
          refine Stop.go (append_sq (El := NdE (XK Bt B (wr.alloc (.cells #[.int .i64 2, .string ⟨#[]⟩, .string S9, .slice none 0 0, .slice none 0 0] 25)) (.slice Ao lo co))) (k := 5) _ 22 25 (.agg #[.int .i64 0, .string ⟨#[]⟩, .string ⟨#[]⟩, .slice none 0 0, .slice none 0 0]) 88 Tryz.underlying22 info_node rfl (by omega) rfl _ _ rfl B (.slice Ao lo co) ks rfl hO9.out.1 _ 1 1 [Nd.mk 2 [] U [] []] rfl hz.out (fun vs x h => NdI.one h) hO9.out.keep (lo + 1) (by rw [hksH.out]) (by omega) (by omega) hO9.out.2.2 ?_);intro A8 c8 x8 ho8 hg8 hb8 hv8;have hO8 := Hd (hO9.out.app ho8 hg8 hv8);have hB8 := Hd (hB9.out.trans hb8);clear ho8 hg8 hb8 hv8 hO9 hz hB9;go_wp2_with fail;go_roundw
          case rel =>
           obtain ⟨g', hg'⟩ : ∃ g', g = g' + 1 := ⟨g - 1, by have := hgmH.out; omega⟩;refine ⟨j, g', lo + 1, by go_num, by omega, by omega, by omega, A8, c8, rfl, Hd ⟨hB8.out, by have := hgfH.out; omega, by have := hgmH.out; omega, ks ++ [Nd.mk 2 [] U [] []], by rw [List.length_append, hksH.out]; rfl, hO8.out, ?_⟩⟩;have hF := hFH.out;rw [hg', kids_4 ht1H.out (.inr rfl) hsp.out, if_neg hUH.out] at hF;rw [hF];simp [textN]
          case measure => simp [intOf]; omega
       ·have hje : j = n := (by omega);have j1 : decide ((j : Int) < (n : Int)) = false := by simp; omega
        have hsp : Hid (span_ (ts.drop m) = (tx ++ u, ts.drop j)) := Hd (by rw [span_on (u := []) ht1H.out rfl, hspr.out, span_out (by rw [hl.out]; omega)]; simp);have hlen : (tx ++ u).length <= 1000000 := by have := hT.out m; rw [hsp.out] at this; exact this
        obtain ⟨U, hU⟩ : ∃ U, tx ++ u = U := ⟨_, rfl⟩;rw [hU] at hsp hlen;rw [hU];obtain ⟨S9, hS9⟩ : ∃ S, strOf U = S := ⟨_, rfl⟩;rw [hS9]
        by_cases hUe : U = []
        ·have e9 : S9.toList.isEmpty = true := by rw [<- hS9, strOf_empty, hUe]; rfl
         have hUH := Hd hUe;clear hS9 hU hUe;go_wp2_with fail;go_roundw
         case rel =>
          obtain ⟨g', hg'⟩ : ∃ g', g = g' + 1 := ⟨g - 1, by have := hgmH.out; omega⟩;refine ⟨j, g', lo, by go_num, by omega, by omega, by omega, Ao, co, rfl, Hd ⟨hBx1.out.trans (hby.out.mono hszB.out), by have := hgfH.out; omega, by have := hgmH.out; omega, ks, hksH.out, hO1.out.below hby.out, ?_⟩⟩;have hF := hFH.out;rw [hg', kids_4 ht1H.out (.inr rfl) hsp.out, if_pos hUH.out] at hF;exact hF
         case measure => simp [intOf]; omega
        ·have e9 : S9.toList.isEmpty = false := by
          rw [<- hS9, strOf_empty]
          cases hUU : U with
          | nil => exact absurd hUU hUe
          | cons a b => rfl
         have hUH := Hd hUe;have hS9H := Hd hS9;have hszBy : Hid (B <= wr.heap.size) := Hd (Nat.le_trans hszB.out hby.out.size);clear hS9 hU hUe;have hbl9 := below_alloc wr (.cells #[.int .i64 2, .string ⟨#[]⟩, .string S9, .slice none 0 0, .slice none 0 0] 25);have hO9 := Hd ((hO1.out.below hby.out).below hbl9)
         have hz : Hid (Sq (NdE (XK Bt B (wr.alloc (.cells #[.int .i64 2, .string ⟨#[]⟩, .string S9, .slice none 0 0, .slice none 0 0] 25)) (.slice Ao lo co))) 5 (wr.alloc (.cells #[.int .i64 2, .string ⟨#[]⟩, .string S9, .slice none 0 0, .slice none 0 0] 25)) (some ⟨wr.heap.size, 0, none⟩) 1 1 [Nd.mk 2 [] U [] []]) := Hd (sq_one (El := NdE (XK Bt B (wr.alloc (.cells #[.int .i64 2, .string ⟨#[]⟩, .string S9, .slice none 0 0, .slice none 0 0] 25)) (.slice Ao lo co))) (k := 5) wr [.int .i64 2, .string ⟨#[]⟩, .string S9, .slice none 0 0, .slice none 0 0] (Nd.mk 2 [] U [] []) 25 (0, 0) rfl (by
          exact nd_leaf rfl hS9H.out))
         have hB9 := Hd ((hBx1.out.trans (hby.out.mono hszB.out)).trans (hbl9.mono (Nat.le_trans hszBy.out (Nat.le_refl _))));have hN9 : lo + 1 <= 1000000 := (by omega);clear hbl9 hO1
         go_wp2_with (at_builtin; apply stop_here)
         refine Stop.go (append_sq (El := NdE (XK Bt B (wr.alloc (.cells #[.int .i64 2, .string ⟨#[]⟩, .string S9, .slice none 0 0, .slice none 0 0] 25)) (.slice Ao lo co))) (k := 5) _ 22 25 (.agg #[.int .i64 0, .string ⟨#[]⟩, .string ⟨#[]⟩, .slice none 0 0, .slice none 0 0]) 88 Tryz.underlying22 info_node rfl (by omega) rfl _ _ rfl B (.slice Ao lo co) ks rfl hO9.out.1 _ 1 1 [Nd.mk 2 [] U [] []] rfl hz.out (fun vs x h => NdI.one h) hO9.out.keep (lo + 1) (by rw [hksH.out]) (by omega) (by omega) hO9.out.2.2 ?_);intro A8 c8 x8 ho8 hg8 hb8 hv8;have hO8 := Hd (hO9.out.app ho8 hg8 hv8);have hB8 := Hd (hB9.out.trans hb8);clear ho8 hg8 hb8 hv8 hO9 hz hB9;go_wp2_with fail;go_roundw
         case rel =>
          obtain ⟨g', hg'⟩ : ∃ g', g = g' + 1 := ⟨g - 1, by have := hgmH.out; omega⟩;refine ⟨j, g', lo + 1, by go_num, by omega, by omega, by omega, A8, c8, rfl, Hd ⟨hB8.out, by have := hgfH.out; omega, by have := hgmH.out; omega, ks ++ [Nd.mk 2 [] U [] []], by rw [List.length_append, hksH.out]; rfl, hO8.out, ?_⟩⟩;have hF := hFH.out;rw [hg', kids_4 ht1H.out (.inr rfl) hsp.out, if_neg hUH.out] at hF;rw [hF];simp [textN]
         case measure => simp [intOf]; omega
     ·rw [show (((6 : Nat) : Int)) = 6 from rfl] at m0;have m1 := hc1 1 _ rfl;have m2 := hc1 2 _ rfl;have m3 := hc1 3 _ rfl;have m4 := hc1 4 _ rfl;obtain ⟨la, hla⟩ : ∃ la, ats.length = la := ⟨_, rfl⟩;simp only [hla] at m1 m2 m3 m4;have hbt := below_alloc wr (.cells #[.int .i64 6, .int .i64 (ta : Nat), .string (strOf nm), .string (strOf tx), .slice Aa la ca] 87);have hnt := heap_alloc_new wr (.cells #[.int .i64 6, .int .i64 (ta : Nat), .string (strOf nm), .string (strOf tx), .slice Aa la ca] 87);obtain ⟨T, hTe⟩ : ∃ T, wr.heap.size = T := ⟨_, rfl⟩;obtain ⟨x1, hx1⟩ : ∃ x1, wr.alloc (.cells #[.int .i64 6, .int .i64 (ta : Nat), .string (strOf nm), .string (strOf tx), .slice Aa la ca] 87) = x1 := ⟨_, rfl⟩;rw [hx1] at hbt hnt;rw [hTe] at hnt;have t0 : x1.cell? ⟨T, 0, none⟩ = some (.int .i64 6) := cell_blk hnt rfl;have t2 : x1.cell? ⟨T, 2, none⟩ = some (.string (strOf nm)) := cell_blk hnt rfl;have t3 : x1.cell? ⟨T, 3, none⟩ = some (.string (strOf tx)) := cell_blk hnt rfl;have t4 : x1.cell? ⟨T, 4, none⟩ = some (.slice Aa la ca) := cell_blk hnt rfl;have hO1 := Hd (hO.below hbt);have hBx1 := Hd (hbx.trans (hbt.mono hO.2.2))
      have hAs1 : Hid (∀ y, Below x1.heap.size x1 y -> Sq AtEl 2 y Aa ats.length ca ats /\ ∀ a, Aa = some a -> 0 < ats.length -> (Bt.lo <= a.block /\ a.block < Bt.hi)) := Hd fun y hy => ⟨Sq.stay hAs.out (fun a e hn' => by
       have h1 := (hAx.out a e hn').2;have h1 : a.block < Bt.hi := h1;have h2 : Bt.hi <= wr.heap.size := by have := hO.2.1; have := hO.2.2; omega
       have h3 := hbt.size
       rw [hy.block _ (by omega), hbt.block _ (by omega)]) (fun _ _ h => h), fun a e hn' => hAx.out a e hn'⟩
      have hown : Hid (∀ k, (Value.slice Ao lo co).ownBlock = some k -> k < x1.heap.size) := Hd fun k hk => (OwS.lt hO1.out.1 k hk).2
      have hszB : Hid (B <= x1.heap.size) := Hd hO1.out.2.2;clear hQr hbl hc1 hbx hO hbt hnt;have hgfH := Hd hgf;have hgmH := Hd hgm;have hFH := Hd hF;have hksH := Hd hks;clear hgf hgm hF hks ht1 hR;have hbl9 := below_alloc x1 (.cells #[.int .i64 3, .string ⟨#[]⟩, .string (strOf tx), .slice none 0 0, .slice none 0 0] 25);have hO9 := Hd ((hO1.out).below hbl9)
      have hz : Hid (Sq (NdE (XK Bt B (x1.alloc (.cells #[.int .i64 3, .string ⟨#[]⟩, .string (strOf tx), .slice none 0 0, .slice none 0 0] 25)) (.slice Ao lo co))) 5 (x1.alloc (.cells #[.int .i64 3, .string ⟨#[]⟩, .string (strOf tx), .slice none 0 0, .slice none 0 0] 25)) (some ⟨x1.heap.size, 0, none⟩) 1 1 [Nd.mk 3 [] tx [] []]) := Hd (sq_one (El := NdE (XK Bt B (x1.alloc (.cells #[.int .i64 3, .string ⟨#[]⟩, .string (strOf tx), .slice none 0 0, .slice none 0 0] 25)) (.slice Ao lo co))) (k := 5) x1 [.int .i64 3, .string ⟨#[]⟩, .string (strOf tx), .slice none 0 0, .slice none 0 0] (Nd.mk 3 [] tx [] []) 25 (0, 0) rfl (by
       exact nd_leaf rfl rfl))
      have hB9 := Hd ((hBx1.out).trans (hbl9.mono (Nat.le_trans hszB.out (Nat.le_refl _))));have hN9 : lo + 1 <= 1000000 := (by omega);clear hbl9 hO1
      go_wp2_with (at_builtin; apply stop_here)
      refine Stop.go (append_sq (El := NdE (XK Bt B (x1.alloc (.cells #[.int .i64 3, .string ⟨#[]⟩, .string (strOf tx), .slice none 0 0, .slice none 0 0] 25)) (.slice Ao lo co))) (k := 5) _ 22 25 (.agg #[.int .i64 0, .string ⟨#[]⟩, .string ⟨#[]⟩, .slice none 0 0, .slice none 0 0]) 88 Tryz.underlying22 info_node rfl (by omega) rfl _ _ rfl B (.slice Ao lo co) ks rfl hO9.out.1 _ 1 1 [Nd.mk 3 [] tx [] []] rfl hz.out (fun vs x h => NdI.one h) hO9.out.keep (lo + 1) (by rw [hksH.out]) (by omega) (by omega) hO9.out.2.2 ?_);intro A8 c8 x8 ho8 hg8 hb8 hv8;have hO8 := Hd (hO9.out.app ho8 hg8 hv8);have hB8 := Hd (hB9.out.trans hb8);clear ho8 hg8 hb8 hv8 hO9 hz hB9;go_wp2_with fail;go_roundw
      case rel =>
       obtain ⟨g', hg'⟩ : ∃ g', g = g' + 1 := ⟨g - 1, by have := hgmH.out; omega⟩;refine ⟨m + 1, g', lo + 1, by go_num, by omega, by omega, by omega, A8, c8, rfl, Hd ⟨hB8.out, by have := hgfH.out; omega, by have := hgmH.out; omega, ks ++ [Nd.mk 3 [] tx [] []], by rw [List.length_append, hksH.out]; rfl, hO8.out, ?_⟩⟩;have hF := hFH.out;rw [hg', kids_6 ht1H.out rfl] at hF;rw [hF];simp
      case measure => simp [intOf]; omega
     ·rw [show (((7 : Nat) : Int)) = 7 from rfl] at m0;have m1 := hc1 1 _ rfl;have m2 := hc1 2 _ rfl;have m3 := hc1 3 _ rfl;have m4 := hc1 4 _ rfl;obtain ⟨la, hla⟩ : ∃ la, ats.length = la := ⟨_, rfl⟩;simp only [hla] at m1 m2 m3 m4;have hbt := below_alloc wr (.cells #[.int .i64 7, .int .i64 (ta : Nat), .string (strOf nm), .string (strOf tx), .slice Aa la ca] 87);have hnt := heap_alloc_new wr (.cells #[.int .i64 7, .int .i64 (ta : Nat), .string (strOf nm), .string (strOf tx), .slice Aa la ca] 87);obtain ⟨T, hTe⟩ : ∃ T, wr.heap.size = T := ⟨_, rfl⟩;obtain ⟨x1, hx1⟩ : ∃ x1, wr.alloc (.cells #[.int .i64 7, .int .i64 (ta : Nat), .string (strOf nm), .string (strOf tx), .slice Aa la ca] 87) = x1 := ⟨_, rfl⟩;rw [hx1] at hbt hnt;rw [hTe] at hnt;have t0 : x1.cell? ⟨T, 0, none⟩ = some (.int .i64 7) := cell_blk hnt rfl;have t2 : x1.cell? ⟨T, 2, none⟩ = some (.string (strOf nm)) := cell_blk hnt rfl;have t3 : x1.cell? ⟨T, 3, none⟩ = some (.string (strOf tx)) := cell_blk hnt rfl;have t4 : x1.cell? ⟨T, 4, none⟩ = some (.slice Aa la ca) := cell_blk hnt rfl;have hO1 := Hd (hO.below hbt);have hBx1 := Hd (hbx.trans (hbt.mono hO.2.2))
      have hAs1 : Hid (∀ y, Below x1.heap.size x1 y -> Sq AtEl 2 y Aa ats.length ca ats /\ ∀ a, Aa = some a -> 0 < ats.length -> (Bt.lo <= a.block /\ a.block < Bt.hi)) := Hd fun y hy => ⟨Sq.stay hAs.out (fun a e hn' => by
       have h1 := (hAx.out a e hn').2;have h1 : a.block < Bt.hi := h1;have h2 : Bt.hi <= wr.heap.size := by have := hO.2.1; have := hO.2.2; omega
       have h3 := hbt.size
       rw [hy.block _ (by omega), hbt.block _ (by omega)]) (fun _ _ h => h), fun a e hn' => hAx.out a e hn'⟩
      have hown : Hid (∀ k, (Value.slice Ao lo co).ownBlock = some k -> k < x1.heap.size) := Hd fun k hk => (OwS.lt hO1.out.1 k hk).2
      have hszB : Hid (B <= x1.heap.size) := Hd hO1.out.2.2;clear hQr hbl hc1 hbx hO hbt hnt;have hgfH := Hd hgf;have hgmH := Hd hgm;have hFH := Hd hF;have hksH := Hd hks;clear hgf hgm hF hks ht1 hR;have hbl9 := below_alloc x1 (.cells #[.int .i64 4, .string (strOf nm), .string (strOf tx), .slice none 0 0, .slice none 0 0] 25);have hO9 := Hd ((hO1.out).below hbl9)
      have hz : Hid (Sq (NdE (XK Bt B (x1.alloc (.cells #[.int .i64 4, .string (strOf nm), .string (strOf tx), .slice none 0 0, .slice none 0 0] 25)) (.slice Ao lo co))) 5 (x1.alloc (.cells #[.int .i64 4, .string (strOf nm), .string (strOf tx), .slice none 0 0, .slice none 0 0] 25)) (some ⟨x1.heap.size, 0, none⟩) 1 1 [Nd.mk 4 nm tx [] []]) := Hd (sq_one (El := NdE (XK Bt B (x1.alloc (.cells #[.int .i64 4, .string (strOf nm), .string (strOf tx), .slice none 0 0, .slice none 0 0] 25)) (.slice Ao lo co))) (k := 5) x1 [.int .i64 4, .string (strOf nm), .string (strOf tx), .slice none 0 0, .slice none 0 0] (Nd.mk 4 nm tx [] []) 25 (0, 0) rfl (by
       exact nd_leaf rfl rfl))
      have hB9 := Hd ((hBx1.out).trans (hbl9.mono (Nat.le_trans hszB.out (Nat.le_refl _))));have hN9 : lo + 1 <= 1000000 := (by omega);clear hbl9 hO1
      go_wp2_with (at_builtin; apply stop_here)
      refine Stop.go (append_sq (El := NdE (XK Bt B (x1.alloc (.cells #[.int .i64 4, .string (strOf nm), .string (strOf tx), .slice none 0 0, .slice none 0 0] 25)) (.slice Ao lo co))) (k := 5) _ 22 25 (.agg #[.int .i64 0, .string ⟨#[]⟩, .string ⟨#[]⟩, .slice none 0 0, .slice none 0 0]) 88 Tryz.underlying22 info_node rfl (by omega) rfl _ _ rfl B (.slice Ao lo co) ks rfl hO9.out.1 _ 1 1 [Nd.mk 4 nm tx [] []] rfl hz.out (fun vs x h => NdI.one h) hO9.out.keep (lo + 1) (by rw [hksH.out]) (by omega) (by omega) hO9.out.2.2 ?_);intro A8 c8 x8 ho8 hg8 hb8 hv8;have hO8 := Hd (hO9.out.app ho8 hg8 hv8);have hB8 := Hd (hB9.out.trans hb8);clear ho8 hg8 hb8 hv8 hO9 hz hB9;go_wp2_with fail;go_roundw
      case rel =>
       obtain ⟨g', hg'⟩ : ∃ g', g = g' + 1 := ⟨g - 1, by have := hgmH.out; omega⟩;refine ⟨m + 1, g', lo + 1, by go_num, by omega, by omega, by omega, A8, c8, rfl, Hd ⟨hB8.out, by have := hgfH.out; omega, by have := hgmH.out; omega, ks ++ [Nd.mk 4 nm tx [] []], by rw [List.length_append, hksH.out]; rfl, hO8.out, ?_⟩⟩;have hF := hFH.out;rw [hg', kids_7 ht1H.out rfl] at hF;rw [hF];simp
      case measure => simp [intOf]; omega
   ·have i1 : decide ((m : Int) < (n : Int)) = false := by simp; omega
    have hfin : Hid (KidsP ts n at_ f Bt w (.returned (.tuple #[.slice Ao lo co, .int .i64 (m : Nat)])) wr) := Hd (hKP.out _ _ (by
     obtain ⟨hbx, hgf, hgm, ks, hks, hO, hF⟩ := hR.out;obtain ⟨g, rfl⟩ : ∃ g', g = g' + 1 := ⟨g - 1, by omega⟩;rw [kids_out (by rw [hl.out]; omega)] at hF;subst hks
     exact ⟨hbx, Ao, co, ks, m, by simpa using hF, hm1, hm2, hlo, rfl, hO⟩))
    go_wp2_with fail
    go_ret2
    exact hfin.out
end
end Go.Proofs.YtokdnhdfmgfkeaaGreatDoor.Xt
end

section
namespace Go.Proofs.YtokdnhdfmgfkeaaGreatDoor.Xl
open Go.RowKit UtfW Er
structure Sr (w : World) (b : Nat) (S : Tx) (k : Nat) (A : Option Addr) (c : Nat) (e : Int) (pl : Nat) : Prop where
 blk : w.heap[b]? = some (.cells #[.slice A S.length c, .int .i64 (k : Nat), .int .i64 e, .int .i64 (pl : Nat)] 140)
 bs : Bs w A S.length c S
 ne : ∀ a, A = some a -> 0 < S.length -> a.block ≠ b
section
variable {w w' : World} {b : Nat} {S : Tx} {k : Nat} {A : Option Addr} {c : Nat} {e : Int} {pl : Nat}
theorem Sr.lt (h : Sr w b S k A c e pl) : b < w.heap.size := (Array.getElem?_eq_some_iff.1 h.blk).1
theorem Sr.frozen (h : Sr w b S k A c e pl) (i : Nat) : w.frozen? ⟨b, i, none⟩ = false := frozen_of_row w b i _ _ h.blk
theorem Sr.c0 (h : Sr w b S k A c e pl) : w.cell? ⟨b, 0, none⟩ = some (.slice A S.length c) := by simp [World.cell?, h.blk]
theorem Sr.c1 (h : Sr w b S k A c e pl) : w.cell? ⟨b, 1, none⟩ = some (.int .i64 (k : Nat)) := by simp [World.cell?, h.blk]
theorem Sr.c2 (h : Sr w b S k A c e pl) : w.cell? ⟨b, 2, none⟩ = some (.int .i64 e) := by simp [World.cell?, h.blk]
theorem Sr.c3 (h : Sr w b S k A c e pl) : w.cell? ⟨b, 3, none⟩ = some (.int .i64 (pl : Nat)) := by simp [World.cell?, h.blk]
theorem Sr.on (h : Sr w b S k A c e pl) (hg : w.grownBy w' (some b)) {k' : Nat} {e' : Int} {pl' : Nat} (hb : w'.heap[b]? = some (.cells #[.slice A S.length c, .int .i64 (k' : Nat), .int .i64 e', .int .i64 (pl' : Nat)] 140)) : Sr w' b S k' A c e' pl' :=
 ⟨hb, Rd.grown h.bs hg fun a e hn e2 => h.ne a e hn (by injection e2), h.ne⟩
theorem Sr.below (h : Sr w b S k A c e pl) (hb : Below w.heap.size w w') : Sr w' b S k A c e pl :=
 h.on (grown_in hb) ((hb.block b h.lt).trans h.blk)
theorem Sr.set1 (h : Sr w b S k A c e pl) (k' : Nat) : Sr (w.setCell ⟨b, 1, none⟩ (.int .i64 (k' : Nat))) b S k' A c e pl /\ w.grownBy (w.setCell ⟨b, 1, none⟩ (.int .i64 (k' : Nat))) (some b) := by
 have hg := grown_set w ⟨b, 1, none⟩ (.int .i64 (k' : Nat));exact ⟨h.on hg (blk_setCell h.blk _), hg⟩
theorem Sr.fail (h : Sr w b S k A c e pl) (e' : Int) (pl' : Nat) : Sr ((w.setCell ⟨b, 2, none⟩ (.int .i64 e')).setCell ⟨b, 3, none⟩ (.int .i64 (pl' : Nat))) b S k A c e' pl' /\ w.grownBy ((w.setCell ⟨b, 2, none⟩ (.int .i64 e')).setCell ⟨b, 3, none⟩ (.int .i64 (pl' : Nat))) (some b) := by
 have hg := (grown_set w ⟨b, 2, none⟩ (.int .i64 e')).trans (grown_set (w.setCell ⟨b, 2, none⟩ (.int .i64 e')) ⟨b, 3, none⟩ (.int .i64 (pl' : Nat)));exact ⟨h.on hg (blk_setCell (blk_setCell h.blk (i := 2) _) (i := 3) _), hg⟩
theorem Sr.at_ (h : Sr w b S k A c e pl) {j : Nat} (hj : j < S.length) : ∃ ba off, A = some ⟨ba, off, none⟩ /\ S[j]? = some S[j] /\ w.cell? ⟨ba, off + j, none⟩ = some (.int .u8 (S[j].toNat : Int)) := by
 obtain ⟨ba, off, e, hlt, hc⟩ := Rd.cell h.bs (by omega);have hx : S[j]? = some S[j] := List.getElem?_eq_getElem hj;exact ⟨ba, off, e, hx, hc j _ (by simp [bv, hx])⟩
end
section
variable (w : World) (b : Nat) (S : Tx) (k : Nat) (A : Option Addr) (c : Nat)
set_option maxRecDepth 100000 in
theorem rbad_any (pl : Nat) (h : Sr w b S k A c 0 pl) (e : Int) (at_ : Nat) :
  Calls Tryz.prog 103 #[.pointer (some ⟨b, 0, none⟩), .int .i64 e, .int .i64 (at_ : Nat)] w fun r w' => r = .returned (.tuple #[]) /\ Sr w' b S k A c e at_ /\ w.grownBy w' (some b) := by
 have hs := h.fail e at_;have c2 := h.c2;have c3 := h.c3;have f2 := h.frozen 2;have f3 := h.frozen 3
 go_enter Tryz.func103, Tryz.ntmps103
 go_wp2_with fail
 go_end0
 exact ⟨rfl, hs⟩
set_option maxRecDepth 100000 in
theorem rbad_idle {e0 : Int} (pl : Nat) (h : Sr w b S k A c e0 pl) (h0 : e0 ≠ 0) (e : Int) (at_ : Int) :
  Calls Tryz.prog 103 #[.pointer (some ⟨b, 0, none⟩), .int .i64 e, .int .i64 at_] w fun r w' => r = .returned (.tuple #[]) /\ w' = w := by
 have c2 := h.c2;have j0 : (e0 == 0) = false := by rw [beq_eq_false_iff_ne]; exact h0
 go_enter Tryz.func103, Tryz.ntmps103
 go_wp2_with fail
 go_end0
 exact ⟨rfl, rfl⟩
def cF (S : Tx) (p : Nat) : Int := match S[p]? with
 | none => -1
 | some x => (x.toNat : Int)
set_option maxRecDepth 100000 in
theorem rc_any {e0 : Int} (pl : Nat) (h : Sr w b S k A c e0 pl) (j : Nat) (hj : k + j <= 1000000) :
  Calls Tryz.prog 134 #[.pointer (some ⟨b, 0, none⟩), .int .i64 (j : Nat)] w fun r w' => r = .returned (.int .i64 (cF S (k + j))) /\ Below w.heap.size w w' := by
 have h' := Hd h;have c0 := h.c0;have c1 := h.c1;have u1 : IntKind.i64.wrap ((k : Int) + (j : Int)) = (k : Int) + (j : Int) := IntWalk.i64_in _ (by omega)
 by_cases hlt : k + j < S.length
 ·obtain ⟨ba, off, rfl, hx, hc⟩ := h.at_ hlt;have i0 : decide ((S.length : Int) <= (k : Int) + (j : Int)) = false := decide_eq_false (by omega);have i1 : decide (S.length <= k + j) = false := decide_eq_false (by omega);have q1 : (k : Int) + (j : Int) < (S.length : Int) := by omega
  have hF : cF S (k + j) = (S[k + j].toNat : Int) := by unfold cF; rw [hx]
  rw [hF];generalize S[k + j] = x at hc;have hx9 : wrap64 (x.toNat : Int) = (x.toNat : Int) := by have := x.toNat_lt; unfold wrap64; omega
  clear hx hF h
  go_enter Tryz.func134, Tryz.ntmps134
  go_wp2_with fail
  go_big_quiet (fail)
  have hb1 := Joins.below_draws w.heap.size w nq;generalize w.drewN nq = w1 at hb1 ⊢;have hb1' := Hd hb1;have c0 := (h'.out.below hb1).c0;have c1 := (h'.out.below hb1).c1;have hc := cell_keep hc hb1;clear hb1;go_wp2_with fail
  go_big_quiet (fail)
  go_wp2_with fail;go_ret;exact ⟨ret_int hx9, hb1'.out.trans ((Joins.below_draws _ w1 _).mono hb1'.out.size)⟩
 ·have i0 : decide ((S.length : Int) <= (k : Int) + (j : Int)) = true := decide_eq_true (by omega);have i1 : decide (S.length <= k + j) = true := decide_eq_true (by omega);have hF : cF S (k + j) = -1 := by unfold cF; rw [List.getElem?_eq_none (by omega)]
  rw [hF];clear hF h
  go_enter Tryz.func134, Tryz.ntmps134
  go_wp2_with fail
  go_big_quiet (fail)
  go_wp2_with fail;go_ret;exact ⟨rfl, Joins.below_draws _ w _⟩
end
end Go.Proofs.YtokdnhdfmgfkeaaGreatDoor.Xl
end

section
namespace Go.Proofs.YtokdnhdfmgfkeaaGreatDoor.Xl
open Go.RowKit UtfW Er
theorem hp_iff {r p : Tx} : Lib.hasPrefix r p = true ↔ ∀ m, m < p.length -> r[m]? = p[m]? := by
 constructor
 ·intro h m hm;obtain ⟨x, rfl⟩ := hp_cut h;rw [List.getElem?_append_left hm]
 ·intro h
  have : p <+: r := by
   rw [List.prefix_iff_eq_take];refine List.ext_getElem? fun m => ?_
   by_cases hm : m < p.length
   ·rw [List.getElem?_take, if_pos hm, h m hm]
   ·rw [List.getElem?_eq_none (by omega), List.getElem?_take, if_neg hm]
  exact List.isPrefixOf_iff_prefix.2 this
section
variable (w : World) (b : Nat) (S : Tx) (k : Nat) (A : Option Addr) (c : Nat)
set_option maxHeartbeats 2000000 in
set_option maxRecDepth 100000 in
theorem rhas_any {e0 : Int} (pl : Nat) (h : Sr w b S k A c e0 pl) (p : Tx) (hp : p.length <= 100000) (hk : k <= 100000) :
    Calls Tryz.prog 100 #[.pointer (some ⟨b, 0, none⟩), .string (strOf p)] w fun r w' => r = .returned (.bool (Lib.hasPrefix (S.drop k) p)) /\ Below w.heap.size w w' := by
  have hsz : (strOf p).size = p.length := strOf_size' p;have h' := Hd h;clear h;obtain ⟨R, hR⟩ : ∃ R, Lib.hasPrefix (S.drop k) p = R := ⟨_, rfl⟩;rw [hR];have hR' := Hd hR;clear hR
  go_enter Tryz.func100, Tryz.ntmps100
  go_wp2_with fail
  go_loopw [5] (fun v5 wr => ∃ i : Nat, i <= p.length /\ v5 = .int .i64 (i : Nat) /\ Hid (∀ m, m < i -> S[k + m]? = p[m]?) /\ Hid (Below w.heap.size w wr)) (fun v5 _ => p.length - (intOf v5).toNat)
  case atStart => exact ⟨0, by omega, rfl, Hd (fun m hm => absurd hm (by omega)), Hd (Below.refl _ _)⟩
  case round =>
    obtain ⟨i, hi, rfl, hok, hb⟩ := hrel
    by_cases hlt : i < p.length
    · have i1 : decide ((i : Int) < (p.length : Int)) = true := by simp; omega
      have q1 : (i : Int) < (p.length : Int) := (by omega);have hx : p[i]? = some p[i] := List.getElem?_eq_getElem hlt;generalize p[i] = x at hx;have hlt' : i < (strOf p).size := (by omega);have hgx := str_at hx hlt';have hx' := Hd hx;have hx9 : wrap64 (x.toNat : Int) = (x.toNat : Int) := by have := x.toNat_lt; unfold wrap64; omega
      have hdr : Hid (Below wr.heap.size wr wr.drew) := Hd (Joins.below_draws wr.heap.size wr 1);clear hx;go_wp2_with fail;refine Pl.wp_region_plan 7 (.take 0 (.take 1 (.take 3 (.take 4 (.take 5 (.take 6 (.run 2 .done))))))) (fun _ => True) (by kernel_rfl) (by kernel_rfl) trivial ?_;simp only [Pl.fill, Al_4, Al_5, Al_6, Al_7]
      iterate 6
        first
        | (refine Pl.take_go ?_ (by rfl) (fun _ _ _ h => h) ?_ ?_
           rotate_left
           · (intro x hSw; skip; go_simp; try with_reducible rfl)
           (try simp only [Act.put, Al_1, Al_2, Al_3]))
        | (refine Pl.take_skip (by rfl) (fun _ _ _ h => h) ?_
           (try simp only [Act.put, Al_1, Al_2, Al_3]))
      refine Pl.run_go (fun K hK => ?_);go_simp;refine (rc_any _ b S k A c pl (h'.out.below (hb.out.trans (hdr.out.mono hb.out.size))) i (by omega)).mono ?_;rintro e w3 ⟨rfl, hb3⟩;have hb2 := Hd (hb.out.trans ((hdr.out.trans (hb3.mono hdr.out.size)).mono hb.out.size));dsimp only;refine hK.out _ _ (Pl.more_go (fun _ => True) (fun _ _ => trivial) trivial ?_);clear hK K hb3
      try simp only [Act.put, Al_1, Al_2, Al_3]
      refine Pl.done_go ?_
      by_cases he : S[k + i]? = some x
      · have hcF : cF S (k + i) = (x.toNat : Int) := by unfold cF; rw [he]
        have j1 : (cF S (k + i) != (x.toNat : Int)) = false := by rw [hcF]; simp
        have hok2 : Hid (∀ m, m < i + 1 -> S[k + m]? = p[m]?) := Hd fun m hm => by
          by_cases hmi : m = i
          · rw [hmi, he, hx'.out]
          · exact hok.out m (by omega)
        clear hcF he;go_wp2_with fail;go_roundw
        case rel => exact ⟨i + 1, by omega, by go_num, hok2, hb2⟩
        case measure => simp [intOf]; omega
      · have j1 : (cF S (k + i) != (x.toNat : Int)) = true := by
          rw [bne_iff_ne];intro e;apply he;unfold cF at e
          split at e
          · have := x.toNat_lt; omega
          · rename_i y hy
            rw [hy];have : y = x := UInt8.toNat_inj.1 (by omega);rw [this]
        have hRf : R = false := by
          rw [<- hR'.out, Bool.eq_false_iff];intro hc;have := hp_iff.1 hc i hlt;rw [List.getElem?_drop, hx'.out] at this;exact he this
        subst hRf;clear he;go_wp2_with fail
        (try simp only [Exit.inBlock, Exit.then])
        go_ret;exact ⟨rfl, hb2.out⟩
    · have i1 : decide ((i : Int) < (p.length : Int)) = false := by simp; omega
      have hRt : R = true := by
        rw [<- hR'.out, hp_iff];intro m hm;rw [List.getElem?_drop];exact hok.out m (by omega)
      subst hRt;go_wp2_with fail
      (try simp only [Exit.inBlock, Exit.then])
      go_ret;exact ⟨rfl, hb.out⟩
end
end Go.Proofs.YtokdnhdfmgfkeaaGreatDoor.Xl
end

section
namespace Go.Proofs.YtokdnhdfmgfkeaaGreatDoor.Xl
open Go.RowKit UtfW Er
def GivesR {α : Type} (w : World) (b : Nat) (S : Tx) (k : Nat) (A : Option Addr) (c : Nat) (pl : Nat) (D : Value -> Prop) (V : α -> Value) (x : Out α) (e : Ending) (w' : World) : Prop :=
 w.grownBy w' (some b) /\ match x with
 | .bad cd o => cd ≠ 0 /\ ∃ v q, e = .returned v /\ D v /\ q <= S.length /\ Sr w' b S q A c cd (k + o)
 | .ok a n => e = .returned (V a) /\ Sr w' b S (k + n) A c 0 pl
theorem below_drew (w : World) : Below w.heap.size w w.drew := Joins.below_draws w.heap.size w 1
theorem cF_end {S : Tx} {k : Nat} (h : S.length <= k) : cF S k = -1 := by unfold cF; rw [List.getElem?_eq_none (by omega)]
theorem cF_at {S : Tx} {k : Nat} {x : UInt8} (h : S[k]? = some x) : cF S k = (x.toNat : Int) := by unfold cF; rw [h]
theorem find_off {p S : Tx} {q : Nat} (h : q < S.length) (hp : Lib.hasPrefix (S.drop q) p = false) : find p (S.drop q) = (find p (S.drop (q + 1))).map (· + 1) := by
 have hx : S[q]? = some S[q] := List.getElem?_eq_getElem h;rw [drop_at hx] at hp ⊢;have hp' : ¬ List.isPrefixOf p (S[q] :: S.drop (q + 1)) = true := by rw [Bool.not_eq_true]; exact hp
 rw [find, if_neg hp']
theorem find_on {p S : Tx} {q : Nat} (h : q < S.length) (hp : Lib.hasPrefix (S.drop q) p = true) : find p (S.drop q) = some 0 := by
 have hx : S[q]? = some S[q] := List.getElem?_eq_getElem h;rw [drop_at hx] at hp ⊢;have hp' : List.isPrefixOf p (S[q] :: S.drop (q + 1)) = true := hp;rw [find, if_pos hp']
theorem find_end {p S : Tx} {q : Nat} (h : S.length <= q) (hp : 0 < p.length) : find p (S.drop q) = none := by
 rw [drop_end h, find, if_neg];rintro rfl;simp at hp
def upG (p r : Tx) : Option Nat -> Out Tx
 | none => .bad 6 r.length
 | some n => .ok (r.take n) (n + p.length)
section
variable (w : World) (b : Nat) (S : Tx) (k : Nat) (A : Option Addr) (c : Nat)
set_option maxRecDepth 100000 in
theorem rmust_any (pl : Nat) (h : Sr w b S k A c 0 pl) (hk : k <= S.length) (hS : S.length <= 100000) (x : UInt8) :
  Calls Tryz.prog 143 #[.pointer (some ⟨b, 0, none⟩), .int .u8 (x.toNat : Int)] w fun e w' => GivesR w b S k A c pl (fun v => v = .tuple #[]) (fun _ => .tuple #[]) (eat [x] (S.drop k)) e w' := by
 have c2 := h.c2;have h' := Hd h;clear h;have hx9 : wrap64 (x.toNat : Int) = (x.toNat : Int) := by have := x.toNat_lt; unfold wrap64; omega
 by_cases hlt : k < S.length
 ·have hx : S[k]? = some S[k] := List.getElem?_eq_getElem hlt;generalize S[k] = y at hx;have hx' := Hd hx;have hF := cF_at hx;clear hx;have j0 : decide ((y.toNat : Int) < 0) = false := by simp
  have hF' := Hd hF;clear hF
  by_cases he : y = x
  ·have j1 : ((y.toNat : Int) != (x.toNat : Int)) = false := by rw [he]; simp
   have he' := Hd he;clear he
   go_enter Tryz.func143, Tryz.ntmps143
   go_wp2_with fail;refine (rc_any w b S k A c pl h'.out 0 (by omega)).mono ?_;rintro e w1 ⟨rfl, hb1⟩;have hs1 := Hd (h'.out.below hb1);have hg1 := Hd (grown_in (r := some b) hb1);rw [Nat.add_zero, hF'.out];clear hb1 c2;go_wp2_with fail;refine (rc_any w1 b S k A c pl hs1.out 0 (by omega)).mono ?_;rintro e w2 ⟨rfl, hb2⟩;have hs2 := Hd (hs1.out.below hb2);have hg2 := Hd (hg1.out.trans (grown_in (r := some b) hb2));rw [Nat.add_zero, hF'.out];have c1 := hs2.out.c1;have f1 := hs2.out.frozen 1;clear hb2;go_wp2_with fail
   go_end0
   have h3 := hs2.out.set1 (k + 1);refine ⟨hg2.out.trans h3.2, ?_⟩;rw [drop_at hx'.out, eat, if_pos he'.out, eat];exact ⟨rfl, h3.1⟩
  ·have j1 : ((y.toNat : Int) != (x.toNat : Int)) = true := by
    rw [bne_iff_ne];intro e;exact he (UInt8.toNat_inj.1 (by omega))
   have he' := Hd he;clear he
   go_enter Tryz.func143, Tryz.ntmps143
   go_wp2_with fail;refine (rc_any w b S k A c pl h'.out 0 (by omega)).mono ?_;rintro e w1 ⟨rfl, hb1⟩;have hs1 := Hd (h'.out.below hb1);have hg1 := Hd (grown_in (r := some b) hb1);rw [Nat.add_zero, hF'.out];clear hb1 c2;go_wp2_with fail;refine (rc_any w1 b S k A c pl hs1.out 0 (by omega)).mono ?_;rintro e w2 ⟨rfl, hb2⟩;have hs2 := Hd (hs1.out.below hb2);have hg2 := Hd (hg1.out.trans (grown_in (r := some b) hb2));rw [Nat.add_zero, hF'.out];have c1 := hs2.out.c1;clear hb2;go_wp2_with fail;refine (rbad_any w2 b S k A c pl hs2.out 2 k).mono ?_;rintro e w3 ⟨rfl, hs3, hg3⟩;have hs3' := Hd hs3;have hg3' := Hd (hg2.out.trans hg3);clear hs3 hg3;go_wp2_with fail
   go_end0
   refine ⟨hg3'.out, ?_⟩;rw [drop_at hx'.out, eat, if_neg he'.out];exact ⟨by decide, _, k, rfl, rfl, hk, hs3'.out⟩
 ·have hF := cF_end (S := S) (k := k) (by omega);have hF' := Hd hF;clear hF
  go_enter Tryz.func143, Tryz.ntmps143
  go_wp2_with fail;refine (rc_any w b S k A c pl h'.out 0 (by omega)).mono ?_;rintro e w1 ⟨rfl, hb1⟩;have hs1 := Hd (h'.out.below hb1);have hg1 := Hd (grown_in (r := some b) hb1);rw [Nat.add_zero, hF'.out];have c0 := hs1.out.c0;clear hb1 c2;go_wp2_with fail;refine (rbad_any w1 b S k A c pl hs1.out 6 S.length).mono ?_;rintro e w3 ⟨rfl, hs3, hg3⟩;have hs3' := Hd hs3;have hg3' := Hd (hg1.out.trans hg3);clear hs3 hg3;go_wp2_with fail
  go_end0
  refine ⟨hg3'.out, ?_⟩;rw [drop_end (by omega), eat];refine ⟨by decide, _, k, rfl, rfl, hk, ?_⟩;rw [show k + 0 = S.length by omega];exact hs3'.out
set_option maxRecDepth 100000 in
theorem rmust_idle {e0 : Int} (pl : Nat) (h : Sr w b S k A c e0 pl) (h0 : e0 ≠ 0) (x : Int) :
  Calls Tryz.prog 143 #[.pointer (some ⟨b, 0, none⟩), .int .u8 x] w fun e w' => e = .returned (.tuple #[]) /\ w' = w := by
 have c2 := h.c2;have j0 : (e0 == 0) = false := by rw [beq_eq_false_iff_ne]; exact h0
 have j1 : (e0 != 0) = true := by rw [bne_iff_ne]; exact h0
 go_enter Tryz.func143, Tryz.ntmps143
 go_wp2_with fail;refine bodyPost_ret (results_none rfl _ _ _) rfl ?_;exact ⟨rfl, rfl⟩
set_option maxRecDepth 100000 in
theorem rblanks_any (pl : Nat) (h : Sr w b S k A c 0 pl) (hk : k <= S.length) (hS : S.length <= 100000) :
  Calls Tryz.prog 142 #[.pointer (some ⟨b, 0, none⟩)] w fun e w' => e = .returned (.int .i64 ((blanks (S.drop k) : Nat) : Int)) /\ Sr w' b S (k + blanks (S.drop k)) A c 0 pl /\ w.grownBy w' (some b) := by
 have h' := Hd h;clear h;obtain ⟨R, hR⟩ : ∃ R, blanks (S.drop k) = R := ⟨_, rfl⟩;rw [hR];have hR' := Hd hR;clear hR
 go_enter Tryz.func142, Tryz.ntmps142
 go_wp2_with fail
 go_loopw [3] (fun v3 wr => ∃ n : Nat, k + n <= S.length /\ v3 = .int .i64 (n : Nat) /\ Hid (n + blanks (S.drop (k + n)) = R) /\ Hid (Sr wr b S (k + n) A c 0 pl) /\ Hid (w.grownBy wr (some b))) (fun v3 _ => S.length - (intOf v3).toNat)
 case atStart => exact ⟨0, hk, rfl, Hd (by rw [Nat.zero_add]; exact hR'.out), h', Hd (World.grownBy.refl _ _)⟩
 case round =>
  obtain ⟨n, hn, rfl, hr, hs, hg⟩ := hrel;have c2 := hs.out.c2
  by_cases hlt : k + n < S.length
  ·have hx : S[k + n]? = some S[k + n] := List.getElem?_eq_getElem hlt;generalize S[k + n] = y at hx;have hF := cF_at hx;have hx' := Hd hx;have hF' := Hd hF;clear hF hx;have j0 : decide (0 <= (y.toNat : Int)) = true := by simp
   have hw := wrap32_byte y;go_wp2_with fail;refine (rc_any wr b S (k + n) A c pl hs.out 0 (by omega)).mono ?_;rintro e w1 ⟨rfl, hb1⟩;have hs1 := Hd (hs.out.below hb1);have hg1 := Hd (hg.out.trans (grown_in (r := some b) hb1));rw [Nat.add_zero, hF'.out];clear hb1 c2;go_wp2_with fail;refine (rc_any w1 b S (k + n) A c pl hs1.out 0 (by omega)).mono ?_;rintro e w2 ⟨rfl, hb2⟩;have hs2 := Hd (hs1.out.below hb2);have hg2 := Hd (hg1.out.trans (grown_in (r := some b) hb2));rw [Nat.add_zero, hF'.out];clear hb2;go_wp2_with fail;refine (refblank_any _ w2).mono ?_;rintro e w3 ⟨rfl, rfl⟩
   cases hbl : Qx.blank y with
   | true =>
    have hbl' : Blank (y.toNat : Int) = true := hbl;have hbh := Hd hbl;clear hbl;rw [hbl'];have c1 := hs2.out.c1;have f1 := hs2.out.frozen 1;go_wp2_with fail;have h3 := hs2.out.set1 (k + n + 1);go_roundw
    case measure => simp [intOf]; omega
    case rel => exact ⟨n + 1, by omega, by go_num, Hd (by have := hr.out; rw [blanks_on hx'.out hbh.out] at this; rw [<- Nat.add_assoc]; omega), Hd h3.1, Hd (hg2.out.trans h3.2)⟩
   | false =>
    have hbl' : Blank (y.toNat : Int) = false := hbl;have hbh := Hd hbl;clear hbl;rw [hbl'];go_wp2_with fail;go_ret;have := hr.out;rw [blanks_off hx'.out hbh.out, Nat.add_zero] at this;rw [<- this];exact ⟨rfl, hs2.out, hg2.out⟩
  ·have hF := cF_end (S := S) (k := k + n) (by omega);have hF' := Hd hF;clear hF;go_wp2_with fail;refine (rc_any wr b S (k + n) A c pl hs.out 0 (by omega)).mono ?_;rintro e w1 ⟨rfl, hb1⟩;have hs1 := Hd (hs.out.below hb1);have hg1 := Hd (hg.out.trans (grown_in (r := some b) hb1));rw [Nat.add_zero, hF'.out];clear hb1 c2;go_wp2_with fail;go_ret;have := hr.out;rw [blanks_end (by omega), Nat.add_zero] at this;rw [<- this];exact ⟨rfl, hs1.out, hg1.out⟩
set_option maxRecDepth 100000 in
theorem rblanks_idle {e0 : Int} (pl : Nat) (h : Sr w b S k A c e0 pl) (h0 : e0 ≠ 0) :
  Calls Tryz.prog 142 #[.pointer (some ⟨b, 0, none⟩)] w fun e w' => e = .returned (.int .i64 0) /\ w' = w := by
 have c2 := h.c2;have j0 : (e0 == 0) = false := by rw [beq_eq_false_iff_ne]; exact h0
 go_enter Tryz.func142, Tryz.ntmps142
 go_wp2_with fail
 go_loopw [3] (fun v3 wr => v3 = .int .i64 0 /\ wr = w) (fun _ _ => 0)
 case atStart => exact ⟨rfl, rfl⟩
 case round =>
  obtain ⟨rfl, rfl⟩ := hrel;go_wp2_with fail;go_ret;exact ⟨rfl, rfl⟩
set_option maxHeartbeats 1000000 in
set_option maxRecDepth 100000 in
theorem runtil_any (pl : Nat) (h : Sr w b S k A c 0 pl) (hk : k <= S.length) (hS : S.length <= 100000) (p : Tx) (hp0 : 0 < p.length) (hp : p.length <= 100000) :
    Calls Tryz.prog 101 #[.pointer (some ⟨b, 0, none⟩), .string (strOf p)] w fun e w' => GivesR w b S k A c pl (fun v => v = .string ⟨#[]⟩) (fun v => .string (strOf v)) (upto p (S.drop k)) e w' := by
  have hsz : (strOf p).size = p.length := strOf_size' p;have hlc := Rd.le h.bs;have hcm := Rd.max h.bs;have c1 := h.c1;have h' := Hd h;clear h;obtain ⟨R, hR⟩ : ∃ R, find p (S.drop k) = R := ⟨_, rfl⟩;have hR' := Hd hR;clear hR;have hup : Hid (upto p (S.drop k) = upG p (S.drop k) R) := Hd (by rw [<- hR'.out]; rfl);obtain ⟨G, hG⟩ : ∃ G, upto p (S.drop k) = G := ⟨_, rfl⟩;rw [hG];have hG' := Hd hG;clear hG;obtain ⟨A1, hA1⟩ : ∃ A1, (if c = k then A else Option.map (fun x => x.add k) A) = A1 := ⟨_, rfl⟩
  go_enter Tryz.func101, Tryz.ntmps101
  go_wp2_with fail
  go_loopg [] (S.length - k) (fun m wr => ∃ q : Nat, k <= q /\ q <= S.length /\ S.length - q <= m /\ Hid (R = (find p (S.drop q)).map (· + (q - k))) /\ Hid (Sr wr b S q A c 0 pl) /\ Hid (w.grownBy wr (some b)))
  case atStart => exact ⟨k, Nat.le_refl _, hk, Nat.le_refl _, Hd (by rw [Nat.sub_self, hR'.out]; cases R <;> rfl), h', Hd (World.grownBy.refl _ _)⟩
  case round =>
    clear c1;obtain ⟨q, hkq, hql, hms, hr, hs, hg⟩ := hrel
    by_cases hlt : q < S.length
    · have i0 : decide ((q : Int) < (S.length : Int)) = true := by simp; omega
      have i1 : decide (q < S.length) = true := by simp; omega
      go_wp2_with fail;refine Pl.wp_region_plan 9 (.take 0 (.take 1 (.take 2 (.take 3 (.take 4 (.take 5 (.take 6 (.take 7 (.take 8 .done))))))))) (fun x => Below wr.heap.size wr x) (by kernel_rfl) (by kernel_rfl) (by exact (below_drew wr)) ?_;simp only [Pl.fill, Al_4, Al_5, Al_6, Al_7]
      iterate 9
        first
        | (refine Pl.take_go ?_ (by rfl) (fun _ _ _ h => h) ?_ ?_
           rotate_left
           · (intro x hSw; have s0 := (hs.out.below hSw).c0; have s1 := (hs.out.below hSw).c1; go_simp; try with_reducible rfl)
           (try simp only [Act.put, Al_1, Al_2, Al_3]))
        | (refine Pl.take_skip (by rfl) (fun _ _ _ h => h) ?_
           (try simp only [Act.put, Al_1, Al_2, Al_3]))
      refine Pl.done_go ?_;have hs2 := Hd (hs.out.below (below_drew wr));have hg2 := Hd (hg.out.trans (grown_in (below_drew wr)));clear hs hg;go_wp2_with fail;refine (rhas_any _ b S q A c pl hs2.out p hp (by omega)).mono ?_;rintro e w3 ⟨rfl, hb3⟩;have hs3 := Hd (hs2.out.below hb3);have hg3 := Hd (hg2.out.trans (grown_in (r := some b) hb3));clear hb3
      cases hpf : Lib.hasPrefix (S.drop q) p with
      | true =>
        have hpl : q + p.length <= S.length := by
          have := Qx.prefix_len hpf;rw [List.length_drop] at this;omega
        have hres : Hid (G = .ok ((S.drop k).take (q - k)) (q - k + p.length)) := Hd (by
          have h1 := hr.out;rw [find_on hlt hpf] at h1;rw [<- hG'.out, hup.out, h1]
          simp [upG])
        have hcut : Bs w3 (offA A c k) (q - k) (c - k) ((S.drop k).take (q - k)) := Bs.from hs3.out.bs hkq (by omega);unfold offA at hcut;rw [hA1] at hcut;have hcut' := Hd hcut;have hcv2 : ∀ x, Below w3.heap.size w3 x -> (convert 41 9 (.slice A1 (q - k) (c - k))).run Tryz.prog x = .ok (.string (strOf ((S.drop k).take (q - k)))) x := fun x hx => Bs.conv (Bs.below hcut'.out hx) Tryz.underlying41 Tryz.underlying5 Tryz.underlying9
        have hcv := Hd hcv2;clear hcut hcv2;have q1 : (0 : Int) <= (k : Int) /\ (k : Int) <= (q : Int) := ⟨by omega, by omega⟩;go_wp2_with fail;refine Pl.wp_region_plan 9 (.take 0 (.take 1 (.take 2 (.take 3 (.take 4 (.take 5 (.take 6 (.take 7 (.take 8 .done))))))))) (fun x => Below w3.heap.size w3 x) (by kernel_rfl) (by kernel_rfl) (by exact (below_drew w3)) ?_;simp only [Pl.fill, Al_4, Al_5, Al_6, Al_7]
        iterate 9
          first
          | (refine Pl.take_go ?_ (by rfl) (fun _ _ _ h => h) ?_ ?_
             rotate_left
             · (intro x hSw; have s0 := (hs3.out.below hSw).c0; have s1 := (hs3.out.below hSw).c1; go_simp; try with_reducible rfl)
             (try simp only [Act.put, Al_1, Al_2, Al_3]))
          | (refine Pl.take_skip (by rfl) (fun _ _ _ h => h) ?_
             (try simp only [Act.put, Al_1, Al_2, Al_3]))
        refine Pl.done_go ?_;have hdr9 := below_drew w3;have hs4 := Hd (hs3.out.below hdr9);have hg4 := Hd (hg3.out.trans (grown_in (r := some b) hdr9));have hcv3 := hcv.out _ hdr9;clear hdr9;have c1 := hs4.out.c1;have f1 := hs4.out.frozen 1;go_wp2_with fail;go_ret;have h5 := hs4.out.set1 (q + p.length);refine ⟨hg4.out.trans h5.2, ?_⟩;rw [hres.out];refine ⟨rfl, ?_⟩;rw [show k + (q - k + p.length) = q + p.length by omega];exact h5.1
      | false =>
        have c1 := hs3.out.c1;have f1 := hs3.out.frozen 1;have hpf' := Hd hpf;clear hpf;go_wp2_with fail;have h5 := hs3.out.set1 (q + 1)
        go_roundg (S.length - (q + 1))
        case measure => omega
        case rel =>
          refine ⟨q + 1, by omega, by omega, Nat.le_refl _, Hd ?_, Hd h5.1, Hd (hg3.out.trans h5.2)⟩;rw [hr.out, find_off hlt hpf'.out, Option.map_map]
          congr 1
          funext z
          simp only [Function.comp];omega
    · have i0 : decide ((q : Int) < (S.length : Int)) = false := by simp; omega
      have i1 : decide (q < S.length) = false := by simp; omega
      have hres : Hid (G = .bad 6 (S.length - k)) := Hd (by
        have h1 := hr.out;rw [find_end (by omega) hp0] at h1;rw [<- hG'.out, hup.out, h1]
        simp [upG])
      go_wp2_with fail;refine Pl.wp_region_plan 9 (.take 0 (.take 1 (.take 2 (.take 3 (.take 4 (.take 5 (.take 6 (.take 7 (.take 8 .done))))))))) (fun x => Below wr.heap.size wr x) (by kernel_rfl) (by kernel_rfl) (by exact (below_drew wr)) ?_;simp only [Pl.fill, Al_4, Al_5, Al_6, Al_7]
      iterate 9
        first
        | (refine Pl.take_go ?_ (by rfl) (fun _ _ _ h => h) ?_ ?_
           rotate_left
           · (intro x hSw; have s0 := (hs.out.below hSw).c0; have s1 := (hs.out.below hSw).c1; go_simp; try with_reducible rfl)
           (try simp only [Act.put, Al_1, Al_2, Al_3]))
        | (refine Pl.take_skip (by rfl) (fun _ _ _ h => h) ?_
           (try simp only [Act.put, Al_1, Al_2, Al_3]))
      refine Pl.done_go ?_;have hs2 := Hd (hs.out.below (below_drew wr));have hg2 := Hd (hg.out.trans (grown_in (below_drew wr)));clear hs hg;have c0 := hs2.out.c0;go_wp2_with fail;refine (rbad_any _ b S q A c pl hs2.out 6 S.length).mono ?_;rintro e w3 ⟨rfl, hs3, hg3⟩;have hs3' := Hd hs3;have hg3' := Hd (hg2.out.trans hg3);clear hs3 hg3;go_wp2_with fail;go_ret;refine ⟨hg3'.out, ?_⟩;rw [hres.out];refine ⟨by decide, _, q, rfl, rfl, hql, ?_⟩;rw [show k + (S.length - k) = S.length by omega];exact hs3'.out
end
end Go.Proofs.YtokdnhdfmgfkeaaGreatDoor.Xl
end

section
namespace Go.Proofs.YtokdnhdfmgfkeaaGreatDoor.Xl
open Go.RowKit UtfW Qx Er
section
variable (w : World) (b : Nat) (S : Tx) (k : Nat) (A : Option Addr) (c : Nat)
set_option maxHeartbeats 2000000 in
set_option maxRecDepth 100000 in
theorem rname_any (pl : Nat) (h : Sr w b S k A c 0 pl) (hk : k <= S.length) (hS : S.length <= 100000) :
    Calls Tryz.prog 141 #[.pointer (some ⟨b, 0, none⟩)] w fun e w' => GivesR w b S k A c pl (fun v => v = .string ⟨#[]⟩) (fun v => .string (strOf v)) (name (S.drop k)) e w' := by
  have hlc := Rd.le h.bs;have hcm := Rd.max h.bs;have c1 := h.c1;have c2 := h.c2;have h' := Hd h;clear h;obtain ⟨R, hR⟩ : ∃ R, nameL (S.drop k) = R := ⟨_, rfl⟩;have hR' := Hd hR;clear hR;obtain ⟨A1, hA1⟩ : ∃ A1, (if c = k then A else Option.map (fun x => x.add k) A) = A1 := ⟨_, rfl⟩;obtain ⟨G, hG⟩ : ∃ G, name (S.drop k) = G := ⟨_, rfl⟩;rw [hG];have hend : Hid (S.length <= k -> G = .bad 6 0) := Hd (fun h => by rw [<- hG, drop_end h]; rfl)
  have hne : Hid (k < S.length -> S.drop k ≠ []) := Hd (fun h e => by
    have := congrArg List.length e;rw [List.length_drop] at this;simp at this
    omega)
  have hno : Hid (k < S.length -> R = 0 -> G = .bad 2 0) := Hd (fun h h0 => by rw [<- hG]; unfold name; rw [if_neg (hne.out h), if_pos (hR'.out.trans h0)]);have hyes : Hid (k < S.length -> R ≠ 0 -> G = .ok ((S.drop k).take R) R) := Hd (fun h h0 => by rw [<- hG]; unfold name; rw [if_neg (hne.out h), if_neg (fun e => h0 (hR'.out.symm.trans e)), hR'.out]);clear hG
  go_enter Tryz.func141, Tryz.ntmps141
  go_wp2_with fail
  go_loopg [4, 5] (S.length - k) (fun m u v wr => ∃ q f : Nat, k <= q /\ q <= S.length /\ S.length - q <= m /\ Hid (S.length < q + f) /\ Hid ((q - k) + nameF f (decide (q = k)) (S.drop q) = R) /\ Hid (Sr wr b S q A c 0 pl) /\ Hid (w.grownBy wr (some b)))
  case atStart =>
    refine ⟨k, S.length - k + 1, Nat.le_refl _, hk, Nat.le_refl _, Hd (by omega), Hd ?_, h', Hd (World.grownBy.refl _ _)⟩;have := hR'.out;unfold nameL at this;rw [List.length_drop] at this
    simpa using this
  case round =>
    clear c1 c2;obtain ⟨q, f, hkq, hql, hms, hf, hr, hs, hg⟩ := hrel
    by_cases hlt : q < S.length
    · have i0 : decide ((q : Int) < (S.length : Int)) = true := by simp; omega
      have i1 : decide (q < S.length) = true := by simp; omega
      have hkl : k < S.length := (by omega);go_wp2_with fail;refine Pl.wp_region_plan 9 (.take 0 (.take 1 (.take 2 (.take 3 (.take 4 (.take 5 (.take 6 (.take 7 (.take 8 .done))))))))) (fun x => Below wr.heap.size wr x) (by kernel_rfl) (by kernel_rfl) (by exact (below_drew wr)) ?_;simp only [Pl.fill, Al_4, Al_5, Al_6, Al_7]
      iterate 9
        first
        | (refine Pl.take_go ?_ (by rfl) (fun _ _ _ h => h) ?_ ?_
           rotate_left
           · (intro x hSw; have s0 := (hs.out.below hSw).c0; have s1 := (hs.out.below hSw).c1; go_simp; try with_reducible rfl)
           (try simp only [Act.put, Al_1, Al_2, Al_3]))
        | (refine Pl.take_skip (by rfl) (fun _ _ _ h => h) ?_
           (try simp only [Act.put, Al_1, Al_2, Al_3]))
      refine Pl.done_go ?_;have hs2 := Hd (hs.out.below (below_drew wr));have hg2 := Hd (hg.out.trans (grown_in (below_drew wr)));clear hs hg;generalize wr.drew = w2 at hs2 hg2 ⊢;have hle := nx_le hlt;have hdr : Hid (Below w2.heap.size w2 w2.drew) := Hd (below_drew w2);have hc := refNext_any A S.length c S q (by omega) w2.drew (hs2.out.below hdr.out).bs;rw [nxI_nat] at hc;have hpos := @goesOn_pos S q;obtain ⟨P, hP⟩ : ∃ P, nx S q = P := ⟨_, rfl⟩;rw [hP] at hc hle hpos;have hP' := Hd hP;clear hP;obtain ⟨r, m⟩ := P;unfold nxV at hc;simp only at hc hle hpos;have hpos' := Hd hpos;have hc' := Hd hc;clear hpos hc i0 i1;have hlt' := Hd hlt;go_wp2_with fail;refine Pl.wp_region_plan 13 (.take 0 (.take 1 (.take 2 (.take 3 (.take 4 (.take 5 (.take 6 (.take 7 (.run 8 (.take 9 (.take 10 (.take 11 (.take 12 .done))))))))))))) (fun x => Below w2.heap.size w2 x) (by kernel_rfl) (by kernel_rfl) (by exact (below_drew w2)) ?_;simp only [Pl.fill, Al_4, Al_5, Al_6, Al_7]
      iterate 8
        first
        | (refine Pl.take_go ?_ (by rfl) (fun _ _ _ h => h) ?_ ?_
           rotate_left
           · (intro x hSw; have s0 := (hs2.out.below hSw).c0; have s1 := (hs2.out.below hSw).c1; go_simp; try with_reducible rfl)
           (try simp only [Act.put, Al_1, Al_2, Al_3]))
        | (refine Pl.take_skip (by rfl) (fun _ _ _ h => h) ?_
           (try simp only [Act.put, Al_1, Al_2, Al_3]))
      refine Pl.run_go (fun K hK => ?_);go_simp;refine hc'.out.mono ?_;rintro e w3 ⟨rfl, hb3⟩;dsimp only;refine hK.out _ _ (Pl.more_go (fun x => Below w2.heap.size w2 x) (fun _ h => h) (by exact (hdr.out.trans (hb3.mono hdr.out.size))) ?_);clear hK K
      try simp only [Act.put, Al_1, Al_2, Al_3]
      iterate 4
        first
        | (refine Pl.take_go ?_ (by rfl) (fun _ _ _ h => h) ?_ ?_
           rotate_left
           · (intro x hSw; skip; go_simp; try with_reducible rfl)
           (try simp only [Act.put, Al_1, Al_2, Al_3]))
        | (refine Pl.take_skip (by rfl) (fun _ _ _ h => h) ?_
           (try simp only [Act.put, Al_1, Al_2, Al_3]))
      refine Pl.done_go ?_;have hb3' := hdr.out.trans (hb3.mono hdr.out.size);have hs3 := Hd (hs2.out.below hb3');have hg3 := Hd (hg2.out.trans (grown_in (r := some b) hb3'));clear hb3 hb3' hs2 hg2 hdr hc';have d1 := hs3.out.c1
      by_cases h0 : q = k
      · have e0 : ((q : Int) == (k : Int)) = true := by rw [beq_iff_eq]; omega
        subst h0
        cases hbg : Begins (r : Nat) with
        | false =>
          have hz : Hid (R = 0) := Hd (by
            have := hr.out;rw [nameF_stop (Or.inl ⟨by simp, by rw [hP'.out]; exact hbg⟩)] at this
            omega)
          go_wp2_with fail;refine (refbegins_any r w3).mono ?_;rintro e w4 ⟨rfl, rfl⟩;rw [hbg];clear d1;go_wp2_with fail
          (try simp only [Exit.inBlock, Exit.then])
          have g0 : decide (S.length <= q) = false := by simp; omega
          have g1 : decide ((S.length : Int) <= (q : Int)) = false := by simp; omega
          refine Pl.wp_region_plan 16 (.take 0 (.take 1 (.take 2 (.take 3 (.take 4 (.take 5 (.take 6 (.take 7 (.take 8 (.take 9 (.take 10 (.take 11 (.take 12 (.take 13 (.take 14 (.take 15 .done)))))))))))))))) (fun x => Below w4.heap.size w4 x) (by kernel_rfl) (by kernel_rfl) (by exact (below_drew w4)) ?_;simp only [Pl.fill, Al_4, Al_5, Al_6, Al_7]
          iterate 16
            first
            | (refine Pl.take_go ?_ (by rfl) (fun _ _ _ h => h) ?_ ?_
               rotate_left
               · (intro x hSw; have s0 := (hs3.out.below hSw).c0; have s1 := (hs3.out.below hSw).c1; go_simp; try with_reducible rfl)
               (try simp only [Act.put, Al_1, Al_2, Al_3]))
            | (refine Pl.take_skip (by rfl) (fun _ _ _ h => h) ?_
               (try simp only [Act.put, Al_1, Al_2, Al_3]))
          refine Pl.done_go ?_;have hs4 := Hd (hs3.out.below (below_drew w4));have hg4 := Hd (hg3.out.trans (grown_in (r := some b) (below_drew w4)));clear hs3 hg3;generalize w4.drew = w6 at hs4 hg4 ⊢;have c0 := hs4.out.c0;have c1 := hs4.out.c1;go_wp2_with fail;refine (rbad_any w6 b S q A c pl hs4.out 2 q).mono ?_;rintro e w7 ⟨rfl, hs7, hg7⟩;have hs7' := Hd hs7;have hg7' := Hd (hg4.out.trans hg7);clear hs7 hg7 c0 c1 hs4 hg4;have hcut : Bs w7 (offA A c q) (q - q) (c - q) ((S.drop q).take (q - q)) := Bs.from hs7'.out.bs (Nat.le_refl _) (by omega);unfold offA at hcut;rw [hA1, Nat.sub_self, List.take_zero] at hcut;have hcut' := Hd hcut;have hcv : Hid (∀ x, Below w7.heap.size w7 x -> (convert 41 9 (.slice A1 0 (c - q))).run Tryz.prog x = .ok (.string (strOf [])) x) := Hd fun x hx => Bs.conv (Bs.below hcut'.out hx) Tryz.underlying41 Tryz.underlying5 Tryz.underlying9
          clear hcut hcut';have q1 : (0 : Int) <= (q : Int) /\ (q : Int) <= (q : Int) := ⟨by omega, by omega⟩;go_wp2_with fail;refine Pl.wp_region_plan 9 (.take 0 (.take 1 (.take 2 (.take 3 (.take 4 (.take 5 (.take 6 (.take 7 (.take 8 .done))))))))) (fun x => Below w7.heap.size w7 x) (by kernel_rfl) (by kernel_rfl) (by exact (below_drew w7)) ?_;simp only [Pl.fill, Al_4, Al_5, Al_6, Al_7]
          iterate 9
            first
            | (refine Pl.take_go ?_ (by rfl) (fun _ _ _ h => h) ?_ ?_
               rotate_left
               · (intro x hSw; have s0 := (hs7'.out.below hSw).c0; have s1 := (hs7'.out.below hSw).c1; go_simp; try with_reducible rfl)
               (try simp only [Act.put, Al_1, Al_2, Al_3]))
            | (refine Pl.take_skip (by rfl) (fun _ _ _ h => h) ?_
               (try simp only [Act.put, Al_1, Al_2, Al_3]))
          refine Pl.done_go ?_;have hdr9 := below_drew w7;have hs8 := Hd (hs7'.out.below hdr9);have hg8 := Hd (hg7'.out.trans (grown_in (r := some b) hdr9));have hcv3 := hcv.out _ hdr9;clear hdr9;go_wp2_with fail;go_ret;refine ⟨hg8.out, ?_⟩;rw [hno.out (by omega) hz.out];refine ⟨by decide, _, q, rfl, rfl, hql, ?_⟩;rw [show q + 0 = q by omega];exact hs8.out
        | true =>
          go_wp2_with fail;refine (refbegins_any r w3).mono ?_;rintro e w4 ⟨rfl, rfl⟩;rw [hbg];go_wp2_with fail;refine (refgoeson_any r w4).mono ?_;rintro e w5 ⟨rfl, rfl⟩
          cases hgo : GoesOn (r : Nat) with
          | false =>
            have hz : Hid (R = 0) := Hd (by
              have := hr.out;rw [nameF_stop (Or.inr (by rw [hP'.out]; exact hgo))] at this
              omega)
            clear d1;go_wp2_with fail
            (try simp only [Exit.inBlock, Exit.then])
            have g0 : decide (S.length <= q) = false := by simp; omega
            have g1 : decide ((S.length : Int) <= (q : Int)) = false := by simp; omega
            refine Pl.wp_region_plan 16 (.take 0 (.take 1 (.take 2 (.take 3 (.take 4 (.take 5 (.take 6 (.take 7 (.take 8 (.take 9 (.take 10 (.take 11 (.take 12 (.take 13 (.take 14 (.take 15 .done)))))))))))))))) (fun x => Below w5.heap.size w5 x) (by kernel_rfl) (by kernel_rfl) (by exact (below_drew w5)) ?_;simp only [Pl.fill, Al_4, Al_5, Al_6, Al_7]
            iterate 16
              first
              | (refine Pl.take_go ?_ (by rfl) (fun _ _ _ h => h) ?_ ?_
                 rotate_left
                 · (intro x hSw; have s0 := (hs3.out.below hSw).c0; have s1 := (hs3.out.below hSw).c1; go_simp; try with_reducible rfl)
                 (try simp only [Act.put, Al_1, Al_2, Al_3]))
              | (refine Pl.take_skip (by rfl) (fun _ _ _ h => h) ?_
                 (try simp only [Act.put, Al_1, Al_2, Al_3]))
            refine Pl.done_go ?_;have hs4 := Hd (hs3.out.below (below_drew w5));have hg4 := Hd (hg3.out.trans (grown_in (r := some b) (below_drew w5)));clear hs3 hg3;generalize w5.drew = w6 at hs4 hg4 ⊢;have c0 := hs4.out.c0;have c1 := hs4.out.c1;go_wp2_with fail;refine (rbad_any w6 b S q A c pl hs4.out 2 q).mono ?_;rintro e w7 ⟨rfl, hs7, hg7⟩;have hs7' := Hd hs7;have hg7' := Hd (hg4.out.trans hg7);clear hs7 hg7 c0 c1 hs4 hg4;have hcut : Bs w7 (offA A c q) (q - q) (c - q) ((S.drop q).take (q - q)) := Bs.from hs7'.out.bs (Nat.le_refl _) (by omega);unfold offA at hcut;rw [hA1, Nat.sub_self, List.take_zero] at hcut;have hcut' := Hd hcut;have hcv : Hid (∀ x, Below w7.heap.size w7 x -> (convert 41 9 (.slice A1 0 (c - q))).run Tryz.prog x = .ok (.string (strOf [])) x) := Hd fun x hx => Bs.conv (Bs.below hcut'.out hx) Tryz.underlying41 Tryz.underlying5 Tryz.underlying9
            clear hcut hcut';have q1 : (0 : Int) <= (q : Int) /\ (q : Int) <= (q : Int) := ⟨by omega, by omega⟩;go_wp2_with fail;refine Pl.wp_region_plan 9 (.take 0 (.take 1 (.take 2 (.take 3 (.take 4 (.take 5 (.take 6 (.take 7 (.take 8 .done))))))))) (fun x => Below w7.heap.size w7 x) (by kernel_rfl) (by kernel_rfl) (by exact (below_drew w7)) ?_;simp only [Pl.fill, Al_4, Al_5, Al_6, Al_7]
            iterate 9
              first
              | (refine Pl.take_go ?_ (by rfl) (fun _ _ _ h => h) ?_ ?_
                 rotate_left
                 · (intro x hSw; have s0 := (hs7'.out.below hSw).c0; have s1 := (hs7'.out.below hSw).c1; go_simp; try with_reducible rfl)
                 (try simp only [Act.put, Al_1, Al_2, Al_3]))
              | (refine Pl.take_skip (by rfl) (fun _ _ _ h => h) ?_
                 (try simp only [Act.put, Al_1, Al_2, Al_3]))
            refine Pl.done_go ?_;have hdr9 := below_drew w7;have hs8 := Hd (hs7'.out.below hdr9);have hg8 := Hd (hg7'.out.trans (grown_in (r := some b) hdr9));have hcv3 := hcv.out _ hdr9;clear hdr9;go_wp2_with fail;go_ret;refine ⟨hg8.out, ?_⟩;rw [hno.out (by omega) hz.out];refine ⟨by decide, _, q, rfl, rfl, hql, ?_⟩;rw [show q + 0 = q by omega];exact hs8.out
          | true =>
            have hm := hpos'.out hgo;have d1 := hs3.out.c1;have f1 := hs3.out.frozen 1;go_wp2_with fail
            go_roundg (S.length - (q + m))
            case measure => omega
            case rel =>
              obtain ⟨g, rfl⟩ : ∃ g, f = g + 1 := ⟨f - 1, by have := hf.out; have := hlt'.out; omega⟩;have h6 := hs3.out.set1 (q + m);refine ⟨q + m, g, by omega, by omega, Nat.le_refl _, Hd (by have := hf.out; omega), Hd ?_, Hd h6.1, Hd (hg3.out.trans h6.2)⟩;have := hr.out;rw [nameF_on (fun _ => by rw [hP'.out]; exact hbg) (by rw [hP'.out]; exact hgo), hP'.out] at this;rw [show decide (q + m = q) = false by simp; omega];simp only at this;omega
      · have e0 : ((q : Int) == (k : Int)) = false := by rw [beq_eq_false_iff_ne]; omega
        have h0' := Hd h0;have hkq2 : k < q := (by omega);clear h0;go_wp2_with fail;refine (refgoeson_any r w3).mono ?_;rintro e w5 ⟨rfl, rfl⟩
        cases hgo : GoesOn (r : Nat) with
        | false =>
          have hqk : Hid (R = q - k) := Hd (by
            have := hr.out;rw [nameF_stop (Or.inr (by rw [hP'.out]; exact hgo)), Nat.add_zero] at this
            omega)
          clear d1;go_wp2_with fail
          (try simp only [Exit.inBlock, Exit.then])
          generalize hWW : w5 = w6 at hs3 hg3 ⊢;clear hWW;refine Pl.wp_region_plan 16 (.take 0 (.take 1 (.take 2 (.take 3 (.take 4 (.take 5 (.take 6 (.take 7 (.take 8 (.take 9 (.take 10 (.take 11 (.take 12 (.take 13 (.take 14 (.take 15 .done)))))))))))))))) (fun x => Below w6.heap.size w6 x) (by kernel_rfl) (by kernel_rfl) (by exact (below_drew w6)) ?_;simp only [Pl.fill, Al_4, Al_5, Al_6, Al_7]
          iterate 16
            first
            | (refine Pl.take_go ?_ (by rfl) (fun _ _ _ h => h) ?_ ?_
               rotate_left
               · (intro x hSw; have s0 := (hs3.out.below hSw).c0; have s1 := (hs3.out.below hSw).c1; go_simp; try with_reducible rfl)
               (try simp only [Act.put, Al_1, Al_2, Al_3]))
            | (refine Pl.take_skip (by rfl) (fun _ _ _ h => h) ?_
               (try simp only [Act.put, Al_1, Al_2, Al_3]))
          refine Pl.done_go ?_;have hs7' := Hd (hs3.out.below (below_drew w6));have hg7' := Hd (hg3.out.trans (grown_in (r := some b) (below_drew w6)));clear hs3 hg3;generalize w6.drew = w7 at hs7' hg7' ⊢;have hcut : Bs w7 (offA A c k) (q - k) (c - k) ((S.drop k).take (q - k)) := Bs.from hs7'.out.bs hkq (by omega);unfold offA at hcut;rw [hA1] at hcut;have hcut' := Hd hcut;have hcv : Hid (∀ x, Below w7.heap.size w7 x -> (convert 41 9 (.slice A1 (q - k) (c - k))).run Tryz.prog x = .ok (.string (strOf ((S.drop k).take (q - k)))) x) := Hd fun x hx => Bs.conv (Bs.below hcut'.out hx) Tryz.underlying41 Tryz.underlying5 Tryz.underlying9
          clear hcut hcut';have q1 : (0 : Int) <= (k : Int) /\ (k : Int) <= (q : Int) := ⟨by omega, by omega⟩;have c1 := hs7'.out.c1;go_wp2_with fail;refine Pl.wp_region_plan 9 (.take 0 (.take 1 (.take 2 (.take 3 (.take 4 (.take 5 (.take 6 (.take 7 (.take 8 .done))))))))) (fun x => Below w7.heap.size w7 x) (by kernel_rfl) (by kernel_rfl) (by exact (below_drew w7)) ?_;simp only [Pl.fill, Al_4, Al_5, Al_6, Al_7]
          iterate 9
            first
            | (refine Pl.take_go ?_ (by rfl) (fun _ _ _ h => h) ?_ ?_
               rotate_left
               · (intro x hSw; have s0 := (hs7'.out.below hSw).c0; have s1 := (hs7'.out.below hSw).c1; go_simp; try with_reducible rfl)
               (try simp only [Act.put, Al_1, Al_2, Al_3]))
            | (refine Pl.take_skip (by rfl) (fun _ _ _ h => h) ?_
               (try simp only [Act.put, Al_1, Al_2, Al_3]))
          refine Pl.done_go ?_;have hdr9 := below_drew w7;have hs8 := Hd (hs7'.out.below hdr9);have hg8 := Hd (hg7'.out.trans (grown_in (r := some b) hdr9));have hcv3 := hcv.out _ hdr9;clear hdr9;go_wp2_with fail;go_ret;refine ⟨hg8.out, ?_⟩;rw [hyes.out (by omega) (by have := hqk.out; omega), hqk.out];refine ⟨rfl, ?_⟩;rw [show k + (q - k) = q by omega];exact hs8.out
        | true =>
          have hm := hpos'.out hgo;have d1 := hs3.out.c1;have f1 := hs3.out.frozen 1;go_wp2_with fail
          go_roundg (S.length - (q + m))
          case measure => omega
          case rel =>
            obtain ⟨g, rfl⟩ : ∃ g, f = g + 1 := ⟨f - 1, by have := hf.out; have := hlt'.out; omega⟩;have h6 := hs3.out.set1 (q + m);refine ⟨q + m, g, by omega, by omega, Nat.le_refl _, Hd (by have := hf.out; omega), Hd ?_, Hd h6.1, Hd (hg3.out.trans h6.2)⟩;have := hr.out;rw [nameF_on (fun hh => absurd (by simpa using hh) h0'.out) (by rw [hP'.out]; exact hgo), hP'.out] at this;rw [show decide (q + m = k) = false by simp; omega];simp only at this;omega
    · have i0 : decide ((q : Int) < (S.length : Int)) = false := by simp; omega
      have i1 : decide (q < S.length) = false := by simp; omega
      have hge : S.length <= q := (by omega);go_wp2_with fail;refine Pl.wp_region_plan 9 (.take 0 (.take 1 (.take 2 (.take 3 (.take 4 (.take 5 (.take 6 (.take 7 (.take 8 .done))))))))) (fun x => Below wr.heap.size wr x) (by kernel_rfl) (by kernel_rfl) (by exact (below_drew wr)) ?_;simp only [Pl.fill, Al_4, Al_5, Al_6, Al_7]
      iterate 9
        first
        | (refine Pl.take_go ?_ (by rfl) (fun _ _ _ h => h) ?_ ?_
           rotate_left
           · (intro x hSw; have s0 := (hs.out.below hSw).c0; have s1 := (hs.out.below hSw).c1; go_simp; try with_reducible rfl)
           (try simp only [Act.put, Al_1, Al_2, Al_3]))
        | (refine Pl.take_skip (by rfl) (fun _ _ _ h => h) ?_
           (try simp only [Act.put, Al_1, Al_2, Al_3]))
      refine Pl.done_go ?_;have hs3 := Hd (hs.out.below (below_drew wr));have hg3 := Hd (hg.out.trans (grown_in (below_drew wr)));clear hs hg;generalize wr.drew = w3 at hs3 hg3 ⊢
      by_cases h0 : q = k
      · have e0 : ((q : Int) == (k : Int)) = true := by rw [beq_iff_eq]; omega
        subst h0;go_wp2_with fail;have g0 : decide (S.length <= q) = true := by simp; omega
        have g1 : decide ((S.length : Int) <= (q : Int)) = true := by simp; omega
        refine Pl.wp_region_plan 16 (.take 0 (.take 1 (.take 2 (.take 3 (.take 4 (.take 5 (.take 6 (.take 7 (.take 8 (.take 9 (.take 10 (.take 11 (.take 12 (.take 13 (.take 14 (.take 15 .done)))))))))))))))) (fun x => Below w3.heap.size w3 x) (by kernel_rfl) (by kernel_rfl) (by exact (below_drew w3)) ?_;simp only [Pl.fill, Al_4, Al_5, Al_6, Al_7]
        iterate 16
          first
          | (refine Pl.take_go ?_ (by rfl) (fun _ _ _ h => h) ?_ ?_
             rotate_left
             · (intro x hSw; have s0 := (hs3.out.below hSw).c0; have s1 := (hs3.out.below hSw).c1; go_simp; try with_reducible rfl)
             (try simp only [Act.put, Al_1, Al_2, Al_3]))
          | (refine Pl.take_skip (by rfl) (fun _ _ _ h => h) ?_
             (try simp only [Act.put, Al_1, Al_2, Al_3]))
        refine Pl.done_go ?_;have hs4 := Hd (hs3.out.below (below_drew w3));have hg4 := Hd (hg3.out.trans (grown_in (r := some b) (below_drew w3)));clear hs3 hg3;generalize w3.drew = w6 at hs4 hg4 ⊢;have c0 := hs4.out.c0;have c1 := hs4.out.c1;go_wp2_with fail;refine (rbad_any w6 b S q A c pl hs4.out 6 S.length).mono ?_;rintro e w7 ⟨rfl, hs7, hg7⟩;have hs7' := Hd hs7;have hg7' := Hd (hg4.out.trans hg7);clear hs7 hg7 c0 c1 hs4 hg4;have hcut : Bs w7 (offA A c q) (q - q) (c - q) ((S.drop q).take (q - q)) := Bs.from hs7'.out.bs (Nat.le_refl _) (by omega);unfold offA at hcut;rw [hA1, Nat.sub_self, List.take_zero] at hcut;have hcut' := Hd hcut;have hcv : Hid (∀ x, Below w7.heap.size w7 x -> (convert 41 9 (.slice A1 0 (c - q))).run Tryz.prog x = .ok (.string (strOf [])) x) := Hd fun x hx => Bs.conv (Bs.below hcut'.out hx) Tryz.underlying41 Tryz.underlying5 Tryz.underlying9
        clear hcut hcut';have q1 : (0 : Int) <= (q : Int) /\ (q : Int) <= (q : Int) := ⟨by omega, by omega⟩;go_wp2_with fail;refine Pl.wp_region_plan 9 (.take 0 (.take 1 (.take 2 (.take 3 (.take 4 (.take 5 (.take 6 (.take 7 (.take 8 .done))))))))) (fun x => Below w7.heap.size w7 x) (by kernel_rfl) (by kernel_rfl) (by exact (below_drew w7)) ?_;simp only [Pl.fill, Al_4, Al_5, Al_6, Al_7]
        iterate 9
          first
          | (refine Pl.take_go ?_ (by rfl) (fun _ _ _ h => h) ?_ ?_
             rotate_left
             · (intro x hSw; have s0 := (hs7'.out.below hSw).c0; have s1 := (hs7'.out.below hSw).c1; go_simp; try with_reducible rfl)
             (try simp only [Act.put, Al_1, Al_2, Al_3]))
          | (refine Pl.take_skip (by rfl) (fun _ _ _ h => h) ?_
             (try simp only [Act.put, Al_1, Al_2, Al_3]))
        refine Pl.done_go ?_;have hdr9 := below_drew w7;have hs8 := Hd (hs7'.out.below hdr9);have hg8 := Hd (hg7'.out.trans (grown_in (r := some b) hdr9));have hcv3 := hcv.out _ hdr9;clear hdr9;go_wp2_with fail;go_ret;refine ⟨hg8.out, ?_⟩;rw [hend.out (by omega)];refine ⟨by decide, _, q, rfl, rfl, hql, ?_⟩;rw [show q + 0 = S.length by omega];exact hs8.out
      · have e0 : ((q : Int) == (k : Int)) = false := by rw [beq_eq_false_iff_ne]; omega
        have hkq2 : k < q := by omega
        have hqk : Hid (R = q - k) := Hd (by
          have := hr.out;rw [nameF_end hge, Nat.add_zero] at this
          omega)
        clear h0;go_wp2_with fail;generalize hWW : w3 = w6 at hs3 hg3 ⊢;clear hWW;refine Pl.wp_region_plan 16 (.take 0 (.take 1 (.take 2 (.take 3 (.take 4 (.take 5 (.take 6 (.take 7 (.take 8 (.take 9 (.take 10 (.take 11 (.take 12 (.take 13 (.take 14 (.take 15 .done)))))))))))))))) (fun x => Below w6.heap.size w6 x) (by kernel_rfl) (by kernel_rfl) (by exact (below_drew w6)) ?_;simp only [Pl.fill, Al_4, Al_5, Al_6, Al_7]
        iterate 16
          first
          | (refine Pl.take_go ?_ (by rfl) (fun _ _ _ h => h) ?_ ?_
             rotate_left
             · (intro x hSw; have s0 := (hs3.out.below hSw).c0; have s1 := (hs3.out.below hSw).c1; go_simp; try with_reducible rfl)
             (try simp only [Act.put, Al_1, Al_2, Al_3]))
          | (refine Pl.take_skip (by rfl) (fun _ _ _ h => h) ?_
             (try simp only [Act.put, Al_1, Al_2, Al_3]))
        refine Pl.done_go ?_;have hs7' := Hd (hs3.out.below (below_drew w6));have hg7' := Hd (hg3.out.trans (grown_in (r := some b) (below_drew w6)));clear hs3 hg3;generalize w6.drew = w7 at hs7' hg7' ⊢;have hcut : Bs w7 (offA A c k) (q - k) (c - k) ((S.drop k).take (q - k)) := Bs.from hs7'.out.bs hkq (by omega);unfold offA at hcut;rw [hA1] at hcut;have hcut' := Hd hcut;have hcv : Hid (∀ x, Below w7.heap.size w7 x -> (convert 41 9 (.slice A1 (q - k) (c - k))).run Tryz.prog x = .ok (.string (strOf ((S.drop k).take (q - k)))) x) := Hd fun x hx => Bs.conv (Bs.below hcut'.out hx) Tryz.underlying41 Tryz.underlying5 Tryz.underlying9
        clear hcut hcut';have q1 : (0 : Int) <= (k : Int) /\ (k : Int) <= (q : Int) := ⟨by omega, by omega⟩;have c1 := hs7'.out.c1;go_wp2_with fail;refine Pl.wp_region_plan 9 (.take 0 (.take 1 (.take 2 (.take 3 (.take 4 (.take 5 (.take 6 (.take 7 (.take 8 .done))))))))) (fun x => Below w7.heap.size w7 x) (by kernel_rfl) (by kernel_rfl) (by exact (below_drew w7)) ?_;simp only [Pl.fill, Al_4, Al_5, Al_6, Al_7]
        iterate 9
          first
          | (refine Pl.take_go ?_ (by rfl) (fun _ _ _ h => h) ?_ ?_
             rotate_left
             · (intro x hSw; have s0 := (hs7'.out.below hSw).c0; have s1 := (hs7'.out.below hSw).c1; go_simp; try with_reducible rfl)
             (try simp only [Act.put, Al_1, Al_2, Al_3]))
          | (refine Pl.take_skip (by rfl) (fun _ _ _ h => h) ?_
             (try simp only [Act.put, Al_1, Al_2, Al_3]))
        refine Pl.done_go ?_;have hdr9 := below_drew w7;have hs8 := Hd (hs7'.out.below hdr9);have hg8 := Hd (hg7'.out.trans (grown_in (r := some b) hdr9));have hcv3 := hcv.out _ hdr9;clear hdr9;go_wp2_with fail;go_ret;refine ⟨hg8.out, ?_⟩;rw [hyes.out (by omega) (by have := hqk.out; omega), hqk.out];refine ⟨rfl, ?_⟩;rw [show k + (q - k) = q by omega];exact hs8.out
set_option maxRecDepth 100000 in
theorem rname_idle {e0 : Int} (pl : Nat) (h : Sr w b S k A c e0 pl) (h0 : e0 ≠ 0) :
  Calls Tryz.prog 141 #[.pointer (some ⟨b, 0, none⟩)] w fun e w' => e = .returned (.string ⟨#[]⟩) /\ w' = w := by
 have c2 := h.c2;have j0 : (e0 == 0) = false := by rw [beq_eq_false_iff_ne]; exact h0
 have j1 : (e0 != 0) = true := by rw [bne_iff_ne]; exact h0
 go_enter Tryz.func141, Tryz.ntmps141
 go_wp2_with fail;go_ret;exact ⟨rfl, rfl⟩
end
end Go.Proofs.YtokdnhdfmgfkeaaGreatDoor.Xl
end

section
namespace Go.Proofs.YtokdnhdfmgfkeaaGreatDoor.Xl
open Go.RowKit UtfW Er
set_option maxRecDepth 100000 in
theorem rdigit_any (x : UInt8) (w : World) :
  Calls Tryz.prog 195 #[.int .u8 (x.toNat : Int)] w fun e w' => e = .returned (.int .i64 (digV x : Nat)) /\ w' = w := by
 have hx := x.toNat_lt;obtain ⟨D, hD⟩ : ∃ D, digV x = D := ⟨_, rfl⟩;rw [hD];unfold digV at hD;generalize x.toNat = n at hx hD;have hD' := Hd hD;clear hD
 by_cases a0 : 48 <= n
 ·have i0 : decide ((48 : Int) <= (n : Int)) = true := by simp; omega
  by_cases b0 : n <= 57
  ·have j0 : decide ((n : Int) <= 57) = true := by simp; omega
   have hd : Hid (D = n - 48 + 0) := Hd (by have := hD'.out; repeat (first | (split at this) | omega));obtain ⟨d, hnd⟩ : ∃ d : Nat, (n : Int) - 48 = d := ⟨n - 48, by omega⟩;have u2 : (d : Int) % 256 = (d : Int) := by omega
   have u3 : wrap64 (d : Int) = (d : Int) := by unfold wrap64; omega
   go_enter Tryz.func195, Tryz.ntmps195
   go_wp2_with fail;go_ret;exact ⟨ret_int (by have := hd.out; omega), rfl⟩
  have j0 : decide ((n : Int) <= 57) = false := by simp; omega
  by_cases a1 : 97 <= n
  ·have i1 : decide ((97 : Int) <= (n : Int)) = true := by simp; omega
   by_cases b1 : n <= 102
   ·have j1 : decide ((n : Int) <= 102) = true := by simp; omega
    have hd : Hid (D = n - 97 + 10) := Hd (by have := hD'.out; repeat (first | (split at this) | omega));obtain ⟨d, hnd⟩ : ∃ d : Nat, (n : Int) - 97 = d := ⟨n - 97, by omega⟩;have u2 : (d : Int) % 256 = (d : Int) := (by omega);have u3 : wrap64 (d : Int) = (d : Int) := by unfold wrap64; omega
    have u4 : wrap64 ((d : Int) + 10) = (d : Int) + 10 := by unfold wrap64; omega
    go_enter Tryz.func195, Tryz.ntmps195
    go_wp2_with fail;go_ret;exact ⟨ret_int (by have := hd.out; omega), rfl⟩
   have j1 : decide ((n : Int) <= 102) = false := by simp; omega
   by_cases a2 : 65 <= n
   ·have i2 : decide ((65 : Int) <= (n : Int)) = true := by simp; omega
    by_cases b2 : n <= 70
    ·have j2 : decide ((n : Int) <= 70) = true := by simp; omega
     have hd : Hid (D = n - 65 + 10) := Hd (by have := hD'.out; repeat (first | (split at this) | omega));obtain ⟨d, hnd⟩ : ∃ d : Nat, (n : Int) - 65 = d := ⟨n - 65, by omega⟩;have u2 : (d : Int) % 256 = (d : Int) := (by omega);have u3 : wrap64 (d : Int) = (d : Int) := by unfold wrap64; omega
     have u4 : wrap64 ((d : Int) + 10) = (d : Int) + 10 := by unfold wrap64; omega
     go_enter Tryz.func195, Tryz.ntmps195
     go_wp2_with fail;go_ret;exact ⟨ret_int (by have := hd.out; omega), rfl⟩
    have j2 : decide ((n : Int) <= 70) = false := by simp; omega
    have hd : Hid (D = 99) := Hd (by have := hD'.out; repeat (first | (split at this; omega) | omega))
    go_enter Tryz.func195, Tryz.ntmps195
    go_wp2_with fail;go_ret;exact ⟨ret_int (by have := hd.out; omega), rfl⟩
   have i2 : decide ((65 : Int) <= (n : Int)) = false := by simp; omega
   have hd : Hid (D = 99) := Hd (by have := hD'.out; repeat (first | (split at this; omega) | omega))
   go_enter Tryz.func195, Tryz.ntmps195
   go_wp2_with fail;go_ret;exact ⟨ret_int (by have := hd.out; omega), rfl⟩
  have i1 : decide ((97 : Int) <= (n : Int)) = false := by simp; omega
  by_cases a2 : 65 <= n
  ·have i2 : decide ((65 : Int) <= (n : Int)) = true := by simp; omega
   by_cases b2 : n <= 70
   ·have j2 : decide ((n : Int) <= 70) = true := by simp; omega
    have hd : Hid (D = n - 65 + 10) := Hd (by have := hD'.out; repeat (first | (split at this) | omega));obtain ⟨d, hnd⟩ : ∃ d : Nat, (n : Int) - 65 = d := ⟨n - 65, by omega⟩;have u2 : (d : Int) % 256 = (d : Int) := (by omega);have u3 : wrap64 (d : Int) = (d : Int) := by unfold wrap64; omega
    have u4 : wrap64 ((d : Int) + 10) = (d : Int) + 10 := by unfold wrap64; omega
    go_enter Tryz.func195, Tryz.ntmps195
    go_wp2_with fail;go_ret;exact ⟨ret_int (by have := hd.out; omega), rfl⟩
   have j2 : decide ((n : Int) <= 70) = false := by simp; omega
   have hd : Hid (D = 99) := Hd (by have := hD'.out; repeat (first | (split at this; omega) | omega))
   go_enter Tryz.func195, Tryz.ntmps195
   go_wp2_with fail;go_ret;exact ⟨ret_int (by have := hd.out; omega), rfl⟩
  have i2 : decide ((65 : Int) <= (n : Int)) = false := by simp; omega
  have hd : Hid (D = 99) := Hd (by have := hD'.out; repeat (first | (split at this; omega) | omega))
  go_enter Tryz.func195, Tryz.ntmps195
  go_wp2_with fail;go_ret;exact ⟨ret_int (by have := hd.out; omega), rfl⟩
 have i0 : decide ((48 : Int) <= (n : Int)) = false := by simp; omega
 by_cases a1 : 97 <= n
 ·have i1 : decide ((97 : Int) <= (n : Int)) = true := by simp; omega
  by_cases b1 : n <= 102
  ·have j1 : decide ((n : Int) <= 102) = true := by simp; omega
   have hd : Hid (D = n - 97 + 10) := Hd (by have := hD'.out; repeat (first | (split at this) | omega));obtain ⟨d, hnd⟩ : ∃ d : Nat, (n : Int) - 97 = d := ⟨n - 97, by omega⟩;have u2 : (d : Int) % 256 = (d : Int) := by omega
   have u3 : wrap64 (d : Int) = (d : Int) := by unfold wrap64; omega
   have u4 : wrap64 ((d : Int) + 10) = (d : Int) + 10 := by unfold wrap64; omega
   go_enter Tryz.func195, Tryz.ntmps195
   go_wp2_with fail;go_ret;exact ⟨ret_int (by have := hd.out; omega), rfl⟩
  have j1 : decide ((n : Int) <= 102) = false := by simp; omega
  by_cases a2 : 65 <= n
  ·have i2 : decide ((65 : Int) <= (n : Int)) = true := by simp; omega
   by_cases b2 : n <= 70
   ·have j2 : decide ((n : Int) <= 70) = true := by simp; omega
    have hd : Hid (D = n - 65 + 10) := Hd (by have := hD'.out; repeat (first | (split at this) | omega));obtain ⟨d, hnd⟩ : ∃ d : Nat, (n : Int) - 65 = d := ⟨n - 65, by omega⟩;have u2 : (d : Int) % 256 = (d : Int) := (by omega);have u3 : wrap64 (d : Int) = (d : Int) := by unfold wrap64; omega
    have u4 : wrap64 ((d : Int) + 10) = (d : Int) + 10 := by unfold wrap64; omega
    go_enter Tryz.func195, Tryz.ntmps195
    go_wp2_with fail;go_ret;exact ⟨ret_int (by have := hd.out; omega), rfl⟩
   have j2 : decide ((n : Int) <= 70) = false := by simp; omega
   have hd : Hid (D = 99) := Hd (by have := hD'.out; repeat (first | (split at this; omega) | omega))
   go_enter Tryz.func195, Tryz.ntmps195
   go_wp2_with fail;go_ret;exact ⟨ret_int (by have := hd.out; omega), rfl⟩
  have i2 : decide ((65 : Int) <= (n : Int)) = false := by simp; omega
  have hd : Hid (D = 99) := Hd (by have := hD'.out; repeat (first | (split at this; omega) | omega))
  go_enter Tryz.func195, Tryz.ntmps195
  go_wp2_with fail;go_ret;exact ⟨ret_int (by have := hd.out; omega), rfl⟩
 have i1 : decide ((97 : Int) <= (n : Int)) = false := by simp; omega
 by_cases a2 : 65 <= n
 ·have i2 : decide ((65 : Int) <= (n : Int)) = true := by simp; omega
  by_cases b2 : n <= 70
  ·have j2 : decide ((n : Int) <= 70) = true := by simp; omega
   have hd : Hid (D = n - 65 + 10) := Hd (by have := hD'.out; repeat (first | (split at this) | omega));obtain ⟨d, hnd⟩ : ∃ d : Nat, (n : Int) - 65 = d := ⟨n - 65, by omega⟩;have u2 : (d : Int) % 256 = (d : Int) := by omega
   have u3 : wrap64 (d : Int) = (d : Int) := by unfold wrap64; omega
   have u4 : wrap64 ((d : Int) + 10) = (d : Int) + 10 := by unfold wrap64; omega
   go_enter Tryz.func195, Tryz.ntmps195
   go_wp2_with fail;go_ret;exact ⟨ret_int (by have := hd.out; omega), rfl⟩
  have j2 : decide ((n : Int) <= 70) = false := by simp; omega
  have hd : Hid (D = 99) := Hd (by have := hD'.out; repeat (first | (split at this; omega) | omega))
  go_enter Tryz.func195, Tryz.ntmps195
  go_wp2_with fail;go_ret;exact ⟨ret_int (by have := hd.out; omega), rfl⟩
 have i2 : decide ((65 : Int) <= (n : Int)) = false := by simp; omega
 have hd : Hid (D = 99) := Hd (by have := hD'.out; repeat (first | (split at this; omega) | omega))
 go_enter Tryz.func195, Tryz.ntmps195
 go_wp2_with fail;go_ret;exact ⟨ret_int (by have := hd.out; omega), rfl⟩
theorem refV_x' {T : Tx} (h0 : T[0]? = some 35) (h1 : T[1]? = some 120) : refV T = numR 16 (T.drop 2) := by
 match T, h0, h1 with
 | a :: c :: d, h0, h1 =>
  simp only [List.getElem?_cons_zero, List.getElem?_cons_succ, Option.some.injEq] at h0 h1;subst h0 h1;rfl
theorem refV_d' {T : Tx} (h0 : T[0]? = some 35) (h1 : T[1]? ≠ some 120) : refV T = numR 10 (T.drop 1) := by
 match T, h0, h1 with
 | [a], h0, h1 =>
  simp only [List.getElem?_cons_zero, Option.some.injEq] at h0;subst h0;rfl
 | a :: c :: d, h0, h1 =>
  simp only [List.getElem?_cons_zero, List.getElem?_cons_succ, Option.some.injEq, ne_eq] at h0 h1;subst h0
  show refV (35 :: c :: d) = _
  unfold refV
  split
  ·rename_i h2
   injection h2 with _ h2;injection h2 with h2 _;exact absurd h2 h1
  ·rename_i h2
   injection h2 with _ h2;subst h2;rfl
  ·rename_i h2
   exact absurd rfl (h2 _)
theorem refV_n' {T : Tx} (h0 : T[0]? ≠ some 35) : refV T = named T := by
 unfold refV
 split
 ·simp at h0
 ·simp at h0
 ·rfl
theorem named_none {T : Tx} (h0 : T ≠ [97, 109, 112]) (h1 : T ≠ [108, 116]) (h2 : T ≠ [103, 116]) (h3 : T ≠ [113, 117, 111, 116]) (h4 : T ≠ [97, 112, 111, 115]) : named T = none := by
 unfold named;rw [if_neg h0, if_neg h1, if_neg h2, if_neg h3, if_neg h4]
theorem digV_le (x : UInt8) : digV x <= 99 := by
 unfold digV
 repeat' split
 all_goals omega
def numC : Option Nat -> Option Nat
 | some v => if Utf.Char (v : Nat) then some v else none
 | none => none
theorem numR_ne {base : Nat} {d : Tx} (h : d ≠ []) : numR base d = numC (numF base d 0) := by
 unfold numR;rw [if_neg h]
 cases numF base d 0 <;> rfl
def nmT : Nat -> Tx
 | 0 => [97, 109, 112]
 | 1 => [108, 116]
 | 2 => [103, 116]
 | 3 => [113, 117, 111, 116]
 | 4 => [97, 112, 111, 115]
 | _ => []
set_option maxRecDepth 100000 in
theorem find59_off {S : Tx} {q : Nat} {x : UInt8} (hx : S[q]? = some x) (h : x ≠ 59) : find [59] (S.drop q) = (find [59] (S.drop (q + 1))).map (· + 1) := by
 rw [drop_at hx, find, if_neg];simp [List.isPrefixOf];exact fun e => h e.symm
theorem find59_on {S : Tx} {q : Nat} (hx : S[q]? = some 59) : find [59] (S.drop q) = some 0 := by
 rw [drop_at hx, find, if_pos];rfl
theorem offA_some {ba off c k : Nat} (h : c ≠ k) : offA (some ⟨ba, off, none⟩) c k = some ⟨ba, off + k, none⟩ := by
 unfold offA;rw [if_neg h]
 show some (Addr.add ⟨ba, off, none⟩ k) = _
 unfold Addr.add
 split
 ·rename_i h0; rw [h0]; rfl
 ·rfl
section
variable (w : World) (b : Nat) (S : Tx) (k : Nat) (A : Option Addr) (c : Nat)
set_option maxHeartbeats 4000000 in
set_option maxRecDepth 100000 in
theorem rref_any (pl : Nat) (h : Sr w b S k A c 0 pl) (hk : S[k]? = some 38) (hS : S.length <= 100000) :
  Calls Tryz.prog 167 #[.pointer (some ⟨b, 0, none⟩)] w fun e w' => GivesR w b S k A c pl (fun v => v = .string ⟨#[]⟩) (fun v => .string (strOf v)) (refR (S.drop (k + 1))) e w' := by
 have hkl : k < S.length := (List.getElem?_eq_some_iff.1 hk).1;have hlc := Rd.le h.bs;have hcm := Rd.max h.bs;have hnofreeze := h.frozen;have c1 := h.c1;have hbw := h.lt;have h' := Hd h;clear h hk hnofreeze;obtain ⟨F, hF⟩ : ∃ F, find [59] (S.drop (k + 1)) = F := ⟨_, rfl⟩;have hF' := Hd hF;obtain ⟨G, hG⟩ : ∃ G, refR (S.drop (k + 1)) = G := ⟨_, rfl⟩;rw [hG];have hG' := Hd hG;clear hF hG;obtain ⟨L, hL⟩ : ∃ L, k + 1 = L := ⟨_, rfl⟩;have hLI : (k : Int) + 1 = (L : Int) := by omega
 have hL' := Hd hL;clear hL
 go_enter Tryz.func167, Tryz.ntmps167
 go_wp2_with fail
 go_loopw [4] (fun v4 wr => wr = w /\ ∃ q : Nat, L <= q /\ q <= S.length /\ v4 = .int .i64 (q : Nat) /\ Hid (F = (find [59] (S.drop q)).map (· + (q - L)))) (fun v4 _ => S.length - (intOf v4).toNat)
 case atStart => exact ⟨rfl, L, Nat.le_refl _, by have := hL'.out; omega, rfl, Hd (by rw [Nat.sub_self, <- hF'.out, hL'.out]; simp)⟩
 case round =>
  clear c1;obtain ⟨hwr, q, hLq, hql, rfl, hr⟩ := hrel;subst hwr;have c0 := h'.out.c0;have c1 := h'.out.c1
  by_cases hlt : q < S.length
  ·have i0 : decide ((q : Int) < (S.length : Int)) = true := by simp; omega
   have i1 : decide (q < S.length) = true := by simp; omega
   have q1 : (q : Int) < (S.length : Int) := by omega
   obtain ⟨ba, off, hA, hx, hcell⟩ := h'.out.at_ hlt;subst hA;generalize S[q] = x at hx hcell;have hx' := Hd hx;clear hx
   by_cases h59 : x = 59
   ·subst h59;have hFn : Hid (F = some (q - L)) := Hd (by rw [hr.out, find59_on hx'.out]; simp);have j0 : decide ((S.length : Int) <= (q : Int)) = false := by simp; omega
    have j1 : decide (S.length <= q) = false := by simp; omega
    have p1 : (0 : Int) <= (L : Int) /\ (L : Int) <= (q : Int) := ⟨by omega, by omega⟩;obtain ⟨T, hT⟩ : ∃ T, (S.drop L).take (q - L) = T := ⟨_, rfl⟩;have hcut : Bs wr (offA (some ⟨ba, off, none⟩) c L) (q - L) (c - L) T := by rw [<- hT]; exact Bs.from h'.out.bs hLq (by omega)
    rw [offA_some (by omega)] at hcut;have hTl : T.length <= 100000 := by rw [<- hT, List.length_take]; omega
    have hcv2 : (convert 41 9 (.slice (some ⟨ba, off + L, none⟩) (q - L) (c - L))).run Tryz.prog wr = .ok (.string (strOf T)) wr := Bs.conv hcut Tryz.underlying41 Tryz.underlying5 Tryz.underlying9
    have hres : Hid (G = match refV T with | none => .bad 5 0 | some v => .ok (encB (v : Nat)) (q - L + 2)) := Hd (by
     rw [<- hG'.out];unfold refR;rw [hF'.out, hFn.out];simp only;rw [hL'.out, hT]
     cases refV T <;> rfl)
    clear hT hcut;have f1 := h'.out.frozen 1;have hset := h'.out.set1 (q + 1);obtain ⟨w2, hw2⟩ : ∃ w2, wr.setCell ⟨b, 1, none⟩ (.int .i64 ((q + 1 : Nat) : Int)) = w2 := ⟨_, rfl⟩;rw [hw2] at hset;obtain ⟨nb, hnb⟩ : ∃ nb, w2.heap.size = nb := ⟨_, rfl⟩;have hal := below_alloc w2 (.cells #[.string ⟨#[97, 109, 112]⟩, .string ⟨#[108, 116]⟩, .string ⟨#[103, 116]⟩, .string ⟨#[113, 117, 111, 116]⟩, .string ⟨#[97, 112, 111, 115]⟩] 9);have hs3 := Hd (hset.1.below hal);have hg3 := Hd (hset.2.trans (grown_in (r := some b) hal));clear hset hal;have hw2' := Hd hw2;have hnb' := Hd hnb;clear hw2 hnb;go_wp2_with fail;obtain ⟨wz, rfl⟩ : ∃ wz, wz = wr := ⟨wr, rfl⟩;have hw3 : wz.setCell ⟨b, 1, none⟩ (.int .i64 ((q : Int) + 1)) = w2 := hw2'.out;rw [hw3];clear hw3;have hn2 : w2.heap.size = wz.heap.size := by rw [<- hw2'.out]; exact World.size_setCell _ _ _
    have hblk : (w2.alloc (.cells #[.string ⟨#[97, 109, 112]⟩, .string ⟨#[108, 116]⟩, .string ⟨#[103, 116]⟩, .string ⟨#[113, 117, 111, 116]⟩, .string ⟨#[97, 112, 111, 115]⟩] 9)).heap[wz.heap.size]? = some (.cells #[.string ⟨#[97, 109, 112]⟩, .string ⟨#[108, 116]⟩, .string ⟨#[103, 116]⟩, .string ⟨#[113, 117, 111, 116]⟩, .string ⟨#[97, 112, 111, 115]⟩] 9) := by rw [<- hn2]; exact heap_alloc_new w2 _
    generalize w2.alloc (.cells #[.string ⟨#[97, 109, 112]⟩, .string ⟨#[108, 116]⟩, .string ⟨#[103, 116]⟩, .string ⟨#[113, 117, 111, 116]⟩, .string ⟨#[97, 112, 111, 115]⟩] 9) = w3 at hs3 hg3 hblk ⊢;have hbz : b ≠ wz.heap.size := (by omega);generalize wz.heap.size = nb at hblk hbz ⊢;have y0 : w3.cell? ⟨nb, 0, none⟩ = some (.string ⟨#[97, 109, 112]⟩) := (by simp [World.cell?, hblk]);have y1 : w3.cell? ⟨nb, 1, none⟩ = some (.string ⟨#[108, 116]⟩) := (by simp [World.cell?, hblk]);have y2 : w3.cell? ⟨nb, 2, none⟩ = some (.string ⟨#[103, 116]⟩) := (by simp [World.cell?, hblk]);have y3 : w3.cell? ⟨nb, 3, none⟩ = some (.string ⟨#[113, 117, 111, 116]⟩) := (by simp [World.cell?, hblk]);have y4 : w3.cell? ⟨nb, 4, none⟩ = some (.string ⟨#[97, 112, 111, 115]⟩) := (by simp [World.cell?, hblk]);clear hblk hn2 hw2' hnb' hbz hcell hcv2 f1
    go_loopw [8] (fun v8 wx => wx = w3 /\ ∃ j : Nat, j <= 5 /\ v8 = .int .i64 (j : Nat) /\ Hid (∀ i, i < j -> T ≠ nmT i)) (fun v8 _ => 5 - (intOf v8).toNat)
    case atStart => exact ⟨rfl, 0, by omega, rfl, Hd (fun i hi => absurd hi (by omega))⟩
    case round =>
     obtain ⟨hwy, j, hj, rfl, hno⟩ := hrel;subst hwy;obtain ⟨w3, rfl⟩ : ∃ w3, w3 = wr := ⟨wr, rfl⟩;rcases (by omega : j = 0 \/ j = 1 \/ j = 2 \/ j = 3 \/ j = 4 \/ j = 5) with rfl | rfl | rfl | rfl | rfl | rfl
     ·have i0 := str_eqL T [97, 109, 112]
      by_cases hT : T = [97, 109, 112]
      ·rw [decide_eq_true hT] at i0;have hvv : Hid (refV T = some 38) := Hd (by rw [hT]; rfl);clear hT;go_wp2_with fail;go_ret;refine ⟨hg3.out, ?_⟩;rw [hres.out, hvv.out];refine ⟨rfl, ?_⟩;rw [show k + (q - L + 2) = q + 1 by have := hL'.out; omega];exact hs3.out
      ·rw [decide_eq_false hT] at i0
       have hno2 : Hid (∀ i, i < 1 -> T ≠ nmT i) := Hd (fun i hi => by
        by_cases hi2 : i < 0
        ·exact hno.out i hi2
        ·have : i = 0 := (by omega);rw [this]
         exact hT)
       clear hT;go_wp2_with fail;go_roundw
       case rel => exact ⟨by first | rfl | trivial, 1, by omega, rfl, hno2⟩
       case measure => simp [intOf]
     ·have i1 := str_eqL T [108, 116]
      by_cases hT : T = [108, 116]
      ·rw [decide_eq_true hT] at i1;have hvv : Hid (refV T = some 60) := Hd (by rw [hT]; rfl);clear hT;go_wp2_with fail;go_ret;refine ⟨hg3.out, ?_⟩;rw [hres.out, hvv.out];refine ⟨rfl, ?_⟩;rw [show k + (q - L + 2) = q + 1 by have := hL'.out; omega];exact hs3.out
      ·rw [decide_eq_false hT] at i1
       have hno2 : Hid (∀ i, i < 2 -> T ≠ nmT i) := Hd (fun i hi => by
        by_cases hi2 : i < 1
        ·exact hno.out i hi2
        ·have : i = 1 := (by omega);rw [this]
         exact hT)
       clear hT;go_wp2_with fail;go_roundw
       case rel => exact ⟨by first | rfl | trivial, 2, by omega, rfl, hno2⟩
       case measure => simp [intOf]
     ·have i2 := str_eqL T [103, 116]
      by_cases hT : T = [103, 116]
      ·rw [decide_eq_true hT] at i2;have hvv : Hid (refV T = some 62) := Hd (by rw [hT]; rfl);clear hT;go_wp2_with fail;go_ret;refine ⟨hg3.out, ?_⟩;rw [hres.out, hvv.out];refine ⟨rfl, ?_⟩;rw [show k + (q - L + 2) = q + 1 by have := hL'.out; omega];exact hs3.out
      ·rw [decide_eq_false hT] at i2
       have hno2 : Hid (∀ i, i < 3 -> T ≠ nmT i) := Hd (fun i hi => by
        by_cases hi2 : i < 2
        ·exact hno.out i hi2
        ·have : i = 2 := (by omega);rw [this]
         exact hT)
       clear hT;go_wp2_with fail;go_roundw
       case rel => exact ⟨by first | rfl | trivial, 3, by omega, rfl, hno2⟩
       case measure => simp [intOf]
     ·have i3 := str_eqL T [113, 117, 111, 116]
      by_cases hT : T = [113, 117, 111, 116]
      ·rw [decide_eq_true hT] at i3;have hvv : Hid (refV T = some 34) := Hd (by rw [hT]; rfl);clear hT;go_wp2_with fail;go_ret;refine ⟨hg3.out, ?_⟩;rw [hres.out, hvv.out];refine ⟨rfl, ?_⟩;rw [show k + (q - L + 2) = q + 1 by have := hL'.out; omega];exact hs3.out
      ·rw [decide_eq_false hT] at i3
       have hno2 : Hid (∀ i, i < 4 -> T ≠ nmT i) := Hd (fun i hi => by
        by_cases hi2 : i < 3
        ·exact hno.out i hi2
        ·have : i = 3 := (by omega);rw [this]
         exact hT)
       clear hT;go_wp2_with fail;go_roundw
       case rel => exact ⟨by first | rfl | trivial, 4, by omega, rfl, hno2⟩
       case measure => simp [intOf]
     ·have i4 := str_eqL T [97, 112, 111, 115]
      by_cases hT : T = [97, 112, 111, 115]
      ·rw [decide_eq_true hT] at i4;have hvv : Hid (refV T = some 39) := Hd (by rw [hT]; rfl);clear hT;go_wp2_with fail;go_ret;refine ⟨hg3.out, ?_⟩;rw [hres.out, hvv.out];refine ⟨rfl, ?_⟩;rw [show k + (q - L + 2) = q + 1 by have := hL'.out; omega];exact hs3.out
      ·rw [decide_eq_false hT] at i4
       have hno2 : Hid (∀ i, i < 5 -> T ≠ nmT i) := Hd (fun i hi => by
        by_cases hi2 : i < 4
        ·exact hno.out i hi2
        ·have : i = 4 := (by omega);rw [this]
         exact hT)
       clear hT;go_wp2_with fail;go_roundw
       case rel => exact ⟨by first | rfl | trivial, 5, by omega, rfl, hno2⟩
       case measure => simp [intOf]
     ·rw [show ((5 : Nat) : Int) = 5 from rfl];have hnm : Hid (named T = none) := Hd (named_none (hno.out 0 (by omega)) (hno.out 1 (by omega)) (hno.out 2 (by omega)) (hno.out 3 (by omega)) (hno.out 4 (by omega)));clear hno y0 y1 y2 y3 y4;have hTs : (strOf T).size = T.length := strOf_size' T
      by_cases hl1 : T.length <= 1
      ·have hnone : Hid (refV T = none) := Hd (by
        by_cases h0 : T[0]? = some 35
        ·rw [refV_d' h0 (by rw [List.getElem?_eq_none (by omega)]; simp), List.drop_eq_nil_of_le hl1];rfl
        ·rw [refV_n' h0, hnm.out])
       have d0 : decide ((1 : Int) < (T.length : Int)) = false := by simp; omega
       have d1 : decide (1 < T.length) = false := by simp; omega
       clear hl1;go_wp2_with fail
       go_loopw [12] (fun v12 wx => v12 = .bool false /\ wx = w3) (fun _ _ => 0)
       case atStart => exact ⟨rfl, rfl⟩
       case round =>
        obtain ⟨rfl, hwy⟩ := hrel;subst hwy;go_wp2_with fail;refine (rbad_any _ b S (q + 1) _ c pl hs3.out 5 k).mono ?_;rintro e w9 ⟨rfl, hs9, hg9⟩;have hs9' := Hd hs9;have hg9' := Hd (hg3.out.trans hg9);clear hs9 hg9;go_wp2_with fail;go_ret;refine ⟨hg9'.out, ?_⟩;rw [hres.out, hnone.out];exact ⟨by decide, _, q + 1, rfl, rfl, by omega, hs9'.out⟩
      ·have d0 : decide ((1 : Int) < (T.length : Int)) = true := by simp; omega
       have d1 : decide (1 < T.length) = true := by simp; omega
       have hx0 : T[0]? = some T[0] := List.getElem?_eq_getElem (by omega);have hx1 : T[1]? = some T[1] := List.getElem?_eq_getElem (by omega);generalize T[0] = x0 at hx0;generalize T[1] = x1 at hx1;have hlt0 : 0 < (strOf T).size := (by omega);have hlt1 : 1 < (strOf T).size := (by omega);have hg0 := str_at hx0 hlt0;have hg1 := str_at hx1 hlt1;have n0 : (0 : Int) < (T.length : Int) := (by omega);have n1 : (1 : Int) < (T.length : Int) := (by omega);have hx0' := Hd hx0;have hx1' := Hd hx1;clear hx0 hx1
       by_cases h35 : x0 = 35
       ·subst h35
        by_cases h120 : x1 = 120
        ·subst h120;have RV : refV T = numR 16 (T.drop 2) := refV_x' hx0'.out hx1'.out
         by_cases hl2 : T.length <= 2
         ·have hnone : Hid (refV T = none) := Hd (by rw [RV, List.drop_eq_nil_of_le hl2]; rfl);have d2 : decide ((2 : Int) < (T.length : Int)) = false := by simp; omega
          have d3 : decide (2 < T.length) = false := by simp; omega
          clear RV;go_wp2_with fail
          go_loopw [12] (fun v12 wx => v12 = .bool false /\ wx = w3) (fun _ _ => 0)
          case atStart => exact ⟨rfl, rfl⟩
          case round =>
           obtain ⟨rfl, hwy⟩ := hrel;subst hwy;go_wp2_with fail;refine (rbad_any _ b S (q + 1) _ c pl hs3.out 5 k).mono ?_;rintro e w9 ⟨rfl, hs9, hg9⟩;have hs9' := Hd hs9;have hg9' := Hd (hg3.out.trans hg9);clear hs9 hg9;go_wp2_with fail;go_ret;refine ⟨hg9'.out, ?_⟩;rw [hres.out, hnone.out];exact ⟨by decide, _, q + 1, rfl, rfl, by omega, hs9'.out⟩
         ·have d2 : decide ((2 : Int) < (T.length : Int)) = true := by simp; omega
          have d3 : decide (2 < T.length) = true := by simp; omega
          have hN : Hid (refV T = numC (numF 16 (T.drop 2) 0)) := Hd (by rw [RV]; exact numR_ne (by intro e; have := congrArg List.length e; rw [List.length_drop] at this; simp at this; omega));clear RV;obtain ⟨N, hNe⟩ : ∃ N, numF 16 (T.drop 2) 0 = N := ⟨_, rfl⟩;rw [hNe] at hN;have hNe' := Hd hNe;clear hNe;go_wp2_with fail
          go_loopw [10, 11, 12, 13] (fun v10 v11 v12 v13 wx => wx = w3 /\ ∃ (kk v : Nat) (okb : Bool), v10 = .int .i64 (kk : Nat) /\ v11 = .int .i64 (v : Nat) /\ v12 = .bool okb /\ v <= 1114112 /\ kk <= T.length /\ Hid (okb = true -> numF 16 (T.drop kk) v = N) /\ Hid (okb = false -> N = none)) (fun v10 _ _ _ _ => T.length - (intOf v10).toNat)
          case atStart => exact ⟨rfl, 2, 0, true, rfl, rfl, rfl, by omega, by omega, Hd (fun _ => hNe'.out), Hd (fun h => by cases h)⟩
          case round =>
           obtain ⟨hwy, kk, v, okb, rfl, rfl, rfl, hv, hkk, hok, hno⟩ := hrel;subst hwy
           cases okb with
           | false =>
            have hnone : Hid (refV T = none) := Hd (by rw [hN.out, hno.out rfl]; rfl);go_wp2_with fail;refine (rbad_any _ b S (q + 1) _ c pl hs3.out 5 k).mono ?_;rintro e w9 ⟨rfl, hs9, hg9⟩;have hs9' := Hd hs9;have hg9' := Hd (hg3.out.trans hg9);clear hs9 hg9;go_wp2_with fail;go_ret;refine ⟨hg9'.out, ?_⟩;rw [hres.out, hnone.out];exact ⟨by decide, _, q + 1, rfl, rfl, by omega, hs9'.out⟩
           | true =>
            have hok' := Hd (hok.out rfl);clear hok hno
            by_cases hlt : kk < T.length
            ·have e0 : decide ((kk : Int) < (T.length : Int)) = true := by simp; omega
             have e1 : decide (kk < T.length) = true := by simp; omega
             have p1 : (kk : Int) < (T.length : Int) := (by omega);have hx : T[kk]? = some T[kk] := List.getElem?_eq_getElem hlt;generalize T[kk] = x at hx;have hlt' : kk < (strOf T).size := (by omega);have hgx := str_at hx hlt';have hst : Hid (N = if digV x < 16 then numF 16 (T.drop (kk + 1)) (min (v * 16 + digV x) 1114112) else none) := Hd (by rw [<- hok'.out, numF_step hx]);clear hx;go_wp2_with fail;refine (rdigit_any x _).mono ?_;rintro e w4 ⟨rfl, hw4⟩;subst hw4;have hd99 : digV x <= 99 := digV_le x;obtain ⟨d, hd⟩ : ∃ d, digV x = d := ⟨_, rfl⟩;rw [hd] at hst hd99 ⊢;clear hd hgx;obtain ⟨Z, hZ⟩ : ∃ Z : Nat, (v : Int) * 16 + (d : Int) = Z := ⟨v * 16 + d, by omega⟩;have hZn : Hid (v * 16 + d = Z) := Hd (by omega);have hZb : Z <= 17826000 := by omega
             by_cases hdb : d < 16
             ·have e2 : decide ((d : Int) < 16) = true := by simp; omega
              have e2' : decide (d < 16) = true := by simp; omega
              have hst2 : Hid (N = numF 16 (T.drop (kk + 1)) (min Z 1114112)) := Hd (by rw [hst.out, if_pos hdb, hZn.out]);clear hst hdb
              by_cases hb : 1114112 < Z
              ·have e3 : decide ((1114112 : Int) < (Z : Int)) = true := by simp; omega
               have e3' : decide (1114112 < Z) = true := by simp; omega
               have hst3 : Hid (numF 16 (T.drop (kk + 1)) 1114112 = N) := Hd (by rw [hst2.out, Nat.min_eq_right (by omega)]);clear hst2 hb;go_wp2_with fail;go_roundw
               case rel => exact ⟨by first | rfl | trivial, kk + 1, 1114112, true, by go_num, rfl, rfl, by omega, by omega, Hd (fun _ => hst3.out), Hd (fun h => by cases h)⟩
               case measure => simp [intOf]; omega
              ·have e3 : decide ((1114112 : Int) < (Z : Int)) = false := by simp; omega
               have e3' : decide (1114112 < Z) = false := by simp; omega
               have hst3 : Hid (numF 16 (T.drop (kk + 1)) Z = N) := Hd (by rw [hst2.out, Nat.min_eq_left (by omega)]);clear hst2;go_wp2_with fail;go_roundw
               case rel => exact ⟨by first | rfl | trivial, kk + 1, Z, true, by go_num, rfl, rfl, by omega, by omega, Hd (fun _ => hst3.out), Hd (fun h => by cases h)⟩
               case measure => simp [intOf]; omega
             ·have e2 : decide ((d : Int) < 16) = false := by simp; omega
              have e2' : decide (d < 16) = false := by simp; omega
              have hst2 : Hid (N = none) := Hd (by rw [hst.out, if_neg hdb]);clear hst hdb
              by_cases hb : 1114112 < Z
              ·have e3 : decide ((1114112 : Int) < (Z : Int)) = true := by simp; omega
               have e3' : decide (1114112 < Z) = true := by simp; omega
               clear hb;go_wp2_with fail;go_roundw
               case rel => exact ⟨by first | rfl | trivial, kk + 1, 1114112, false, by go_num, rfl, rfl, by omega, by omega, Hd (fun h => by cases h), Hd (fun _ => hst2.out)⟩
               case measure => simp [intOf]; omega
              ·have e3 : decide ((1114112 : Int) < (Z : Int)) = false := by simp; omega
               have e3' : decide (1114112 < Z) = false := by simp; omega
               go_wp2_with fail;go_roundw
               case rel => exact ⟨by first | rfl | trivial, kk + 1, Z, false, by go_num, rfl, rfl, by omega, by omega, Hd (fun h => by cases h), Hd (fun _ => hst2.out)⟩
               case measure => simp [intOf]; omega
            ·have e0 : decide ((kk : Int) < (T.length : Int)) = false := by simp; omega
             have e1 : decide (kk < T.length) = false := by simp; omega
             have hNs : Hid (N = some v) := Hd (by rw [<- hok'.out, numF_end (by omega)]);go_wp2_with fail;refine (refchar_any _ _).mono ?_;rintro e w4 ⟨rfl, hw4⟩;subst hw4
             cases hch : Utf.Char (v : Nat) with
             | false =>
              have hnone : Hid (refV T = none) := Hd (by rw [hN.out, hNs.out]; unfold numC; simp only; rw [hch]; rfl);clear hch;go_wp2_with fail;refine (rbad_any _ b S (q + 1) _ c pl hs3.out 5 k).mono ?_;rintro e w9 ⟨rfl, hs9, hg9⟩;have hs9' := Hd hs9;have hg9' := Hd (hg3.out.trans hg9);clear hs9 hg9;go_wp2_with fail;go_ret;refine ⟨hg9'.out, ?_⟩;rw [hres.out, hnone.out];exact ⟨by decide, _, q + 1, rfl, rfl, by omega, hs9'.out⟩
             | true =>
              have hsome : Hid (refV T = some v) := Hd (by rw [hN.out, hNs.out]; unfold numC; simp only; rw [hch]; rfl);have hvt := char_top hch;clear hch;go_wp2_with fail;refine (refEncode_any (v : Nat) (by omega) (by omega) _).mono ?_;rintro e w9 ⟨A9, c9, rfl, ho9, hb9⟩;have hs9 := Hd (hs3.out.below hb9);have hg9 := Hd (hg3.out.trans (grown_in (r := some b) hb9));have hcv9 : (convert 41 9 (.slice A9 (encB (v : Nat)).length c9)).run Tryz.prog w9 = .ok (.string (strOf (encB (v : Nat)))) w9 := Bs.conv ho9.bs Tryz.underlying41 Tryz.underlying5 Tryz.underlying9;clear ho9 hb9;go_wp2_with fail;go_ret;refine ⟨hg9.out, ?_⟩;rw [hres.out, hsome.out];refine ⟨rfl, ?_⟩;rw [show k + (q - L + 2) = q + 1 by have := hL'.out; omega];exact hs9.out
        ·have j120 : ((x1.toNat : Int) == 120) = false := (by rw [show (120 : Int) = ((120 : UInt8).toNat : Int) from rfl, byte_eq, decide_eq_false h120]);have RV : refV T = numR 10 (T.drop 1) := refV_d' hx0'.out (by rw [hx1'.out]; intro e; injection e with e; exact h120 e);clear h120;have hN : Hid (refV T = numC (numF 10 (T.drop 1) 0)) := Hd (by rw [RV]; exact numR_ne (by intro e; have := congrArg List.length e; rw [List.length_drop] at this; simp at this; omega));clear RV;obtain ⟨N, hNe⟩ : ∃ N, numF 10 (T.drop 1) 0 = N := ⟨_, rfl⟩;rw [hNe] at hN;have hNe' := Hd hNe;clear hNe;go_wp2_with fail
         go_loopw [10, 11, 12, 13] (fun v10 v11 v12 v13 wx => wx = w3 /\ ∃ (kk v : Nat) (okb : Bool), v10 = .int .i64 (kk : Nat) /\ v11 = .int .i64 (v : Nat) /\ v12 = .bool okb /\ v <= 1114112 /\ kk <= T.length /\ Hid (okb = true -> numF 10 (T.drop kk) v = N) /\ Hid (okb = false -> N = none)) (fun v10 _ _ _ _ => T.length - (intOf v10).toNat)
         case atStart => exact ⟨rfl, 1, 0, true, rfl, rfl, rfl, by omega, by omega, Hd (fun _ => hNe'.out), Hd (fun h => by cases h)⟩
         case round =>
          obtain ⟨hwy, kk, v, okb, rfl, rfl, rfl, hv, hkk, hok, hno⟩ := hrel;subst hwy
          cases okb with
          | false =>
           have hnone : Hid (refV T = none) := Hd (by rw [hN.out, hno.out rfl]; rfl);go_wp2_with fail;refine (rbad_any _ b S (q + 1) _ c pl hs3.out 5 k).mono ?_;rintro e w9 ⟨rfl, hs9, hg9⟩;have hs9' := Hd hs9;have hg9' := Hd (hg3.out.trans hg9);clear hs9 hg9;go_wp2_with fail;go_ret;refine ⟨hg9'.out, ?_⟩;rw [hres.out, hnone.out];exact ⟨by decide, _, q + 1, rfl, rfl, by omega, hs9'.out⟩
          | true =>
           have hok' := Hd (hok.out rfl);clear hok hno
           by_cases hlt : kk < T.length
           ·have e0 : decide ((kk : Int) < (T.length : Int)) = true := by simp; omega
            have e1 : decide (kk < T.length) = true := by simp; omega
            have p1 : (kk : Int) < (T.length : Int) := (by omega);have hx : T[kk]? = some T[kk] := List.getElem?_eq_getElem hlt;generalize T[kk] = x at hx;have hlt' : kk < (strOf T).size := (by omega);have hgx := str_at hx hlt';have hst : Hid (N = if digV x < 10 then numF 10 (T.drop (kk + 1)) (min (v * 10 + digV x) 1114112) else none) := Hd (by rw [<- hok'.out, numF_step hx]);clear hx;go_wp2_with fail;refine (rdigit_any x _).mono ?_;rintro e w4 ⟨rfl, hw4⟩;subst hw4;have hd99 : digV x <= 99 := digV_le x;obtain ⟨d, hd⟩ : ∃ d, digV x = d := ⟨_, rfl⟩;rw [hd] at hst hd99 ⊢;clear hd hgx;obtain ⟨Z, hZ⟩ : ∃ Z : Nat, (v : Int) * 10 + (d : Int) = Z := ⟨v * 10 + d, by omega⟩;have hZn : Hid (v * 10 + d = Z) := Hd (by omega);have hZb : Z <= 17826000 := by omega
            by_cases hdb : d < 10
            ·have e2 : decide ((d : Int) < 10) = true := by simp; omega
             have e2' : decide (d < 10) = true := by simp; omega
             have hst2 : Hid (N = numF 10 (T.drop (kk + 1)) (min Z 1114112)) := Hd (by rw [hst.out, if_pos hdb, hZn.out]);clear hst hdb
             by_cases hb : 1114112 < Z
             ·have e3 : decide ((1114112 : Int) < (Z : Int)) = true := by simp; omega
              have e3' : decide (1114112 < Z) = true := by simp; omega
              have hst3 : Hid (numF 10 (T.drop (kk + 1)) 1114112 = N) := Hd (by rw [hst2.out, Nat.min_eq_right (by omega)]);clear hst2 hb;go_wp2_with fail;go_roundw
              case rel => exact ⟨by first | rfl | trivial, kk + 1, 1114112, true, by go_num, rfl, rfl, by omega, by omega, Hd (fun _ => hst3.out), Hd (fun h => by cases h)⟩
              case measure => simp [intOf]; omega
             ·have e3 : decide ((1114112 : Int) < (Z : Int)) = false := by simp; omega
              have e3' : decide (1114112 < Z) = false := by simp; omega
              have hst3 : Hid (numF 10 (T.drop (kk + 1)) Z = N) := Hd (by rw [hst2.out, Nat.min_eq_left (by omega)]);clear hst2;go_wp2_with fail;go_roundw
              case rel => exact ⟨by first | rfl | trivial, kk + 1, Z, true, by go_num, rfl, rfl, by omega, by omega, Hd (fun _ => hst3.out), Hd (fun h => by cases h)⟩
              case measure => simp [intOf]; omega
            ·have e2 : decide ((d : Int) < 10) = false := by simp; omega
             have e2' : decide (d < 10) = false := by simp; omega
             have hst2 : Hid (N = none) := Hd (by rw [hst.out, if_neg hdb]);clear hst hdb
             by_cases hb : 1114112 < Z
             ·have e3 : decide ((1114112 : Int) < (Z : Int)) = true := by simp; omega
              have e3' : decide (1114112 < Z) = true := by simp; omega
              clear hb;go_wp2_with fail;go_roundw
              case rel => exact ⟨by first | rfl | trivial, kk + 1, 1114112, false, by go_num, rfl, rfl, by omega, by omega, Hd (fun h => by cases h), Hd (fun _ => hst2.out)⟩
              case measure => simp [intOf]; omega
             ·have e3 : decide ((1114112 : Int) < (Z : Int)) = false := by simp; omega
              have e3' : decide (1114112 < Z) = false := by simp; omega
              go_wp2_with fail;go_roundw
              case rel => exact ⟨by first | rfl | trivial, kk + 1, Z, false, by go_num, rfl, rfl, by omega, by omega, Hd (fun h => by cases h), Hd (fun _ => hst2.out)⟩
              case measure => simp [intOf]; omega
           ·have e0 : decide ((kk : Int) < (T.length : Int)) = false := by simp; omega
            have e1 : decide (kk < T.length) = false := by simp; omega
            have hNs : Hid (N = some v) := Hd (by rw [<- hok'.out, numF_end (by omega)]);go_wp2_with fail;refine (refchar_any _ _).mono ?_;rintro e w4 ⟨rfl, hw4⟩;subst hw4
            cases hch : Utf.Char (v : Nat) with
            | false =>
             have hnone : Hid (refV T = none) := Hd (by rw [hN.out, hNs.out]; unfold numC; simp only; rw [hch]; rfl);clear hch;go_wp2_with fail;refine (rbad_any _ b S (q + 1) _ c pl hs3.out 5 k).mono ?_;rintro e w9 ⟨rfl, hs9, hg9⟩;have hs9' := Hd hs9;have hg9' := Hd (hg3.out.trans hg9);clear hs9 hg9;go_wp2_with fail;go_ret;refine ⟨hg9'.out, ?_⟩;rw [hres.out, hnone.out];exact ⟨by decide, _, q + 1, rfl, rfl, by omega, hs9'.out⟩
            | true =>
             have hsome : Hid (refV T = some v) := Hd (by rw [hN.out, hNs.out]; unfold numC; simp only; rw [hch]; rfl);have hvt := char_top hch;clear hch;go_wp2_with fail;refine (refEncode_any (v : Nat) (by omega) (by omega) _).mono ?_;rintro e w9 ⟨A9, c9, rfl, ho9, hb9⟩;have hs9 := Hd (hs3.out.below hb9);have hg9 := Hd (hg3.out.trans (grown_in (r := some b) hb9));have hcv9 : (convert 41 9 (.slice A9 (encB (v : Nat)).length c9)).run Tryz.prog w9 = .ok (.string (strOf (encB (v : Nat)))) w9 := Bs.conv ho9.bs Tryz.underlying41 Tryz.underlying5 Tryz.underlying9;clear ho9 hb9;go_wp2_with fail;go_ret;refine ⟨hg9.out, ?_⟩;rw [hres.out, hsome.out];refine ⟨rfl, ?_⟩;rw [show k + (q - L + 2) = q + 1 by have := hL'.out; omega];exact hs9.out
       ·have j35 : ((x0.toNat : Int) == 35) = false := (by rw [show (35 : Int) = ((35 : UInt8).toNat : Int) from rfl, byte_eq, decide_eq_false h35]);have hnone : Hid (refV T = none) := Hd (by rw [refV_n' (by rw [hx0'.out]; intro e; injection e with e; exact h35 e), hnm.out]);clear h35;go_wp2_with fail
        go_loopw [12] (fun v12 wx => v12 = .bool false /\ wx = w3) (fun _ _ => 0)
        case atStart => exact ⟨rfl, rfl⟩
        case round =>
         obtain ⟨rfl, hwy⟩ := hrel;subst hwy;go_wp2_with fail;refine (rbad_any _ b S (q + 1) _ c pl hs3.out 5 k).mono ?_;rintro e w9 ⟨rfl, hs9, hg9⟩;have hs9' := Hd hs9;have hg9' := Hd (hg3.out.trans hg9);clear hs9 hg9;go_wp2_with fail;go_ret;refine ⟨hg9'.out, ?_⟩;rw [hres.out, hnone.out];exact ⟨by decide, _, q + 1, rfl, rfl, by omega, hs9'.out⟩
   ·have j59 : ((x.toNat : Int) != 59) = true := by
     rw [bne_iff_ne];intro e;exact h59 (UInt8.toNat_inj.1 (by show x.toNat = 59; omega))
    have hro : Hid (F = (find [59] (S.drop (q + 1))).map (· + (q + 1 - L))) := Hd (by
     rw [hr.out, find59_off hx'.out h59, Option.map_map]
     congr 1
     funext z
     simp only [Function.comp]
     omega)
    clear h59;go_wp2_with fail;go_roundw
    case rel => exact ⟨by first | rfl | trivial, q + 1, by omega, by omega, by go_num, hro⟩
    case measure => simp [intOf]; omega
  ·have i0 : decide ((q : Int) < (S.length : Int)) = false := by simp; omega
   have i1 : decide (q < S.length) = false := by simp; omega
   have j0 : decide ((S.length : Int) <= (q : Int)) = true := by simp; omega
   have j1 : decide (S.length <= q) = true := by simp; omega
   have hres : Hid (G = .bad 5 0) := Hd (by
    have h1 := hr.out;rw [find_end (by omega) (by decide)] at h1;rw [<- hG'.out];unfold refR;rw [hF'.out, h1]
    rfl)
   go_wp2_with fail;refine (rbad_any _ b S k A c pl h'.out 5 k).mono ?_;rintro e w3 ⟨rfl, hs3, hg3⟩;have hs3' := Hd hs3;have hg3' := Hd hg3;clear hs3 hg3;go_wp2_with fail;go_ret;refine ⟨hg3'.out, ?_⟩;rw [hres.out];exact ⟨by decide, _, k, rfl, rfl, by omega, hs3'.out⟩
end
end Go.Proofs.YtokdnhdfmgfkeaaGreatDoor.Xl
end

section
namespace Go.Proofs.YtokdnhdfmgfkeaaGreatDoor.Xl
open Go.RowKit UtfW Er
theorem add_run {B1 B2 B3 : ByteArray} (h : B1 ++ B2 = B3) (hs : B1.size + B2.size <= 1000000000) : ∀ w, (Op.stringOp .add B1 B2).run Tryz.prog w = .ok (.string B3) w := fun w => by
 have := run_string_add_sum (P := Tryz.prog) w B1 B2 (by omega);rw [h] at this;exact this
theorem strOf_app (a b : Tx) : strOf a ++ strOf b = strOf (a ++ b) := by
 apply ByteArray.ext;simp [strOf]
theorem conv_one (w : World) (x : UInt8) : (convert 41 9 (.slice (some ⟨w.heap.size, 0, none⟩) 1 1)).run Tryz.prog (w.alloc (.cells #[.int .u8 (x.toNat : Int)] 5)) = .ok (.string (strOf [x])) (w.alloc (.cells #[.int .u8 (x.toNat : Int)] 5)) :=
 Bs.conv (OwB.bs (owb_lit w w.heap.size (Nat.le_refl _) #[.int .u8 (x.toNat : Int)] 5 [x] 1 rfl (by omega) rfl)) Tryz.underlying41 Tryz.underlying5 Tryz.underlying9
theorem line_two {S : Tx} {q : Nat} {x : UInt8} (hx : S[q]? = some x) : line (S.drop q) = if x = 13 /\ S[q + 1]? = some 10 then 2 else 1 := by
 unfold line
 congr 1
 rw [eq_iff_iff, hp_iff];constructor
 ·intro h;have h0 := h 0 (by decide);have h1 := h 1 (by decide);rw [List.getElem?_drop] at h0 h1;rw [Nat.add_zero, hx] at h0;exact ⟨by injection h0, h1⟩
 ·rintro ⟨rfl, h⟩ m hm;rw [List.getElem?_drop];rcases (by simp at hm; omega : m = 0 \/ m = 1) with rfl | rfl
  ·rw [Nat.add_zero, hx]; rfl
  ·rw [h]; rfl
section
variable (w : World) (b : Nat) (S : Tx) (k : Nat) (A : Option Addr) (c : Nat)
set_option maxHeartbeats 4000000 in
set_option maxRecDepth 100000 in
theorem rvalue_any (pl : Nat) (h : Sr w b S k A c 0 pl) (hk : k <= S.length) (hS : S.length <= 65536) :
  Calls Tryz.prog 168 #[.pointer (some ⟨b, 0, none⟩)] w fun e w' => GivesR w b S k A c pl (fun v => v = .string ⟨#[]⟩) (fun v => .string (strOf v)) (value (S.drop k)) e w' := by
 have c2 := h.c2;have h' := Hd h;clear h;obtain ⟨R, hR⟩ : ∃ R, value (S.drop k) = R := ⟨_, rfl⟩;rw [hR];have hR' := Hd hR;clear hR
 go_enter Tryz.func168, Tryz.ntmps168
 go_wp2_with fail;refine (rc_any w b S k A c pl h'.out 0 (by omega)).mono ?_;rintro e w1 ⟨rfl, hb1⟩;have hs1 := Hd (h'.out.below hb1);have hg1 := Hd (grown_in (r := some b) hb1);rw [Nat.add_zero];clear hb1 c2;have c0 := hs1.out.c0;have c1 := hs1.out.c1;have f1 := hs1.out.frozen 1
 by_cases hend : S.length <= k
 ·rw [cF_end hend];go_wp2_with fail;refine (rbad_any w1 b S k A c pl hs1.out 6 S.length).mono ?_;rintro e w3 ⟨rfl, hs3, hg3⟩;have hs3' := Hd hs3;have hg3' := Hd (hg1.out.trans hg3);clear hs3 hg3;go_wp2_with fail;go_ret;refine ⟨hg3'.out, ?_⟩;rw [<- hR'.out, drop_end hend, value];refine ⟨by decide, _, k, rfl, rfl, hk, ?_⟩;rw [show k + 0 = S.length by omega];exact hs3'.out
 have hkl : k < S.length := by omega
 have hx : S[k]? = some S[k] := List.getElem?_eq_getElem hkl;generalize S[k] = x0 at hx;rw [cF_at hx];have hx0 := Hd hx;clear hx hend;have i0 : decide ((x0.toNat : Int) < 0) = false := by simp
 have j34 := byte_eq x0 34;have j39 := byte_eq x0 39
 by_cases hqt : ¬ (x0 = 34 \/ x0 = 39)
 ·have hqt' := Hd hqt;rw [decide_eq_false fun e => hqt (.inl e)] at j34;rw [decide_eq_false fun e => hqt (.inr e)] at j39;have j34' : ((x0.toNat : Int) == 34) = false := j34;have j39' : ((x0.toNat : Int) == 39) = false := j39;have m34 : ((x0.toNat : Int) != 34) = true := by unfold bne; rw [j34']; rfl
  have m39 : ((x0.toNat : Int) != 39) = true := by unfold bne; rw [j39']; rfl
  clear hqt j34 j39;go_wp2_with fail;refine (rbad_any w1 b S k A c pl hs1.out 2 k).mono ?_;rintro e w3 ⟨rfl, hs3, hg3⟩;have hs3' := Hd hs3;have hg3' := Hd (hg1.out.trans hg3);clear hs3 hg3;go_wp2_with fail;go_ret;refine ⟨hg3'.out, ?_⟩;rw [<- hR'.out, drop_at hx0.out, value, if_neg hqt'.out];exact ⟨by decide, _, k, rfl, rfl, hk, hs3'.out⟩
 have hqt := Classical.not_not.1 hqt
 have hgo : Hid ((valF (S.length - k) x0 (S.drop (k + 1)) []).shift 1 = R) := Hd (by
  have := hR'.out;rw [drop_at hx0.out, value, if_pos hqt, List.length_drop] at this
  rw [<- this, show S.length - k = S.length - (k + 1) + 1 by omega])
 have hall : Hid (x0 = 34 \/ x0 = 39) := Hd hqt;clear hqt j34 j39 c0 c1 f1
 go_upto_region 7 with fail
 go_cut [27] (fun v wx => v = .bool false /\ wx = w1)
 case first =>
  rcases hall.out with e | e
  ·have j1 : ((x0.toNat : Int) != 34) = false := by rw [e]; rfl
   go_wp2_with fail
   go_meet
   exact ⟨rfl, rfl⟩
  ·have j1 : ((x0.toNat : Int) != 34) = true := by rw [e]; rfl
   have j2 : ((x0.toNat : Int) != 39) = false := by rw [e]; rfl
   go_wp2_with fail
   go_meet
   exact ⟨rfl, rfl⟩
 obtain ⟨rfl, hwc⟩ := hcut;subst hwc;clear hall;have c1 := hs1.out.c1;have f1 := hs1.out.frozen 1;have hset := hs1.out.set1 (k + 1);have hss := Hd hset.1;have hgg := Hd (hg1.out.trans hset.2);clear hset;go_wp2_with fail
 go_loopg [4, 5] (S.length + 1) (fun m v4 v5 wr => (∃ (q f : Nat) (o : Tx) (O : ByteArray), k < q /\ q <= S.length /\ S.length - q < m /\ v4 = .string O /\ O.size <= 4 * (q - k) /\ Hid (O = strOf o) /\ Hid (S.length - q < f) /\ Hid ((valF f x0 (S.drop q) o).shift (q - k) = R) /\ Hid (Sr wr b S q A c 0 pl) /\ Hid (w.grownBy wr (some b))) \/ (∃ (q : Nat) (cd : Int) (p : Nat), cd ≠ 0 /\ q <= S.length /\ Hid (R = .bad cd p) /\ Hid (Sr wr b S q A c cd (k + p)) /\ Hid (w.grownBy wr (some b))))
 case atStart =>
  refine .inl ⟨k + 1, S.length - k, [], ⟨#[]⟩, by omega, by omega, by omega, rfl, Nat.zero_le _, Hd rfl, Hd (by omega), Hd ?_, hss, hgg⟩;rw [show k + 1 - k = 1 by omega];exact hgo.out
 case round =>
  clear c1 f1 hss hgg;rcases hrel with ⟨q, f, o, O, hkq, hql, hms, rfl, hOl, hO, hf, hr, hs, hg⟩ | ⟨q, cd, p, hcd, hql, hRb, hs, hg⟩
  rotate_left
  ·have c2 := hs.out.c2;have j0 : (cd == 0) = false := by rw [beq_eq_false_iff_ne]; exact hcd
   have hcd' := Hd hcd;clear hcd;go_wp2_with fail
   (try simp only [Exit.inBlock, Exit.then])
   go_ret;refine ⟨hg.out, ?_⟩;rw [hRb.out];exact ⟨hcd'.out, _, q, rfl, rfl, hql, hs.out⟩
  have c2 := hs.out.c2;go_wp2_with fail;refine (rc_any wr b S q A c pl hs.out 0 (by omega)).mono ?_;rintro e w1 ⟨rfl, hb1⟩;have hs1 := Hd (hs.out.below hb1);have hg1 := Hd (hg.out.trans (grown_in (r := some b) hb1));rw [Nat.add_zero];clear hb1 c2 hs hg;have c0 := hs1.out.c0;have c1 := hs1.out.c1;have f1 := hs1.out.frozen 1
  by_cases hge : S.length <= q
  ·rw [cF_end hge]
   have hRb : Hid (R = .bad 6 (q - k)) := Hd (by
    have := hr.out;rw [drop_end hge, show valF f x0 [] o = .bad 6 0 by cases f <;> rfl] at this
    exact this.symm)
   go_wp2_with fail;refine (rbad_any w1 b S q A c pl hs1.out 6 S.length).mono ?_;rintro e w3 ⟨rfl, hs3, hg3⟩;rw [show S.length = k + (q - k) by omega] at hs3;have hs3' := Hd hs3;have hg3' := Hd (hg1.out.trans hg3);clear hs3 hg3;go_wp2_with fail
   go_roundg 0
   case measure => omega
   case rel => exact .inr ⟨q, 6, q - k, by decide, hql, hRb, hs3', hg3'⟩
  have hlt : q < S.length := by omega
  have hx : S[q]? = some S[q] := List.getElem?_eq_getElem hlt;generalize S[q] = x at hx;rw [cF_at hx];have hx' := Hd hx;clear hx hge;have i0 : decide ((x.toNat : Int) < 0) = false := by simp
  obtain ⟨f', rfl⟩ : ∃ f', f = f' + 1 := ⟨f - 1, by have := hf.out; omega⟩
  by_cases jq : x = x0
  ·subst jq;go_wp2_with fail
   (try simp only [Exit.inBlock, Exit.then])
   go_ret;have h5 := hs1.out.set1 (q + 1);refine ⟨hg1.out.trans h5.2, ?_⟩;have := hr.out;rw [drop_at hx'.out, valF, if_pos rfl] at this;rw [<- this];refine ⟨by show Ending.returned (.string O) = .returned (.string (strOf o)); rw [<- hO.out], ?_⟩;rw [show k + (q - k + 1) = q + 1 by omega];exact h5.1
  have jq0 : ((x.toNat : Int) == (x0.toNat : Int)) = false := by rw [byte_eq, decide_eq_false jq]
  have jq' := Hd jq;clear jq
  by_cases j6 : x = 60
  ·have j60 : ((x.toNat : Int) == 60) = true := by rw [j6]; rfl
   have hRb : Hid (R = .bad 2 (q - k)) := Hd (by
    have := hr.out;rw [drop_at hx'.out, valF, if_neg jq'.out, if_pos j6] at this
    exact this.symm)
   clear j6;go_wp2_with fail;refine (rbad_any w1 b S q A c pl hs1.out 2 q).mono ?_;rintro e w3 ⟨rfl, hs3, hg3⟩;rw [show q = k + (q - k) by omega] at hs3;have hs3' : Hid (Sr w3 b S q A c 2 (k + (q - k))) := Hd (by rw [show k + (q - k) = q by omega] at hs3 ⊢; exact hs3);have hg3' := Hd (hg1.out.trans hg3);clear hs3 hg3;go_wp2_with fail
   go_roundg 0
   case measure => omega
   case rel => exact .inr ⟨q, 2, q - k, by decide, hql, hRb, hs3', hg3'⟩
  have j60 : ((x.toNat : Int) == 60) = false := by rw [show (60 : Int) = ((60 : UInt8).toNat : Int) from rfl, byte_eq, decide_eq_false j6]
  have j6' := Hd j6;clear j6
  by_cases j3 : x = 38
  ·have j38 : ((x.toNat : Int) == 38) = true := by rw [j3]; rfl
   have hx38' : Hid (S[q]? = some 38) := Hd (by rw [<- j3]; exact hx'.out);have j3' := Hd j3;clear j3;go_wp2_with fail;refine (rref_any w1 b S q A c pl hs1.out hx38'.out (by omega)).mono ?_;rintro e w5 ⟨hg5, hG⟩
   cases hrf : refR (S.drop (q + 1)) with
   | bad ec eo =>
    rw [hrf] at hG;obtain ⟨hec, v, q2, rfl, rfl, hq2, hs5⟩ := hG
    have hRb : Hid (R = .bad ec (q - k + eo)) := Hd (by
     have := hr.out;rw [drop_at hx'.out, valF, if_neg jq'.out, if_neg j6'.out, if_pos j3'.out, hrf] at this
     exact this.symm)
    have hs5' : Hid (Sr w5 b S q2 A c ec (k + (q - k + eo))) := Hd (by rw [show k + (q - k + eo) = q + eo by omega]; exact hs5);have hg5' := Hd (hg1.out.trans hg5);have e1 := add_run (B1 := O) (B2 := ⟨#[]⟩) (B3 := O ++ ⟨#[]⟩) rfl (by show O.size + 0 <= _; omega);generalize O ++ ⟨#[]⟩ = O2 at e1;clear hs5 hg5 hrf;go_wp2_with fail
    go_roundg 0
    case measure => omega
    case rel => exact .inr ⟨q2, ec, q - k + eo, hec, hq2, hRb, hs5', hg5'⟩
   | ok v m =>
    rw [hrf] at hG;obtain ⟨rfl, hs5⟩ := hG;have hvl := refR_v hrf;have hml := refR_len hrf;rw [List.length_drop] at hml;have hs5' := Hd hs5;have hg5' := Hd (hg1.out.trans hg5)
    have hr2 : Hid ((valF f' x0 (S.drop (q + m)) (o ++ v)).shift (q + m - k) = R) := Hd (by
     have := hr.out;rw [drop_at hx'.out, valF, if_neg jq'.out, if_neg j6'.out, if_pos j3'.out, hrf] at this;simp only at this;rw [Out.shift_shift, <- drop_at hx'.out, List.drop_drop] at this;rw [show q + m - k = q - k + m by omega]
     exact this)
    have hO2 : Hid (O ++ strOf v = strOf (o ++ v)) := Hd (by rw [hO.out, strOf_app]);have hvz : (strOf v).size = v.length := strOf_size' v;have e1 := add_run (B1 := O) (B2 := strOf v) (B3 := O ++ strOf v) rfl (by omega);have hsz2 : (O ++ strOf v).size = O.size + (strOf v).size := ByteArray.size_append;generalize O ++ strOf v = O2 at e1 hO2 hsz2;clear hs5 hg5 hrf;go_wp2_with fail
    go_roundg (S.length - (q + m) + 1)
    case measure => omega
    case rel => exact .inl ⟨q + m, f', o ++ v, O2, by omega, by omega, by omega, rfl, by omega, hO2, Hd (by have := hf.out; omega), hr2, hs5', hg5'⟩
  have j38 : ((x.toNat : Int) == 38) = false := by
   have hj : ¬ x = 38 := j3;rw [show (38 : Int) = ((38 : UInt8).toNat : Int) from rfl, byte_eq, decide_eq_false hj]
  have j3' := Hd j3;clear j3
  have hlin : x = 9 \/ x = 10 \/ x = 13 -> Hid ((valF f' x0 (S.drop (q + line (S.drop q))) (o ++ [32])).shift (q + line (S.drop q) - k) = R) := fun hj => Hd (by
   have := hr.out;rw [drop_at hx'.out, valF, if_neg jq'.out, if_neg j6'.out, if_neg j3'.out, if_pos hj, Out.shift_shift, <- drop_at hx'.out, List.drop_drop] at this;rw [show q + line (S.drop q) - k = q - k + line (S.drop q) by omega]
   exact this)
  rw [line_two hx'.out] at hlin;have e32 := add_run (B1 := O) (B2 := ⟨#[32]⟩) (B3 := O ++ ⟨#[32]⟩) rfl (by show O.size + 1 <= _; omega);have hO32 : Hid (O ++ ⟨#[32]⟩ = strOf (o ++ [32])) := Hd (by rw [hO.out, <- strOf_app]; rfl);have hz32 : (O ++ ⟨#[32]⟩ : ByteArray).size = O.size + 1 := ByteArray.size_append;generalize O ++ ⟨#[32]⟩ = O32 at e32 hO32 hz32
  by_cases j9 : x = 9
  ·have hli := hlin (.inl j9);rw [if_neg (by rw [j9]; exact fun h => absurd h.1 (by decide))] at hli;have k9 : ((x.toNat : Int) == 9) = true := by rw [j9]; rfl
   have k13 : ((x.toNat : Int) == 13) = false := by rw [j9]; rfl
   clear hlin j9;go_wp2_with fail;have h7 := hs1.out.set1 (q + 1);have hg7 := hg1.out.trans h7.2
   go_roundg (S.length - (q + 1) + 1)
   case measure => omega
   case rel => exact .inl ⟨q + 1, f', o ++ [32], O32, by omega, by omega, by omega, rfl, by omega, hO32, Hd (by have := hf.out; omega), hli, Hd h7.1, Hd hg7⟩
  have k9 : ((x.toNat : Int) == 9) = false := by rw [show (9 : Int) = ((9 : UInt8).toNat : Int) from rfl, byte_eq, decide_eq_false j9]
  by_cases j10 : x = 10
  ·have hli := hlin (.inr (.inl j10));rw [if_neg (by rw [j10]; exact fun h => absurd h.1 (by decide))] at hli;have k10 : ((x.toNat : Int) == 10) = true := by rw [j10]; rfl
   have k13 : ((x.toNat : Int) == 13) = false := by rw [j10]; rfl
   clear hlin j10 j9;go_wp2_with fail;have h7 := hs1.out.set1 (q + 1);have hg7 := hg1.out.trans h7.2
   go_roundg (S.length - (q + 1) + 1)
   case measure => omega
   case rel => exact .inl ⟨q + 1, f', o ++ [32], O32, by omega, by omega, by omega, rfl, by omega, hO32, Hd (by have := hf.out; omega), hli, Hd h7.1, Hd hg7⟩
  have k10 : ((x.toNat : Int) == 10) = false := by rw [show (10 : Int) = ((10 : UInt8).toNat : Int) from rfl, byte_eq, decide_eq_false j10]
  by_cases j13 : x = 13
  ·have hli := hlin (.inr (.inr j13));have k13 : ((x.toNat : Int) == 13) = true := by rw [j13]; rfl
   by_cases h10 : S[q + 1]? = some 10
   ·rw [if_pos ⟨j13, h10⟩] at hli;have hlt2 : q + 1 < S.length := (List.getElem?_eq_some_iff.1 h10).1;have hF : cF S (q + 1) = 10 := by rw [cF_at h10]; rfl
    have hF' := Hd hF;clear hlin j13 j10 j9 h10 hF;go_wp2_with fail;refine (rc_any w1 b S q A c pl hs1.out 1 (by omega)).mono ?_;rintro e w2 ⟨rfl, hb2⟩;have hs2 := Hd (hs1.out.below hb2);have hg2 := Hd (hg1.out.trans (grown_in (r := some b) hb2));rw [hF'.out];have d1 := hs2.out.c1;have g1 := hs2.out.frozen 1;have hset := hs2.out.set1 (q + 1);have hs3 := Hd hset.1;have hg3 := Hd (hg2.out.trans hset.2);have a1 := hs3.out.c1;have b1 := hs3.out.frozen 1;clear hb2 c1 f1 c0 hset;go_wp2_with fail;have h7 := hs3.out.set1 (q + 2);have hg7 := hg3.out.trans h7.2
    go_roundg (S.length - (q + 2) + 1)
    case measure => omega
    case rel => exact .inl ⟨q + 2, f', o ++ [32], O32, by omega, by omega, by omega, rfl, by omega, hO32, Hd (by have := hf.out; omega), hli, Hd h7.1, Hd hg7⟩
   ·rw [if_neg (fun h => h10 h.2)] at hli
    have hF : (cF S (q + 1) == 10) = false := by
     rw [beq_eq_false_iff_ne];intro e;apply h10;unfold cF at e
     split at e
     ·cases e
     ·rename_i y hy
      rw [hy]
      congr 1
      exact UInt8.toNat_inj.1 (by show y.toNat = 10; omega)
    clear hlin j13 j10 j9 h10;go_wp2_with fail;refine (rc_any w1 b S q A c pl hs1.out 1 (by omega)).mono ?_;rintro e w2 ⟨rfl, hb2⟩;have hs2 := Hd (hs1.out.below hb2);have hg2 := Hd (hg1.out.trans (grown_in (r := some b) hb2));have d1 := hs2.out.c1;have g1 := hs2.out.frozen 1;clear hb2 c1 f1 c0;go_wp2_with fail;have h7 := hs2.out.set1 (q + 1);have hg7 := hg2.out.trans h7.2
    go_roundg (S.length - (q + 1) + 1)
    case measure => omega
    case rel => exact .inl ⟨q + 1, f', o ++ [32], O32, by omega, by omega, by omega, rfl, by omega, hO32, Hd (by have := hf.out; omega), hli, Hd h7.1, Hd hg7⟩
  have k13 : ((x.toNat : Int) == 13) = false := by rw [show (13 : Int) = ((13 : UInt8).toNat : Int) from rfl, byte_eq, decide_eq_false j13]
  have hrr : Hid ((valF f' x0 (S.drop (q + 1)) (o ++ [x])).shift (q + 1 - k) = R) := Hd (by
   have := hr.out;rw [drop_at hx'.out, valF, if_neg jq'.out, if_neg j6'.out, if_neg j3'.out, if_neg (by rintro (h | h | h); exact j9 h; exact j10 h; exact j13 h), Out.shift_shift] at this;rw [show q + 1 - k = q - k + 1 by omega]
   exact this)
  clear hlin j9 j10 j13 e32 hO32 hz32;have hx8 : (x.toNat : Int) % 256 = (x.toNat : Int) := by have := x.toNat_lt; omega
  have hcv := conv_one w1 x;have hOx : Hid (O ++ strOf [x] = strOf (o ++ [x])) := Hd (by rw [hO.out, strOf_app]);have hzx : (O ++ strOf [x] : ByteArray).size = O.size + 1 := ByteArray.size_append;have ex := add_run (B1 := O) (B2 := strOf [x]) (B3 := O ++ strOf [x]) rfl (by show O.size + 1 <= _; omega);generalize O ++ strOf [x] = Ox at ex hOx hzx;generalize strOf [x] = X at hcv ex;have hal := below_alloc w1 (.cells #[.int .u8 (x.toNat : Int)] 5);have hs6 := Hd (hs1.out.below hal);have hg6 := Hd (hg1.out.trans (grown_in (r := some b) hal));have d1 := hs6.out.c1;have g1 := hs6.out.frozen 1;clear hal;go_wp2_with fail;have h7 := hs6.out.set1 (q + 1);have hg7 := hg6.out.trans h7.2
  go_roundg (S.length - (q + 1) + 1)
  case measure => omega
  case rel => exact .inl ⟨q + 1, f', o ++ [x], Ox, by omega, by omega, by omega, rfl, by omega, hOx, Hd (by have := hf.out; omega), hrr, Hd h7.1, Hd hg7⟩
set_option maxRecDepth 100000 in
theorem rvalue_idle {e0 : Int} (pl : Nat) (h : Sr w b S k A c e0 pl) (h0 : e0 ≠ 0) :
  Calls Tryz.prog 168 #[.pointer (some ⟨b, 0, none⟩)] w fun e w' => e = .returned (.string ⟨#[]⟩) /\ w' = w := by
 have c2 := h.c2;have j0 : (e0 == 0) = false := by rw [beq_eq_false_iff_ne]; exact h0
 have j1 : (e0 != 0) = true := by rw [bne_iff_ne]; exact h0
 go_enter Tryz.func168, Tryz.ntmps168
 go_wp2_with fail;go_ret;exact ⟨rfl, rfl⟩
end
end Go.Proofs.YtokdnhdfmgfkeaaGreatDoor.Xl
end

section
namespace Go.Proofs.YtokdnhdfmgfkeaaGreatDoor.Xl
open Go.RowKit UtfW Er
section
variable (w : World) (b : Nat) (S : Tx) (k : Nat) (A : Option Addr) (c : Nat)
set_option maxHeartbeats 4000000 in
set_option maxRecDepth 100000 in
theorem rtext_any (pl : Nat) (h : Sr w b S k A c 0 pl) (hk : k <= S.length) (hS : S.length <= 65536) (f0 : Nat) (hf0 : S.length - k < f0) :
  Calls Tryz.prog 138 #[.pointer (some ⟨b, 0, none⟩)] w fun e w' => GivesR w b S k A c pl (fun v => ∃ O, v = .string O /\ O.size <= 1000000) (fun v => .string (strOf v)) (textF f0 (S.drop k) []) e w' := by
 have c2 := h.c2;have h' := Hd h;clear h;obtain ⟨R, hR⟩ : ∃ R, textF f0 (S.drop k) [] = R := ⟨_, rfl⟩;rw [hR];have hR' := Hd hR;clear hR
 go_enter Tryz.func138, Tryz.ntmps138
 go_wp2_with fail
 go_loopg [3] (S.length + 1) (fun m v3 wr => (∃ (q f : Nat) (o : Tx) (O : ByteArray), k <= q /\ q <= S.length /\ S.length - q < m /\ v3 = .string O /\ O.size <= 4 * (q - k) /\ Hid (O = strOf o) /\ Hid (S.length - q < f) /\ Hid ((textF f (S.drop q) o).shift (q - k) = R) /\ Hid (Sr wr b S q A c 0 pl) /\ Hid (w.grownBy wr (some b))) \/ (∃ (q : Nat) (cd : Int) (p : Nat) (O : ByteArray), cd ≠ 0 /\ q <= S.length /\ v3 = .string O /\ O.size <= 1000000 /\ Hid (R = .bad cd p) /\ Hid (Sr wr b S q A c cd (k + p)) /\ Hid (w.grownBy wr (some b))))
 case atStart =>
  refine .inl ⟨k, f0, [], ⟨#[]⟩, by omega, by omega, by omega, rfl, Nat.zero_le _, Hd rfl, Hd (by omega), Hd ?_, h', Hd (World.grownBy.refl _ _)⟩;rw [Nat.sub_self, Out.shift_zero];exact hR'.out
 case round =>
  clear c2;rcases hrel with ⟨q, f, o, O, hkq, hql, hms, rfl, hOl, hO, hf, hr, hs, hg⟩ | ⟨q, cd, p, O, hcd, hql, rfl, hOl, hRb, hs, hg⟩
  rotate_left
  ·have c2 := hs.out.c2;have j0 : (cd == 0) = false := by rw [beq_eq_false_iff_ne]; exact hcd
   have hcd' := Hd hcd;clear hcd;go_wp2_with fail
   (try simp only [Exit.inBlock, Exit.then])
   go_ret;refine ⟨hg.out, ?_⟩;rw [hRb.out];exact ⟨hcd'.out, _, q, rfl, ⟨O, rfl, hOl⟩, hql, hs.out⟩
  have c2 := hs.out.c2;obtain ⟨f', rfl⟩ : ∃ f', f = f' + 1 := ⟨f - 1, by have := hf.out; omega⟩
  by_cases hge : S.length <= q
  ·have hF := cF_end (S := S) (k := q) hge;have hF' := Hd hF;clear hF;go_wp2_with fail;refine (rc_any wr b S q A c pl hs.out 0 (by omega)).mono ?_;rintro e w1 ⟨rfl, hb1⟩;have hs1 := Hd (hs.out.below hb1);have hg1 := Hd (hg.out.trans (grown_in (r := some b) hb1));rw [Nat.add_zero, hF'.out];clear hb1 c2;go_wp2_with fail
   (try simp only [Exit.inBlock, Exit.then])
   go_ret;refine ⟨hg1.out, ?_⟩;have := hr.out;rw [drop_end hge, textF] at this;rw [<- this];refine ⟨by show Ending.returned (.string O) = .returned (.string (strOf o)); rw [<- hO.out], ?_⟩;rw [show k + (q - k + 0) = q by omega];exact hs1.out
  have hlt : q < S.length := by omega
  have hx : S[q]? = some S[q] := List.getElem?_eq_getElem hlt;generalize S[q] = x at hx;have hF := cF_at hx;have hF' := Hd hF;have hx' := Hd hx;clear hx hge hF;have i0 : decide (0 <= (x.toNat : Int)) = true := by simp
  by_cases j6 : x = 60
  ·have j60 : ((x.toNat : Int) != 60) = false := by rw [j6]; rfl
   have j6' := Hd j6;clear j6;go_wp2_with fail;refine (rc_any wr b S q A c pl hs.out 0 (by omega)).mono ?_;rintro e w1 ⟨rfl, hbz⟩;have hs1 := Hd (hs.out.below hbz);have hg1 := Hd (hg.out.trans (grown_in (r := some b) hbz));rw [Nat.add_zero, hF'.out];clear hbz;clear c2;go_wp2_with fail;refine (rc_any w1 b S q A c pl hs1.out 0 (by omega)).mono ?_;rintro e w2 ⟨rfl, hbz⟩;have hs2 := Hd (hs1.out.below hbz);have hg2 := Hd (hg1.out.trans (grown_in (r := some b) hbz));rw [Nat.add_zero, hF'.out];clear hbz;go_wp2_with fail
   (try simp only [Exit.inBlock, Exit.then])
   go_ret;refine ⟨hg2.out, ?_⟩;have := hr.out;rw [drop_at hx'.out, textF, if_pos j6'.out] at this;rw [<- this];refine ⟨by show Ending.returned (.string O) = .returned (.string (strOf o)); rw [<- hO.out], ?_⟩;rw [show k + (q - k + 0) = q by omega];exact hs2.out
  have j60 : ((x.toNat : Int) != 60) = true := by
   rw [bne_iff_ne];intro e;exact j6 (UInt8.toNat_inj.1 (by show x.toNat = 60; omega))
  have j6' := Hd j6;clear j6
  by_cases j3 : x = 38
  ·have j38 : ((x.toNat : Int) == 38) = true := by rw [j3]; rfl
   have hx38' : Hid (S[q]? = some 38) := Hd (by rw [<- j3]; exact hx'.out);have j3' := Hd j3;clear j3;go_wp2_with fail;refine (rc_any wr b S q A c pl hs.out 0 (by omega)).mono ?_;rintro e w1 ⟨rfl, hbz⟩;have hs1 := Hd (hs.out.below hbz);have hg1 := Hd (hg.out.trans (grown_in (r := some b) hbz));rw [Nat.add_zero, hF'.out];clear hbz;clear c2;go_wp2_with fail;refine (rc_any w1 b S q A c pl hs1.out 0 (by omega)).mono ?_;rintro e w2 ⟨rfl, hbz⟩;have hs2 := Hd (hs1.out.below hbz);have hg2 := Hd (hg1.out.trans (grown_in (r := some b) hbz));rw [Nat.add_zero, hF'.out];clear hbz;go_wp2_with fail;refine (rc_any w2 b S q A c pl hs2.out 0 (by omega)).mono ?_;rintro e w3 ⟨rfl, hb3⟩;have hs3 := Hd (hs2.out.below hb3);have hg3 := Hd (hg2.out.trans (grown_in (r := some b) hb3));rw [Nat.add_zero, hF'.out];clear hb3 hs2 hg2;go_wp2_with fail;refine (rref_any w3 b S q A c pl hs3.out hx38'.out (by omega)).mono ?_;rintro e w5 ⟨hg5, hG⟩
   cases hrf : refR (S.drop (q + 1)) with
   | bad ec eo =>
    rw [hrf] at hG;obtain ⟨hec, v, q2, rfl, rfl, hq2, hs5⟩ := hG
    have hRb : Hid (R = .bad ec (q - k + eo)) := Hd (by
     have := hr.out;rw [drop_at hx'.out, textF, if_neg j6'.out, if_pos j3'.out, hrf] at this
     exact this.symm)
    have hs5' : Hid (Sr w5 b S q2 A c ec (k + (q - k + eo))) := Hd (by rw [show k + (q - k + eo) = q + eo by omega]; exact hs5);have hg5' := Hd (hg3.out.trans hg5);have e1 := add_run (B1 := O) (B2 := ⟨#[]⟩) (B3 := O ++ ⟨#[]⟩) rfl (by show O.size + 0 <= _; omega);have hz1 : (O ++ ⟨#[]⟩ : ByteArray).size = O.size + 0 := ByteArray.size_append;generalize O ++ ⟨#[]⟩ = O2 at e1 hz1;clear hs5 hg5 hrf;go_wp2_with fail
    go_roundg 0
    case measure => omega
    case rel => exact .inr ⟨q2, ec, q - k + eo, O2, hec, hq2, rfl, by omega, hRb, hs5', hg5'⟩
   | ok v m =>
    rw [hrf] at hG;obtain ⟨rfl, hs5⟩ := hG;have hvl := refR_v hrf;have hml := refR_len hrf;rw [List.length_drop] at hml;have hs5' := Hd hs5;have hg5' := Hd (hg3.out.trans hg5)
    have hr2 : Hid ((textF f' (S.drop (q + m)) (o ++ v)).shift (q + m - k) = R) := Hd (by
     have := hr.out;rw [drop_at hx'.out, textF, if_neg j6'.out, if_pos j3'.out, hrf] at this;simp only at this;rw [Out.shift_shift, <- drop_at hx'.out, List.drop_drop] at this;rw [show q + m - k = q - k + m by omega]
     exact this)
    have hO2 : Hid (O ++ strOf v = strOf (o ++ v)) := Hd (by rw [hO.out, strOf_app]);have hvz : (strOf v).size = v.length := strOf_size' v;have e1 := add_run (B1 := O) (B2 := strOf v) (B3 := O ++ strOf v) rfl (by omega);have hsz2 : (O ++ strOf v).size = O.size + (strOf v).size := ByteArray.size_append;generalize O ++ strOf v = O2 at e1 hO2 hsz2;clear hs5 hg5 hrf;go_wp2_with fail
    go_roundg (S.length - (q + m) + 1)
    case measure => omega
    case rel => exact .inl ⟨q + m, f', o ++ v, O2, by omega, by omega, by omega, rfl, by omega, hO2, Hd (by have := hf.out; omega), hr2, hs5', hg5'⟩
  have j38 : ((x.toNat : Int) == 38) = false := by
   have hj : ¬ x = 38 := j3;rw [show (38 : Int) = ((38 : UInt8).toNat : Int) from rfl, byte_eq, decide_eq_false hj]
  have j3' := Hd j3;clear j3
  by_cases j13 : x = 13
  ·have k13 : ((x.toNat : Int) == 13) = true := by rw [j13]; rfl
   have hpf : Lib.hasPrefix (S.drop q) [93, 93, 62] = false := by
    rw [Bool.eq_false_iff];intro h;have := hp_iff.1 h 0 (by decide);rw [List.getElem?_drop, Nat.add_zero, hx'.out, j13] at this;exact absurd this (by decide)
   have hli : Hid ((textF f' (S.drop (q + line (S.drop q))) (o ++ [10])).shift (q + line (S.drop q) - k) = R) := Hd (by
    have := hr.out;rw [drop_at hx'.out, textF, if_neg j6'.out, if_neg j3'.out, if_pos j13, Out.shift_shift, <- drop_at hx'.out, List.drop_drop] at this;rw [show q + line (S.drop q) - k = q - k + line (S.drop q) by omega]
    exact this)
   rw [line_two hx'.out] at hli;have e10 := add_run (B1 := O) (B2 := ⟨#[10]⟩) (B3 := O ++ ⟨#[10]⟩) rfl (by show O.size + 1 <= _; omega);have hO10 : Hid (O ++ ⟨#[10]⟩ = strOf (o ++ [10])) := Hd (by rw [hO.out, <- strOf_app]; rfl);have hz10 : (O ++ ⟨#[10]⟩ : ByteArray).size = O.size + 1 := ByteArray.size_append;generalize O ++ ⟨#[10]⟩ = O10 at e10 hO10 hz10
   by_cases h10 : S[q + 1]? = some 10
   ·rw [if_pos ⟨j13, h10⟩] at hli;have hlt2 : q + 1 < S.length := (List.getElem?_eq_some_iff.1 h10).1;have hF2 : cF S (q + 1) = 10 := by rw [cF_at h10]; rfl
    have hF2' := Hd hF2;clear j13 h10 hF2;go_wp2_with fail;refine (rc_any wr b S q A c pl hs.out 0 (by omega)).mono ?_;rintro e w1 ⟨rfl, hbz⟩;have hs1 := Hd (hs.out.below hbz);have hg1 := Hd (hg.out.trans (grown_in (r := some b) hbz));rw [Nat.add_zero, hF'.out];clear hbz;clear c2;go_wp2_with fail;refine (rc_any w1 b S q A c pl hs1.out 0 (by omega)).mono ?_;rintro e w2 ⟨rfl, hbz⟩;have hs2 := Hd (hs1.out.below hbz);have hg2 := Hd (hg1.out.trans (grown_in (r := some b) hbz));rw [Nat.add_zero, hF'.out];clear hbz;go_wp2_with fail;refine (rc_any w2 b S q A c pl hs2.out 0 (by omega)).mono ?_;rintro e w3 ⟨rfl, hbz⟩;have hs3 := Hd (hs2.out.below hbz);have hg3 := Hd (hg2.out.trans (grown_in (r := some b) hbz));rw [Nat.add_zero, hF'.out];clear hbz;go_wp2_with fail;refine (rhas_any w3 b S q A c pl hs3.out [93, 93, 62] (by decide) (by omega)).mono ?_;rintro e w4 ⟨rfl, hb4⟩;have hs4 := Hd (hs3.out.below hb4);have hg4 := Hd (hg3.out.trans (grown_in (r := some b) hb4));rw [hpf];clear hb4 hs1 hg1 hs2 hg2 hs3 hg3;go_wp2_with fail;refine (rc_any w4 b S q A c pl hs4.out 0 (by omega)).mono ?_;rintro e w5 ⟨rfl, hbz⟩;have hs5 := Hd (hs4.out.below hbz);have hg5 := Hd (hg4.out.trans (grown_in (r := some b) hbz));rw [Nat.add_zero, hF'.out];clear hbz;go_wp2_with fail;refine (rc_any w5 b S q A c pl hs5.out 1 (by omega)).mono ?_;rintro e w6 ⟨rfl, hb6⟩;have hs6 := Hd (hs5.out.below hb6);have hg6 := Hd (hg5.out.trans (grown_in (r := some b) hb6));rw [hF2'.out];have d1 := hs6.out.c1;have g1 := hs6.out.frozen 1;have hset := hs6.out.set1 (q + 1);have hs7 := Hd hset.1;have hg7 := Hd (hg6.out.trans hset.2);have a1 := hs7.out.c1;have b1 := hs7.out.frozen 1;clear hb6 hset;go_wp2_with fail;have h8 := hs7.out.set1 (q + 2);have hg8 := hg7.out.trans h8.2
    go_roundg (S.length - (q + 2) + 1)
    case measure => omega
    case rel => exact .inl ⟨q + 2, f', o ++ [10], O10, by omega, by omega, by omega, rfl, by omega, hO10, Hd (by have := hf.out; omega), hli, Hd h8.1, Hd hg8⟩
   ·rw [if_neg (fun h => h10 h.2)] at hli
    have hF2 : (cF S (q + 1) == 10) = false := by
     rw [beq_eq_false_iff_ne];intro e;apply h10;unfold cF at e
     split at e
     ·cases e
     ·rename_i y hy
      rw [hy]
      congr 1
      exact UInt8.toNat_inj.1 (by show y.toNat = 10; omega)
    clear j13 h10;go_wp2_with fail;refine (rc_any wr b S q A c pl hs.out 0 (by omega)).mono ?_;rintro e w1 ⟨rfl, hbz⟩;have hs1 := Hd (hs.out.below hbz);have hg1 := Hd (hg.out.trans (grown_in (r := some b) hbz));rw [Nat.add_zero, hF'.out];clear hbz;clear c2;go_wp2_with fail;refine (rc_any w1 b S q A c pl hs1.out 0 (by omega)).mono ?_;rintro e w2 ⟨rfl, hbz⟩;have hs2 := Hd (hs1.out.below hbz);have hg2 := Hd (hg1.out.trans (grown_in (r := some b) hbz));rw [Nat.add_zero, hF'.out];clear hbz;go_wp2_with fail;refine (rc_any w2 b S q A c pl hs2.out 0 (by omega)).mono ?_;rintro e w3 ⟨rfl, hbz⟩;have hs3 := Hd (hs2.out.below hbz);have hg3 := Hd (hg2.out.trans (grown_in (r := some b) hbz));rw [Nat.add_zero, hF'.out];clear hbz;go_wp2_with fail;refine (rhas_any w3 b S q A c pl hs3.out [93, 93, 62] (by decide) (by omega)).mono ?_;rintro e w4 ⟨rfl, hb4⟩;have hs4 := Hd (hs3.out.below hb4);have hg4 := Hd (hg3.out.trans (grown_in (r := some b) hb4));rw [hpf];clear hb4 hs1 hg1 hs2 hg2 hs3 hg3;go_wp2_with fail;refine (rc_any w4 b S q A c pl hs4.out 0 (by omega)).mono ?_;rintro e w5 ⟨rfl, hbz⟩;have hs5 := Hd (hs4.out.below hbz);have hg5 := Hd (hg4.out.trans (grown_in (r := some b) hbz));rw [Nat.add_zero, hF'.out];clear hbz;go_wp2_with fail;refine (rc_any w5 b S q A c pl hs5.out 1 (by omega)).mono ?_;rintro e w6 ⟨rfl, hb6⟩;have hs6 := Hd (hs5.out.below hb6);have hg6 := Hd (hg5.out.trans (grown_in (r := some b) hb6));have d1 := hs6.out.c1;have g1 := hs6.out.frozen 1;clear hb6;go_wp2_with fail;have h8 := hs6.out.set1 (q + 1);have hg8 := hg6.out.trans h8.2
    go_roundg (S.length - (q + 1) + 1)
    case measure => omega
    case rel => exact .inl ⟨q + 1, f', o ++ [10], O10, by omega, by omega, by omega, rfl, by omega, hO10, Hd (by have := hf.out; omega), hli, Hd h8.1, Hd hg8⟩
  have k13 : ((x.toNat : Int) == 13) = false := by rw [show (13 : Int) = ((13 : UInt8).toNat : Int) from rfl, byte_eq, decide_eq_false j13]
  have hOx : Hid (O ++ strOf [x] = strOf (o ++ [x])) := Hd (by rw [hO.out, strOf_app]);have hzx : (O ++ strOf [x] : ByteArray).size = O.size + 1 := ByteArray.size_append;have ex := add_run (B1 := O) (B2 := strOf [x]) (B3 := O ++ strOf [x]) rfl (by show O.size + 1 <= _; omega);generalize O ++ strOf [x] = Ox at ex hOx hzx;obtain ⟨X, hX⟩ : ∃ X, strOf [x] = X := ⟨_, rfl⟩;rw [hX] at ex;have hX' := Hd hX;clear hX;have hx8 : (x.toNat : Int) % 256 = (x.toNat : Int) := by have := x.toNat_lt; omega
  have hlt0 : q + 1 <= S.length := hlt
  cases hpf : Lib.hasPrefix (S.drop q) [93, 93, 62] with
  | true =>
   have hRb : Hid (R = .bad 2 (q - k)) := Hd (by
    have := hr.out;rw [drop_at hx'.out, textF, if_neg j6'.out, if_neg j3'.out, if_neg j13, if_pos (by rw [<- drop_at hx'.out]; exact hpf)] at this
    exact this.symm)
   clear j13;go_wp2_with fail;refine (rc_any wr b S q A c pl hs.out 0 (by omega)).mono ?_;rintro e w1 ⟨rfl, hbz⟩;have hs1 := Hd (hs.out.below hbz);have hg1 := Hd (hg.out.trans (grown_in (r := some b) hbz));rw [Nat.add_zero, hF'.out];clear hbz;clear c2;go_wp2_with fail;refine (rc_any w1 b S q A c pl hs1.out 0 (by omega)).mono ?_;rintro e w2 ⟨rfl, hbz⟩;have hs2 := Hd (hs1.out.below hbz);have hg2 := Hd (hg1.out.trans (grown_in (r := some b) hbz));rw [Nat.add_zero, hF'.out];clear hbz;go_wp2_with fail;refine (rc_any w2 b S q A c pl hs2.out 0 (by omega)).mono ?_;rintro e w3 ⟨rfl, hbz⟩;have hs3 := Hd (hs2.out.below hbz);have hg3 := Hd (hg2.out.trans (grown_in (r := some b) hbz));rw [Nat.add_zero, hF'.out];clear hbz;go_wp2_with fail;refine (rhas_any w3 b S q A c pl hs3.out [93, 93, 62] (by decide) (by omega)).mono ?_;rintro e w4 ⟨rfl, hb4⟩;have hs4 := Hd (hs3.out.below hb4);have hg4 := Hd (hg3.out.trans (grown_in (r := some b) hb4));rw [hpf];clear hb4 hs1 hg1 hs2 hg2 hs3 hg3;have d0 := hs4.out.c1;go_wp2_with fail;refine (rbad_any w4 b S q A c pl hs4.out 2 q).mono ?_;rintro e wb ⟨rfl, hsb, hgb⟩;have hsb' := Hd hsb;have hgb' := Hd (hg4.out.trans hgb);clear hsb hgb d0;go_wp2_with fail;refine (rc_any wb b S q A c _ hsb'.out 0 (by omega)).mono ?_;rintro e w5 ⟨rfl, hbz⟩;have hs5 := Hd (hsb'.out.below hbz);have hg5 := Hd (hgb'.out.trans (grown_in (r := some b) hbz));rw [Nat.add_zero, hF'.out];clear hbz;go_wp2_with fail;refine (rc_any w5 b S q A c _ hs5.out 0 (by omega)).mono ?_;rintro e w6 ⟨rfl, hbz⟩;have hs6 := Hd (hs5.out.below hbz);have hg6 := Hd (hg5.out.trans (grown_in (r := some b) hbz));rw [Nat.add_zero, hF'.out];clear hbz;have hcv := conv_one w6 x;rw [hX'.out] at hcv;have hal := below_alloc w6 (.cells #[.int .u8 (x.toNat : Int)] 5);have hs7 := Hd (hs6.out.below hal);have hg7 := Hd (hg6.out.trans (grown_in (r := some b) hal));have d1 := hs7.out.c1;have g1 := hs7.out.frozen 1;clear hal;go_wp2_with fail;have h8 := hs7.out.set1 (q + 1)
   have hg8 := hg7.out.trans h8.2
   go_roundg 0
   case measure => omega
   case rel => exact .inr ⟨q + 1, 2, q - k, Ox, by decide, hlt0, rfl, by omega, hRb, Hd (by rw [show k + (q - k) = q by omega]; exact h8.1), Hd hg8⟩
  | false =>
   have hrr : Hid ((textF f' (S.drop (q + 1)) (o ++ [x])).shift (q + 1 - k) = R) := Hd (by
    have := hr.out;rw [drop_at hx'.out, textF, if_neg j6'.out, if_neg j3'.out, if_neg j13, if_neg (by rw [<- drop_at hx'.out, hpf]; decide), Out.shift_shift] at this;rw [show q + 1 - k = q - k + 1 by omega]
    exact this)
   clear j13;go_wp2_with fail;refine (rc_any wr b S q A c pl hs.out 0 (by omega)).mono ?_;rintro e w1 ⟨rfl, hbz⟩;have hs1 := Hd (hs.out.below hbz);have hg1 := Hd (hg.out.trans (grown_in (r := some b) hbz));rw [Nat.add_zero, hF'.out];clear hbz;clear c2;go_wp2_with fail;refine (rc_any w1 b S q A c pl hs1.out 0 (by omega)).mono ?_;rintro e w2 ⟨rfl, hbz⟩;have hs2 := Hd (hs1.out.below hbz);have hg2 := Hd (hg1.out.trans (grown_in (r := some b) hbz));rw [Nat.add_zero, hF'.out];clear hbz;go_wp2_with fail;refine (rc_any w2 b S q A c pl hs2.out 0 (by omega)).mono ?_;rintro e w3 ⟨rfl, hbz⟩;have hs3 := Hd (hs2.out.below hbz);have hg3 := Hd (hg2.out.trans (grown_in (r := some b) hbz));rw [Nat.add_zero, hF'.out];clear hbz;go_wp2_with fail;refine (rhas_any w3 b S q A c pl hs3.out [93, 93, 62] (by decide) (by omega)).mono ?_;rintro e w4 ⟨rfl, hb4⟩;have hs4 := Hd (hs3.out.below hb4);have hg4 := Hd (hg3.out.trans (grown_in (r := some b) hb4));rw [hpf];clear hb4 hs1 hg1 hs2 hg2 hs3 hg3;go_wp2_with fail;refine (rc_any w4 b S q A c pl hs4.out 0 (by omega)).mono ?_;rintro e w5 ⟨rfl, hbz⟩;have hs5 := Hd (hs4.out.below hbz);have hg5 := Hd (hg4.out.trans (grown_in (r := some b) hbz));rw [Nat.add_zero, hF'.out];clear hbz;go_wp2_with fail;refine (rc_any w5 b S q A c pl hs5.out 0 (by omega)).mono ?_;rintro e w6 ⟨rfl, hbz⟩;have hs6 := Hd (hs5.out.below hbz);have hg6 := Hd (hg5.out.trans (grown_in (r := some b) hbz));rw [Nat.add_zero, hF'.out];clear hbz;have hcv := conv_one w6 x;rw [hX'.out] at hcv;have hal := below_alloc w6 (.cells #[.int .u8 (x.toNat : Int)] 5);have hs7 := Hd (hs6.out.below hal);have hg7 := Hd (hg6.out.trans (grown_in (r := some b) hal));have d1 := hs7.out.c1;have g1 := hs7.out.frozen 1;clear hal;go_wp2_with fail;have h8 := hs7.out.set1 (q + 1);have hg8 := hg7.out.trans h8.2
   go_roundg (S.length - (q + 1) + 1)
   case measure => omega
   case rel => exact .inl ⟨q + 1, f', o ++ [x], Ox, by omega, by omega, by omega, rfl, by omega, hOx, Hd (by have := hf.out; omega), hrr, Hd h8.1, Hd hg8⟩
end
end Go.Proofs.YtokdnhdfmgfkeaaGreatDoor.Xl
end

section
namespace Go.Proofs.YtokdnhdfmgfkeaaGreatDoor.Xl
open Go.RowKit UtfW Er
def Stp {α : Type} (x : Out α) (q : Nat) (e0 : Int) (pl : Nat) (v : α) (q' : Nat) (e' : Int) (pl' : Nat) : Prop :=
 (e0 ≠ 0 -> e' = e0 /\ pl' = pl /\ q' = q) /\ (e0 = 0 -> (∃ cd o, x = .bad cd o /\ e' = cd /\ cd ≠ 0 /\ pl' = q + o) \/ (∃ n, x = .ok v n /\ e' = 0 /\ pl' = pl /\ q' = q + n))
def GivesA {α : Type} (w : World) (b : Nat) (S : Tx) (q : Nat) (A : Option Addr) (c : Nat) (e0 : Int) (pl : Nat) (V : α -> Value) (x : Out α) (e : Ending) (w' : World) : Prop :=
 ∃ v q' e' pl', e = .returned (V v) /\ w.grownBy w' (some b) /\ q' <= S.length /\ Sr w' b S q' A c e' pl' /\ Stp x q e0 pl v q' e' pl'
section
variable (w : World) (b : Nat) (S : Tx) (q : Nat) (A : Option Addr) (c : Nat)
theorem gives_all {α : Type} {V : α -> Value} {D : Value -> Prop} {x : Out α} {pl : Nat} {d : α} (hd : ∀ v, D v -> v = V d) (hx : ∀ a n, x = .ok a n -> q + n <= S.length) {e : Ending} {w' : World} (h : GivesR w b S q A c pl D V x e w') : GivesA w b S q A c 0 pl V x e w' := by
 obtain ⟨hg, h⟩ := h
 cases x with
 | bad cd o =>
  obtain ⟨hc, v, q', rfl, hv, hq', hs⟩ := h;exact ⟨d, q', cd, q + o, by rw [hd v hv], hg, hq', hs, fun h0 => absurd rfl h0, fun _ => .inl ⟨cd, o, rfl, rfl, hc, rfl⟩⟩
 | ok a n =>
  obtain ⟨rfl, hs⟩ := h;exact ⟨a, q + n, 0, pl, rfl, hg, hx a n rfl, hs, fun h0 => absurd rfl h0, fun _ => .inr ⟨n, rfl, rfl, rfl, rfl⟩⟩
theorem rname_all {e0 : Int} (pl : Nat) (h : Sr w b S q A c e0 pl) (hq : q <= S.length) (hS : S.length <= 65536) :
  Calls Tryz.prog 141 #[.pointer (some ⟨b, 0, none⟩)] w fun e w' => GivesA w b S q A c e0 pl (fun v => .string (strOf v)) (name (S.drop q)) e w' := by
 by_cases h0 : e0 = 0
 ·subst h0;refine (rname_any w b S q A c pl h hq (by omega)).mono ?_;intro e w' hG;exact gives_all w b S q A c (d := []) (fun v hv => Eq.trans hv rfl) (fun a n e => by have h := name_len e; rw [List.length_drop] at h; omega) hG
 ·refine (rname_idle w b S q A c pl h h0).mono ?_;rintro e w' ⟨rfl, rfl⟩;exact ⟨[], q, e0, pl, rfl, World.grownBy.refl _ _, hq, h, fun _ => ⟨rfl, rfl, rfl⟩, fun h => absurd h h0⟩
theorem rvalue_all {e0 : Int} (pl : Nat) (h : Sr w b S q A c e0 pl) (hq : q <= S.length) (hS : S.length <= 65536) :
  Calls Tryz.prog 168 #[.pointer (some ⟨b, 0, none⟩)] w fun e w' => GivesA w b S q A c e0 pl (fun v => .string (strOf v)) (value (S.drop q)) e w' := by
 by_cases h0 : e0 = 0
 ·subst h0;refine (rvalue_any w b S q A c pl h hq (by omega)).mono ?_;intro e w' hG;exact gives_all w b S q A c (d := []) (fun v hv => Eq.trans hv rfl) (fun a n e => by have h := value_len e; rw [List.length_drop] at h; omega) hG
 ·refine (rvalue_idle w b S q A c pl h h0).mono ?_;rintro e w' ⟨rfl, rfl⟩;exact ⟨[], q, e0, pl, rfl, World.grownBy.refl _ _, hq, h, fun _ => ⟨rfl, rfl, rfl⟩, fun h => absurd h h0⟩
theorem rmust_all {e0 : Int} (pl : Nat) (h : Sr w b S q A c e0 pl) (hq : q <= S.length) (hS : S.length <= 65536) (x : UInt8) :
  Calls Tryz.prog 143 #[.pointer (some ⟨b, 0, none⟩), .int .u8 (x.toNat : Int)] w fun e w' => GivesA w b S q A c e0 pl (fun _ => .tuple #[]) (eat [x] (S.drop q)) e w' := by
 by_cases h0 : e0 = 0
 ·subst h0;refine (rmust_any w b S q A c pl h hq (by omega) x).mono ?_;intro e w' hG;exact gives_all w b S q A c (d := ()) (fun v hv => Eq.trans hv rfl) (fun a n e => by have h := eat_len (show eat [x] (S.drop q) = .ok () n from e); rw [List.length_drop] at h; omega) hG
 ·refine (rmust_idle w b S q A c pl h h0 _).mono ?_;rintro e w' ⟨rfl, rfl⟩;exact ⟨(), q, e0, pl, rfl, World.grownBy.refl _ _, hq, h, fun _ => ⟨rfl, rfl, rfl⟩, fun h => absurd h h0⟩
theorem rblanks_all {e0 : Int} (pl : Nat) (h : Sr w b S q A c e0 pl) (hq : q <= S.length) (hS : S.length <= 65536) :
  Calls Tryz.prog 142 #[.pointer (some ⟨b, 0, none⟩)] w fun e w' => ∃ n, e = .returned (.int .i64 ((n : Nat) : Int)) /\ w.grownBy w' (some b) /\ q + n <= S.length /\ Sr w' b S (q + n) A c e0 pl /\ (e0 = 0 -> n = blanks (S.drop q)) /\ (e0 ≠ 0 -> n = 0) := by
 by_cases h0 : e0 = 0
 ·subst h0;refine (rblanks_any w b S q A c pl h hq (by omega)).mono ?_;rintro e w' ⟨rfl, hs, hg⟩;have hl := blanks_le (S.drop q);rw [List.length_drop] at hl;exact ⟨_, rfl, hg, by omega, hs, fun _ => rfl, fun h => absurd rfl h⟩
 ·refine (rblanks_idle w b S q A c pl h h0).mono ?_;rintro e w' ⟨rfl, rfl⟩;exact ⟨0, rfl, World.grownBy.refl _ _, by omega, h, fun h => absurd h h0, fun _ => rfl⟩
theorem rbad_all {e0 : Int} (pl : Nat) (h : Sr w b S q A c e0 pl) (cd : Int) (at_ : Nat) :
  Calls Tryz.prog 103 #[.pointer (some ⟨b, 0, none⟩), .int .i64 cd, .int .i64 (at_ : Nat)] w fun e w' => e = .returned (.tuple #[]) /\ w.grownBy w' (some b) /\ ∃ e' pl', Sr w' b S q A c e' pl' /\ (e0 = 0 -> e' = cd /\ pl' = at_) /\ (e0 ≠ 0 -> e' = e0 /\ pl' = pl) := by
 by_cases h0 : e0 = 0
 ·subst h0;refine (rbad_any w b S q A c pl h cd at_).mono ?_;rintro e w' ⟨rfl, hs, hg⟩;exact ⟨rfl, hg, cd, at_, hs, fun _ => ⟨rfl, rfl⟩, fun h => absurd rfl h⟩
 ·refine (rbad_idle w b S q A c pl h h0 cd at_).mono ?_;rintro e w' ⟨rfl, rfl⟩;exact ⟨rfl, World.grownBy.refl _ _, e0, pl, h, fun h => absurd h h0, fun _ => ⟨rfl, rfl⟩⟩
end
theorem Sr.far {w wr w' : World} {b : Nat} {S : Tx} {k q : Nat} {A : Option Addr} {c : Nat} {e e' : Int} {pl pl' : Nat} (h : Sr w b S k A c e pl) (hg : w.grownBy wr (some b)) (hr : Sr wr b S q A c e' pl') (hb : Below w.heap.size wr w') : Sr w' b S q A c e' pl' /\ w.grownBy w' (some b) := by
 have h2 : w.grownBy w' (some b) := ⟨hb.os.trans hg.os, hb.tape.trans hg.tape, hb.output.trans hg.output, Nat.le_trans hg.size hb.size, fun j hj hne => (hb.block j hj).trans (hg.block j hj hne)⟩;exact ⟨h.on h2 ((hb.block b h.lt).trans hr.blk), h2⟩
structure TgF (w0 : World) (b T2 T0 B0 : Nat) (S : Tx) (k0 : Nat) (A : Option Addr) (c : Nat) (pl0 : Nat) : Prop where
 h0 : Sr w0 b S k0 A c 0 pl0
 t2 : w0.heap.size <= T2
 t0 : w0.heap.size <= T0
 ne : T0 ≠ T2
 b2 : T2 < B0
 b0 : T0 < B0
structure TgS (w0 w : World) (b T2 T0 B0 : Nat) (S : Tx) (A : Option Addr) (c : Nat) (q : Nat) (e : Int) (pl : Nat) (kd at_ : Int) (nm tx : ByteArray) (va : Value) : Prop where
 sr : Sr w b S q A c e pl
 gr : w0.grownBy w (some b)
 sz : B0 <= w.heap.size
 tb : Tb w T2 kd at_ nm tx va
 rb : Tb w T0 0 0 ⟨#[]⟩ ⟨#[]⟩ (.slice none 0 0)
section
variable {w0 w w' : World} {b T2 T0 B0 : Nat} {S : Tx} {A : Option Addr} {c q q' : Nat} {e e' : Int} {pl pl' : Nat} {kd at_ kd' : Int} {nm tx nm' tx' : ByteArray} {va va' : Value} {k0 pl0 : Nat}
theorem TgF.lt (F : TgF w0 b T2 T0 B0 S k0 A c pl0) : b < w0.heap.size := F.h0.lt
theorem TgF.b_2 (F : TgF w0 b T2 T0 B0 S k0 A c pl0) : T2 ≠ b := by have := F.lt; have := F.t2; omega
theorem TgF.b_0 (F : TgF w0 b T2 T0 B0 S k0 A c pl0) : T0 ≠ b := by have := F.lt; have := F.t0; omega
theorem TgF.bB (F : TgF w0 b T2 T0 B0 S k0 A c pl0) : b < B0 := by have := F.lt; have := F.t0; have := F.b0; omega
theorem TgF.wB (F : TgF w0 b T2 T0 B0 S k0 A c pl0) : w0.heap.size <= B0 := by have := F.t0; have := F.b0; omega
theorem TgS.on (F : TgF w0 b T2 T0 B0 S k0 A c pl0) (h : TgS w0 w b T2 T0 B0 S A c q e pl kd at_ nm tx va) (hg : w.grownBy w' (some b)) (hs : Sr w' b S q' A c e' pl') : TgS w0 w' b T2 T0 B0 S A c q' e' pl' kd at_ nm tx va :=
 ⟨hs, h.gr.trans hg, Nat.le_trans h.sz hg.size, h.tb.on hg F.b_2, h.rb.on hg F.b_0⟩
theorem TgS.below (h : TgS w0 w b T2 T0 B0 S A c q e pl kd at_ nm tx va) (hb : Below w.heap.size w w') : TgS w0 w' b T2 T0 B0 S A c q e pl kd at_ nm tx va :=
 ⟨h.sr.below hb, h.gr.trans (grown_in hb), Nat.le_trans h.sz hb.size, h.tb.below hb, h.rb.below hb⟩
theorem TgS.far (F : TgF w0 b T2 T0 B0 S k0 A c pl0) (h : TgS w0 w b T2 T0 B0 S A c q e pl kd at_ nm tx va) (hb : Below w0.heap.size w w') (htb : Tb w' T2 kd' at_ nm' tx' va') (hrb : Tb w' T0 0 0 ⟨#[]⟩ ⟨#[]⟩ (.slice none 0 0)) : TgS w0 w' b T2 T0 B0 S A c q e pl kd' at_ nm' tx' va' := by
 have hf := F.h0.far h.gr h.sr hb;exact ⟨hf.1, hf.2, Nat.le_trans h.sz hb.size, htb, hrb⟩
theorem TgS.set0 (F : TgF w0 b T2 T0 B0 S k0 A c pl0) (h : TgS w0 w b T2 T0 B0 S A c q e pl kd at_ nm tx va) (kd' : Int) : TgS w0 (w.setCell ⟨T2, 0, none⟩ (.int .i64 kd')) b T2 T0 B0 S A c q e pl kd' at_ nm tx va :=
 h.far F ((Below.refl _ w).setCell (p := ⟨T2, 0, none⟩) F.t2 _) (tb_set0 h.tb) (h.rb.on (grown_set w ⟨T2, 0, none⟩ _) F.ne)
theorem TgS.set2 (F : TgF w0 b T2 T0 B0 S k0 A c pl0) (h : TgS w0 w b T2 T0 B0 S A c q e pl kd at_ nm tx va) (nm' : ByteArray) : TgS w0 (w.setCell ⟨T2, 2, none⟩ (.string nm')) b T2 T0 B0 S A c q e pl kd at_ nm' tx va :=
 h.far F ((Below.refl _ w).setCell (p := ⟨T2, 2, none⟩) F.t2 _) (tb_set2 h.tb) (h.rb.on (grown_set w ⟨T2, 2, none⟩ _) F.ne)
theorem TgS.set3 (F : TgF w0 b T2 T0 B0 S k0 A c pl0) (h : TgS w0 w b T2 T0 B0 S A c q e pl kd at_ nm tx va) (tx' : ByteArray) : TgS w0 (w.setCell ⟨T2, 3, none⟩ (.string tx')) b T2 T0 B0 S A c q e pl kd at_ nm tx' va :=
 h.far F ((Below.refl _ w).setCell (p := ⟨T2, 3, none⟩) F.t2 _) (tb_set3 h.tb) (h.rb.on (grown_set w ⟨T2, 3, none⟩ _) F.ne)
theorem TgS.set4 (F : TgF w0 b T2 T0 B0 S k0 A c pl0) (h : TgS w0 w b T2 T0 B0 S A c q e pl kd at_ nm tx va) (va' : Value) : TgS w0 (w.setCell ⟨T2, 4, none⟩ va') b T2 T0 B0 S A c q e pl kd at_ nm tx va' :=
 h.far F ((Below.refl _ w).setCell (p := ⟨T2, 4, none⟩) F.t2 _) (tb_set4 h.tb) (h.rb.on (grown_set w ⟨T2, 4, none⟩ _) F.ne)
theorem TgS.set1 (F : TgF w0 b T2 T0 B0 S k0 A c pl0) (h : TgS w0 w b T2 T0 B0 S A c q e pl kd at_ nm tx va) (q' : Nat) : TgS w0 (w.setCell ⟨b, 1, none⟩ (.int .i64 (q' : Nat))) b T2 T0 B0 S A c q' e pl kd at_ nm tx va :=
 h.on F (h.sr.set1 q').2 (h.sr.set1 q').1
theorem TgS.put {E : Nat} {ats : List At} (F : TgF w0 b T2 T0 B0 S k0 A c pl0) (h : TgS w0 w b T2 T0 B0 S A c q e pl kd at_ nm tx va) (ho : OwS AtEl 2 w B0 E va ats) :
  Tb (putTok w T0 kd at_ nm tx va) T0 kd at_ nm tx va /\ w0.grownBy (putTok w T0 kd at_ nm tx va) (some b) /\ Sr (putTok w T0 kd at_ nm tx va) b S q A c e pl /\ OwS AtEl 2 (putTok w T0 kd at_ nm tx va) w0.heap.size E va ats := by
 have hfar := F.h0.far h.gr h.sr (below_put (Below.refl w0.heap.size w) F.t0 kd at_ nm tx va);refine ⟨tb_set h.rb, hfar.2, hfar.1, ?_⟩;refine OwS.low (OwS.kept ho (grown_put w T0 kd at_ nm tx va) ?_ AtEl.to) F.wB
 cases hv : va.ownBlock with
 | none => exact .inl rfl
 | some j =>
  right;have := (ho.lt j hv).1;have := F.b0;intro e;injection e with e;omega
end
def GivesRT (w : World) (b : Nat) (S : Tx) (k : Nat) (A : Option Addr) (c : Nat) (pl : Nat) (at0 : Nat) (x : Out Tok) (e : Ending) (w' : World) : Prop :=
 ∃ t va, e = .returned (tkV t va) /\ w.grownBy w' (some b) /\ OwS AtEl 2 w' w.heap.size 55 va t.attrs /\ t.attrs.length <= 65537 /\ ∃ q' e' pl', Sr w' b S q' A c e' pl' ∧
  match x with
  | .bad cd o => e' = cd /\ cd ≠ 0 /\ pl' = k + o
  | .ok t' n => e' = 0 /\ pl' = pl /\ q' = k + n /\ t = { t' with at_ := at0 }
end Go.Proofs.YtokdnhdfmgfkeaaGreatDoor.Xl
end
