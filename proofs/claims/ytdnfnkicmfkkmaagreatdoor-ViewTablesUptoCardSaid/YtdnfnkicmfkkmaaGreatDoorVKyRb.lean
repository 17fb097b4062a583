/- The document's functions on rows of texts: Texts, Find, Frontier, Rules. -/
import Derived.Test.YtdnfnkicmfkkmaaGreatDoorVXlPlaces
import Derived.Test.YtdnfnkicmfkkmaaGreatDoorVKyPcs
import Derived.Lib.OthersKept
import Derived.Shelf.Unicode.ValidAny
import Derived.Shelf.Strings.Replace
import Derived.Shelf.Strings.OnBuilder
import Derived.Shelf.Strings.SlTrimAscii
import Derived.Test.YtdnfnkicmfkkmaaGreatDoorVUtfEnc
import Derived.Deep.QuietTactic
import Derived.BigQuiet
import Derived.Test.YtdnfnkicmfkkmaaGreatDoorVNoOrd
import Derived.Shelf.Strings.Split
import Derived.Shelf.Strings.SplitShaped
import Derived.Shelf.Strings.Cut
import Derived.Shelf.Strings.Prefix
import Derived.Shelf.Small.Wraps
import Derived.Shelf.Small.Strs
import Derived.Shelf.Slices.Turned
import Derived.Shelf.Slices.Equal
import Derived.Shelf.Slices.Empties2
import Derived.Shelf.Slices.Clone
import Derived.Shelf.Lay
import Derived.Ground.NamesProg
import Derived.Ground.Names2Prog
import Derived.Test.YtdnfnkicmfkkmaaGreatDoorVPlan2
import Derived.Laws.ResultCell
import Derived.Laws.Rows
import Derived.Deep.Heap
import Derived.Lib.QuietBelow
set_option linter.unusedVariables false
set_option linter.unusedSimpArgs false
section
namespace Go.Proofs.YtdnfnkicmfkkmaaGreatDoor.Ky
open UtfW
theorem ok_high : ∀ n : Fin 256, 128 <= n.val -> okb (UInt8.ofNat n.val) = true := by decide +kernel
theorem ok_low : ∀ n : Fin 128, GoesOn (n.val : Nat) = true -> okb (UInt8.ofNat n.val) = true := by decide +kernel
theorem ok_rune {v : Nat} (h : GoesOn (v : Nat) = true) : ∀ b ∈ encB (v : Nat), okb b = true := by
 have hi : ∀ n : Nat, 128 <= n -> n < 256 -> okb (UInt8.ofNat n) = true := fun n h1 h2 => ok_high ⟨n, h2⟩ h1
 intro b hb;rcases enc_cases (isRune_of_char (char_of_goesOn h)) with ⟨a, e⟩ | ⟨a, c, e⟩ | ⟨a, c, _, e⟩ | ⟨a, c, e⟩
 ·rw [encB_of e] at hb;simp at hb;subst hb;exact ok_low ⟨v, a⟩ h
 ·rw [encB_of e] at hb;simp only [List.map_cons, List.map_nil, List.mem_cons, List.not_mem_nil, or_false] at hb;rcases hb with rfl | rfl
  ·exact hi _ (by omega) (by omega)
  ·exact hi _ (by omega) (by omega)
 ·rw [encB_of e] at hb;simp only [List.map_cons, List.map_nil, List.mem_cons, List.not_mem_nil, or_false] at hb;rcases hb with rfl | rfl | rfl
  ·exact hi _ (by omega) (by omega)
  ·exact hi _ (by omega) (by omega)
  ·exact hi _ (by omega) (by omega)
 ·rw [encB_of e] at hb;simp only [List.map_cons, List.map_nil, List.mem_cons, List.not_mem_nil, or_false] at hb;rcases hb with rfl | rfl | rfl | rfl
  ·exact hi _ (by omega) (by omega)
  ·exact hi _ (by omega) (by omega)
  ·exact hi _ (by omega) (by omega)
  ·exact hi _ (by omega) (by omega)
theorem ok_runes {rs : List Nat} (h : ∀ v ∈ rs, GoesOn (v : Nat) = true) : ∀ b ∈ E rs, okb b = true := by
 intro b hb;unfold E at hb;obtain ⟨x, hx, hb⟩ := List.mem_flatten.1 hb;obtain ⟨v, hv, rfl⟩ := List.mem_map.1 hx;exact ok_rune (h v hv) b hb
theorem names : Names nameR := fun s h => by
 unfold nameR at h
 cases hr : runesW s 0 with
 | none => rw [hr] at h; cases h
 | some rs =>
  rw [hr] at h
  cases rs with
  | nil => cases h
  | cons r rs =>
   simp only [Bool.and_eq_true, List.all_eq_true] at h;have hs := (runesW_sound s s.length 0 (r :: rs) (by omega) (Nat.zero_le _) hr).1;rw [List.drop_zero] at hs;refine ⟨fun e => ?_, ?_⟩
   ·rw [e, runesW_end (by simp)] at hr;cases hr
   ·rw [hs];refine ok_runes fun v hv => ?_
    rcases List.mem_cons.1 hv with rfl | hv
    ·exact h.2.1
    ·exact h.2.2 v hv
end Go.Proofs.YtdnfnkicmfkkmaaGreatDoor.Ky
end

section
namespace Go.Proofs
open Go.Shelf Go.RowKit
end Go.Proofs
namespace Go.Proofs.YtdnfnkicmfkkmaaGreatDoor.UtfW
open Go.RowKit
def OwI (w : World) (B E : Nat) (v : Value) (rs : List Nat) : Prop := w.ownsRow B E 1 v rs.length (rs.map fun r => Value.int .i32 (r : Nat))
theorem OwI.nil (w : World) (B E : Nat) : OwI w B E (.slice none 0 0) [] := World.ownsRow_nil w B E 1
theorem OwI.below {w w' : World} {B E : Nat} {v : Value} {rs : List Nat} (h1 : OwI w B E v rs) (hb : Below w.heap.size w w') : OwI w' B E v rs :=
 World.ownsRow.kept (row := none) h1 ⟨hb.os, hb.tape, hb.output, hb.size, fun k hk _ => hb.block k hk⟩ (by
  rcases h1.2 with ⟨rfl, _⟩ | ⟨g, cap, cur, rfl, _⟩
  ·exact .inl rfl
  ·right; simp [Value.ownBlock])
theorem OwI.rd {w : World} {B E : Nat} {A : Option Addr} {n c : Nat} {rs : List Nat} (h : OwI w B E (.slice A n c) rs) : Rd w A n c (rs.map fun r => Value.int .i32 (r : Nat)) := by
 have hn : n = rs.length := by
  rcases h.2 with ⟨hv, h0⟩ | ⟨g, cap, cur, hv, _⟩
  ·injection hv with _ h2 _; omega
  ·injection hv
 subst hn;exact rd_of_own h
section
variable {P : Program} {ops : Array Oper} {rest : List Oper} {o : Oper} {a : Act} {Q : Exit -> Act -> World -> Prop}
theorem append_rune (w : World) (t e : TypeId) (ht : P.underlying t = some (.slice e))
  (hinfo : (P.info? e).map (fun i => (i.zero, i.size, i.bytes)) = some (some (.int .i32 0), 1, 4))
  (hgd : o.guard = none) (s x : Operand)
  (ho : o.op = .call { callee := .builtin .append, args := #[s, x], argTypes := #[t, t] })
  (B : Nat) (v : Value) (la : List Nat) (hs : a.eval s = v) (hown : OwI w B e v la)
  (A : Option Addr) (c : Nat) (r : Nat) (hx : a.eval x = .slice A 1 c) (hr : Rd w A 1 c [.int .i32 (r : Nat)])
  (N : Nat) (hN : la.length + 1 = N) (hsz : N <= 35184372088832) (hB : B <= w.heap.size)
  (h : ∀ A' c' w', OwI w' B e (.slice A' N c') (la ++ [r]) -> w.grownBy w' v.ownBlock -> Below B w w' -> wpList P ops Q rest (a.put o.dst (.slice A' N c')) w') :
  wpList P ops Q (o :: rest) a w := by
 refine wpList_append_rd w hgd s x t ho B e (.int .i32 0) 4 ht hinfo rfl v la.length (la.map fun r => Value.int .i32 (r : Nat)) hs hown A 1 c [.int .i32 (r : Nat)] hx hr (fun u hu => ?_) (by omega) (by omega) hB ?_
 ·rw [List.mem_singleton.1 hu];rfl
 intro A' c' w' h1 h2 h3 _;rw [hN] at h1 ⊢;refine h A' c' w' ?_ h2 h3;unfold OwI;rw [List.map_append, List.length_append, show la.length + [r].length = N from hN];exact h1
end
theorem i32_info : (Tryz.prog.info? 21).map (fun i => (i.zero, i.size, i.bytes)) = some (some (.int .i32 0), 1, 4) := by kernel_rfl
theorem bs_convert (w : World) (s : ByteArray) (hs : s.size <= 281474976710656) :
  Bs (Lib.bytesWorld w 5 s) (some ⟨w.heap.size, 0, none⟩) s.size (grownCap w s.size 0 5) s.data.toList /\ Below w.heap.size w (Lib.bytesWorld w 5 s) := by
 have hl : s.data.toList.length = s.size := by rw [Array.length_toList]; rfl
 refine ⟨{ len := by rw [bv_length, hl], le := grownCap_ge _ _ _ _, max := ?_, nil := (fun h => by cases h), cell := fun h0 => ⟨w.heap.size, 0, rfl, by rw [Lib.bytesWorld_size]; omega, ?_⟩ }, ?_⟩
 ·have := grownCap_le_maxLen w s.size 0 5 (by unfold maxLen; omega);unfold maxLen at this;omega
 ·intro j u hu;obtain ⟨x, hx, rfl⟩ := bv_get hu;have hj : j < s.size := by rw [<- hl]; exact (List.getElem?_eq_some_iff.1 hx).1
  rw [Nat.zero_add, Lib.bytesWorld_cell w 5 s j hj, List.getD_eq_getElem?_getD, hx];rfl
 ·exact ⟨rfl, rfl, rfl, by rw [Lib.bytesWorld_size]; omega, fun k hk => Lib.bytesWorld_at_old w 5 s k hk⟩
end Go.Proofs.YtdnfnkicmfkkmaaGreatDoor.UtfW
end

section

end

section
namespace Go.Proofs.YtdnfnkicmfkkmaaGreatDoor.UtfW
open Go.RowKit
theorem rd_one (w : World) (v : Value) (E : TypeId) : Rd (w.alloc (.cells #[v] E)) (some ⟨w.heap.size, 0, none⟩) 1 1 [v] :=
  { len := rfl, le := Nat.le_refl _, max := by omega, nil := (fun h => by cases h), cell := fun _ => ⟨w.heap.size, 0, rfl, by simp, fun j u hu => by
    obtain rfl : j = 0 := by have := (List.getElem?_eq_some_iff.1 hu).1; simp at this; omega
    simp at hu;subst hu
    exact World.cell?_alloc_at _ _ _ _ rfl⟩ }
set_option maxHeartbeats 2000000 in
set_option maxRecDepth 100000 in
theorem refRunes_any (s : ByteArray) (hs : s.size <= 35184372088832) (w : World) :
  Calls Tryz.prog 128 #[.string s] w fun e w' => ∃ A n c ok, e = .returned (.tuple #[.slice A n c, .bool ok]) ∧
   ((ok = false /\ runesW s.data.toList 0 = none) \/ (ok = true /\ ∃ rs, runesW s.data.toList 0 = some rs /\ rs.length = n /\ OwI w' w.heap.size 21 (.slice A n c) rs)) /\ Below w.heap.size w w' := by
 obtain ⟨hbs, hbw⟩ := bs_convert w s (by omega)
 have hcv : (convert 9 81 (.string s)).run Tryz.prog w = .ok (.slice (some ⟨w.heap.size, 0, none⟩) s.size (grownCap w s.size 0 5)) (Lib.bytesWorld w 5 s) :=
  Lib.run_convert_string_bytes w 9 81 5 s Tryz.underlying9 Tryz.underlying81 Tryz.underlying5
 obtain ⟨cb, hcb⟩ : ∃ cb, grownCap w s.size 0 5 = cb := ⟨_, rfl⟩;obtain ⟨wb, hwb⟩ : ∃ wb, Lib.bytesWorld w 5 s = wb := ⟨_, rfl⟩;rw [hcb, hwb] at hcv;rw [hcb, hwb] at hbs;rw [hwb] at hbw;clear hcb hwb;obtain ⟨n, hn⟩ : ∃ n, s.size = n := ⟨_, rfl⟩;rw [hn] at hs hcv hbs;obtain ⟨l, hl⟩ : ∃ l, s.data.toList = l := ⟨_, rfl⟩;rw [hl] at hbs ⊢;clear hl hn;have HL : Hid (l.length = n) := hbs.len;have hB := hbw.size;have hbw' := Hd hbw;clear hbw
 go_enter Tryz.func128, Tryz.ntmps128
 go_wp2_with fail
 go_loopw [5, 6] (fun out v wr => ∃ (k : Nat) (A : Option Addr) (c m : Nat) (rs : List Nat), k <= n /\ m <= k /\ v = .int .i64 (k : Nat) /\ out = .slice A m c /\ rs.length = m /\ Hid (runesW l 0 = (runesW l k).map (rs ++ ·)) /\ Hid (OwI wr wb.heap.size 21 out rs) /\ Hid (Below wb.heap.size wb wr)) (fun _ v _ => n - (intOf v).toNat)
 case atStart => exact ⟨0, none, 0, 0, [], by omega, by omega, rfl, rfl, rfl, Hd (by cases runesW l 0 <;> simp), Hd (OwI.nil _ _ _), Hd (Below.refl _ _)⟩
 case round =>
  obtain ⟨k, A, c, m, rs, hk, hmk, rfl, rfl, hm, hr, ho, hbb⟩ := hrel
  by_cases hlt : k < n
  ·have i0 : decide ((k : Int) < (n : Int)) = true := by simp; omega
   have hl : k < l.length := by rw [HL.out]; exact hlt
   have hle := nx_le hl;rw [HL.out] at hle;have hc := refNext_any _ n cb l k (by omega) wr (hbs.below hbb.out);rw [nxI_nat] at hc;obtain ⟨P, hP⟩ : ∃ P, nx l k = P := ⟨_, rfl⟩;rw [hP] at hc hle;have hP' := Hd hP;clear hP;obtain ⟨r, d⟩ := P;unfold nxV at hc;simp only at hc hle;go_wp2_with fail;refine hc.mono ?_;rintro e w1 ⟨rfl, hb1⟩;have hxb := Hd (hbb.out.trans (hb1.mono hbb.out.size));have ho1 := Hd (ho.out.below hb1);have hsz1 := hb1.size;have hB0 := hbb.out.size;clear hb1 hc;have hl' := Hd hl;clear hl
   by_cases hd : d = 0
   ·subst hd;go_wp2_with fail
    go_ret2
    refine ⟨_, _, _, _, rfl, .inl ⟨rfl, ?_⟩, hbw'.out.trans (hxb.out.mono hB)⟩;rw [hr.out, runesW_stop hl'.out (by rw [hP'.out])];rfl
   ·have j1 : ((d : Int) == 0) = false := by rw [beq_eq_false_iff_ne]; omega
    have j2 : decide ((d : Int) = 0) = false := by simp; omega
    go_wp2_with (at_builtin; apply stop_here)
    refine Stop.go (append_rune _ 203 21 Tryz.underlying203 i32_info rfl _ _ rfl wb.heap.size _ rs rfl (ho1.out.below (below_alloc _ _)) _ 1 r rfl ?_ (m + 1) (by omega) (by omega) (by simp; omega) ?_)
    ·exact rd_one _ _ _
    intro A' c' w' h1 h2 h3;have h1' := Hd h1;have hxb3 := Hd ((hxb.out.trans ((below_alloc _ _).mono hxb.out.size)).trans h3);clear h1 h2 h3;go_wp2_with fail;go_roundw
    case rel =>
     refine ⟨k + d, A', c', m + 1, rs ++ [r], by omega, by omega, by go_num, rfl, by simp; omega, Hd ?_, h1', hxb3⟩;have := runesW_on hl'.out (by rw [hP'.out]; exact hd);rw [hP'.out] at this;rw [hr.out, this]
     cases runesW l (k + d) <;> simp
    case measure => simp [intOf]; omega
  ·have i0 : decide ((k : Int) < (n : Int)) = false := by simp; omega
   go_wp2_with fail
   go_ret2
   refine ⟨_, _, _, _, rfl, .inr ⟨rfl, rs, ?_, hm, ownsRow_base ho.out hB⟩, hbw'.out.trans (hbb.out.mono hB)⟩;rw [hr.out, runesW_end (by rw [HL.out]; omega)];simp
set_option maxHeartbeats 2000000 in
set_option maxRecDepth 100000 in
theorem refName_any (s : ByteArray) (hs : s.size <= 35184372088832) (w : World) :
  Calls Tryz.prog 88 #[.string s] w fun e w' => e = .returned (.bool (nameR s.data.toList)) /\ Below w.heap.size w w' := by
 obtain ⟨R, hR⟩ : ∃ R, nameR s.data.toList = R := ⟨_, rfl⟩;rw [hR];have hR' := Hd hR;clear hR
 go_enter Tryz.func88, Tryz.ntmps88
 go_wp2_with fail;refine (refRunes_any s hs w).mono ?_;rintro e w1 ⟨A, n, c, ok, rfl, hok, hb⟩;have hb' := Hd hb;clear hb;rcases hok with ⟨rfl, hno⟩ | ⟨rfl, rs, hrs, hn, ho⟩
 ·have hr : R = false := by rw [<- hR'.out, nameR, hno]
  subst hr;clear hno;go_wp2_with fail;go_ret;exact ⟨rfl, hb'.out⟩
 ·have hrd := ho.rd;have hm := hrd.max;have hle := hrd.le;have ho' := Hd ho;have hrs' := Hd hrs;have hn' := Hd hn;clear ho hrs
  cases rs with
  | nil =>
   have hr : R = false := by rw [<- hR'.out, nameR, hrs'.out]
   subst hr;simp at hn;subst hn;go_wp2_with fail;go_ret;exact ⟨rfl, hb'.out⟩
  | cons r rs' =>
   have hR2 : R = (Begins (r : Nat) && ((r :: rs').all fun x => GoesOn (x : Nat))) := by rw [<- hR'.out, nameR, hrs'.out]; simp
   have hn0 : 0 < n := by rw [<- hn'.out]; simp
   clear hn;obtain ⟨b, off, u, rfl, hbl, hu, hc⟩ := hrd.at_ hn0;simp at hu;subst hu;rw [Nat.add_zero] at hc;have hR2' := Hd hR2;clear hR2;have j1 : ((n : Int) == 0) = false := by rw [beq_eq_false_iff_ne]; omega
   have j2 : decide ((n : Int) = 0) = false := by simp; omega
   have j3 : (0 : Int) < (n : Int) := by omega
   cases hbg : Begins (r : Nat)
   ·have hr : R = false := (by rw [hR2'.out, hbg, Bool.false_and]);subst hr;go_wp2_with fail;refine (refbegins_any r w1).mono ?_;rintro e w2 ⟨rfl, rfl⟩;rw [hbg];go_wp2_with fail;go_ret;exact ⟨rfl, hb'.out⟩
   ·have hr : R = ((r :: rs').all fun x => GoesOn (x : Nat)) := (by rw [hR2'.out, hbg, Bool.true_and]);have hr' := Hd hr;clear hr;go_wp2_with fail;refine (refbegins_any r w1).mono ?_;rintro e w2 ⟨rfl, rfl⟩;rw [hbg];go_wp2_with fail
    go_loop [5] (fun v => ∃ k : Nat, k <= n /\ v = .int .i64 (k : Nat) /\ Hid (((r :: rs').take k).all fun x => GoesOn (x : Nat))) (fun v => n - (intOf v).toNat)
    case atStart => exact ⟨0, by omega, rfl, Hd rfl⟩
    case round =>
     obtain ⟨k, hk, rfl, ha⟩ := hrel
     by_cases hlt : k < n
     ·have i0 : decide ((k : Int) < (n : Int)) = true := by simp; omega
      obtain ⟨b', off', u, he, _, hu, hck⟩ := hrd.at_ hlt;simp only [Option.some.injEq, Addr.mk.injEq, and_true] at he;obtain ⟨rfl, rfl⟩ := he;rw [List.getElem?_map, Option.map_eq_some_iff] at hu;obtain ⟨x, hx, rfl⟩ := hu;have hx' := Hd hx;clear hx;have i1 : (k : Int) < (n : Int) := (by omega);go_wp2_with fail;refine (refgoeson_any x w2).mono ?_;rintro e w3 ⟨rfl, rfl⟩
      cases hg : GoesOn (x : Nat)
      ·have hr : R = false := by
        rw [hr'.out, List.all_eq_false];exact ⟨x, List.mem_of_getElem? hx'.out, by rw [hg]; simp⟩
       subst hr;go_wp2_with fail;go_ret;exact ⟨rfl, hb'.out⟩
      ·go_wp2_with fail
       go_round
       case rel =>
        refine ⟨k + 1, by omega, by go_num, Hd ?_⟩;rw [take_snoc hx'.out, List.all_append, ha.out];simp [hg]
       case measure => simp [intOf]; omega
     ·have i0 : decide ((k : Int) < (n : Int)) = false := by simp; omega
      have hr : R = true := by
       have := ha.out;rw [List.take_of_length_le (by have := hn'.out; omega)] at this;rw [hr'.out, this]
      subst hr;go_wp2_with fail;go_ret;exact ⟨rfl, hb'.out⟩
end Go.Proofs.YtdnfnkicmfkkmaaGreatDoor.UtfW
end

section
namespace Go.Proofs.YtdnfnkicmfkkmaaGreatDoor.UtfW
open Go.RowKit
theorem extract_cut (s : ByteArray) (a b : Nat) : s.extract a b = strOf ((s.data.toList.drop a).take (b - a)) := by
 apply ByteArray.ext;apply Array.ext';rw [ByteArray.data_extract, Array.toList_extract];rfl
end Go.Proofs.YtdnfnkicmfkkmaaGreatDoor.UtfW
end

section
namespace Go.Proofs
open Go.Shelf Go.RowKit
shelf_lay LaysM.n146 Nm 146 at Tryz as Tryz.lays146
shelf_lay Lays.n103 Nm 103 at Tryz as Tryz.lays103
shelf_lay Lays.n137 Nm 137 at Tryz as Tryz.lays137
shelf_lay Lays.n156 Nm 156 at Tryz as Tryz.lays156
shelf_lay Lays.n193 Nm 193 at Tryz as Tryz.lays193
shelf_lay Lays2.n16 Nm2 16 at Tryz as Tryz.laysCl
theorem Tryz.extra156 : Builder.Extra Tryz.prog Tryz.lays156_ren where
 sizeBuilder := by kernel_rfl
 liesBuilder := by kernel_rfl
 t5 := Tryz.underlying5
 a5 := Tryz.isAgg5
 z5 := Tryz.sizeOf5
 v5 := Tryz.zeroValue5
 infoByte := by kernel_rfl
 cellsByte := by kernel_rfl
 sizeByte := by kernel_rfl
 neB5 := by decide
end Go.Proofs
namespace Go.Proofs.YtdnfnkicmfkkmaaGreatDoor.Ky
open Go.RowKit Go.Shelf UtfW
theorem owx_lit (w : World) (B : Nat) (hB : B <= w.heap.size) (C : Array Value) (E : TypeId) (ts : List Tx) (n : Nat) (hn : ts.length = n) (hn2 : n <= 1000000000000) (hC : C.toList = ts.map tv) :
  OwX (w.alloc (.cells C E)) B E (.slice (some ⟨w.heap.size, 0, none⟩) n n) ts := by
 subst hn
 have hs : C.size = ts.length := by
  have := congrArg List.length hC
  simpa using this
 refine ⟨by simp, .inr ⟨_, _, C, rfl, hB, heap_alloc_new w _, Nat.le_refl _, by unfold maxLen; omega, by omega, ?_⟩⟩;rw [hC, List.take_of_length_le (by simp)]
theorem split_any (c : UInt8) (s : ByteArray) (hs : s.size <= 1000000) (w : World) (hU : Ut w) :
  Calls Tryz.prog 133 #[.string s, .string ⟨#[c]⟩] w fun e w' => ∃ n, (split c s.data.toList).length = n /\ n <= 1000001 /\ 0 < n /\ e = .returned (.slice (some ⟨w.heap.size, 0, none⟩) n n) /\ OwX w' w.heap.size 9 (.slice (some ⟨w.heap.size, 0, none⟩) n n) (split c s.data.toList) /\ Below w.heap.size w w' := by
 obtain ⟨m, hm⟩ := hU.max;refine (Any.strings_Split { Tryz.lays146 with } Tryz.lays146.i9 s ⟨#[c]⟩ m w (by omega) hm (Nat.le_refl 1)).mono ?_;rintro e w' ⟨rfl, rfl⟩;have hlen := Lib.splitB_all ⟨#[c]⟩ (Nat.le_refl 1) 0 (Lib.countB s ⟨#[c]⟩) s rfl;have hdat := Lib.splitB_data ⟨#[c]⟩ 0 (Lib.countB s ⟨#[c]⟩) s;have hsp : Lib.splitK [c] 0 (Lib.countB s ⟨#[c]⟩) s.data.toList = split c s.data.toList := split_eq c _ s.data.toList (Nat.le_refl _);have hdat' : (Lib.splitB ⟨#[c]⟩ 0 (Lib.countB s ⟨#[c]⟩) s).map (·.data.toList) = split c s.data.toList := hdat.trans hsp;have hl : (split c s.data.toList).length = Lib.countB s ⟨#[c]⟩ + 1 := by rw [<- hdat', List.length_map]; exact hlen
 have hle := split_len c s.data.toList;rw [Array.length_toList] at hle;have hle' : (split c s.data.toList).length <= s.size + 1 := hle;refine ⟨_, hl, by omega, by omega, rfl, ?_, below_alloc w _⟩;refine owx_lit w w.heap.size (Nat.le_refl _) _ _ _ _ hl (by omega) ?_;rw [<- hdat', List.map_map];rfl
theorem cutPrefix_any (s p : ByteArray) (w : World) :
  Calls Tryz.prog 134 #[.string s, .string p] w fun e w' => e = .returned (.tuple #[.string (strOf (Lib.trimPrefix s.data.toList p.data.toList)), .bool (Lib.hasPrefix s.data.toList p.data.toList)]) /\ w' = w :=
 Any.strings_CutPrefix Tryz.lays103 s p w
theorem indexByte_any (s : ByteArray) (c : UInt8) (w : World) :
  Calls Tryz.prog 137 #[.string s, .int .u8 c.toNat] w fun e w' => e = .returned (.int .i64 (Lib.indexByte s.data.toList c)) /\ w' = w := by
 refine Calls.mono (Any.strings_IndexByte Tryz.lays137 s c.toNat w) ?_;rintro e w' ⟨rfl, rfl⟩;refine ⟨?_, rfl⟩;simp
theorem texts_eq (xs ys : List Tx) : decide (xs.map strOf = ys.map strOf) = decide (xs = ys) := by
 rw [Bool.eq_iff_iff, decide_eq_true_eq, decide_eq_true_eq];refine ⟨fun h => ?_, fun h => by rw [h]⟩;have h2 := congrArg (List.map (·.data.toList)) h;rw [List.map_map, List.map_map] at h2;have e : ((fun x : ByteArray => x.data.toList) ∘ strOf) = id := funext fun x => rfl
 rw [e, List.map_id, List.map_id] at h2;exact h2
theorem equal_any (A : Option Addr) (n c : Nat) (xs : List Tx) (A2 : Option Addr) (n2 c2 : Nat) (ys : List Tx) (w : World) (h : Ts w A n c xs) (h2 : Ts w A2 n2 c2 ys) :
  Calls Tryz.prog 103 #[.slice A n c, .slice A2 n2 c2] w fun e w' => e = .returned (.bool (decide (xs = ys))) /\ ∃ q, w' = w.drewN q := by
 have hl := h.len;have hl2 := h2.len;have hm := Rd.max h;have hm2 := Rd.max h2;have hle := Rd.le h;have hle2 := Rd.le h2;rcases Nat.eq_zero_or_pos n with h0 | h0
 ·subst h0;obtain rfl : xs = [] := List.length_eq_zero_iff.1 hl;refine (Any.slices_Equal_string_empty Tryz.lays193 A A2 c n2 c2 w (by omega)).mono ?_;rintro e w' ⟨rfl, rfl⟩;refine ⟨ret_bool ?_, 0, rfl⟩;rw [Bool.eq_iff_iff, decide_eq_true_eq, decide_eq_true_eq];constructor
  ·intro e;rw [e] at hl2;exact (List.length_eq_zero_iff.1 hl2).symm
  ·intro e;rw [<- e] at hl2;exact hl2.symm
 ·by_cases hn : n = n2
  ·subst hn;obtain ⟨b, off, rfl, _, hc⟩ := Rd.cell h h0;obtain ⟨b2, off2, rfl, _, hc2⟩ := Rd.cell h2 h0
   have h9 := Any.slices_Equal_string Tryz.lays193 b off n c b2 off2 n c2 (xs.map strOf) (ys.map strOf) w (by simp; omega) (by simp; omega) (by omega) (by omega) (by
    intro j hj;rw [List.length_map] at hj;rw [hc j (tv xs[j]) (by rw [List.getElem?_map, List.getElem?_eq_getElem hj]; rfl)]
    simp [List.getD, List.getElem?_eq_getElem hj, tv]) (by
    intro j hj;rw [List.length_map] at hj;rw [hc2 j (tv ys[j]) (by rw [List.getElem?_map, List.getElem?_eq_getElem hj]; rfl)]
    simp [List.getD, List.getElem?_eq_getElem hj, tv])
   rw [List.take_of_length_le (by simp; omega), List.take_of_length_le (by simp; omega), texts_eq] at h9;exact h9
  ·refine (Any.slices_Equal_string_lens Tryz.lays193 A A2 n c n2 c2 w hn).mono ?_;rintro e w' ⟨rfl, rfl⟩;refine ⟨ret_bool ?_, 0, rfl⟩
   symm
   rw [decide_eq_false_iff_not];intro e;rw [e] at hl;omega
theorem owx_of_own {w : World} {B E n : Nat} {v : Value} {ss : List ByteArray} {ts : List Tx} (h : w.ownsRow B E 1 v n (ss.map Value.string)) (hn : ts.length = n) (ht : ss = ts.map strOf) : ∃ A c, v = .slice A n c /\ OwX w B E (.slice A n c) ts := by
 obtain ⟨A', c', rfl⟩ : ∃ A' c', v = .slice A' n c' := by
  rcases h.2 with ⟨h1, h2⟩ | ⟨g, cap, cur, h1, _⟩
  ·exact ⟨_, _, by rw [h1, h2]⟩
  ·exact ⟨_, _, h1⟩
 subst ht;refine ⟨_, _, rfl, ?_⟩;unfold OwX;rw [List.map_map] at h;rw [hn];exact h
theorem clone_any (A : Option Addr) (n c : Nat) (ts : List Tx) (w : World) (h : Ts w A n c ts) (hN : n <= 1000000000000) :
  Calls Tryz.prog 61 #[.slice A n c] w fun e w' => ∃ A' c', e = .returned (.slice A' n c') /\ OwX w' w.heap.size 9 (.slice A' n c') ts /\ Below w.heap.size w w' := by
 have hl := h.len;rcases A with _ | a
 ·obtain ⟨rfl, rfl⟩ := Rd.nil h rfl;obtain rfl : ts = [] := List.length_eq_zero_iff.1 hl;refine (Any.slices_Clone_string_nil Tryz.laysCl 0 0 w).mono ?_;rintro e w' ⟨rfl, rfl⟩;exact ⟨none, 0, rfl, OwX.nil _ _ _, Below.refl _ _⟩
 ·rcases Nat.eq_zero_or_pos n with h0 | h0
  ·subst h0;obtain rfl : ts = [] := List.length_eq_zero_iff.1 hl;refine (Any.slices_Clone_string_zero Tryz.laysCl a c w).mono ?_;rintro e w' ⟨v', rfl, h1, _, hb⟩;obtain ⟨A', c', rfl, h2⟩ := owx_of_own (ss := []) (ts := []) h1 rfl rfl;exact ⟨A', c', rfl, h2, hb⟩
  ·obtain ⟨b, off, e0, hb, hc⟩ := Rd.cell h h0;injection e0 with e0;subst e0
   refine (Any.slices_Clone_string Tryz.laysCl b off n c (ts.map strOf) w (by simp; omega) (by omega) (by
    intro j hj;rw [List.length_map] at hj;rw [hc j (tv ts[j]) (by rw [List.getElem?_map, List.getElem?_eq_getElem hj]; rfl)]
    simp [List.getD, List.getElem?_eq_getElem hj, tv])).mono ?_
   rintro e w' ⟨v', rfl, h1, _, hb⟩;rw [List.take_of_length_le (by simp; omega)] at h1;obtain ⟨A', c', rfl, h2⟩ := owx_of_own h1 hl rfl;exact ⟨A', c', rfl, h2, hb⟩
end Go.Proofs.YtdnfnkicmfkkmaaGreatDoor.Ky
end

section

end

section

end

section
namespace Go.Proofs.YtdnfnkicmfkkmaaGreatDoor.Ky
open Go.RowKit Go.Shelf UtfW
def Kb (w : World) (b : Nat) (A : Option Addr) (n c : Nat) (A' : Option Addr) (n' c' : Nat) : Prop :=
 w.heap[b]? = some (.cells #[.slice A n c, .slice A' n' c'] 70)
section
variable {w w' : World} {b : Nat} {A : Option Addr} {n c : Nat} {A' : Option Addr} {n' c' : Nat}
theorem Kb.lt (h : Kb w b A n c A' n' c') : b < w.heap.size := (Array.getElem?_eq_some_iff.1 h).1
theorem Kb.below (h : Kb w b A n c A' n' c') (hb : Below w.heap.size w w') : Kb w' b A n c A' n' c' := (hb.block b h.lt).trans h
theorem kb_new (w : World) (A : Option Addr) (n c : Nat) (A' : Option Addr) (n' c' : Nat) : Kb (w.alloc (.cells #[.slice A n c, .slice A' n' c'] 70)) w.heap.size A n c A' n' c' := heap_alloc_new w _
theorem Kb.cells (h : Kb w b A n c A' n' c') : w.cell? ⟨b, 0, none⟩ = some (.slice A n c) /\ w.cell? ⟨b, 1, none⟩ = some (.slice A' n' c') := by
 unfold Kb at h;constructor <;> simp [World.cell?, h]
theorem Kb.frozen (h : Kb w b A n c A' n' c') (i : Nat) : w.frozen? ⟨b, i, none⟩ = false := frozen_of_row w b i _ _ h
theorem setCell_kb {i : Nat} {cs : Array Value} {E : TypeId} (h : w.heap[b]? = some (.cells cs E)) (v : Value) : (w.setCell ⟨b, i, none⟩ v).heap[b]? = some (.cells (cs.setIfInBounds i v) E) := by
 simp [World.setCell, Array.getElem?_modify, h]
theorem kb_set (h : Kb w b A n c A' n' c') (B : Option Addr) (m d : Nat) (B' : Option Addr) (m' d' : Nat) : Kb ((w.setCell ⟨b, 0, none⟩ (.slice B m d)).setCell ⟨b, 1, none⟩ (.slice B' m' d')) b B m d B' m' d' := by
 have h1 := setCell_kb h (i := 0) (.slice B m d);exact setCell_kb h1 (i := 1) (.slice B' m' d')
theorem load_kb (h : Kb w b A n c A' n' c') : (loadVar 70 ⟨b, 0, none⟩).run Tryz.prog w = .ok (.agg #[.slice A n c, .slice A' n' c']) w :=
 run_loadVar_row w b _ _ _ _ _ h Tryz.underlying70 rfl (by kernel_rfl)
theorem res_kb {fn : Func} {p u : Tmp} (hf : fn.results = #[.cell p 70, .tmp u]) {tmps : Array Value} {ok : Value}
  (h : Kb w b A n c A' n' c') (hp : tmps.getD p undef = .pointer (some ⟨b, 0, none⟩)) (hu : tmps.getD u undef = ok) :
  (results fn tmps).run Tryz.prog w = .ok (.tuple #[.agg #[.slice A n c, .slice A' n' c'], ok]) w := by
 rw [results_cell_tmp hf, hp, hu];simp [asAddr, Result.andThen, load_kb h]
end
theorem below_set {w0 w : World} {B b i : Nat} (h : Below B w0 w) (hb : B <= b) (v : Value) : Below B w0 (w.setCell ⟨b, i, none⟩ v) :=
 h.setCell (p := ⟨b, i, none⟩) hb v
theorem Ts.set_ {w : World} {A : Option Addr} {n c b i : Nat} {ts : List Tx} (h : Ts w A n c ts) (hne : ∀ a, A = some a -> 0 < n -> a.block ≠ b) (v : Value) : Ts (w.setCell ⟨b, i, none⟩ v) A n c ts :=
  { len := Rd.len h, le := Rd.le h, max := Rd.max h, nil := Rd.nil h, cell := fun hn => by
      obtain ⟨b', off, e, hb, hc⟩ := Rd.cell h hn;refine ⟨b', off, e, by rw [Deep.nblk_setCell]; exact hb, fun j u hu => ?_⟩;have := hc j u hu;have hk := Deep.blk_setCell_other w ⟨b, i, none⟩ v b' (by have := hne _ e hn; simpa using this);unfold World.cell? at this ⊢;rw [hk]
      exact this }
theorem OwX.ne_ {w : World} {B E n c b : Nat} {A : Option Addr} {ts : List Tx} (h : OwX w B E (.slice A n c) ts) (hb : b < B) : ∀ a, A = some a -> 0 < n -> a.block ≠ b := by
 intro a e _ he;subst e;rcases h.2 with ⟨h1, _⟩ | ⟨g, cap, cur, h1, h2, _⟩
 ·injection h1 with h1;cases h1
 ·injection h1 with h1;injection h1 with h1;subst h1;simp only at he;omega
def findR (l : List Rl) (path : List Tx) : Option Rl := l.find? fun r => decide (r.1 = path)
theorem find_has (l : List Rl) (path : List Tx) : (findR l path).isSome = hasB l path := by
 unfold findR hasB;rw [Bool.eq_iff_iff, List.find?_isSome, List.any_eq_true]
theorem find_none {l : List Rl} {path : List Tx} (h : ∀ (j : Nat) r, l[j]? = some r -> r.1 ≠ path) : findR l path = none := by
 unfold findR;rw [List.find?_eq_none];intro r hr;obtain ⟨j, hj⟩ := List.mem_iff_getElem?.1 hr
 simpa using h j r hj
theorem find_some {l : List Rl} {path : List Tx} {k : Nat} {r : Rl} (hr : l[k]? = some r) (hp : r.1 = path) (h : ∀ (j : Nat) r, j < k -> l[j]? = some r -> r.1 ≠ path) : findR l path = some r := by
 unfold findR;have hl := (List.getElem?_eq_some_iff.1 hr).1
 have e : l = l.take k ++ r :: l.drop (k + 1) := by
  have h1 := List.drop_eq_getElem_cons hl;have h2 : l[k] = r := (List.getElem?_eq_some_iff.1 hr).2;rw [h2] at h1;rw [<- h1, List.take_append_drop]
 rw [e, List.find?_append]
 have hn : (l.take k).find? (fun r => decide (r.1 = path)) = none := by
  rw [List.find?_eq_none];intro x hx;obtain ⟨j, hj⟩ := List.mem_iff_getElem?.1 hx
  have hjk : j < k := by
   have := (List.getElem?_eq_some_iff.1 hj).1;rw [List.length_take] at this;omega
  rw [List.getElem?_take, if_pos hjk] at hj
  simpa using h j x hjk hj
 rw [hn, List.find?_cons_of_pos (by simpa using hp)];rfl
def FindP (l : List Rl) (path : List Tx) (w : World) (e : Ending) (w' : World) : Prop :=
 ∃ A n c A' n' c', e = .returned (.tuple #[.agg #[.slice A n c, .slice A' n' c'], .bool (hasB l path)]) /\ Below w.heap.size w w' /\ ∀ r, findR l path = some r -> Ts w' A n c r.1 /\ Ts w' A' n' c' r.2
set_option maxHeartbeats 2000000 in
set_option maxRecDepth 100000 in
theorem Find_any (A : Option Addr) (n c : Nat) (l : List Rl) (Ap : Option Addr) (np cp : Nat) (path : List Tx) (w : World) (h : Rs w A n c l) (hp : Ts w Ap np cp path) (hS : ∀ r ∈ l, r.1.length <= 1000000000 /\ r.2.length <= 1000000000) :
  Calls Tryz.prog 97 #[.slice A n c, .slice Ap np cp] w (FindP l path w) := by
 have hl := Hd h.len;have hle := h.le;have hm := h.max;have hn0 := kb_new w none 0 0 none 0 0;have hb0 := below_alloc w (.cells #[.slice none 0 0, .slice none 0 0] 70);obtain ⟨T, hT⟩ : ∃ T, w.heap.size = T := ⟨_, rfl⟩;obtain ⟨w0, hw0⟩ : ∃ w0, w.alloc (.cells #[.slice none 0 0, .slice none 0 0] 70) = w0 := ⟨_, rfl⟩;have hs0 : w0.heap.size = T + 1 := by rw [<- hw0, World.size_alloc, hT]
 rw [hw0] at hb0 hn0;have h0 := Hd (h.below hb0);have hp0 := Hd (hp.below hb0);rw [hT] at hn0 hb0;have hn0' := Hd hn0;have hb0' := Hd hb0;have hT' := Hd hT;have hS' := Hd hS;clear h hp hn0 hb0 hS
 go_enter Tryz.func97, Tryz.ntmps97
 go_wp2_with fail;clear hw0 hT
 go_loopw [10] (fun i wr => ∃ k : Nat, k <= n /\ i = .int .i64 k /\ Hid (∀ (j : Nat) r, j < k -> l[j]? = some r -> r.1 ≠ path) /\ Hid (Below w0.heap.size w0 wr)) (fun i _ => n - (intOf i).toNat)
 case atStart => exact ⟨0, by omega, rfl, Hd (fun j r h => absurd h (by omega)), Hd (Below.refl _ _)⟩
 case round =>
  obtain ⟨k, hk, rfl, hno, hb⟩ := hrel
  by_cases hlt : k < n
  ·have i1 : decide ((k : Int) < (n : Int)) = true := by rw [decide_eq_true_eq]; omega
   have i2 : decide (k < n) = true := by rw [decide_eq_true_eq]; omega
   have i3 : (k : Int) < (n : Int) := by omega
   obtain ⟨b, off, r, A1, n1, c1, A2, n2, c2, rfl, hbl, hr, t1, t2, k0, k1⟩ := Rs.at_ (h0.out.below hb.out) hlt;have hx := Hd hb;obtain ⟨p7, hp7⟩ : ∃ p7, wr.heap.size = p7 := ⟨_, rfl⟩;have hn7 := kb_new wr A1 n1 c1 A2 n2 c2;have hb7 := below_alloc wr (.cells #[.slice A1 n1 c1, .slice A2 n2 c2] 70);obtain ⟨w7, hw7⟩ : ∃ w7, wr.alloc (.cells #[.slice A1 n1 c1, .slice A2 n2 c2] 70) = w7 := ⟨_, rfl⟩;rw [hw7] at hn7 hb7;rw [hp7] at hn7;have hpT : T < p7 := by have := hb.out.size; omega
   have t1' := Hd (t1.below hb7);have t2' := Hd (t2.below hb7);have hb7' := Hd (hb.out.trans (hb7.mono hb.out.size));have hn7' := Hd hn7;obtain ⟨k7, k8⟩ := hn7.cells;have hr' := Hd hr;clear hn7 hb7 t1 t2 hr;have heq := equal_any A1 n1 c1 r.1 Ap np cp path w7 t1'.out (hp0.out.below hb7'.out)
   cases hd : decide (r.1 = path) with
   | false =>
    rw [hd] at heq;have hd' := Hd (of_decide_eq_false hd);clear hd;go_wp2_with fail;refine heq.mono ?_;rintro e w8 ⟨rfl, q, rfl⟩;have hb8 := Hd (hb7'.out.trans (Joins.below_draws _ w7 q));clear heq;go_wp2_with fail;go_roundw
    case rel =>
     refine ⟨k + 1, by omega, by go_num, Hd fun j r2 hj hr2 => ?_, hb8⟩;rcases Nat.lt_or_ge j k with h9 | h9
     ·exact hno.out j r2 h9 hr2
     ·obtain rfl : j = k := by omega
      rw [hr'.out] at hr2;injection hr2 with hr2;rw [<- hr2];exact hd'.out
    case measure => simp [intOf]; omega
   | true =>
    rw [hd] at heq;have hd' := Hd (of_decide_eq_true hd);clear hd;go_wp2_with fail;refine heq.mono ?_;rintro e w8 ⟨rfl, q, rfl⟩;clear heq;have hsome : findR l path = some r := find_some hr'.out hd'.out hno.out;have hsome' := Hd hsome;have hh : Hid (hasB l path = true) := Hd (by rw [<- find_has, hsome]; rfl);have hbq : Below w7.heap.size w7 (w7.drewN q) := Joins.below_draws _ _ _;obtain ⟨w8, hw8⟩ : ∃ w8, w7.drewN q = w8 := ⟨_, rfl⟩;rw [hw8] at hbq ⊢;have hn8 := Hd (hn7'.out.below hbq);have t18 := Hd (t1'.out.below hbq);have t28 := Hd (t2'.out.below hbq);have hb8 := Hd (hb7'.out.trans (hbq.mono hb7'.out.size));have hs78 := hbq.size;have hs7 := hb7'.out.size;clear hsome hbq hw8 k7 k8;go_wp2_with fail;have hq0 : Hid (∀ x, Below w8.heap.size w8 x -> x.cell? ⟨p7, 0, none⟩ = some (.slice A1 n1 c1) /\ x.cell? ⟨p7, 1, none⟩ = some (.slice A2 n2 c2)) := Hd fun x hbx => (hn8.out.below hbx).cells
    have hdr : Hid (Below w8.heap.size w8 w8.drew) := Hd (Joins.below_draws w8.heap.size w8 1);have hl8 := hS'.out r (List.mem_of_getElem? hr'.out);have hc1 : Hid (∀ x, Below w8.heap.size w8 x -> Calls Tryz.prog 61 #[.slice A1 n1 c1] x fun e w' => ∃ A' c', e = .returned (.slice A' n1 c') /\ OwX w' x.heap.size 9 (.slice A' n1 c') r.1 /\ Below x.heap.size x w') := Hd fun x hbx => clone_any A1 n1 c1 r.1 x (t18.out.below hbx) (by have := t18.out.len; omega)
    have hc2 : Hid (∀ x, Below w8.heap.size w8 x -> Calls Tryz.prog 61 #[.slice A2 n2 c2] x fun e w' => ∃ A' c', e = .returned (.slice A' n2 c') /\ OwX w' x.heap.size 9 (.slice A' n2 c') r.2 /\ Below x.heap.size x w') := Hd fun x hbx => clone_any A2 n2 c2 r.2 x (t28.out.below hbx) (by have := t28.out.len; omega)
    obtain ⟨q0, q1⟩ := hq0.out _ hdr.out;refine Pl.wp_region_plan 5 (.take 0 (.take 1 (.take 3 (.take 4 (.run 2 .done))))) (fun x => x.cell? ⟨p7, 0, none⟩ = some (.slice A1 n1 c1) /\ x.cell? ⟨p7, 1, none⟩ = some (.slice A2 n2 c2)) (by kernel_rfl) (by kernel_rfl) (by exact ⟨q0, q1⟩) ?_;simp only [Pl.fill, Al_4, Al_5, Al_6, Al_7]
    iterate 4
     refine Pl.take_go ?_ (by rfl) (fun _ _ _ h => h) ?_ ?_
     rotate_left
     ·(intro x hSw; (try dsimp only at hSw); go_simp; try with_reducible rfl)
     try simp only [Act.put, Al_1, Al_2, Al_3]
    refine Pl.run_go (fun K hK => ?_);go_simp;refine (hc1.out _ hdr.out).mono ?_;rintro e w9 ⟨A3, c3, rfl, ho3, hb9⟩;have hb9' := Hd (hdr.out.trans (hb9.mono hdr.out.size));have ho3' := Hd ho3;have hs9 := hb9'.out.size;clear hb9 ho3 q0 q1;obtain ⟨q0, q1⟩ := hq0.out _ hb9'.out;dsimp only;refine hK.out _ _ (Pl.more_go _ (fun _ h => h) (by exact ⟨q0, q1⟩) ?_);clear hK K q0 q1;refine Pl.done_go ?_;go_wp2_with fail;refine (hc2.out _ hb9'.out).mono ?_;rintro e wA ⟨A4, c4, rfl, ho4, hbA⟩;have ho3A := Hd (ho3'.out.rd.below hbA);have hne3 := Hd (ho3'.out.ne_ (b := T) (by have := hdr.out.size; omega));have hne4 := Hd (ho4.ne_ (b := T) (by omega));have ho4' := Hd ho4.rd;have hbA' := Hd (hb9'.out.trans (hbA.mono hs9));have hsA := hbA'.out.size;have hnT : Kb wA T none 0 0 none 0 0 := (hbA'.out.block T (by omega)).trans ((hb8.out.block T (by omega)).trans hn0'.out);obtain ⟨c0, c1⟩ := hnT.cells;have f0 := hnT.frozen 0;have f1 := hnT.frozen 1;have hnT' := Hd hnT;clear hbA ho4 hnT;go_wp2_with fail;refine bodyPost_ret (res_kb rfl (kb_set hnT'.out A3 n1 c3 A4 n2 c4) rfl rfl) rfl ?_;refine ⟨A3, n1, c3, A4, n2, c4, by rw [hh.out]; rfl, ?_, fun r2 hr2 => ?_⟩
    ·have hle2 := hT'.out;exact below_set (below_set (by rw [hle2]; exact hb0'.out.trans ((hb8.out.trans (hbA'.out.mono (by omega))).mono (by omega))) (by omega) _) (by omega) _
    ·rw [hsome'.out] at hr2;injection hr2 with hr2;subst hr2;exact ⟨(ho3A.out.set_ hne3.out _).set_ hne3.out _, (ho4'.out.set_ hne4.out _).set_ hne4.out _⟩
  ·have i1 : decide ((k : Int) < (n : Int)) = false := by rw [decide_eq_false_iff_not]; omega
   have i2 : decide (k < n) = false := by rw [decide_eq_false_iff_not]; omega
   have hnone : findR l path = none := find_none fun j r hr => hno.out j r (by have := (List.getElem?_eq_some_iff.1 hr).1; have := hl.out; omega) hr
   have hh : hasB l path = false := by rw [<- find_has, hnone]; rfl
   have hnT : Kb wr T none 0 0 none 0 0 := (hb.out.block T (by omega)).trans hn0'.out;obtain ⟨c0, c1⟩ := hnT.cells;have f0 := hnT.frozen 0;have f1 := hnT.frozen 1;have hnT' := Hd hnT;have hnone' := Hd hnone;have hh' := Hd hh;clear hnone hh hnT;go_wp2_with fail;refine bodyPost_ret (res_kb rfl (kb_set hnT'.out none 0 0 none 0 0) rfl rfl) rfl ?_;refine ⟨none, 0, 0, none, 0, 0, by rw [hh'.out]; rfl, ?_, fun r hr => by rw [hnone'.out] at hr; cases hr⟩;have hle2 := hT'.out;exact below_set (below_set (by rw [hle2]; exact hb0'.out.trans (hb.out.mono (by omega))) (by omega) _) (by omega) _
end Go.Proofs.YtdnfnkicmfkkmaaGreatDoor.Ky
end

section

end

section

end

section
namespace Go.Proofs.YtdnfnkicmfkkmaaGreatDoor.Ky
open Go.RowKit Go.Shelf UtfW
def over (path : List Tx) (r : Rl) : Bool := decide (path.length < r.1.length /\ r.1.take path.length = path)
theorem front_eq (l : List Rl) (path : List Tx) : frontB l path = (hasB l path && !(l.any (over path))) := rfl
theorem has_snoc (l : List Rl) (r : Rl) (path : List Tx) : hasB (l ++ [r]) path = (hasB l path || decide (r.1 = path)) := by
 unfold hasB;rw [List.any_append];simp
theorem over_no {l : List Rl} {path : List Tx} {r : Rl} (h : r ∈ l) (ho : over path r = true) : frontB l path = false := by
 rw [front_eq, List.any_eq_true.2 ⟨r, h, ho⟩];simp
set_option maxHeartbeats 1000000 in
set_option maxRecDepth 100000 in
theorem Front_any (A : Option Addr) (n c : Nat) (l : List Rl) (Ap : Option Addr) (np cp : Nat) (path : List Tx) (w : World) (h : Rs w A n c l) (hp : Ts w Ap np cp path) :
  Calls Tryz.prog 59 #[.slice A n c, .slice Ap np cp] w fun e w' => e = .returned (.bool (frontB l path)) /\ Below w.heap.size w w' := by
 have hl' := Hd h.len;have hlp := Hd hp.len;have hm := h.max;have hle := h.le;have hmp := Rd.max hp;have hlep := Rd.le hp;obtain ⟨R, hR⟩ : ∃ R, frontB l path = R := ⟨_, rfl⟩;rw [hR];have hR' := Hd hR;have h' := Hd h;have hp' := Hd hp;clear hR h hp
 go_enter Tryz.func59, Tryz.ntmps59
 go_wp2_with fail
 go_loopw [5, 11] (fun o i wr => ∃ (k : Nat) (ok : Bool), k <= n /\ i = .int .i64 k /\ o = .bool ok /\ Hid (ok = hasB (l.take k) path) /\ Hid ((l.take k).any (over path) = false) /\ Hid (Below w.heap.size w wr)) (fun _ i _ => n - (intOf i).toNat)
 case atStart => exact ⟨0, false, by omega, rfl, rfl, Hd rfl, Hd rfl, Hd (Below.refl _ _)⟩
 case round =>
  obtain ⟨k, ok, hk, rfl, rfl, hok, hno, hb⟩ := hrel
  by_cases hlt : k < n
  ·have i1 : decide ((k : Int) < (n : Int)) = true := by rw [decide_eq_true_eq]; omega
   have i2 : decide (k < n) = true := by rw [decide_eq_true_eq]; omega
   have i3 : (k : Int) < (n : Int) := by omega
   obtain ⟨b, off, r, A1, n1, c1, A2, n2, c2, rfl, hbl, hr, t1, t2, k0, k1⟩ := Rs.at_ (h'.out.below hb.out) hlt;have hn7 := kb_new wr A1 n1 c1 A2 n2 c2;have hb7 := below_alloc wr (.cells #[.slice A1 n1 c1, .slice A2 n2 c2] 70);obtain ⟨p7, hp7⟩ : ∃ p7, wr.heap.size = p7 := ⟨_, rfl⟩;obtain ⟨w7, hw7⟩ : ∃ w7, wr.alloc (.cells #[.slice A1 n1 c1, .slice A2 n2 c2] 70) = w7 := ⟨_, rfl⟩;rw [hw7] at hn7 hb7;rw [hp7] at hn7;have hb7' := Hd (hb.out.trans (hb7.mono hb.out.size));have hl1 := t1.len;have hm1 := Rd.max t1;have hle1 := Rd.le t1;have t1' := t1.below hb7;obtain ⟨k7, k8⟩ := hn7.cells;have hoR : Hid (over path r = true -> R = false) := Hd fun g => by rw [<- hR'.out]; exact over_no (List.mem_of_getElem? hr) g
   have hok2 : Hid (hasB (l.take (k + 1)) path = (ok || decide (r.1 = path))) := Hd (by rw [take_snoc hr, has_snoc, hok.out])
   have hno2 : Hid (over path r = false -> (l.take (k + 1)).any (over path) = false) := Hd fun g => by
    rw [take_snoc hr, List.any_append, hno.out];simp [g]
   obtain ⟨m, hm9⟩ : ∃ m, min n1 np = m := ⟨_, rfl⟩
   have hcut : Ts w7 A1 m c1 (r.1.take m) := by
    have := t1'.cut 0 m (by omega) (by omega) A1 (fun b' o' e _ => e) (fun h => h) (fun h => h);rw [Nat.sub_zero, Nat.sub_zero, List.drop_zero] at this;exact this
   have heq := equal_any A1 m c1 (r.1.take m) Ap np cp path w7 hcut (hp'.out.below hb7'.out);have hmc : m <= c1 := by omega
   have hmin : min (n1 : Int) (np : Int) = (m : Int) := by omega
   have hr' := Hd hr;have hl1' := Hd hl1;clear hn7 hb7 t1 t2 t1' hcut hr hl1;have hlp2 := hlp.out;have htl : (r.1.take m).length = m := by rw [List.length_take]; have := hl1'.out; omega
   cases hd : decide (r.1.take m = path) with
   | false =>
    rw [hd] at heq;have hd1 := of_decide_eq_false hd
    have g1 : decide (r.1 = path) = false := by
     rw [decide_eq_false_iff_not];intro e;refine hd1 ?_;have h10 : r.1.length = path.length := (by rw [e]);rw [List.take_of_length_le (by have := hl1'.out; omega), e]
    have g2 : over path r = false := by
     unfold over;rw [decide_eq_false_iff_not];rintro ⟨e1, e2⟩;refine hd1 ?_;have : m = path.length := by have := hl1'.out; omega
     rw [this, e2]
    have ho2 := Hd (hno2.out g2);have hk2 := Hd (show ok = hasB (l.take (k + 1)) path by rw [hok2.out, g1, Bool.or_false]);clear hd hd1 g1 g2 hno2 hok2 htl hlp2;go_wp2_with fail;refine heq.mono ?_;rintro e w8 ⟨rfl, q, rfl⟩;have hb8 := Hd (hb7'.out.trans (Joins.below_draws _ w7 q));clear heq;go_wp2_with fail;go_roundw
    case rel => exact ⟨k + 1, ok, by omega, by go_num, rfl, hk2, ho2, hb8⟩
    case measure => simp [intOf]; omega
   | true =>
    rw [hd] at heq;have hd1 := of_decide_eq_true hd;rw [hd1] at htl
    by_cases hlt2 : np < n1
    ·have g2 : over path r = true := by
      unfold over;rw [decide_eq_true_eq];have := hl1'.out;refine ⟨by omega, ?_⟩;have e : m = path.length := (by omega);rw [<- e];exact hd1
     obtain rfl : R = false := hoR.out g2;have j1 : decide ((n1 : Int) > (np : Int)) = true := by rw [decide_eq_true_eq]; omega
     have j2 : decide (np < n1) = true := by rw [decide_eq_true_eq]; omega
     clear hd hd1 g2 hno2 hok2 htl hlp2;go_wp2_with fail;refine heq.mono ?_;rintro e w8 ⟨rfl, q, rfl⟩;have hb8 := Hd (hb7'.out.trans (Joins.below_draws _ w7 q));obtain ⟨w8, hw8⟩ : ∃ w8, w7.drewN q = w8 := ⟨_, rfl⟩;have k9 : w8.cell? ⟨p7, 0, none⟩ = some (.slice A1 n1 c1) := by rw [<- hw8]; exact ((Joins.below_draws _ w7 q).cell (World.block_lt_of_cell? w7 _ k7)).trans k7
     rw [hw8] at hb8 ⊢;clear heq hw8;go_wp2_with fail;go_ret;exact ⟨rfl, hb8.out⟩
    ·have g2 : over path r = false := by
      unfold over;rw [decide_eq_false_iff_not];rintro ⟨e1, _⟩;have := hl1'.out;omega
     have g1 : decide (r.1 = path) = true := by
      rw [decide_eq_true_eq];rw [List.take_of_length_le (by have := hl1'.out; omega)] at hd1;exact hd1
     have ho2 := Hd (hno2.out g2);have hk2 := Hd (show true = hasB (l.take (k + 1)) path by rw [hok2.out, g1, Bool.or_true]);have j1 : decide ((n1 : Int) > (np : Int)) = false := by rw [decide_eq_false_iff_not]; omega
     have j2 : decide (np < n1) = false := by rw [decide_eq_false_iff_not]; omega
     clear hd hd1 g1 g2 hno2 hok2 htl hlp2;go_wp2_with fail;refine heq.mono ?_;rintro e w8 ⟨rfl, q, rfl⟩;have hb8 := Hd (hb7'.out.trans (Joins.below_draws _ w7 q));obtain ⟨w8, hw8⟩ : ∃ w8, w7.drewN q = w8 := ⟨_, rfl⟩;have k9 : w8.cell? ⟨p7, 0, none⟩ = some (.slice A1 n1 c1) := by rw [<- hw8]; exact ((Joins.below_draws _ w7 q).cell (World.block_lt_of_cell? w7 _ k7)).trans k7
     rw [hw8] at hb8 ⊢;clear heq hw8;go_wp2_with fail;go_roundw
     case rel => exact ⟨k + 1, true, by omega, by go_num, rfl, hk2, ho2, hb8⟩
     case measure => simp [intOf]; omega
  ·have i1 : decide ((k : Int) < (n : Int)) = false := by rw [decide_eq_false_iff_not]; omega
   have i2 : decide (k < n) = false := by rw [decide_eq_false_iff_not]; omega
   have hf : ok = R := by
    have e : l.take k = l := List.take_of_length_le (by have := hl'.out; omega);have h1 := hok.out;have h2 := hno.out;rw [e] at h1 h2;rw [<- hR'.out, front_eq, h2, h1];simp
   subst hf;go_wp2_with fail;go_ret;exact ⟨rfl, hb.out⟩
end Go.Proofs.YtdnfnkicmfkkmaaGreatDoor.Ky
end

section
namespace Go.Proofs.YtdnfnkicmfkkmaaGreatDoor.Ky
theorem split_snoc {c b : UInt8} : ∀ {p : Tx} {l : List Tx} {x : Tx}, split c p = l ++ [x] -> split c (p ++ [b]) = if b = c then l ++ [x] ++ [[]] else l ++ [x ++ [b]]
 | [], l, x, h => by
  have h0 : [[]] = l ++ [x] := h
  cases l with
  | nil =>
   simp at h0;subst h0
   show split c [b] = _
   rw [split_cons]
   split <;> rfl
  | cons y l => simp at h0
 | a :: p, l, x, h => by
  rw [List.cons_append, split_cons];rw [split_cons] at h
  by_cases ha : a = c
  ·rw [if_pos ha] at h ⊢
   cases l with
   | nil =>
    simp at h;exact absurd h.2 (split_ne c p)
   | cons y l =>
    rw [List.cons_append] at h;injection h with h1 h2;rw [split_snoc h2, <- h1]
    split <;> rfl
  ·rw [if_neg ha] at h ⊢
   cases hp : split c p with
   | nil => exact absurd hp (split_ne c p)
   | cons y r =>
    rw [hp] at h;simp only at h
    cases l with
    | nil =>
     rw [List.nil_append] at h;injection h with h1 h2;subst h2;have := split_snoc (b := b) (l := []) (x := y) (by rw [hp]; rfl);rw [this, <- h1]
     by_cases hb : b = c
     ·rw [if_pos hb, if_pos hb]; rfl
     ·rw [if_neg hb, if_neg hb]; rfl
    | cons z l =>
     rw [List.cons_append] at h;injection h with h1 h2;have := split_snoc (b := b) (l := y :: l) (x := x) (by rw [hp, h2]; rfl);rw [this, <- h1]
     by_cases hb : b = c
     ·rw [if_pos hb, if_pos hb]; rfl
     ·rw [if_neg hb, if_neg hb]; rfl
theorem join_snoc (sep : Tx) : ∀ (l : List Tx) (x : Tx), join sep (l ++ [x]) = if l.length = 0 then x else join sep l ++ sep ++ x
 | [], x => rfl
 | [y], x => rfl
 | y :: z :: l, x => by
  have := join_snoc sep (z :: l) x;rw [if_neg (by simp)] at this;rw [if_neg (by simp)]
  show y ++ sep ++ join sep (z :: l ++ [x]) = y ++ sep ++ join sep (z :: l) ++ sep ++ x
  rw [this];simp only [List.append_assoc]
theorem join_take (sep : Tx) {l : List Tx} {k : Nat} {x : Tx} (h : l[k]? = some x) : join sep (l.take (k + 1)) = if k = 0 then x else join sep (l.take k) ++ sep ++ x := by
 have hk := (List.getElem?_eq_some_iff.1 h).1;have e : l.take (k + 1) = l.take k ++ [x] := by rw [List.take_add_one, h]; rfl
 rw [e, join_snoc, List.length_take, Nat.min_eq_left (by omega)]
theorem take_one {α : Type} {l : List α} {k : Nat} {x : α} (h : l[k]? = some x) : l.take (k + 1) = l.take k ++ [x] := by
 rw [List.take_add_one, h];rfl
theorem all_take {α : Type} (p : α -> Bool) {l : List α} {k : Nat} {x : α} (h : l[k]? = some x) : (l.take (k + 1)).all p = ((l.take k).all p && p x) := by
 rw [take_one h, List.all_append];simp
theorem take_drop_one {s : Tx} {f i : Nat} {b : UInt8} (hf : f <= i) (h : s[i]? = some b) : (s.take (i + 1)).drop f = (s.take i).drop f ++ [b] := by
 have hk := (List.getElem?_eq_some_iff.1 h).1;rw [take_one h, List.drop_append_of_le_length (by rw [List.length_take]; omega)]
theorem take_drop_end {s : Tx} {i : Nat} : (s.take i).drop i = [] := List.drop_eq_nil_of_le (by rw [List.length_take]; omega)
def partsK (s : Tx) : List Tx := (split 47 s).set ((split 47 s).length - 1) (strip ((split 47 s).getLast?.getD []))
theorem parts_at {s x : Tx} {k : Nat} (h : (split 47 s)[k]? = some x) : (partsK s)[k]? = some (if k + 1 = (split 47 s).length then strip x else x) := by
 have hk := (List.getElem?_eq_some_iff.1 h).1;unfold partsK;rw [List.getElem?_set]
 by_cases e : k + 1 = (split 47 s).length
 ·rw [if_pos (by omega), if_pos (by omega), if_pos e];have : (split 47 s).getLast? = some x := by rw [List.getLast?_eq_getElem?, show (split 47 s).length - 1 = k by omega, h]
  rw [this];rfl
 ·rw [if_neg (by omega), if_neg e, h]
theorem parts_len (s : Tx) : (partsK s).length = (split 47 s).length := by unfold partsK; rw [List.length_set]
theorem eq_take {α : Type} {a b : List α} {k : Nat} {x y : α} (ha : a[k]? = some x) (hb : b[k]? = some y) (h : a.take k = b.take k) : (a.take (k + 1) = b.take (k + 1)) ↔ x = y := by
 rw [take_one ha, take_one hb, h];constructor
 ·intro e;have := List.append_cancel_left e;injection this
 ·rintro rfl;rfl
theorem ne_of_at {α : Type} {a b : List α} {k : Nat} {x y : α} (ha : a[k]? = some x) (hb : b[k]? = some y) (h : x ≠ y) : a ≠ b := by
 rintro rfl;rw [ha] at hb;injection hb with hb;exact h hb
def idxR (l : List Rl) (p : List Tx) : Int := match l.findIdx? (fun r => decide (r.1 = p)) with
 | some i => (i : Nat)
 | none => -1
theorem idx_here {l : List Rl} {p : List Tx} {k : Nat} {r : Rl} (h : l[k]? = some r) (hp : r.1 = p) (hno : hasB (l.take k) p = false) : idxR l p = (k : Nat) := by
 have hk := (List.getElem?_eq_some_iff.1 h).1;unfold idxR
 have : l.findIdx? (fun r => decide (r.1 = p)) = some k := by
  rw [List.findIdx?_eq_some_iff_getElem];refine ⟨hk, by rw [(List.getElem?_eq_some_iff.1 h).2]; simpa using hp, fun j hj => ?_⟩;have hn : ¬ ∃ r ∈ l.take k, r.1 = p := fun e => by rw [has_iff.2 e] at hno; cases hno
  intro e;exact hn ⟨l[j], List.mem_take_iff_getElem.2 ⟨j, by omega, rfl⟩, by simpa using e⟩
 rw [this]
theorem idx_none' {l : List Rl} {p : List Tx} (h : hasB l p = false) : idxR l p = -1 := by
 unfold idxR
 have : l.findIdx? (fun r => decide (r.1 = p)) = none := by
  rw [List.findIdx?_eq_none_iff];intro r hr;rw [decide_eq_false_iff_not];intro e;rw [has_iff.2 ⟨r, hr, e⟩] at h;cases h
 rw [this]
theorem idx_ge {l : List Rl} {p : List Tx} : decide (idxR l p ≥ 0) = hasB l p := by
 cases h : hasB l p with
 | false => rw [idx_none' h]; rfl
 | true =>
  obtain ⟨r, hr, he⟩ := has_iff.1 h;unfold idxR
  cases hi : l.findIdx? (fun r => decide (r.1 = p)) with
  | none =>
   rw [List.findIdx?_eq_none_iff] at hi;have := hi r hr;rw [decide_eq_false_iff_not] at this;exact absurd he this
  | some i =>
   simp only;rw [decide_eq_true_eq];omega
def overB (l : List Rl) (p : List Tx) : Bool := l.any fun r => decide (p.length < r.1.length /\ r.1.take p.length = p)
theorem over_snoc (l : List Rl) (r : Rl) (p : List Tx) : overB (l ++ [r]) p = (overB l p || decide (p.length < r.1.length /\ r.1.take p.length = p)) := by simp [overB]
theorem front_over (l : List Rl) (p : List Tx) : frontB l p = (hasB l p && !overB l p) := rfl
theorem wts_take {l : List Rl} {k : Nat} {r : Rl} (h : l[k]? = some r) : wts (l.take (k + 1)) = wts (l.take k) + wt r := by
 rw [take_one h, wts_append];simp [wts]
theorem lens_take {l : List Tx} {k : Nat} {x : Tx} (h : l[k]? = some x) : lens (l.take (k + 1)) = lens (l.take k) + x.length := by
 rw [take_one h, lens_append];simp [lens]
end Go.Proofs.YtdnfnkicmfkkmaaGreatDoor.Ky
end

section
namespace Go.Proofs.YtdnfnkicmfkkmaaGreatDoor.Ky
open Go.RowKit Go.Shelf UtfW
theorem str_eq (a b : Tx) : ((strOf a).toList == (strOf b).toList) = decide (a = b) := by
 rw [Lib.toList_data, Lib.toList_data, strOf_data', strOf_data', Bool.eq_iff_iff, beq_iff_eq, decide_eq_true_eq]
set_option maxHeartbeats 1000000 in
set_option maxRecDepth 100000 in
theorem refTexts_any (A : Option Addr) (n c : Nat) (xs : List Tx) (A2 : Option Addr) (n2 c2 : Nat) (ys : List Tx) (w : World) (h : Ts w A n c xs) (h2 : Ts w A2 n2 c2 ys) :
  Calls Tryz.prog 105 #[.slice A n c, .slice A2 n2 c2] w fun e w' => e = .returned (.bool (decide (xs = ys))) /\ ∃ q, w' = w.drewN q := by
 have hl := h.len;have hl2 := h2.len;have hm := Rd.max h;have hm2 := Rd.max h2;have hle := Rd.le h;have hle2 := Rd.le h2
 by_cases hn : n = n2
 ·subst hn;obtain ⟨R, hR⟩ : ∃ R, decide (xs = ys) = R := ⟨_, rfl⟩;rw [hR];have hR' := Hd hR;have h' := Hd h;have h2' := Hd h2;have hl' := Hd hl;have hl2' := Hd hl2;clear hR h h2 hl hl2
  go_enter Tryz.func105, Tryz.ntmps105
  go_wp2_with fail
  go_loopw [5] (fun i wr => ∃ (k q : Nat), k <= n /\ i = .int .i64 k /\ Hid (xs.take k = ys.take k) /\ wr = w.drewN q) (fun i _ => n - (intOf i).toNat)
  case atStart => exact ⟨0, 0, by omega, rfl, Hd rfl, rfl⟩
  case round =>
   obtain ⟨k, q, hk, rfl, heq, hq⟩ := hrel;have hb := Joins.below_draws w.heap.size w q;rw [<- hq] at hb;have hq' := Hd hq;clear hq
   by_cases hlt : k < n
   ·have i1 : decide ((k : Int) < (n : Int)) = true := by rw [decide_eq_true_eq]; omega
    have i2 : decide (k < n) = true := by rw [decide_eq_true_eq]; omega
    have i3 : (k : Int) < (n : Int) := (by omega);obtain ⟨b, off, t, rfl, hbl, ht, k0⟩ := (h'.out.below hb).at_ hlt;obtain ⟨b2, off2, t2, rfl, hbl2, ht2, k1⟩ := (h2'.out.below hb).at_ hlt;have hse := str_eq t t2;have ht' := Hd ht;have ht2' := Hd ht2;clear ht ht2
    cases hd : decide (t = t2) with
    | true =>
     rw [hd] at hse;have hn2 := Hd ((eq_take ht'.out ht2'.out heq.out).2 (of_decide_eq_true hd));clear hd;obtain ⟨S, hS⟩ : ∃ S, strOf t = S := ⟨_, rfl⟩;obtain ⟨S2, hS2⟩ : ∃ S2, strOf t2 = S2 := ⟨_, rfl⟩;rw [hS, hS2] at hse;simp only [tv, hS, hS2] at k0 k1;clear hS hS2;go_wp2_with fail
     go_big_quiet (fail)
     go_wp2_with fail;go_roundw
     case rel => exact ⟨k + 1, q + nq, by omega, by go_num, hn2, by rw [hq'.out]; exact World.drewN_drewN _ _ _⟩
     case measure => simp [intOf]; omega
    | false =>
     rw [hd] at hse
     have hf : Hid (R = false) := Hd (by
      rw [<- hR'.out, decide_eq_false_iff_not]
      exact ne_of_at ht'.out ht2'.out (of_decide_eq_false hd))
     clear hd;obtain ⟨S, hS⟩ : ∃ S, strOf t = S := ⟨_, rfl⟩;obtain ⟨S2, hS2⟩ : ∃ S2, strOf t2 = S2 := ⟨_, rfl⟩;rw [hS, hS2] at hse;simp only [tv, hS, hS2] at k0 k1;clear hS hS2;go_wp2_with fail
     go_big_quiet (fail)
     go_wp2_with fail;go_ret;exact ⟨by rw [hf.out]; rfl, q + nq, by rw [hq'.out]; exact World.drewN_drewN _ _ _⟩
   ·have i1 : decide ((k : Int) < (n : Int)) = false := by rw [decide_eq_false_iff_not]; omega
    have i2 : decide (k < n) = false := by rw [decide_eq_false_iff_not]; omega
    have hf : Hid (R = true) := Hd (by
     rw [<- hR'.out, decide_eq_true_eq];have := heq.out;rw [List.take_of_length_le (by have := hl'.out; omega), List.take_of_length_le (by have := hl2'.out; omega)] at this
     exact this)
    go_wp2_with fail;go_ret;exact ⟨by rw [hf.out]; rfl, q, hq'.out⟩
 ·have hne : decide (xs = ys) = false := by
   rw [decide_eq_false_iff_not];rintro rfl;omega
  rw [hne];have i1 : ((n : Int) == (n2 : Int)) = false := by rw [beq_eq_false_iff_ne]; omega
  clear hl hl2 hne
  go_enter Tryz.func105, Tryz.ntmps105
  go_wp2_with fail;go_ret;exact ⟨rfl, 0, rfl⟩
set_option maxHeartbeats 1000000 in
set_option maxRecDepth 100000 in
theorem refFind_any (A : Option Addr) (n c : Nat) (l : List Rl) (Ap : Option Addr) (np cp : Nat) (path : List Tx) (w : World) (h : Rs w A n c l) (hp : Ts w Ap np cp path) :
  Calls Tryz.prog 94 #[.slice A n c, .slice Ap np cp] w fun e w' => e = .returned (.int .i64 (idxR l path)) /\ ∃ q, w' = w.drewN q := by
 have hl' := Hd h.len;have hm := h.max;have hle := h.le;obtain ⟨R, hR⟩ : ∃ R, idxR l path = R := ⟨_, rfl⟩;rw [hR];have hR' := Hd hR;have h' := Hd h;have hp' := Hd hp;clear hR h hp
 go_enter Tryz.func94, Tryz.ntmps94
 go_wp2_with fail
 go_loopw [5] (fun i wr => ∃ (k q : Nat), k <= n /\ i = .int .i64 k /\ Hid (hasB (l.take k) path = false) /\ wr = w.drewN q) (fun i _ => n - (intOf i).toNat)
 case atStart => exact ⟨0, 0, by omega, rfl, Hd rfl, rfl⟩
 case round =>
  obtain ⟨k, q, hk, rfl, hno, hq⟩ := hrel;have hb := Joins.below_draws w.heap.size w q;rw [<- hq] at hb;have hq' := Hd hq;clear hq
  by_cases hlt : k < n
  ·have i1 : decide ((k : Int) < (n : Int)) = true := by rw [decide_eq_true_eq]; omega
   have i2 : decide (k < n) = true := by rw [decide_eq_true_eq]; omega
   have i3 : (k : Int) < (n : Int) := by omega
   obtain ⟨b, off, r, A1, n1, c1, A2, n2, c2, rfl, hbl, hr, t1, t2, k0, k1⟩ := Rs.at_ (h'.out.below hb) hlt;have heq := refTexts_any A1 n1 c1 r.1 Ap np cp path wr t1 (hp'.out.below hb);have hr' := Hd hr;clear hr t1 t2
   cases hd : decide (r.1 = path) with
   | true =>
    rw [hd] at heq;have hf : Hid (R = (k : Nat)) := Hd (by rw [<- hR'.out]; exact idx_here hr'.out (of_decide_eq_true hd) hno.out);clear hd;go_wp2_with fail;refine heq.mono ?_;rintro e w1 ⟨rfl, q1, rfl⟩;go_wp2_with fail;go_ret;exact ⟨by rw [hf.out]; rfl, q + q1, by rw [hq'.out]; exact World.drewN_drewN _ _ _⟩
   | false =>
    rw [hd] at heq;have hno2 : Hid (hasB (l.take (k + 1)) path = false) := Hd (by rw [take_one hr'.out, has_snoc, hno.out, hd]; rfl);clear hd;go_wp2_with fail;refine heq.mono ?_;rintro e w1 ⟨rfl, q1, rfl⟩;go_wp2_with fail;go_roundw
    case rel => exact ⟨k + 1, q + q1, by omega, by go_num, hno2, by rw [hq'.out]; exact World.drewN_drewN _ _ _⟩
    case measure => simp [intOf]; omega
  ·have i1 : decide ((k : Int) < (n : Int)) = false := by rw [decide_eq_false_iff_not]; omega
   have i2 : decide (k < n) = false := by rw [decide_eq_false_iff_not]; omega
   have hf : Hid (R = -1) := Hd (by
    rw [<- hR'.out];refine idx_none' ?_
    rw [<- hno.out, List.take_of_length_le (by have := hl'.out; omega)])
   go_wp2_with fail;go_ret;exact ⟨by rw [hf.out]; rfl, q, hq'.out⟩
set_option maxHeartbeats 1000000 in
set_option maxRecDepth 100000 in
theorem refFront_any (A : Option Addr) (n c : Nat) (l : List Rl) (Ap : Option Addr) (np cp : Nat) (path : List Tx) (w : World) (h : Rs w A n c l) (hp : Ts w Ap np cp path) :
  Calls Tryz.prog 62 #[.slice A n c, .slice Ap np cp] w fun e w' => e = .returned (.bool (frontB l path)) /\ ∃ q, w' = w.drewN q := by
 have hl' := Hd h.len;have hlp := Hd hp.len;have hm := h.max;have hle := h.le;have hmp := Rd.max hp;have hlep := Rd.le hp;obtain ⟨R, hR⟩ : ∃ R, frontB l path = R := ⟨_, rfl⟩;rw [hR];have hR' := Hd hR;have h' := Hd h;have hp' := Hd hp;clear hR h hp
 go_enter Tryz.func62, Tryz.ntmps62
 go_wp2_with fail
 go_loopw [5] (fun i wr => ∃ (k q : Nat), k <= n /\ i = .int .i64 k /\ Hid (overB (l.take k) path = false) /\ wr = w.drewN q) (fun i _ => n - (intOf i).toNat)
 case atStart => exact ⟨0, 0, by omega, rfl, Hd rfl, rfl⟩
 case round =>
  obtain ⟨k, q, hk, rfl, hno, hq⟩ := hrel;have hb := Joins.below_draws w.heap.size w q;rw [<- hq] at hb;have hq' := Hd hq;clear hq
  by_cases hlt : k < n
  ·have i1 : decide ((k : Int) < (n : Int)) = true := by rw [decide_eq_true_eq]; omega
   have i2 : decide (k < n) = true := by rw [decide_eq_true_eq]; omega
   have i3 : (k : Int) < (n : Int) := by omega
   obtain ⟨b, off, r, A1, n1, c1, A2, n2, c2, rfl, hbl, hr, t1, t2, k0, k1⟩ := Rs.at_ (h'.out.below hb) hlt;have hl1 := Hd t1.len;have hle1 := Rd.le t1;have hr' := Hd hr;clear hr t2;have hno2 : Hid (∀ V, decide (path.length < r.1.length /\ r.1.take path.length = path) = V -> overB (l.take (k + 1)) path = V) := Hd fun V hV => by rw [take_one hr'.out, over_snoc, hno.out, hV]; rfl
   by_cases hlt2 : np < n1
   ·have j1 : decide ((n1 : Int) > (np : Int)) = true := by rw [decide_eq_true_eq]; omega
    have j2 : decide (np < n1) = true := by rw [decide_eq_true_eq]; omega
    have hcut : Ts wr A1 np c1 (r.1.take np) := by
     have := t1.cut 0 np (by omega) (by omega) A1 (fun b' o' e _ => e) (fun h => h) (fun h => h);rw [Nat.sub_zero, Nat.sub_zero, List.drop_zero] at this;exact this
    have heq := refTexts_any A1 np c1 (r.1.take np) Ap np cp path wr hcut (hp'.out.below hb);have hmc : np <= c1 := (by omega);clear hcut t1
    cases hd : decide (r.1.take np = path) with
    | true =>
     rw [hd] at heq
     have hf : Hid (R = false) := Hd (by
      have h1 := hno2.out true (by
       rw [decide_eq_true_eq, hlp.out]
       exact ⟨by have := hl1.out; omega, of_decide_eq_true hd⟩)
      rw [<- hR'.out, front_over]
      have : overB l path = true := by
       unfold overB at h1 ⊢;rw [List.any_eq_true] at h1 ⊢;obtain ⟨x, hx, hp⟩ := h1;exact ⟨x, List.mem_of_mem_take hx, hp⟩
      rw [this]
      simp)
     clear hd;go_wp2_with fail;refine heq.mono ?_;rintro e w1 ⟨rfl, q1, rfl⟩;go_wp2_with fail;go_ret;exact ⟨by rw [hf.out]; rfl, q + q1, by rw [hq'.out]; exact World.drewN_drewN _ _ _⟩
    | false =>
     rw [hd] at heq
     have hno3 := Hd (hno2.out false (by
      rw [decide_eq_false_iff_not, hlp.out]
      exact fun h => of_decide_eq_false hd h.2))
     clear hd;go_wp2_with fail;refine heq.mono ?_;rintro e w1 ⟨rfl, q1, rfl⟩;go_wp2_with fail;go_roundw
     case rel => exact ⟨k + 1, q + q1, by omega, by go_num, hno3, by rw [hq'.out]; exact World.drewN_drewN _ _ _⟩
     case measure => simp [intOf]; omega
   ·have j1 : decide ((n1 : Int) > (np : Int)) = false := by rw [decide_eq_false_iff_not]; omega
    have j2 : decide (np < n1) = false := by rw [decide_eq_false_iff_not]; omega
    have hno3 := Hd (hno2.out false (by
     rw [decide_eq_false_iff_not, hlp.out]
     exact fun h => by have := hl1.out; omega))
    clear t1;go_wp2_with fail;go_roundw
    case rel => exact ⟨k + 1, q, by omega, by go_num, hno3, hq'.out⟩
    case measure => simp [intOf]; omega
  ·have i1 : decide ((k : Int) < (n : Int)) = false := by rw [decide_eq_false_iff_not]; omega
   have i2 : decide (k < n) = false := by rw [decide_eq_false_iff_not]; omega
   have hfi := refFind_any A n c l Ap np cp path wr (h'.out.below hb) (hp'.out.below hb);have hge := idx_ge (l := l) (p := path);obtain ⟨z, hz⟩ : ∃ z, idxR l path = z := ⟨_, rfl⟩
   have hf : Hid (R = hasB l path) := Hd (by
    rw [<- hR'.out, front_over];have := hno.out;rw [List.take_of_length_le (by have := hl'.out; omega)] at this;rw [this]
    simp)
   rw [hz] at hfi hge;clear hz;obtain ⟨hv, hhv⟩ : ∃ hv, hasB l path = hv := ⟨_, rfl⟩;rw [hhv] at hge hf;clear hhv;obtain rfl := hf.out;go_wp2_with fail;refine hfi.mono ?_;rintro e w1 ⟨rfl, q1, rfl⟩;go_wp2_with fail;go_ret;exact ⟨by first | rfl | (rw [<- hge]), q + q1, by rw [hq'.out]; exact World.drewN_drewN _ _ _⟩
end Go.Proofs.YtdnfnkicmfkkmaaGreatDoor.Ky
end
