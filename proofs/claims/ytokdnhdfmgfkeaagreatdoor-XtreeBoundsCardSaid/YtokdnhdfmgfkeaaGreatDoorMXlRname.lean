/- The document's Runes and Name, where its Trim is not at hand. -/
import Derived.Test.YtokdnhdfmgfkeaaGreatDoorMXnSt1
import Derived.Test.YtokdnhdfmgfkeaaGreatDoorMUtfEnc2
import Derived.Deep.QuietTactic
import Derived.BigQuiet
import Derived.Test.YtokdnhdfmgfkeaaGreatDoorMUtfEnc
import Derived.Lib.OthersKept
import Derived.Lib.ConvBytes
section
namespace Go.Proofs.YtokdnhdfmgfkeaaGreatDoor.UtfW
open Go.RowKit
theorem rd_one (w : World) (v : Value) (E : TypeId) : Rd (w.alloc (.cells #[v] E)) (some ⟨w.heap.size, 0, none⟩) 1 1 [v] :=
  { len := rfl, le := Nat.le_refl _, max := by omega, nil := (fun h => by cases h), cell := fun _ => ⟨w.heap.size, 0, rfl, by simp, fun j u hu => by
    obtain rfl : j = 0 := by have := (List.getElem?_eq_some_iff.1 hu).1; simp at this; omega
    simp at hu
    subst hu
    exact World.cell?_alloc_at _ _ _ _ rfl⟩ }

set_option maxHeartbeats 2000000 in
set_option maxRecDepth 100000 in

set_option maxHeartbeats 2000000 in
set_option maxRecDepth 100000 in
/-- The document's Lines. -/
theorem refLines_any (s : ByteArray) (hs : s.size ≤ 1000000) (w : World) :
    Calls Tryz.prog 139 #[.string s] w fun e w' => e = .returned (.string (strOf (Utf.lines s.data.toList))) ∧ Below w.heap.size w w' := by
  have HL : Hid (s.data.toList.length = s.size) := Lib.hid (by rw [Array.length_toList]; rfl)
  go_enter Tryz.func139, Tryz.ntmps139
  go_wp2_with fail
  go_loopw [3, 4] (fun out v wr => ∃ (k : Nat) (A : Option Addr) (c m : Nat) (acc : List UInt8), k ≤ s.size ∧ m ≤ k ∧ v = .int .i64 (k : Nat) ∧ out = .slice A m c ∧ acc.length = m ∧ Hid (Utf.lines s.data.toList = acc ++ Utf.lines (s.data.toList.drop k)) ∧ Hid (OwB wr w.heap.size 5 out acc) ∧ Hid (Below w.heap.size w wr)) (fun _ v _ => s.size - (intOf v).toNat)
  case atStart => exact ⟨0, none, 0, 0, [], by omega, by omega, rfl, rfl, rfl, Lib.hid rfl, Lib.hid (OwB.nil _ _ _), Lib.hid (Below.refl _ _)⟩
  case round =>
    obtain ⟨k, A, c, m, acc, hk, hmk, rfl, rfl, hm, hr, ho, hb⟩ := hrel
    by_cases hlt : k < s.size
    · have i0 : decide ((k : Int) < (s.size : Int)) = true := by simp; omega
      have i1 : (k : Int) < (s.size : Int) := by omega
      have hd : s.data.toList.drop k = s[k] :: s.data.toList.drop (k + 1) := by
        rw [List.drop_eq_getElem_cons (by have := HL.out; omega)]
        rfl
      have hd' := Lib.hid hd
      clear hd
      have i2 : (0 : Int) ≤ (k : Int) + 1 := by omega
      by_cases h13 : s[k] = 13
      · have t1 : ((s[k].toNat : Int) != 13) = false := by rw [h13]; rfl
        have h13' := Lib.hid h13
        clear h13
        by_cases hB : ∃ h : k + 1 < s.size, s[k + 1] = 10
        · obtain ⟨h2, h10⟩ := hB
          have t2 : ((s[k + 1].toNat : Int) != 10) = false := by rw [h10]; rfl
          have t3 : decide ((s.size : Int) ≤ (k : Int) + 1) = false := by simp; omega
          have t4 : (k : Int) + 1 < (s.size : Int) := by omega
          have h10' := Lib.hid h10
          clear h10
          go_wp2_with fail
          go_roundw
          case rel =>
            refine ⟨k + 1, A, c, m, acc, by omega, by omega, by go_num, rfl, hm, Lib.hid ?_, ho, hb⟩
            rw [hr.out, hd'.out, Utf.lines, if_pos h13'.out, if_pos]
            rw [List.head?_drop]
            exact (List.getElem?_eq_getElem (by have := HL.out; omega)).trans (congrArg some h10'.out)
          case measure => simp [intOf]; omega
        · have hB' := Lib.hid hB
          clear hB
          have hl2 : Utf.lines s.data.toList = (acc ++ [10]) ++ Utf.lines (s.data.toList.drop (k + 1)) := by
            rw [hr.out, hd'.out, Utf.lines, if_pos h13'.out, if_neg, List.append_assoc]
            · rfl
            · intro h
              rw [List.head?_drop] at h
              obtain ⟨h3, h4⟩ := List.getElem?_eq_some_iff.1 h
              exact hB'.out ⟨by have := HL.out; omega, h4⟩
          have hl2' := Lib.hid hl2
          clear hl2
          by_cases h2 : k + 1 < s.size
          · have t2 : ((s[k + 1].toNat : Int) != 10) = true := by
              rw [bne_iff_ne]
              intro h
              exact hB'.out ⟨h2, UInt8.toNat_inj.1 (by rw [show (s[k + 1]).toNat = 10 by omega]; rfl)⟩
            have t3 : decide ((s.size : Int) ≤ (k : Int) + 1) = false := by simp; omega
            have t4 : (k : Int) + 1 < (s.size : Int) := by omega
            go_wp2_with (at_builtin; apply stop_here)
            refine Stop.go (append_bytes _ 41 5 Tryz.underlying41 (by kernel_rfl) rfl _ _ rfl w.heap.size _ acc rfl (ho.out.below (below_alloc _ _)) _ 1 _ [10] rfl (rd_one _ _ _) (m + 1) (by omega) (by omega) (by have := hb.out.size; simp; omega) ?_)
            intro A' c' w' h1 h2 h3
            have h1' := Lib.hid h1
            have hx := Lib.hid ((hb.out.trans ((below_alloc _ _).mono hb.out.size)).trans h3)
            clear h1 h2 h3
            go_wp2_with fail
            go_roundw
            case rel => exact ⟨k + 1, A', c', m + 1, acc ++ [10], by omega, by omega, by go_num, rfl, by simp; omega, hl2', h1', hx⟩
            case measure => simp [intOf]; omega
          · have t3 : decide ((s.size : Int) ≤ (k : Int) + 1) = true := by simp; omega
            go_wp2_with (at_builtin; apply stop_here)
            refine Stop.go (append_bytes _ 41 5 Tryz.underlying41 (by kernel_rfl) rfl _ _ rfl w.heap.size _ acc rfl (ho.out.below (below_alloc _ _)) _ 1 _ [10] rfl (rd_one _ _ _) (m + 1) (by omega) (by omega) (by have := hb.out.size; simp; omega) ?_)
            intro A' c' w' h1 h2 h3
            have h1' := Lib.hid h1
            have hx := Lib.hid ((hb.out.trans ((below_alloc _ _).mono hb.out.size)).trans h3)
            clear h1 h2 h3
            go_wp2_with fail
            go_roundw
            case rel => exact ⟨k + 1, A', c', m + 1, acc ++ [10], by omega, by omega, by go_num, rfl, by simp; omega, hl2', h1', hx⟩
            case measure => simp [intOf]; omega
      · have t1 : ((s[k].toNat : Int) != 13) = true := by
          rw [bne_iff_ne]
          intro h
          exact h13 (UInt8.toNat_inj.1 (by rw [show (s[k]).toNat = 13 by omega]; rfl))
        have hl2 : Utf.lines s.data.toList = (acc ++ [s[k]]) ++ Utf.lines (s.data.toList.drop (k + 1)) := by
          rw [hr.out, hd'.out, Utf.lines, if_neg h13, List.append_assoc]
          rfl
        have hl2' := Lib.hid hl2
        clear hl2 h13
        go_wp2_with (at_builtin; apply stop_here)
        refine Stop.go (append_bytes _ 41 5 Tryz.underlying41 (by kernel_rfl) rfl _ _ rfl w.heap.size _ acc rfl (ho.out.below (below_alloc _ _)) _ 1 _ [s[k]] rfl (rd_one _ _ _) (m + 1) (by omega) (by omega) (by have := hb.out.size; simp; omega) ?_)
        intro A' c' w' h1 h2 h3
        have h1' := Lib.hid h1
        have hx := Lib.hid ((hb.out.trans ((below_alloc _ _).mono hb.out.size)).trans h3)
        clear h1 h2 h3
        go_wp2_with fail
        go_roundw
        case rel => exact ⟨k + 1, A', c', m + 1, acc ++ [s[k]], by omega, by omega, by go_num, rfl, by simp; omega, hl2', h1', hx⟩
        case measure => simp [intOf]; omega
    · have i0 : decide ((k : Int) < (s.size : Int)) = false := by simp; omega
      have hfin : Utf.lines s.data.toList = acc := by
        rw [hr.out, List.drop_eq_nil_of_le (by have := HL.out; omega), Utf.lines, List.append_nil]
      rw [hfin]
      have hfin' := Lib.hid hfin
      clear hfin
      have hcv := ho.out.bs.conv (P := Tryz.prog) (src := 41) (dst := 9) (e := 5) Tryz.underlying41 Tryz.underlying5 Tryz.underlying9
      go_wp2_with fail
      go_ret
      exact ⟨by rw [hfin'.out]; rfl, hb.out⟩
end Go.Proofs.YtokdnhdfmgfkeaaGreatDoor.UtfW
end

section
namespace Go.Proofs.YtokdnhdfmgfkeaaGreatDoor.UtfW
open Go.RowKit

/-- A row of runes of the call's own. -/
def OwI (w : World) (B E : Nat) (v : Value) (rs : List Nat) : Prop := w.ownsRow B E 1 v rs.length (rs.map fun r => Value.int .i32 (r : Nat))

theorem OwI.nil (w : World) (B E : Nat) : OwI w B E (.slice none 0 0) [] := World.ownsRow_nil w B E 1

theorem OwI.below {w w' : World} {B E : Nat} {v : Value} {rs : List Nat} (h1 : OwI w B E v rs) (hb : Below w.heap.size w w') : OwI w' B E v rs :=
  World.ownsRow.kept (row := none) h1 ⟨hb.os, hb.tape, hb.output, hb.size, fun k hk _ => hb.block k hk⟩ (by
    rcases h1.2 with ⟨rfl, _⟩ | ⟨g, cap, cur, rfl, _⟩
    · exact .inl rfl
    · right; simp [Value.ownBlock])

theorem OwI.rd {w : World} {B E : Nat} {A : Option Addr} {n c : Nat} {rs : List Nat} (h : OwI w B E (.slice A n c) rs) : Rd w A n c (rs.map fun r => Value.int .i32 (r : Nat)) := by
  have hn : n = rs.length := by
    rcases h.2 with ⟨hv, h0⟩ | ⟨g, cap, cur, hv, _⟩
    · injection hv with _ h2 _; omega
    · injection hv
  subst hn
  exact rd_of_own h

section
variable {P : Program} {ops : Array Oper} {rest : List Oper} {o : Oper} {a : Act} {Q : Exit → Act → World → Prop}
/-- One rune behind a row of the call's own. -/
theorem append_rune (w : World) (t e : TypeId) (ht : P.underlying t = some (.slice e))
    (hinfo : (P.info? e).map (fun i => (i.zero, i.size, i.bytes)) = some (some (.int .i32 0), 1, 4))
    (hgd : o.guard = none) (s x : Operand)
    (ho : o.op = .call { callee := .builtin .append, args := #[s, x], argTypes := #[t, t] })
    (B : Nat) (v : Value) (la : List Nat) (hs : a.eval s = v) (hown : OwI w B e v la)
    (A : Option Addr) (c : Nat) (r : Nat) (hx : a.eval x = .slice A 1 c) (hr : Rd w A 1 c [.int .i32 (r : Nat)])
    (N : Nat) (hN : la.length + 1 = N) (hsz : N ≤ 35184372088832) (hB : B ≤ w.heap.size)
    (h : ∀ A' c' w', OwI w' B e (.slice A' N c') (la ++ [r]) → w.grownBy w' v.ownBlock → Below B w w' → wpList P ops Q rest (a.put o.dst (.slice A' N c')) w') :
    wpList P ops Q (o :: rest) a w := by
  refine wpList_append_rd w hgd s x t ho B e (.int .i32 0) 4 ht hinfo rfl v la.length (la.map fun r => Value.int .i32 (r : Nat)) hs hown A 1 c [.int .i32 (r : Nat)] hx hr (fun u hu => ?_) (by omega) (by omega) hB ?_
  · rw [List.mem_singleton.1 hu]
    rfl
  intro A' c' w' h1 h2 h3 _
  rw [hN] at h1 ⊢
  refine h A' c' w' ?_ h2 h3
  unfold OwI
  rw [List.map_append, List.length_append, show la.length + [r].length = N from hN]
  exact h1
end

theorem i32_info : (Tryz.prog.info? 21).map (fun i => (i.zero, i.size, i.bytes)) = some (some (.int .i32 0), 1, 4) := by kernel_rfl

/-- '[]byte(s)'. -/
theorem bs_convert (w : World) (s : ByteArray) (hs : s.size ≤ 281474976710656) :
    Bs (Lib.bytesWorld w 5 s) (some ⟨w.heap.size, 0, none⟩) s.size (grownCap w s.size 0 5) s.data.toList ∧ Below w.heap.size w (Lib.bytesWorld w 5 s) := by
  have hl : s.data.toList.length = s.size := by rw [Array.length_toList]; rfl
  refine ⟨{ len := by rw [bv_length, hl], le := grownCap_ge _ _ _ _, max := ?_, nil := (fun h => by cases h), cell := fun h0 => ⟨w.heap.size, 0, rfl, by rw [Lib.bytesWorld_size]; omega, ?_⟩ }, ?_⟩
  · have := grownCap_le_maxLen w s.size 0 5 (by unfold maxLen; omega)
    unfold maxLen at this
    omega
  · intro j u hu
    obtain ⟨x, hx, rfl⟩ := bv_get hu
    have hj : j < s.size := by rw [← hl]; exact (List.getElem?_eq_some_iff.1 hx).1
    rw [Nat.zero_add, Lib.bytesWorld_cell w 5 s j hj, List.getD_eq_getElem?_getD, hx]
    rfl
  · exact ⟨rfl, rfl, rfl, by rw [Lib.bytesWorld_size]; omega, fun k hk => Lib.bytesWorld_at_old w 5 s k hk⟩
set_option maxHeartbeats 2000000 in
set_option maxRecDepth 100000 in
/-- The document's Runes. -/
theorem refRunes_any (s : ByteArray) (hs : s.size ≤ 35184372088832) (w : World) :
    Calls Tryz.prog 84 #[.string s] w fun e w' => ∃ A n c ok, e = .returned (.tuple #[.slice A n c, .bool ok]) ∧
      ((ok = false ∧ runesW s.data.toList 0 = none) ∨ (ok = true ∧ ∃ rs, runesW s.data.toList 0 = some rs ∧ rs.length = n ∧ OwI w' w.heap.size 21 (.slice A n c) rs)) ∧ Below w.heap.size w w' := by
  obtain ⟨hbs, hbw⟩ := bs_convert w s (by omega)
  have hcv : (convert 9 41 (.string s)).run Tryz.prog w = .ok (.slice (some ⟨w.heap.size, 0, none⟩) s.size (grownCap w s.size 0 5)) (Lib.bytesWorld w 5 s) :=
    Lib.run_convert_string_bytes w 9 41 5 s Tryz.underlying9 Tryz.underlying41 Tryz.underlying5
  obtain ⟨cb, hcb⟩ : ∃ cb, grownCap w s.size 0 5 = cb := ⟨_, rfl⟩
  obtain ⟨wb, hwb⟩ : ∃ wb, Lib.bytesWorld w 5 s = wb := ⟨_, rfl⟩
  rw [hcb, hwb] at hcv
  rw [hcb, hwb] at hbs
  rw [hwb] at hbw
  clear hcb hwb
  obtain ⟨n, hn⟩ : ∃ n, s.size = n := ⟨_, rfl⟩
  rw [hn] at hs hcv hbs
  obtain ⟨l, hl⟩ : ∃ l, s.data.toList = l := ⟨_, rfl⟩
  rw [hl] at hbs ⊢
  clear hl hn
  have HL : Hid (l.length = n) := hbs.len
  have hB := hbw.size
  have hbw' := Lib.hid hbw
  clear hbw
  go_enter Tryz.func84, Tryz.ntmps84
  go_wp2_with fail
  go_loopw [5, 6] (fun out v wr => ∃ (k : Nat) (A : Option Addr) (c m : Nat) (rs : List Nat), k ≤ n ∧ m ≤ k ∧ v = .int .i64 (k : Nat) ∧ out = .slice A m c ∧ rs.length = m ∧ Hid (runesW l 0 = (runesW l k).map (rs ++ ·)) ∧ Hid (OwI wr wb.heap.size 21 out rs) ∧ Hid (Below wb.heap.size wb wr)) (fun _ v _ => n - (intOf v).toNat)
  case atStart => exact ⟨0, none, 0, 0, [], by omega, by omega, rfl, rfl, rfl, Lib.hid (by cases runesW l 0 <;> simp), Lib.hid (OwI.nil _ _ _), Lib.hid (Below.refl _ _)⟩
  case round =>
    obtain ⟨k, A, c, m, rs, hk, hmk, rfl, rfl, hm, hr, ho, hbb⟩ := hrel
    by_cases hlt : k < n
    · have i0 : decide ((k : Int) < (n : Int)) = true := by simp; omega
      have hl : k < l.length := by rw [HL.out]; exact hlt
      have hle := nx_le hl
      rw [HL.out] at hle
      have hc := refNext_any _ n cb l k (by omega) wr (hbs.below hbb.out)
      rw [nxI_nat] at hc
      obtain ⟨P, hP⟩ : ∃ P, nx l k = P := ⟨_, rfl⟩
      rw [hP] at hc hle
      have hP' := Lib.hid hP
      clear hP
      obtain ⟨r, d⟩ := P
      unfold nxV at hc
      simp only at hc hle
      go_wp2_with fail
      refine hc.mono ?_
      rintro e w1 ⟨rfl, hb1⟩
      have hxb := Lib.hid (hbb.out.trans (hb1.mono hbb.out.size))
      have ho1 := Lib.hid (ho.out.below hb1)
      have hsz1 := hb1.size
      have hB0 := hbb.out.size
      clear hb1 hc
      have hl' := Lib.hid hl
      clear hl
      by_cases hd : d = 0
      · subst hd
        go_wp2_with fail
        go_ret2
        refine ⟨_, _, _, _, rfl, .inl ⟨rfl, ?_⟩, hbw'.out.trans (hxb.out.mono hB)⟩
        rw [hr.out, runesW_stop hl'.out (by rw [hP'.out])]
        rfl
      · have j1 : ((d : Int) == 0) = false := by rw [beq_eq_false_iff_ne]; omega
        have j2 : decide ((d : Int) = 0) = false := by simp; omega
        go_wp2_with (at_builtin; apply stop_here)
        refine Stop.go (append_rune _ 113 21 Tryz.underlying113 i32_info rfl _ _ rfl wb.heap.size _ rs rfl (ho1.out.below (below_alloc _ _)) _ 1 r rfl ?_ (m + 1) (by omega) (by omega) (by simp; omega) ?_)
        · exact rd_one _ _ _
        intro A' c' w' h1 h2 h3
        have h1' := Lib.hid h1
        have hxb3 := Lib.hid ((hxb.out.trans ((below_alloc _ _).mono hxb.out.size)).trans h3)
        clear h1 h2 h3
        go_wp2_with fail
        go_roundw
        case rel =>
          refine ⟨k + d, A', c', m + 1, rs ++ [r], by omega, by omega, by go_num, rfl, by simp; omega, Lib.hid ?_, h1', hxb3⟩
          have := runesW_on hl'.out (by rw [hP'.out]; exact hd)
          rw [hP'.out] at this
          rw [hr.out, this]
          cases runesW l (k + d) <;> simp
        case measure => simp [intOf]; omega
    · have i0 : decide ((k : Int) < (n : Int)) = false := by simp; omega
      go_wp2_with fail
      go_ret2
      refine ⟨_, _, _, _, rfl, .inr ⟨rfl, rs, ?_, hm, ownsRow_base ho.out hB⟩, hbw'.out.trans (hbb.out.mono hB)⟩
      rw [hr.out, runesW_end (by rw [HL.out]; omega)]
      simp

set_option maxHeartbeats 2000000 in
set_option maxRecDepth 100000 in
/-- The document's Name. -/
theorem refName_any (s : ByteArray) (hs : s.size ≤ 35184372088832) (w : World) :
    Calls Tryz.prog 54 #[.string s] w fun e w' => e = .returned (.bool (nameR s.data.toList)) ∧ Below w.heap.size w w' := by
  obtain ⟨R, hR⟩ : ∃ R, nameR s.data.toList = R := ⟨_, rfl⟩
  rw [hR]
  have hR' := Lib.hid hR
  clear hR
  go_enter Tryz.func54, Tryz.ntmps54
  go_wp2_with fail
  refine (refRunes_any s hs w).mono ?_
  rintro e w1 ⟨A, n, c, ok, rfl, hok, hb⟩
  have hb' := Lib.hid hb
  clear hb
  rcases hok with ⟨rfl, hno⟩ | ⟨rfl, rs, hrs, hn, ho⟩
  · have hr : R = false := by rw [← hR'.out, nameR, hno]
    subst hr
    clear hno
    go_wp2_with fail
    go_ret
    exact ⟨rfl, hb'.out⟩
  · have hrd := ho.rd
    have hm := hrd.max
    have hle := hrd.le
    have ho' := Lib.hid ho
    have hrs' := Lib.hid hrs
    have hn' := Lib.hid hn
    clear ho hrs
    cases rs with
    | nil =>
      have hr : R = false := by rw [← hR'.out, nameR, hrs'.out]
      subst hr
      simp at hn
      subst hn
      go_wp2_with fail
      go_ret
      exact ⟨rfl, hb'.out⟩
    | cons r rs' =>
      have hR2 : R = (Begins (r : Nat) && ((r :: rs').all fun x => GoesOn (x : Nat))) := by rw [← hR'.out, nameR, hrs'.out]; simp
      have hn0 : 0 < n := by rw [← hn'.out]; simp
      clear hn
      obtain ⟨b, off, u, rfl, hbl, hu, hc⟩ := hrd.at_ hn0
      simp at hu
      subst hu
      rw [Nat.add_zero] at hc
      have hR2' := Lib.hid hR2
      clear hR2
      have j1 : ((n : Int) == 0) = false := by rw [beq_eq_false_iff_ne]; omega
      have j2 : decide ((n : Int) = 0) = false := by simp; omega
      have j3 : (0 : Int) < (n : Int) := by omega
      cases hbg : Begins (r : Nat)
      · have hr : R = false := by rw [hR2'.out, hbg, Bool.false_and]
        subst hr
        go_wp2_with fail
        refine (refbegins_any r w1).mono ?_
        rintro e w2 ⟨rfl, rfl⟩
        rw [hbg]
        go_wp2_with fail
        go_ret
        exact ⟨rfl, hb'.out⟩
      · have hr : R = ((r :: rs').all fun x => GoesOn (x : Nat)) := by rw [hR2'.out, hbg, Bool.true_and]
        have hr' := Lib.hid hr
        clear hr
        go_wp2_with fail
        refine (refbegins_any r w1).mono ?_
        rintro e w2 ⟨rfl, rfl⟩
        rw [hbg]
        go_wp2_with fail
        go_loop [5] (fun v => ∃ k : Nat, k ≤ n ∧ v = .int .i64 (k : Nat) ∧ Hid (((r :: rs').take k).all fun x => GoesOn (x : Nat))) (fun v => n - (intOf v).toNat)
        case atStart => exact ⟨0, by omega, rfl, Lib.hid rfl⟩
        case round =>
          obtain ⟨k, hk, rfl, ha⟩ := hrel
          by_cases hlt : k < n
          · have i0 : decide ((k : Int) < (n : Int)) = true := by simp; omega
            obtain ⟨b', off', u, he, _, hu, hck⟩ := hrd.at_ hlt
            simp only [Option.some.injEq, Addr.mk.injEq, and_true] at he
            obtain ⟨rfl, rfl⟩ := he
            rw [List.getElem?_map, Option.map_eq_some_iff] at hu
            obtain ⟨x, hx, rfl⟩ := hu
            have hx' := Lib.hid hx
            clear hx
            have i1 : (k : Int) < (n : Int) := by omega
            go_wp2_with fail
            refine (refgoeson_any x w2).mono ?_
            rintro e w3 ⟨rfl, rfl⟩
            cases hg : GoesOn (x : Nat)
            · have hr : R = false := by
                rw [hr'.out, List.all_eq_false]
                exact ⟨x, List.mem_of_getElem? hx'.out, by rw [hg]; simp⟩
              subst hr
              go_wp2_with fail
              go_ret
              exact ⟨rfl, hb'.out⟩
            · go_wp2_with fail
              go_round
              case rel =>
                refine ⟨k + 1, by omega, by go_num, Lib.hid ?_⟩
                rw [take_snoc hx'.out, List.all_append, ha.out]
                simp [hg]
              case measure => simp [intOf]; omega
          · have i0 : decide ((k : Int) < (n : Int)) = false := by simp; omega
            have hr : R = true := by
              have := ha.out
              rw [List.take_of_length_le (by have := hn'.out; omega)] at this
              rw [hr'.out, this]
            subst hr
            go_wp2_with fail
            go_ret
            exact ⟨rfl, hb'.out⟩
end Go.Proofs.YtokdnhdfmgfkeaaGreatDoor.UtfW
end
