/- The law XlexValues, plainly. No program stands here. -/
import Derived.Test.YtokdnhdfmgfkeaaGreatDoorVXlScan
import Derived.Test.YtokdnhdfmgfkeaaGreatDoorVErrWalk2
import Derived.Test.YtokdnhdfmgfkeaaGreatDoorVXlPlaces
section
namespace Go.Proofs.YtokdnhdfmgfkeaaGreatDoor.Xl
open Go.RowKit UtfW

def xmlB : ByteArray := ⟨#[120, 109, 108]⟩
theorem all_long {S : Tx} (h : 65536 < S.length) : allF S = (8, 65536, []) := by
 unfold allF
 rw [if_pos h]
theorem all_byte {S : Tx} (h : S.length ≤ 65536) {k : Int} (hk : badW S 0 = k) (h2 : 0 ≤ k) : allF S = (1, k.toNat, []) := by
 unfold allF
 rw [if_neg (by omega), hk, if_pos h2]
theorem all_scan {S : Tx} (h : S.length ≤ 65536) (h2 : badW S 0 < 0) : allF S = scanF S := by
 unfold allF scanF
 rw [if_neg (by omega), if_neg (by omega)]
 cases decl S with
 | bad c o => rfl
 | ok u n => rfl

section
variable (w : World) (hU : Un w) (A : Option Addr) (n c : Nat) (S : Tx) (hBs : Bs w A n c S) (hn : n ≤ 1000000)
include hU hBs hn
set_option maxHeartbeats 4000000 in
set_option maxRecDepth 100000 in
theorem all_any : Calls Tryz.prog 61 #[.slice A n c] w fun e w' => Below w.heap.size w w' ∧ ∃ va ev, e = .returned (.tuple #[va, ev]) ∧
  (((allF S).1 = 0 ∧ ev = .nilIface ∧ OwTk w' w.heap.size va (allF S).2.2) ∨ ((allF S).1 ≠ 0 ∧ va = .slice none 0 0 ∧ Er.Fe w' w'.heap.size (allF S).1 ((allF S).2.1 : Nat) [xmlB] ev)) := by
 obtain ⟨R, hR⟩ : ∃ R, allF S = R := ⟨_, rfl⟩
 rw [hR]
 have hR' := Lib.hid hR
 have hBs' := Lib.hid hBs
 have hU' := Lib.hid hU
 have hl : S.length = n := hBs.len
 subst hl
 clear hR hBs hU
 go_enter Tryz.func61, Tryz.ntmps61
 go_wp2_with fail
 refine (clone_any A S.length c S w hBs'.out (by omega)).mono ?_
 rintro e w1 ⟨v, rfl, ho1, hb1⟩
 obtain ⟨A2, c2, rfl⟩ := ownsRow_form ho1
 have hbs1 : Bs w1 A2 S.length c2 S := OwB.bs ho1
 have hbA := below_alloc w1 (.cells #[.slice A2 S.length c2, .int .i64 0, .slice none 0 0] 134)
 have hnA := heap_alloc_new w1 (.cells #[.slice A2 S.length c2, .int .i64 0, .slice none 0 0] 134)
 have hne : ∀ a, A2 = some a → 0 < S.length → a.block ≠ w1.heap.size := by
  intro a e h0
  obtain ⟨b9, off, e9, hlt, _⟩ := Rd.cell hbs1 h0
  rw [e] at e9
  injection e9 with e9
  rw [e9]
  exact Nat.ne_of_lt hlt
 have hs2 := Lib.hid (show Xc (w1.alloc (.cells #[.slice A2 S.length c2, .int .i64 0, .slice none 0 0] 134)) w1.heap.size S 0 A2 c2 (.slice none 0 0) from
  ⟨⟨w, hU'.out, hb1.size, hb1.trans (hbA.mono hb1.size)⟩, hnA, Bs.below hbs1 hbA, hne⟩)
 have hb2 := Lib.hid (hb1.trans (hbA.mono hb1.size))
 have hbw := Lib.hid hb1.size
 have hBs2 := Lib.hid (Bs.below hBs'.out hb2.out)
 have hU2 := Lib.hid (hU'.out.below hb2.out)
 clear ho1 hbs1 hbA hnA hne hb1
 go_upto_region 2 with fail
 generalize w1.alloc (.cells #[.slice A2 S.length c2, .int .i64 0, .slice none 0 0] 134) = w2 at hs2 hb2 hBs2 hU2 ⊢
 generalize w1.heap.size = b at hs2 hbw ⊢
 go_wp2_with fail
 refine (utfBad_any A S.length c S (by omega) w2 hBs2.out hU2.out.ut).mono ?_
 rintro e w3 ⟨rfl, hb3⟩
 have hs3 := Lib.hid (hs2.out.below hb3)
 have hb3' := Lib.hid (hb2.out.trans (hb3.mono hb2.out.size))
 clear hb3 hs2 hb2 hBs2 hU2
 obtain ⟨k, hk⟩ : ∃ k, badW S 0 = k := ⟨_, rfl⟩
 rw [hk]
 have hk' := Lib.hid hk
 clear hk
 by_cases hlen : 65536 < S.length
 ·have i0 : decide ((65536 : Int) < (S.length : Int)) = true := by simp; omega
  have hlen' := Lib.hid hlen
  clear hlen
  go_wp2_with fail
  refine (Er.New_any 8 65536 (by decide) w3).mono ?_
  rintro e wx ⟨v1, rfl, hbx, hf1⟩
  have hf1' := Lib.hid hf1
  have hbx' := Lib.hid (hb3'.out.trans (hbx.mono hb3'.out.size))
  obtain ⟨T1, ad1, rfl⟩ := hf1.iface
  clear hf1 hbx
  go_wp2_with fail
  refine (Er.Wrap_any xmlB _ _ _ _ _ hf1'.out).mono ?_
  rintro e wy ⟨v2, rfl, hby, hf2⟩
  have hf2' := Lib.hid hf2
  have hby' := Lib.hid (hbx'.out.trans (hby.mono hbx'.out.size))
  clear hf2 hby
  go_wp2_with fail
  (try simp only [Exit.inBlock, Exit.then])
  go_ret2
  refine ⟨hby'.out, _, _, rfl, .inr ?_⟩
  rw [← hR'.out, all_long hlen'.out]
  exact ⟨by decide, rfl, hf2'.out⟩
 have i0 : decide ((65536 : Int) < (S.length : Int)) = false := by simp; omega
 have hlen' : Hid (S.length ≤ 65536) := Lib.hid (by omega)
 clear hlen
 by_cases hk0 : 0 ≤ k
 ·have i1 : decide (0 ≤ k) = true := by simpa using hk0
  have hres := Lib.hid (all_byte hlen'.out hk'.out hk0)
  have hkn : Hid (((k.toNat : Nat) : Int) = k) := Lib.hid (by omega)
  clear hk0
  go_wp2_with fail
  refine (Er.New_any 1 k (by decide) w3).mono ?_
  rintro e wx ⟨v1, rfl, hbx, hf1⟩
  have hf1' := Lib.hid hf1
  have hbx' := Lib.hid (hb3'.out.trans (hbx.mono hb3'.out.size))
  obtain ⟨T1, ad1, rfl⟩ := hf1.iface
  clear hf1 hbx
  go_wp2_with fail
  refine (Er.Wrap_any xmlB _ _ _ _ _ hf1'.out).mono ?_
  rintro e wy ⟨v2, rfl, hby, hf2⟩
  have hf2' := Lib.hid hf2
  have hby' := Lib.hid (hbx'.out.trans (hby.mono hbx'.out.size))
  clear hf2 hby
  go_wp2_with fail
  (try simp only [Exit.inBlock, Exit.then])
  go_ret2
  refine ⟨hby'.out, _, _, rfl, .inr ?_⟩
  rw [← hR'.out, hres.out]
  refine ⟨by show (1 : Int) ≠ 0; decide, rfl, ?_⟩
  show Er.Fe _ _ 1 ((k.toNat : Nat) : Int) _ _
  rw [hkn.out]
  exact hf2'.out
 have i1 : decide (0 ≤ k) = false := by simpa using hk0
 have hres := Lib.hid (all_scan hlen'.out (by rw [hk'.out]; omega))
 clear hk0
 go_wp2_with fail
 refine (scan_any w3 b S A2 c2 hs3.out hlen'.out).mono ?_
 rintro e w4 ⟨rfl, hg4, hG⟩
 have hb4 := Lib.hid (hb3'.out.trans (below_row hg4 hbw.out hb3'.out.size))
 by_cases hc0 : (scanF S).1 = 0
 ·obtain ⟨va, q, hs4, ho4⟩ := hG hc0
  have hs4' := Lib.hid hs4
  have ho4' := Lib.hid (OwTk.low ho4 hb3'.out.size)
  have c2' := hs4.c2
  have hc0' := Lib.hid hc0
  rw [hc0]
  clear hs4 ho4 hG hc0 hg4
  go_wp2_with fail
  (try simp only [Exit.inBlock, Exit.then])
  go_ret2
  refine ⟨hb4.out, _, _, rfl, .inl ?_⟩
  rw [← hR'.out, hres.out]
  exact ⟨hc0'.out, rfl, ho4'.out⟩
 ·have i2 : ((scanF S).1 != 0) = true := by unfold bne; rw [beq_eq_false_iff_ne.2 hc0]; rfl
  have hcH := Lib.hid hc0
  obtain ⟨EC, hEC⟩ : ∃ EC, (scanF S).1 = EC := ⟨_, rfl⟩
  obtain ⟨EO, hEO⟩ : ∃ EO, (scanF S).2.1 = EO := ⟨_, rfl⟩
  rw [hEC] at i2 ⊢
  rw [hEO]
  have hEC' := Lib.hid hEC
  have hEO' := Lib.hid hEO
  have i3 : (EC == 0) = false := by simpa using i2
  have hne : EC ≠ 0 := by simpa using i3
  have hneH := Lib.hid hne
  clear hG hc0 hg4 hEC hEO hne
  go_wp2_with fail
  refine (Er.New_any EC (EO : Nat) (hneH.out) w4).mono ?_
  rintro e wx ⟨v1, rfl, hbx, hf1⟩
  have hf1' := Lib.hid hf1
  have hbx' := Lib.hid (hb4.out.trans (hbx.mono hb4.out.size))
  obtain ⟨T1, ad1, rfl⟩ := hf1.iface
  clear hf1 hbx
  go_wp2_with fail
  refine (Er.Wrap_any xmlB _ _ _ _ _ hf1'.out).mono ?_
  rintro e wy ⟨v2, rfl, hby, hf2⟩
  have hf2' := Lib.hid hf2
  have hby' := Lib.hid (hbx'.out.trans (hby.mono hbx'.out.size))
  clear hf2 hby
  go_wp2_with fail
  (try simp only [Exit.inBlock, Exit.then])
  go_ret2
  refine ⟨hby'.out, _, _, rfl, .inr ?_⟩
  rw [← hR'.out, hres.out, hEC'.out, hEO'.out]
  exact ⟨hneH.out, rfl, hf2'.out⟩
end
end Go.Proofs.YtokdnhdfmgfkeaaGreatDoor.Xl
end

section
namespace Go.Proofs.YtokdnhdfmgfkeaaGreatDoor.Xl
open Go.RowKit UtfW Er

def AllP (S : Tx) (w : World) (e : Ending) (w' : World) : Prop := Below w.heap.size w w' ∧ ∃ va ev, e = .returned (.tuple #[va, ev]) ∧
  (((allF S).1 = 0 ∧ ev = .nilIface ∧ OwTk w' w.heap.size va (allF S).2.2) ∨ ((allF S).1 ≠ 0 ∧ va = .slice none 0 0 ∧ Er.Fe w' w'.heap.size (allF S).1 ((allF S).2.1 : Nat) [xmlB] ev))
theorem AllP.ok {S : Tx} {w w' : World} {e : Ending} {p : Nat} {ts : List Tok} (h : AllP S w e w') (hr : allF S = (0, p, ts)) : Below w.heap.size w w' ∧ ∃ A c, e = .returned (.tuple #[.slice A ts.length c, .nilIface]) ∧ OwTk w' w.heap.size (.slice A ts.length c) ts := by
 obtain ⟨h1, va, ev, rfl, h2⟩ := h
 rw [hr] at h2
 rcases h2 with ⟨_, rfl, h3⟩ | ⟨h3, _⟩
 ·obtain ⟨A, c, rfl⟩ := OwS.form h3
  exact ⟨h1, A, c, rfl, h3⟩
 ·exact absurd rfl h3
theorem AllP.no {S : Tx} {w w' : World} {e : Ending} {cd : Int} {p : Nat} {ts : List Tok} (h : AllP S w e w') (hr : allF S = (cd, p, ts)) (hc : cd ≠ 0) : Below w.heap.size w w' ∧ ∃ v, e = .returned (.tuple #[.slice none 0 0, v]) ∧ Er.Fe w' w'.heap.size cd (p : Nat) [xmlB] v := by
 obtain ⟨h1, va, ev, rfl, h2⟩ := h
 rw [hr] at h2
 rcases h2 with ⟨h3, _⟩ | ⟨_, rfl, h4⟩
 ·exact absurd h3 hc
 ·exact ⟨h1, ev, rfl, h4⟩
theorem All_any (w : World) (hU : Un w) (A : Option Addr) (n c : Nat) (S : Tx) (hBs : Bs w A n c S) (hn : n ≤ 1000000) : Calls Tryz.prog 61 #[.slice A n c] w fun e w' => AllP S w e w' := all_any w hU A n c S hBs hn
theorem Fe.later {w w' : World} {code at_ : Int} {ws : List ByteArray} {e : Value} (h : Fe w w.heap.size code at_ ws e) (hb : Below w.heap.size w w') : Fe w' w'.heap.size code at_ ws e := (h.on hb).up hb.size

theorem tk_at {w : World} {B : Nat} {A : Option Addr} {n c : Nat} {ts : List Tok} (h : OwTk w B (.slice A n c) ts) {i : Nat} {t : Tok} (hi : ts[i]? = some t) : ∃ b off At ct, A = some ⟨b, off, none⟩ ∧ i < n ∧
  w.cell? ⟨b, off + i * 5, none⟩ = some (.int .i64 (t.kind : Nat)) ∧ w.cell? ⟨b, off + i * 5 + 1, none⟩ = some (.int .i64 (t.at_ : Nat)) ∧ w.cell? ⟨b, off + i * 5 + 2, none⟩ = some (.string (strOf t.name)) ∧
  w.cell? ⟨b, off + i * 5 + 3, none⟩ = some (.string (strOf t.text)) ∧ w.cell? ⟨b, off + i * 5 + 4, none⟩ = some (.slice At t.attrs.length ct) ∧ OwS AtEl 2 w B 55 (.slice At t.attrs.length ct) t.attrs := by
 have hs := OwS.sq' h (by decide)
 have hlen := hs.len
 have hlt := (List.getElem?_eq_some_iff.1 hi).1
 obtain ⟨b, off, x, vs, e, _, hx, _, ⟨At, ct, rfl, ho⟩, hc⟩ := hs.at_ (i := i) (by omega)
 rw [hi] at hx
 injection hx with hx
 subst hx
 exact ⟨b, off, At, ct, e, by omega, hc 0 _ rfl, hc 1 _ rfl, hc 2 _ rfl, hc 3 _ rfl, hc 4 _ rfl, ho⟩

end Go.Proofs.YtokdnhdfmgfkeaaGreatDoor.Xl
end

section
namespace Go.Proofs.YtokdnhdfmgfkeaaGreatDoor.Xl
open Go.RowKit UtfW Qx

/-! ### Plain characters -/
/-! ### Numbers -/
theorem find_semi : ∀ {x : Tx}, 59 ∉ x → ∀ t, find [59] (x ++ 59 :: t) = some x.length
 | [], _, t => by
  rw [List.nil_append, find, if_pos (by simp [List.isPrefixOf])]
  rfl
 | b :: x, h, t => by
  rw [List.mem_cons, not_or] at h
  rw [List.cons_append, find, if_neg, find_semi h.2 t]
  ·rfl
  ·simp only [List.isPrefixOf, Bool.and_true, beq_iff_eq]
   exact h.1
theorem refR_of {x : Tx} (h : 59 ∉ x) (t : Tx) : refR (x ++ 59 :: t) = match refV x with
  | none => .bad 5 0
  | some v => .ok (encB (v : Nat)) (x.length + 2) := by
 unfold refR
 rw [find_semi h t]
 simp only
 rw [List.take_left]
 rfl
end Go.Proofs.YtokdnhdfmgfkeaaGreatDoor.Xl
end

section
namespace Go.Proofs.YtokdnhdfmgfkeaaGreatDoor.Xl
open Go.RowKit UtfW Qx

def bl (c : UInt8) : UInt8 := if c = 9 ∨ c = 10 then 32 else c
theorem blanks_0 {c : UInt8} {t : Tx} (h : Qx.blank c = false) : blanks (c :: t) = 0 := by
 unfold blanks
 rw [List.takeWhile_cons, if_neg (by rw [h]; decide)]
 rfl

end Go.Proofs.YtokdnhdfmgfkeaaGreatDoor.Xl
end
