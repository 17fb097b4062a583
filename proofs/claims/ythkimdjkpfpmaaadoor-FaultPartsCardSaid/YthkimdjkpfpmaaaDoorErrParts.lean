/- The law FaultParts. -/
import Derived.Test.YthkimdjkpfpmaaaDoorErrLaws2
namespace Go.Proofs.YthkimdjkpfpmaaaDoor
open Go.RowKit

/-- A row of strings of the call's own. -/
def OwS (w : World) (B E : Nat) (v : Value) (ss : List ByteArray) : Prop := w.ownsRow B E 1 v ss.length (ss.map Value.string)

theorem OwS.ss {w : World} {B E : Nat} {A : Option Addr} {n c : Nat} {ss : List ByteArray} (h : OwS w B E (.slice A n c) ss) : Ss w A n c ss := by
  obtain ⟨A', c', e⟩ := ownsRow_form h
  injection e with e1 e2 e3
  subst e2
  exact rd_of_own h

theorem ows_empty (w : World) (B : Nat) (hB : B ≤ w.heap.size) (E : TypeId) : OwS (w.alloc (.cells #[] E)) B E (.slice (some ⟨w.heap.size, 0, none⟩) 0 0) [] :=
  ⟨by simp, .inr ⟨_, _, #[], rfl, hB, heap_alloc_new w _, Nat.le_refl _, by unfold maxLen; omega, by simp, by simp⟩⟩

theorem wpList_unguard {P : Program} {ops : Array Oper} {rest : List Oper} {o : Oper} {a : Act} {w : World} {Q : Exit → Act → World → Prop} (hw : Region.wanted o (yielded ops a.tmps) = true)
    (h : wpList P ops Q ({ o with guard := none } :: rest) a w) : wpList P ops Q (o :: rest) a w := by
  simp only [wpList, hw, if_true]
  have hn : Region.wanted { o with guard := none } (yielded ops a.tmps) = true := by simp [Region.wanted]
  simp only [wpList, hn, if_true] at h
  exact h

section
variable {P : Program} {ops : Array Oper} {rest : List Oper} {o : Oper} {a : Act} {Q : Exit → Act → World → Prop}
/-- 'append(x, y...)' at strings, x a row of the call's own. -/
theorem append_strs (w : World) (t e : TypeId) (ht : P.underlying t = some (.slice e))
    (hinfo : (P.info? e).map (fun i => (i.zero, i.size, i.bytes)) = some (some (.string ByteArray.empty), 1, 16))
    (hgd : o.guard = none) (s x : Operand)
    (ho : o.op = .call { callee := .builtin .append, args := #[s, x], argTypes := #[t, t] })
    (B : Nat) (v : Value) (la : List ByteArray) (hs : a.eval s = v) (hown : OwS w B e v la)
    (A : Option Addr) (m c : Nat) (lb : List ByteArray) (hx : a.eval x = .slice A m c) (hr : Ss w A m c lb)
    (N : Nat) (hN : la.length + m = N) (hsz : N ≤ 1000000) (hB : B ≤ w.heap.size)
    (h : ∀ A' c' w', OwS w' B e (.slice A' N c') (la ++ lb) → w.grownBy w' v.ownBlock → Below B w w' → wpList P ops Q rest (a.put o.dst (.slice A' N c')) w') :
    wpList P ops Q (o :: rest) a w := by
  refine wpList_append_rd w hgd s x t ho B e (.string ByteArray.empty) 16 ht hinfo rfl v la.length (la.map Value.string) hs hown A m c (lb.map Value.string) hx hr (fun u hu => ?_) (by omega) (by omega) hB ?_
  · obtain ⟨s, _, rfl⟩ := List.mem_map.1 hu
    rfl
  intro A' c' w' h1 h2 h3 _
  have hl := hr.len
  rw [hN] at h1 ⊢
  refine h A' c' w' ?_ h2 h3
  unfold OwS
  rw [List.map_append, List.length_append, show la.length + lb.length = N from by omega]
  exact h1
end

open Go.ChangeShapes in
theorem ss_len {H : Type} {enc : TypeId × Value → H} {P : Program} {w : World} {t e : TypeId} {a : Option Addr} {n c : Nat} {d : DataW H} {p : List MemPlace}
    (ht : P.underlying t = some (.slice e)) (he : P.underlying e = some .string) (hc : P.cellsOf e = 1) (hby : P.bytesOf e = 16)
    (h : DataW.Trod enc P w 0 (fun _ => true) true t (.slice a n c) d p) (hz : Sized P t d) : n ≤ 140737488351232 := by
  obtain ⟨fuel, hf⟩ := h
  rcases open_strings ht he hc hf with ⟨hcs, _⟩ | ⟨x, len, cap, zs, hcs, _, hl, hm, hzl, hx, hcell, hsz⟩
  · simp [Value.cells] at hcs
    obtain ⟨rfl, rfl, rfl⟩ := hcs
    omega
  · simp [Value.cells] at hcs
    obtain ⟨rfl, rfl, rfl⟩ := hcs
    simp only [if_true] at hzl
    injection hx with hx _
    subst hx
    have hr := hz.row ht
    rw [hby] at hr
    simp only [strs, List.length_map, List.length_take, List.length_drop] at hr
    omega

namespace Er
theorem info_str : (Tryd.prog.info? 9).map (fun i => (i.zero, i.size, i.bytes)) = some (some (.string ByteArray.empty), 1, 16) := by kernel_rfl

theorem parts_many (code : Int) (A : Option Addr) (n c : Nat) (A2 : Option Addr) (n2 c2 : Nat) (hn : 50 < n + n2) (hb1 : n ≤ 4611686018427387904) (hb2 : n2 ≤ 4611686018427387903) (B : Nat) (w : World) (hE : En B w) :
    Calls Tryd.prog 3 #[.int .i64 code, .slice A n c, .slice A2 n2 c2] w fun e w' => e = .returned (.bool true) ∧ Below w.heap.size w w' := by
  have i0 : decide ((50 : Int) < (n : Int) + (n2 : Int)) = true := by simp; omega
  have iw : ((n : Int) + (n2 : Int) + 9223372036854775808) % 18446744073709551616 - 9223372036854775808 = (n : Int) + n2 := by omega
  go_enter Tryd.func3, Tryd.ntmps3
  go_wp2_with fail
  refine (awake_any B _ hE).mono ?_
  rintro e w0 ⟨rfl, hb0⟩
  have hb0' := Lib.hid hb0
  clear hb0 hE
  go_wp2_with fail
  go_ret
  exact ⟨rfl, hb0'⟩

theorem parts_ok (A : Option Addr) (n c : Nat) (sa : List ByteArray) (A2 : Option Addr) (n2 c2 : Nat) (sb : List ByteArray) (hn : n + n2 ≤ 50) (B : Nat) (w : World) (hSa : Ss w A n c sa) (hSb : Ss w A2 n2 c2 sb) (hE : En B w) :
    Calls Tryd.prog 3 #[.int .i64 0, .slice A n c, .slice A2 n2 c2] w fun e w' => e = .returned (.bool true) ∧ Below w.heap.size w w' := by
  have i0 : decide ((50 : Int) < (n : Int) + (n2 : Int)) = false := by simp; omega
  go_enter Tryd.func3, Tryd.ntmps3
  go_wp2_with fail
  refine (awake_any B _ hE).mono ?_
  rintro e w0 ⟨rfl, hb0⟩
  have hb0' := Lib.hid hb0
  have hS' := Lib.hid (hSa.below hb0)
  have hS2 := Lib.hid (hSb.below hb0)
  clear hb0 hE hSa hSb
  go_wp2_with fail
  refine (made_ok 1 A n c sa (by omega) _ hS'.out).mono ?_
  rintro e w1 ⟨rfl, hb1⟩
  have hb1' := Lib.hid (hb0'.out.trans (hb1.mono hb0'.out.size))
  have hS3 := Lib.hid (hS2.out.below hb1)
  clear hb1 hb0' hS' hS2
  go_wp2_with fail
  go_loopw [7, 8] (fun v i wr => ∃ k : Nat, k ≤ n2 ∧ i = .int .i64 (k : Nat) ∧ v = .nilIface ∧ wr = w1) (fun _ i _ => n2 - (intOf i).toNat)
  case atStart => exact ⟨0, by omega, rfl, rfl, rfl⟩
  case round =>
    obtain ⟨k, hk, rfl, rfl, rfl⟩ := hrel
    by_cases hlt : k < n2
    · obtain ⟨b, off, s, rfl, hb, hs, hcell⟩ := hS3.out.at_ hlt
      have i2 : decide ((k : Int) < (n2 : Int)) = true := by simp; omega
      have i3 : k < n2 := hlt
      clear hs
      go_wp2_with fail
      refine (Wrap_ok _ _).mono ?_
      rintro e w2 ⟨rfl, rfl⟩
      go_wp2_with fail
      go_roundw
      case rel => exact ⟨k + 1, by omega, by go_num, by simp⟩
      case measure => simp [intOf]; omega
    · have i2 : decide ((k : Int) < (n2 : Int)) = false := by simp; omega
      go_wp2_with fail
      go_ret
      exact ⟨rfl, hb1'⟩

set_option maxHeartbeats 2000000 in
theorem parts_any (code : Int) (h0 : code ≠ 0) (hc : Wf code) (A : Option Addr) (n c : Nat) (sa : List ByteArray) (A2 : Option Addr) (n2 c2 : Nat) (sb : List ByteArray) (hn : n + n2 ≤ 50)
    (hza : ∀ s ∈ sa, s.size ≤ 140737488351232) (hzb : ∀ s ∈ sb, s.size ≤ 140737488351232) (B : Nat) (w : World) (hSa : Ss w A n c sa) (hSb : Ss w A2 n2 c2 sb) (hE : En B w) :
    Calls Tryd.prog 3 #[.int .i64 code, .slice A n c, .slice A2 n2 c2] w fun e w' => e = .returned (.bool true) ∧ Below w.heap.size w w' := by
  have h0' : (code == 0) = false := by simpa using h0
  have i0 : decide ((50 : Int) < (n : Int) + (n2 : Int)) = false := by simp; omega
  have hla := hSa.len
  have hlb := hSb.len
  have hzz : ∀ s ∈ sa ++ sb, s.size ≤ 140737488351232 := fun s hs => by
    rcases List.mem_append.1 hs with h | h
    · exact hza s h
    · exact hzb s h
  have hlr : (sa ++ sb).reverse.length = n + n2 := by simp; omega
  have cT := fun v B w h1 h2 => Text_any code 1 hc ⟨by decide, by decide⟩ (sa ++ sb).reverse (by omega) (fun s hs => hzz s (List.mem_reverse.1 hs)) v B w h1 h2
  have cR := fun A' c' w h => refText_any code 1 h0 hc ⟨by decide, by decide⟩ A' (n + n2) c' (sa ++ sb) (by omega) hzz w h
  have cD := fun v B w h1 h2 => Depth_any code 1 (sa ++ sb).reverse (by omega) v B w h1 h2
  rw [hlr] at cD
  obtain ⟨y, hy⟩ : ∃ y, tx (sa ++ sb).reverse ++ pt code 1 = y := ⟨_, rfl⟩
  rw [hy] at cT cR
  have cT' := Lib.hid cT
  have cR' := Lib.hid cR
  have cD' := Lib.hid cD
  have hE' := Lib.hid hE
  have hA0 := Lib.hid hSa
  have hB0 := Lib.hid hSb
  clear hy cT cR cD hE hSa hSb hza hzb hzz hlr
  go_enter Tryd.func3, Tryd.ntmps3
  go_wp2_with fail
  refine (awake_any B _ hE'.out).mono ?_
  rintro e w0 ⟨rfl, hb0⟩
  have hb0' := Lib.hid hb0
  have hS' := Lib.hid (hA0.out.below hb0)
  clear hb0
  go_wp2_with fail
  refine (made_any code 1 h0 A n c sa (by omega) _ hS'.out).mono ?_
  rintro e w1 ⟨v, rfl, hb1, hf1⟩
  have hb1' := Lib.hid (hb0'.out.trans (hb1.mono hb0'.out.size))
  have hf1' := Lib.hid hf1
  clear hb1 hb0' hS' hf1
  go_wp2_with fail
  go_loopw [7, 8] (fun v i wr => ∃ k : Nat, k ≤ n2 ∧ i = .int .i64 (k : Nat) ∧ Hid (Fe wr wr.heap.size code 1 (sa ++ sb.take k).reverse v) ∧ Hid (Below w.heap.size w wr)) (fun _ i _ => n2 - (intOf i).toNat)
  case atStart => exact ⟨0, by omega, rfl, by simpa using hf1', hb1'⟩
  case round =>
    obtain ⟨k, hk, rfl, hf, hb⟩ := hrel
    by_cases hlt : k < n2
    · obtain ⟨b, off, s, rfl, hbl, hs, hcell⟩ := (hB0.out.below hb.out).at_ hlt
      have i2 : decide ((k : Int) < (n2 : Int)) = true := by simp; omega
      have i3 : k < n2 := hlt
      have hs' : Hid ((sa ++ sb.take (k + 1)).reverse = s :: (sa ++ sb.take k).reverse) := by
        unfold Hid
        rw [take_snoc hs, ← List.append_assoc, List.reverse_append]
        rfl
      clear hs
      go_wp2_with fail
      refine (Wrap_any _ _ _ _ _ _ hf.out).mono ?_
      rintro e w2 ⟨v2, rfl, hb2, hf2⟩
      have hb2' := Lib.hid (hb.out.trans (hb2.mono hb.out.size))
      rw [← hs'.out] at hf2
      have hf2' := Lib.hid hf2
      clear hb2 hf2 hcell
      go_wp2_with fail
      go_roundw
      case rel => exact ⟨k + 1, by omega, by go_num, hf2', hb2'⟩
      case measure => simp [intOf]; omega
    · have i2 : decide ((k : Int) < (n2 : Int)) = false := by simp; omega
      obtain rfl : k = n2 := by omega
      have hft : sb.take k = sb := List.take_of_length_le (by omega)
      have hf' := hf
      rw [hft] at hf'
      clear hf hft
      go_wp2_with fail
      refine (cD'.out _ B _ (hE'.out.sz hb.out) hf'.out).mono ?_
      rintro e w7 ⟨rfl, hb7⟩
      have hb7' := Lib.hid (hb.out.trans (hb7.mono hb.out.size))
      have hf7' := Lib.hid ((hf'.out.on hb7).up hb7.size)
      clear hb7 hf' hb
      go_wp2_with fail
      refine (cT'.out _ B _ (hE'.out.sz hb7'.out) hf7'.out).mono ?_
      rintro e w8 ⟨rfl, hb8⟩
      have hb8' := Lib.hid (hb7'.out.trans (hb8.mono hb7'.out.size))
      clear hb8 hf7' hb7'
      go_wp2_with (at_builtin; apply stop_here)
      have hwb : Below w.heap.size w (w8.alloc (.cells #[] 9)) := hb8'.out.trans ((below_alloc _ _).mono hb8'.out.size)
      refine Stop.go (wpList_unguard rfl (append_strs _ 23 9 Tryd.underlying23 info_str rfl _ _ rfl w.heap.size _ [] rfl (ows_empty _ _ hb8'.out.size _) _ _ _ sa rfl (hA0.out.below hwb) n (by simp) (by omega) hwb.size ?_))
      intro A3 c3 w9 ho1 hg1 hb9
      have hb9' := Lib.hid (hwb.trans hb9)
      have ho1' := Lib.hid ho1
      clear hb9 hwb hg1 ho1 hb8'
      go_wp2_with (at_builtin; apply stop_here)
      refine Stop.go (wpList_unguard rfl (append_strs _ 23 9 Tryd.underlying23 info_str rfl _ _ rfl w.heap.size _ _ rfl ho1'.out _ _ _ sb rfl (hB0.out.below hb9'.out) (n + k) (by simp; omega) (by omega) hb9'.out.size ?_))
      intro A4 c4 w10 ho2 hg2 hb10
      have hb10' := Lib.hid (hb9'.out.trans hb10)
      have ho2' := Lib.hid ho2.ss
      clear hb10 hg2 ho2 hb9' ho1'
      go_wp2_with fail
      refine (cR'.out _ _ _ ho2'.out).mono ?_
      rintro e w11 ⟨rfl, hb11⟩
      have hb11' := Lib.hid (hb10'.out.trans (hb11.mono hb10'.out.size))
      clear hb11 hb10' ho2'
      go_wp2_with fail
      go_ret
      exact ⟨rfl, hb11'⟩
end Er
end Go.Proofs.YthkimdjkpfpmaaaDoor
