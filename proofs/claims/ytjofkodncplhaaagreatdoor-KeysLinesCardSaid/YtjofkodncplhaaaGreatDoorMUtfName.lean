/- Name of both packages. -/
import Derived.Test.YtjofkodncplhaaaGreatDoorMUtfE
import Derived.Lib.OthersKept
import Derived.Shelf.Unicode.ValidAny
namespace Go.Proofs
open Go.Shelf Go.RowKit

shelf_lay Lays.n196 Nm 196 at Tryz as Tryz.lays196

end Go.Proofs
namespace Go.Proofs.YtjofkodncplhaaaGreatDoor.UtfW
open Go.RowKit

theorem validString_any (s : ByteArray) (w : World) (hs : s.size ≤ 281474976710656) (hU : Ut w) :
    Calls Tryz.prog 86 #[.string s] w fun e w' => e = .returned (.bool (validW s.data.toList 0)) ∧ Below w.heap.size w w' := by
  have h := Any.utf8_ValidString Tryz.lays196 s w (by omega) hU.tabs
  rw [validD_eq] at h
  exact h

theorem nameW_end {l : List UInt8} {k : Nat} (h : l.length ≤ k) : nameW l k = true := by
  rw [nameW, dif_neg (by omega)]
theorem nameW_stop {l : List UInt8} {k : Nat} (h : k < l.length) (h2 : (k = 0 ∧ Begins (dec l k).1 = false) ∨ GoesOn (dec l k).1 = false) : nameW l k = false := by
  rw [nameW, dif_pos h, if_pos h2]
theorem nameW_on {l : List UInt8} {k : Nat} (h : k < l.length) (h2 : ¬ ((k = 0 ∧ Begins (dec l k).1 = false) ∨ GoesOn (dec l k).1 = false)) : nameW l k = nameW l (k + (dec l k).2) := by
  rw [nameW, dif_pos h, if_neg h2]

theorem str_ne (s : ByteArray) : (!s.toList.isEmpty) = decide (s.data.toList ≠ []) := by
  rw [Lib.toList_data]
  cases s.data.toList with
  | nil => rfl
  | cons a l => rfl

set_option maxHeartbeats 2000000 in
set_option maxRecDepth 100000 in
/-- The code's Name. -/
theorem utfName_any (s : ByteArray) (hs : s.size ≤ 281474976710656) (w : World) (hU : Ut w) :
    Calls Tryz.prog 62 #[.string s] w fun e w' => e = .returned (.bool (nameC s.data.toList)) ∧ Below w.heap.size w w' := by
  obtain ⟨R, hR⟩ : ∃ R, nameC s.data.toList = R := ⟨_, rfl⟩
  rw [hR]
  have hR' := Lib.hid hR
  clear hR
  obtain ⟨E, hE⟩ : ∃ E, (!s.toList.isEmpty) = E := ⟨_, rfl⟩
  have HE : Hid (decide (s.data.toList ≠ []) = E) := by rw [← hE]; exact Lib.hid (str_ne s).symm
  have HSZ : Hid (s.size = s.data.toList.length) := Lib.hid (by rw [Array.length_toList]; rfl)
  go_enter Tryz.func62, Tryz.ntmps62
  go_wp2_with fail
  refine (validString_any s w hs hU).mono ?_
  rintro e w1 ⟨rfl, hb1⟩
  cases hv : validW s.data.toList 0
  · have hr : R = false := by rw [← hR'.out, nameC, hv, Bool.false_and]
    subst hr
    have hb1' := Lib.hid hb1
    clear hb1
    go_wp2_with fail
    go_ret
    exact ⟨rfl, hb1'.out⟩
  · have hr : nameC s.data.toList = (nameW s.data.toList 0 && E) := by rw [nameC, hv, Bool.true_and, HE.out]
    rw [hR'.out] at hr
    have hr' := Lib.hid hr
    have hv' := Lib.hid hv
    clear hr hv
    have hB := hb1.size
    have hb1' := Lib.hid hb1
    clear hb1
    go_wp2_with fail
    go_loopw [] (fun wr => ∃ pos : Nat, wr.heap[w1.heap.size]? = some (.stringIter s pos) ∧ Hid (nameW s.data.toList pos = nameW s.data.toList 0) ∧ Hid (Below w.heap.size w wr)) (fun wr => s.size - wr.iterPos w1.heap.size)
    case atStart => exact ⟨0, World.iter_heap _ _ _, Lib.hid rfl, Lib.hid (hb1'.out.trans ((Below.refl _ w1).alloc (Nat.le_refl _) _ |>.mono hB))⟩
    case round =>
      obtain ⟨pos, hit, hn, hbw⟩ := hrel
      have hlen := HSZ.out
      have hsz : w1.heap.size < wr.heap.size := (Array.getElem?_eq_some_iff.1 hit).1
      by_cases hp : pos < s.size
      · have hl : pos < s.data.toList.length := by rw [← hlen]; exact hp
        have hnx : ∀ ty, (Instr.next (.pointer (some ⟨w1.heap.size, 0, none⟩)) true ty).run Tryz.prog wr = _ := fun ty => Lib.run_next_any_at wr w1.heap.size s pos ty hit hp
        rw [decode_str] at hnx
        obtain ⟨D, hD⟩ : ∃ D, dec s.data.toList pos = D := ⟨_, rfl⟩
        have hdp := dec_pos s.data.toList pos
        rw [hD] at hnx hdp
        obtain ⟨r, m⟩ := D
        simp only at hnx hdp
        have hit2 := Lib.iterAt_heap wr w1.heap.size s pos (pos + m) hit
        have hbw2 := Lib.hid (Lib.below_iterAt hbw.out (k := w1.heap.size) hB s (pos + m))
        have hsz2 : w1.heap.size < (wr.iterAt w1.heap.size s (pos + m)).heap.size := by rw [Lib.iterAt_size]; exact hsz
        have hsz3 : w.heap.size ≤ (wr.iterAt w1.heap.size s (pos + m)).heap.size := by omega
        obtain ⟨wi, hwi⟩ : ∃ wi, wr.iterAt w1.heap.size s (pos + m) = wi := ⟨_, rfl⟩
        rw [hwi] at hnx hit2 hbw2 hsz2 hsz3
        have hD' := Lib.hid hD
        have hl' := Lib.hid hl
        clear hD hwi hl
        by_cases h0 : pos = 0
        · subst h0
          cases hb : Begins (r : Nat)
          · have hr : R = false := by
              rw [hr'.out, nameW_stop hl'.out (Or.inl ⟨rfl, by rw [hD'.out]; exact hb⟩), Bool.false_and]
            subst hr
            go_wp2_with fail
            refine (utfBegins_any r wi).mono ?_
            rintro e w2 ⟨rfl, hb2⟩
            rw [hb]
            have hx := Lib.hid (hbw2.out.trans (hb2.mono hsz3))
            clear hb2
            go_wp2_with fail
            go_ret
            exact ⟨rfl, hx.out⟩
          · go_wp2_with fail
            refine (utfBegins_any r wi).mono ?_
            rintro e w2 ⟨rfl, hb2⟩
            rw [hb]
            have hit3 := (hb2.block _ hsz2).trans hit2
            have hx := Lib.hid (hbw2.out.trans (hb2.mono hsz3))
            have hsz4 := hb2.size
            clear hb2
            go_wp2_with fail
            refine (utfGoesOn_any r w2).mono ?_
            rintro e w3 ⟨rfl, hb3⟩
            have hit4 := (hb3.block _ (by omega)).trans hit3
            have hx3 := Lib.hid (hx.out.trans (hb3.mono (by omega)))
            clear hb3
            cases hg : GoesOn (r : Nat)
            · have hr : R = false := by
                rw [hr'.out, nameW_stop hl'.out (Or.inr (by rw [hD'.out]; exact hg)), Bool.false_and]
              subst hr
              go_wp2_with fail
              go_ret
              exact ⟨rfl, hx3.out⟩
            · go_wp2_with fail
              go_roundw
              case rel =>
                refine ⟨0 + m, hit4, Lib.hid ?_, hx3⟩
                have := nameW_on hl'.out (by rw [hD'.out]; rintro (⟨_, h⟩ | h); rw [hb] at h; cases h; rw [hg] at h; cases h)
                rw [hD'.out] at this
                exact this.symm
              case measure =>
                simp only [World.iterPos, hit4, hit]
                omega
        · go_wp2_with fail
          refine (utfGoesOn_any r wi).mono ?_
          rintro e w3 ⟨rfl, hb3⟩
          have hit4 := (hb3.block _ (by omega)).trans hit2
          have hx3 := Lib.hid (hbw2.out.trans (hb3.mono (by omega)))
          clear hb3
          cases hg : GoesOn (r : Nat)
          · have hr : R = false := by
              rw [hr'.out, ← hn.out, nameW_stop hl'.out (Or.inr (by rw [hD'.out]; exact hg)), Bool.false_and]
            subst hr
            go_wp2_with fail
            go_ret
            exact ⟨rfl, hx3.out⟩
          · go_wp2_with fail
            go_roundw
            case rel =>
              refine ⟨pos + m, hit4, Lib.hid ?_, hx3⟩
              have := nameW_on hl'.out (by rw [hD'.out]; rintro (⟨h, _⟩ | h); exact h0 h; rw [hg] at h; cases h)
              rw [hD'.out] at this
              rw [← this]
              exact hn.out
            case measure =>
              simp only [World.iterPos, hit4, hit]
              omega
      · have hnx : ∀ ty, (Instr.next (.pointer (some ⟨w1.heap.size, 0, none⟩)) true ty).run Tryz.prog wr = _ := fun ty => Lib.run_next_end_at wr w1.heap.size s pos ty hit hp
        have hr : R = E := by rw [hr'.out, ← hn.out, nameW_end (by rw [← hlen]; omega), Bool.true_and]
        subst hr
        go_wp2_with fail
        go_ret
        exact ⟨rfl, hbw.out⟩

/-- A row of runes of the call's own. -/
def OwI (w : World) (B E : Nat) (v : Value) (rs : List Nat) : Prop := w.ownsRow B E 1 v rs.length (rs.map fun r => Value.int .i32 (r : Nat))

theorem OwI.nil (w : World) (B E : Nat) : OwI w B E (.slice none 0 0) [] := World.ownsRow_nil w B E 1

theorem OwI.below {w w' : World} {B E : Nat} {v : Value} {rs : List Nat} (h1 : OwI w B E v rs) (hb : Below w.heap.size w w') : OwI w' B E v rs :=
  World.ownsRow.kept (row := none) h1 ⟨hb.os, hb.tape, hb.output, hb.size, fun k hk _ => hb.block k hk⟩ (by
    rcases h1.2 with ⟨rfl, _⟩ | ⟨g, cap, cur, rfl, _⟩
    · exact .inl rfl
    · right; simp [Value.ownBlock])

theorem OwI.rd {w : World} {B E : Nat} {A : Option Addr} {n c : Nat} {rs : List Nat} (h : OwI w B E (.slice A n c) rs) : Rd w A n c (rs.map fun r => Value.int .i32 (r : Nat)) := by
  have hn : n = rs.length := by
    rcases h.2 with ⟨hv, h0⟩ | ⟨g, cap, cur, hv, _⟩
    · injection hv with _ h2 _; omega
    · injection hv
  subst hn
  exact rd_of_own h

section
variable {P : Program} {ops : Array Oper} {rest : List Oper} {o : Oper} {a : Act} {Q : Exit → Act → World → Prop}
/-- One rune behind a row of the call's own. -/
theorem append_rune (w : World) (t e : TypeId) (ht : P.underlying t = some (.slice e))
    (hinfo : (P.info? e).map (fun i => (i.zero, i.size, i.bytes)) = some (some (.int .i32 0), 1, 4))
    (hgd : o.guard = none) (s x : Operand)
    (ho : o.op = .call { callee := .builtin .append, args := #[s, x], argTypes := #[t, t] })
    (B : Nat) (v : Value) (la : List Nat) (hs : a.eval s = v) (hown : OwI w B e v la)
    (A : Option Addr) (c : Nat) (r : Nat) (hx : a.eval x = .slice A 1 c) (hr : Rd w A 1 c [.int .i32 (r : Nat)])
    (N : Nat) (hN : la.length + 1 = N) (hsz : N ≤ 35184372088832) (hB : B ≤ w.heap.size)
    (h : ∀ A' c' w', OwI w' B e (.slice A' N c') (la ++ [r]) → w.grownBy w' v.ownBlock → Below B w w' → wpList P ops Q rest (a.put o.dst (.slice A' N c')) w') :
    wpList P ops Q (o :: rest) a w := by
  refine wpList_append_rd w hgd s x t ho B e (.int .i32 0) 4 ht hinfo rfl v la.length (la.map fun r => Value.int .i32 (r : Nat)) hs hown A 1 c [.int .i32 (r : Nat)] hx hr (fun u hu => ?_) (by omega) (by omega) hB ?_
  · rw [List.mem_singleton.1 hu]
    rfl
  intro A' c' w' h1 h2 h3 _
  rw [hN] at h1 ⊢
  refine h A' c' w' ?_ h2 h3
  unfold OwI
  rw [List.map_append, List.length_append, show la.length + [r].length = N from hN]
  exact h1
end

theorem i32_info : (Tryz.prog.info? 21).map (fun i => (i.zero, i.size, i.bytes)) = some (some (.int .i32 0), 1, 4) := by kernel_rfl

/-- '[]byte(s)'. -/
theorem bs_convert (w : World) (s : ByteArray) (hs : s.size ≤ 281474976710656) :
    Bs (Lib.bytesWorld w 5 s) (some ⟨w.heap.size, 0, none⟩) s.size (grownCap w s.size 0 5) s.data.toList ∧ Below w.heap.size w (Lib.bytesWorld w 5 s) := by
  have hl : s.data.toList.length = s.size := by rw [Array.length_toList]; rfl
  refine ⟨{ len := by rw [bv_length, hl], le := grownCap_ge _ _ _ _, max := ?_, nil := (fun h => by cases h), cell := fun h0 => ⟨w.heap.size, 0, rfl, by rw [Lib.bytesWorld_size]; omega, ?_⟩ }, ?_⟩
  · have := grownCap_le_maxLen w s.size 0 5 (by unfold maxLen; omega)
    unfold maxLen at this
    omega
  · intro j u hu
    obtain ⟨x, hx, rfl⟩ := bv_get hu
    have hj : j < s.size := by rw [← hl]; exact (List.getElem?_eq_some_iff.1 hx).1
    rw [Nat.zero_add, Lib.bytesWorld_cell w 5 s j hj, List.getD_eq_getElem?_getD, hx]
    rfl
  · exact ⟨rfl, rfl, rfl, by rw [Lib.bytesWorld_size]; omega, fun k hk => Lib.bytesWorld_at_old w 5 s k hk⟩
end Go.Proofs.YtjofkodncplhaaaGreatDoor.UtfW
