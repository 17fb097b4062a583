/- Fair of the document. Printed by xp_rfair1.py. -/
import Derived.Test.YtokdnhdfmgfkeaaGreatDoorUXlStep
import Derived.Test.YtokdnhdfmgfkeaaGreatDoorURowS
import Derived.Laws.ResultCell
import Derived.Test.YtokdnhdfmgfkeaaGreatDoorUXpLib
import Derived.Test.YtokdnhdfmgfkeaaGreatDoorUStrLaws
import Derived.Lib.OthersKept
import Derived.Shelf.Unicode.ValidAny
import Derived.Test.YtokdnhdfmgfkeaaGreatDoorUUtfEnc
import Derived.Shelf.Lay
import Derived.Ground.NamesProg
import Derived.Shelf.Small.Utf8
import Derived.Shelf.Utf8.AppendRunePlain
import Derived.Test.YtokdnhdfmgfkeaaGreatDoorUXlPlaces
import Derived.Lib.AppendStr
import Derived.Lib.Builder
import Derived.BigRegion
import Derived.Carry
import Derived.Maps.Own
import Derived.Maps.Views
import Derived.StringKeys
import Derived.Deep.QuietTactic
import Derived.BigQuiet
import Derived.Lib.ConvBytes
set_option linter.unusedVariables false
set_option linter.unusedSimpArgs false
section
namespace Go.Proofs.YtokdnhdfmgfkeaaGreatDoor.Xl
open Go.RowKit UtfW

def Ab (w : World) (b : Nat) (nm v : ByteArray) : Prop := w.heap[b]? = some (.cells #[.string nm, .string v] 55)
def Tb (w : World) (b : Nat) (kd at_ : Int) (nm tx : ByteArray) (va : Value) : Prop := w.heap[b]? = some (.cells #[.int .i64 kd, .int .i64 at_, .string nm, .string tx, va] 87)

section
variable {w w' : World} {b : Nat} {nm v nm' v' tx tx' : ByteArray} {kd at_ kd' at' : Int} {va va' : Value}
theorem Ab.lt (h : Ab w b nm v) : b < w.heap.size := (Array.getElem?_eq_some_iff.1 h).1
theorem Ab.frozen (h : Ab w b nm v) (i : Nat) : w.frozen? ⟨b, i, none⟩ = false := frozen_of_row w b i _ _ h
theorem Ab.c0 (h : Ab w b nm v) : w.cell? ⟨b, 0, none⟩ = some (.string nm) := by unfold Ab at h; simp [World.cell?, h]
theorem Ab.c1 (h : Ab w b nm v) : w.cell? ⟨b, 1, none⟩ = some (.string v) := by unfold Ab at h; simp [World.cell?, h]
theorem Ab.on {row : Nat} (h : Ab w b nm v) (hg : w.grownBy w' (some row)) (hne : b ≠ row) : Ab w' b nm v := (hg.block b h.lt (by simpa using hne)).trans h
theorem Ab.below (h : Ab w b nm v) (hb : Below w.heap.size w w') : Ab w' b nm v := (hb.block b h.lt).trans h
theorem Tb.lt (h : Tb w b kd at_ nm tx va) : b < w.heap.size := (Array.getElem?_eq_some_iff.1 h).1
theorem Tb.frozen (h : Tb w b kd at_ nm tx va) (i : Nat) : w.frozen? ⟨b, i, none⟩ = false := frozen_of_row w b i _ _ h
theorem Tb.cell (h : Tb w b kd at_ nm tx va) (i : Nat) : w.cell? ⟨b, i, none⟩ = (#[.int .i64 kd, .int .i64 at_, .string nm, .string tx, va] : Array Value)[i]? := by unfold Tb at h; simp [World.cell?, h]
theorem Tb.on {row : Nat} (h : Tb w b kd at_ nm tx va) (hg : w.grownBy w' (some row)) (hne : b ≠ row) : Tb w' b kd at_ nm tx va := (hg.block b h.lt (by simpa using hne)).trans h
theorem Tb.below (h : Tb w b kd at_ nm tx va) (hb : Below w.heap.size w w') : Tb w' b kd at_ nm tx va := (hb.block b h.lt).trans h
end
def AtEl (_ : World) (vs : List Value) (a : At) : Prop := vs = [.string (strOf a.1), .string (strOf a.2)]
theorem AtEl.to {w w' : World} : ∀ vs a, AtEl w vs a → AtEl w' vs a := fun _ _ h => h
end Go.Proofs.YtokdnhdfmgfkeaaGreatDoor.Xl
end

section
namespace Go.Proofs.YtokdnhdfmgfkeaaGreatDoor.Xt
open Go.RowKit UtfW Xl

theorem cell_same {w w' : World} {b i : Nat} (h : w'.heap[b]? = w.heap[b]?) : w'.cell? ⟨b, i, none⟩ = w.cell? ⟨b, i, none⟩ := by
  simp only [World.cell?, h]
theorem Sq.stay {α : Type} {El : World → List Value → α → Prop} {k : Nat} {w w' : World} {A : Option Addr} {n c : Nat} {l : List α} (h : Sq El k w A n c l) (hX : ∀ a, A = some a → 0 < n → w'.heap[a.block]? = w.heap[a.block]?) (hE : ∀ vs x, El w vs x → El w' vs x) : Sq El k w' A n c l :=
  ⟨h.len, h.le, h.max, h.nil, fun hn => by
    obtain ⟨b, off, e, hlt, hc⟩ := h.cell hn
    have hs : w'.heap[b]? = w.heap[b]? := hX ⟨b, off, none⟩ e hn
    refine ⟨b, off, e, ?_, fun i x hi => ?_⟩
    · rw [Array.getElem?_eq_getElem hlt] at hs
      exact (Array.getElem?_eq_some_iff.1 hs).1
    · obtain ⟨vs, h1, h2, h3⟩ := hc i x hi
      exact ⟨vs, h1, hE _ _ h2, fun j v hj => (cell_same hs).trans (h3 j v hj)⟩⟩

inductive NdI (X : Nat → Prop) (w : World) : List Value → Nd → Prop
  | mk (kind : Int) (nm tx : Tx) (as_ : List At) (ks : List Nd) (A : Option Addr) (ca : Nat) (A2 : Option Addr) (c2 : Nat) (f : Nat → List Value)
    (hA : Sq AtEl 2 w A as_.length ca as_) (hXA : ∀ a, A = some a → 0 < as_.length → X a.block)
    (hK : Sq (fun _ vs i => vs = f i) 5 w A2 ks.length c2 (List.range ks.length)) (hXK : ∀ a, A2 = some a → 0 < ks.length → X a.block)
    (hk : ∀ i x, ks[i]? = some x → NdI X w (f i) x) :
    NdI X w [.int .i64 kind, .string (strOf nm), .string (strOf tx), .slice A as_.length ca, .slice A2 ks.length c2] (.mk kind nm tx as_ ks)
abbrev NdE (X : Nat → Prop) : World → List Value → Nd → Prop := fun w => NdI X w

section
variable {X X' : Nat → Prop} {w w' : World} {vs : List Value} {n : Nd}
theorem NdI.stay (h : NdI X w vs n) (hX : ∀ k, X k → X' k ∧ w'.heap[k]? = w.heap[k]?) : NdI X' w' vs n := by
  induction h with
  | mk kind nm tx as_ ks A ca A2 c2 f hA hXA hK hXK hk ih =>
    exact .mk kind nm tx as_ ks A ca A2 c2 f (Sq.stay hA (fun a e h => (hX _ (hXA a e h)).2) (fun _ _ h => h)) (fun a e h => (hX _ (hXA a e h)).1) (Sq.stay hK (fun a e h => (hX _ (hXK a e h)).2) (fun _ _ h => h)) (fun a e h => (hX _ (hXK a e h)).1) ih
theorem NdI.len (h : NdI X w vs n) : vs.length = 5 := by cases h; rfl
theorem NdI.one (h : NdI X w vs n) : ∀ u ∈ vs, u.oneCell' = true := by
  cases h
  intro u hu
  simp at hu
  rcases hu with rfl | rfl | rfl | rfl | rfl <;> rfl
theorem NdI.cells {kind : Int} {nm tx : Tx} {as_ : List At} {ks : List Nd} (h : NdI X w vs (.mk kind nm tx as_ ks)) : ∃ A ca A2 c2, vs = [.int .i64 kind, .string (strOf nm), .string (strOf tx), .slice A as_.length ca, .slice A2 ks.length c2] ∧
    Sq AtEl 2 w A as_.length ca as_ ∧ Sq (NdE X) 5 w A2 ks.length c2 ks ∧ (∀ a, A = some a → 0 < as_.length → X a.block) ∧ (∀ a, A2 = some a → 0 < ks.length → X a.block) := by
  cases h with
  | mk _ _ _ _ _ A ca A2 c2 f hA hXA hK hXK hk =>
    refine ⟨A, ca, A2, c2, rfl, hA, ?_, hXA, hXK⟩
    refine ⟨rfl, hK.le, hK.max, hK.nil, fun hn => ?_⟩
    obtain ⟨b, off, e, hlt, hc⟩ := hK.cell hn
    refine ⟨b, off, e, hlt, fun i x hi => ?_⟩
    have hil : i < ks.length := (List.getElem?_eq_some_iff.1 hi).1
    obtain ⟨us, h1, rfl, h3⟩ := hc i i (by rw [List.getElem?_range hil])
    exact ⟨f i, h1, hk i x hi, h3⟩
theorem NdI.make {kind : Int} {nm tx : Tx} {as_ : List At} {ks : List Nd} {A : Option Addr} {ca : Nat} {A2 : Option Addr} {c2 : Nat} (hA : Sq AtEl 2 w A as_.length ca as_) (hXA : ∀ a, A = some a → 0 < as_.length → X a.block)
    (hK : Sq (NdE X) 5 w A2 ks.length c2 ks) (hXK : ∀ a, A2 = some a → 0 < ks.length → X a.block) :
    NdI X w [.int .i64 kind, .string (strOf nm), .string (strOf tx), .slice A as_.length ca, .slice A2 ks.length c2] (.mk kind nm tx as_ ks) := by
  by_cases hn : 0 < ks.length
  · obtain ⟨b, off, e, hlt, hc⟩ := hK.cell hn
    have hf : ∀ i, ∃ us : List Value, i < ks.length → us.length = 5 ∧ (∀ x, ks[i]? = some x → NdI X w us x) ∧ ∀ j v, us[j]? = some v → w.cell? ⟨b, off + i * 5 + j, none⟩ = some v := fun i => by
      by_cases hi : i < ks.length
      · have hx : ks[i]? = some ks[i] := List.getElem?_eq_getElem hi
        obtain ⟨us, h1, h2, h3⟩ := hc i _ hx
        exact ⟨us, fun _ => ⟨h1, fun x hx2 => by rw [hx] at hx2; injection hx2 with hx2; rw [← hx2]; exact h2, h3⟩⟩
      · exact ⟨[], fun h => absurd h hi⟩
    obtain ⟨f, hf⟩ := Classical.axiomOfChoice hf
    refine .mk kind nm tx as_ ks A ca A2 c2 f hA hXA ⟨by simp, hK.le, hK.max, hK.nil, fun _ => ⟨b, off, e, hlt, fun i x hi => ?_⟩⟩ hXK (fun i x hi => ?_)
    · have hil : i < ks.length := by have := (List.getElem?_eq_some_iff.1 hi).1; simpa using this
      rw [List.getElem?_range hil] at hi
      injection hi with hi
      subst hi
      obtain ⟨g1, _, g3⟩ := hf i hil
      exact ⟨f i, g1, rfl, g3⟩
    · exact (hf i (List.getElem?_eq_some_iff.1 hi).1).2.1 x hi
  · have hks : ks = [] := List.eq_nil_of_length_eq_zero (by omega)
    subst hks
    exact .mk kind nm tx as_ [] A ca A2 c2 (fun _ => []) hA hXA ⟨rfl, hK.le, hK.max, hK.nil, fun h => absurd h hn⟩ hXK (fun i x hi => by simp at hi)
theorem NdI.later (h : NdI X w vs n) (hX : ∀ k, X k → k < w.heap.size) (hb : Below w.heap.size w w') : NdI X w' vs n := h.stay fun k hk => ⟨hk, hb.block k (hX k hk)⟩
end
end Go.Proofs.YtokdnhdfmgfkeaaGreatDoor.Xt
end

section
namespace Go.Proofs
open Go.Shelf Go.RowKit

shelf_lay Lays.n196 Nm 196 at Tryz as Tryz.lays196

end Go.Proofs
namespace Go.Proofs.YtokdnhdfmgfkeaaGreatDoor.UtfW
open Go.RowKit

theorem validString_any (s : ByteArray) (w : World) (hs : s.size ≤ 281474976710656) (hU : Ut w) :
    Calls Tryz.prog 71 #[.string s] w fun e w' => e = .returned (.bool (validW s.data.toList 0)) ∧ Below w.heap.size w w' := by
  have h := Any.utf8_ValidString Tryz.lays196 s w (by omega) hU.tabs
  rw [validD_eq] at h
  exact h

theorem nameW_end {l : List UInt8} {k : Nat} (h : l.length ≤ k) : nameW l k = true := by
  rw [nameW, dif_neg (by omega)]
theorem nameW_stop {l : List UInt8} {k : Nat} (h : k < l.length) (h2 : (k = 0 ∧ Begins (dec l k).1 = false) ∨ GoesOn (dec l k).1 = false) : nameW l k = false := by
  rw [nameW, dif_pos h, if_pos h2]
theorem nameW_on {l : List UInt8} {k : Nat} (h : k < l.length) (h2 : ¬ ((k = 0 ∧ Begins (dec l k).1 = false) ∨ GoesOn (dec l k).1 = false)) : nameW l k = nameW l (k + (dec l k).2) := by
  rw [nameW, dif_pos h, if_neg h2]

theorem str_ne (s : ByteArray) : (!s.toList.isEmpty) = decide (s.data.toList ≠ []) := by
  rw [Lib.toList_data]
  cases s.data.toList with
  | nil => rfl
  | cons a l => rfl

set_option maxHeartbeats 2000000 in
set_option maxRecDepth 100000 in
theorem utfName_any (s : ByteArray) (hs : s.size ≤ 281474976710656) (w : World) (hU : Ut w) :
    Calls Tryz.prog 42 #[.string s] w fun e w' => e = .returned (.bool (nameC s.data.toList)) ∧ Below w.heap.size w w' := by
  obtain ⟨R, hR⟩ : ∃ R, nameC s.data.toList = R := ⟨_, rfl⟩
  rw [hR]
  have hR' := Lib.hid hR
  clear hR
  obtain ⟨E, hE⟩ : ∃ E, (!s.toList.isEmpty) = E := ⟨_, rfl⟩
  have HE : Hid (decide (s.data.toList ≠ []) = E) := by rw [← hE]; exact Lib.hid (str_ne s).symm
  have HSZ : Hid (s.size = s.data.toList.length) := Lib.hid (by rw [Array.length_toList]; rfl)
  go_enter Tryz.func42, Tryz.ntmps42
  go_wp2_with fail
  refine (validString_any s w hs hU).mono ?_
  rintro e w1 ⟨rfl, hb1⟩
  cases hv : validW s.data.toList 0
  · have hr : R = false := by rw [← hR'.out, nameC, hv, Bool.false_and]
    subst hr
    have hb1' := Lib.hid hb1
    clear hb1
    go_wp2_with fail
    go_ret
    exact ⟨rfl, hb1'.out⟩
  · have hr : nameC s.data.toList = (nameW s.data.toList 0 && E) := by rw [nameC, hv, Bool.true_and, HE.out]
    rw [hR'.out] at hr
    have hr' := Lib.hid hr
    have hv' := Lib.hid hv
    clear hr hv
    have hB := hb1.size
    have hb1' := Lib.hid hb1
    clear hb1
    go_wp2_with fail
    go_loopw [] (fun wr => ∃ pos : Nat, wr.heap[w1.heap.size]? = some (.stringIter s pos) ∧ Hid (nameW s.data.toList pos = nameW s.data.toList 0) ∧ Hid (Below w.heap.size w wr)) (fun wr => s.size - wr.iterPos w1.heap.size)
    case atStart => exact ⟨0, World.iter_heap _ _ _, Lib.hid rfl, Lib.hid (hb1'.out.trans ((Below.refl _ w1).alloc (Nat.le_refl _) _ |>.mono hB))⟩
    case round =>
      obtain ⟨pos, hit, hn, hbw⟩ := hrel
      have hlen := HSZ.out
      have hsz : w1.heap.size < wr.heap.size := (Array.getElem?_eq_some_iff.1 hit).1
      by_cases hp : pos < s.size
      · have hl : pos < s.data.toList.length := by rw [← hlen]; exact hp
        have hnx : ∀ ty, (Instr.next (.pointer (some ⟨w1.heap.size, 0, none⟩)) true ty).run Tryz.prog wr = _ := fun ty => Lib.run_next_any_at wr w1.heap.size s pos ty hit hp
        rw [decode_str] at hnx
        obtain ⟨D, hD⟩ : ∃ D, dec s.data.toList pos = D := ⟨_, rfl⟩
        have hdp := dec_pos s.data.toList pos
        rw [hD] at hnx hdp
        obtain ⟨r, m⟩ := D
        simp only at hnx hdp
        have hit2 := Lib.iterAt_heap wr w1.heap.size s pos (pos + m) hit
        have hbw2 := Lib.hid (Lib.below_iterAt hbw.out (k := w1.heap.size) hB s (pos + m))
        have hsz2 : w1.heap.size < (wr.iterAt w1.heap.size s (pos + m)).heap.size := by rw [Lib.iterAt_size]; exact hsz
        have hsz3 : w.heap.size ≤ (wr.iterAt w1.heap.size s (pos + m)).heap.size := by omega
        obtain ⟨wi, hwi⟩ : ∃ wi, wr.iterAt w1.heap.size s (pos + m) = wi := ⟨_, rfl⟩
        rw [hwi] at hnx hit2 hbw2 hsz2 hsz3
        have hD' := Lib.hid hD
        have hl' := Lib.hid hl
        clear hD hwi hl
        by_cases h0 : pos = 0
        · subst h0
          cases hb : Begins (r : Nat)
          · have hr : R = false := by
              rw [hr'.out, nameW_stop hl'.out (Or.inl ⟨rfl, by rw [hD'.out]; exact hb⟩), Bool.false_and]
            subst hr
            go_wp2_with fail
            refine (utfBegins_any r wi).mono ?_
            rintro e w2 ⟨rfl, hb2⟩
            rw [hb]
            have hx := Lib.hid (hbw2.out.trans (hb2.mono hsz3))
            clear hb2
            go_wp2_with fail
            go_ret
            exact ⟨rfl, hx.out⟩
          · go_wp2_with fail
            refine (utfBegins_any r wi).mono ?_
            rintro e w2 ⟨rfl, hb2⟩
            rw [hb]
            have hit3 := (hb2.block _ hsz2).trans hit2
            have hx := Lib.hid (hbw2.out.trans (hb2.mono hsz3))
            have hsz4 := hb2.size
            clear hb2
            go_wp2_with fail
            refine (utfGoesOn_any r w2).mono ?_
            rintro e w3 ⟨rfl, hb3⟩
            have hit4 := (hb3.block _ (by omega)).trans hit3
            have hx3 := Lib.hid (hx.out.trans (hb3.mono (by omega)))
            clear hb3
            cases hg : GoesOn (r : Nat)
            · have hr : R = false := by
                rw [hr'.out, nameW_stop hl'.out (Or.inr (by rw [hD'.out]; exact hg)), Bool.false_and]
              subst hr
              go_wp2_with fail
              go_ret
              exact ⟨rfl, hx3.out⟩
            · go_wp2_with fail
              go_roundw
              case rel =>
                refine ⟨0 + m, hit4, Lib.hid ?_, hx3⟩
                have := nameW_on hl'.out (by rw [hD'.out]; rintro (⟨_, h⟩ | h); rw [hb] at h; cases h; rw [hg] at h; cases h)
                rw [hD'.out] at this
                exact this.symm
              case measure =>
                simp only [World.iterPos, hit4, hit]
                omega
        · go_wp2_with fail
          refine (utfGoesOn_any r wi).mono ?_
          rintro e w3 ⟨rfl, hb3⟩
          have hit4 := (hb3.block _ (by omega)).trans hit2
          have hx3 := Lib.hid (hbw2.out.trans (hb3.mono (by omega)))
          clear hb3
          cases hg : GoesOn (r : Nat)
          · have hr : R = false := by
              rw [hr'.out, ← hn.out, nameW_stop hl'.out (Or.inr (by rw [hD'.out]; exact hg)), Bool.false_and]
            subst hr
            go_wp2_with fail
            go_ret
            exact ⟨rfl, hx3.out⟩
          · go_wp2_with fail
            go_roundw
            case rel =>
              refine ⟨pos + m, hit4, Lib.hid ?_, hx3⟩
              have := nameW_on hl'.out (by rw [hD'.out]; rintro (⟨h, _⟩ | h); exact h0 h; rw [hg] at h; cases h)
              rw [hD'.out] at this
              rw [← this]
              exact hn.out
            case measure =>
              simp only [World.iterPos, hit4, hit]
              omega
      · have hnx : ∀ ty, (Instr.next (.pointer (some ⟨w1.heap.size, 0, none⟩)) true ty).run Tryz.prog wr = _ := fun ty => Lib.run_next_end_at wr w1.heap.size s pos ty hit hp
        have hr : R = E := by rw [hr'.out, ← hn.out, nameW_end (by rw [← hlen]; omega), Bool.true_and]
        subst hr
        go_wp2_with fail
        go_ret
        exact ⟨rfl, hbw.out⟩

end Go.Proofs.YtokdnhdfmgfkeaaGreatDoor.UtfW
end

section
namespace Go.Proofs
open Go.Shelf Go.RowKit

shelf_lay Lays.n119 Nm 119 at Tryz as Tryz.lays119
shelf_lay Lays.n242 Nm 242 at Tryz as Tryz.lays242

end Go.Proofs
namespace Go.Proofs.YtokdnhdfmgfkeaaGreatDoor.UtfW
open Go.RowKit

end Go.Proofs.YtokdnhdfmgfkeaaGreatDoor.UtfW
end

section
namespace Go.Proofs.YtokdnhdfmgfkeaaGreatDoor.Xl
open Go.RowKit UtfW

theorem str_eqL (s t : Tx) : ((strOf s).toList == t) = decide (s = t) := by
  have h : (strOf s).data.toList = s := by simp [strOf]
  rw [Lib.toList_data, h, Bool.eq_iff_iff, beq_iff_eq, decide_eq_true_eq]
section
variable (w : World) (b : Nat) (S : Tx) (k : Nat) (A : Option Addr) (c : Nat) (vo : Value)
end
end Go.Proofs.YtokdnhdfmgfkeaaGreatDoor.Xl
end

section
namespace Go.Proofs.YtokdnhdfmgfkeaaGreatDoor.Xl
open Go.RowKit UtfW

section
variable (w : World) (b : Nat) (S : Tx) (k : Nat) (A : Option Addr) (c : Nat) (vo : Value)
end
end Go.Proofs.YtokdnhdfmgfkeaaGreatDoor.Xl
end

section
namespace Go.Proofs.YtokdnhdfmgfkeaaGreatDoor.Xl
open Go.RowKit UtfW

theorem byte_eq (x y : UInt8) : ((x.toNat : Int) == (y.toNat : Int)) = decide (x = y) := by
  rw [Bool.eq_iff_iff, beq_iff_eq, decide_eq_true_eq]
  exact ⟨fun h => UInt8.toNat_inj.1 (by omega), fun h => by rw [h]⟩
theorem info_u8 : (Tryz.prog.info? 5).map (fun i => (i.zero, i.size, i.bytes)) = some (some (.int .u8 0), 1, 1) := by kernel_rfl
section
variable (w : World) (b : Nat) (S : Tx) (k : Nat) (A : Option Addr) (c : Nat) (vo : Value)
end
end Go.Proofs.YtokdnhdfmgfkeaaGreatDoor.Xl
end

section
namespace Go.Proofs.YtokdnhdfmgfkeaaGreatDoor.Xp
open Go.RowKit UtfW Xl

structure Pr (b : Nat) (v : Value) (l : Tx) (w : World) : Prop where
  blk : ∃ p, w.heap[b]? = some (.cells #[p, v] 71) ∧ (p = .pointer none ∨ p = .pointer (some ⟨b, 0, none⟩))
  own : OwB w b 5 v l
  ne : v.ownBlock ≠ some b
  nil : l = [] → v = .slice none 0 0
structure Wk (b : Nat) (v : Value) (w : World) (v' : Value) (w' : World) : Prop where
  bel : Below b w w'
  keep : ∀ k, k < w.heap.size → k ≠ b → v.ownBlock ≠ some k → w'.heap[k]? = w.heap[k]?
  row : v'.ownBlock = v.ownBlock ∨ ∀ k, v'.ownBlock = some k → w.heap.size ≤ k
section
variable {b : Nat} {v v' v'' : Value} {l : Tx} {w w' w'' : World}
theorem Pr.lt (h : Pr b v l w) : b < w.heap.size := by
  obtain ⟨p, h1, _⟩ := h.blk
  exact (Array.getElem?_eq_some_iff.1 h1).1
theorem Pr.below (h : Pr b v l w) (hb : Below w.heap.size w w') : Pr b v l w' := by
  obtain ⟨p, h1, h2⟩ := h.blk
  exact ⟨⟨p, (hb.block b h.lt).trans h1, h2⟩, h.own.below hb, h.ne, h.nil⟩
theorem Wk.refl (b : Nat) (v : Value) (w : World) : Wk b v w v w := ⟨Below.refl _ _, fun _ _ _ _ => rfl, .inl rfl⟩
theorem Wk.below (hb : Below w.heap.size w w') (hB : b ≤ w.heap.size) : Wk b v w v w' := ⟨hb.mono hB, fun k hk _ _ => hb.block k hk, .inl rfl⟩
theorem Wk.trans (h : Wk b v w v' w') (h' : Wk b v' w' v'' w'') : Wk b v w v'' w'' := by
  refine ⟨h.bel.trans h'.bel, fun k hk h1 h2 => ?_, ?_⟩
  · rw [h'.keep k (Nat.lt_of_lt_of_le hk h.bel.size) h1 (fun e => ?_), h.keep k hk h1 h2]
    rcases h.row with e2 | e2
    · exact h2 (e2 ▸ e)
    · have := e2 k e
      omega
  · rcases h'.row with e | e
    · rcases h.row with e2 | e2
      · exact .inl (e.trans e2)
      · exact .inr fun k hk => e2 k (e ▸ hk)
    · exact .inr fun k hk => Nat.le_trans h.bel.size (e k hk)
theorem Wk.box (h : Wk b v w v' w') {T : Nat} {x : Obj} (hT : w.heap[T]? = some x) (h1 : T ≠ b) (h2 : v.ownBlock ≠ some T) : w'.heap[T]? = some x :=
  (h.keep T (Array.getElem?_eq_some_iff.1 hT).1 h1 h2).trans hT
theorem Pr.row_lt (h : Pr b v l w) : ∀ k, v.ownBlock = some k → b ≤ k ∧ k < w.heap.size := h.own.lt
theorem Pr.ne_new (h : Pr b v l w) {T : Nat} (hT : w.heap.size ≤ T) : v.ownBlock ≠ some T ∧ T ≠ b := ⟨fun e => by have := (h.row_lt T e).2; omega, by have := h.lt; omega⟩
end
theorem pr_new (w : World) : Pr w.heap.size (.slice none 0 0) [] (w.alloc (.cells #[.pointer none, .slice none 0 0] 71)) :=
  ⟨⟨_, heap_alloc_new w _, .inl rfl⟩, OwB.nil _ _ _, by simp [Value.ownBlock], fun _ => rfl⟩

/-! ### The builder's methods at a printer -/
theorem sizeB : (Tryz.prog.info? 69).map (·.size) = some 2 := by kernel_rfl
theorem liesB : liesAt Tryz.prog Tryz.prog.depth 71 (2 / Tryz.prog.cellsOf 71) 0 69 1 = true := by kernel_rfl
set_option maxHeartbeats 1000000 in
set_option maxRecDepth 100000 in
theorem copy_used (b : Nat) (w : World) (h0 : w.cell? ⟨b, 0, none⟩ = some (.pointer (some ⟨b, 0, none⟩))) :
    Calls Tryz.prog 113 #[.pointer (some ⟨b, 0, none⟩)] w fun e w' => e = .returned (.tuple #[]) ∧ w' = w := by
  obtain ⟨j, hj, _⟩ := Option.map_eq_some_iff.1 sizeB
  go_enter Tryz.func113, Tryz.ntmps113
  go_wp2_with fail
  rw [Lib.run_neq_ptr_same w _ Tryz.underlying67 hj]
  go_wp2_with fail
  go_end0
  exact ⟨rfl, rfl⟩
set_option maxHeartbeats 1000000 in
set_option maxRecDepth 100000 in
theorem copy_fresh (b : Nat) (w : World) (h0 : w.cell? ⟨b, 0, none⟩ = some (.pointer none)) (hsh : w.shape? b = some (71, 2)) (hfz : w.frozen? ⟨b, 0, none⟩ = false) :
    Calls Tryz.prog 113 #[.pointer (some ⟨b, 0, none⟩)] w fun e w' => e = .returned (.tuple #[]) ∧ w' = w.setCell ⟨b, 0, none⟩ (.pointer (some ⟨b, 0, none⟩)) := by
  obtain ⟨j, hj, hjs⟩ := Option.map_eq_some_iff.1 sizeB
  have hj' := Lib.hid hj
  have hsh' := Lib.hid hsh
  clear hsh
  go_enter Tryz.func113, Tryz.ntmps113
  go_wp2_with fail
  rw [Lib.run_to_unsafe w ⟨b, 0, none⟩ Tryz.underlying67 Tryz.underlying119 hj'.out (by rw [hjs]; decide) hsh'.out (Nat.zero_lt_succ 1)]
  simp only [Result.andThen]
  rw [Oper.upon_value]
  go_wp2_with fail
  rw [run_callFunc_extern Tryz.func151 (by kernel_rfl) (by kernel_rfl) (by kernel_rfl) (e := Extern.AbiNoEscape.same) (by kernel_rfl)]
  rw [Lib.run_noEscape]
  simp only [Result.andThen]
  rw [Oper.upon_value]
  go_wp2_with fail
  rw [Lib.run_from_unsafe w ⟨b, 0, none⟩ Tryz.underlying119 Tryz.underlying67 hj'.out hsh'.out liesB]
  simp only [Result.andThen]
  rw [Oper.upon_value]
  go_wp2_with fail
  go_end0
  exact ⟨rfl, rfl⟩
end Go.Proofs.YtokdnhdfmgfkeaaGreatDoor.Xp
end

section
namespace Go.Proofs.YtokdnhdfmgfkeaaGreatDoor.Xp
open Go.RowKit UtfW Xl

theorem cell_blk {w : World} {b i : Nat} {cs : Array Value} {E : TypeId} {v : Value} (h : w.heap[b]? = some (.cells cs E)) (hi : cs[i]? = some v) : w.cell? ⟨b, i, none⟩ = some v := by
  simp only [World.cell?, h]
  simpa using hi
theorem run_append_str (w : World) (B : Nat) (v : Value) (la lb : Tx) (hown : OwB w B 5 v la) (hsz : la.length + lb.length ≤ 140737488355328) (hB : B ≤ w.heap.size) (ty : TypeId) :
    ∃ v' w', (Builtin.append_ #[41, 9] ty #[v, .string (strOf lb)]).run Tryz.prog w = .ok v' w' ∧ OwB w' B 5 v' (la ++ lb) ∧ w.grownBy w' v.ownBlock ∧ (v'.ownBlock = v.ownBlock ∨ v'.ownBlock = some w.heap.size) ∧ (v = .slice none 0 0 → lb = [] → v' = .slice none 0 0) := by
  have hsl : (strOf lb).size = lb.length := strOf_size' lb
  obtain ⟨i, hi, hz, hs1, hb1⟩ := info_parts info_u8
  obtain ⟨v', w', hr, h1, h2, h3⟩ := Lib.run_append_own_string (P := Tryz.prog) w B 41 9 ty 5 i Tryz.underlying41 Tryz.underlying9 hi hz hs1 hb1 v la.length (bv la) hown (strOf lb) (by unfold maxLen; omega) (by omega) hB
  refine ⟨v', w', hr, ?_, h2, ?_, fun e1 e2 => h3.2 ⟨e1, by rw [hsl, e2]; rfl⟩⟩
  · unfold OwB
    rw [bv_append, List.length_append, ← hsl]
    have e : Lib.strCells (strOf lb) = bv lb := by
      unfold Lib.strCells bv strOf
      rfl
    rw [← e]
    exact h1
  · rcases hown.2 with ⟨rfl, hn⟩ | ⟨g, cap, cur, rfl, hbg, hg, hnc, hcm, hcs, htake⟩
    · obtain ⟨v2, w2, hr2, h4, _, _⟩ := Lib.run_append_own_string (P := Tryz.prog) w w.heap.size 41 9 ty 5 i Tryz.underlying41 Tryz.underlying9 hi hz hs1 hb1 (.slice none 0 0) 0 [] (World.ownsRow_nil w w.heap.size _ 1) (strOf lb) (by unfold maxLen; omega) (by omega) (Nat.le_refl _)
      rw [hr] at hr2
      injection hr2 with e1 e2
      subst e1 e2
      rcases h4.2 with ⟨rfl, _⟩ | ⟨g, cap, cur, rfl, hbg, hg, _⟩
      · exact .inl rfl
      · refine .inr ?_
        have hlt : g < w'.heap.size := (Array.getElem?_eq_some_iff.1 hg).1
        by_cases hm : (strOf lb).size = 0
        · have := h3.2 ⟨rfl, hm⟩
          cases this
        · have hrn := run_append_nil_string (P := Tryz.prog) w 41 9 ty 5 i (.int .u8 0) Tryz.underlying41 Tryz.underlying9 hi hz (strOf lb) (by omega) (by omega) (by rw [hb1]; omega)
          rw [hr] at hrn
          have e1 := congrArg (fun r : Result Value => match r with | .ok v _ => v.ownBlock | _ => none) hrn
          exact e1
    · by_cases hroom : la.length + (strOf lb).size ≤ cap
      · have hr2 := Lib.run_append_room_string (P := Tryz.prog) w 41 9 ty 5 i Tryz.underlying41 Tryz.underlying9 hi hs1 g la.length cap cur hg (strOf lb) hroom (by have : cur.size = cap * 1 := hcs; omega)
        rw [hr] at hr2
        injection hr2 with e1 e2
        rw [e1]
        exact .inl rfl
      · have hr2 := Lib.run_append_grow_string (P := Tryz.prog) w 41 9 ty 5 i (.int .u8 0) Tryz.underlying41 Tryz.underlying9 hi hz ⟨g, 0, none⟩ la.length cap (bv la) (by rw [hs1]; exact hown.1) (World.ownsRow.cells (g := g) hown rfl) (strOf lb) (by omega) (by omega) (by rw [hb1]; exact growslice_fits (by omega) (by omega))
        rw [hr] at hr2
        injection hr2 with e1 e2
        rw [e1]
        exact .inr rfl
theorem append_str {ops : Array Oper} {rest : List Oper} {o : Oper} {a : Act} {Q : Exit → Act → World → Prop} (w : World) (hgd : o.guard = none) (s x : Operand)
    (ho : o.op = .call { callee := .builtin .append, args := #[s, x], argTypes := #[41, 9] })
    (B : Nat) (v : Value) (la : Tx) (hs : a.eval s = v) (hown : OwB w B 5 v la) (lb : Tx) (hx : a.eval x = .string (strOf lb))
    (hsz : la.length + lb.length ≤ 140737488355328) (hB : B ≤ w.heap.size)
    (h : ∀ v' w', OwB w' B 5 v' (la ++ lb) → w.grownBy w' v.ownBlock → (v'.ownBlock = v.ownBlock ∨ v'.ownBlock = some w.heap.size) → (v = .slice none 0 0 → lb = [] → v' = .slice none 0 0) → wpList Tryz.prog ops Q rest (a.put o.dst v') w') :
    wpList Tryz.prog ops Q (o :: rest) a w := by
  refine wpList_plain hgd fun K hK => ?_
  obtain ⟨v', w', hr, h1, h2, h3, h4⟩ := run_append_str w B v la lb hown hsz hB o.type
  unfold Oper.wp execOp
  simp only [ho, resolve, invoke, builtin, Sem.run_bind, Sem.run_pure, Result.andThen_ok, List.map_toArray, List.map_cons, List.map_nil, hs, hx, hr]
  exact hK _ _ (h v' w' h1 h2 h3 h4)
set_option maxHeartbeats 1000000 in
set_option maxRecDepth 100000 in
theorem write_any (b : Nat) (v : Value) (l s : Tx) (w : World) (h : Pr b v l w) (hlen : l.length + s.length ≤ 100000000000000) :
    Calls Tryz.prog 79 #[.pointer (some ⟨b, 0, none⟩), .string (strOf s)] w fun e w' => (∃ r, e = .returned r) ∧ ∃ v', Pr b v' (l ++ s) w' ∧ Wk b v w v' w' := by
  have hlt := h.lt
  have hcc : Calls Tryz.prog 113 #[.pointer (some ⟨b, 0, none⟩)] w fun e w' => e = .returned (.tuple #[]) ∧ (w'.heap[b]? = some (.cells #[.pointer (some ⟨b, 0, none⟩), v] 71) ∧ OwB w' b 5 v l ∧ Wk b v w v w') := by
    obtain ⟨p, h1, h2⟩ := h.blk
    rcases h2 with rfl | rfl
    · refine (copy_fresh b w (cell_blk h1 (i := 0) rfl) (by simp [World.shape?, h1]) (frozen_of_row w b 0 _ _ h1)).mono ?_
      rintro e w' ⟨rfl, rfl⟩
      have hg := grown_set w ⟨b, 0, none⟩ (.pointer (some ⟨b, 0, none⟩))
      have hw : Wk b v w v (w.setCell ⟨b, 0, none⟩ (.pointer (some ⟨b, 0, none⟩))) := ⟨(Below.refl b w).grown hg (Nat.le_of_lt hlt) (fun k hk => by injection hk with hk; rw [← hk]; exact Nat.le_refl _), fun k hk h3 _ => hg.block k hk (fun e => by injection e with e; exact h3 e), .inl rfl⟩
      refine ⟨rfl, blk_setCell h1 _, ?_, hw⟩
      exact World.ownsRow.kept h.own hg (.inr h.ne)
    · refine (copy_used b w (cell_blk h1 (i := 0) rfl)).mono ?_
      rintro e w' ⟨rfl, rfl⟩
      exact ⟨rfl, h1, h.own, Wk.refl _ _ _⟩
  have hne := h.ne
  have hnilH := Lib.hid h.nil
  have hcH := Lib.hid hcc
  have hneH := Lib.hid hne
  clear hcc h hne hlt
  go_enter Tryz.func79, Tryz.ntmps79
  go_wp2_with fail
  refine hcH.out.mono ?_
  rintro e w1 ⟨rfl, hbk, hown, hwk⟩
  have c1 : w1.cell? ⟨b, 1, none⟩ = some v := cell_blk hbk rfl
  have hlt := (Array.getElem?_eq_some_iff.1 hbk).1
  have hbkH := Lib.hid hbk
  have hwkH := Lib.hid hwk
  have hown := Lib.hid hown
  clear hbk hwk hcH
  go_wp2_with (at_builtin; apply stop_here)
  refine Stop.go (append_str w1 rfl _ _ rfl b v l rfl hown.out s rfl (by omega) (by omega) ?_)
  intro v' w2 ho hg hv hnl
  obtain ⟨ao, n', cap, rfl⟩ : ∃ ao n' cap, v' = .slice ao n' cap := by
    rcases ho.2 with ⟨h1, _⟩ | ⟨g, cap, cur, h1, _⟩
    · exact ⟨_, _, _, h1⟩
    · exact ⟨_, _, _, h1⟩
  have hb2 : w2.heap[b]? = some (.cells #[.pointer (some ⟨b, 0, none⟩), v] 71) := (hg.block b hlt (fun e => hneH.out e.symm)).trans hbkH.out
  have d1 : w2.cell? ⟨b, 1, none⟩ = some v := cell_blk hb2 rfl
  have f1 := frozen_of_row w2 b 1 _ _ hb2
  have hs2 := hg.size
  have hg3 := grown_set w2 ⟨b, 1, none⟩ (.slice ao n' cap)
  have ho' : OwB w2 b 5 (.slice ao n' cap) (l ++ s) := ho
  have hne' : (Value.slice ao n' cap).ownBlock ≠ some b := fun e => by
    rcases hv with hv | hv
    · exact hneH.out (hv ▸ e)
    · rw [hv] at e
      injection e with e
      omega
  have hfin : Hid (Pr b (.slice ao n' cap) (l ++ s) (w2.setCell ⟨b, 1, none⟩ (.slice ao n' cap)) ∧ Wk b v w (.slice ao n' cap) (w2.setCell ⟨b, 1, none⟩ (.slice ao n' cap))) := Lib.hid (by
    refine ⟨⟨⟨_, blk_setCell hb2 _, .inr rfl⟩, World.ownsRow.kept ho' hg3 (.inr hne'), hne', fun e => hnl (hnilH.out (List.append_eq_nil_iff.1 e).1) (List.append_eq_nil_iff.1 e).2⟩, hwkH.out.trans ?_⟩
    refine ⟨((Below.refl b w1).grown hg (Nat.le_of_lt hlt) (fun k hk => (hown.out.lt k hk).1)).grown hg3 (by omega) (fun k hk => by injection hk with hk; rw [← hk]; exact Nat.le_refl _), fun k hk h1 h2 => ?_, ?_⟩
    · rw [hg3.block k (by omega) (fun e => by injection e with e; exact h1 e), hg.block k hk (fun e => h2 e.symm)]
    · rcases hv with hv | hv
      · exact .inl hv
      · exact .inr fun k hk => by rw [hv] at hk; injection hk with hk; omega)
  clear ho hg hv hnl hnilH hb2 hs2 hg3 ho' hne' hown hwkH hbkH
  go_wp2_with fail
  go_ret2
  exact ⟨⟨_, rfl⟩, _, hfin.out⟩
end Go.Proofs.YtokdnhdfmgfkeaaGreatDoor.Xp
end

section
namespace Go.Proofs.YtokdnhdfmgfkeaaGreatDoor.Xp
open Go.RowKit UtfW Xl Xo Xt
open Go.Maps (Keyed)

def smA (as_ : List At) : Prop := as_.length ≤ 1000000 ∧ ∀ a ∈ as_, a.1.length ≤ 1000000 ∧ a.2.length ≤ 1000000
def Seen (w : World) (M n : Nat) (l : List Tx) : Prop := ∃ D : DataW Unit, w.ownsMap Tryz.prog 9 (plainElem Tryz.prog 3) M n D ∧ Maps.IsMap D ∧ ∀ s : Tx, D.atKey (.string s) (.lit (.int .i64 0)) = .lit (.int .i64 (if s ∈ l then 1 else 0))
theorem Seen.kept {w w' : World} {M n : Nat} {l : List Tx} (h : Seen w M n l) (hb : w'.heap[M]? = w.heap[M]?) : Seen w' M n l := by
  obtain ⟨D, ⟨es, ck, h1, h2, h3, h4⟩, h5, h6⟩ := h
  exact ⟨D, ⟨es, ck, hb.trans h1, h2, h3, h4⟩, h5, h6⟩
theorem Seen.lt {w : World} {M n : Nat} {l : List Tx} (h : Seen w M n l) : M < w.heap.size := by
  obtain ⟨D, h1, _⟩ := h
  exact h1.lt
theorem key_str (s : Tx) (hs : s.length ≤ 1000000) : keyOf Tryz.prog 9 (.string (strOf s)) = some (.string s) := by
  have := WideMaps.keyOf_string_mk (P := Tryz.prog) (k := 9) Tryz.underlying9 (s := strOf s) (by rw [strOf_size']; unfold maxLen; omega)
  rw [this]
  simp [strOf]
theorem keyedS : Keyed Tryz.prog 9 := Maps.string_keyed Tryz.underlying9
theorem zeroInt (w : World) : (zeroValue 3).run Tryz.prog w = .ok (.int .i64 0) w := by kernel_rfl
set_option maxRecDepth 100000 in
theorem Seen.look {w : World} {M n : Nat} {l : List Tx} (h : Seen w M n l) (s : Tx) (hs : s.length ≤ 1000000) : (Instr.lookup 102 (.map (some M)) (.string (strOf s)) false).run Tryz.prog w = .ok (.int .i64 (if s ∈ l then 1 else 0)) w := by
  obtain ⟨D, h1, h2, h3⟩ := h
  obtain ⟨c, hrun, hat, hwc⟩ := h1.lookup_int keyedS Tryz.underlying102 Tryz.underlying3 (zeroInt w) (key_str s hs)
  rw [h3] at hat
  injection hat with hat
  injection hat with _ hat
  rw [hrun, hat]
set_option maxRecDepth 100000 in
theorem Seen.put {w : World} {M n : Nat} {l : List Tx} (h : Seen w M n l) (s : Tx) (hs : s.length ≤ 1000000) (hn : n ≤ 1000000) (v : Int) (hv : (Lit.int .i64 v).wf = true) :
    ∃ w', (Instr.mapUpdate 102 (.map (some M)) (.string (strOf s)) (.int .i64 v)).run Tryz.prog w = .ok () w' ∧ w.grownBy w' (some M) ∧ (∀ x : Tx, x.length ≤ 1000000 → (Instr.lookup 102 (.map (some M)) (.string (strOf x)) false).run Tryz.prog w' = .ok (.int .i64 (if x = s then v else if x ∈ l then 1 else 0)) w') ∧
      (v = 1 → Seen w' M (n + 1) (l ++ [s])) := by
  obtain ⟨D, h1, h2, h3⟩ := h
  obtain ⟨w', hrun, ho, hg⟩ := h1.update (val := .int .i64 v) keyedS Tryz.underlying102 (by unfold maxLen; omega) (key_str s hs) (plainElem_int Tryz.underlying3 hv)
  have hat : ∀ x : Tx, (D.put (.string s) (.lit (.int .i64 v))).atKey (.string x) (.lit (.int .i64 0)) = .lit (.int .i64 (if x = s then v else if x ∈ l then 1 else 0)) := fun x => by
    by_cases hx : x = s
    · subst hx
      rw [if_pos rfl, Maps.atKey_put_same h2 (by simp [WideAt.IsKeyLit])]
    · rw [if_neg hx, Maps.atKey_put_other (by intro e; injection e with e; exact hx e), h3]
  refine ⟨w', hrun, hg, fun x hx => ?_, fun e => ⟨_, ho, h2.put _ _, fun x => ?_⟩⟩
  · obtain ⟨c, hrun2, hat2, _⟩ := ho.lookup_int keyedS Tryz.underlying102 Tryz.underlying3 (zeroInt w') (key_str x hx)
    rw [hat] at hat2
    injection hat2 with hat2
    injection hat2 with _ hat2
    rw [hrun2, hat2]
  · rw [hat, e]
    congr 2
    by_cases hx : x = s
    · subst hx
      simp
    · rw [if_neg hx]
      simp [hx]
theorem seen_new (w : World) : Seen (w.alloc (.map #[] 0)) w.heap.size 0 [] :=
  ⟨.map [], World.ownsMap_made w _ _ _, Maps.isMap_empty, fun s => rfl⟩
theorem attrsOk_at {seen : List Tx} {l : List At} {i : Nat} {a : At} (h : l[i]? = some a) : attrsOk seen (l.drop i) = (nameR a.1 && good a.2 && decide (a.1 ∉ seen) && attrsOk (seen ++ [a.1]) (l.drop (i + 1))) := by
  obtain ⟨hl, e⟩ := List.getElem?_eq_some_iff.1 h
  rw [List.drop_eq_getElem_cons hl, e, attrsOk]
set_option maxHeartbeats 4000000 in
set_option maxRecDepth 100000 in
theorem attrs_any (w : World) (hU : Uv w) (A : Option Addr) (n c : Nat) (as_ : List At) (hS : Sq AtEl 2 w A n c as_) (hsm : smA as_) :
    Calls Tryz.prog 43 #[.slice A n c] w fun e w' => e = .returned (.bool (attrsOk [] as_)) ∧ Below w.heap.size w w' := by
  have hln := hS.len
  have hn9 : n ≤ 1000000 := by rw [← hln]; exact hsm.1
  have hmm := @run_makeMap Tryz.prog
  obtain ⟨M, hM⟩ : ∃ M, w.heap.size = M := ⟨_, rfl⟩
  obtain ⟨w1, hw1⟩ : ∃ w1, w.alloc (.map #[] 0) = w1 := ⟨_, rfl⟩
  have hs0 := seen_new w
  have hba := below_alloc w (.map #[] 0)
  rw [hw1] at hs0 hba
  rw [hM] at hs0
  have hM' := Lib.hid hM
  have hs0' := Lib.hid hs0
  have hba' := Lib.hid hba
  have hU' := Lib.hid hU
  have hS' := Lib.hid hS
  have hsm' := Lib.hid hsm
  have hln' := Lib.hid hln
  obtain ⟨R, hR⟩ : ∃ R, attrsOk [] as_ = R := ⟨_, rfl⟩
  rw [hR]
  have hR' := Lib.hid hR
  clear hs0 hba hU hS hsm hln hR
  go_enter Tryz.func43, Tryz.ntmps43
  go_wp2_with fail
  clear hM hw1 hmm
  go_loopw [9] (fun vi wr => ∃ i : Nat, i ≤ n ∧ vi = .int .i64 (i : Nat) ∧ Hid (Seen wr M i ((as_.take i).map (·.1)) ∧ attrsOk ((as_.take i).map (·.1)) (as_.drop i) = R) ∧ Hid (Below w.heap.size w wr)) (fun vi _ => n - (intOf vi).toNat)
  case atStart => exact ⟨0, Nat.zero_le _, rfl, Lib.hid ⟨hs0'.out, hR'.out⟩, hba'⟩
  case round =>
    obtain ⟨i, hi, rfl, hst, hb⟩ := hrel
    by_cases hlt : i < n
    · have i1 : decide ((i : Int) < (n : Int)) = true := by simp; omega
      have q1 : (i : Int) < (n : Int) := by omega
      have hi9 : i ≤ 1000000 := by omega
      obtain ⟨hseen, hok⟩ := hst.out
      obtain ⟨b1, off1, ax, vs1, rfl, _, hx1, _, hv1, hc1⟩ := (hS'.out.below AtEl.to hb.out).at_ hlt
      unfold AtEl at hv1
      subst hv1
      obtain ⟨z1, z2⟩ := hsm'.out.2 ax (List.mem_of_getElem? hx1)
      rw [attrsOk_at hx1] at hok
      have htk : (as_.take (i + 1)).map (·.1) = (as_.take i).map (·.1) ++ [ax.1] := by rw [take_snoc hx1, List.map_append]; rfl
      obtain ⟨a1, a2⟩ := ax
      simp only at hok htk z1 z2
      obtain ⟨L, hL⟩ : ∃ L, (as_.take i).map (·.1) = L := ⟨_, rfl⟩
      rw [hL] at hok htk hseen
      have m0 := hc1 0 _ rfl
      have m1 := hc1 1 _ rfl
      rw [Nat.add_zero] at m0
      have hbt := below_alloc wr (.cells #[.string (strOf a1), .string (strOf a2)] 55)
      have hnt := heap_alloc_new wr (.cells #[.string (strOf a1), .string (strOf a2)] 55)
      have hMl := hseen.lt
      obtain ⟨T5, hT5⟩ : ∃ T5, wr.heap.size = T5 := ⟨_, rfl⟩
      obtain ⟨wa, hwa⟩ : ∃ wa, wr.alloc (.cells #[.string (strOf a1), .string (strOf a2)] 55) = wa := ⟨_, rfl⟩
      rw [hwa] at hbt hnt
      rw [hT5] at hnt hMl
      have hsa : Seen wa M i L := hseen.kept (hbt.block M (by rw [hT5]; exact hMl))
      have y0 : wa.cell? ⟨T5, 0, none⟩ = some (.string (strOf a1)) := Xp.cell_blk hnt rfl
      have hlk := hsa.look a1 z1
      have hba5 := hb.out.trans (hbt.mono hb.out.size)
      by_cases hin : a1 ∈ L
      · obtain ⟨w5, hup, hg, hl2, _⟩ := hsa.put a1 z1 hi9 2 (by decide)
        have hl3 := hl2 a1 z1
        rw [if_pos rfl] at hl3
        rw [if_pos hin] at hlk
        have hT : w5.heap[T5]? = some (.cells #[.string (strOf a1), .string (strOf a2)] 55) := (hg.block T5 (Array.getElem?_eq_some_iff.1 hnt).1 (fun e => by injection e with e; omega)).trans hnt
        have u0 : w5.cell? ⟨T5, 0, none⟩ = some (.string (strOf a1)) := Xp.cell_blk hT rfl
        have hRf : Hid (R = false) := Lib.hid (by rw [← hok]; simp [hin])
        have hfin : Hid (Below w.heap.size w w5) := Lib.hid (hba5.grown hg hba5.size (fun k hk => by injection hk with hk; rw [← hk, hM'.out]; exact Nat.le_refl _))
        clear hst hseen hok hc1 hx1 htk hbt hnt hsa hl2 hT hg hba5 hin z1 z2 hL
        go_wp2_with fail
        (try simp only [Exit.inBlock, Exit.then])
        go_ret
        exact ⟨by rw [hRf.out]; rfl, hfin.out⟩
      · obtain ⟨w5, hup, hg, hl2, hs2⟩ := hsa.put a1 z1 hi9 1 (by decide)
        have hl3 := hl2 a1 z1
        rw [if_pos rfl] at hl3
        rw [if_neg hin] at hlk
        have hT : w5.heap[T5]? = some (.cells #[.string (strOf a1), .string (strOf a2)] 55) := (hg.block T5 (Array.getElem?_eq_some_iff.1 hnt).1 (fun e => by injection e with e; omega)).trans hnt
        have u0 : w5.cell? ⟨T5, 0, none⟩ = some (.string (strOf a1)) := Xp.cell_blk hT rfl
        have hb5 : Below w.heap.size w w5 := hba5.grown hg hba5.size (fun k hk => by injection hk with hk; rw [← hk, hM'.out]; exact Nat.le_refl _)
        have hs5 : Hid (Seen w5 M (i + 1) ((as_.take (i + 1)).map (·.1))) := Lib.hid (by rw [htk]; exact hs2 rfl)
        have hnc := Lib.hid (utfName_any (strOf a1) (by rw [strOf_size']; omega) w5 (hU'.out.below hb5).ut)
        have e1 : (strOf a1).data.toList = a1 := by simp [strOf]
        rw [e1, name_eq] at hnc
        have hgc := Lib.hid (fun (x : World) (hx : Below w5.heap.size w5 x) => good_any x (hU'.out.below (hb5.trans (hx.mono hb5.size))).ut a2 (by omega))
        rw [show decide (a1 ∉ L) = true by simpa using hin, Bool.and_true] at hok
        rw [← htk] at hok
        replace hok := Lib.hid hok
        replace hb5 := Lib.hid hb5
        have hTH := Lib.hid hT
        obtain ⟨NM, hNM⟩ : ∃ b, nameR a1 = b := ⟨_, rfl⟩
        obtain ⟨GD, hGD⟩ : ∃ b, good a2 = b := ⟨_, rfl⟩
        rw [hNM] at hok hnc
        rw [hGD] at hok hgc
        clear hst hseen hc1 hx1 htk hbt hnt hsa hl2 hs2 hT hg hba5 hin z1 z2 hL hNM hGD e1
        go_wp2_with fail
        refine hnc.out.mono ?_
        rintro e w6 ⟨rfl, hb6⟩
        have hx6 := Lib.hid (hb5.out.trans (hb6.mono hb5.out.size))
        have hT6 := (hb6.block T5 (Array.getElem?_eq_some_iff.1 hTH.out).1).trans hTH.out
        have v1 : w6.cell? ⟨T5, 1, none⟩ = some (.string (strOf a2)) := Xp.cell_blk hT6 rfl
        have hg6 := Lib.hid (hgc.out w6 hb6)
        have hd6 := Lib.hid hb6
        clear hb6 hT6 hnc hgc y0 u0 hlk hl3 hup
        cases NM with
        | false =>
          have hRf : Hid (R = false) := Lib.hid (by rw [← hok.out]; simp)
          clear hok
          go_wp2_with fail
          (try simp only [Exit.inBlock, Exit.then])
          go_ret
          exact ⟨by rw [hRf.out]; rfl, hx6.out⟩
        | true =>
          go_wp2_with fail
          refine hg6.out.mono ?_
          rintro e w7 ⟨rfl, hb7⟩
          have hx7 := Lib.hid (hx6.out.trans (hb7.mono hx6.out.size))
          have hs7 := Lib.hid (hs5.out.kept ((hd6.out.trans (hb7.mono hd6.out.size)).block M hs5.out.lt))
          clear hb7 hg6 v1
          cases GD with
          | false =>
            have hRf : Hid (R = false) := Lib.hid (by rw [← hok.out]; simp)
            clear hok
            go_wp2_with fail
            (try simp only [Exit.inBlock, Exit.then])
            go_ret
            exact ⟨by rw [hRf.out]; rfl, hx7.out⟩
          | true =>
            have hnext : Hid (Seen w7 M (i + 1) ((as_.take (i + 1)).map (·.1)) ∧ attrsOk ((as_.take (i + 1)).map (·.1)) (as_.drop (i + 1)) = R) := Lib.hid ⟨hs7.out, by rw [← hok.out]; simp⟩
            clear hok hs7
            go_wp2_with fail
            go_roundw
            case rel => exact ⟨i + 1, by omega, by go_num, hnext, hx7⟩
            case measure => simp [intOf]; omega
    · have hie : i = n := by omega
      subst hie
      have i1 : decide ((i : Int) < (i : Int)) = false := by simp
      have hRt : Hid (R = true) := Lib.hid (by
        have h9 := hst.out.2
        rw [List.drop_eq_nil_of_le (by rw [hln'.out]; exact Nat.le_refl _)] at h9
        rw [← h9]
        rfl)
      clear hst
      go_wp2_with fail
      (try simp only [Exit.inBlock, Exit.then])
      go_ret
      exact ⟨by rw [hRt.out]; rfl, hb.out⟩
end Go.Proofs.YtokdnhdfmgfkeaaGreatDoor.Xp
end

section
namespace Go.Proofs.YtokdnhdfmgfkeaaGreatDoor.Xp
open Go.RowKit UtfW Xl Xo Xt

mutual
def smN : Nd → Prop
  | .mk _ nm tx as_ ks => nm.length ≤ 1000000 ∧ tx.length ≤ 1000000 ∧ smA as_ ∧ smL ks
def smL : List Nd → Prop
  | [] => True
  | x :: xs => smN x ∧ smL xs
end
theorem smL_mem : ∀ {l : List Nd} {i : Nat} {x : Nd}, smL l → l[i]? = some x → smN x
  | [], i, x, _, h => by simp at h
  | y :: l, 0, x, hb, h => by
    rw [smL] at hb
    injection h with h
    rw [← h]
    exact hb.1
  | y :: l, i + 1, x, hb, h => by
    rw [smL] at hb
    exact smL_mem hb.2 h
theorem smL_of : ∀ {l : List Nd}, (∀ (i : Nat) x, l[i]? = some x → smN x) → smL l
  | [], _ => by rw [smL]; trivial
  | y :: l, h => by
    rw [smL]
    exact ⟨h 0 y rfl, smL_of fun i x hi => h (i + 1) x hi⟩
theorem fairL_at {was : Int} {l : List Nd} {i : Nat} {x : Nd} (h : l[i]? = some x) : fairL was (l.drop i) = (fairN x && !(decide (was = 2) && decide (x.kind = 2)) && fairL x.kind (l.drop (i + 1))) := by
  obtain ⟨hl, e⟩ := List.getElem?_eq_some_iff.1 h
  rw [List.drop_eq_getElem_cons hl, e, fairL]
theorem sq_keep {α : Type} {El : World → List Value → α → Prop} {k : Nat} {w w' : World} {A : Option Addr} {n c : Nat} {l : List α} (h : Sq El k w A n c l) (hb : Below w.heap.size w w') (hE : ∀ vs x, El w vs x → El w' vs x) : Sq El k w' A n c l :=
  Sq.stay h (fun ad e hn => by
    obtain ⟨b, off, e2, hbl, _⟩ := h.cell hn
    rw [e] at e2
    injection e2 with e2
    rw [e2]
    exact hb.block b hbl) hE
theorem len_zero {α : Type} (l : List α) : (((l.length : Nat) : Int) == 0) = l.isEmpty := by
  cases l with
  | nil => rfl
  | cons a l =>
    rw [List.isEmpty_cons, beq_eq_false_iff_ne, List.length_cons]
    omega
set_option maxHeartbeats 1000000 in
set_option maxRecDepth 100000 in
theorem bare_any (w : World) (kd : Int) (S1 S2 : ByteArray) (A : Option Addr) (ca : Nat) (A2 : Option Addr) (c2 : Nat) (as_ : List At) (ks : List Nd) :
    Calls Tryz.prog 45 #[.agg #[.int .i64 kd, .string S1, .string S2, .slice A as_.length ca, .slice A2 ks.length c2]] w fun e w' => e = .returned (.bool (as_.isEmpty && ks.isEmpty)) ∧ Below w.heap.size w w' := by
  have hba := below_alloc w (.cells #[.int .i64 kd, .string S1, .string S2, .slice A as_.length ca, .slice A2 ks.length c2] 25)
  have hnb := heap_alloc_new w (.cells #[.int .i64 kd, .string S1, .string S2, .slice A as_.length ca, .slice A2 ks.length c2] 25)
  have l1 := len_zero as_
  have l2 := len_zero ks
  obtain ⟨T, hT⟩ : ∃ T, w.heap.size = T := ⟨_, rfl⟩
  obtain ⟨w1, hw1⟩ : ∃ w1, w.alloc (.cells #[.int .i64 kd, .string S1, .string S2, .slice A as_.length ca, .slice A2 ks.length c2] 25) = w1 := ⟨_, rfl⟩
  rw [hw1] at hba hnb
  rw [hT] at hnb
  have x3 : w1.cell? ⟨T, 3, none⟩ = some (.slice A as_.length ca) := Xp.cell_blk hnb rfl
  have x4 : w1.cell? ⟨T, 4, none⟩ = some (.slice A2 ks.length c2) := Xp.cell_blk hnb rfl
  obtain ⟨E1, hE1⟩ : ∃ E, as_.isEmpty = E := ⟨_, rfl⟩
  obtain ⟨E2, hE2⟩ : ∃ E, ks.isEmpty = E := ⟨_, rfl⟩
  rw [hE1] at l1
  rw [hE2] at l2
  rw [hE1, hE2]
  have hbaH := Lib.hid hba
  clear hnb hba hE1 hE2
  cases E1 <;> cases E2 <;>
  · go_enter Tryz.func45, Tryz.ntmps45
    go_wp2_with fail
    go_ret
    exact ⟨rfl, hbaH.out⟩
def FairAt (X : Nat → Prop) (x : Nd) : Prop := ∀ (vs : List Value) (w' : World), Uv w' → NdI X w' vs x → (∀ j, X j → j < w'.heap.size) →
  Calls Tryz.prog 16 #[.agg vs.toArray] w' fun e w'' => e = .returned (.bool (fairN x)) ∧ Below w'.heap.size w' w''
set_option maxHeartbeats 4000000 in
set_option maxRecDepth 100000 in
theorem kids_any (X : Nat → Prop) (w : World) (hU : Uv w) (A : Option Addr) (n c : Nat) (l : List Nd) (hS : Sq (NdE X) 5 w A n c l) (hX : ∀ j, X j → j < w.heap.size) (hF : ∀ (i : Nat) x, l[i]? = some x → FairAt X x) :
    Calls Tryz.prog 44 #[.slice A n c] w fun e w' => e = .returned (.bool (fairL 0 l)) ∧ Below w.heap.size w w' := by
  have hln := Lib.hid hS.len
  have hlm : n ≤ 9223372036854775807 := Nat.le_trans hS.le hS.max
  have hS' := Lib.hid hS
  have hX' := Lib.hid hX
  have hU' := Lib.hid hU
  have hF' := Lib.hid hF
  obtain ⟨R, hR⟩ : ∃ R, fairL 0 l = R := ⟨_, rfl⟩
  rw [hR]
  have hR' := Lib.hid hR
  clear hS hX hU hF hR
  go_enter Tryz.func44, Tryz.ntmps44
  go_wp2_with fail
  go_loopw [3, 8] (fun v3 vi wr => ∃ (i : Nat) (was : Int), i ≤ n ∧ vi = .int .i64 (i : Nat) ∧ v3 = .int .i64 was ∧ Hid (fairL was (l.drop i) = R) ∧ Hid (Below w.heap.size w wr)) (fun _ vi _ => n - (intOf vi).toNat)
  case atStart => exact ⟨0, 0, Nat.zero_le _, rfl, rfl, hR', Lib.hid (Below.refl _ _)⟩
  case round =>
    obtain ⟨i, was, hi, rfl, rfl, hok, hb⟩ := hrel
    by_cases hlt : i < n
    · have i1 : decide ((i : Int) < (n : Int)) = true := by simp; omega
      have q1 : (i : Int) < (n : Int) := by omega
      have hX1 : ∀ j, X j → j < wr.heap.size := fun j hj => Nat.lt_of_lt_of_le (hX'.out j hj) hb.out.size
      have hKr := sq_keep hS'.out hb.out (fun vs x h => NdI.later h hX'.out hb.out)
      obtain ⟨b1, off1, x, vs1, rfl, _, hx1, _, hv1, hc1⟩ := hKr.at_ hlt
      have hfx := hF'.out i x hx1
      have hok9 := hok.out
      rw [fairL_at hx1] at hok9
      obtain ⟨kx, nx_, tx_, ax, kx_⟩ := x
      obtain ⟨Ax, cax, A2x, c2x, rfl, -⟩ := hv1.cells
      have m0 := hc1 0 _ rfl
      have m1 := hc1 1 _ rfl
      have m2 := hc1 2 _ rfl
      have m3 := hc1 3 _ rfl
      have m4 := hc1 4 _ rfl
      rw [Nat.add_zero] at m0
      have hbt := below_alloc wr (.cells #[.int .i64 kx, .string (strOf nx_), .string (strOf tx_), .slice Ax ax.length cax, .slice A2x kx_.length c2x] 25)
      have hnt := Lib.hid (heap_alloc_new wr (.cells #[.int .i64 kx, .string (strOf nx_), .string (strOf tx_), .slice Ax ax.length cax, .slice A2x kx_.length c2x] 25))
      have hrec := Lib.hid (hfx _ (wr.alloc (.cells #[.int .i64 kx, .string (strOf nx_), .string (strOf tx_), .slice Ax ax.length cax, .slice A2x kx_.length c2x] 25)) (hU'.out.below (hb.out.trans (hbt.mono hb.out.size))) (NdI.later hv1 hX1 hbt) (fun j hj => Nat.lt_of_lt_of_le (hX1 j hj) hbt.size))
      have hbb := Lib.hid (hb.out.trans (hbt.mono hb.out.size))
      obtain ⟨FX, hFX⟩ : ∃ b, fairN (.mk kx nx_ tx_ ax kx_) = b := ⟨_, rfl⟩
      rw [hFX] at hok9 hrec
      have hok9 : Hid ((FX && !(decide (was = 2) && decide (kx = 2)) && fairL kx (l.drop (i + 1))) = R) := Lib.hid hok9
      clear hok hX1 hKr hc1 hx1 hfx hv1 hbt hFX
      go_wp2_with fail
      refine hrec.out.mono ?_
      rintro e w5 ⟨rfl, hb5⟩
      have hw5 := Lib.hid (hbb.out.trans (hb5.mono hbb.out.size))
      have hT5 := (hb5.block wr.heap.size (Array.getElem?_eq_some_iff.1 hnt.out).1).trans hnt.out
      have y0 := Xp.cell_blk hT5 (i := 0) rfl
      clear hb5 m0 m1 m2 m3 m4 hT5 hrec hnt hbb
      cases FX with
      | false =>
        have hRf : Hid (R = false) := Lib.hid (by rw [← hok9.out]; simp)
        clear hok9 y0
        go_wp2_with fail
        (try simp only [Exit.inBlock, Exit.then])
        go_ret
        exact ⟨by rw [hRf.out]; rfl, hw5.out⟩
      | true =>
        by_cases h1 : was = 2
        · have k1 : (was == 2) = true := by rw [h1]; rfl
          by_cases h2 : kx = 2
          · have k2 : (kx == 2) = true := by rw [h2]; rfl
            have hRf : Hid (R = false) := Lib.hid (by rw [← hok9.out]; simp [h1, h2])
            clear hok9 h1 h2
            go_wp2_with fail
            (try simp only [Exit.inBlock, Exit.then])
            go_ret
            exact ⟨by rw [hRf.out]; rfl, hw5.out⟩
          · have k2 : (kx == 2) = false := by simpa using h2
            have hnext : Hid (fairL kx (l.drop (i + 1)) = R) := Lib.hid (by rw [← hok9.out]; simp [h2])
            clear hok9 h1 h2
            go_wp2_with fail
            go_roundw
            case rel => exact ⟨i + 1, kx, by omega, by go_num, rfl, hnext, hw5⟩
            case measure => simp [intOf]; omega
        · have k1 : (was == 2) = false := by simpa using h1
          have hnext : Hid (fairL kx (l.drop (i + 1)) = R) := Lib.hid (by rw [← hok9.out]; simp [h1])
          clear hok9 h1
          go_wp2_with fail
          go_roundw
          case rel => exact ⟨i + 1, kx, by omega, by go_num, rfl, hnext, hw5⟩
          case measure => simp [intOf]; omega
    · have hie : i = n := by omega
      subst hie
      have i1 : decide ((i : Int) < (i : Int)) = false := by simp
      have hRt : Hid (R = true) := Lib.hid (by
        have h9 := hok.out
        rw [List.drop_eq_nil_of_le (by rw [hln.out]; exact Nat.le_refl _)] at h9
        rw [← h9]
        rfl)
      clear hok
      go_wp2_with fail
      (try simp only [Exit.inBlock, Exit.then])
      go_ret
      exact ⟨by rw [hRt.out]; rfl, hb.out⟩
end Go.Proofs.YtokdnhdfmgfkeaaGreatDoor.Xp
end

section
namespace Go.Proofs.YtokdnhdfmgfkeaaGreatDoor.Xp
open Go.RowKit UtfW Xl Xo Xt

set_option maxHeartbeats 16000000 in
set_option maxRecDepth 100000 in
theorem Fair_any : ∀ (k : Nat) (X : Nat → Prop) (n : Nd), SizeOf.sizeOf n ≤ k → smN n → FairAt X n := by
  intro k
  induction k with
  | zero =>
    intro X n hk
    obtain ⟨kd, nm, tx, as_, ks⟩ := n
    simp at hk
  | succ k ih =>
    intro X n hk hsm vs w hU hn hX
    obtain ⟨kd, nm, tx, as_, ks⟩ := n
    obtain ⟨A, ca, A2, c2, rfl, hA, hKs, hXA, hXK⟩ := hn.cells
    rw [smN] at hsm
    obtain ⟨z1, z2, z3, z4⟩ := hsm
    have hF : ∀ (i : Nat) x, ks[i]? = some x → FairAt X x := fun i x hx => ih X x (by
      have := kid_lt (k := kd) (nm := nm) (tx := tx) (as_ := as_) hx
      omega) (smL_mem z4 hx)
    clear ih hk z4
    obtain ⟨S1, hS1⟩ : ∃ S, strOf nm = S := ⟨_, rfl⟩
    obtain ⟨S2, hS2⟩ : ∃ S, strOf tx = S := ⟨_, rfl⟩
    rw [hS1, hS2]
    have hba := below_alloc w (.cells #[.int .i64 kd, .string S1, .string S2, .slice A as_.length ca, .slice A2 ks.length c2] 25)
    have hnb := heap_alloc_new w (.cells #[.int .i64 kd, .string S1, .string S2, .slice A as_.length ca, .slice A2 ks.length c2] 25)
    obtain ⟨T, hT⟩ : ∃ T, w.heap.size = T := ⟨_, rfl⟩
    obtain ⟨w1, hw1⟩ : ∃ w1, w.alloc (.cells #[.int .i64 kd, .string S1, .string S2, .slice A as_.length ca, .slice A2 ks.length c2] 25) = w1 := ⟨_, rfl⟩
    rw [hw1] at hba hnb
    rw [hT] at hnb
    have hTb : Hid (∀ x, Below w1.heap.size w1 x → x.heap[T]? = some (.cells #[.int .i64 kd, .string S1, .string S2, .slice A as_.length ca, .slice A2 ks.length c2] 25)) := Lib.hid fun x hx => (hx.block T (Array.getElem?_eq_some_iff.1 hnb).1).trans hnb
    have hqw1 : Hid (Below w1.heap.size w1 w1) := Lib.hid (Below.refl _ _)
    have hlow : ∀ x, Below w1.heap.size w1 x → Below w.heap.size w x := fun x hx => hba.trans (hx.mono hba.size)
    have hnc := Lib.hid (fun (x : World) (hx : Below w1.heap.size w1 x) => utfName_any S1 (by rw [← hS1, strOf_size']; omega) x (hU.below (hlow x hx)).ut)
    have e1 : S1.data.toList = nm := by rw [← hS1]; simp [strOf]
    rw [e1, name_eq] at hnc
    have hac := Lib.hid (fun (x : World) (hx : Below w1.heap.size w1 x) => attrs_any x (hU.below (hlow x hx)) A as_.length ca as_ (hA.below AtEl.to (hlow x hx)) z3)
    have hkc := Lib.hid (fun (x : World) (hx : Below w1.heap.size w1 x) => kids_any X x (hU.below (hlow x hx)) A2 ks.length c2 ks (sq_keep hKs (hlow x hx) (fun vs y h => NdI.later h hX (hlow x hx))) (fun j hj => Nat.lt_of_lt_of_le (hX j hj) (hlow x hx).size) hF)
    have hbc := Lib.hid (fun (x : World) (_hx : Below w1.heap.size w1 x) => bare_any x kd S1 S2 A ca A2 c2 as_ ks)
    have hgc := Lib.hid (fun (x : World) (hx : Below w1.heap.size w1 x) => good_any x (hU.below (hlow x hx)).ut tx (by omega))
    have hpc := Lib.hid (fun (x : World) (hx : Below w1.heap.size w1 x) => plain_any x (hU.below (hlow x hx)).ut tx (by omega))
    have hcc3 := Lib.hid (fun (x : World) (hx : Below w1.heap.size w1 x) => contains_any x (hU.below (hlow x hx)).ut tx [45, 45] (by omega))
    have hcc4 := Lib.hid (fun (x : World) (hx : Below w1.heap.size w1 x) => contains_any x (hU.below (hlow x hx)).ut tx [63, 62] (by omega))
    have hsc := Lib.hid (fun (x : World) (_hx : Below w1.heap.size w1 x) => suffix_any x tx [45] (by omega))
    have hlc := Lib.hid (fun (x : World) (hx : Below w1.heap.size w1 x) => lowX_any x (hU.below (hlow x hx)) nm (by omega))
    rw [hS2] at hgc hpc hcc3 hcc4 hsc
    rw [hS1] at hlc
    have y0 : w1.cell? ⟨T, 0, none⟩ = some (.int .i64 kd) := Xp.cell_blk hnb rfl
    have y1 : w1.cell? ⟨T, 1, none⟩ = some (.string S1) := Xp.cell_blk hnb rfl
    have y2 : w1.cell? ⟨T, 2, none⟩ = some (.string S2) := Xp.cell_blk hnb rfl
    have y3 : w1.cell? ⟨T, 3, none⟩ = some (.slice A as_.length ca) := Xp.cell_blk hnb rfl
    have y4 : w1.cell? ⟨T, 4, none⟩ = some (.slice A2 ks.length c2) := Xp.cell_blk hnb rfl
    have hbaH := Lib.hid hba
    have ez1 : S1.toList.isEmpty = nm.isEmpty := by rw [← hS1, strOf_empty]
    have ez2 : S2.toList.isEmpty = tx.isEmpty := by rw [← hS2, strOf_empty]
    have hS1H := Lib.hid hS1
    have hS2H := Lib.hid hS2
    have hz2H := Lib.hid z2
    clear hn hA hKs hXA hXK hX hF hU hlow hnb hba e1 z1 z2 z3 hS1 hS2
    obtain ⟨BA, hBA⟩ : ∃ b, (as_.isEmpty && ks.isEmpty) = b := ⟨_, rfl⟩
    obtain ⟨NM, hNM⟩ : ∃ b, nameR nm = b := ⟨_, rfl⟩
    obtain ⟨AO, hAO⟩ : ∃ b, attrsOk [] as_ = b := ⟨_, rfl⟩
    obtain ⟨FL, hFL⟩ : ∃ b, fairL 0 ks = b := ⟨_, rfl⟩
    obtain ⟨GD, hGD⟩ : ∃ b, good tx = b := ⟨_, rfl⟩
    obtain ⟨PL, hPL⟩ : ∃ b, plainT tx = b := ⟨_, rfl⟩
    obtain ⟨C3, hC3⟩ : ∃ b, (find [45, 45] tx).isSome = b := ⟨_, rfl⟩
    obtain ⟨C4, hC4⟩ : ∃ b, (find [63, 62] tx).isSome = b := ⟨_, rfl⟩
    obtain ⟨SX, hSX⟩ : ∃ b, [(45 : UInt8)].isSuffixOf tx = b := ⟨_, rfl⟩
    obtain ⟨LX, hLX⟩ : ∃ b, decide (nm.map low = xml3) = b := ⟨_, rfl⟩
    have f3 : (find [45, 45] tx).isNone = !C3 := by rw [← hC3]; cases find [45, 45] tx <;> rfl
    have f4 : (find [63, 62] tx).isNone = !C4 := by rw [← hC4]; cases find [63, 62] tx <;> rfl
    have fs : decide (tx.getLast? ≠ some 45) = !SX := by rw [← hSX, suffix_last]; simp
    have fl : decide (nm.map low ≠ xml3) = !LX := by rw [← hLX]; simp
    rw [hNM] at hnc
    rw [hAO] at hac
    rw [hFL] at hkc
    rw [hBA] at hbc
    rw [hGD] at hgc
    rw [hPL] at hpc
    rw [hC3] at hcc3
    rw [hC4] at hcc4
    rw [hSX] at hsc
    rw [hLX] at hlc
    obtain ⟨R, hRe⟩ : ∃ R, fairN (.mk kd nm tx as_ ks) = R := ⟨_, rfl⟩
    rw [hRe]
    rw [fairN] at hRe
    by_cases h1 : kd = 1
    · subst h1
      rw [if_pos rfl, hNM, hAO, hFL] at hRe
      clear hBA hNM hAO hFL hGD hPL hC3 hC4 hSX hLX f3 f4 fs fl hbc hgc hpc hcc3 hcc4 hsc hlc
      have k1 : ((1 : Int) == 1) = true := rfl
      cases tx with
      | nil =>
        have e2 : S2.toList.isEmpty = true := ez2
        rw [decide_eq_true rfl] at hRe
        have hR := Lib.hid hRe
        clear hRe ez1 ez2
        go_enter Tryz.func16, Tryz.ntmps16
        go_wp2_with fail
        refine (hnc.out w1 hqw1.out).mono ?_
        rintro e w11 ⟨rfl, hbw11⟩
        have hqw11 := Lib.hid (hqw1.out.trans (hbw11.mono hqw1.out.size))
        clear hbw11 y0 y1 y2 y3 y4
        have hTb9 := hTb.out w11 hqw11.out
        have y0 := Xp.cell_blk hTb9 (i := 0) rfl
        have y1 := Xp.cell_blk hTb9 (i := 1) rfl
        have y2 := Xp.cell_blk hTb9 (i := 2) rfl
        have y3 := Xp.cell_blk hTb9 (i := 3) rfl
        have y4 := Xp.cell_blk hTb9 (i := 4) rfl
        clear hTb9
        cases NM with
        | false =>
          have hRf : Hid (R = false) := Lib.hid (by rw [← hR.out]; simp)
          have hfin := Lib.hid (hbaH.out.trans (hqw11.out.mono hbaH.out.size))
          clear hR
          go_wp2_with fail
          (try simp only [Exit.inBlock, Exit.then])
          go_ret
          exact ⟨by rw [hRf.out]; rfl, hfin.out⟩
        | true =>
          go_wp2_with fail
          refine (hac.out w11 hqw11.out).mono ?_
          rintro e w12 ⟨rfl, hbw12⟩
          have hqw12 := Lib.hid (hqw11.out.trans (hbw12.mono hqw11.out.size))
          clear hbw12 y0 y1 y2 y3 y4
          have hTb9 := hTb.out w12 hqw12.out
          have y0 := Xp.cell_blk hTb9 (i := 0) rfl
          have y1 := Xp.cell_blk hTb9 (i := 1) rfl
          have y2 := Xp.cell_blk hTb9 (i := 2) rfl
          have y3 := Xp.cell_blk hTb9 (i := 3) rfl
          have y4 := Xp.cell_blk hTb9 (i := 4) rfl
          clear hTb9
          cases AO with
          | false =>
            have hRf : Hid (R = false) := Lib.hid (by rw [← hR.out]; simp)
            have hfin := Lib.hid (hbaH.out.trans (hqw12.out.mono hbaH.out.size))
            clear hR
            go_wp2_with fail
            (try simp only [Exit.inBlock, Exit.then])
            go_ret
            exact ⟨by rw [hRf.out]; rfl, hfin.out⟩
          | true =>
            go_wp2_with fail
            refine (hkc.out w12 hqw12.out).mono ?_
            rintro e w13 ⟨rfl, hbw13⟩
            have hqw13 := Lib.hid (hqw12.out.trans (hbw13.mono hqw12.out.size))
            clear hbw13 y0 y1 y2 y3 y4
            have hTb9 := hTb.out w13 hqw13.out
            have y0 := Xp.cell_blk hTb9 (i := 0) rfl
            have y1 := Xp.cell_blk hTb9 (i := 1) rfl
            have y2 := Xp.cell_blk hTb9 (i := 2) rfl
            have y3 := Xp.cell_blk hTb9 (i := 3) rfl
            have y4 := Xp.cell_blk hTb9 (i := 4) rfl
            clear hTb9
            cases FL with
            | false =>
              have hRf : Hid (R = false) := Lib.hid (by rw [← hR.out]; simp)
              have hfin := Lib.hid (hbaH.out.trans (hqw13.out.mono hbaH.out.size))
              clear hR
              go_wp2_with fail
              (try simp only [Exit.inBlock, Exit.then])
              go_ret
              exact ⟨by rw [hRf.out]; rfl, hfin.out⟩
            | true =>
              have hRf : Hid (R = true) := Lib.hid (by rw [← hR.out]; simp)
              have hfin := Lib.hid (hbaH.out.trans (hqw13.out.mono hbaH.out.size))
              clear hR
              go_wp2_with fail
              (try simp only [Exit.inBlock, Exit.then])
              go_ret
              exact ⟨by rw [hRf.out]; rfl, hfin.out⟩
      | cons c0 r0 =>
        have e2 : S2.toList.isEmpty = false := ez2
        rw [decide_eq_false (by simp)] at hRe
        have hR := Lib.hid hRe
        clear hRe ez1 ez2
        go_enter Tryz.func16, Tryz.ntmps16
        go_wp2_with fail
        refine (hnc.out w1 hqw1.out).mono ?_
        rintro e w14 ⟨rfl, hbw14⟩
        have hqw14 := Lib.hid (hqw1.out.trans (hbw14.mono hqw1.out.size))
        clear hbw14 y0 y1 y2 y3 y4
        have hTb9 := hTb.out w14 hqw14.out
        have y0 := Xp.cell_blk hTb9 (i := 0) rfl
        have y1 := Xp.cell_blk hTb9 (i := 1) rfl
        have y2 := Xp.cell_blk hTb9 (i := 2) rfl
        have y3 := Xp.cell_blk hTb9 (i := 3) rfl
        have y4 := Xp.cell_blk hTb9 (i := 4) rfl
        clear hTb9
        cases NM with
        | false =>
          have hRf : Hid (R = false) := Lib.hid (by rw [← hR.out]; simp)
          have hfin := Lib.hid (hbaH.out.trans (hqw14.out.mono hbaH.out.size))
          clear hR
          go_wp2_with fail
          (try simp only [Exit.inBlock, Exit.then])
          go_ret
          exact ⟨by rw [hRf.out]; rfl, hfin.out⟩
        | true =>
          have hRf : Hid (R = false) := Lib.hid (by rw [← hR.out]; simp)
          have hfin := Lib.hid (hbaH.out.trans (hqw14.out.mono hbaH.out.size))
          clear hR
          go_wp2_with fail
          (try simp only [Exit.inBlock, Exit.then])
          go_ret
          exact ⟨by rw [hRf.out]; rfl, hfin.out⟩
    rw [if_neg h1] at hRe
    have k1 : (kd == 1) = false := by simpa using h1
    by_cases h2 : kd = 2
    · subst h2
      rw [if_pos rfl, hBA, hGD] at hRe
      clear hBA hNM hAO hFL hGD hPL hC3 hC4 hSX hLX f3 f4 fs fl hnc hac hkc hpc hcc3 hcc4 hsc hlc h1
      have k2 : ((2 : Int) == 2) = true := rfl
      cases nm with
      | nil =>
        cases tx with
        | nil =>
          have e1 : S1.toList.isEmpty = true := ez1
          have e2 : S2.toList.isEmpty = true := ez2
          rw [decide_eq_true (rfl), decide_eq_false (by simp)] at hRe
          have hR := Lib.hid hRe
          clear hRe ez1 ez2
          go_enter Tryz.func16, Tryz.ntmps16
          go_wp2_with fail
          refine (hbc.out w1 hqw1.out).mono ?_
          rintro e w15 ⟨rfl, hbw15⟩
          have hqw15 := Lib.hid (hqw1.out.trans (hbw15.mono hqw1.out.size))
          clear hbw15 y0 y1 y2 y3 y4
          have hTb9 := hTb.out w15 hqw15.out
          have y0 := Xp.cell_blk hTb9 (i := 0) rfl
          have y1 := Xp.cell_blk hTb9 (i := 1) rfl
          have y2 := Xp.cell_blk hTb9 (i := 2) rfl
          have y3 := Xp.cell_blk hTb9 (i := 3) rfl
          have y4 := Xp.cell_blk hTb9 (i := 4) rfl
          clear hTb9
          cases BA with
          | false =>
            have hRf : Hid (R = false) := Lib.hid (by rw [← hR.out]; simp)
            have hfin := Lib.hid (hbaH.out.trans (hqw15.out.mono hbaH.out.size))
            clear hR
            go_wp2_with fail
            (try simp only [Exit.inBlock, Exit.then])
            go_ret
            exact ⟨by rw [hRf.out]; rfl, hfin.out⟩
          | true =>
            have hRf : Hid (R = false) := Lib.hid (by rw [← hR.out]; simp)
            have hfin := Lib.hid (hbaH.out.trans (hqw15.out.mono hbaH.out.size))
            clear hR
            go_wp2_with fail
            (try simp only [Exit.inBlock, Exit.then])
            go_ret
            exact ⟨by rw [hRf.out]; rfl, hfin.out⟩
        | cons c0 r0 =>
          have e1 : S1.toList.isEmpty = true := ez1
          have e2 : S2.toList.isEmpty = false := ez2
          rw [decide_eq_true (rfl), decide_eq_true (by simp)] at hRe
          have hR := Lib.hid hRe
          clear hRe ez1 ez2
          go_enter Tryz.func16, Tryz.ntmps16
          go_wp2_with fail
          refine (hbc.out w1 hqw1.out).mono ?_
          rintro e w16 ⟨rfl, hbw16⟩
          have hqw16 := Lib.hid (hqw1.out.trans (hbw16.mono hqw1.out.size))
          clear hbw16 y0 y1 y2 y3 y4
          have hTb9 := hTb.out w16 hqw16.out
          have y0 := Xp.cell_blk hTb9 (i := 0) rfl
          have y1 := Xp.cell_blk hTb9 (i := 1) rfl
          have y2 := Xp.cell_blk hTb9 (i := 2) rfl
          have y3 := Xp.cell_blk hTb9 (i := 3) rfl
          have y4 := Xp.cell_blk hTb9 (i := 4) rfl
          clear hTb9
          cases BA with
          | false =>
            have hRf : Hid (R = false) := Lib.hid (by rw [← hR.out]; simp)
            have hfin := Lib.hid (hbaH.out.trans (hqw16.out.mono hbaH.out.size))
            clear hR
            go_wp2_with fail
            (try simp only [Exit.inBlock, Exit.then])
            go_ret
            exact ⟨by rw [hRf.out]; rfl, hfin.out⟩
          | true =>
            go_wp2_with fail
            refine (hgc.out w16 hqw16.out).mono ?_
            rintro e w17 ⟨rfl, hbw17⟩
            have hqw17 := Lib.hid (hqw16.out.trans (hbw17.mono hqw16.out.size))
            clear hbw17 y0 y1 y2 y3 y4
            have hTb9 := hTb.out w17 hqw17.out
            have y0 := Xp.cell_blk hTb9 (i := 0) rfl
            have y1 := Xp.cell_blk hTb9 (i := 1) rfl
            have y2 := Xp.cell_blk hTb9 (i := 2) rfl
            have y3 := Xp.cell_blk hTb9 (i := 3) rfl
            have y4 := Xp.cell_blk hTb9 (i := 4) rfl
            clear hTb9
            cases GD with
            | false =>
              have hRf : Hid (R = false) := Lib.hid (by rw [← hR.out]; simp)
              have hfin := Lib.hid (hbaH.out.trans (hqw17.out.mono hbaH.out.size))
              clear hR
              go_wp2_with fail
              (try simp only [Exit.inBlock, Exit.then])
              go_ret
              exact ⟨by rw [hRf.out]; rfl, hfin.out⟩
            | true =>
              have hRf : Hid (R = true) := Lib.hid (by rw [← hR.out]; simp)
              have hfin := Lib.hid (hbaH.out.trans (hqw17.out.mono hbaH.out.size))
              clear hR
              go_wp2_with fail
              (try simp only [Exit.inBlock, Exit.then])
              go_ret
              exact ⟨by rw [hRf.out]; rfl, hfin.out⟩
      | cons c1 r1 =>
        cases tx with
        | nil =>
          have e1 : S1.toList.isEmpty = false := ez1
          have e2 : S2.toList.isEmpty = true := ez2
          rw [decide_eq_false (by simp), decide_eq_false (by simp)] at hRe
          have hR := Lib.hid hRe
          clear hRe ez1 ez2
          go_enter Tryz.func16, Tryz.ntmps16
          go_wp2_with fail
          refine (hbc.out w1 hqw1.out).mono ?_
          rintro e w18 ⟨rfl, hbw18⟩
          have hqw18 := Lib.hid (hqw1.out.trans (hbw18.mono hqw1.out.size))
          clear hbw18 y0 y1 y2 y3 y4
          have hTb9 := hTb.out w18 hqw18.out
          have y0 := Xp.cell_blk hTb9 (i := 0) rfl
          have y1 := Xp.cell_blk hTb9 (i := 1) rfl
          have y2 := Xp.cell_blk hTb9 (i := 2) rfl
          have y3 := Xp.cell_blk hTb9 (i := 3) rfl
          have y4 := Xp.cell_blk hTb9 (i := 4) rfl
          clear hTb9
          cases BA with
          | false =>
            have hRf : Hid (R = false) := Lib.hid (by rw [← hR.out]; simp)
            have hfin := Lib.hid (hbaH.out.trans (hqw18.out.mono hbaH.out.size))
            clear hR
            go_wp2_with fail
            (try simp only [Exit.inBlock, Exit.then])
            go_ret
            exact ⟨by rw [hRf.out]; rfl, hfin.out⟩
          | true =>
            have hRf : Hid (R = false) := Lib.hid (by rw [← hR.out]; simp)
            have hfin := Lib.hid (hbaH.out.trans (hqw18.out.mono hbaH.out.size))
            clear hR
            go_wp2_with fail
            (try simp only [Exit.inBlock, Exit.then])
            go_ret
            exact ⟨by rw [hRf.out]; rfl, hfin.out⟩
        | cons c0 r0 =>
          have e1 : S1.toList.isEmpty = false := ez1
          have e2 : S2.toList.isEmpty = false := ez2
          rw [decide_eq_false (by simp), decide_eq_true (by simp)] at hRe
          have hR := Lib.hid hRe
          clear hRe ez1 ez2
          go_enter Tryz.func16, Tryz.ntmps16
          go_wp2_with fail
          refine (hbc.out w1 hqw1.out).mono ?_
          rintro e w19 ⟨rfl, hbw19⟩
          have hqw19 := Lib.hid (hqw1.out.trans (hbw19.mono hqw1.out.size))
          clear hbw19 y0 y1 y2 y3 y4
          have hTb9 := hTb.out w19 hqw19.out
          have y0 := Xp.cell_blk hTb9 (i := 0) rfl
          have y1 := Xp.cell_blk hTb9 (i := 1) rfl
          have y2 := Xp.cell_blk hTb9 (i := 2) rfl
          have y3 := Xp.cell_blk hTb9 (i := 3) rfl
          have y4 := Xp.cell_blk hTb9 (i := 4) rfl
          clear hTb9
          cases BA with
          | false =>
            have hRf : Hid (R = false) := Lib.hid (by rw [← hR.out]; simp)
            have hfin := Lib.hid (hbaH.out.trans (hqw19.out.mono hbaH.out.size))
            clear hR
            go_wp2_with fail
            (try simp only [Exit.inBlock, Exit.then])
            go_ret
            exact ⟨by rw [hRf.out]; rfl, hfin.out⟩
          | true =>
            have hRf : Hid (R = false) := Lib.hid (by rw [← hR.out]; simp)
            have hfin := Lib.hid (hbaH.out.trans (hqw19.out.mono hbaH.out.size))
            clear hR
            go_wp2_with fail
            (try simp only [Exit.inBlock, Exit.then])
            go_ret
            exact ⟨by rw [hRf.out]; rfl, hfin.out⟩
    rw [if_neg h2] at hRe
    have k2 : (kd == 2) = false := by simpa using h2
    by_cases h3 : kd = 3
    · subst h3
      rw [if_pos rfl, hBA, hPL, f3, fs] at hRe
      clear hBA hNM hAO hFL hGD hPL hC3 hC4 hSX hLX f3 f4 fs fl hnc hac hkc hgc hcc4 hlc h1 h2
      have k3 : ((3 : Int) == 3) = true := rfl
      cases nm with
      | nil =>
        have e1 : S1.toList.isEmpty = true := ez1
        rw [decide_eq_true (rfl)] at hRe
        have hR := Lib.hid hRe
        clear hRe ez1 ez2
        go_enter Tryz.func16, Tryz.ntmps16
        go_wp2_with fail
        refine (hbc.out w1 hqw1.out).mono ?_
        rintro e w20 ⟨rfl, hbw20⟩
        have hqw20 := Lib.hid (hqw1.out.trans (hbw20.mono hqw1.out.size))
        clear hbw20 y0 y1 y2 y3 y4
        have hTb9 := hTb.out w20 hqw20.out
        have y0 := Xp.cell_blk hTb9 (i := 0) rfl
        have y1 := Xp.cell_blk hTb9 (i := 1) rfl
        have y2 := Xp.cell_blk hTb9 (i := 2) rfl
        have y3 := Xp.cell_blk hTb9 (i := 3) rfl
        have y4 := Xp.cell_blk hTb9 (i := 4) rfl
        clear hTb9
        cases BA with
        | false =>
          have hRf : Hid (R = false) := Lib.hid (by rw [← hR.out]; simp)
          have hfin := Lib.hid (hbaH.out.trans (hqw20.out.mono hbaH.out.size))
          clear hR
          go_wp2_with fail
          (try simp only [Exit.inBlock, Exit.then])
          go_ret
          exact ⟨by rw [hRf.out]; rfl, hfin.out⟩
        | true =>
          go_wp2_with fail
          refine (hpc.out w20 hqw20.out).mono ?_
          rintro e w21 ⟨rfl, hbw21⟩
          have hqw21 := Lib.hid (hqw20.out.trans (hbw21.mono hqw20.out.size))
          clear hbw21 y0 y1 y2 y3 y4
          have hTb9 := hTb.out w21 hqw21.out
          have y0 := Xp.cell_blk hTb9 (i := 0) rfl
          have y1 := Xp.cell_blk hTb9 (i := 1) rfl
          have y2 := Xp.cell_blk hTb9 (i := 2) rfl
          have y3 := Xp.cell_blk hTb9 (i := 3) rfl
          have y4 := Xp.cell_blk hTb9 (i := 4) rfl
          clear hTb9
          cases PL with
          | false =>
            have hRf : Hid (R = false) := Lib.hid (by rw [← hR.out]; simp)
            have hfin := Lib.hid (hbaH.out.trans (hqw21.out.mono hbaH.out.size))
            clear hR
            go_wp2_with fail
            (try simp only [Exit.inBlock, Exit.then])
            go_ret
            exact ⟨by rw [hRf.out]; rfl, hfin.out⟩
          | true =>
            go_wp2_with fail
            refine (hcc3.out w21 hqw21.out).mono ?_
            rintro e wq ⟨rfl, hwq⟩
            replace hwq := hwq.symm
            subst hwq
            cases C3 with
            | true =>
              have hRf : Hid (R = false) := Lib.hid (by rw [← hR.out]; simp)
              have hfin := Lib.hid (hbaH.out.trans (hqw21.out.mono hbaH.out.size))
              clear hR
              go_wp2_with fail
              (try simp only [Exit.inBlock, Exit.then])
              go_ret
              exact ⟨by rw [hRf.out]; rfl, hfin.out⟩
            | false =>
              go_wp2_with fail
              refine (hsc.out w21 hqw21.out).mono ?_
              rintro e wq ⟨rfl, hwq⟩
              replace hwq := hwq.symm
              subst hwq
              cases SX with
              | true =>
                have hRf : Hid (R = false) := Lib.hid (by rw [← hR.out]; simp)
                have hfin := Lib.hid (hbaH.out.trans (hqw21.out.mono hbaH.out.size))
                clear hR
                go_wp2_with fail
                (try simp only [Exit.inBlock, Exit.then])
                go_ret
                exact ⟨by rw [hRf.out]; rfl, hfin.out⟩
              | false =>
                have hRf : Hid (R = true) := Lib.hid (by rw [← hR.out]; simp)
                have hfin := Lib.hid (hbaH.out.trans (hqw21.out.mono hbaH.out.size))
                clear hR
                go_wp2_with fail
                (try simp only [Exit.inBlock, Exit.then])
                go_ret
                exact ⟨by rw [hRf.out]; rfl, hfin.out⟩
      | cons c1 r1 =>
        have e1 : S1.toList.isEmpty = false := ez1
        rw [decide_eq_false (by simp)] at hRe
        have hR := Lib.hid hRe
        clear hRe ez1 ez2
        go_enter Tryz.func16, Tryz.ntmps16
        go_wp2_with fail
        refine (hbc.out w1 hqw1.out).mono ?_
        rintro e w24 ⟨rfl, hbw24⟩
        have hqw24 := Lib.hid (hqw1.out.trans (hbw24.mono hqw1.out.size))
        clear hbw24 y0 y1 y2 y3 y4
        have hTb9 := hTb.out w24 hqw24.out
        have y0 := Xp.cell_blk hTb9 (i := 0) rfl
        have y1 := Xp.cell_blk hTb9 (i := 1) rfl
        have y2 := Xp.cell_blk hTb9 (i := 2) rfl
        have y3 := Xp.cell_blk hTb9 (i := 3) rfl
        have y4 := Xp.cell_blk hTb9 (i := 4) rfl
        clear hTb9
        cases BA with
        | false =>
          have hRf : Hid (R = false) := Lib.hid (by rw [← hR.out]; simp)
          have hfin := Lib.hid (hbaH.out.trans (hqw24.out.mono hbaH.out.size))
          clear hR
          go_wp2_with fail
          (try simp only [Exit.inBlock, Exit.then])
          go_ret
          exact ⟨by rw [hRf.out]; rfl, hfin.out⟩
        | true =>
          have hRf : Hid (R = false) := Lib.hid (by rw [← hR.out]; simp)
          have hfin := Lib.hid (hbaH.out.trans (hqw24.out.mono hbaH.out.size))
          clear hR
          go_wp2_with fail
          (try simp only [Exit.inBlock, Exit.then])
          go_ret
          exact ⟨by rw [hRf.out]; rfl, hfin.out⟩
    rw [if_neg h3] at hRe
    have k3 : (kd == 3) = false := by simpa using h3
    by_cases h4 : kd = 4
    · subst h4
      rw [if_pos rfl, hBA, hNM, hPL, f4, fl] at hRe
      clear hBA hNM hAO hFL hGD hPL hC3 hC4 hSX hLX f3 f4 fs fl hac hkc hgc hcc3 hsc h1 h2 h3
      have k4 : ((4 : Int) == 4) = true := rfl
      cases tx with
      | nil =>
        have e2 : S2.toList.isEmpty = true := ez2
        have hR := Lib.hid hRe
        clear hRe ez1 ez2
        go_enter Tryz.func16, Tryz.ntmps16
        go_wp2_with fail
        refine (hbc.out w1 hqw1.out).mono ?_
        rintro e w25 ⟨rfl, hbw25⟩
        have hqw25 := Lib.hid (hqw1.out.trans (hbw25.mono hqw1.out.size))
        clear hbw25 y0 y1 y2 y3 y4
        have hTb9 := hTb.out w25 hqw25.out
        have y0 := Xp.cell_blk hTb9 (i := 0) rfl
        have y1 := Xp.cell_blk hTb9 (i := 1) rfl
        have y2 := Xp.cell_blk hTb9 (i := 2) rfl
        have y3 := Xp.cell_blk hTb9 (i := 3) rfl
        have y4 := Xp.cell_blk hTb9 (i := 4) rfl
        clear hTb9
        cases BA with
        | false =>
          have hRf : Hid (R = false) := Lib.hid (by rw [← hR.out]; simp [headOk])
          have hfin := Lib.hid (hbaH.out.trans (hqw25.out.mono hbaH.out.size))
          clear hR
          go_wp2_with fail
          (try simp only [Exit.inBlock, Exit.then])
          go_ret
          exact ⟨by rw [hRf.out]; rfl, hfin.out⟩
        | true =>
          go_wp2_with fail
          refine (hnc.out w25 hqw25.out).mono ?_
          rintro e w26 ⟨rfl, hbw26⟩
          have hqw26 := Lib.hid (hqw25.out.trans (hbw26.mono hqw25.out.size))
          clear hbw26 y0 y1 y2 y3 y4
          have hTb9 := hTb.out w26 hqw26.out
          have y0 := Xp.cell_blk hTb9 (i := 0) rfl
          have y1 := Xp.cell_blk hTb9 (i := 1) rfl
          have y2 := Xp.cell_blk hTb9 (i := 2) rfl
          have y3 := Xp.cell_blk hTb9 (i := 3) rfl
          have y4 := Xp.cell_blk hTb9 (i := 4) rfl
          clear hTb9
          cases NM with
          | false =>
            have hRf : Hid (R = false) := Lib.hid (by rw [← hR.out]; simp [headOk])
            have hfin := Lib.hid (hbaH.out.trans (hqw26.out.mono hbaH.out.size))
            clear hR
            go_wp2_with fail
            (try simp only [Exit.inBlock, Exit.then])
            go_ret
            exact ⟨by rw [hRf.out]; rfl, hfin.out⟩
          | true =>
            go_wp2_with fail
            refine (hlc.out w26 hqw26.out).mono ?_
            rintro e w27 ⟨tl, rfl, htl, hbw27⟩
            have hqw27 := Lib.hid (hqw26.out.trans (hbw27.mono hqw26.out.size))
            clear hbw27 y0 y1 y2 y3 y4
            have hTb9 := hTb.out w27 hqw27.out
            have y0 := Xp.cell_blk hTb9 (i := 0) rfl
            have y1 := Xp.cell_blk hTb9 (i := 1) rfl
            have y2 := Xp.cell_blk hTb9 (i := 2) rfl
            have y3 := Xp.cell_blk hTb9 (i := 3) rfl
            have y4 := Xp.cell_blk hTb9 (i := 4) rfl
            clear hTb9
            have s2 := str_eqL tl [120, 109, 108]
            have htl' : decide (tl = [120, 109, 108]) = LX := htl
            rw [htl'] at s2
            clear htl htl'
            cases LX with
            | true =>
              have hRf : Hid (R = false) := Lib.hid (by rw [← hR.out]; simp [headOk])
              have hfin := Lib.hid (hbaH.out.trans (hqw27.out.mono hbaH.out.size))
              clear hR
              go_wp2_with fail
              (try simp only [Exit.inBlock, Exit.then])
              go_ret
              exact ⟨by rw [hRf.out]; rfl, hfin.out⟩
            | false =>
              go_wp2_with fail
              refine (hpc.out w27 hqw27.out).mono ?_
              rintro e w28 ⟨rfl, hbw28⟩
              have hqw28 := Lib.hid (hqw27.out.trans (hbw28.mono hqw27.out.size))
              clear hbw28 y0 y1 y2 y3 y4
              have hTb9 := hTb.out w28 hqw28.out
              have y0 := Xp.cell_blk hTb9 (i := 0) rfl
              have y1 := Xp.cell_blk hTb9 (i := 1) rfl
              have y2 := Xp.cell_blk hTb9 (i := 2) rfl
              have y3 := Xp.cell_blk hTb9 (i := 3) rfl
              have y4 := Xp.cell_blk hTb9 (i := 4) rfl
              clear hTb9
              cases PL with
              | false =>
                have hRf : Hid (R = false) := Lib.hid (by rw [← hR.out]; simp [headOk])
                have hfin := Lib.hid (hbaH.out.trans (hqw28.out.mono hbaH.out.size))
                clear hR
                go_wp2_with fail
                (try simp only [Exit.inBlock, Exit.then])
                go_ret
                exact ⟨by rw [hRf.out]; rfl, hfin.out⟩
              | true =>
                go_wp2_with fail
                refine (hcc4.out w28 hqw28.out).mono ?_
                rintro e wq ⟨rfl, hwq⟩
                replace hwq := hwq.symm
                subst hwq
                cases C4 with
                | true =>
                  have hRf : Hid (R = false) := Lib.hid (by rw [← hR.out]; simp [headOk])
                  have hfin := Lib.hid (hbaH.out.trans (hqw28.out.mono hbaH.out.size))
                  clear hR
                  go_wp2_with fail
                  (try simp only [Exit.inBlock, Exit.then])
                  go_ret
                  exact ⟨by rw [hRf.out]; rfl, hfin.out⟩
                | false =>
                  have hRf : Hid (R = true) := Lib.hid (by rw [← hR.out]; simp [headOk])
                  have hfin := Lib.hid (hbaH.out.trans (hqw28.out.mono hbaH.out.size))
                  clear hR
                  go_wp2_with fail
                  (try simp only [Exit.inBlock, Exit.then])
                  go_ret
                  exact ⟨by rw [hRf.out]; rfl, hfin.out⟩
      | cons c0 r0 =>
        have e2 : S2.toList.isEmpty = false := ez2
        obtain ⟨BL, hBL⟩ : ∃ b, Qx.blank c0 = b := ⟨_, rfl⟩
        have hho : headOk (c0 :: r0) = !BL := by rw [← hBL]; rfl
        rw [hho] at hRe
        have hR := Lib.hid hRe
        have hz2 := hz2H.out
        have hsz : S2.size = (c0 :: r0).length := by rw [← hS2H.out]; exact strOf_size' _
        rw [List.length_cons] at hsz hz2
        have hlt0 : 0 < S2.size := by omega
        have hgx : S2[0]'hlt0 = c0 := by
          have h9 := hS2H.out
          subst h9
          exact str_at rfl hlt0
        have hc9 := c0.toNat_lt
        have hbk := Lib.hid (fun x => blank_any (c0.toNat : Int) x)
        have hbl' : Blank (c0.toNat : Int) = BL := hBL
        rw [hbl'] at hbk
        clear hRe ez1 ez2 hho hBL hbl' hz2
        go_enter Tryz.func16, Tryz.ntmps16
        go_wp2_with fail
        refine (hbk.out w1).mono ?_
        rintro e wq ⟨rfl, hwq⟩
        replace hwq := hwq.symm
        subst hwq
        go_wp2_with fail
        refine (hbc.out w1 hqw1.out).mono ?_
        rintro e w30 ⟨rfl, hbw30⟩
        have hqw30 := Lib.hid (hqw1.out.trans (hbw30.mono hqw1.out.size))
        clear hbw30 y0 y1 y2 y3 y4
        have hTb9 := hTb.out w30 hqw30.out
        have y0 := Xp.cell_blk hTb9 (i := 0) rfl
        have y1 := Xp.cell_blk hTb9 (i := 1) rfl
        have y2 := Xp.cell_blk hTb9 (i := 2) rfl
        have y3 := Xp.cell_blk hTb9 (i := 3) rfl
        have y4 := Xp.cell_blk hTb9 (i := 4) rfl
        clear hTb9
        cases BA with
        | false =>
          have hRf : Hid (R = false) := Lib.hid (by rw [← hR.out]; simp)
          have hfin := Lib.hid (hbaH.out.trans (hqw30.out.mono hbaH.out.size))
          clear hR
          go_wp2_with fail
          (try simp only [Exit.inBlock, Exit.then])
          go_ret
          exact ⟨by rw [hRf.out]; rfl, hfin.out⟩
        | true =>
          go_wp2_with fail
          refine (hnc.out w30 hqw30.out).mono ?_
          rintro e w31 ⟨rfl, hbw31⟩
          have hqw31 := Lib.hid (hqw30.out.trans (hbw31.mono hqw30.out.size))
          clear hbw31 y0 y1 y2 y3 y4
          have hTb9 := hTb.out w31 hqw31.out
          have y0 := Xp.cell_blk hTb9 (i := 0) rfl
          have y1 := Xp.cell_blk hTb9 (i := 1) rfl
          have y2 := Xp.cell_blk hTb9 (i := 2) rfl
          have y3 := Xp.cell_blk hTb9 (i := 3) rfl
          have y4 := Xp.cell_blk hTb9 (i := 4) rfl
          clear hTb9
          cases NM with
          | false =>
            have hRf : Hid (R = false) := Lib.hid (by rw [← hR.out]; simp)
            have hfin := Lib.hid (hbaH.out.trans (hqw31.out.mono hbaH.out.size))
            clear hR
            go_wp2_with fail
            (try simp only [Exit.inBlock, Exit.then])
            go_ret
            exact ⟨by rw [hRf.out]; rfl, hfin.out⟩
          | true =>
            go_wp2_with fail
            refine (hlc.out w31 hqw31.out).mono ?_
            rintro e w32 ⟨tl, rfl, htl, hbw32⟩
            have hqw32 := Lib.hid (hqw31.out.trans (hbw32.mono hqw31.out.size))
            clear hbw32 y0 y1 y2 y3 y4
            have hTb9 := hTb.out w32 hqw32.out
            have y0 := Xp.cell_blk hTb9 (i := 0) rfl
            have y1 := Xp.cell_blk hTb9 (i := 1) rfl
            have y2 := Xp.cell_blk hTb9 (i := 2) rfl
            have y3 := Xp.cell_blk hTb9 (i := 3) rfl
            have y4 := Xp.cell_blk hTb9 (i := 4) rfl
            clear hTb9
            have s2 := str_eqL tl [120, 109, 108]
            have htl' : decide (tl = [120, 109, 108]) = LX := htl
            rw [htl'] at s2
            clear htl htl'
            cases LX with
            | true =>
              have hRf : Hid (R = false) := Lib.hid (by rw [← hR.out]; simp)
              have hfin := Lib.hid (hbaH.out.trans (hqw32.out.mono hbaH.out.size))
              clear hR
              go_wp2_with fail
              (try simp only [Exit.inBlock, Exit.then])
              go_ret
              exact ⟨by rw [hRf.out]; rfl, hfin.out⟩
            | false =>
              go_wp2_with fail
              refine (hpc.out w32 hqw32.out).mono ?_
              rintro e w33 ⟨rfl, hbw33⟩
              have hqw33 := Lib.hid (hqw32.out.trans (hbw33.mono hqw32.out.size))
              clear hbw33 y0 y1 y2 y3 y4
              have hTb9 := hTb.out w33 hqw33.out
              have y0 := Xp.cell_blk hTb9 (i := 0) rfl
              have y1 := Xp.cell_blk hTb9 (i := 1) rfl
              have y2 := Xp.cell_blk hTb9 (i := 2) rfl
              have y3 := Xp.cell_blk hTb9 (i := 3) rfl
              have y4 := Xp.cell_blk hTb9 (i := 4) rfl
              clear hTb9
              cases PL with
              | false =>
                have hRf : Hid (R = false) := Lib.hid (by rw [← hR.out]; simp)
                have hfin := Lib.hid (hbaH.out.trans (hqw33.out.mono hbaH.out.size))
                clear hR
                go_wp2_with fail
                (try simp only [Exit.inBlock, Exit.then])
                go_ret
                exact ⟨by rw [hRf.out]; rfl, hfin.out⟩
              | true =>
                go_wp2_with fail
                refine (hcc4.out w33 hqw33.out).mono ?_
                rintro e wq ⟨rfl, hwq⟩
                replace hwq := hwq.symm
                subst hwq
                cases C4 with
                | true =>
                  have hRf : Hid (R = false) := Lib.hid (by rw [← hR.out]; simp)
                  have hfin := Lib.hid (hbaH.out.trans (hqw33.out.mono hbaH.out.size))
                  clear hR
                  go_wp2_with fail
                  (try simp only [Exit.inBlock, Exit.then])
                  go_ret
                  exact ⟨by rw [hRf.out]; rfl, hfin.out⟩
                | false =>
                  cases BL with
                  | true =>
                    have hRf : Hid (R = false) := Lib.hid (by rw [← hR.out]; simp)
                    have hfin := Lib.hid (hbaH.out.trans (hqw33.out.mono hbaH.out.size))
                    clear hR
                    go_wp2_with fail
                    (try simp only [Exit.inBlock, Exit.then])
                    go_ret
                    exact ⟨by rw [hRf.out]; rfl, hfin.out⟩
                  | false =>
                    have hRf : Hid (R = true) := Lib.hid (by rw [← hR.out]; simp)
                    have hfin := Lib.hid (hbaH.out.trans (hqw33.out.mono hbaH.out.size))
                    clear hR
                    go_wp2_with fail
                    (try simp only [Exit.inBlock, Exit.then])
                    go_ret
                    exact ⟨by rw [hRf.out]; rfl, hfin.out⟩
    rw [if_neg h4] at hRe
    have k4 : (kd == 4) = false := by simpa using h4
    subst hRe
    clear hBA hNM hAO hFL hGD hPL hC3 hC4 hSX hLX f3 f4 fs fl hnc hac hkc hgc hcc3 hsc h1 h2 h3 h4 hbc hpc hcc4 hlc
    go_enter Tryz.func16, Tryz.ntmps16
    go_wp2_with fail
    go_ret
    exact ⟨rfl, hbaH.out⟩
end Go.Proofs.YtokdnhdfmgfkeaaGreatDoor.Xp
end

section
namespace Go.Proofs.YtokdnhdfmgfkeaaGreatDoor.Xp
open Go.RowKit UtfW Xl Xo Xt

theorem find_none_iff {p : Tx} (hp : p ≠ []) : ∀ {s : Tx}, find p s = none ↔ ∀ i, p.isPrefixOf (s.drop i) = false
  | [] => by
    rw [find, if_neg hp]
    refine ⟨fun _ i => ?_, fun _ => rfl⟩
    rw [List.drop_nil]
    cases p with
    | nil => exact absurd rfl hp
    | cons a b => rfl
  | b :: r => by
    rw [find]
    constructor
    · intro h i
      by_cases hh : p.isPrefixOf (b :: r) = true
      · rw [if_pos hh] at h; cases h
      · rw [if_neg hh, Option.map_eq_none_iff] at h
        cases i with
        | zero => rw [List.drop_zero]; exact Bool.eq_false_iff.2 hh
        | succ i => exact (find_none_iff hp).1 h i
    · intro h
      have h0 := h 0
      rw [List.drop_zero] at h0
      rw [if_neg (by rw [h0]; decide), Option.map_eq_none_iff]
      exact (find_none_iff hp).2 fun i => h (i + 1)
theorem find_one {s : Tx} {c : UInt8} : (find [c] s).isSome = decide (c ∈ s) := by
  rw [Bool.eq_iff_iff, decide_eq_true_eq]
  constructor
  · intro h
    by_cases hc : c ∈ s
    · exact hc
    exfalso
    have : find [c] s = none := (find_none_iff (by simp)).2 fun i => by
      cases hd : s.drop i with
      | nil => rfl
      | cons x y =>
        have hx : x ∈ s := List.mem_of_mem_drop (i := i) (by rw [hd]; simp)
        have : c ≠ x := fun e => hc (e ▸ hx)
        simp [List.isPrefixOf, this]
    rw [this] at h
    cases h
  · intro hc
    cases hf : find [c] s with
    | some k => rfl
    | none =>
      exfalso
      obtain ⟨i, hi⟩ := List.mem_iff_getElem?.1 hc
      have := (find_none_iff (by simp)).1 hf i
      obtain ⟨hl, e⟩ := List.getElem?_eq_some_iff.1 hi
      rw [List.drop_eq_getElem_cons hl, e] at this
      simp [List.isPrefixOf] at this
theorem str_eq_iff (a b : Tx) : ((strOf a).toList == (strOf b).toList) = decide (a = b) := by
  rw [Lib.toList_data, Lib.toList_data, strOf_data', strOf_data', Bool.eq_iff_iff, beq_iff_eq, decide_eq_true_eq]
theorem pre_slice {p s : Tx} {i : Nat} (h : i + p.length ≤ s.length) : p.isPrefixOf (s.drop i) = decide ((s.drop i).take p.length = p) := by
  rw [Bool.eq_iff_iff, List.isPrefixOf_iff_prefix, decide_eq_true_eq, List.prefix_iff_eq_take]
  exact ⟨fun h => h.symm, fun h => h.symm⟩
theorem pre_long {p s : Tx} {i : Nat} (hp : p ≠ []) (h : s.length < i + p.length) : p.isPrefixOf (s.drop i) = false := by
  rw [Bool.eq_false_iff]
  intro hc
  have := (List.isPrefixOf_iff_prefix.1 hc).length_le
  rw [List.length_drop] at this
  have : 0 < p.length := List.length_pos_iff.2 hp
  omega
theorem extract_str (s : Tx) (i j : Nat) : (strOf s).extract i j = strOf ((s.drop i).take (j - i)) := by
  apply ByteArray.ext
  simp [strOf, ByteArray.data_extract, List.extract_toArray]
set_option maxHeartbeats 2000000 in
set_option maxRecDepth 100000 in
theorem rhas_any (s p : Tx) (hs : s.length ≤ 1000000) (hp : p.length ≤ 1000000) (hp0 : p ≠ []) (w : World) :
    Calls Tryz.prog 53 #[.string (strOf s), .string (strOf p)] w fun e w' => e = .returned (.bool (find p s).isSome) ∧ Below w.heap.size w w' := by
  have hsz : (strOf s).size = s.length := strOf_size' s
  have hpz : (strOf p).size = p.length := strOf_size' p
  obtain ⟨R, hR⟩ : ∃ R, (find p s).isSome = R := ⟨_, rfl⟩
  rw [hR]
  have hR' := Lib.hid hR
  have hp0' := Lib.hid hp0
  clear hR hp0
  obtain ⟨n, hn⟩ : ∃ n, s.length = n := ⟨_, rfl⟩
  obtain ⟨m, hm⟩ : ∃ m, p.length = m := ⟨_, rfl⟩
  rw [hn] at hsz hs
  rw [hm] at hpz hp
  have hn' := Lib.hid hn
  have hm' := Lib.hid hm
  clear hn hm
  go_enter Tryz.func53, Tryz.ntmps53
  go_wp2_with fail
  go_loopw [5] (fun v5 wr => ∃ i : Nat, i ≤ n + 1 ∧ v5 = .int .i64 (i : Nat) ∧ Hid (∀ k, k < i → p.isPrefixOf (s.drop k) = false) ∧ Hid (Below w.heap.size w wr)) (fun v5 _ => n + 1 - (intOf v5).toNat)
  case atStart => exact ⟨0, by omega, rfl, Lib.hid (fun m hm => absurd hm (by omega)), Lib.hid (Below.refl _ _)⟩
  case round =>
    obtain ⟨i, hi, rfl, hok, hb⟩ := hrel
    by_cases hlt : i + m ≤ n
    · have i1 : decide ((i : Int) + (m : Int) ≤ (n : Int)) = true := by rw [decide_eq_true_eq]; omega
      have q1 : (i : Int) + (m : Int) ≤ (n : Int) := by omega
      have hex : (strOf s).extract i (i + m) = strOf ((s.drop i).take m) := by rw [extract_str, Nat.add_sub_cancel_left]
      have heq := str_eq_iff ((s.drop i).take m) p
      have hpre : Hid (p.isPrefixOf (s.drop i) = decide ((s.drop i).take m = p)) := Lib.hid (by rw [← hm'.out]; exact pre_slice (by rw [hm'.out, hn'.out]; exact hlt))
      by_cases hq : (s.drop i).take m = p
      · rw [decide_eq_true hq] at heq
        have hRt : Hid (R = true) := Lib.hid (by
          rw [← hR'.out]
          cases hf : find p s with
          | some k => rfl
          | none =>
            have := (find_none_iff hp0'.out).1 hf i
            rw [hpre.out, decide_eq_true hq] at this
            cases this)
        clear hq hpre
        go_wp2_with fail
        (try simp only [Exit.inBlock, Exit.then])
        go_ret
        exact ⟨by rw [hRt.out]; rfl, hb.out⟩
      · rw [decide_eq_false hq] at heq
        have hnext : Hid (∀ k, k < i + 1 → p.isPrefixOf (s.drop k) = false) := Lib.hid fun k hk => by
          by_cases hki : k = i
          · rw [hki, hpre.out, decide_eq_false hq]
          · exact hok.out k (by omega)
        clear hq hpre
        go_wp2_with fail
        go_roundw
        case rel => exact ⟨i + 1, by omega, by go_num, hnext, hb⟩
        case measure => simp [intOf]; omega
    · have i1 : decide ((i : Int) + (m : Int) ≤ (n : Int)) = false := by rw [decide_eq_false_iff_not]; omega
      have q1 : ¬ (i : Int) + (m : Int) ≤ (n : Int) := by omega
      have hRf : Hid (R = false) := Lib.hid (by
        rw [← hR'.out, (find_none_iff hp0'.out).2 fun k => ?_]
        · rfl
        · by_cases hk : k < i
          · exact hok.out k hk
          · exact pre_long hp0'.out (by rw [hn'.out, hm'.out]; omega))
      go_wp2_with fail
      (try simp only [Exit.inBlock, Exit.then])
      go_ret
      exact ⟨by rw [hRf.out]; rfl, hb.out⟩
def Lw (w wr : World) (T : Nat) (L : Tx) : Prop := Below w.heap.size w wr ∧ w.heap.size ≤ T ∧ T < wr.heap.size ∧ ∀ (j : Nat) x, L[j]? = some x → wr.cell? ⟨T, j, none⟩ = some (.int .u8 (x.toNat : Int)) ∧ wr.frozen? ⟨T, j, none⟩ = false
theorem lw_new (w : World) (s : Tx) (hs : s.length ≤ 1000000) : Lw w (Lib.bytesWorld w 5 (strOf s)) w.heap.size s := by
  have hsz : (strOf s).size = s.length := strOf_size' s
  have hd : (strOf s).data.toList = s := strOf_data' s
  refine ⟨(bs_convert w (strOf s) (by omega)).2, Nat.le_refl _, by rw [Lib.bytesWorld_size]; omega, fun j x hx => ?_⟩
  have hj : j < (strOf s).size := by rw [hsz]; exact (List.getElem?_eq_some_iff.1 hx).1
  constructor
  · rw [Lib.bytesWorld_cell w 5 (strOf s) j hj, hd, List.getD_eq_getElem?_getD, hx]
    rfl
  · have hc : (Lib.bytesCells w 5 (strOf s)).size ≥ (strOf s).size := by
      have h1 := Lib.bytesWorld_cell w 5 (strOf s) ((strOf s).size - 1) (by omega)
      simp only [World.cell?, Lib.bytesWorld_at_new] at h1
      have h2 := (Array.getElem?_eq_some_iff.1 h1).1
      omega
    simp only [World.frozen?, Lib.bytesWorld_at_new]
    simp
    omega
theorem Lw.set {w wr : World} {T : Nat} {L : Tx} (h : Lw w wr T L) {i : Nat} (x : UInt8) (hi : i < L.length) : Lw w (wr.setCell ⟨T, i, none⟩ (.int .u8 (x.toNat : Int))) T (L.set i x) := by
  obtain ⟨h1, h2, h3, h4⟩ := h
  refine ⟨h1.setCell h2 _, h2, by simpa using h3, fun j y hy => ?_⟩
  by_cases hij : i = j
  · subst hij
    rw [List.getElem?_set_self hi] at hy
    injection hy with hy
    subst hy
    obtain ⟨c1, c2⟩ := h4 i _ (List.getElem?_eq_getElem hi)
    exact ⟨World.cell?_setCell_same' _ _ _ (by rw [c1]; rfl), by simpa using c2⟩
  · rw [List.getElem?_set_ne hij] at hy
    obtain ⟨c1, c2⟩ := h4 j _ hy
    exact ⟨by rw [World.cell?_setCell_other _ _ _ _ (by intro e; injection e with _ e; exact hij e)]; exact c1, by simpa using c2⟩
theorem Lw.bs {w wr : World} {T : Nat} {L : Tx} (h : Lw w wr T L) {c : Nat} (hc : L.length ≤ c) (hm : c ≤ 9223372036854775807) : Bs wr (some ⟨T, 0, none⟩) L.length c L :=
  { len := by rw [bv_length], le := hc, max := hm, nil := (fun h => by cases h), cell := fun _ => ⟨T, 0, rfl, h.2.2.1, fun j u hu => by
      obtain ⟨x, hx, rfl⟩ := bv_get hu
      rw [Nat.zero_add]
      exact (h.2.2.2 j x hx).1⟩ }
theorem _root_.List.set_getElem?_self' {α : Type} {l : List α} {i : Nat} {x : α} (h : l[i]? = some x) : l.set i x = l := by
  obtain ⟨hl, rfl⟩ := List.getElem?_eq_some_iff.1 h
  exact List.set_getElem_self hl
theorem low_add {x : UInt8} (h1 : 65 ≤ x.toNat) (h2 : x.toNat ≤ 90) : low x = x + 32 ∧ (low x).toNat = x.toNat + 32 := by
  have : low x = x + 32 := by
    unfold low
    rw [if_pos ⟨h1, h2⟩]
  rw [this]
  refine ⟨rfl, ?_⟩
  rw [UInt8.toNat_add]
  simp
  omega
theorem low_out {x : UInt8} (h : ¬ (65 ≤ x.toNat ∧ x.toNat ≤ 90)) : low x = x := by
  unfold low
  rw [if_neg h]
theorem low_step {s : Tx} {i : Nat} {x : UInt8} (hx : s[i]? = some x) : ((s.take i).map low ++ s.drop i).set i (low x) = (s.take (i + 1)).map low ++ s.drop (i + 1) := by
  obtain ⟨hl, rfl⟩ := List.getElem?_eq_some_iff.1 hx
  have hlen : ((s.take i).map low).length = i := by simp; omega
  rw [List.set_append_right _ _ (by omega), hlen, Nat.sub_self, List.drop_eq_getElem_cons hl, List.set_cons_zero, take_snoc hx, List.map_append]
  simp
set_option maxHeartbeats 2000000 in
set_option maxRecDepth 100000 in
theorem rlower_any (s : Tx) (hs : s.length ≤ 1000000) (w : World) :
    Calls Tryz.prog 55 #[.string (strOf s)] w fun e w' => e = .returned (.string (strOf (s.map low))) ∧ Below w.heap.size w w' := by
  have hsz : (strOf s).size = s.length := strOf_size' s
  have hcv := Lib.run_convert_string_bytes (P := Tryz.prog) w 9 41 5 (strOf s) Tryz.underlying9 Tryz.underlying41 Tryz.underlying5
  have hl0 := Lib.hid (lw_new w s hs)
  have hg1 := grownCap_ge w (strOf s).size 0 5
  have hg2 := grownCap_le_maxLen w (strOf s).size 0 5 (by unfold maxLen; omega)
  obtain ⟨c, hc⟩ : ∃ c, grownCap w (strOf s).size 0 5 = c := ⟨_, rfl⟩
  rw [hc] at hcv hg1 hg2
  obtain ⟨n, hn⟩ : ∃ n, s.length = n := ⟨_, rfl⟩
  rw [hn] at hs hsz
  rw [hsz] at hcv hg1
  have hn' := Lib.hid hn
  have hg2' : c ≤ 9223372036854775807 := by unfold maxLen at hg2; omega
  obtain ⟨T, hT⟩ : ∃ T, w.heap.size = T := ⟨_, rfl⟩
  obtain ⟨w1, hw1⟩ : ∃ w1, Lib.bytesWorld w 5 (strOf s) = w1 := ⟨_, rfl⟩
  rw [hw1] at hcv hl0
  rw [hT] at hcv hl0
  clear hc hn hg2 hsz
  go_enter Tryz.func55, Tryz.ntmps55
  go_wp2_with fail
  clear hcv hw1
  go_loopw [4] (fun v4 wr => ∃ i : Nat, i ≤ n ∧ v4 = .int .i64 (i : Nat) ∧ Hid (Lw w wr T ((s.take i).map low ++ s.drop i))) (fun v4 _ => n - (intOf v4).toNat)
  case atStart => exact ⟨0, by omega, rfl, Lib.hid (by simpa using hl0.out)⟩
  case round =>
    obtain ⟨i, hi, rfl, hlw⟩ := hrel
    by_cases hlt : i < n
    · have i1 : decide ((i : Int) < (n : Int)) = true := by simp; omega
      have q1 : (i : Int) < (n : Int) := by omega
      obtain ⟨x, hx⟩ : ∃ x, s[i]? = some x := ⟨_, List.getElem?_eq_getElem (by rw [hn'.out]; exact hlt)⟩
      have hLi : ((s.take i).map low ++ s.drop i)[i]? = some x := by
        rw [List.getElem?_append_right (by simp; omega)]
        simp only [List.length_map, List.length_take, List.getElem?_drop]
        rw [show i + (i - min i s.length) = i from by rw [hn'.out]; omega]
        exact hx
      obtain ⟨hc1, hf1⟩ := hlw.out.2.2.2 i x hLi
      have hx9 := x.toNat_lt
      have hnext : Hid (Lw w (wr.setCell ⟨T, i, none⟩ (.int .u8 ((low x).toNat : Int))) T ((s.take (i + 1)).map low ++ s.drop (i + 1))) := Lib.hid (by
        rw [← low_step hx]
        exact hlw.out.set (low x) (List.getElem?_eq_some_iff.1 hLi).1)
      by_cases h1 : 65 ≤ x.toNat
      · by_cases h2 : x.toNat ≤ 90
        · have j1 : decide ((65 : Int) ≤ (x.toNat : Int)) = true := by simp; omega
          have j2 : decide ((x.toNat : Int) ≤ 90) = true := by simp; omega
          have e2 := (low_add h1 h2).2
          rw [e2] at hnext
          have e3 : ((x.toNat + 32 : Nat) : Int) = (x.toNat : Int) + 32 := by omega
          rw [e3] at hnext
          clear hLi hx e2 e3
          go_wp2_with fail
          go_roundw
          case rel => exact ⟨i + 1, by omega, by go_num, hnext⟩
          case measure => simp [intOf]; omega
        · have j1 : decide ((65 : Int) ≤ (x.toNat : Int)) = true := by simp; omega
          have j2 : decide ((x.toNat : Int) ≤ 90) = false := by simp; omega
          have hnext2 : Hid (Lw w wr T ((s.take (i + 1)).map low ++ s.drop (i + 1))) := Lib.hid (by
            rw [← low_step hx, low_out (by omega), List.set_getElem?_self' hLi]
            exact hlw.out)
          clear hLi hx hnext
          go_wp2_with fail
          go_roundw
          case rel => exact ⟨i + 1, by omega, by go_num, hnext2⟩
          case measure => simp [intOf]; omega
      · have j1 : decide ((65 : Int) ≤ (x.toNat : Int)) = false := by simp; omega
        have hnext2 : Hid (Lw w wr T ((s.take (i + 1)).map low ++ s.drop (i + 1))) := Lib.hid (by
          rw [← low_step hx, low_out (by omega), List.set_getElem?_self' hLi]
          exact hlw.out)
        clear hLi hx hnext
        go_wp2_with fail
        go_roundw
        case rel => exact ⟨i + 1, by omega, by go_num, hnext2⟩
        case measure => simp [intOf]; omega
    · have hie : i = n := by omega
      subst hie
      have i1 : decide ((i : Int) < (i : Int)) = false := by simp
      have hlw2 : Lw w wr T (s.map low) := by
        have := hlw.out
        rwa [List.drop_eq_nil_of_le (by rw [hn'.out]; exact Nat.le_refl _), List.append_nil, List.take_of_length_le (by rw [hn'.out]; exact Nat.le_refl _)] at this
      have hbs := hlw2.bs (c := c) (by rw [List.length_map, hn'.out]; exact hg1) hg2'
      rw [List.length_map, hn'.out] at hbs
      have hcb := hbs.conv (P := Tryz.prog) (src := 41) (dst := 9) Tryz.underlying41 Tryz.underlying5 Tryz.underlying9
      have hfin := Lib.hid hlw2.1
      clear hlw2 hbs hlw
      go_wp2_with fail
      (try simp only [Exit.inBlock, Exit.then])
      go_ret
      exact ⟨rfl, hfin.out⟩
end Go.Proofs.YtokdnhdfmgfkeaaGreatDoor.Xp
end

section
namespace Go.Proofs.YtokdnhdfmgfkeaaGreatDoor.UtfW
open Go.RowKit
theorem rd_one (w : World) (v : Value) (E : TypeId) : Rd (w.alloc (.cells #[v] E)) (some ⟨w.heap.size, 0, none⟩) 1 1 [v] :=
  { len := rfl, le := Nat.le_refl _, max := by omega, nil := (fun h => by cases h), cell := fun _ => ⟨w.heap.size, 0, rfl, by simp, fun j u hu => by
    obtain rfl : j = 0 := by have := (List.getElem?_eq_some_iff.1 hu).1; simp at this; omega
    simp at hu
    subst hu
    exact World.cell?_alloc_at _ _ _ _ rfl⟩ }


end Go.Proofs.YtokdnhdfmgfkeaaGreatDoor.UtfW
end

section
namespace Go.Proofs.YtokdnhdfmgfkeaaGreatDoor.UtfW
open Go.RowKit

def OwI (w : World) (B E : Nat) (v : Value) (rs : List Nat) : Prop := w.ownsRow B E 1 v rs.length (rs.map fun r => Value.int .i32 (r : Nat))

theorem OwI.nil (w : World) (B E : Nat) : OwI w B E (.slice none 0 0) [] := World.ownsRow_nil w B E 1

theorem OwI.below {w w' : World} {B E : Nat} {v : Value} {rs : List Nat} (h1 : OwI w B E v rs) (hb : Below w.heap.size w w') : OwI w' B E v rs :=
  World.ownsRow.kept (row := none) h1 ⟨hb.os, hb.tape, hb.output, hb.size, fun k hk _ => hb.block k hk⟩ (by
    rcases h1.2 with ⟨rfl, _⟩ | ⟨g, cap, cur, rfl, _⟩
    · exact .inl rfl
    · right; simp [Value.ownBlock])

theorem OwI.rd {w : World} {B E : Nat} {A : Option Addr} {n c : Nat} {rs : List Nat} (h : OwI w B E (.slice A n c) rs) : Rd w A n c (rs.map fun r => Value.int .i32 (r : Nat)) := by
  have hn : n = rs.length := by
    rcases h.2 with ⟨hv, h0⟩ | ⟨g, cap, cur, hv, _⟩
    · injection hv with _ h2 _; omega
    · injection hv
  subst hn
  exact rd_of_own h

section
variable {P : Program} {ops : Array Oper} {rest : List Oper} {o : Oper} {a : Act} {Q : Exit → Act → World → Prop}
theorem append_rune (w : World) (t e : TypeId) (ht : P.underlying t = some (.slice e))
    (hinfo : (P.info? e).map (fun i => (i.zero, i.size, i.bytes)) = some (some (.int .i32 0), 1, 4))
    (hgd : o.guard = none) (s x : Operand)
    (ho : o.op = .call { callee := .builtin .append, args := #[s, x], argTypes := #[t, t] })
    (B : Nat) (v : Value) (la : List Nat) (hs : a.eval s = v) (hown : OwI w B e v la)
    (A : Option Addr) (c : Nat) (r : Nat) (hx : a.eval x = .slice A 1 c) (hr : Rd w A 1 c [.int .i32 (r : Nat)])
    (N : Nat) (hN : la.length + 1 = N) (hsz : N ≤ 35184372088832) (hB : B ≤ w.heap.size)
    (h : ∀ A' c' w', OwI w' B e (.slice A' N c') (la ++ [r]) → w.grownBy w' v.ownBlock → Below B w w' → wpList P ops Q rest (a.put o.dst (.slice A' N c')) w') :
    wpList P ops Q (o :: rest) a w := by
  refine wpList_append_rd w hgd s x t ho B e (.int .i32 0) 4 ht hinfo rfl v la.length (la.map fun r => Value.int .i32 (r : Nat)) hs hown A 1 c [.int .i32 (r : Nat)] hx hr (fun u hu => ?_) (by omega) (by omega) hB ?_
  · rw [List.mem_singleton.1 hu]
    rfl
  intro A' c' w' h1 h2 h3 _
  rw [hN] at h1 ⊢
  refine h A' c' w' ?_ h2 h3
  unfold OwI
  rw [List.map_append, List.length_append, show la.length + [r].length = N from hN]
  exact h1
end

theorem i32_info : (Tryz.prog.info? 21).map (fun i => (i.zero, i.size, i.bytes)) = some (some (.int .i32 0), 1, 4) := by kernel_rfl

theorem bs_convert (w : World) (s : ByteArray) (hs : s.size ≤ 281474976710656) :
    Bs (Lib.bytesWorld w 5 s) (some ⟨w.heap.size, 0, none⟩) s.size (grownCap w s.size 0 5) s.data.toList ∧ Below w.heap.size w (Lib.bytesWorld w 5 s) := by
  have hl : s.data.toList.length = s.size := by rw [Array.length_toList]; rfl
  refine ⟨{ len := by rw [bv_length, hl], le := grownCap_ge _ _ _ _, max := ?_, nil := (fun h => by cases h), cell := fun h0 => ⟨w.heap.size, 0, rfl, by rw [Lib.bytesWorld_size]; omega, ?_⟩ }, ?_⟩
  · have := grownCap_le_maxLen w s.size 0 5 (by unfold maxLen; omega)
    unfold maxLen at this
    omega
  · intro j u hu
    obtain ⟨x, hx, rfl⟩ := bv_get hu
    have hj : j < s.size := by rw [← hl]; exact (List.getElem?_eq_some_iff.1 hx).1
    rw [Nat.zero_add, Lib.bytesWorld_cell w 5 s j hj, List.getD_eq_getElem?_getD, hx]
    rfl
  · exact ⟨rfl, rfl, rfl, by rw [Lib.bytesWorld_size]; omega, fun k hk => Lib.bytesWorld_at_old w 5 s k hk⟩
set_option maxHeartbeats 2000000 in
set_option maxRecDepth 100000 in
theorem refRunes_any (s : ByteArray) (hs : s.size ≤ 35184372088832) (w : World) :
    Calls Tryz.prog 84 #[.string s] w fun e w' => ∃ A n c ok, e = .returned (.tuple #[.slice A n c, .bool ok]) ∧
      ((ok = false ∧ runesW s.data.toList 0 = none) ∨ (ok = true ∧ ∃ rs, runesW s.data.toList 0 = some rs ∧ rs.length = n ∧ OwI w' w.heap.size 21 (.slice A n c) rs)) ∧ Below w.heap.size w w' := by
  obtain ⟨hbs, hbw⟩ := bs_convert w s (by omega)
  have hcv : (convert 9 41 (.string s)).run Tryz.prog w = .ok (.slice (some ⟨w.heap.size, 0, none⟩) s.size (grownCap w s.size 0 5)) (Lib.bytesWorld w 5 s) :=
    Lib.run_convert_string_bytes w 9 41 5 s Tryz.underlying9 Tryz.underlying41 Tryz.underlying5
  obtain ⟨cb, hcb⟩ : ∃ cb, grownCap w s.size 0 5 = cb := ⟨_, rfl⟩
  obtain ⟨wb, hwb⟩ : ∃ wb, Lib.bytesWorld w 5 s = wb := ⟨_, rfl⟩
  rw [hcb, hwb] at hcv
  rw [hcb, hwb] at hbs
  rw [hwb] at hbw
  clear hcb hwb
  obtain ⟨n, hn⟩ : ∃ n, s.size = n := ⟨_, rfl⟩
  rw [hn] at hs hcv hbs
  obtain ⟨l, hl⟩ : ∃ l, s.data.toList = l := ⟨_, rfl⟩
  rw [hl] at hbs ⊢
  clear hl hn
  have HL : Hid (l.length = n) := hbs.len
  have hB := hbw.size
  have hbw' := Lib.hid hbw
  clear hbw
  go_enter Tryz.func84, Tryz.ntmps84
  go_wp2_with fail
  go_loopw [5, 6] (fun out v wr => ∃ (k : Nat) (A : Option Addr) (c m : Nat) (rs : List Nat), k ≤ n ∧ m ≤ k ∧ v = .int .i64 (k : Nat) ∧ out = .slice A m c ∧ rs.length = m ∧ Hid (runesW l 0 = (runesW l k).map (rs ++ ·)) ∧ Hid (OwI wr wb.heap.size 21 out rs) ∧ Hid (Below wb.heap.size wb wr)) (fun _ v _ => n - (intOf v).toNat)
  case atStart => exact ⟨0, none, 0, 0, [], by omega, by omega, rfl, rfl, rfl, Lib.hid (by cases runesW l 0 <;> simp), Lib.hid (OwI.nil _ _ _), Lib.hid (Below.refl _ _)⟩
  case round =>
    obtain ⟨k, A, c, m, rs, hk, hmk, rfl, rfl, hm, hr, ho, hbb⟩ := hrel
    by_cases hlt : k < n
    · have i0 : decide ((k : Int) < (n : Int)) = true := by simp; omega
      have hl : k < l.length := by rw [HL.out]; exact hlt
      have hle := nx_le hl
      rw [HL.out] at hle
      have hc := refNext_any _ n cb l k (by omega) wr (hbs.below hbb.out)
      rw [nxI_nat] at hc
      obtain ⟨P, hP⟩ : ∃ P, nx l k = P := ⟨_, rfl⟩
      rw [hP] at hc hle
      have hP' := Lib.hid hP
      clear hP
      obtain ⟨r, d⟩ := P
      unfold nxV at hc
      simp only at hc hle
      go_wp2_with fail
      refine hc.mono ?_
      rintro e w1 ⟨rfl, hb1⟩
      have hxb := Lib.hid (hbb.out.trans (hb1.mono hbb.out.size))
      have ho1 := Lib.hid (ho.out.below hb1)
      have hsz1 := hb1.size
      have hB0 := hbb.out.size
      clear hb1 hc
      have hl' := Lib.hid hl
      clear hl
      by_cases hd : d = 0
      · subst hd
        go_wp2_with fail
        go_ret2
        refine ⟨_, _, _, _, rfl, .inl ⟨rfl, ?_⟩, hbw'.out.trans (hxb.out.mono hB)⟩
        rw [hr.out, runesW_stop hl'.out (by rw [hP'.out])]
        rfl
      · have j1 : ((d : Int) == 0) = false := by rw [beq_eq_false_iff_ne]; omega
        have j2 : decide ((d : Int) = 0) = false := by simp; omega
        go_wp2_with (at_builtin; apply stop_here)
        refine Stop.go (append_rune _ 113 21 Tryz.underlying113 i32_info rfl _ _ rfl wb.heap.size _ rs rfl (ho1.out.below (below_alloc _ _)) _ 1 r rfl ?_ (m + 1) (by omega) (by omega) (by simp; omega) ?_)
        · exact rd_one _ _ _
        intro A' c' w' h1 h2 h3
        have h1' := Lib.hid h1
        have hxb3 := Lib.hid ((hxb.out.trans ((below_alloc _ _).mono hxb.out.size)).trans h3)
        clear h1 h2 h3
        go_wp2_with fail
        go_roundw
        case rel =>
          refine ⟨k + d, A', c', m + 1, rs ++ [r], by omega, by omega, by go_num, rfl, by simp; omega, Lib.hid ?_, h1', hxb3⟩
          have := runesW_on hl'.out (by rw [hP'.out]; exact hd)
          rw [hP'.out] at this
          rw [hr.out, this]
          cases runesW l (k + d) <;> simp
        case measure => simp [intOf]; omega
    · have i0 : decide ((k : Int) < (n : Int)) = false := by simp; omega
      go_wp2_with fail
      go_ret2
      refine ⟨_, _, _, _, rfl, .inr ⟨rfl, rs, ?_, hm, ownsRow_base ho.out hB⟩, hbw'.out.trans (hbb.out.mono hB)⟩
      rw [hr.out, runesW_end (by rw [HL.out]; omega)]
      simp

set_option maxHeartbeats 2000000 in
set_option maxRecDepth 100000 in
theorem refName_any (s : ByteArray) (hs : s.size ≤ 35184372088832) (w : World) :
    Calls Tryz.prog 54 #[.string s] w fun e w' => e = .returned (.bool (nameR s.data.toList)) ∧ Below w.heap.size w w' := by
  obtain ⟨R, hR⟩ : ∃ R, nameR s.data.toList = R := ⟨_, rfl⟩
  rw [hR]
  have hR' := Lib.hid hR
  clear hR
  go_enter Tryz.func54, Tryz.ntmps54
  go_wp2_with fail
  refine (refRunes_any s hs w).mono ?_
  rintro e w1 ⟨A, n, c, ok, rfl, hok, hb⟩
  have hb' := Lib.hid hb
  clear hb
  rcases hok with ⟨rfl, hno⟩ | ⟨rfl, rs, hrs, hn, ho⟩
  · have hr : R = false := by rw [← hR'.out, nameR, hno]
    subst hr
    clear hno
    go_wp2_with fail
    go_ret
    exact ⟨rfl, hb'.out⟩
  · have hrd := ho.rd
    have hm := hrd.max
    have hle := hrd.le
    have ho' := Lib.hid ho
    have hrs' := Lib.hid hrs
    have hn' := Lib.hid hn
    clear ho hrs
    cases rs with
    | nil =>
      have hr : R = false := by rw [← hR'.out, nameR, hrs'.out]
      subst hr
      simp at hn
      subst hn
      go_wp2_with fail
      go_ret
      exact ⟨rfl, hb'.out⟩
    | cons r rs' =>
      have hR2 : R = (Begins (r : Nat) && ((r :: rs').all fun x => GoesOn (x : Nat))) := by rw [← hR'.out, nameR, hrs'.out]; simp
      have hn0 : 0 < n := by rw [← hn'.out]; simp
      clear hn
      obtain ⟨b, off, u, rfl, hbl, hu, hc⟩ := hrd.at_ hn0
      simp at hu
      subst hu
      rw [Nat.add_zero] at hc
      have hR2' := Lib.hid hR2
      clear hR2
      have j1 : ((n : Int) == 0) = false := by rw [beq_eq_false_iff_ne]; omega
      have j2 : decide ((n : Int) = 0) = false := by simp; omega
      have j3 : (0 : Int) < (n : Int) := by omega
      cases hbg : Begins (r : Nat)
      · have hr : R = false := by rw [hR2'.out, hbg, Bool.false_and]
        subst hr
        go_wp2_with fail
        refine (refbegins_any r w1).mono ?_
        rintro e w2 ⟨rfl, rfl⟩
        rw [hbg]
        go_wp2_with fail
        go_ret
        exact ⟨rfl, hb'.out⟩
      · have hr : R = ((r :: rs').all fun x => GoesOn (x : Nat)) := by rw [hR2'.out, hbg, Bool.true_and]
        have hr' := Lib.hid hr
        clear hr
        go_wp2_with fail
        refine (refbegins_any r w1).mono ?_
        rintro e w2 ⟨rfl, rfl⟩
        rw [hbg]
        go_wp2_with fail
        go_loop [5] (fun v => ∃ k : Nat, k ≤ n ∧ v = .int .i64 (k : Nat) ∧ Hid (((r :: rs').take k).all fun x => GoesOn (x : Nat))) (fun v => n - (intOf v).toNat)
        case atStart => exact ⟨0, by omega, rfl, Lib.hid rfl⟩
        case round =>
          obtain ⟨k, hk, rfl, ha⟩ := hrel
          by_cases hlt : k < n
          · have i0 : decide ((k : Int) < (n : Int)) = true := by simp; omega
            obtain ⟨b', off', u, he, _, hu, hck⟩ := hrd.at_ hlt
            simp only [Option.some.injEq, Addr.mk.injEq, and_true] at he
            obtain ⟨rfl, rfl⟩ := he
            rw [List.getElem?_map, Option.map_eq_some_iff] at hu
            obtain ⟨x, hx, rfl⟩ := hu
            have hx' := Lib.hid hx
            clear hx
            have i1 : (k : Int) < (n : Int) := by omega
            go_wp2_with fail
            refine (refgoeson_any x w2).mono ?_
            rintro e w3 ⟨rfl, rfl⟩
            cases hg : GoesOn (x : Nat)
            · have hr : R = false := by
                rw [hr'.out, List.all_eq_false]
                exact ⟨x, List.mem_of_getElem? hx'.out, by rw [hg]; simp⟩
              subst hr
              go_wp2_with fail
              go_ret
              exact ⟨rfl, hb'.out⟩
            · go_wp2_with fail
              go_round
              case rel =>
                refine ⟨k + 1, by omega, by go_num, Lib.hid ?_⟩
                rw [take_snoc hx'.out, List.all_append, ha.out]
                simp [hg]
              case measure => simp [intOf]; omega
          · have i0 : decide ((k : Int) < (n : Int)) = false := by simp; omega
            have hr : R = true := by
              have := ha.out
              rw [List.take_of_length_le (by have := hn'.out; omega)] at this
              rw [hr'.out, this]
            subst hr
            go_wp2_with fail
            go_ret
            exact ⟨rfl, hb'.out⟩
end Go.Proofs.YtokdnhdfmgfkeaaGreatDoor.UtfW
end

section
namespace Go.Proofs.YtokdnhdfmgfkeaaGreatDoor.Xp
open Go.RowKit UtfW Xl Xo Xt

theorem fair_good {kd : Int} {nm tx : Tx} {as_ : List At} {ks : List Nd} (h : fairN (.mk kd nm tx as_ ks) = true) : good tx = true := by
  rw [fairN] at h
  split at h
  · simp only [Bool.and_eq_true, decide_eq_true_eq] at h
    rw [h.1.1.2]
    exact V_good Qx.V.nil
  · split at h
    · simp only [Bool.and_eq_true] at h
      exact h.2
    · split at h
      · simp only [Bool.and_eq_true] at h
        have := h.1.1.2
        unfold plainT at this
        simp only [Bool.and_eq_true] at this
        exact this.1
      · split at h
        · simp only [Bool.and_eq_true] at h
          have := h.1.1.2
          unfold plainT at this
          simp only [Bool.and_eq_true] at this
          exact this.1
        · cases h
set_option maxHeartbeats 16000000 in
set_option maxRecDepth 100000 in
theorem rfair_rest (w : World) (kd : Int) (nm tx : Tx) (as_ : List At) (ks : List Nd) (A : Option Addr) (ca : Nat) (A2 : Option Addr) (c2 : Nat) (h1 : kd ≠ 1) (z1 : nm.length ≤ 1000000) (z2 : tx.length ≤ 1000000) :
    Calls Tryz.prog 17 #[.agg #[.int .i64 kd, .string (strOf nm), .string (strOf tx), .slice A as_.length ca, .slice A2 ks.length c2]] w fun e w' => e = .returned (.bool (fairN (.mk kd nm tx as_ ks))) ∧ Below w.heap.size w w' := by
  obtain ⟨n1, hn1⟩ : ∃ n, as_.length = n := ⟨_, rfl⟩
  obtain ⟨n2, hn2⟩ : ∃ n, ks.length = n := ⟨_, rfl⟩
  rw [hn1, hn2]
  obtain ⟨S1, hS1⟩ : ∃ S, strOf nm = S := ⟨_, rfl⟩
  obtain ⟨S2, hS2⟩ : ∃ S, strOf tx = S := ⟨_, rfl⟩
  rw [hS1, hS2]
  have hba := below_alloc w (.cells #[.int .i64 kd, .string S1, .string S2, .slice A n1 ca, .slice A2 n2 c2] 25)
  have hnb := heap_alloc_new w (.cells #[.int .i64 kd, .string S1, .string S2, .slice A n1 ca, .slice A2 n2 c2] 25)
  obtain ⟨T, hT⟩ : ∃ T, w.heap.size = T := ⟨_, rfl⟩
  obtain ⟨w1, hw1⟩ : ∃ w1, w.alloc (.cells #[.int .i64 kd, .string S1, .string S2, .slice A n1 ca, .slice A2 n2 c2] 25) = w1 := ⟨_, rfl⟩
  rw [hw1] at hba hnb
  rw [hT] at hnb
  have hTb : Hid (∀ x, Below w1.heap.size w1 x → x.heap[T]? = some (.cells #[.int .i64 kd, .string S1, .string S2, .slice A n1 ca, .slice A2 n2 c2] 25)) := Lib.hid fun x hx => (hx.block T (Array.getElem?_eq_some_iff.1 hnb).1).trans hnb
  have hnc := Lib.hid (fun (x : World) (_hx : Below w1.heap.size w1 x) => refName_any S1 (by rw [← hS1, strOf_size']; omega) x)
  have e1 : S1.data.toList = nm := by rw [← hS1]; simp [strOf]
  rw [e1] at hnc
  have hcc1 := Lib.hid (fun (x : World) (_hx : Below w1.heap.size w1 x) => rhas_any tx [13] (by omega) (by decide) (by decide) x)
  have hcc3 := Lib.hid (fun (x : World) (_hx : Below w1.heap.size w1 x) => rhas_any tx [45, 45] (by omega) (by decide) (by decide) x)
  have hcc4 := Lib.hid (fun (x : World) (_hx : Below w1.heap.size w1 x) => rhas_any tx [63, 62] (by omega) (by decide) (by decide) x)
  have hlc := Lib.hid (fun (x : World) (_hx : Below w1.heap.size w1 x) => rlower_any nm (by omega) x)
  rw [hS2] at hcc1 hcc3 hcc4
  rw [hS1] at hlc
  have hz : S2.size = tx.length := by rw [← hS2]; exact strOf_size' tx
  obtain ⟨hbs, hbl⟩ := bs_convert w1 S2 (by omega)
  have e2 : S2.data.toList = tx := by rw [← hS2]; simp [strOf]
  rw [e2] at hbs
  have hcv := Lib.run_convert_string_bytes (P := Tryz.prog) w1 9 41 5 S2 Tryz.underlying9 Tryz.underlying41 Tryz.underlying5
  have hbd := Lib.hid (refBad_any _ _ _ tx (by omega) (Lib.bytesWorld w1 5 S2) hbs)
  have hblH := Lib.hid hbl
  have y0 : w1.cell? ⟨T, 0, none⟩ = some (.int .i64 kd) := Xp.cell_blk hnb rfl
  have y1 : w1.cell? ⟨T, 1, none⟩ = some (.string S1) := Xp.cell_blk hnb rfl
  have y2 : w1.cell? ⟨T, 2, none⟩ = some (.string S2) := Xp.cell_blk hnb rfl
  have y3 : w1.cell? ⟨T, 3, none⟩ = some (.slice A n1 ca) := Xp.cell_blk hnb rfl
  have y4 : w1.cell? ⟨T, 4, none⟩ = some (.slice A2 n2 c2) := Xp.cell_blk hnb rfl
  have hbaH := Lib.hid hba
  have ez1 : S1.toList.isEmpty = nm.isEmpty := by rw [← hS1, strOf_empty]
  have ez2 : S2.toList.isEmpty = tx.isEmpty := by rw [← hS2, strOf_empty]
  have hS2H := Lib.hid hS2
  have hz2H := Lib.hid z2
  have l1 : as_.isEmpty = decide (n1 = 0) := by rw [← hn1]; cases as_ <;> simp
  have l2 : ks.isEmpty = decide (n2 = 0) := by rw [← hn2]; cases ks <;> simp
  clear hn1 hn2
  have k1 : (kd == 1) = false := by simpa using h1
  have k1' : (kd != 1) = true := by simpa using h1
  clear hnb hba e1 z1 z2 hS1 hS2 hbs hbl e2 hz
  obtain ⟨C1, hC1⟩ : ∃ b, (find [13] tx).isSome = b := ⟨_, rfl⟩
  obtain ⟨C3, hC3⟩ : ∃ b, (find [45, 45] tx).isSome = b := ⟨_, rfl⟩
  obtain ⟨C4, hC4⟩ : ∃ b, (find [63, 62] tx).isSome = b := ⟨_, rfl⟩
  obtain ⟨LX, hLX⟩ : ∃ b, decide (nm.map low = xml3) = b := ⟨_, rfl⟩
  obtain ⟨NM, hNM⟩ : ∃ b, nameR nm = b := ⟨_, rfl⟩
  have f1 : decide (13 ∉ tx) = !C1 := by rw [← hC1, find_one]; simp
  have f3 : (find [45, 45] tx).isNone = !C3 := by rw [← hC3]; cases find [45, 45] tx <;> rfl
  have f4 : (find [63, 62] tx).isNone = !C4 := by rw [← hC4]; cases find [63, 62] tx <;> rfl
  have fl : decide (nm.map low ≠ xml3) = !LX := by rw [← hLX]; simp
  rw [hC1] at hcc1
  rw [hC3] at hcc3
  rw [hC4] at hcc4
  rw [hNM] at hnc
  replace hLX := Lib.hid hLX
  obtain ⟨BW, hBW⟩ : ∃ b, badW tx 0 = b := ⟨_, rfl⟩
  rw [hBW] at hbd
  obtain ⟨R, hRe⟩ : ∃ R, fairN (.mk kd nm tx as_ ks) = R := ⟨_, rfl⟩
  rw [hRe]
  by_cases hg : 0 ≤ BW
  · have g1 : decide (0 ≤ BW) = true := decide_eq_true hg
    have hR : Hid (R = false) := Lib.hid (by
      rw [← hRe, Bool.eq_false_iff]
      intro hc
      have := fair_good hc
      unfold good at this
      rw [hBW, decide_eq_true_eq] at this
      omega)
    clear l1 l2 hRe hBW hC1 hC3 hC4 hNM f1 f3 f4 fl hnc hcc1 hcc3 hcc4 hlc ez1 ez2
    go_enter Tryz.func17, Tryz.ntmps17
    go_wp2_with fail
    refine hbd.out.mono ?_
    rintro e w2 ⟨rfl, hbw2⟩
    have hqw2 := Lib.hid (hblH.out.trans (hbw2.mono hblH.out.size))
    clear hbw2 y0 y1 y2 y3 y4 hcv
    have hTb9 := hTb.out w2 hqw2.out
    have y0 := Xp.cell_blk hTb9 (i := 0) rfl
    have y1 := Xp.cell_blk hTb9 (i := 1) rfl
    have y2 := Xp.cell_blk hTb9 (i := 2) rfl
    have y3 := Xp.cell_blk hTb9 (i := 3) rfl
    have y4 := Xp.cell_blk hTb9 (i := 4) rfl
    clear hTb9
    have hRf : Hid (R = false) := Lib.hid (by rw [hR.out])
    have hfin := Lib.hid (hbaH.out.trans (hqw2.out.mono hbaH.out.size))
    clear hR
    go_wp2_with fail
    (try simp only [Exit.inBlock, Exit.then])
    go_ret
    exact ⟨by rw [hRf.out]; rfl, hfin.out⟩
  have g1 : decide (0 ≤ BW) = false := decide_eq_false hg
  have hGD : good tx = true := by
    unfold good
    rw [hBW, decide_eq_true_eq]
    omega
  have hPL : plainT tx = !C1 := by
    unfold plainT
    rw [hGD, f1]
    rfl
  clear hBW f1
  rw [fairN, if_neg h1] at hRe
  rw [l1, l2, hGD, hNM, hPL, f3, f4, fl] at hRe
  clear l1 l2 hGD hNM hPL hC1 hC3 hC4 f3 f4 fl h1
  by_cases hEE : n1 = 0 ∧ n2 = 0
  · obtain ⟨rfl, rfl⟩ := hEE
    by_cases h2 : kd = 2
    · subst h2
      rw [if_pos rfl, decide_eq_true (rfl : (0 : Nat) = 0), Bool.true_and, Bool.true_and] at hRe
      clear hnc hcc1 hcc3 hcc4 hlc
      cases nm with
      | nil =>
        cases tx with
        | nil =>
          have e1 : S1.toList.isEmpty = true := ez1
          have e2 : S2.toList.isEmpty = true := ez2
          rw [decide_eq_true (rfl), decide_eq_false (by simp)] at hRe
          have hR := Lib.hid hRe
          clear hRe ez1 ez2
          go_enter Tryz.func17, Tryz.ntmps17
          go_wp2_with fail
          refine hbd.out.mono ?_
          rintro e w2 ⟨rfl, hbw2⟩
          have hqw2 := Lib.hid (hblH.out.trans (hbw2.mono hblH.out.size))
          clear hbw2 y0 y1 y2 y3 y4 hcv
          have hTb9 := hTb.out w2 hqw2.out
          have y0 := Xp.cell_blk hTb9 (i := 0) rfl
          have y1 := Xp.cell_blk hTb9 (i := 1) rfl
          have y2 := Xp.cell_blk hTb9 (i := 2) rfl
          have y3 := Xp.cell_blk hTb9 (i := 3) rfl
          have y4 := Xp.cell_blk hTb9 (i := 4) rfl
          clear hTb9
          have hRf : Hid (R = false) := Lib.hid (by rw [← hR.out]; simp)
          have hfin := Lib.hid (hbaH.out.trans (hqw2.out.mono hbaH.out.size))
          clear hR
          go_wp2_with fail
          (try simp only [Exit.inBlock, Exit.then])
          go_ret
          exact ⟨by rw [hRf.out]; rfl, hfin.out⟩
        | cons c0 r0 =>
          have e1 : S1.toList.isEmpty = true := ez1
          have e2 : S2.toList.isEmpty = false := ez2
          rw [decide_eq_true (rfl), decide_eq_true (by simp)] at hRe
          have hR := Lib.hid hRe
          clear hRe ez1 ez2
          go_enter Tryz.func17, Tryz.ntmps17
          go_wp2_with fail
          refine hbd.out.mono ?_
          rintro e w2 ⟨rfl, hbw2⟩
          have hqw2 := Lib.hid (hblH.out.trans (hbw2.mono hblH.out.size))
          clear hbw2 y0 y1 y2 y3 y4 hcv
          have hTb9 := hTb.out w2 hqw2.out
          have y0 := Xp.cell_blk hTb9 (i := 0) rfl
          have y1 := Xp.cell_blk hTb9 (i := 1) rfl
          have y2 := Xp.cell_blk hTb9 (i := 2) rfl
          have y3 := Xp.cell_blk hTb9 (i := 3) rfl
          have y4 := Xp.cell_blk hTb9 (i := 4) rfl
          clear hTb9
          have hRf : Hid (R = true) := Lib.hid (by rw [← hR.out]; simp)
          have hfin := Lib.hid (hbaH.out.trans (hqw2.out.mono hbaH.out.size))
          clear hR
          go_wp2_with fail
          (try simp only [Exit.inBlock, Exit.then])
          go_ret
          exact ⟨by rw [hRf.out]; rfl, hfin.out⟩
      | cons c1 r1 =>
        cases tx with
        | nil =>
          have e1 : S1.toList.isEmpty = false := ez1
          have e2 : S2.toList.isEmpty = true := ez2
          rw [decide_eq_false (by simp), decide_eq_false (by simp)] at hRe
          have hR := Lib.hid hRe
          clear hRe ez1 ez2
          go_enter Tryz.func17, Tryz.ntmps17
          go_wp2_with fail
          refine hbd.out.mono ?_
          rintro e w2 ⟨rfl, hbw2⟩
          have hqw2 := Lib.hid (hblH.out.trans (hbw2.mono hblH.out.size))
          clear hbw2 y0 y1 y2 y3 y4 hcv
          have hTb9 := hTb.out w2 hqw2.out
          have y0 := Xp.cell_blk hTb9 (i := 0) rfl
          have y1 := Xp.cell_blk hTb9 (i := 1) rfl
          have y2 := Xp.cell_blk hTb9 (i := 2) rfl
          have y3 := Xp.cell_blk hTb9 (i := 3) rfl
          have y4 := Xp.cell_blk hTb9 (i := 4) rfl
          clear hTb9
          have hRf : Hid (R = false) := Lib.hid (by rw [← hR.out]; simp)
          have hfin := Lib.hid (hbaH.out.trans (hqw2.out.mono hbaH.out.size))
          clear hR
          go_wp2_with fail
          (try simp only [Exit.inBlock, Exit.then])
          go_ret
          exact ⟨by rw [hRf.out]; rfl, hfin.out⟩
        | cons c0 r0 =>
          have e1 : S1.toList.isEmpty = false := ez1
          have e2 : S2.toList.isEmpty = false := ez2
          rw [decide_eq_false (by simp), decide_eq_true (by simp)] at hRe
          have hR := Lib.hid hRe
          clear hRe ez1 ez2
          go_enter Tryz.func17, Tryz.ntmps17
          go_wp2_with fail
          refine hbd.out.mono ?_
          rintro e w2 ⟨rfl, hbw2⟩
          have hqw2 := Lib.hid (hblH.out.trans (hbw2.mono hblH.out.size))
          clear hbw2 y0 y1 y2 y3 y4 hcv
          have hTb9 := hTb.out w2 hqw2.out
          have y0 := Xp.cell_blk hTb9 (i := 0) rfl
          have y1 := Xp.cell_blk hTb9 (i := 1) rfl
          have y2 := Xp.cell_blk hTb9 (i := 2) rfl
          have y3 := Xp.cell_blk hTb9 (i := 3) rfl
          have y4 := Xp.cell_blk hTb9 (i := 4) rfl
          clear hTb9
          have hRf : Hid (R = false) := Lib.hid (by rw [← hR.out]; simp)
          have hfin := Lib.hid (hbaH.out.trans (hqw2.out.mono hbaH.out.size))
          clear hR
          go_wp2_with fail
          (try simp only [Exit.inBlock, Exit.then])
          go_ret
          exact ⟨by rw [hRf.out]; rfl, hfin.out⟩
    rw [if_neg h2] at hRe
    have k2 : (kd == 2) = false := by simpa using h2
    by_cases h3 : kd = 3
    · subst h3
      rw [if_pos rfl, decide_eq_true (rfl : (0 : Nat) = 0), Bool.true_and, Bool.true_and] at hRe
      clear hnc hcc4 hlc h2
      cases nm with
      | nil =>
        have e1 : S1.toList.isEmpty = true := ez1
        rw [decide_eq_true (rfl)] at hRe
        cases hlast : tx.getLast? with
        | none =>
          have e2 : S2.toList.isEmpty = true := by
            rw [ez2, List.getLast?_eq_none_iff.1 hlast]
            rfl
          rw [hlast] at hRe
          have hR := Lib.hid hRe
          clear hRe ez1 ez2 hlast
          go_enter Tryz.func17, Tryz.ntmps17
          go_wp2_with fail
          refine hbd.out.mono ?_
          rintro e w2 ⟨rfl, hbw2⟩
          have hqw2 := Lib.hid (hblH.out.trans (hbw2.mono hblH.out.size))
          clear hbw2 y0 y1 y2 y3 y4 hcv
          have hTb9 := hTb.out w2 hqw2.out
          have y0 := Xp.cell_blk hTb9 (i := 0) rfl
          have y1 := Xp.cell_blk hTb9 (i := 1) rfl
          have y2 := Xp.cell_blk hTb9 (i := 2) rfl
          have y3 := Xp.cell_blk hTb9 (i := 3) rfl
          have y4 := Xp.cell_blk hTb9 (i := 4) rfl
          clear hTb9
          go_wp2_with fail
          refine (hcc1.out w2 hqw2.out).mono ?_
          rintro e w11 ⟨rfl, hbw11⟩
          have hqw11 := Lib.hid (hqw2.out.trans (hbw11.mono hqw2.out.size))
          clear hbw11 y0 y1 y2 y3 y4
          have hTb9 := hTb.out w11 hqw11.out
          have y0 := Xp.cell_blk hTb9 (i := 0) rfl
          have y1 := Xp.cell_blk hTb9 (i := 1) rfl
          have y2 := Xp.cell_blk hTb9 (i := 2) rfl
          have y3 := Xp.cell_blk hTb9 (i := 3) rfl
          have y4 := Xp.cell_blk hTb9 (i := 4) rfl
          clear hTb9
          cases C1 with
          | true =>
            have hRf : Hid (R = false) := Lib.hid (by rw [← hR.out]; simp)
            have hfin := Lib.hid (hbaH.out.trans (hqw11.out.mono hbaH.out.size))
            clear hR
            go_wp2_with fail
            (try simp only [Exit.inBlock, Exit.then])
            go_ret
            exact ⟨by rw [hRf.out]; rfl, hfin.out⟩
          | false =>
            go_wp2_with fail
            refine (hcc3.out w11 hqw11.out).mono ?_
            rintro e w12 ⟨rfl, hbw12⟩
            have hqw12 := Lib.hid (hqw11.out.trans (hbw12.mono hqw11.out.size))
            clear hbw12 y0 y1 y2 y3 y4
            have hTb9 := hTb.out w12 hqw12.out
            have y0 := Xp.cell_blk hTb9 (i := 0) rfl
            have y1 := Xp.cell_blk hTb9 (i := 1) rfl
            have y2 := Xp.cell_blk hTb9 (i := 2) rfl
            have y3 := Xp.cell_blk hTb9 (i := 3) rfl
            have y4 := Xp.cell_blk hTb9 (i := 4) rfl
            clear hTb9
            cases C3 with
            | true =>
              have hRf : Hid (R = false) := Lib.hid (by rw [← hR.out]; simp)
              have hfin := Lib.hid (hbaH.out.trans (hqw12.out.mono hbaH.out.size))
              clear hR
              go_wp2_with fail
              (try simp only [Exit.inBlock, Exit.then])
              go_ret
              exact ⟨by rw [hRf.out]; rfl, hfin.out⟩
            | false =>
              have hRf : Hid (R = true) := Lib.hid (by rw [← hR.out]; simp)
              have hfin := Lib.hid (hbaH.out.trans (hqw12.out.mono hbaH.out.size))
              clear hR
              go_wp2_with fail
              (try simp only [Exit.inBlock, Exit.then])
              go_ret
              exact ⟨by rw [hRf.out]; rfl, hfin.out⟩
        | some x =>
          obtain ⟨N, hN⟩ : ∃ N, tx.length = N + 1 := by
            cases tx with
            | nil => simp at hlast
            | cons a l => exact ⟨l.length, rfl⟩
          have e2 : S2.toList.isEmpty = false := by
            rw [ez2]
            cases tx with
            | nil => simp at hlast
            | cons a l => rfl
          have hxN : tx[N]? = some x := by
            rw [List.getLast?_eq_getElem?, hN, Nat.add_sub_cancel] at hlast
            exact hlast
          have hszH := Lib.hid (show S2.size = N + 1 by rw [← hS2H.out, strOf_size', hN])
          replace hz2H := hz2H.out
          rw [hN] at hz2H
          replace hz2H := Lib.hid hz2H
          have hxNH := Lib.hid hxN
          rw [hlast] at hRe
          obtain ⟨SX, hSX⟩ : ∃ b, decide (x = 45) = b := ⟨_, rfl⟩
          have hsx : decide (some x ≠ some (45 : UInt8)) = !SX := by rw [← hSX]; simp
          have hsy : (((x.toNat : Nat) : Int) != 45) = !SX := by
            rw [← hSX, ← decide_not, Bool.eq_iff_iff, bne_iff_ne, decide_eq_true_eq]
            constructor
            · intro h e
              rw [e] at h
              exact h rfl
            · intro h e
              apply h
              apply UInt8.toNat_inj.1
              have : x.toNat = 45 := by omega
              rw [this]
              rfl
          rw [hsx] at hRe
          have hR := Lib.hid hRe
          clear hRe ez1 ez2 hlast hsx hSX hxN hN
          go_enter Tryz.func17, Tryz.ntmps17
          go_wp2_with fail
          refine hbd.out.mono ?_
          rintro e w2 ⟨rfl, hbw2⟩
          have hqw2 := Lib.hid (hblH.out.trans (hbw2.mono hblH.out.size))
          clear hbw2 y0 y1 y2 y3 y4 hcv
          have hTb9 := hTb.out w2 hqw2.out
          have y0 := Xp.cell_blk hTb9 (i := 0) rfl
          have y1 := Xp.cell_blk hTb9 (i := 1) rfl
          have y2 := Xp.cell_blk hTb9 (i := 2) rfl
          have y3 := Xp.cell_blk hTb9 (i := 3) rfl
          have y4 := Xp.cell_blk hTb9 (i := 4) rfl
          clear hTb9
          have hsz := hszH.out
          have hz2 := hz2H.out
          have hlt0 : N < S2.size := by omega
          have hgx : S2[N]'hlt0 = x := by
            have h9 := hS2H.out
            have hxN := hxNH.out
            subst h9
            exact str_at hxN hlt0
          have hc9 := x.toNat_lt
          go_wp2_with fail
          refine (hcc1.out w2 hqw2.out).mono ?_
          rintro e w13 ⟨rfl, hbw13⟩
          have hqw13 := Lib.hid (hqw2.out.trans (hbw13.mono hqw2.out.size))
          clear hbw13 y0 y1 y2 y3 y4
          have hTb9 := hTb.out w13 hqw13.out
          have y0 := Xp.cell_blk hTb9 (i := 0) rfl
          have y1 := Xp.cell_blk hTb9 (i := 1) rfl
          have y2 := Xp.cell_blk hTb9 (i := 2) rfl
          have y3 := Xp.cell_blk hTb9 (i := 3) rfl
          have y4 := Xp.cell_blk hTb9 (i := 4) rfl
          clear hTb9
          cases C1 with
          | true =>
            have hRf : Hid (R = false) := Lib.hid (by rw [← hR.out]; simp)
            have hfin := Lib.hid (hbaH.out.trans (hqw13.out.mono hbaH.out.size))
            clear hR
            go_wp2_with fail
            (try simp only [Exit.inBlock, Exit.then])
            go_ret
            exact ⟨by rw [hRf.out]; rfl, hfin.out⟩
          | false =>
            go_wp2_with fail
            refine (hcc3.out w13 hqw13.out).mono ?_
            rintro e w14 ⟨rfl, hbw14⟩
            have hqw14 := Lib.hid (hqw13.out.trans (hbw14.mono hqw13.out.size))
            clear hbw14 y0 y1 y2 y3 y4
            have hTb9 := hTb.out w14 hqw14.out
            have y0 := Xp.cell_blk hTb9 (i := 0) rfl
            have y1 := Xp.cell_blk hTb9 (i := 1) rfl
            have y2 := Xp.cell_blk hTb9 (i := 2) rfl
            have y3 := Xp.cell_blk hTb9 (i := 3) rfl
            have y4 := Xp.cell_blk hTb9 (i := 4) rfl
            clear hTb9
            cases C3 with
            | true =>
              have hRf : Hid (R = false) := Lib.hid (by rw [← hR.out]; simp)
              have hfin := Lib.hid (hbaH.out.trans (hqw14.out.mono hbaH.out.size))
              clear hR
              go_wp2_with fail
              (try simp only [Exit.inBlock, Exit.then])
              go_ret
              exact ⟨by rw [hRf.out]; rfl, hfin.out⟩
            | false =>
              cases SX with
              | true =>
                have hRf : Hid (R = false) := Lib.hid (by rw [← hR.out]; simp)
                have hfin := Lib.hid (hbaH.out.trans (hqw14.out.mono hbaH.out.size))
                clear hR
                go_wp2_with fail
                (try simp only [Exit.inBlock, Exit.then])
                go_ret
                exact ⟨by rw [hRf.out]; rfl, hfin.out⟩
              | false =>
                have hRf : Hid (R = true) := Lib.hid (by rw [← hR.out]; simp)
                have hfin := Lib.hid (hbaH.out.trans (hqw14.out.mono hbaH.out.size))
                clear hR
                go_wp2_with fail
                (try simp only [Exit.inBlock, Exit.then])
                go_ret
                exact ⟨by rw [hRf.out]; rfl, hfin.out⟩
      | cons c1 r1 =>
        have e1 : S1.toList.isEmpty = false := ez1
        rw [decide_eq_false (by simp)] at hRe
        have hR := Lib.hid hRe
        clear hRe ez1 ez2 hcc1 hcc3
        go_enter Tryz.func17, Tryz.ntmps17
        go_wp2_with fail
        refine hbd.out.mono ?_
        rintro e w2 ⟨rfl, hbw2⟩
        have hqw2 := Lib.hid (hblH.out.trans (hbw2.mono hblH.out.size))
        clear hbw2 y0 y1 y2 y3 y4 hcv
        have hTb9 := hTb.out w2 hqw2.out
        have y0 := Xp.cell_blk hTb9 (i := 0) rfl
        have y1 := Xp.cell_blk hTb9 (i := 1) rfl
        have y2 := Xp.cell_blk hTb9 (i := 2) rfl
        have y3 := Xp.cell_blk hTb9 (i := 3) rfl
        have y4 := Xp.cell_blk hTb9 (i := 4) rfl
        clear hTb9
        have hRf : Hid (R = false) := Lib.hid (by rw [← hR.out]; simp)
        have hfin := Lib.hid (hbaH.out.trans (hqw2.out.mono hbaH.out.size))
        clear hR
        go_wp2_with fail
        (try simp only [Exit.inBlock, Exit.then])
        go_ret
        exact ⟨by rw [hRf.out]; rfl, hfin.out⟩
    rw [if_neg h3] at hRe
    have k3 : (kd == 3) = false := by simpa using h3
    by_cases h4 : kd = 4
    · subst h4
      rw [if_pos rfl, decide_eq_true (rfl : (0 : Nat) = 0), Bool.true_and, Bool.true_and] at hRe
      clear hcc3 h2 h3
      cases tx with
      | nil =>
        have e2 : S2.toList.isEmpty = true := ez2
        have hR := Lib.hid hRe
        clear hRe ez1 ez2
        go_enter Tryz.func17, Tryz.ntmps17
        go_wp2_with fail
        refine hbd.out.mono ?_
        rintro e w2 ⟨rfl, hbw2⟩
        have hqw2 := Lib.hid (hblH.out.trans (hbw2.mono hblH.out.size))
        clear hbw2 y0 y1 y2 y3 y4 hcv
        have hTb9 := hTb.out w2 hqw2.out
        have y0 := Xp.cell_blk hTb9 (i := 0) rfl
        have y1 := Xp.cell_blk hTb9 (i := 1) rfl
        have y2 := Xp.cell_blk hTb9 (i := 2) rfl
        have y3 := Xp.cell_blk hTb9 (i := 3) rfl
        have y4 := Xp.cell_blk hTb9 (i := 4) rfl
        clear hTb9
        go_wp2_with fail
        refine (hnc.out w2 hqw2.out).mono ?_
        rintro e w15 ⟨rfl, hbw15⟩
        have hqw15 := Lib.hid (hqw2.out.trans (hbw15.mono hqw2.out.size))
        clear hbw15 y0 y1 y2 y3 y4
        have hTb9 := hTb.out w15 hqw15.out
        have y0 := Xp.cell_blk hTb9 (i := 0) rfl
        have y1 := Xp.cell_blk hTb9 (i := 1) rfl
        have y2 := Xp.cell_blk hTb9 (i := 2) rfl
        have y3 := Xp.cell_blk hTb9 (i := 3) rfl
        have y4 := Xp.cell_blk hTb9 (i := 4) rfl
        clear hTb9
        cases NM with
        | false =>
          have hRf : Hid (R = false) := Lib.hid (by rw [← hR.out]; simp [headOk])
          have hfin := Lib.hid (hbaH.out.trans (hqw15.out.mono hbaH.out.size))
          clear hR
          go_wp2_with fail
          (try simp only [Exit.inBlock, Exit.then])
          go_ret
          exact ⟨by rw [hRf.out]; rfl, hfin.out⟩
        | true =>
          go_wp2_with fail
          refine (hlc.out w15 hqw15.out).mono ?_
          rintro e w16 ⟨rfl, hbw16⟩
          have hqw16 := Lib.hid (hqw15.out.trans (hbw16.mono hqw15.out.size))
          clear hbw16 y0 y1 y2 y3 y4
          have hTb9 := hTb.out w16 hqw16.out
          have y0 := Xp.cell_blk hTb9 (i := 0) rfl
          have y1 := Xp.cell_blk hTb9 (i := 1) rfl
          have y2 := Xp.cell_blk hTb9 (i := 2) rfl
          have y3 := Xp.cell_blk hTb9 (i := 3) rfl
          have y4 := Xp.cell_blk hTb9 (i := 4) rfl
          clear hTb9
          have s2 := str_eqL (nm.map low) [120, 109, 108]
          have htl' : decide (nm.map low = [120, 109, 108]) = LX := hLX.out
          rw [htl'] at s2
          clear htl'
          cases LX with
          | true =>
            have hRf : Hid (R = false) := Lib.hid (by rw [← hR.out]; simp [headOk])
            have hfin := Lib.hid (hbaH.out.trans (hqw16.out.mono hbaH.out.size))
            clear hR
            go_wp2_with fail
            (try simp only [Exit.inBlock, Exit.then])
            go_ret
            exact ⟨by rw [hRf.out]; rfl, hfin.out⟩
          | false =>
            go_wp2_with fail
            refine (hcc1.out w16 hqw16.out).mono ?_
            rintro e w17 ⟨rfl, hbw17⟩
            have hqw17 := Lib.hid (hqw16.out.trans (hbw17.mono hqw16.out.size))
            clear hbw17 y0 y1 y2 y3 y4
            have hTb9 := hTb.out w17 hqw17.out
            have y0 := Xp.cell_blk hTb9 (i := 0) rfl
            have y1 := Xp.cell_blk hTb9 (i := 1) rfl
            have y2 := Xp.cell_blk hTb9 (i := 2) rfl
            have y3 := Xp.cell_blk hTb9 (i := 3) rfl
            have y4 := Xp.cell_blk hTb9 (i := 4) rfl
            clear hTb9
            cases C1 with
            | true =>
              have hRf : Hid (R = false) := Lib.hid (by rw [← hR.out]; simp [headOk])
              have hfin := Lib.hid (hbaH.out.trans (hqw17.out.mono hbaH.out.size))
              clear hR
              go_wp2_with fail
              (try simp only [Exit.inBlock, Exit.then])
              go_ret
              exact ⟨by rw [hRf.out]; rfl, hfin.out⟩
            | false =>
              go_wp2_with fail
              refine (hcc4.out w17 hqw17.out).mono ?_
              rintro e w18 ⟨rfl, hbw18⟩
              have hqw18 := Lib.hid (hqw17.out.trans (hbw18.mono hqw17.out.size))
              clear hbw18 y0 y1 y2 y3 y4
              have hTb9 := hTb.out w18 hqw18.out
              have y0 := Xp.cell_blk hTb9 (i := 0) rfl
              have y1 := Xp.cell_blk hTb9 (i := 1) rfl
              have y2 := Xp.cell_blk hTb9 (i := 2) rfl
              have y3 := Xp.cell_blk hTb9 (i := 3) rfl
              have y4 := Xp.cell_blk hTb9 (i := 4) rfl
              clear hTb9
              cases C4 with
              | true =>
                have hRf : Hid (R = false) := Lib.hid (by rw [← hR.out]; simp [headOk])
                have hfin := Lib.hid (hbaH.out.trans (hqw18.out.mono hbaH.out.size))
                clear hR
                go_wp2_with fail
                (try simp only [Exit.inBlock, Exit.then])
                go_ret
                exact ⟨by rw [hRf.out]; rfl, hfin.out⟩
              | false =>
                have hRf : Hid (R = true) := Lib.hid (by rw [← hR.out]; simp [headOk])
                have hfin := Lib.hid (hbaH.out.trans (hqw18.out.mono hbaH.out.size))
                clear hR
                go_wp2_with fail
                (try simp only [Exit.inBlock, Exit.then])
                go_ret
                exact ⟨by rw [hRf.out]; rfl, hfin.out⟩
      | cons c0 r0 =>
        have e2 : S2.toList.isEmpty = false := ez2
        obtain ⟨BL, hBL⟩ : ∃ b, Qx.blank c0 = b := ⟨_, rfl⟩
        have hho : headOk (c0 :: r0) = !BL := by rw [← hBL]; rfl
        rw [hho] at hRe
        have hR := Lib.hid hRe
        have hbk := Lib.hid (fun (x : World) (_hx : Below w1.heap.size w1 x) => refblank_any (c0.toNat : Int) x)
        have hbl' : Blank (c0.toNat : Int) = BL := hBL
        rw [hbl'] at hbk
        clear hRe ez1 ez2 hho hBL hbl'
        go_enter Tryz.func17, Tryz.ntmps17
        go_wp2_with fail
        refine hbd.out.mono ?_
        rintro e w2 ⟨rfl, hbw2⟩
        have hqw2 := Lib.hid (hblH.out.trans (hbw2.mono hblH.out.size))
        clear hbw2 y0 y1 y2 y3 y4 hcv
        have hTb9 := hTb.out w2 hqw2.out
        have y0 := Xp.cell_blk hTb9 (i := 0) rfl
        have y1 := Xp.cell_blk hTb9 (i := 1) rfl
        have y2 := Xp.cell_blk hTb9 (i := 2) rfl
        have y3 := Xp.cell_blk hTb9 (i := 3) rfl
        have y4 := Xp.cell_blk hTb9 (i := 4) rfl
        clear hTb9
        have hz2 := hz2H.out
        have hsz : S2.size = (c0 :: r0).length := by rw [← hS2H.out]; exact strOf_size' _
        rw [List.length_cons] at hsz hz2
        have hlt0 : 0 < S2.size := by omega
        have hgx : S2[0]'hlt0 = c0 := by
          have h9 := hS2H.out
          subst h9
          exact str_at rfl hlt0
        have hc9 := c0.toNat_lt
        clear hz2
        go_wp2_with fail
        refine (hnc.out w2 hqw2.out).mono ?_
        rintro e w19 ⟨rfl, hbw19⟩
        have hqw19 := Lib.hid (hqw2.out.trans (hbw19.mono hqw2.out.size))
        clear hbw19 y0 y1 y2 y3 y4
        have hTb9 := hTb.out w19 hqw19.out
        have y0 := Xp.cell_blk hTb9 (i := 0) rfl
        have y1 := Xp.cell_blk hTb9 (i := 1) rfl
        have y2 := Xp.cell_blk hTb9 (i := 2) rfl
        have y3 := Xp.cell_blk hTb9 (i := 3) rfl
        have y4 := Xp.cell_blk hTb9 (i := 4) rfl
        clear hTb9
        cases NM with
        | false =>
          have hRf : Hid (R = false) := Lib.hid (by rw [← hR.out]; simp)
          have hfin := Lib.hid (hbaH.out.trans (hqw19.out.mono hbaH.out.size))
          clear hR
          go_wp2_with fail
          (try simp only [Exit.inBlock, Exit.then])
          go_ret
          exact ⟨by rw [hRf.out]; rfl, hfin.out⟩
        | true =>
          go_wp2_with fail
          refine (hlc.out w19 hqw19.out).mono ?_
          rintro e w20 ⟨rfl, hbw20⟩
          have hqw20 := Lib.hid (hqw19.out.trans (hbw20.mono hqw19.out.size))
          clear hbw20 y0 y1 y2 y3 y4
          have hTb9 := hTb.out w20 hqw20.out
          have y0 := Xp.cell_blk hTb9 (i := 0) rfl
          have y1 := Xp.cell_blk hTb9 (i := 1) rfl
          have y2 := Xp.cell_blk hTb9 (i := 2) rfl
          have y3 := Xp.cell_blk hTb9 (i := 3) rfl
          have y4 := Xp.cell_blk hTb9 (i := 4) rfl
          clear hTb9
          have s2 := str_eqL (nm.map low) [120, 109, 108]
          have htl' : decide (nm.map low = [120, 109, 108]) = LX := hLX.out
          rw [htl'] at s2
          clear htl'
          cases LX with
          | true =>
            have hRf : Hid (R = false) := Lib.hid (by rw [← hR.out]; simp)
            have hfin := Lib.hid (hbaH.out.trans (hqw20.out.mono hbaH.out.size))
            clear hR
            go_wp2_with fail
            (try simp only [Exit.inBlock, Exit.then])
            go_ret
            exact ⟨by rw [hRf.out]; rfl, hfin.out⟩
          | false =>
            go_wp2_with fail
            refine (hcc1.out w20 hqw20.out).mono ?_
            rintro e w21 ⟨rfl, hbw21⟩
            have hqw21 := Lib.hid (hqw20.out.trans (hbw21.mono hqw20.out.size))
            clear hbw21 y0 y1 y2 y3 y4
            have hTb9 := hTb.out w21 hqw21.out
            have y0 := Xp.cell_blk hTb9 (i := 0) rfl
            have y1 := Xp.cell_blk hTb9 (i := 1) rfl
            have y2 := Xp.cell_blk hTb9 (i := 2) rfl
            have y3 := Xp.cell_blk hTb9 (i := 3) rfl
            have y4 := Xp.cell_blk hTb9 (i := 4) rfl
            clear hTb9
            cases C1 with
            | true =>
              have hRf : Hid (R = false) := Lib.hid (by rw [← hR.out]; simp)
              have hfin := Lib.hid (hbaH.out.trans (hqw21.out.mono hbaH.out.size))
              clear hR
              go_wp2_with fail
              (try simp only [Exit.inBlock, Exit.then])
              go_ret
              exact ⟨by rw [hRf.out]; rfl, hfin.out⟩
            | false =>
              go_wp2_with fail
              refine (hcc4.out w21 hqw21.out).mono ?_
              rintro e w22 ⟨rfl, hbw22⟩
              have hqw22 := Lib.hid (hqw21.out.trans (hbw22.mono hqw21.out.size))
              clear hbw22 y0 y1 y2 y3 y4
              have hTb9 := hTb.out w22 hqw22.out
              have y0 := Xp.cell_blk hTb9 (i := 0) rfl
              have y1 := Xp.cell_blk hTb9 (i := 1) rfl
              have y2 := Xp.cell_blk hTb9 (i := 2) rfl
              have y3 := Xp.cell_blk hTb9 (i := 3) rfl
              have y4 := Xp.cell_blk hTb9 (i := 4) rfl
              clear hTb9
              cases C4 with
              | true =>
                have hRf : Hid (R = false) := Lib.hid (by rw [← hR.out]; simp)
                have hfin := Lib.hid (hbaH.out.trans (hqw22.out.mono hbaH.out.size))
                clear hR
                go_wp2_with fail
                (try simp only [Exit.inBlock, Exit.then])
                go_ret
                exact ⟨by rw [hRf.out]; rfl, hfin.out⟩
              | false =>
                go_wp2_with fail
                refine (hbk.out w22 hqw22.out).mono ?_
                rintro e wq ⟨rfl, hwq⟩
                replace hwq := hwq.symm
                subst hwq
                cases BL with
                | true =>
                  have hRf : Hid (R = false) := Lib.hid (by rw [← hR.out]; simp)
                  have hfin := Lib.hid (hbaH.out.trans (hqw22.out.mono hbaH.out.size))
                  clear hR
                  go_wp2_with fail
                  (try simp only [Exit.inBlock, Exit.then])
                  go_ret
                  exact ⟨by rw [hRf.out]; rfl, hfin.out⟩
                | false =>
                  have hRf : Hid (R = true) := Lib.hid (by rw [← hR.out]; simp)
                  have hfin := Lib.hid (hbaH.out.trans (hqw22.out.mono hbaH.out.size))
                  clear hR
                  go_wp2_with fail
                  (try simp only [Exit.inBlock, Exit.then])
                  go_ret
                  exact ⟨by rw [hRf.out]; rfl, hfin.out⟩
    rw [if_neg h4] at hRe
    have k4 : (kd == 4) = false := by simpa using h4
    have hR := Lib.hid hRe
    clear hnc hcc1 hcc3 hcc4 hlc h2 h3 h4 ez1 ez2 hRe
    go_enter Tryz.func17, Tryz.ntmps17
    go_wp2_with fail
    refine hbd.out.mono ?_
    rintro e w2 ⟨rfl, hbw2⟩
    have hqw2 := Lib.hid (hblH.out.trans (hbw2.mono hblH.out.size))
    clear hbw2 y0 y1 y2 y3 y4 hcv
    have hTb9 := hTb.out w2 hqw2.out
    have y0 := Xp.cell_blk hTb9 (i := 0) rfl
    have y1 := Xp.cell_blk hTb9 (i := 1) rfl
    have y2 := Xp.cell_blk hTb9 (i := 2) rfl
    have y3 := Xp.cell_blk hTb9 (i := 3) rfl
    have y4 := Xp.cell_blk hTb9 (i := 4) rfl
    clear hTb9
    have hRf : Hid (R = false) := Lib.hid (by rw [← hR.out])
    have hfin := Lib.hid (hbaH.out.trans (hqw2.out.mono hbaH.out.size))
    clear hR
    go_wp2_with fail
    (try simp only [Exit.inBlock, Exit.then])
    go_ret
    exact ⟨by rw [hRf.out]; rfl, hfin.out⟩
  · have hR : Hid (R = false) := Lib.hid (by
      rw [← hRe]
      cases n1 <;> cases n2 <;> simp at hEE ⊢)
    clear hnc hcc1 hcc3 hcc4 hlc hRe ez1 ez2
    cases n1 with
    | succ n1 =>
      go_enter Tryz.func17, Tryz.ntmps17
      go_wp2_with fail
      refine hbd.out.mono ?_
      rintro e w2 ⟨rfl, hbw2⟩
      have hqw2 := Lib.hid (hblH.out.trans (hbw2.mono hblH.out.size))
      clear hbw2 y0 y1 y2 y3 y4 hcv
      have hTb9 := hTb.out w2 hqw2.out
      have y0 := Xp.cell_blk hTb9 (i := 0) rfl
      have y1 := Xp.cell_blk hTb9 (i := 1) rfl
      have y2 := Xp.cell_blk hTb9 (i := 2) rfl
      have y3 := Xp.cell_blk hTb9 (i := 3) rfl
      have y4 := Xp.cell_blk hTb9 (i := 4) rfl
      clear hTb9
      have hRf : Hid (R = false) := Lib.hid (by rw [hR.out])
      have hfin := Lib.hid (hbaH.out.trans (hqw2.out.mono hbaH.out.size))
      clear hR
      go_wp2_with fail
      (try simp only [Exit.inBlock, Exit.then])
      go_ret
      exact ⟨by rw [hRf.out]; rfl, hfin.out⟩
    | zero =>
      cases n2 with
      | succ n2 =>
        go_enter Tryz.func17, Tryz.ntmps17
        go_wp2_with fail
        refine hbd.out.mono ?_
        rintro e w2 ⟨rfl, hbw2⟩
        have hqw2 := Lib.hid (hblH.out.trans (hbw2.mono hblH.out.size))
        clear hbw2 y0 y1 y2 y3 y4 hcv
        have hTb9 := hTb.out w2 hqw2.out
        have y0 := Xp.cell_blk hTb9 (i := 0) rfl
        have y1 := Xp.cell_blk hTb9 (i := 1) rfl
        have y2 := Xp.cell_blk hTb9 (i := 2) rfl
        have y3 := Xp.cell_blk hTb9 (i := 3) rfl
        have y4 := Xp.cell_blk hTb9 (i := 4) rfl
        clear hTb9
        have hRf : Hid (R = false) := Lib.hid (by rw [hR.out])
        have hfin := Lib.hid (hbaH.out.trans (hqw2.out.mono hbaH.out.size))
        clear hR
        go_wp2_with fail
        (try simp only [Exit.inBlock, Exit.then])
        go_ret
        exact ⟨by rw [hRf.out]; rfl, hfin.out⟩
      | zero => exact absurd ⟨rfl, rfl⟩ hEE
end Go.Proofs.YtokdnhdfmgfkeaaGreatDoor.Xp
end

section
namespace Go.Proofs.YtokdnhdfmgfkeaaGreatDoor.Xp
open Go.RowKit UtfW Xl Xo Xt

theorem attrsOk_snoc : ∀ (l : List At) (seen : List Tx) (a : At), attrsOk seen (l ++ [a]) = (attrsOk seen l && (nameR a.1 && good a.2 && decide (a.1 ∉ seen ++ l.map (·.1))))
  | [], seen, a => by simp [attrsOk]
  | b :: l, seen, a => by
    rw [List.cons_append, attrsOk, attrsOk, attrsOk_snoc l, show seen ++ [b.1] ++ l.map (·.1) = seen ++ (b :: l).map (·.1) from by simp]
    simp only [Bool.and_assoc]
def lastK (was : Int) (l : List Nd) : Int := (l.getLast?.map (·.kind)).getD was
theorem fairL_snoc : ∀ (l : List Nd) (was : Int) (x : Nd), fairL was (l ++ [x]) = (fairL was l && (fairN x && !(decide (lastK was l = 2) && decide (x.kind = 2))))
  | [], was, x => by
    rw [List.nil_append, fairL, fairL, fairL, Bool.and_true, Bool.true_and]
    rfl
  | b :: l, was, x => by
    rw [List.cons_append, fairL, fairL, fairL_snoc l]
    have : lastK b.kind l = lastK was (b :: l) := by
      unfold lastK
      rw [List.getLast?_cons]
      cases l.getLast? <;> rfl
    rw [this]
    simp [Bool.and_assoc]
theorem mem_snoc_dec {a : Tx} {l : List Tx} {b : Tx} : decide (a ∉ l ++ [b]) = (decide (a ∉ l) && decide (a ≠ b)) := by
  rw [← Bool.decide_and, decide_eq_decide]
  simp [not_or]
theorem sq_some {α : Type} {El : World → List Value → α → Prop} {k : Nat} {w : World} {A : Option Addr} {n c : Nat} {l : List α} (h : Sq El k w A n c l) (hn : 0 < n) : ∃ b off, A = some ⟨b, off, none⟩ := by
  obtain ⟨b, off, e, _⟩ := h.cell hn
  exact ⟨b, off, e⟩
theorem at_attr {w : World} {b off n c i : Nat} {l : List At} (h : Sq AtEl 2 w (some ⟨b, off, none⟩) n c l) (hi : i < n) :
    ∃ a, l[i]? = some a ∧ w.cell? ⟨b, off + i * 2, none⟩ = some (.string (strOf a.1)) ∧ w.cell? ⟨b, off + i * 2 + 1, none⟩ = some (.string (strOf a.2)) := by
  obtain ⟨b1, off1, ax, vs1, e, _, hx1, _, hv1, hc1⟩ := h.at_ hi
  injection e with e
  injection e with e1 e2
  subst e1
  subst e2
  unfold AtEl at hv1
  subst hv1
  exact ⟨ax, hx1, hc1 0 _ rfl, hc1 1 _ rfl⟩
theorem at_attr_ {w : World} {b off n c i : Nat} {l : List At} {a : At} (h : Sq AtEl 2 w (some ⟨b, off, none⟩) n c l) (hx : l[i]? = some a) :
    w.cell? ⟨b, off + i * 2, none⟩ = some (.string (strOf a.1)) ∧ w.cell? ⟨b, off + i * 2 + 1, none⟩ = some (.string (strOf a.2)) := by
  have hi : i < n := by rw [← h.len]; exact (List.getElem?_eq_some_iff.1 hx).1
  obtain ⟨a', h1, h2⟩ := at_attr h hi
  rw [hx] at h1
  injection h1 with h1
  subst h1
  exact h2
theorem at_kind {X : Nat → Prop} {w : World} {b off n c i : Nat} {l : List Nd} {x : Nd} (h : Sq (NdE X) 5 w (some ⟨b, off, none⟩) n c l) (hi : i < n) (hx : l[i]? = some x) : w.cell? ⟨b, off + i * 5, none⟩ = some (.int .i64 x.kind) := by
  obtain ⟨b1, off1, y, vs1, e, _, hx1, _, hv1, hc1⟩ := h.at_ hi
  injection e with e
  injection e with e1 e2
  subst e1
  subst e2
  rw [hx1] at hx
  injection hx with hx
  subst hx
  obtain ⟨kx, nx_, tx_, ax, kx_⟩ := y
  obtain ⟨Ax, cax, A2x, c2x, rfl, -⟩ := hv1.cells
  exact hc1 0 _ rfl
def RFairAt (X : Nat → Prop) (x : Nd) : Prop := ∀ (vs : List Value) (w' : World), NdI X w' vs x → (∀ j, X j → j < w'.heap.size) →
  Calls Tryz.prog 17 #[.agg vs.toArray] w' fun e w'' => e = .returned (.bool (fairN x)) ∧ Below w'.heap.size w' w''
set_option maxHeartbeats 32000000 in
set_option maxRecDepth 100000 in
theorem rFair_any : ∀ (k : Nat) (X : Nat → Prop) (n : Nd), SizeOf.sizeOf n ≤ k → smN n → RFairAt X n := by
  intro k
  induction k with
  | zero =>
    intro X n hk
    obtain ⟨kd, nm, tx, as_, ks⟩ := n
    simp at hk
  | succ k ih =>
    intro X n hk hsm vs w hn hX
    obtain ⟨kd, nm, tx, as_, ks⟩ := n
    obtain ⟨A, ca, A2, c2, rfl, hA, hKs, hXA, hXK⟩ := hn.cells
    rw [smN] at hsm
    obtain ⟨z1, z2, z3, z4⟩ := hsm
    by_cases h1 : kd ≠ 1
    · exact rfair_rest w kd nm tx as_ ks A ca A2 c2 h1 z1 z2
    obtain rfl : kd = 1 := Classical.not_not.1 h1
    have hF := Lib.hid (show ∀ (i : Nat) x, ks[i]? = some x → RFairAt X x from fun i x hx => ih X x (by
      have := kid_lt (k := 1) (nm := nm) (tx := tx) (as_ := as_) hx
      omega) (smL_mem z4 hx))
    clear ih hk z4 h1
    obtain ⟨n1, hn1⟩ : ∃ n, as_.length = n := ⟨_, rfl⟩
    obtain ⟨n2, hn2⟩ : ∃ n, ks.length = n := ⟨_, rfl⟩
    rw [hn1] at hA
    rw [hn2] at hKs
    rw [hn1, hn2]
    have hn1H := Lib.hid hn1
    have hn2H := Lib.hid hn2
    have hsA := Lib.hid z3.2
    have hm1 : n1 ≤ 1000000 := by rw [← hn1]; exact z3.1
    have hm2 : n2 ≤ 9223372036854775807 := Nat.le_trans hKs.le hKs.max
    clear hn1 hn2
    obtain ⟨S1, hS1⟩ : ∃ S, strOf nm = S := ⟨_, rfl⟩
    obtain ⟨S2, hS2⟩ : ∃ S, strOf tx = S := ⟨_, rfl⟩
    rw [hS1, hS2]
    have hba := below_alloc w (.cells #[.int .i64 1, .string S1, .string S2, .slice A n1 ca, .slice A2 n2 c2] 25)
    have hnb := heap_alloc_new w (.cells #[.int .i64 1, .string S1, .string S2, .slice A n1 ca, .slice A2 n2 c2] 25)
    obtain ⟨T, hT⟩ : ∃ T, w.heap.size = T := ⟨_, rfl⟩
    obtain ⟨w1, hw1⟩ : ∃ w1, w.alloc (.cells #[.int .i64 1, .string S1, .string S2, .slice A n1 ca, .slice A2 n2 c2] 25) = w1 := ⟨_, rfl⟩
    rw [hw1] at hba hnb
    rw [hT] at hnb
    have hTb : Hid (∀ x, Below w1.heap.size w1 x → x.heap[T]? = some (.cells #[.int .i64 1, .string S1, .string S2, .slice A n1 ca, .slice A2 n2 c2] 25)) := Lib.hid fun x hx => (hx.block T (Array.getElem?_eq_some_iff.1 hnb).1).trans hnb
    have hlow : ∀ x, Below w1.heap.size w1 x → Below w.heap.size w x := fun x hx => hba.trans (hx.mono hba.size)
    replace hA : Hid (∀ z, Below w1.heap.size w1 z → Sq AtEl 2 z A n1 ca as_) := Lib.hid fun z hz => hA.below AtEl.to (hlow z hz)
    have hK : Hid (∀ z, Below w1.heap.size w1 z → Sq (NdE X) 5 z A2 n2 c2 ks) := Lib.hid fun z hz => sq_keep hKs (hlow z hz) (fun vs y h => NdI.later h hX (hlow z hz))
    have hXb : Hid (∀ j, X j → j < w1.heap.size) := Lib.hid fun j hj => Nat.lt_of_lt_of_le (hX j hj) hba.size
    have hnc := Lib.hid (fun (x : World) (_hx : Below w1.heap.size w1 x) => refName_any S1 (by rw [← hS1, strOf_size']; omega) x)
    have e1 : S1.data.toList = nm := by rw [← hS1]; simp [strOf]
    rw [e1] at hnc
    have hz : S2.size = tx.length := by rw [← hS2]; exact strOf_size' tx
    obtain ⟨hbs, hbl⟩ := bs_convert w1 S2 (by omega)
    have e2 : S2.data.toList = tx := by rw [← hS2]; simp [strOf]
    rw [e2] at hbs
    have hcv := Lib.run_convert_string_bytes (P := Tryz.prog) w1 9 41 5 S2 Tryz.underlying9 Tryz.underlying41 Tryz.underlying5
    have hbd := Lib.hid (refBad_any _ _ _ tx (by omega) (Lib.bytesWorld w1 5 S2) hbs)
    have hblH := Lib.hid hbl
    have y0 : w1.cell? ⟨T, 0, none⟩ = some (.int .i64 1) := Xp.cell_blk hnb rfl
    have y1 : w1.cell? ⟨T, 1, none⟩ = some (.string S1) := Xp.cell_blk hnb rfl
    have y2 : w1.cell? ⟨T, 2, none⟩ = some (.string S2) := Xp.cell_blk hnb rfl
    have y3 : w1.cell? ⟨T, 3, none⟩ = some (.slice A n1 ca) := Xp.cell_blk hnb rfl
    have y4 : w1.cell? ⟨T, 4, none⟩ = some (.slice A2 n2 c2) := Xp.cell_blk hnb rfl
    have hbaH := Lib.hid hba
    have ez2 : S2.toList.isEmpty = tx.isEmpty := by rw [← hS2, strOf_empty]
    clear hn hKs hXA hXK hX hlow hnb hba e1 e2 z1 z2 z3 hS1 hS2 hbs hbl hz
    obtain ⟨NM, hNM⟩ : ∃ b, nameR nm = b := ⟨_, rfl⟩
    rw [hNM] at hnc
    obtain ⟨BW, hBW⟩ : ∃ b, badW tx 0 = b := ⟨_, rfl⟩
    rw [hBW] at hbd
    obtain ⟨R, hRe⟩ : ∃ R, fairN (.mk 1 nm tx as_ ks) = R := ⟨_, rfl⟩
    rw [hRe]
    by_cases hg : 0 ≤ BW
    · have g1 : decide (0 ≤ BW) = true := decide_eq_true hg
      have hRf : Hid (R = false) := Lib.hid (by
        rw [← hRe, Bool.eq_false_iff]
        intro hc
        have := fair_good hc
        unfold good at this
        rw [hBW, decide_eq_true_eq] at this
        omega)
      clear hRe hBW hNM ez2 hnc hF hA hK hXb hn1H hn2H hsA
      go_enter Tryz.func17, Tryz.ntmps17
      go_wp2_with fail
      refine hbd.out.mono ?_
      rintro e w2 ⟨rfl, hbw2⟩
      have hqw2 := Lib.hid (hblH.out.trans (hbw2.mono hblH.out.size))
      clear hbw2 y0 y1 y2 y3 y4 hcv
      have hTb9 := hTb.out w2 hqw2.out
      have y0 := Xp.cell_blk hTb9 (i := 0) rfl
      have y1 := Xp.cell_blk hTb9 (i := 1) rfl
      have y2 := Xp.cell_blk hTb9 (i := 2) rfl
      have y3 := Xp.cell_blk hTb9 (i := 3) rfl
      have y4 := Xp.cell_blk hTb9 (i := 4) rfl
      clear hTb9
      have hfin := Lib.hid (hbaH.out.trans (hqw2.out.mono hbaH.out.size))
      go_wp2_with fail
      (try simp only [Exit.inBlock, Exit.then])
      go_ret
      exact ⟨by rw [hRf.out]; rfl, hfin.out⟩
    have g1 : decide (0 ≤ BW) = false := decide_eq_false hg
    obtain ⟨B0, hB0⟩ : ∃ b, (NM && decide (tx = [])) = b := ⟨_, rfl⟩
    have hR : Hid (R = (B0 && attrsOk [] as_ && fairL 0 ks)) := Lib.hid (by
      rw [← hRe, fairN, if_pos rfl, hNM, hB0])
    clear hBW hNM hRe
    have hB0H := Lib.hid hB0
    clear hB0
    go_enter Tryz.func17, Tryz.ntmps17
    go_wp2_with fail
    refine hbd.out.mono ?_
    rintro e w2 ⟨rfl, hbw2⟩
    have hqw2 := Lib.hid (hblH.out.trans (hbw2.mono hblH.out.size))
    clear hbw2 y0 y1 y2 y3 y4 hcv
    have hTb9 := hTb.out w2 hqw2.out
    have y0 := Xp.cell_blk hTb9 (i := 0) rfl
    have y1 := Xp.cell_blk hTb9 (i := 1) rfl
    have y2 := Xp.cell_blk hTb9 (i := 2) rfl
    have y3 := Xp.cell_blk hTb9 (i := 3) rfl
    have y4 := Xp.cell_blk hTb9 (i := 4) rfl
    clear hTb9
    go_wp2_with fail
    refine (hnc.out w2 hqw2.out).mono ?_
    rintro e w3 ⟨rfl, hbw3⟩
    have hqw3 := Lib.hid (hqw2.out.trans (hbw3.mono hqw2.out.size))
    clear hbw3 y0 y1 y2 y3 y4 hnc hbd hblH hqw2
    have hTb9 := hTb.out w3 hqw3.out
    have y0 := Xp.cell_blk hTb9 (i := 0) rfl
    have y1 := Xp.cell_blk hTb9 (i := 1) rfl
    have y2 := Xp.cell_blk hTb9 (i := 2) rfl
    have y3 := Xp.cell_blk hTb9 (i := 3) rfl
    have y4 := Xp.cell_blk hTb9 (i := 4) rfl
    clear hTb9
    rcases Bool.eq_false_or_eq_true NM with rfl | rfl
    · cases tx with
      | nil =>
        have e2 : S2.toList.isEmpty = true := ez2
        have hbv : Hid (B0 = true) := Lib.hid (by rw [← hB0H.out]; rfl)
        clear ez2
        go_wp2_with fail
        clear y0 y1 y2 y3 y4
        go_loopw [3, 4] (fun v3 v4 wr => ∃ (i : Nat) (OK : Bool), i ≤ n1 ∧ v4 = .int .i64 (i : Nat) ∧ v3 = .bool OK ∧ Hid (OK = (B0 && attrsOk [] (as_.take i))) ∧ Hid (Below w1.heap.size w1 wr)) (fun _ v4 _ => n1 - (intOf v4).toNat)
        case atStart => exact ⟨0, _, by omega, rfl, rfl, Lib.hid (by rw [hbv.out]; rfl), hqw3⟩
        case round =>
          obtain ⟨i, OK, hi, rfl, rfl, hok, hqwr⟩ := hrel
          have hTb9 := hTb.out wr hqwr.out
          have y0 := Xp.cell_blk hTb9 (i := 0) rfl
          have y1 := Xp.cell_blk hTb9 (i := 1) rfl
          have y2 := Xp.cell_blk hTb9 (i := 2) rfl
          have y3 := Xp.cell_blk hTb9 (i := 3) rfl
          have y4 := Xp.cell_blk hTb9 (i := 4) rfl
          clear hTb9
          by_cases hlt : i < n1
          · have i1 : decide ((i : Int) < (n1 : Int)) = true := by simp; omega
            have q1 : (i : Int) < (n1 : Int) := by omega
            obtain ⟨b1, off1, rfl⟩ := sq_some (hA.out wr hqwr.out) (show 0 < n1 by omega)
            obtain ⟨ax, hx1, m0, m1⟩ := at_attr (hA.out wr hqwr.out) hlt
            have hxH := Lib.hid hx1
            obtain ⟨hs1, hs2⟩ := hsA.out ax (List.mem_of_getElem? hx1)
            clear hx1
            cases OK with
            | false =>
              clear hs1 hs2
              have hnow : Hid (false = (B0 && attrsOk [] (as_.take i) && (nameR ax.1 && good ax.2))) := Lib.hid (by rw [← hok.out]; rfl)
              clear hok
              go_wp2_with fail
              clear y0 y1 y2 y3 y4
              go_loopw [3, 5] (fun v3 v5 wq => ∃ k : Nat, k ≤ i ∧ v5 = .int .i64 (k : Nat) ∧ v3 = .bool false ∧ Hid (Below w1.heap.size w1 wq)) (fun _ v5 _ => i - (intOf v5).toNat)
              case atStart => exact ⟨0, by omega, rfl, rfl, hqwr⟩
              case round =>
                obtain ⟨k, hk, rfl, rfl, hqwq⟩ := hrel
                by_cases hkl : k < i
                · have j1 : decide ((k : Int) < (i : Int)) = true := by simp; omega
                  have hbd9 := Lib.hid (hqwq.out.trans ((Joins.below_draws _ _ 1).mono hqwq.out.size))
                  go_wp2_with fail
                  refine Pl.wp_region_plan 14 (.take 0 (.take 1 (.take 2 (.take 3 (.take 4 (.take 5 (.take 6 (.take 7 (.take 8 (.take 9 (.take 10 (.take 11 (.take 12 (.take 13 .done)))))))))))))) (fun _ => True) (by kernel_rfl) (by kernel_rfl) (trivial) ?_
                  simp only [Pl.fill, List.getElem?_cons_zero, List.getElem?_cons_succ, List.drop_succ_cons, List.drop_zero]
                  iterate 14
                    first
                    | (refine Pl.take_go ?_ (by rfl) (fun _ _ _ h => h) ?_ ?_
                       rotate_left
                       · (intro x hSw; (try dsimp only at hSw); go_simp; try with_reducible rfl)
                       (try simp only [Act.put, List.setIfInBounds_toArray, List.set_cons_zero, List.set_cons_succ]))
                    | (refine Pl.take_skip (by rfl) (fun _ _ _ h => h) ?_
                       (try simp only [Act.put, List.setIfInBounds_toArray, List.set_cons_zero, List.set_cons_succ]))
                  refine Pl.done_go ?_
                  go_wp2_with fail
                  go_roundw
                  case rel => exact ⟨k + 1, by omega, by go_num, rfl, hbd9⟩
                  case measure => simp [intOf]; omega
                · have hki : k = i := by omega
                  subst hki
                  have j1 : decide ((k : Int) < (k : Int)) = false := by simp
                  have hnext : Hid (false = (B0 && attrsOk [] (as_.take (k + 1)))) := Lib.hid (by
                    rw [take_snoc hxH.out, attrsOk_snoc, List.nil_append, ← Bool.and_assoc, ← Bool.and_assoc, ← hnow.out, Bool.false_and])
                  clear hnow
                  go_wp2_with fail
                  go_roundw
                  case rel => exact ⟨k + 1, false, by omega, by go_num, rfl, hnext, hqwq⟩
                  case measure => simp [intOf]; omega
            | true =>
              have hna := Lib.hid (refName_any (strOf ax.1) (by rw [strOf_size']; omega) wr)
              rw [strOf_data'] at hna
              obtain ⟨NA, hNA⟩ : ∃ b, nameR ax.1 = b := ⟨_, rfl⟩
              rw [hNA] at hna
              have hNAH := Lib.hid hNA
              clear hNA
              obtain ⟨SV, hSV⟩ : ∃ S, strOf ax.2 = S := ⟨_, rfl⟩
              rw [hSV] at m1
              have hSVH := Lib.hid hSV
              have hs2H := Lib.hid hs2
              clear hSV hs1 hs2
              go_wp2_with fail
              refine hna.out.mono ?_
              rintro e w4 ⟨rfl, hb4⟩
              have hqw4 := Lib.hid (hqwr.out.trans (hb4.mono hqwr.out.size))
              clear hb4 hna m0 m1 y0 y1 y2 y3 y4
              have hTb9 := hTb.out w4 hqw4.out
              have y0 := Xp.cell_blk hTb9 (i := 0) rfl
              have y1 := Xp.cell_blk hTb9 (i := 1) rfl
              have y2 := Xp.cell_blk hTb9 (i := 2) rfl
              have y3 := Xp.cell_blk hTb9 (i := 3) rfl
              have y4 := Xp.cell_blk hTb9 (i := 4) rfl
              clear hTb9
              cases NA with
              | false =>
                have hnow : Hid (false = (B0 && attrsOk [] (as_.take i) && (nameR ax.1 && good ax.2))) := Lib.hid (by rw [hNAH.out]; simp)
                clear hok
                go_wp2_with fail
                clear y0 y1 y2 y3 y4
                go_loopw [3, 5] (fun v3 v5 wq => ∃ k : Nat, k ≤ i ∧ v5 = .int .i64 (k : Nat) ∧ v3 = .bool false ∧ Hid (Below w1.heap.size w1 wq)) (fun _ v5 _ => i - (intOf v5).toNat)
                case atStart => exact ⟨0, by omega, rfl, rfl, hqw4⟩
                case round =>
                  obtain ⟨k, hk, rfl, rfl, hqwq⟩ := hrel
                  by_cases hkl : k < i
                  · have j1 : decide ((k : Int) < (i : Int)) = true := by simp; omega
                    have hbd9 := Lib.hid (hqwq.out.trans ((Joins.below_draws _ _ 1).mono hqwq.out.size))
                    go_wp2_with fail
                    refine Pl.wp_region_plan 14 (.take 0 (.take 1 (.take 2 (.take 3 (.take 4 (.take 5 (.take 6 (.take 7 (.take 8 (.take 9 (.take 10 (.take 11 (.take 12 (.take 13 .done)))))))))))))) (fun _ => True) (by kernel_rfl) (by kernel_rfl) (trivial) ?_
                    simp only [Pl.fill, List.getElem?_cons_zero, List.getElem?_cons_succ, List.drop_succ_cons, List.drop_zero]
                    iterate 14
                      first
                      | (refine Pl.take_go ?_ (by rfl) (fun _ _ _ h => h) ?_ ?_
                         rotate_left
                         · (intro x hSw; (try dsimp only at hSw); go_simp; try with_reducible rfl)
                         (try simp only [Act.put, List.setIfInBounds_toArray, List.set_cons_zero, List.set_cons_succ]))
                      | (refine Pl.take_skip (by rfl) (fun _ _ _ h => h) ?_
                         (try simp only [Act.put, List.setIfInBounds_toArray, List.set_cons_zero, List.set_cons_succ]))
                    refine Pl.done_go ?_
                    go_wp2_with fail
                    go_roundw
                    case rel => exact ⟨k + 1, by omega, by go_num, rfl, hbd9⟩
                    case measure => simp [intOf]; omega
                  · have hki : k = i := by omega
                    subst hki
                    have j1 : decide ((k : Int) < (k : Int)) = false := by simp
                    have hnext : Hid (false = (B0 && attrsOk [] (as_.take (k + 1)))) := Lib.hid (by
                      rw [take_snoc hxH.out, attrsOk_snoc, List.nil_append, ← Bool.and_assoc, ← Bool.and_assoc, ← hnow.out, Bool.false_and])
                    clear hnow
                    go_wp2_with fail
                    go_roundw
                    case rel => exact ⟨k + 1, false, by omega, by go_num, rfl, hnext, hqwq⟩
                    case measure => simp [intOf]; omega
              | true =>
                have m1 := (at_attr_ (hA.out w4 hqw4.out) hxH.out).2
                rw [hSVH.out] at m1
                have hz : SV.size = ax.2.length := by rw [← hSVH.out]; exact strOf_size' _
                obtain ⟨hbs, hbl⟩ := bs_convert w4 SV (by have := hs2H.out; omega)
                have e9 : SV.data.toList = ax.2 := by rw [← hSVH.out, strOf_data']
                rw [e9] at hbs
                have hcv := Lib.run_convert_string_bytes (P := Tryz.prog) w4 9 41 5 SV Tryz.underlying9 Tryz.underlying41 Tryz.underlying5
                have hbd := Lib.hid (refBad_any _ _ _ ax.2 (by have := hs2H.out; omega) (Lib.bytesWorld w4 5 SV) hbs)
                have hblH := Lib.hid hbl
                obtain ⟨BA, hBA⟩ : ∃ b, badW ax.2 0 = b := ⟨_, rfl⟩
                rw [hBA] at hbd
                have hgd : Hid (good ax.2 = decide (BA < 0)) := Lib.hid (by unfold good; rw [hBA])
                clear hbs hbl e9 hz hBA
                go_wp2_with fail
                refine hbd.out.mono ?_
                rintro e w5 ⟨rfl, hb5⟩
                have hqw5 := Lib.hid (hqw4.out.trans ((hblH.out.trans (hb5.mono hblH.out.size)).mono hqw4.out.size))
                clear hb5 hcv m1 hbd hblH y0 y1 y2 y3 y4
                have hTb9 := hTb.out w5 hqw5.out
                have y0 := Xp.cell_blk hTb9 (i := 0) rfl
                have y1 := Xp.cell_blk hTb9 (i := 1) rfl
                have y2 := Xp.cell_blk hTb9 (i := 2) rfl
                have y3 := Xp.cell_blk hTb9 (i := 3) rfl
                have y4 := Xp.cell_blk hTb9 (i := 4) rfl
                clear hTb9
                by_cases hbz : BA < 0
                · have g1 : decide (BA < 0) = true := decide_eq_true hbz
                  have hnow : Hid (true = (B0 && attrsOk [] (as_.take i) && (nameR ax.1 && good ax.2))) := Lib.hid (by rw [← hok.out, hNAH.out, hgd.out, g1]; rfl)
                  clear hok hgd
                  go_wp2_with fail
                  clear y0 y1 y2 y3 y4
                  go_loopw [3, 5] (fun v3 v5 wq => ∃ (k : Nat) (OK2 : Bool), k ≤ i ∧ v5 = .int .i64 (k : Nat) ∧ v3 = .bool OK2 ∧ Hid (OK2 = (true && decide (ax.1 ∉ (as_.take k).map (·.1)))) ∧ Hid (Below w1.heap.size w1 wq)) (fun _ v5 _ => i - (intOf v5).toNat)
                  case atStart => exact ⟨0, true, by omega, rfl, rfl, Lib.hid (by simp), hqw5⟩
                  case round =>
                    obtain ⟨k, OK2, hk, rfl, rfl, hok2, hqwq⟩ := hrel
                    have hTb9 := hTb.out _ hqwq.out
                    have y0 := Xp.cell_blk hTb9 (i := 0) rfl
                    have y1 := Xp.cell_blk hTb9 (i := 1) rfl
                    have y2 := Xp.cell_blk hTb9 (i := 2) rfl
                    have y3 := Xp.cell_blk hTb9 (i := 3) rfl
                    have y4 := Xp.cell_blk hTb9 (i := 4) rfl
                    clear hTb9
                    by_cases hkl : k < i
                    · have j1 : decide ((k : Int) < (i : Int)) = true := by simp; omega
                      have j2 : (k : Int) < (i : Int) := by omega
                      have j3 : (k : Int) < (n1 : Int) := by omega
                      obtain ⟨ay, hy1, p0, -⟩ := at_attr (hA.out _ hqwq.out) (show k < n1 by omega)
                      have p1 := (at_attr_ (hA.out _ hqwq.out) hxH.out).1
                      have hbd9 := Lib.hid (hqwq.out.trans ((Joins.below_draws _ _ 1).mono hqwq.out.size))
                      have hst := (⟨y3, p0, p1⟩ : _ ∧ _ ∧ _)
                      have hyH := Lib.hid hy1
                      have heq := str_eq_iff ay.1 ax.1
                      clear hy1
                      cases OK2 with
                      | false =>
                        have hnext : Hid (false = (true && decide (ax.1 ∉ (as_.take (k + 1)).map (·.1)))) := Lib.hid (by
                          rw [take_snoc hyH.out, List.map_append, List.map_cons, List.map_nil, mem_snoc_dec, ← Bool.and_assoc, ← hok2.out, Bool.false_and])
                        clear hok2
                        go_wp2_with fail
                        refine Pl.wp_region_plan 14 (.take 0 (.take 1 (.take 2 (.take 3 (.take 4 (.take 5 (.take 6 (.take 7 (.take 8 (.take 9 (.take 10 (.take 11 (.take 12 (.take 13 .done)))))))))))))) (fun x => x.cell? ⟨T, 3, none⟩ = some (.slice (some ⟨b1, off1, none⟩) n1 ca) ∧ x.cell? ⟨b1, off1 + k * 2, none⟩ = some (.string (strOf ay.1)) ∧ x.cell? ⟨b1, off1 + i * 2, none⟩ = some (.string (strOf ax.1))) (by kernel_rfl) (by kernel_rfl) (by exact hst) ?_
                        simp only [Pl.fill, List.getElem?_cons_zero, List.getElem?_cons_succ, List.drop_succ_cons, List.drop_zero]
                        iterate 14
                          first
                          | (refine Pl.take_go ?_ (by rfl) (fun _ _ _ h => h) ?_ ?_
                             rotate_left
                             · (intro x hSw; (try dsimp only at hSw); go_simp; try with_reducible rfl)
                             (try simp only [Act.put, List.setIfInBounds_toArray, List.set_cons_zero, List.set_cons_succ]))
                          | (refine Pl.take_skip (by rfl) (fun _ _ _ h => h) ?_
                             (try simp only [Act.put, List.setIfInBounds_toArray, List.set_cons_zero, List.set_cons_succ]))
                        refine Pl.done_go ?_
                        clear hst
                        go_wp2_with fail
                        go_roundw
                        case rel => exact ⟨k + 1, false, by omega, by go_num, rfl, hnext, hbd9⟩
                        case measure => simp [intOf]; omega
                      | true =>
                        have hnext : Hid (decide (ax.1 ≠ ay.1) = (true && decide (ax.1 ∉ (as_.take (k + 1)).map (·.1)))) := Lib.hid (by
                          rw [take_snoc hyH.out, List.map_append, List.map_cons, List.map_nil, mem_snoc_dec, ← Bool.and_assoc, ← hok2.out, Bool.true_and])
                        clear hok2
                        by_cases hxy : ay.1 = ax.1
                        · rw [decide_eq_true hxy] at heq
                          rw [decide_eq_false (show ¬ (ax.1 ≠ ay.1) from fun h => h hxy.symm)] at hnext
                          go_wp2_with fail
                          refine Pl.wp_region_plan 14 (.take 0 (.take 1 (.take 2 (.take 3 (.take 4 (.take 5 (.take 6 (.take 7 (.take 8 (.take 9 (.take 10 (.take 11 (.take 12 (.take 13 .done)))))))))))))) (fun x => x.cell? ⟨T, 3, none⟩ = some (.slice (some ⟨b1, off1, none⟩) n1 ca) ∧ x.cell? ⟨b1, off1 + k * 2, none⟩ = some (.string (strOf ay.1)) ∧ x.cell? ⟨b1, off1 + i * 2, none⟩ = some (.string (strOf ax.1))) (by kernel_rfl) (by kernel_rfl) (by exact hst) ?_
                          simp only [Pl.fill, List.getElem?_cons_zero, List.getElem?_cons_succ, List.drop_succ_cons, List.drop_zero]
                          iterate 14
                            first
                            | (refine Pl.take_go ?_ (by rfl) (fun _ _ _ h => h) ?_ ?_
                               rotate_left
                               · (intro x hSw; (try dsimp only at hSw); go_simp; try with_reducible rfl)
                               (try simp only [Act.put, List.setIfInBounds_toArray, List.set_cons_zero, List.set_cons_succ]))
                            | (refine Pl.take_skip (by rfl) (fun _ _ _ h => h) ?_
                               (try simp only [Act.put, List.setIfInBounds_toArray, List.set_cons_zero, List.set_cons_succ]))
                          refine Pl.done_go ?_
                          clear hst hxy
                          go_wp2_with fail
                          go_roundw
                          case rel => exact ⟨k + 1, false, by omega, by go_num, rfl, hnext, hbd9⟩
                          case measure => simp [intOf]; omega
                        · rw [decide_eq_false hxy] at heq
                          rw [decide_eq_true (show ax.1 ≠ ay.1 from fun h => hxy h.symm)] at hnext
                          go_wp2_with fail
                          refine Pl.wp_region_plan 14 (.take 0 (.take 1 (.take 2 (.take 3 (.take 4 (.take 5 (.take 6 (.take 7 (.take 8 (.take 9 (.take 10 (.take 11 (.take 12 (.take 13 .done)))))))))))))) (fun x => x.cell? ⟨T, 3, none⟩ = some (.slice (some ⟨b1, off1, none⟩) n1 ca) ∧ x.cell? ⟨b1, off1 + k * 2, none⟩ = some (.string (strOf ay.1)) ∧ x.cell? ⟨b1, off1 + i * 2, none⟩ = some (.string (strOf ax.1))) (by kernel_rfl) (by kernel_rfl) (by exact hst) ?_
                          simp only [Pl.fill, List.getElem?_cons_zero, List.getElem?_cons_succ, List.drop_succ_cons, List.drop_zero]
                          iterate 14
                            first
                            | (refine Pl.take_go ?_ (by rfl) (fun _ _ _ h => h) ?_ ?_
                               rotate_left
                               · (intro x hSw; (try dsimp only at hSw); go_simp; try with_reducible rfl)
                               (try simp only [Act.put, List.setIfInBounds_toArray, List.set_cons_zero, List.set_cons_succ]))
                            | (refine Pl.take_skip (by rfl) (fun _ _ _ h => h) ?_
                               (try simp only [Act.put, List.setIfInBounds_toArray, List.set_cons_zero, List.set_cons_succ]))
                          refine Pl.done_go ?_
                          clear hst hxy
                          go_wp2_with fail
                          go_roundw
                          case rel => exact ⟨k + 1, true, by omega, by go_num, rfl, hnext, hbd9⟩
                          case measure => simp [intOf]; omega
                    · have hki : k = i := by omega
                      subst hki
                      have j1 : decide ((k : Int) < (k : Int)) = false := by simp
                      have hnext : Hid (OK2 = (B0 && attrsOk [] (as_.take (k + 1)))) := Lib.hid (by
                        rw [take_snoc hxH.out, attrsOk_snoc, List.nil_append, hok2.out, hnow.out]
                        simp [Bool.and_assoc])
                      clear hok2 hnow
                      go_wp2_with fail
                      go_roundw
                      case rel => exact ⟨k + 1, OK2, by omega, by go_num, rfl, hnext, hqwq⟩
                      case measure => simp [intOf]; omega
                · have g1 : decide (BA < 0) = false := decide_eq_false hbz
                  have hnow : Hid (false = (B0 && attrsOk [] (as_.take i) && (nameR ax.1 && good ax.2))) := Lib.hid (by rw [hgd.out, g1]; simp)
                  clear hok hgd
                  go_wp2_with fail
                  clear y0 y1 y2 y3 y4
                  go_loopw [3, 5] (fun v3 v5 wq => ∃ k : Nat, k ≤ i ∧ v5 = .int .i64 (k : Nat) ∧ v3 = .bool false ∧ Hid (Below w1.heap.size w1 wq)) (fun _ v5 _ => i - (intOf v5).toNat)
                  case atStart => exact ⟨0, by omega, rfl, rfl, hqw5⟩
                  case round =>
                    obtain ⟨k, hk, rfl, rfl, hqwq⟩ := hrel
                    by_cases hkl : k < i
                    · have j1 : decide ((k : Int) < (i : Int)) = true := by simp; omega
                      have hbd9 := Lib.hid (hqwq.out.trans ((Joins.below_draws _ _ 1).mono hqwq.out.size))
                      go_wp2_with fail
                      refine Pl.wp_region_plan 14 (.take 0 (.take 1 (.take 2 (.take 3 (.take 4 (.take 5 (.take 6 (.take 7 (.take 8 (.take 9 (.take 10 (.take 11 (.take 12 (.take 13 .done)))))))))))))) (fun _ => True) (by kernel_rfl) (by kernel_rfl) (trivial) ?_
                      simp only [Pl.fill, List.getElem?_cons_zero, List.getElem?_cons_succ, List.drop_succ_cons, List.drop_zero]
                      iterate 14
                        first
                        | (refine Pl.take_go ?_ (by rfl) (fun _ _ _ h => h) ?_ ?_
                           rotate_left
                           · (intro x hSw; (try dsimp only at hSw); go_simp; try with_reducible rfl)
                           (try simp only [Act.put, List.setIfInBounds_toArray, List.set_cons_zero, List.set_cons_succ]))
                        | (refine Pl.take_skip (by rfl) (fun _ _ _ h => h) ?_
                           (try simp only [Act.put, List.setIfInBounds_toArray, List.set_cons_zero, List.set_cons_succ]))
                      refine Pl.done_go ?_
                      go_wp2_with fail
                      go_roundw
                      case rel => exact ⟨k + 1, by omega, by go_num, rfl, hbd9⟩
                      case measure => simp [intOf]; omega
                    · have hki : k = i := by omega
                      subst hki
                      have j1 : decide ((k : Int) < (k : Int)) = false := by simp
                      have hnext : Hid (false = (B0 && attrsOk [] (as_.take (k + 1)))) := Lib.hid (by
                        rw [take_snoc hxH.out, attrsOk_snoc, List.nil_append, ← Bool.and_assoc, ← Bool.and_assoc, ← hnow.out, Bool.false_and])
                      clear hnow
                      go_wp2_with fail
                      go_roundw
                      case rel => exact ⟨k + 1, false, by omega, by go_num, rfl, hnext, hqwq⟩
                      case measure => simp [intOf]; omega
          · have hie : i = n1 := by omega
            subst hie
            have i1 : decide ((i : Int) < (i : Int)) = false := by simp
            have hB1 : Hid (OK = (B0 && attrsOk [] as_)) := Lib.hid (by
              have h9 := hok.out
              rwa [List.take_of_length_le (Nat.le_of_eq hn1H.out)] at h9)
            clear hok hA
            go_wp2_with fail
            clear y0 y1 y2 y3 y4
            go_loopw [3, 6] (fun v3 v6 wq => ∃ (i : Nat) (OK2 : Bool), i ≤ n2 ∧ v6 = .int .i64 (i : Nat) ∧ v3 = .bool OK2 ∧ Hid (OK2 = (OK && fairL 0 (ks.take i))) ∧ Hid (Below w1.heap.size w1 wq)) (fun _ v6 _ => n2 - (intOf v6).toNat)
            case atStart => exact ⟨0, OK, by omega, rfl, rfl, Lib.hid (by simp [fairL]), hqwr⟩
            case round =>
              obtain ⟨q, OK2, hq, rfl, rfl, hok2, hqws⟩ := hrel
              have hTb9 := hTb.out _ hqws.out
              have y0 := Xp.cell_blk hTb9 (i := 0) rfl
              have y1 := Xp.cell_blk hTb9 (i := 1) rfl
              have y2 := Xp.cell_blk hTb9 (i := 2) rfl
              have y3 := Xp.cell_blk hTb9 (i := 3) rfl
              have y4 := Xp.cell_blk hTb9 (i := 4) rfl
              clear hTb9
              by_cases hlt3 : q < n2
              · have i3 : decide ((q : Int) < (n2 : Int)) = true := by simp; omega
                have q3 : (q : Int) < (n2 : Int) := by omega
                cases OK2 with
                | false =>
                  have hnext : Hid (false = (OK && fairL 0 (ks.take (q + 1)))) := Lib.hid (by
                    obtain ⟨x, hx⟩ : ∃ x, ks[q]? = some x := ⟨_, List.getElem?_eq_getElem (by rw [hn2H.out]; exact hlt3)⟩
                    rw [take_snoc hx, fairL_snoc, ← Bool.and_assoc, ← hok2.out, Bool.false_and])
                  clear hok2
                  go_wp2_with fail
                  go_roundw
                  case rel => exact ⟨q + 1, false, by omega, by go_num, rfl, hnext, hqws⟩
                  case measure => simp [intOf]; omega
                | true =>
                  obtain ⟨b3, off3, x, vs3, rfl, _, hx3, _, hv3, hc3⟩ := (hK.out _ hqws.out).at_ hlt3
                  have hfx := hF.out q x hx3
                  have hxH3 := Lib.hid hx3
                  have hbX := fun j (hj : X j) => Nat.lt_of_lt_of_le (hXb.out j hj) hqws.out.size
                  obtain ⟨kx, nx_, tx_, ax_, kx_⟩ := x
                  have hrec := Lib.hid (hfx _ _ hv3 hbX)
                  obtain ⟨Ax, cax, A2x, c2x, rfl, -⟩ := hv3.cells
                  have m0 := hc3 0 _ rfl
                  have m1 := hc3 1 _ rfl
                  have m2 := hc3 2 _ rfl
                  have m3 := hc3 3 _ rfl
                  have m4 := hc3 4 _ rfl
                  rw [Nat.add_zero] at m0
                  obtain ⟨FX, hFX⟩ : ∃ b, fairN (.mk kx nx_ tx_ ax_ kx_) = b := ⟨_, rfl⟩
                  rw [hFX] at hrec
                  have hFXH := Lib.hid hFX
                  clear hc3 hx3 hfx hv3 hbX hFX
                  go_wp2_with fail
                  refine hrec.out.mono ?_
                  rintro e w6 ⟨rfl, hb6⟩
                  have hqw6 := Lib.hid (hqws.out.trans (hb6.mono hqws.out.size))
                  clear hb6 hrec m0 m1 m2 m3 m4 y0 y1 y2 y3 y4
                  have hTb9 := hTb.out w6 hqw6.out
                  have y0 := Xp.cell_blk hTb9 (i := 0) rfl
                  have y1 := Xp.cell_blk hTb9 (i := 1) rfl
                  have y2 := Xp.cell_blk hTb9 (i := 2) rfl
                  have y3 := Xp.cell_blk hTb9 (i := 3) rfl
                  have y4 := Xp.cell_blk hTb9 (i := 4) rfl
                  clear hTb9
                  have k0 := at_kind (hK.out w6 hqw6.out) hlt3 hxH3.out
                  change w6.cell? _ = some (.int .i64 kx) at k0
                  have hval : Hid ((OK && fairL 0 (ks.take (q + 1))) = (FX && !(decide (lastK 0 (ks.take q) = 2) && decide (kx = 2)))) := Lib.hid (by
                    rw [take_snoc hxH3.out, fairL_snoc, ← Bool.and_assoc, ← hok2.out, hFXH.out]
                    rfl)
                  clear hok2 hFXH
                  cases FX with
                  | false =>
                    have hnext : Hid (false = (OK && fairL 0 (ks.take (q + 1)))) := Lib.hid (by rw [hval.out]; rfl)
                    clear hval
                    go_wp2_with fail
                    go_roundw
                    case rel => exact ⟨q + 1, false, by omega, by go_num, rfl, hnext, hqw6⟩
                    case measure => simp [intOf]; omega
                  | true =>
                    by_cases hq0 : q = 0
                    · subst hq0
                      have hnext : Hid (true = (OK && fairL 0 (ks.take (0 + 1)))) := Lib.hid (by rw [hval.out]; simp [lastK])
                      clear hval
                      go_wp2_with fail
                      go_roundw
                      case rel => exact ⟨0 + 1, true, by omega, by go_num, rfl, hnext, hqw6⟩
                      case measure => simp [intOf]; omega
                    · have r0 : ((q : Int) == 0) = false := by rw [beq_eq_false_iff_ne]; omega
                      by_cases h2 : kx = 2
                      · have r1 : (kx != 2) = false := by rw [h2]; rfl
                        obtain ⟨x5, hx5⟩ : ∃ x5, ks[q - 1]? = some x5 := ⟨_, List.getElem?_eq_getElem (by rw [hn2H.out]; omega)⟩
                        have k5 := at_kind (hK.out w6 hqw6.out) (show q - 1 < n2 by omega) hx5
                        obtain ⟨p, rfl⟩ : ∃ p, q = p + 1 := ⟨q - 1, by omega⟩
                        rw [Nat.add_sub_cancel] at k5 hx5
                        have hlk : lastK 0 (ks.take (p + 1)) = x5.kind := by rw [take_snoc hx5]; simp [lastK]
                        obtain ⟨kz, hkz⟩ : ∃ kz, x5.kind = kz := ⟨_, rfl⟩
                        rw [hkz] at k5 hlk
                        have p3 : (p : Int) < (n2 : Int) := by omega
                        by_cases h5 : kz = 2
                        · have r5 : (kz != 2) = false := by rw [h5]; rfl
                          have hnext : Hid (false = (OK && fairL 0 (ks.take (p + 1 + 1)))) := Lib.hid (by rw [hval.out, hlk, h5, h2]; simp)
                          clear hval h5 h2 hlk hkz hx5
                          go_wp2_with fail
                          go_roundw
                          case rel => exact ⟨p + 1 + 1, false, by omega, by go_num, rfl, hnext, hqw6⟩
                          case measure => simp [intOf]; omega
                        · have r5 : (kz != 2) = true := by simpa using h5
                          have hnext : Hid (true = (OK && fairL 0 (ks.take (p + 1 + 1)))) := Lib.hid (by rw [hval.out, hlk, decide_eq_false h5]; simp)
                          clear hval h5 h2 hlk hkz hx5
                          go_wp2_with fail
                          go_roundw
                          case rel => exact ⟨p + 1 + 1, true, by omega, by go_num, rfl, hnext, hqw6⟩
                          case measure => simp [intOf]; omega
                      · have r1 : (kx != 2) = true := by simpa using h2
                        have hnext : Hid (true = (OK && fairL 0 (ks.take (q + 1)))) := Lib.hid (by rw [hval.out, decide_eq_false h2]; simp)
                        clear hval h2
                        go_wp2_with fail
                        go_roundw
                        case rel => exact ⟨q + 1, true, by omega, by go_num, rfl, hnext, hqw6⟩
                        case measure => simp [intOf]; omega
              · have hie : q = n2 := by omega
                subst hie
                have i3 : decide ((q : Int) < (q : Int)) = false := by simp
                have hRf : Hid (R = OK2) := Lib.hid (by
                  have h9 := hok2.out
                  rw [List.take_of_length_le (Nat.le_of_eq hn2H.out)] at h9
                  rw [h9, hB1.out, hR.out])
                have hfin := Lib.hid (hbaH.out.trans (hqws.out.mono hbaH.out.size))
                clear hok2
                go_wp2_with fail
                (try simp only [Exit.inBlock, Exit.then])
                go_ret
                exact ⟨by rw [hRf.out]; rfl, hfin.out⟩
      | cons c0 r0 =>
        have e2 : S2.toList.isEmpty = false := ez2
        have hbv : Hid (B0 = false) := Lib.hid (by rw [← hB0H.out]; simp)
        clear ez2
        go_wp2_with fail
        clear y0 y1 y2 y3 y4
        go_loopw [3, 4] (fun v3 v4 wr => ∃ i : Nat, i ≤ n1 ∧ v4 = .int .i64 (i : Nat) ∧ v3 = .bool false ∧ Hid (Below w1.heap.size w1 wr)) (fun _ v4 _ => n1 - (intOf v4).toNat)
        case atStart => exact ⟨0, by omega, rfl, rfl, hqw3⟩
        case round =>
          obtain ⟨i, hi, rfl, rfl, hqwr⟩ := hrel
          have hTb9 := hTb.out wr hqwr.out
          have y0 := Xp.cell_blk hTb9 (i := 0) rfl
          have y1 := Xp.cell_blk hTb9 (i := 1) rfl
          have y2 := Xp.cell_blk hTb9 (i := 2) rfl
          have y3 := Xp.cell_blk hTb9 (i := 3) rfl
          have y4 := Xp.cell_blk hTb9 (i := 4) rfl
          clear hTb9
          by_cases hlt : i < n1
          · have i1 : decide ((i : Int) < (n1 : Int)) = true := by simp; omega
            go_wp2_with fail
            clear y0 y1 y2 y3 y4
            go_loopw [3, 5] (fun v3 v5 wq => ∃ k : Nat, k ≤ i ∧ v5 = .int .i64 (k : Nat) ∧ v3 = .bool false ∧ Hid (Below w1.heap.size w1 wq)) (fun _ v5 _ => i - (intOf v5).toNat)
            case atStart => exact ⟨0, by omega, rfl, rfl, hqwr⟩
            case round =>
              obtain ⟨k, hk, rfl, rfl, hqwq⟩ := hrel
              by_cases hkl : k < i
              · have j1 : decide ((k : Int) < (i : Int)) = true := by simp; omega
                have hbd9 := Lib.hid (hqwq.out.trans ((Joins.below_draws _ _ 1).mono hqwq.out.size))
                go_wp2_with fail
                refine Pl.wp_region_plan 14 (.take 0 (.take 1 (.take 2 (.take 3 (.take 4 (.take 5 (.take 6 (.take 7 (.take 8 (.take 9 (.take 10 (.take 11 (.take 12 (.take 13 .done)))))))))))))) (fun _ => True) (by kernel_rfl) (by kernel_rfl) (trivial) ?_
                simp only [Pl.fill, List.getElem?_cons_zero, List.getElem?_cons_succ, List.drop_succ_cons, List.drop_zero]
                iterate 14
                  first
                  | (refine Pl.take_go ?_ (by rfl) (fun _ _ _ h => h) ?_ ?_
                     rotate_left
                     · (intro x hSw; (try dsimp only at hSw); go_simp; try with_reducible rfl)
                     (try simp only [Act.put, List.setIfInBounds_toArray, List.set_cons_zero, List.set_cons_succ]))
                  | (refine Pl.take_skip (by rfl) (fun _ _ _ h => h) ?_
                     (try simp only [Act.put, List.setIfInBounds_toArray, List.set_cons_zero, List.set_cons_succ]))
                refine Pl.done_go ?_
                go_wp2_with fail
                go_roundw
                case rel => exact ⟨k + 1, by omega, by go_num, rfl, hbd9⟩
                case measure => simp [intOf]; omega
              · have hki : k = i := by omega
                subst hki
                have j1 : decide ((k : Int) < (k : Int)) = false := by simp
                go_wp2_with fail
                go_roundw
                case rel => exact ⟨k + 1, by omega, by go_num, rfl, hqwq⟩
                case measure => simp [intOf]; omega
          · have hie : i = n1 := by omega
            subst hie
            have i1 : decide ((i : Int) < (i : Int)) = false := by simp
            go_wp2_with fail
            clear y0 y1 y2 y3 y4
            go_loopw [3, 6] (fun v3 v6 wq => ∃ q : Nat, q ≤ n2 ∧ v6 = .int .i64 (q : Nat) ∧ v3 = .bool false ∧ Hid (Below w1.heap.size w1 wq)) (fun _ v6 _ => n2 - (intOf v6).toNat)
            case atStart => exact ⟨0, by omega, rfl, rfl, hqwr⟩
            case round =>
              obtain ⟨q, hq, rfl, rfl, hqws⟩ := hrel
              have hTb9 := hTb.out _ hqws.out
              have y0 := Xp.cell_blk hTb9 (i := 0) rfl
              have y1 := Xp.cell_blk hTb9 (i := 1) rfl
              have y2 := Xp.cell_blk hTb9 (i := 2) rfl
              have y3 := Xp.cell_blk hTb9 (i := 3) rfl
              have y4 := Xp.cell_blk hTb9 (i := 4) rfl
              clear hTb9
              by_cases hlt3 : q < n2
              · have i3 : decide ((q : Int) < (n2 : Int)) = true := by simp; omega
                go_wp2_with fail
                go_roundw
                case rel => exact ⟨q + 1, by omega, by go_num, rfl, hqws⟩
                case measure => simp [intOf]; omega
              · have hie : q = n2 := by omega
                subst hie
                have i3 : decide ((q : Int) < (q : Int)) = false := by simp
                have hRf : Hid (R = false) := Lib.hid (by rw [hR.out, hbv.out]; rfl)
                have hfin := Lib.hid (hbaH.out.trans (hqws.out.mono hbaH.out.size))
                go_wp2_with fail
                (try simp only [Exit.inBlock, Exit.then])
                go_ret
                exact ⟨by rw [hRf.out]; rfl, hfin.out⟩
    · have hbv : Hid (B0 = false) := Lib.hid (by rw [← hB0H.out]; rfl)
      go_wp2_with fail
      clear y0 y1 y2 y3 y4
      go_loopw [3, 4] (fun v3 v4 wr => ∃ i : Nat, i ≤ n1 ∧ v4 = .int .i64 (i : Nat) ∧ v3 = .bool false ∧ Hid (Below w1.heap.size w1 wr)) (fun _ v4 _ => n1 - (intOf v4).toNat)
      case atStart => exact ⟨0, by omega, rfl, rfl, hqw3⟩
      case round =>
        obtain ⟨i, hi, rfl, rfl, hqwr⟩ := hrel
        have hTb9 := hTb.out wr hqwr.out
        have y0 := Xp.cell_blk hTb9 (i := 0) rfl
        have y1 := Xp.cell_blk hTb9 (i := 1) rfl
        have y2 := Xp.cell_blk hTb9 (i := 2) rfl
        have y3 := Xp.cell_blk hTb9 (i := 3) rfl
        have y4 := Xp.cell_blk hTb9 (i := 4) rfl
        clear hTb9
        by_cases hlt : i < n1
        · have i1 : decide ((i : Int) < (n1 : Int)) = true := by simp; omega
          go_wp2_with fail
          clear y0 y1 y2 y3 y4
          go_loopw [3, 5] (fun v3 v5 wq => ∃ k : Nat, k ≤ i ∧ v5 = .int .i64 (k : Nat) ∧ v3 = .bool false ∧ Hid (Below w1.heap.size w1 wq)) (fun _ v5 _ => i - (intOf v5).toNat)
          case atStart => exact ⟨0, by omega, rfl, rfl, hqwr⟩
          case round =>
            obtain ⟨k, hk, rfl, rfl, hqwq⟩ := hrel
            by_cases hkl : k < i
            · have j1 : decide ((k : Int) < (i : Int)) = true := by simp; omega
              have hbd9 := Lib.hid (hqwq.out.trans ((Joins.below_draws _ _ 1).mono hqwq.out.size))
              go_wp2_with fail
              refine Pl.wp_region_plan 14 (.take 0 (.take 1 (.take 2 (.take 3 (.take 4 (.take 5 (.take 6 (.take 7 (.take 8 (.take 9 (.take 10 (.take 11 (.take 12 (.take 13 .done)))))))))))))) (fun _ => True) (by kernel_rfl) (by kernel_rfl) (trivial) ?_
              simp only [Pl.fill, List.getElem?_cons_zero, List.getElem?_cons_succ, List.drop_succ_cons, List.drop_zero]
              iterate 14
                first
                | (refine Pl.take_go ?_ (by rfl) (fun _ _ _ h => h) ?_ ?_
                   rotate_left
                   · (intro x hSw; (try dsimp only at hSw); go_simp; try with_reducible rfl)
                   (try simp only [Act.put, List.setIfInBounds_toArray, List.set_cons_zero, List.set_cons_succ]))
                | (refine Pl.take_skip (by rfl) (fun _ _ _ h => h) ?_
                   (try simp only [Act.put, List.setIfInBounds_toArray, List.set_cons_zero, List.set_cons_succ]))
              refine Pl.done_go ?_
              go_wp2_with fail
              go_roundw
              case rel => exact ⟨k + 1, by omega, by go_num, rfl, hbd9⟩
              case measure => simp [intOf]; omega
            · have hki : k = i := by omega
              subst hki
              have j1 : decide ((k : Int) < (k : Int)) = false := by simp
              go_wp2_with fail
              go_roundw
              case rel => exact ⟨k + 1, by omega, by go_num, rfl, hqwq⟩
              case measure => simp [intOf]; omega
        · have hie : i = n1 := by omega
          subst hie
          have i1 : decide ((i : Int) < (i : Int)) = false := by simp
          go_wp2_with fail
          clear y0 y1 y2 y3 y4
          go_loopw [3, 6] (fun v3 v6 wq => ∃ q : Nat, q ≤ n2 ∧ v6 = .int .i64 (q : Nat) ∧ v3 = .bool false ∧ Hid (Below w1.heap.size w1 wq)) (fun _ v6 _ => n2 - (intOf v6).toNat)
          case atStart => exact ⟨0, by omega, rfl, rfl, hqwr⟩
          case round =>
            obtain ⟨q, hq, rfl, rfl, hqws⟩ := hrel
            have hTb9 := hTb.out _ hqws.out
            have y0 := Xp.cell_blk hTb9 (i := 0) rfl
            have y1 := Xp.cell_blk hTb9 (i := 1) rfl
            have y2 := Xp.cell_blk hTb9 (i := 2) rfl
            have y3 := Xp.cell_blk hTb9 (i := 3) rfl
            have y4 := Xp.cell_blk hTb9 (i := 4) rfl
            clear hTb9
            by_cases hlt3 : q < n2
            · have i3 : decide ((q : Int) < (n2 : Int)) = true := by simp; omega
              go_wp2_with fail
              go_roundw
              case rel => exact ⟨q + 1, by omega, by go_num, rfl, hqws⟩
              case measure => simp [intOf]; omega
            · have hie : q = n2 := by omega
              subst hie
              have i3 : decide ((q : Int) < (q : Int)) = false := by simp
              have hRf : Hid (R = false) := Lib.hid (by rw [hR.out, hbv.out]; rfl)
              have hfin := Lib.hid (hbaH.out.trans (hqws.out.mono hbaH.out.size))
              go_wp2_with fail
              (try simp only [Exit.inBlock, Exit.then])
              go_ret
              exact ⟨by rw [hRf.out]; rfl, hfin.out⟩
end Go.Proofs.YtokdnhdfmgfkeaaGreatDoor.Xp
end
