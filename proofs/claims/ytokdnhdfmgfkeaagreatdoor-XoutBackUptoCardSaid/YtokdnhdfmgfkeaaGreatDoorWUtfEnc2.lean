/- The bytes of a rune: the document's and the code's, at every rune. -/
import Derived.Test.YtokdnhdfmgfkeaaGreatDoorWXlStep
import Derived.Test.YtokdnhdfmgfkeaaGreatDoorWRowS
import Derived.Laws.ResultCell
import Derived.Test.YtokdnhdfmgfkeaaGreatDoorWXpLib
import Derived.Test.YtokdnhdfmgfkeaaGreatDoorWUtfMath
import Derived.Test.YtokdnhdfmgfkeaaGreatDoorWQxVal
import Derived.Lib.OthersKept
import Derived.Shelf.Unicode.ValidAny
import Derived.Test.YtokdnhdfmgfkeaaGreatDoorWUtfEnc
import Derived.Shelf.Lay
import Derived.Ground.NamesProg
import Derived.Shelf.Small.Utf8
import Derived.Shelf.Utf8.AppendRunePlain
set_option linter.unusedVariables false
set_option linter.unusedSimpArgs false
section
namespace Go.Proofs.YtokdnhdfmgfkeaaGreatDoor.Xl
open Go.RowKit UtfW
theorem results_cell_one {fn : Func} {p : Tmp} {ty : TypeId} (h : fn.results = #[.cell p ty]) (tmps : Array Value) (P : Program) (w : World) :
  (results fn tmps).run P w = ((asAddr (tmps.getD p undef)).run P w).andThen fun a w1 => (loadVar ty a).run P w1 := by
 simp only [results, h];simp [Sem.run_bind, Result.andThen]
def Ab (w : World) (b : Nat) (nm v : ByteArray) : Prop := w.heap[b]? = some (.cells #[.string nm, .string v] 55)
def Tb (w : World) (b : Nat) (kd at_ : Int) (nm tx : ByteArray) (va : Value) : Prop := w.heap[b]? = some (.cells #[.int .i64 kd, .int .i64 at_, .string nm, .string tx, va] 87)
section
variable {w w' : World} {b : Nat} {nm v nm' v' tx tx' : ByteArray} {kd at_ kd' at' : Int} {va va' : Value}
theorem Ab.lt (h : Ab w b nm v) : b < w.heap.size := (Array.getElem?_eq_some_iff.1 h).1
theorem Ab.frozen (h : Ab w b nm v) (i : Nat) : w.frozen? ⟨b, i, none⟩ = false := frozen_of_row w b i _ _ h
theorem Ab.c0 (h : Ab w b nm v) : w.cell? ⟨b, 0, none⟩ = some (.string nm) := by unfold Ab at h; simp [World.cell?, h]
theorem Ab.c1 (h : Ab w b nm v) : w.cell? ⟨b, 1, none⟩ = some (.string v) := by unfold Ab at h; simp [World.cell?, h]
theorem Ab.on {row : Nat} (h : Ab w b nm v) (hg : w.grownBy w' (some row)) (hne : b ≠ row) : Ab w' b nm v := (hg.block b h.lt (by simpa using hne)).trans h
theorem Ab.below (h : Ab w b nm v) (hb : Below w.heap.size w w') : Ab w' b nm v := (hb.block b h.lt).trans h
theorem ab_new (w : World) (nm v : ByteArray) : Ab (w.alloc (.cells #[.string nm, .string v] 55)) w.heap.size nm v := heap_alloc_new w _
theorem ab_set (h : Ab w b nm v) : Ab ((w.setCell ⟨b, 0, none⟩ (.string nm')).setCell ⟨b, 1, none⟩ (.string v')) b nm' v' := blk_setCell (blk_setCell h (i := 0) _) (i := 1) _
theorem load_ab (h : Ab w b nm v) : (loadVar 55 ⟨b, 0, none⟩).run Tryz.prog w = .ok (.agg #[.string nm, .string v]) w :=
 run_loadVar_row w b _ _ _ _ _ h Tryz.underlying55 rfl (by kernel_rfl)
theorem res_ab {fn : Func} {p : Tmp} (hf : fn.results = #[.cell p 55]) {tmps : Array Value} (h : Ab w b nm v) (hp : tmps.getD p undef = .pointer (some ⟨b, 0, none⟩)) :
  (results fn tmps).run Tryz.prog w = .ok (.agg #[.string nm, .string v]) w := by
 rw [results_cell_one hf, hp];simp [asAddr, Result.andThen, load_ab h]
theorem Tb.lt (h : Tb w b kd at_ nm tx va) : b < w.heap.size := (Array.getElem?_eq_some_iff.1 h).1
theorem Tb.frozen (h : Tb w b kd at_ nm tx va) (i : Nat) : w.frozen? ⟨b, i, none⟩ = false := frozen_of_row w b i _ _ h
theorem Tb.cell (h : Tb w b kd at_ nm tx va) (i : Nat) : w.cell? ⟨b, i, none⟩ = (#[.int .i64 kd, .int .i64 at_, .string nm, .string tx, va] : Array Value)[i]? := by unfold Tb at h; simp [World.cell?, h]
theorem Tb.on {row : Nat} (h : Tb w b kd at_ nm tx va) (hg : w.grownBy w' (some row)) (hne : b ≠ row) : Tb w' b kd at_ nm tx va := (hg.block b h.lt (by simpa using hne)).trans h
theorem Tb.below (h : Tb w b kd at_ nm tx va) (hb : Below w.heap.size w w') : Tb w' b kd at_ nm tx va := (hb.block b h.lt).trans h
theorem tb_new (w : World) (kd at_ : Int) (nm tx : ByteArray) (va : Value) : Tb (w.alloc (.cells #[.int .i64 kd, .int .i64 at_, .string nm, .string tx, va] 87)) w.heap.size kd at_ nm tx va := heap_alloc_new w _
theorem tb_set (h : Tb w b kd at_ nm tx va) : Tb (((((w.setCell ⟨b, 0, none⟩ (.int .i64 kd')).setCell ⟨b, 1, none⟩ (.int .i64 at')).setCell ⟨b, 2, none⟩ (.string nm')).setCell ⟨b, 3, none⟩ (.string tx')).setCell ⟨b, 4, none⟩ va') b kd' at' nm' tx' va' :=
 blk_setCell (blk_setCell (blk_setCell (blk_setCell (blk_setCell h (i := 0) _) (i := 1) _) (i := 2) _) (i := 3) _) (i := 4) _
theorem tb_set0 (h : Tb w b kd at_ nm tx va) : Tb (w.setCell ⟨b, 0, none⟩ (.int .i64 kd')) b kd' at_ nm tx va := blk_setCell h (i := 0) _
theorem tb_set2 (h : Tb w b kd at_ nm tx va) : Tb (w.setCell ⟨b, 2, none⟩ (.string nm')) b kd at_ nm' tx va := blk_setCell h (i := 2) _
theorem tb_set3 (h : Tb w b kd at_ nm tx va) : Tb (w.setCell ⟨b, 3, none⟩ (.string tx')) b kd at_ nm tx' va := blk_setCell h (i := 3) _
theorem tb_set4 (h : Tb w b kd at_ nm tx va) : Tb (w.setCell ⟨b, 4, none⟩ va') b kd at_ nm tx va' := blk_setCell h (i := 4) _
theorem load_tb (h : Tb w b kd at_ nm tx va) : (loadVar 87 ⟨b, 0, none⟩).run Tryz.prog w = .ok (.agg #[.int .i64 kd, .int .i64 at_, .string nm, .string tx, va]) w :=
 run_loadVar_row w b _ _ _ _ _ h Tryz.underlying87 rfl (by kernel_rfl)
theorem res_tb {fn : Func} {p : Tmp} (hf : fn.results = #[.cell p 87]) {tmps : Array Value} (h : Tb w b kd at_ nm tx va) (hp : tmps.getD p undef = .pointer (some ⟨b, 0, none⟩)) :
  (results fn tmps).run Tryz.prog w = .ok (.agg #[.int .i64 kd, .int .i64 at_, .string nm, .string tx, va]) w := by
 rw [results_cell_one hf, hp];simp [asAddr, Result.andThen, load_tb h]
end
def AtEl (_ : World) (vs : List Value) (a : At) : Prop := vs = [.string (strOf a.1), .string (strOf a.2)]
theorem AtEl.to {w w' : World} : ∀ vs a, AtEl w vs a -> AtEl w' vs a := fun _ _ h => h
end Go.Proofs.YtokdnhdfmgfkeaaGreatDoor.Xl
end

section
namespace Go.Proofs.YtokdnhdfmgfkeaaGreatDoor.Xt
open Go.RowKit UtfW Xl
theorem cell_same {w w' : World} {b i : Nat} (h : w'.heap[b]? = w.heap[b]?) : w'.cell? ⟨b, i, none⟩ = w.cell? ⟨b, i, none⟩ := by
 simp only [World.cell?, h]
theorem Sq.stay {α : Type} {El : World -> List Value -> α -> Prop} {k : Nat} {w w' : World} {A : Option Addr} {n c : Nat} {l : List α} (h : Sq El k w A n c l) (hX : ∀ a, A = some a -> 0 < n -> w'.heap[a.block]? = w.heap[a.block]?) (hE : ∀ vs x, El w vs x -> El w' vs x) : Sq El k w' A n c l :=
 ⟨h.len, h.le, h.max, h.nil, fun hn => by
  obtain ⟨b, off, e, hlt, hc⟩ := h.cell hn;have hs : w'.heap[b]? = w.heap[b]? := hX ⟨b, off, none⟩ e hn;refine ⟨b, off, e, ?_, fun i x hi => ?_⟩
  ·rw [Array.getElem?_eq_getElem hlt] at hs;exact (Array.getElem?_eq_some_iff.1 hs).1
  ·obtain ⟨vs, h1, h2, h3⟩ := hc i x hi
   exact ⟨vs, h1, hE _ _ h2, fun j v hj => (cell_same hs).trans (h3 j v hj)⟩⟩
inductive NdI (X : Nat -> Prop) (w : World) : List Value -> Nd -> Prop
 | mk (kind : Int) (nm tx : Tx) (as_ : List At) (ks : List Nd) (A : Option Addr) (ca : Nat) (A2 : Option Addr) (c2 : Nat) (f : Nat -> List Value)
  (hA : Sq AtEl 2 w A as_.length ca as_) (hXA : ∀ a, A = some a -> 0 < as_.length -> X a.block)
  (hK : Sq (fun _ vs i => vs = f i) 5 w A2 ks.length c2 (List.range ks.length)) (hXK : ∀ a, A2 = some a -> 0 < ks.length -> X a.block)
  (hk : ∀ i x, ks[i]? = some x -> NdI X w (f i) x) :
  NdI X w [.int .i64 kind, .string (strOf nm), .string (strOf tx), .slice A as_.length ca, .slice A2 ks.length c2] (.mk kind nm tx as_ ks)
abbrev NdE (X : Nat -> Prop) : World -> List Value -> Nd -> Prop := fun w => NdI X w
section
variable {X X' : Nat -> Prop} {w w' : World} {vs : List Value} {n : Nd}
theorem NdI.stay (h : NdI X w vs n) (hX : ∀ k, X k -> X' k /\ w'.heap[k]? = w.heap[k]?) : NdI X' w' vs n := by
 induction h with
 | mk kind nm tx as_ ks A ca A2 c2 f hA hXA hK hXK hk ih =>
  exact .mk kind nm tx as_ ks A ca A2 c2 f (Sq.stay hA (fun a e h => (hX _ (hXA a e h)).2) (fun _ _ h => h)) (fun a e h => (hX _ (hXA a e h)).1) (Sq.stay hK (fun a e h => (hX _ (hXK a e h)).2) (fun _ _ h => h)) (fun a e h => (hX _ (hXK a e h)).1) ih
theorem NdI.len (h : NdI X w vs n) : vs.length = 5 := by cases h; rfl
theorem NdI.one (h : NdI X w vs n) : ∀ u ∈ vs, u.oneCell' = true := by
 cases h;intro u hu;simp at hu;rcases hu with rfl | rfl | rfl | rfl | rfl <;> rfl
theorem NdI.cells {kind : Int} {nm tx : Tx} {as_ : List At} {ks : List Nd} (h : NdI X w vs (.mk kind nm tx as_ ks)) : ∃ A ca A2 c2, vs = [.int .i64 kind, .string (strOf nm), .string (strOf tx), .slice A as_.length ca, .slice A2 ks.length c2] ∧
  Sq AtEl 2 w A as_.length ca as_ /\ Sq (NdE X) 5 w A2 ks.length c2 ks /\ (∀ a, A = some a -> 0 < as_.length -> X a.block) /\ (∀ a, A2 = some a -> 0 < ks.length -> X a.block) := by
 cases h with
 | mk _ _ _ _ _ A ca A2 c2 f hA hXA hK hXK hk =>
  refine ⟨A, ca, A2, c2, rfl, hA, ?_, hXA, hXK⟩;refine ⟨rfl, hK.le, hK.max, hK.nil, fun hn => ?_⟩;obtain ⟨b, off, e, hlt, hc⟩ := hK.cell hn;refine ⟨b, off, e, hlt, fun i x hi => ?_⟩;have hil : i < ks.length := (List.getElem?_eq_some_iff.1 hi).1;obtain ⟨us, h1, rfl, h3⟩ := hc i i (by rw [List.getElem?_range hil]);exact ⟨f i, h1, hk i x hi, h3⟩
theorem NdI.make {kind : Int} {nm tx : Tx} {as_ : List At} {ks : List Nd} {A : Option Addr} {ca : Nat} {A2 : Option Addr} {c2 : Nat} (hA : Sq AtEl 2 w A as_.length ca as_) (hXA : ∀ a, A = some a -> 0 < as_.length -> X a.block)
  (hK : Sq (NdE X) 5 w A2 ks.length c2 ks) (hXK : ∀ a, A2 = some a -> 0 < ks.length -> X a.block) :
  NdI X w [.int .i64 kind, .string (strOf nm), .string (strOf tx), .slice A as_.length ca, .slice A2 ks.length c2] (.mk kind nm tx as_ ks) := by
 by_cases hn : 0 < ks.length
 ·obtain ⟨b, off, e, hlt, hc⟩ := hK.cell hn
  have hf : ∀ i, ∃ us : List Value, i < ks.length -> us.length = 5 /\ (∀ x, ks[i]? = some x -> NdI X w us x) /\ ∀ j v, us[j]? = some v -> w.cell? ⟨b, off + i * 5 + j, none⟩ = some v := fun i => by
   by_cases hi : i < ks.length
   ·have hx : ks[i]? = some ks[i] := List.getElem?_eq_getElem hi;obtain ⟨us, h1, h2, h3⟩ := hc i _ hx;exact ⟨us, fun _ => ⟨h1, fun x hx2 => by rw [hx] at hx2; injection hx2 with hx2; rw [<- hx2]; exact h2, h3⟩⟩
   ·exact ⟨[], fun h => absurd h hi⟩
  obtain ⟨f, hf⟩ := Classical.axiomOfChoice hf;refine .mk kind nm tx as_ ks A ca A2 c2 f hA hXA ⟨by simp, hK.le, hK.max, hK.nil, fun _ => ⟨b, off, e, hlt, fun i x hi => ?_⟩⟩ hXK (fun i x hi => ?_)
  ·have hil : i < ks.length := by have := (List.getElem?_eq_some_iff.1 hi).1; simpa using this
   rw [List.getElem?_range hil] at hi;injection hi with hi;subst hi;obtain ⟨g1, _, g3⟩ := hf i hil;exact ⟨f i, g1, rfl, g3⟩
  ·exact (hf i (List.getElem?_eq_some_iff.1 hi).1).2.1 x hi
 ·have hks : ks = [] := List.eq_nil_of_length_eq_zero (by omega);subst hks;exact .mk kind nm tx as_ [] A ca A2 c2 (fun _ => []) hA hXA ⟨rfl, hK.le, hK.max, hK.nil, fun h => absurd h hn⟩ hXK (fun i x hi => by simp at hi)
theorem NdI.later (h : NdI X w vs n) (hX : ∀ k, X k -> k < w.heap.size) (hb : Below w.heap.size w w') : NdI X w' vs n := h.stay fun k hk => ⟨hk, hb.block k (hX k hk)⟩
end
end Go.Proofs.YtokdnhdfmgfkeaaGreatDoor.Xt
end

section
namespace Go.Proofs
open Go.Shelf Go.RowKit
shelf_lay Lays.n196 Nm 196 at Tryz as Tryz.lays196
end Go.Proofs
namespace Go.Proofs.YtokdnhdfmgfkeaaGreatDoor.UtfW
open Go.RowKit
theorem validString_any (s : ByteArray) (w : World) (hs : s.size <= 281474976710656) (hU : Ut w) :
  Calls Tryz.prog 71 #[.string s] w fun e w' => e = .returned (.bool (validW s.data.toList 0)) /\ Below w.heap.size w w' := by
 have h := Any.utf8_ValidString Tryz.lays196 s w (by omega) hU.tabs;rw [validD_eq] at h;exact h
theorem nameW_end {l : List UInt8} {k : Nat} (h : l.length <= k) : nameW l k = true := by
 rw [nameW, dif_neg (by omega)]
theorem nameW_stop {l : List UInt8} {k : Nat} (h : k < l.length) (h2 : (k = 0 /\ Begins (dec l k).1 = false) \/ GoesOn (dec l k).1 = false) : nameW l k = false := by
 rw [nameW, dif_pos h, if_pos h2]
theorem nameW_on {l : List UInt8} {k : Nat} (h : k < l.length) (h2 : ¬ ((k = 0 /\ Begins (dec l k).1 = false) \/ GoesOn (dec l k).1 = false)) : nameW l k = nameW l (k + (dec l k).2) := by
 rw [nameW, dif_pos h, if_neg h2]
theorem str_ne (s : ByteArray) : (!s.toList.isEmpty) = decide (s.data.toList ≠ []) := by
 rw [Lib.toList_data]
 cases s.data.toList with
 | nil => rfl
 | cons a l => rfl
set_option maxHeartbeats 2000000 in
set_option maxRecDepth 100000 in
theorem utfName_any (s : ByteArray) (hs : s.size <= 281474976710656) (w : World) (hU : Ut w) :
  Calls Tryz.prog 42 #[.string s] w fun e w' => e = .returned (.bool (nameC s.data.toList)) /\ Below w.heap.size w w' := by
 obtain ⟨R, hR⟩ : ∃ R, nameC s.data.toList = R := ⟨_, rfl⟩;rw [hR];have hR' := Hd hR;clear hR;obtain ⟨E, hE⟩ : ∃ E, (!s.toList.isEmpty) = E := ⟨_, rfl⟩;have HE : Hid (decide (s.data.toList ≠ []) = E) := by rw [<- hE]; exact Hd (str_ne s).symm
 have HSZ : Hid (s.size = s.data.toList.length) := Hd (by rw [Array.length_toList]; rfl)
 go_enter Tryz.func42, Tryz.ntmps42
 go_wp2_with fail;refine (validString_any s w hs hU).mono ?_;rintro e w1 ⟨rfl, hb1⟩
 cases hv : validW s.data.toList 0
 ·have hr : R = false := by rw [<- hR'.out, nameC, hv, Bool.false_and]
  subst hr;have hb1' := Hd hb1;clear hb1;go_wp2_with fail;go_ret;exact ⟨rfl, hb1'.out⟩
 ·have hr : nameC s.data.toList = (nameW s.data.toList 0 && E) := by rw [nameC, hv, Bool.true_and, HE.out]
  rw [hR'.out] at hr;have hr' := Hd hr;have hv' := Hd hv;clear hr hv;have hB := hb1.size;have hb1' := Hd hb1;clear hb1;go_wp2_with fail
  go_loopw [] (fun wr => ∃ pos : Nat, wr.heap[w1.heap.size]? = some (.stringIter s pos) /\ Hid (nameW s.data.toList pos = nameW s.data.toList 0) /\ Hid (Below w.heap.size w wr)) (fun wr => s.size - wr.iterPos w1.heap.size)
  case atStart => exact ⟨0, World.iter_heap _ _ _, Hd rfl, Hd (hb1'.out.trans ((Below.refl _ w1).alloc (Nat.le_refl _) _ |>.mono hB))⟩
  case round =>
   obtain ⟨pos, hit, hn, hbw⟩ := hrel;have hlen := HSZ.out;have hsz : w1.heap.size < wr.heap.size := (Array.getElem?_eq_some_iff.1 hit).1
   by_cases hp : pos < s.size
   ·have hl : pos < s.data.toList.length := by rw [<- hlen]; exact hp
    have hnx : ∀ ty, (Instr.next (.pointer (some ⟨w1.heap.size, 0, none⟩)) true ty).run Tryz.prog wr = _ := fun ty => Lib.run_next_any_at wr w1.heap.size s pos ty hit hp
    rw [decode_str] at hnx;obtain ⟨D, hD⟩ : ∃ D, dec s.data.toList pos = D := ⟨_, rfl⟩;have hdp := dec_pos s.data.toList pos;rw [hD] at hnx hdp;obtain ⟨r, m⟩ := D;simp only at hnx hdp;have hit2 := Lib.iterAt_heap wr w1.heap.size s pos (pos + m) hit;have hbw2 := Hd (Lib.below_iterAt hbw.out (k := w1.heap.size) hB s (pos + m));have hsz2 : w1.heap.size < (wr.iterAt w1.heap.size s (pos + m)).heap.size := by rw [Lib.iterAt_size]; exact hsz
    have hsz3 : w.heap.size <= (wr.iterAt w1.heap.size s (pos + m)).heap.size := (by omega);obtain ⟨wi, hwi⟩ : ∃ wi, wr.iterAt w1.heap.size s (pos + m) = wi := ⟨_, rfl⟩;rw [hwi] at hnx hit2 hbw2 hsz2 hsz3;have hD' := Hd hD;have hl' := Hd hl;clear hD hwi hl
    by_cases h0 : pos = 0
    ·subst h0
     cases hb : Begins (r : Nat)
     ·have hr : R = false := by
       rw [hr'.out, nameW_stop hl'.out (Or.inl ⟨rfl, by rw [hD'.out]; exact hb⟩), Bool.false_and]
      subst hr;go_wp2_with fail;refine (utfBegins_any r wi).mono ?_;rintro e w2 ⟨rfl, hb2⟩;rw [hb];have hx := Hd (hbw2.out.trans (hb2.mono hsz3));clear hb2;go_wp2_with fail;go_ret;exact ⟨rfl, hx.out⟩
     ·go_wp2_with fail;refine (utfBegins_any r wi).mono ?_;rintro e w2 ⟨rfl, hb2⟩;rw [hb];have hit3 := (hb2.block _ hsz2).trans hit2;have hx := Hd (hbw2.out.trans (hb2.mono hsz3));have hsz4 := hb2.size;clear hb2;go_wp2_with fail;refine (utfGoesOn_any r w2).mono ?_;rintro e w3 ⟨rfl, hb3⟩;have hit4 := (hb3.block _ (by omega)).trans hit3;have hx3 := Hd (hx.out.trans (hb3.mono (by omega)));clear hb3
      cases hg : GoesOn (r : Nat)
      ·have hr : R = false := by
        rw [hr'.out, nameW_stop hl'.out (Or.inr (by rw [hD'.out]; exact hg)), Bool.false_and]
       subst hr;go_wp2_with fail;go_ret;exact ⟨rfl, hx3.out⟩
      ·go_wp2_with fail;go_roundw
       case rel =>
        refine ⟨0 + m, hit4, Hd ?_, hx3⟩;have := nameW_on hl'.out (by rw [hD'.out]; rintro (⟨_, h⟩ | h); rw [hb] at h; cases h; rw [hg] at h; cases h);rw [hD'.out] at this;exact this.symm
       case measure =>
        simp only [World.iterPos, hit4, hit];omega
    ·go_wp2_with fail;refine (utfGoesOn_any r wi).mono ?_;rintro e w3 ⟨rfl, hb3⟩;have hit4 := (hb3.block _ (by omega)).trans hit2;have hx3 := Hd (hbw2.out.trans (hb3.mono (by omega)));clear hb3
     cases hg : GoesOn (r : Nat)
     ·have hr : R = false := by
       rw [hr'.out, <- hn.out, nameW_stop hl'.out (Or.inr (by rw [hD'.out]; exact hg)), Bool.false_and]
      subst hr;go_wp2_with fail;go_ret;exact ⟨rfl, hx3.out⟩
     ·go_wp2_with fail;go_roundw
      case rel =>
       refine ⟨pos + m, hit4, Hd ?_, hx3⟩;have := nameW_on hl'.out (by rw [hD'.out]; rintro (⟨h, _⟩ | h); exact h0 h; rw [hg] at h; cases h);rw [hD'.out] at this;rw [<- this];exact hn.out
      case measure =>
       simp only [World.iterPos, hit4, hit];omega
   ·have hnx : ∀ ty, (Instr.next (.pointer (some ⟨w1.heap.size, 0, none⟩)) true ty).run Tryz.prog wr = _ := fun ty => Lib.run_next_end_at wr w1.heap.size s pos ty hit hp
    have hr : R = E := (by rw [hr'.out, <- hn.out, nameW_end (by rw [<- hlen]; omega), Bool.true_and]);subst hr;go_wp2_with fail;go_ret;exact ⟨rfl, hbw.out⟩
end Go.Proofs.YtokdnhdfmgfkeaaGreatDoor.UtfW
end

section
namespace Go.Proofs
open Go.Shelf Go.RowKit
shelf_lay Lays.n119 Nm 119 at Tryz as Tryz.lays119
shelf_lay Lays.n242 Nm 242 at Tryz as Tryz.lays242
end Go.Proofs
namespace Go.Proofs.YtokdnhdfmgfkeaaGreatDoor.UtfW
open Go.RowKit
theorem runeCells_encB {r : Int} (h : isRune r = true) : Lib.runeCells r = bv (encB r) := by
 simp only [isRune, decide_eq_true_eq] at h;obtain ⟨v, rfl⟩ : ∃ v : Nat, r = v := ⟨r.toNat, by omega⟩
 have e : encB (v : Int) = (Utf.enc v).map UInt8.ofNat := by
  unfold encB;rw [if_neg (by omega), Int.toNat_natCast]
 have key : ∀ ns : List Nat, Utf.enc v = ns -> (∀ n ∈ ns, n < 256) -> Lib.encodeRuneZ v = ns.map (fun n : Nat => (n : Int)) -> Lib.runeCells v = bv (encB v) := by
  intro ns h1 h2 h3;rw [e, h1, bv_ofNat _ h2, Lib.runeCells, h3, List.map_map];rfl
 rcases (show v < 128 \/ (128 <= v /\ v < 2048) \/ (2048 <= v /\ v < 65536) \/ 65536 <= v from by omega) with h1 | h1 | h1 | h1
 ·exact key [v] ((Utf.enc1 _ _).2 ⟨h1, rfl⟩) (by intro n hn; simp at hn; omega) (by rw [Lib.encodeRuneZ_one (by omega) (by omega)]; rfl)
 ·exact key [192 + v / 64, 128 + v % 64] ((Utf.enc2 _ _ _).2 ⟨h1.1, h1.2, rfl, rfl⟩) (by intro n hn; simp at hn; omega) (by rw [Lib.encodeRuneZ_two (by omega) (by omega)]; rfl)
 ·exact key [224 + v / 4096, 128 + v / 64 % 64, 128 + v % 64] ((Utf.enc3 _ _ _ _).2 ⟨h1.1, h1.2, by omega, rfl, rfl, rfl⟩) (by intro n hn; simp at hn; omega) (by rw [Lib.encodeRuneZ_three (by omega)]; rfl)
 ·exact key [240 + v / 262144, 128 + v / 4096 % 64, 128 + v / 64 % 64, 128 + v % 64] ((Utf.enc4 _ _ _ _ _).2 ⟨h1, by omega, rfl, rfl, rfl, rfl⟩) (by intro n hn; simp at hn; omega) (by
   unfold Lib.encodeRuneZ;rw [if_neg (by omega), if_neg (by omega), if_neg (by omega), if_pos (by omega)]
   rfl)
theorem validRune_any (r : Int) (w : World) :
  Calls Tryz.prog 214 #[.int .i32 r] w fun e w' => e = .returned (.bool (isRune r)) /\ w' = w :=
 Any.utf8_ValidRune Tryz.lays119 r w
theorem appendRune_any (r : Int) (hr0 : -2147483648 <= r) (hr1 : r <= 2147483647) (hr : isRune r = true) (w : World) :
  Calls Tryz.prog 154 #[.slice none 0 0, .int .i32 r] w fun e w' => ∃ A c, e = .returned (.slice A (encB r).length c) /\ OwB w' w.heap.size 5 (.slice A (encB r).length c) (encB r) /\ Below w.heap.size w w' := by
 refine (Any.utf8_AppendRune_plain Tryz.lays242 (by kernel_rfl) w.heap.size (.slice none 0 0) 0 [] r hr0 hr1 w (World.ownsRow_nil w _ _ 1) (by omega) (Nat.le_refl _)).mono ?_;rintro e w' ⟨v', rfl, h1, o, h2⟩;rw [runeCells_encB hr, bv_length, List.nil_append, Nat.zero_add] at h1;have h1' : w'.ownsRow w.heap.size 5 1 v' (encB r).length (bv (encB r)) := h1;obtain ⟨A, c, rfl⟩ := ownsRow_form h1'
 have hb : Below w.heap.size w w' := by
  have h3 := below_of_grown (World.ownsRow_nil (w.alloc o) w.heap.size 5 1) (by simp) h2;exact (below_alloc w o).trans h3
 refine ⟨A, c, rfl, h1', hb⟩
theorem utfEncode_any (r : Int) (hr0 : -2147483648 <= r) (hr1 : r <= 2147483647) (w : World) :
  Calls Tryz.prog 203 #[.int .i32 r] w fun e w' => ∃ A c, e = .returned (.slice A (encB r).length c) /\ OwB w' w.heap.size 5 (.slice A (encB r).length c) (encB r) /\ Below w.heap.size w w' := by
 cases hr : isRune r
 ·have en := encB_none hr;rw [en]
  go_enter Tryz.func203, Tryz.ntmps203
  go_wp2_with fail;refine (validRune_any r w).mono ?_;rintro e w1 ⟨rfl, rfl⟩;go_wp2_with fail;go_ret;exact ⟨none, 0, rfl, OwB.nil _ _ _, Below.refl _ _⟩
 ·have c1 := appendRune_any r hr0 hr1 hr w;obtain ⟨l, hl⟩ : ∃ l, encB r = l := ⟨_, rfl⟩;rw [hl] at c1 ⊢;clear hl hr0 hr1
  go_enter Tryz.func203, Tryz.ntmps203
  go_wp2_with fail;refine (validRune_any r w).mono ?_;rintro e w1 ⟨rfl, rfl⟩;go_wp2_with fail;refine c1.mono ?_;rintro e w1 ⟨A, c, rfl, h1, h2⟩;have h1' := Hd h1;have h2' := Hd h2;clear h1 h2 c1;go_wp2_with fail;go_ret;exact ⟨A, c, rfl, h1'.out, h2'.out⟩
end Go.Proofs.YtokdnhdfmgfkeaaGreatDoor.UtfW
end
