/- Single steps of the plain lexer, at a place of the whole. No program stands here. -/
import Derived.Test.YtokdnhdfmgfkeaaGreatDoorWStrLaws
import Derived.Test.YtokdnhdfmgfkeaaGreatDoorWUtfEnc
import Derived.Test.YtokdnhdfmgfkeaaGreatDoorWQxVal
import Derived.Maps.AppendAt
import Derived.WalkLawsBesides
import Derived.Laws.Rows
import Derived.Deep.Heap
import Derived.BigQuiet
import Derived.BigRegion
import Derived.Deep.QuietTactic
import Derived.Lib.SmallJoins
import Derived.Shelf.Strings.CaseAny
import Derived.Shelf.Lay
import Derived.Ground.NamesProg
import Derived.Shelf.Strings.Prefix
import Derived.Shelf.Small.Strs
import Derived.Shelf.Small.Wraps
import Derived.Shelf.Strings.Fold
import Derived.Shelf.Bytes.SlSmallAll
import Derived.Shelf.Bytes.SlIndexWhole
import Derived.Shelf.Bytes.IndexByte
import Derived.Shelf.Bytes.SlClone
set_option linter.unusedVariables false
set_option linter.unusedSimpArgs false
section
namespace Go.Proofs.YtokdnhdfmgfkeaaGreatDoor.Xl
open Go.RowKit UtfW
def wr (c k : Int) : PanicEntry := { v := .iface 176 (.agg #[.int .i64 c, .int .i64 k]), recovered := false }
def foldT : List (Nat × Nat) := [(120, 88), (109, 77), (108, 76), (88, 120), (77, 109), (76, 108)]
structure Un (w : World) : Prop where
 ut : Ut w
 fold : ∀ x ∈ foldT, w.cell? ⟨5, x.1, none⟩ = some (.int .u16 (x.2 : Nat))
 case_ : Lib.CaseVar 4 Lib.caseA w
theorem Un.below {w w' : World} (h : Un w) (hb : Below w.heap.size w w') : Un w' :=
 ⟨h.ut.below hb, fun x hx => (hb.cell (World.block_lt_of_cell? w _ (h.fold x hx))).trans (h.fold x hx), Lib.CaseVar_below h.case_ hb⟩
def Us (b : Nat) (w : World) : Prop := ∃ w0, Un w0 /\ w0.heap.size <= b /\ Below w0.heap.size w0 w
theorem Us.un {b : Nat} {w : World} (h : Us b w) : Un w := by
 obtain ⟨w0, h1, _, h3⟩ := h;exact h1.below h3
theorem Us.ut {b : Nat} {w : World} (h : Us b w) : Ut w := h.un.ut
theorem Us.on {b : Nat} {w w' : World} (h : Us b w) (hb : Below b w w') : Us b w' := by
 obtain ⟨w0, h1, h2, h3⟩ := h;exact ⟨w0, h1, h2, h3.trans (hb.mono h2)⟩
structure Xc (w : World) (b : Nat) (S : Tx) (k : Nat) (A : Option Addr) (c : Nat) (vo : Value) : Prop where
 us : Us b w
 blk : w.heap[b]? = some (.cells #[.slice A S.length c, .int .i64 (k : Nat), vo] 134)
 bs : Bs w A S.length c S
 ne : ∀ a, A = some a -> 0 < S.length -> a.block ≠ b
theorem below_row {w w' : World} {B row : Nat} (hg : w.grownBy w' (some row)) (hB : B <= row) (hs : B <= w.heap.size) : Below B w w' :=
 ⟨hg.os, hg.tape, hg.output, hg.size, fun k hk => hg.block k (by omega) (by simp; omega)⟩
theorem grown_set (w : World) (p : Addr) (x : Value) : w.grownBy (w.setCell p x) (some p.block) := by
 refine ⟨rfl, rfl, rfl, by simp [World.setCell], fun k hk hne => ?_⟩;have : p.block ≠ k := fun e => hne (by rw [e])
 simp [World.setCell, Array.getElem?_modify, this]
theorem grown_in {w w' : World} {r : Option Nat} (h : Below w.heap.size w w') : w.grownBy w' r :=
 ⟨h.os, h.tape, h.output, h.size, fun k hk _ => h.block k hk⟩
theorem blk_setCell {w : World} {b i : Nat} {cs : Array Value} {E : TypeId} (h : w.heap[b]? = some (.cells cs E)) (v : Value) : (w.setCell ⟨b, i, none⟩ v).heap[b]? = some (.cells (cs.setIfInBounds i v) E) := by
 simp [World.setCell, Array.getElem?_modify, h]
section
variable {w w' : World} {b : Nat} {S : Tx} {k : Nat} {A : Option Addr} {c : Nat} {vo : Value}
theorem Xc.lt (h : Xc w b S k A c vo) : b < w.heap.size := (Array.getElem?_eq_some_iff.1 h.blk).1
theorem Xc.frozen (h : Xc w b S k A c vo) (i : Nat) : w.frozen? ⟨b, i, none⟩ = false := frozen_of_row w b i _ _ h.blk
theorem Xc.c0 (h : Xc w b S k A c vo) : w.cell? ⟨b, 0, none⟩ = some (.slice A S.length c) := by simp [World.cell?, h.blk]
theorem Xc.c1 (h : Xc w b S k A c vo) : w.cell? ⟨b, 1, none⟩ = some (.int .i64 (k : Nat)) := by simp [World.cell?, h.blk]
theorem Xc.c2 (h : Xc w b S k A c vo) : w.cell? ⟨b, 2, none⟩ = some vo := by simp [World.cell?, h.blk]
theorem Xc.on (h : Xc w b S k A c vo) (hg : w.grownBy w' (some b)) {k' : Nat} {vo' : Value} (hb : w'.heap[b]? = some (.cells #[.slice A S.length c, .int .i64 (k' : Nat), vo'] 134)) : Xc w' b S k' A c vo' :=
 ⟨h.us.on (below_row hg (Nat.le_refl _) (Nat.le_of_lt h.lt)), hb, Rd.grown h.bs hg fun a e hn e2 => h.ne a e hn (by injection e2), h.ne⟩
theorem Xc.below (h : Xc w b S k A c vo) (hb : Below w.heap.size w w') : Xc w' b S k A c vo :=
 h.on (grown_in hb) ((hb.block b h.lt).trans h.blk)
theorem Xc.set1 (h : Xc w b S k A c vo) (k' : Nat) : Xc (w.setCell ⟨b, 1, none⟩ (.int .i64 (k' : Nat))) b S k' A c vo /\ w.grownBy (w.setCell ⟨b, 1, none⟩ (.int .i64 (k' : Nat))) (some b) := by
 have hg := grown_set w ⟨b, 1, none⟩ (.int .i64 (k' : Nat));exact ⟨h.on hg (blk_setCell h.blk _), hg⟩
theorem Xc.at_ (h : Xc w b S k A c vo) {j : Nat} (hj : j < S.length) : ∃ ba off, A = some ⟨ba, off, none⟩ /\ S[j]? = some S[j] /\ w.cell? ⟨ba, off + j, none⟩ = some (.int .u8 (S[j].toNat : Int)) := by
 obtain ⟨ba, off, e, hlt, hc⟩ := Rd.cell h.bs (by omega);have hx : S[j]? = some S[j] := List.getElem?_eq_getElem hj;exact ⟨ba, off, e, hx, hc j _ (by simp [bv, hx])⟩
end
def Gives {α : Type} (w : World) (b : Nat) (S : Tx) (k : Nat) (A : Option Addr) (c : Nat) (vo : Value) (V : α -> Value) (x : Out α) (e : Ending) (w' : World) : Prop :=
 w.grownBy w' (some b) /\ match x with
 | .bad cd o => e = .panicked [wr cd ((k + o : Nat) : Int)]
 | .ok v n => e = .returned (V v) /\ Xc w' b S (k + n) A c vo
set_option maxRecDepth 100000 in
theorem fail_any (w : World) (c k : Int) : Calls Tryz.prog 160 #[.int .i64 c, .int .i64 k] w fun e w' => e = .panicked [wr c k] /\ w' = w := by
 go_enter Tryz.func160, Tryz.ntmps160
 go_wp2_with fail;exact ⟨rfl, rfl, rfl⟩
section
variable (w : World) (b : Nat) (S : Tx) (k : Nat) (A : Option Addr) (c : Nat) (vo : Value)
set_option maxRecDepth 100000 in
theorem need_ok (h : Xc w b S k A c vo) (hk : k < S.length) : Calls Tryz.prog 186 #[.pointer (some ⟨b, 0, none⟩)] w fun e w' => e = .returned (.tuple #[]) /\ Below w.heap.size w w' := by
 have c0 := h.c0;have c1 := h.c1;have i0 : decide ((S.length : Int) <= (k : Int)) = false := by simp; omega
 go_enter Tryz.func186, Tryz.ntmps186
 go_wp2_with fail
 go_quiet (fail)
 go_wp2_with fail
 go_end0
 exact ⟨rfl, Joins.below_draws _ _ _⟩
set_option maxRecDepth 100000 in
theorem need_bad (h : Xc w b S k A c vo) (hk : S.length <= k) : Calls Tryz.prog 186 #[.pointer (some ⟨b, 0, none⟩)] w fun e w' => e = .panicked [wr 6 S.length] /\ Below w.heap.size w w' := by
 have c0 := h.c0;have c1 := h.c1;have i0 : decide ((S.length : Int) <= (k : Int)) = true := by simp; omega
 go_enter Tryz.func186, Tryz.ntmps186
 go_wp2_with fail
 go_quiet (fail)
 go_wp2_with fail;refine (fail_any _ 6 S.length).mono ?_;rintro e w1 ⟨rfl, rfl⟩;go_wp2_with fail;exact ⟨rfl, rfl, Joins.below_draws _ _ _⟩
end
end Go.Proofs.YtokdnhdfmgfkeaaGreatDoor.Xl
end

section
namespace Go.Proofs
open Go.Shelf Go.RowKit
shelf_lay Lays.n99 Nm 99 at Tryz as Tryz.lays99
shelf_lay Lays.n103 Nm 103 at Tryz as Tryz.lays103
shelf_lay Lays.n137 Nm 137 at Tryz as Tryz.lays137
shelf_lay Lays.nb116 Nm 116 at Tryz as Tryz.laysB116
shelf_lay Lays.n185 Nm 185 at Tryz as Tryz.lays185
shelf_lay Lays.n187 Nm 187 at Tryz as Tryz.lays187
shelf_lay SlLaysK.n4 Slk 4 at Tryz as Tryz.laysClone
end Go.Proofs
namespace Go.Proofs.YtokdnhdfmgfkeaaGreatDoor.Xl
open Go.RowKit Go.Shelf UtfW
def nums (l : Tx) : List Int := l.map fun x => (x.toNat : Int)
theorem nums_len (l : Tx) : (nums l).length = l.length := by simp [nums]
theorem nums_bytes (l : Tx) : Lib.bytesOf (nums l) = l := by
 unfold nums Lib.bytesOf;rw [List.map_map]
 conv => rhs; rw [<- List.map_id l]
 apply List.map_congr_left;intro x _;simp
theorem nums_get {l : Tx} {i : Nat} (h : i < l.length) : (nums l).getD i 0 = (l[i].toNat : Int) := by
 simp [nums, List.getD, List.getElem?_eq_getElem h]
theorem nums_range (l : Tx) : ∀ x ∈ nums l, 0 <= x /\ x < 256 := by
 intro x hx;obtain ⟨y, _, rfl⟩ := List.mem_map.1 hx;have := y.toNat_lt;omega
section
variable {w : World} {A : Option Addr} {n c : Nat} {l : Tx}
theorem bin_of (h : Bs w A n c l) : Lib.BytesIn w A n (nums l) := fun hn => by
 obtain ⟨b, off, e, _, hc⟩ := Rd.cell h hn;have hl := h.len;refine ⟨b, off, e, fun i hi => ?_⟩;rw [nums_get (by omega)];exact hc i _ (by simp [bv, List.getElem?_eq_getElem (show i < l.length by omega)])
theorem bat_of {a : Addr} (h : Bs w (some a) n c l) : ∀ i, i < n -> w.cell? (a.add i) = some (.int .u8 ((nums l).getD i 0)) := fun i hi => by
 obtain ⟨b, off, e, hc⟩ := bin_of h (by omega);injection e with e;subst e;rw [Go.WideShapes.add_plain];exact hc i hi
end
theorem hasB_any {A1 A2 : Option Addr} {n1 c1 n2 c2 : Nat} {l1 l2 : Tx} (w : World) (h1 : Bs w A1 n1 c1 l1) (h2 : Bs w A2 n2 c2 l2) :
  Calls Tryz.prog 174 #[.slice A1 n1 c1, .slice A2 n2 c2] w fun e w' => e = .returned (.bool (Lib.hasPrefix l1 l2)) /\ w' = w := by
 have := Any.bytes_HasPrefix_all Tryz.laysB116 A1 A2 n1 c1 n2 c2 (nums l1) (nums l2) w ((nums_len _).trans h1.len) ((nums_len _).trans h2.len) (Rd.le h1) (bin_of h1) (bin_of h2);rw [nums_bytes, nums_bytes] at this;exact this
def idxV : Option Nat -> Int
 | none => -1
 | some n => (n : Nat)
theorem index_find (t : Tx) : ∀ l : Tx, Lib.index l t = idxV (find t l)
 | [] => by
  unfold Lib.index find
  cases t <;> rfl
 | b :: l => by
  rw [Lib.index, find]
  split
  ·rfl
  ·rw [index_find t l]
   cases find t l with
   | none => rfl
   | some n =>
    have h : ((idxV (some n)) == -1) = false := (by simp [idxV]);simp only [h, Bool.false_eq_true, if_false];simp [idxV]
theorem indexB_any {A1 A2 : Option Addr} {n1 c1 n2 c2 : Nat} {l1 l2 : Tx} (w : World) (hut : Ut w) (h1 : Bs w A1 n1 c1 l1) (h2 : Bs w A2 n2 c2 l2) (hn : n1 < 4294967281) (hp : 0 < n2) (hk : n2 <= 9223372036854775807) :
  Calls Tryz.prog 177 #[.slice A1 n1 c1, .slice A2 n2 c2] w fun e w' => e = .returned (.int .i64 (idxV (find l2 l1))) /\ ∃ q, w' = w.drewN q := by
 obtain ⟨b2, o2, e2, _, _⟩ := Rd.cell h2 hp;subst e2;rcases A1 with _ | a1
 ·obtain ⟨rfl, rfl⟩ := Rd.nil h1 rfl;have : l1 = [] := List.eq_nil_of_length_eq_zero h1.len;subst this;have h0 := bat_of h2 0 hp;refine (Any.bytes_Index_nil Tryz.lays185 _ n2 c2 w hk fun h => ⟨b2, o2, (nums l2).getD 0 0, rfl, ?_⟩).mono ?_
  ·simpa [Addr.add] using h0
  ·rintro e w' ⟨rfl, rfl⟩;refine ⟨?_, 0, rfl⟩;rw [if_neg (by omega)];unfold find;rw [if_neg (by rintro rfl; have := h2.len; simp at this; omega)];rfl
 ·obtain ⟨m, hm⟩ := hut.max;have := Any.bytes_Index_at Tryz.lays185 a1 ⟨b2, o2, none⟩ n1 c1 n2 c2 (nums l1) (nums l2) m w ((nums_len _).trans h1.len) ((nums_len _).trans h2.len) (nums_range _) (nums_range _) (bat_of h1) (bat_of h2) (Rd.le h1) hn hk hm;rw [nums_bytes, nums_bytes, index_find] at this;exact this
theorem byte_find (x : UInt8) : ∀ l : Tx, Lib.indexByte l x = idxV (find [x] l)
 | [] => rfl
 | b :: l => by
  rw [Lib.indexByte, find]
  have e : ([x].isPrefixOf (b :: l)) = (b == x) := by
   simp [List.isPrefixOf];exact Bool.beq_comm
  rw [e]
  split
  ·rfl
  ·rw [byte_find x l]
   cases find [x] l with
   | none => rfl
   | some n =>
    have h : ((idxV (some n)) == -1) = false := (by simp [idxV]);simp only [h, Bool.false_eq_true, if_false];simp [idxV]
theorem byteB_any {A1 : Option Addr} {n1 c1 : Nat} {l1 : Tx} (x : UInt8) (w : World) (h1 : Bs w A1 n1 c1 l1) :
  Calls Tryz.prog 197 #[.slice A1 n1 c1, .int .u8 x.toNat] w fun e w' => e = .returned (.int .i64 (idxV (find [x] l1))) /\ w' = w := by
 have hx : ((x.toNat : Int)).toNat.toUInt8 = x := by simp
 rcases Nat.eq_zero_or_pos n1 with h0 | hp
 ·have hl : l1 = [] := List.eq_nil_of_length_eq_zero (h1.len.trans h0);subst hl; subst h0
  rcases A1 with _ | a
  ·obtain ⟨_, rfl⟩ := Rd.nil h1 rfl;exact Any.bytes_IndexByte_nil Tryz.lays187 _ w
  ·have := Any.bytes_IndexByte_at Tryz.lays187 a 0 c1 [] x.toNat w rfl (fun i hi => absurd hi (by omega));exact this
 ·obtain ⟨b, off, rfl, hc⟩ := bin_of h1 hp;have := Any.bytes_IndexByte Tryz.lays187 b off n1 c1 (nums l1) x.toNat w ((nums_len _).trans h1.len) hc;rw [nums_bytes, hx, byte_find] at this;exact this
theorem hasS_any (s p : Tx) (w : World) :
  Calls Tryz.prog 182 #[.string (strOf s), .string (strOf p)] w fun e w' => e = .returned (.bool (Lib.hasPrefix s p)) /\ w' = w := by
 refine Calls.mono (Any.strings_HasPrefix Tryz.lays99 (strOf s) (strOf p) w) ?_;rintro e w' ⟨rfl, rfl⟩;exact ⟨rfl, rfl⟩
theorem byteS_any (s : Tx) (x : UInt8) (w : World) :
  Calls Tryz.prog 75 #[.string (strOf s), .int .u8 x.toNat] w fun e w' => e = .returned (.int .i64 (idxV (find [x] s))) /\ w' = w := by
 refine Calls.mono (Any.strings_IndexByte Tryz.lays137 (strOf s) x.toNat w) ?_;rintro e w' ⟨rfl, rfl⟩;have : (x.toNat : Int).toNat.toUInt8 = x := by simp
 rw [this, <- byte_find];exact ⟨rfl, rfl⟩
theorem clone_any (A : Option Addr) (n c : Nat) (l : Tx) (w : World) (h : Bs w A n c l) (hz : n <= 140737488355328) :
  Calls Tryz.prog 94 #[.slice A n c] w fun e w' => ∃ v, e = .returned v /\ OwB w' w.heap.size 5 v l /\ Below w.heap.size w w' := by
 have hl := h.len;rcases A with _ | a
 ·obtain ⟨rfl, rfl⟩ := Rd.nil h rfl;have : l = [] := List.eq_nil_of_length_eq_zero hl;subst this;refine (Any.bytes_Clone_nil Tryz.laysClone 0 0 w).mono ?_;rintro e w1 ⟨rfl, rfl⟩;exact ⟨_, rfl, OwB.nil _ _ _, Below.refl _ _⟩
 ·refine (Any.bytes_Clone_at Tryz.laysClone a n c (nums l) w ((nums_len l).trans hl) hz (bat_of h)).mono ?_;rintro e w1 ⟨v, rfl, h1, _, h2⟩;refine ⟨v, rfl, ?_, h2⟩;have e : (nums l).map (Value.int .u8) = bv l := by simp [bv, nums]
  rw [e] at h1;unfold OwB;rw [hl];exact h1
end Go.Proofs.YtokdnhdfmgfkeaaGreatDoor.Xl
end

section
namespace Go.Proofs.YtokdnhdfmgfkeaaGreatDoor.Xl
open Go.RowKit UtfW
theorem Out.shift_zero {α : Type} (x : Out α) : x.shift 0 = x := by
 cases x <;> simp [Out.shift]
theorem Out.shift_shift {α : Type} (x : Out α) (a b : Nat) : (x.shift a).shift b = x.shift (b + a) := by
 cases x <;> simp [Out.shift, Nat.add_assoc]
theorem drop_at {S : Tx} {k : Nat} {x : UInt8} (h : S[k]? = some x) : S.drop k = x :: S.drop (k + 1) := by
 have hk : k < S.length := (List.getElem?_eq_some_iff.1 h).1;rw [List.getElem?_eq_getElem hk] at h;injection h with h;rw [List.drop_eq_getElem_cons hk, h]
theorem drop_end {S : Tx} {k : Nat} (h : S.length <= k) : S.drop k = [] := List.drop_eq_nil_of_le h
section
variable {p S : Tx} {i k : Nat} {x y : UInt8}
theorem eat_done (h : p.length <= i) (r : Tx) : eat (p.drop i) r = .ok () 0 := by
 rw [drop_end h, eat]
theorem eat_end (hp : p[i]? = some x) (h : S.length <= k) : eat (p.drop i) (S.drop k) = .bad 6 0 := by
 rw [drop_at hp, drop_end h, eat]
theorem eat_on (hp : p[i]? = some x) (hs : S[k]? = some x) : eat (p.drop i) (S.drop k) = (eat (p.drop (i + 1)) (S.drop (k + 1))).shift 1 := by
 rw [drop_at hp, drop_at hs, eat, if_pos rfl]
theorem eat_off (hp : p[i]? = some x) (hs : S[k]? = some y) (hne : y ≠ x) : eat (p.drop i) (S.drop k) = .bad 2 0 := by
 rw [drop_at hp, drop_at hs, eat, if_neg hne]
theorem blanks_on (hs : S[k]? = some x) (hb : Qx.blank x = true) : blanks (S.drop k) = 1 + blanks (S.drop (k + 1)) := by
 unfold blanks;rw [drop_at hs, List.takeWhile_cons, hb, if_pos rfl, List.length_cons, Nat.add_comm]
theorem blanks_off (hs : S[k]? = some x) (hb : Qx.blank x = false) : blanks (S.drop k) = 0 := by
 unfold blanks;rw [drop_at hs, List.takeWhile_cons, hb];rfl
theorem blanks_end (h : S.length <= k) : blanks (S.drop k) = 0 := by
 rw [drop_end h];rfl
end
end Go.Proofs.YtokdnhdfmgfkeaaGreatDoor.Xl
end
