/- The bytes of a rune: the document's. -/
import Derived.WalkKit
import Derived.WalkSpells
import Derived.Lib.Hide
import Derived.Deep.AppendLies
import Derived.Deep.Draws
import Derived.Laws.AppendOwnNone
import Derived.Maps.AppendAt
import Derived.ChangeSlices
import Derived.Lib.SlBytesConst
import Derived.Test.YtokdnhdfmgfkeaaGreatDoorWUtfMath
import Derived.Test.YtokdnhdfmgfkeaaGreatDoorProg
set_option linter.unusedVariables false
set_option linter.unusedSimpArgs false
section
namespace Go.Proofs.YtokdnhdfmgfkeaaGreatDoor
open Go.RowKit
structure Rd (w : World) (A : Option Addr) (n c : Nat) (xs : List Value) : Prop where
 len : xs.length = n
 le : n <= c
 max : c <= 9223372036854775807
 nil : A = none -> n = 0 /\ c = 0
 cell : 0 < n -> ∃ b off, A = some ⟨b, off, none⟩ /\ b < w.heap.size /\ ∀ j u, xs[j]? = some u -> w.cell? ⟨b, off + j, none⟩ = some u
theorem Rd.none_ (w : World) : Rd w none 0 0 [] := ⟨rfl, by omega, by omega, fun _ => ⟨rfl, rfl⟩, fun h => absurd h (by omega)⟩
section
variable {w w' : World} {A : Option Addr} {n c : Nat} {xs : List Value}
theorem Rd.keep (h : Rd w A n c xs) (hs : w.heap.size <= w'.heap.size) (hk : ∀ p : Addr, p.block < w.heap.size -> w'.cell? p = w.cell? p) : Rd w' A n c xs :=
 ⟨h.len, h.le, h.max, h.nil, fun hn => by
  obtain ⟨b, off, e, hb, hc⟩ := h.cell hn
  exact ⟨b, off, e, by omega, fun j u hu => (hk _ hb).trans (hc j u hu)⟩⟩
theorem Rd.below (h : Rd w A n c xs) (hb : Below w.heap.size w w') : Rd w' A n c xs := h.keep hb.size fun _ hp => hb.cell hp
theorem Rd.at_ {k : Nat} (h : Rd w A n c xs) (hk : k < n) :
  ∃ b off u, A = some ⟨b, off, none⟩ /\ b < w.heap.size /\ xs[k]? = some u /\ w.cell? ⟨b, off + k, none⟩ = some u := by
 obtain ⟨b, off, e, hb, hc⟩ := h.cell (by omega);have hl : k < xs.length := by have := h.len; omega
 exact ⟨b, off, xs[k], e, hb, List.getElem?_eq_getElem hl, hc k _ (List.getElem?_eq_getElem hl)⟩
end
def bv (l : List UInt8) : List Value := l.map fun x => Value.int .u8 (x.toNat : Int)
@[simp] theorem bv_length (l : List UInt8) : (bv l).length = l.length := by simp [bv]
@[simp] theorem bv_nil : bv [] = [] := rfl
@[simp] theorem bv_append (a b : List UInt8) : bv (a ++ b) = bv a ++ bv b := by simp [bv]
theorem bv_get {l : List UInt8} {k : Nat} {u : Value} (h : (bv l)[k]? = some u) : ∃ x : UInt8, l[k]? = some x /\ u = .int .u8 (x.toNat : Int) := by
 simp only [bv, List.getElem?_map, Option.map_eq_some_iff] at h;obtain ⟨x, hx, rfl⟩ := h;exact ⟨x, hx, rfl⟩
def Bs (w : World) (A : Option Addr) (n c : Nat) (l : List UInt8) : Prop := Rd w A n c (bv l)
section
variable {w w' : World} {A : Option Addr} {n c : Nat} {l : List UInt8}
theorem Bs.len (h : Bs w A n c l) : l.length = n := by simpa using Rd.len h
theorem Bs.below (h : Bs w A n c l) (hb : Below w.heap.size w w') : Bs w' A n c l := Rd.below h hb
theorem Bs.at_ {k : Nat} (h : Bs w A n c l) (hk : k < n) :
  ∃ b off, ∃ x : UInt8, A = some ⟨b, off, none⟩ /\ b < w.heap.size /\ l[k]? = some x /\ x.toNat < 256 /\ w.cell? ⟨b, off + k, none⟩ = some (.int .u8 (x.toNat : Int)) := by
 obtain ⟨b, off, u, e, hb, hx, hc⟩ := Rd.at_ h hk;obtain ⟨x, hx2, rfl⟩ := bv_get hx;exact ⟨b, off, x, e, hb, hx2, x.toNat_lt, hc⟩
end
theorem take_snoc {α : Type} {l : List α} {k : Nat} {x : α} (h : l[k]? = some x) : l.take (k + 1) = l.take k ++ [x] := by
 rw [List.take_add_one, h]; rfl
theorem ret_int {k : IntKind} {a b : Int} (h : a = b) : Ending.returned (.int k a) = .returned (.int k b) := by rw [h]
theorem val_int {k : IntKind} {a b : Int} (h : a = b) : Value.int k a = .int k b := by rw [h]
theorem ret_bool {a b : Bool} (h : a = b) : Ending.returned (.bool a) = .returned (.bool b) := by rw [h]
theorem val_bool {a b : Bool} (h : a = b) : Value.bool a = .bool b := by rw [h]
def OwB (w : World) (B E : Nat) (v : Value) (l : List UInt8) : Prop := w.ownsRow B E 1 v l.length (bv l)
theorem rd_of_own {w : World} {B E : Nat} {A : Option Addr} {n c : Nat} {xs : List Value} (h : w.ownsRow B E 1 (.slice A n c) n xs) : Rd w A n c xs := by
 obtain ⟨hl, h⟩ := h;rcases h with ⟨hv, rfl⟩ | ⟨g, cap, cur, hv, hB, hh, hnc, hm, hs, ht⟩
 ·injection hv with h1 h2 h3;subst h1; subst h3
  have : xs = [] := List.eq_nil_of_length_eq_zero (by simpa using hl);subst this;exact Rd.none_ w
 ·injection hv with h1 h2 h3;subst h1; subst h3
  have hg : g < w.heap.size := by
   rcases Nat.lt_or_ge g w.heap.size with hlt | hge
   ·exact hlt
   ·rw [Array.getElem?_eq_none hge] at hh; cases hh
  refine ⟨by simpa using hl, hnc, by unfold maxLen at hm; omega, fun h => by simp at h, fun _ => ⟨g, 0, rfl, hg, fun j u hu => ?_⟩⟩;rw [<- ht] at hu;rw [List.getElem?_take] at hu
  split at hu
  ·simp only [World.cell?, hh, Nat.zero_add]
   simpa using hu
  ·cases hu
theorem OwB.bs {w : World} {B E : Nat} {A : Option Addr} {n c : Nat} {l : List UInt8} (h : OwB w B E (.slice A n c) l) : Bs w A n c l := by
 have hn : n = l.length := by
  rcases h.2 with ⟨hv, h0⟩ | ⟨g, cap, cur, hv, _⟩
  ·injection hv with _ h2 _; omega
  ·injection hv
 subst hn;exact rd_of_own h
theorem ownsRow_form {w : World} {B E n : Nat} {v : Value} {xs : List Value} (h : w.ownsRow B E 1 v n xs) : ∃ A c, v = .slice A n c := by
 rcases h.2 with ⟨rfl, rfl⟩ | ⟨g, cap, cur, rfl, _⟩
 ·exact ⟨_, _, rfl⟩
 ·exact ⟨_, _, rfl⟩
theorem below_of_grown {w w' : World} {B E size n : Nat} {v : Value} {xs : List Value} (h : w.ownsRow B E size v n xs) (hB : B <= w.heap.size) (hg : w.grownBy w' v.ownBlock) : Below B w w' :=
 (Below.refl B w).grown hg hB (fun k hk => (h.lt k hk).1)
section
variable {P : Program} {ops : Array Oper} {rest : List Oper} {o : Oper} {a : Act} {Q : Exit -> Act -> World -> Prop}
theorem wpList_append_rd (w : World) (hgd : o.guard = none) (s x : Operand) (t : TypeId)
  (ho : o.op = .call { callee := .builtin .append, args := #[s, x], argTypes := #[t, t] })
  (B : Nat) (e : TypeId) (z : Value) (bytes : Nat) (ht : P.underlying t = some (.slice e))
  (hinfo : (P.info? e).map (fun i => (i.zero, i.size, i.bytes)) = some (some z, 1, bytes)) (hzs : z.cells.size = 1)
  (v : Value) (n : Nat) (xs : List Value) (hs : a.eval s = v) (hown : w.ownsRow B e 1 v n xs)
  (A : Option Addr) (m c : Nat) (news : List Value) (hx : a.eval x = .slice A m c) (hr : Rd w A m c news) (h1 : ∀ u ∈ news, u.oneCell' = true)
  (hbytes : (n + m) * bytes <= 140737488355328) (h63 : n + m <= 140737488355328) (hB : B <= w.heap.size)
  (h : ∀ A' c' w', w'.ownsRow B e 1 (.slice A' (n + m) c') (n + m) (xs ++ news) -> w.grownBy w' v.ownBlock -> Below B w w' -> ((Value.slice A' (n + m) c').ownBlock = v.ownBlock \/ (Value.slice A' (n + m) c').ownBlock = some w.heap.size) -> wpList P ops Q rest (a.put o.dst (.slice A' (n + m) c')) w') :
  wpList P ops Q (o :: rest) a w := by
 obtain ⟨i, hi, hz, hsz, hby⟩ := info_parts hinfo;rcases A with _ | ad
 ·obtain ⟨rfl, rfl⟩ := hr.nil rfl;have hn : news = [] := List.eq_nil_of_length_eq_zero hr.len;subst hn;refine wpList_append_own_none hgd s x t ho B e i 1 ht hi v n xs hs hown hx ?_;obtain ⟨A', c', rfl⟩ := ownsRow_form hown;exact h A' c' w (by simpa using hown) (World.grownBy.refl _ _) (Below.refl _ _) (.inl rfl)
 ·refine wpList_append_own_at w hgd s x t ho B e i z 1 bytes ht hi hz hsz hby hzs (by omega) v n xs hs hown ad m c news hx (by simpa using hr.len) ?_ h1 (by unfold maxLen; omega) hbytes hB ?_
  ·intro j u hu
   have hm : 0 < m := by
    have := hr.len;have := (List.getElem?_eq_some_iff.1 hu).1;omega
   obtain ⟨b, off, he, _, hc⟩ := hr.cell hm;injection he with he;subst he;have := hc j u hu;unfold Addr.add
   split
   ·rename_i h0; subst h0; simpa using this
   ·exact this
  ·intro v' w' hown' hg _ hat;obtain ⟨A', c', rfl⟩ := ownsRow_form hown';exact h A' c' w' hown' hg (below_of_grown hown hB hg) hat
end
theorem bv_oneCell (l : List UInt8) : ∀ u ∈ bv l, u.oneCell' = true := by
 intro u hu;simp only [bv, List.mem_map] at hu;obtain ⟨x, _, rfl⟩ := hu;rfl
theorem bs_lit (w : World) (C : Array Value) (E : TypeId) (fr : Nat × Nat) (l : List UInt8) (n : Nat) (hn : l.length = n) (hn2 : n <= 9223372036854775807) (hC : C.toList = bv l) :
  Bs (w.alloc (.cells C E fr)) (some ⟨w.heap.size, 0, none⟩) n n l := by
 refine ⟨by simpa using hn, Nat.le_refl _, hn2, fun h => by simp at h, fun _ => ⟨_, _, rfl, by simp, fun j u hu => ?_⟩⟩;have hh : (w.alloc (.cells C E fr)).heap[w.heap.size]? = some (.cells C E fr) := heap_alloc_new w _;rw [<- hC, Array.getElem?_toList] at hu;simp only [World.cell?, hh, Nat.zero_add]
 simpa using hu
theorem owb_lit (w : World) (B : Nat) (hB : B <= w.heap.size) (C : Array Value) (E : TypeId) (l : List UInt8) (n : Nat) (hn : l.length = n) (hn2 : n <= 9223372036854775807) (hC : C.toList = bv l) :
  OwB (w.alloc (.cells C E)) B E (.slice (some ⟨w.heap.size, 0, none⟩) n n) l := by
 subst hn
 have hs : C.size = l.length := by
  have := congrArg List.length hC
  simpa using this
 refine ⟨by simp, .inr ⟨_, _, C, rfl, hB, heap_alloc_new w _, Nat.le_refl _, by unfold maxLen; omega, by omega, ?_⟩⟩;rw [hC, List.take_of_length_le (by simp)]
theorem below_alloc (w : World) (o : Obj) : Below w.heap.size w (w.alloc o) := (Below.refl _ _).alloc (Nat.le_refl _) o
def Stop (p : Prop) : Prop := p
theorem stop_here {p : Prop} (h : Stop p) : p := h
theorem Stop.go {p : Prop} (h : p) : Stop p := h
section
variable {P : Program} {ops : Array Oper} {rest : List Oper} {o : Oper} {a : Act} {Q : Exit -> Act -> World -> Prop}
theorem append_bytes (w : World) (t e : TypeId) (ht : P.underlying t = some (.slice e))
  (hinfo : (P.info? e).map (fun i => (i.zero, i.size, i.bytes)) = some (some (.int .u8 0), 1, 1))
  (hgd : o.guard = none) (s x : Operand)
  (ho : o.op = .call { callee := .builtin .append, args := #[s, x], argTypes := #[t, t] })
  (B : Nat) (v : Value) (la : List UInt8) (hs : a.eval s = v) (hown : OwB w B e v la)
  (A : Option Addr) (m c : Nat) (lb : List UInt8) (hx : a.eval x = .slice A m c) (hr : Bs w A m c lb)
  (N : Nat) (hN : la.length + m = N) (hsz : N <= 140737488355328) (hB : B <= w.heap.size)
  (h : ∀ A' c' w', OwB w' B e (.slice A' N c') (la ++ lb) -> w.grownBy w' v.ownBlock -> Below B w w' -> wpList P ops Q rest (a.put o.dst (.slice A' N c')) w') :
  wpList P ops Q (o :: rest) a w := by
 refine wpList_append_rd w hgd s x t ho B e (.int .u8 0) 1 ht hinfo rfl v la.length (bv la) hs hown A m c (bv lb) hx hr (bv_oneCell lb) (by omega) (by omega) hB ?_;intro A' c' w' h1 h2 h3 _;have hl := hr.len;rw [hN] at h1 ⊢;refine h A' c' w' ?_ h2 h3;unfold OwB;rw [bv_append, List.length_append, show la.length + lb.length = N from by omega];exact h1
end
theorem OwB.rd_len {w : World} {B E : Nat} {A : Option Addr} {n c : Nat} {l : List UInt8} (h : OwB w B E (.slice A n c) l) : l.length = n := h.bs.len
theorem OwB.at_ {w : World} {B E : Nat} {A : Option Addr} {n c k : Nat} {l : List UInt8} (h : OwB w B E (.slice A n c) l) (hk : k < n) :
  ∃ g, ∃ x : UInt8, A = some ⟨g, 0, none⟩ /\ B <= g /\ g < w.heap.size /\ l[k]? = some x /\ x.toNat < 256 /\ w.cell? ⟨g, k, none⟩ = some (.int .u8 (x.toNat : Int)) /\ w.frozen? ⟨g, k, none⟩ = false ∧
   ∀ y : UInt8, OwB (w.setCell ⟨g, k, none⟩ (.int .u8 (y.toNat : Int))) B E (.slice A n c) (l.set k y) := by
 have hl := h.rd_len;subst hl;rcases h.2 with ⟨hv, h0⟩ | ⟨g, cap, cur, hv, hB, hh, _⟩
 ·omega
 ·injection hv with h1 _ h3;subst h1; subst h3
  have hg : g < w.heap.size := by
   rcases Nat.lt_or_ge g w.heap.size with hlt | hge
   ·exact hlt
   ·rw [Array.getElem?_eq_none hge] at hh; cases hh
  have hx : l[k]? = some l[k] := List.getElem?_eq_getElem hk;refine ⟨g, l[k], rfl, hB, hg, hx, l[k].toNat_lt, ?_, World.ownsRow.frozenAt h k, fun y => ?_⟩
  ·rw [World.ownsRow.cellAt h k (by omega)];simp [bv, hx]
  ·have := (World.ownsRow.stored h k (.int .u8 (y.toNat : Int))).1;unfold OwB;rw [List.length_set];have e : bv (l.set k y) = (bv l).set k (.int .u8 (y.toNat : Int)) := by simp [bv, List.map_set]
   rw [e];exact this
theorem OwB.lt {w : World} {B E : Nat} {v : Value} {l : List UInt8} (h : OwB w B E v l) : ∀ k, v.ownBlock = some k -> B <= k /\ k < w.heap.size := World.ownsRow.lt h
/-! Slices of slices of bytes. -/
def El (w : World) (blk : Option Nat) (u : Value) (l : List UInt8) : Prop := ∃ A n c, u = .slice A n c /\ Bs w A n c l /\ ∀ a, A = some a -> 0 < n -> some a.block ≠ blk
theorem Rd.grown {w w' : World} {A : Option Addr} {n c : Nat} {xs : List Value} {row : Option Nat} (h : Rd w A n c xs) (hg : w.grownBy w' row) (hne : ∀ a, A = some a -> 0 < n -> some a.block ≠ row) : Rd w' A n c xs :=
 ⟨h.len, h.le, h.max, h.nil, fun hn => by
  obtain ⟨b, off, rfl, hb, hc⟩ := h.cell hn
  exact ⟨b, off, rfl, Nat.lt_of_lt_of_le hb hg.size, fun j u hu => hg.cell (hc j u hu) (by have := hne _ rfl hn; exact this)⟩⟩
def BsL (w : World) (A : Option Addr) (n c : Nat) (ls : List (List UInt8)) : Prop :=
 ∃ xs : List Value, Rd w A n c xs /\ ls.length = n /\ ∀ (j : Nat) (u : Value), xs[j]? = some u -> ∃ l, ls[j]? = some l /\ El w none u l
section
variable {w w' : World} {A : Option Addr} {n c B E : Nat} {v : Value} {ls : List (List UInt8)}
theorem BsL.len (h : BsL w A n c ls) : ls.length = n := let ⟨_, _, h2, _⟩ := h; h2
theorem BsL.le (h : BsL w A n c ls) : n <= c := let ⟨_, h1, _⟩ := h; h1.le
theorem BsL.max (h : BsL w A n c ls) : c <= 9223372036854775807 := let ⟨_, h1, _⟩ := h; h1.max
theorem BsL.at_ {k : Nat} (h : BsL w A n c ls) (hk : k < n) :
  ∃ b off A' n' c' l, A = some ⟨b, off, none⟩ /\ b < w.heap.size /\ ls[k]? = some l /\ w.cell? ⟨b, off + k, none⟩ = some (.slice A' n' c') /\ Bs w A' n' c' l := by
 obtain ⟨xs, h1, h2, h3⟩ := h;obtain ⟨b, off, u, e, hb, hx, hc⟩ := h1.at_ hk;obtain ⟨l, hl, A', n', c', rfl, hbs, _⟩ := h3 k u hx;exact ⟨b, off, A', n', c', l, e, hb, hl, hc, hbs⟩
end
theorem OwB.below {w w' : World} {B E : Nat} {v : Value} {l : List UInt8} (h1 : OwB w B E v l) (hb : Below w.heap.size w w') : OwB w' B E v l :=
 World.ownsRow.kept (row := none) h1 ⟨hb.os, hb.tape, hb.output, hb.size, fun k hk _ => hb.block k hk⟩ (by
  rcases h1.2 with ⟨rfl, _⟩ | ⟨g, cap, cur, rfl, _⟩
  ·exact .inl rfl
  ·right; simp [Value.ownBlock])
theorem OwB.nil (w : World) (B E : Nat) : OwB w B E (.slice none 0 0) [] := World.ownsRow_nil w B E 1
section
variable {P : Program} {ops : Array Oper} {rest : List Oper} {o : Oper} {a : Act} {Q : Exit -> Act -> World -> Prop}
end
theorem ownsRow_base {w : World} {B B' E size n : Nat} {v : Value} {xs : List Value} (h : w.ownsRow B E size v n xs) (hb : B' <= B) : w.ownsRow B' E size v n xs :=
 ⟨h.1, h.2.elim .inl fun ⟨g, cap, cur, hv, hg, r⟩ => .inr ⟨g, cap, cur, hv, Nat.le_trans hb hg, r⟩⟩
theorem Rd.cut {w : World} {A : Option Addr} {n c : Nat} {xs : List Value} (h : Rd w A n c xs) (lo hi : Nat) (h1 : lo <= hi) (h2 : hi <= n) (A' : Option Addr)
  (hA : ∀ b off, A = some ⟨b, off, none⟩ -> lo < c -> A' = some ⟨b, off + lo, none⟩) (hA0 : A = none -> A' = none) (hA1 : A ≠ none -> A' ≠ none) :
  Rd w A' (hi - lo) (c - lo) ((xs.drop lo).take (hi - lo)) := by
 have hl := h.len;have hle := h.le;have hm := h.max;refine ⟨by simp; omega, by omega, by omega, fun h0 => ?_, fun hn => ?_⟩
 ·have hAn : A = none := by
   apply Classical.byContradiction;intro hne;exact hA1 hne h0
  have := h.nil hAn;omega
 ·obtain ⟨b, off, rfl, hb, hc⟩ := h.cell (by omega);refine ⟨b, off + lo, hA b off rfl (by omega), hb, fun j u hu => ?_⟩;rw [List.getElem?_take] at hu
  split at hu
  ·rw [List.getElem?_drop] at hu;have := hc (lo + j) u hu;rw [<- Nat.add_assoc] at this;exact this
  ·cases hu
theorem bv_drop (l : List UInt8) (k : Nat) : bv (l.drop k) = (bv l).drop k := by simp [bv]
theorem bv_take (l : List UInt8) (k : Nat) : bv (l.take k) = (bv l).take k := by simp [bv]
theorem Bs.cut {w : World} {A : Option Addr} {n c : Nat} {l : List UInt8} (h : Bs w A n c l) (lo hi : Nat) (h1 : lo <= hi) (h2 : hi <= n) (A' : Option Addr)
  (hA : ∀ b off, A = some ⟨b, off, none⟩ -> lo < c -> A' = some ⟨b, off + lo, none⟩) (hA0 : A = none -> A' = none) (hA1 : A ≠ none -> A' ≠ none) :
  Bs w A' (hi - lo) (c - lo) ((l.drop lo).take (hi - lo)) := by
 unfold Bs;rw [bv_take, bv_drop];exact Rd.cut h lo hi h1 h2 A' hA hA0 hA1
def strOf (l : List UInt8) : ByteArray := ⟨l.toArray⟩
theorem Bs.conv {P : Program} {w : World} {A : Option Addr} {n c : Nat} {l : List UInt8} (h : Bs w A n c l) {src dst e : TypeId}
  (hs : P.underlying src = some (.slice e)) (he : P.underlying e = some (.int .u8)) (hd : P.underlying dst = some .string) :
  (convert src dst (.slice A n c)).run P w = .ok (.string (strOf l)) w := by
 have hl := h.len;rcases A with _ | a
 ·obtain ⟨rfl, rfl⟩ := Rd.nil h rfl;have : l = [] := List.eq_nil_of_length_eq_zero hl;subst this;exact run_convert_bytes_nil w src e hs he 0 0 dst hd
 ·have e1 : (l.map fun x => (x.toNat : Int)).map (Value.int .u8) = bv l := by simp [bv]
  have hload : (loadCells a n).run P w = .ok ((l.map fun x => (x.toNat : Int)).map (Value.int .u8)).toArray w := by
   rw [e1]
   have := run_loadCells_list (P := P) w a (bv l) (fun j v hj => by
    have hn : 0 < n := by
     have := (List.getElem?_eq_some_iff.1 hj).1;simp at this;omega
    obtain ⟨b, off, ea, _, hc⟩ := Rd.cell h hn;injection ea with ea;subst ea;have := hc j v hj;unfold Addr.add
    split
    ·rename_i h0; subst h0; simpa using this
    ·exact this)
   simpa [hl] using this
  rw [run_convert_bytes_string w src dst e _ n c hs he hd, run_bytesToString w a n c _ hload, foldl_push_bytes];simp [strOf, ByteArray.empty, ByteArray.emptyWithCapacity, List.map_map, Function.comp_def];rfl
/-! Rows of slices whose elements lie below the row. -/
section
variable {w w' : World} {B E : Nat} {v : Value} {ls : List (List UInt8)}
theorem grown_of_below (hb : Below w.heap.size w w') : w.grownBy w' none := ⟨hb.os, hb.tape, hb.output, hb.size, fun k hk _ => hb.block k hk⟩
end
section
variable {P : Program} {ops : Array Oper} {rest : List Oper} {o : Oper} {a : Act} {Q : Exit -> Act -> World -> Prop}
end
end Go.Proofs.YtokdnhdfmgfkeaaGreatDoor
end

section
namespace Go.Proofs.YtokdnhdfmgfkeaaGreatDoor.UtfW
open Go.RowKit
theorem char_any (r : Int) (w : World) :
  Calls Tryz.prog 146 #[.int .i32 r] w fun e w' => e = .returned (.bool (Utf.Char r)) /\ w' = w := by
 go_enter Tryz.func146, Tryz.ntmps146
 go_wp2
 all_goals go_ret
 all_goals refine ⟨ret_bool ?_, rfl⟩
 all_goals (try simp only [Bool.or_eq_true, beq_iff_eq, Bool.or_eq_false_iff, beq_eq_false_iff_ne, ne_eq] at *)
 all_goals unfold Utf.Char
 all_goals rw [Bool.eq_iff_iff]
 all_goals (try simp only [Bool.or_eq_true, decide_eq_true_eq, beq_iff_eq, true_iff, iff_true, Bool.false_eq_true, false_iff])
 all_goals omega
theorem refchar_any (r : Int) (w : World) :
  Calls Tryz.prog 121 #[.int .i32 r] w fun e w' => e = .returned (.bool (Utf.Char r)) /\ w' = w := by
 go_enter Tryz.func121, Tryz.ntmps121
 go_wp2
 all_goals go_ret
 all_goals refine ⟨ret_bool ?_, rfl⟩
 all_goals (try simp only [Bool.or_eq_true, beq_iff_eq, Bool.or_eq_false_iff, beq_eq_false_iff_ne, ne_eq] at *)
 all_goals unfold Utf.Char
 all_goals rw [Bool.eq_iff_iff]
 all_goals (try simp only [Bool.or_eq_true, decide_eq_true_eq, beq_iff_eq, true_iff, iff_true, Bool.false_eq_true, false_iff])
 all_goals omega
def Blank (r : Int) : Bool := decide (r = 9 \/ r = 10 \/ r = 13 \/ r = 32)
theorem blank_any (r : Int) (w : World) :
  Calls Tryz.prog 50 #[.int .i32 r] w fun e w' => e = .returned (.bool (Blank r)) /\ w' = w := by
 go_enter Tryz.func50, Tryz.ntmps50
 go_wp2
 all_goals go_ret
 all_goals refine ⟨ret_bool ?_, rfl⟩
 all_goals (try simp only [Bool.or_eq_true, beq_iff_eq, Bool.or_eq_false_iff, beq_eq_false_iff_ne, ne_eq] at *)
 all_goals unfold Blank
 all_goals rw [Bool.eq_iff_iff]
 all_goals (try simp only [Bool.or_eq_true, decide_eq_true_eq, beq_iff_eq, true_iff, iff_true, Bool.false_eq_true, false_iff])
 all_goals omega
theorem refblank_any (r : Int) (w : World) :
  Calls Tryz.prog 56 #[.int .i32 r] w fun e w' => e = .returned (.bool (Blank r)) /\ w' = w := by
 go_enter Tryz.func56, Tryz.ntmps56
 go_wp2
 all_goals go_ret
 all_goals refine ⟨ret_bool ?_, rfl⟩
 all_goals (try simp only [Bool.or_eq_true, beq_iff_eq, Bool.or_eq_false_iff, beq_eq_false_iff_ne, ne_eq] at *)
 all_goals unfold Blank
 all_goals rw [Bool.eq_iff_iff]
 all_goals (try simp only [Bool.or_eq_true, decide_eq_true_eq, beq_iff_eq, true_iff, iff_true, Bool.false_eq_true, false_iff])
 all_goals omega
theorem in_any (r a b : Int) (w : World) :
  Calls Tryz.prog 122 #[.int .i32 r, .int .i32 a, .int .i32 b] w fun e w' => e = .returned (.bool (decide (a <= r /\ r <= b))) /\ w' = w := by
 go_enter Tryz.func122, Tryz.ntmps122
 go_wp2
 all_goals go_ret
 all_goals refine ⟨ret_bool ?_, rfl⟩
 all_goals (try simp only [Bool.or_eq_true, beq_iff_eq, Bool.or_eq_false_iff, beq_eq_false_iff_ne, ne_eq] at *)
 all_goals rw [Bool.eq_iff_iff]
 all_goals (try simp only [Bool.or_eq_true, decide_eq_true_eq, beq_iff_eq, true_iff, iff_true, Bool.false_eq_true, false_iff])
 all_goals first | omega | (simp; omega) | (simp; done)
end Go.Proofs.YtokdnhdfmgfkeaaGreatDoor.UtfW
end

section
namespace Go.Proofs.YtokdnhdfmgfkeaaGreatDoor.UtfW
open Go.RowKit
def inb (a b r : Int) : Bool := decide (a <= r /\ r <= b)
theorem in_any' (r a b : Int) (w : World) :
  Calls Tryz.prog 122 #[.int .i32 r, .int .i32 a, .int .i32 b] w fun e w' => e = .returned (.bool (inb a b r)) /\ w' = w := in_any r a b w
def Begins (r : Int) : Bool := inb 65 90 r || (r == 95) || inb 97 122 r || inb 192 214 r || inb 216 246 r || inb 248 767 r || inb 880 893 r || inb 895 8191 r || inb 8204 8205 r || inb 8304 8591 r || inb 11264 12271 r || inb 12289 55295 r || inb 63744 64975 r || inb 65008 65533 r || inb 65536 983039 r
set_option maxHeartbeats 1000000 in
theorem refbegins_any (r : Int) (w : World) :
  Calls Tryz.prog 85 #[.int .i32 r] w fun e w' => e = .returned (.bool (Begins r)) /\ w' = w := by
 go_enter Tryz.func85, Tryz.ntmps85
 go_wp2_with (go_at_call 122; refine (in_any' _ _ _ _).mono ?_; rintro e w' ⟨rfl, rfl⟩)
 all_goals go_ret
 all_goals refine ⟨ret_bool ?_, rfl⟩
 all_goals unfold Begins
 all_goals simp_all
def GoesOn (r : Int) : Bool := Begins r || (r == 45) || (r == 46) || inb 48 57 r || (r == 183) || inb 768 879 r || (r == 8255) || (r == 8256)
set_option maxHeartbeats 1000000 in
theorem refgoeson_any (r : Int) (w : World) :
  Calls Tryz.prog 86 #[.int .i32 r] w fun e w' => e = .returned (.bool (GoesOn r)) /\ w' = w := by
 go_enter Tryz.func86, Tryz.ntmps86
 go_wp2_with (first | (go_at_call 122; refine (in_any' _ _ _ _).mono ?_; rintro e w' ⟨rfl, rfl⟩) | (go_at_call 85; refine (refbegins_any _ _).mono ?_; rintro e w' ⟨rfl, rfl⟩))
 all_goals go_ret
 all_goals refine ⟨ret_bool ?_, rfl⟩
 all_goals unfold GoesOn
 all_goals simp_all
end Go.Proofs.YtokdnhdfmgfkeaaGreatDoor.UtfW
end

section
namespace Go.Proofs.YtokdnhdfmgfkeaaGreatDoor.UtfW
open Go.RowKit
def Prs (w : World) (b : Nat) (ps : List (Int × Int)) : Prop :=
 b < w.heap.size /\ ∀ j p, ps[j]? = some p -> w.cell? ⟨b, j * 2, none⟩ = some (.int .i32 p.1) /\ w.cell? ⟨b, j * 2 + 1, none⟩ = some (.int .i32 p.2)
theorem Prs.below {w w' : World} {b : Nat} {ps : List (Int × Int)} (h : Prs w b ps) (hb : Below w.heap.size w w') : Prs w' b ps :=
 ⟨Nat.lt_of_lt_of_le h.1 hb.size, fun j p hj => by
  obtain ⟨h1, h2⟩ := h.2 j p hj
  exact ⟨by rw [hb.cell h.1]; exact h1, by rw [hb.cell h.1]; exact h2⟩⟩
def anyIn (ps : List (Int × Int)) (r : Int) : Bool := ps.any fun p => inb p.1 p.2 r
theorem anyIn_succ {ps : List (Int × Int)} {k : Nat} {p : Int × Int} (h : ps[k]? = some p) (r : Int) : anyIn (ps.take (k + 1)) r = (anyIn (ps.take k) r || inb p.1 p.2 r) := by
 rw [take_snoc h];simp [anyIn]
theorem within_any (r : Int) (b n : Nat) (ps : List (Int × Int)) (hn : ps.length = n) (hn2 : n <= 1000) (w : World) (hP : Prs w b ps) :
  Calls Tryz.prog 107 #[.int .i32 r, .slice (some ⟨b, 0, none⟩) n n] w fun e w' => e = .returned (.bool (anyIn ps r)) /\ Below w.heap.size w w' := by
 go_enter Tryz.func107, Tryz.ntmps107
 go_wp2_with fail
 go_loopw [9] (fun i wr => ∃ k : Nat, k <= n /\ i = .int .i64 (k : Nat) /\ Hid (anyIn (ps.take k) r = false) /\ Hid (Below w.heap.size w wr)) (fun i _ => n - (intOf i).toNat)
 case atStart => exact ⟨0, by omega, rfl, Hd rfl, Hd (Below.refl _ _)⟩
 case round =>
  obtain ⟨k, hk, rfl, ha, hb⟩ := hrel
  by_cases hlt : k < n
  ·obtain ⟨p, hp⟩ : ∃ p, ps[k]? = some p := ⟨ps[k], List.getElem?_eq_getElem (by omega)⟩;obtain ⟨c1, c2⟩ := (hP.below hb.out).2 k p hp;have i0 : decide ((k : Int) < (n : Int)) = true := by simp; omega
   have hp' := Hd hp;clear hp;go_wp2_with fail
   case roundEnd =>
    refine ⟨⟨k + 1, by omega, by go_num, Hd ?_, Hd (hb.out.alloc (hb.out.size) _)⟩, by simp [intOf]; omega⟩;rw [anyIn_succ hp'.out, ha.out];simp [inb];omega
   case roundEnd =>
    refine ⟨⟨k + 1, by omega, by go_num, Hd ?_, Hd (hb.out.alloc (hb.out.size) _)⟩, by simp [intOf]; omega⟩;rw [anyIn_succ hp'.out, ha.out];simp [inb];omega
   go_ret;refine ⟨ret_bool ?_, hb.out.alloc (hb.out.size) _⟩;have hm := List.mem_of_getElem? hp'.out;have : anyIn ps r = true := List.any_eq_true.2 ⟨p, hm, by simp [inb]; omega⟩;rw [this]
  ·have i0 : decide ((k : Int) < (n : Int)) = false := by simp; omega
   obtain rfl : k = n := by omega
   go_wp2_with fail;go_ret;have := ha.out;rw [List.take_of_length_le (by omega)] at this;exact ⟨ret_bool this.symm, hb.out⟩
def beginsL : List (Int × Int) := [(65, 90), (95, 95), (97, 122), (192, 214), (216, 246), (248, 767), (880, 893), (895, 8191), (8204, 8205), (8304, 8591), (11264, 12271), (12289, 55295), (63744, 64975), (65008, 65533), (65536, 983039)]
theorem begins_any (w : World) :
  Calls Tryz.prog 108 #[] w fun e w' => ∃ b, e = .returned (.slice (some ⟨b, 0, none⟩) 15 15) /\ Prs w' b beginsL /\ Below w.heap.size w w' := by
 go_enter Tryz.func108, Tryz.ntmps108
 go_wp2
 go_ret;refine ⟨_, rfl, ⟨by simp, ?_⟩, below_alloc _ _⟩;intro j p hj;have hj15 : j < 15 := (List.getElem?_eq_some_iff.1 hj).1;rw [World.cell?_alloc_at _ _ _ _ rfl, World.cell?_alloc_at _ _ _ _ rfl];clear w;obtain rfl | rfl | rfl | rfl | rfl | rfl | rfl | rfl | rfl | rfl | rfl | rfl | rfl | rfl | rfl : j = 0 \/ j = 1 \/ j = 2 \/ j = 3 \/ j = 4 \/ j = 5 \/ j = 6 \/ j = 7 \/ j = 8 \/ j = 9 \/ j = 10 \/ j = 11 \/ j = 12 \/ j = 13 \/ j = 14 := by omega
 all_goals (injection hj with hj; subst hj; exact ⟨rfl, rfl⟩)
def goesOnL : List (Int × Int) := [(45, 46), (48, 57), (183, 183), (768, 879), (8255, 8256)]
theorem goesOn_any (w : World) :
  Calls Tryz.prog 109 #[] w fun e w' => ∃ b, e = .returned (.slice (some ⟨b, 0, none⟩) 5 5) /\ Prs w' b goesOnL /\ Below w.heap.size w w' := by
 go_enter Tryz.func109, Tryz.ntmps109
 go_wp2
 go_ret;refine ⟨_, rfl, ⟨by simp, ?_⟩, below_alloc _ _⟩;intro j p hj;have hj5 : j < 5 := (List.getElem?_eq_some_iff.1 hj).1;rw [World.cell?_alloc_at _ _ _ _ rfl, World.cell?_alloc_at _ _ _ _ rfl];clear w;obtain rfl | rfl | rfl | rfl | rfl : j = 0 \/ j = 1 \/ j = 2 \/ j = 3 \/ j = 4 := by omega
 all_goals (injection hj with hj; subst hj; exact ⟨rfl, rfl⟩)
theorem anyIn_begins (r : Int) : anyIn beginsL r = Begins r := by
 have e : (r == 95) = inb 95 95 r := by
  rw [Bool.eq_iff_iff];simp [inb];omega
 unfold Begins;rw [e];simp [anyIn, beginsL, Bool.or_assoc]
theorem utfBegins_any (r : Int) (w : World) :
  Calls Tryz.prog 72 #[.int .i32 r] w fun e w' => e = .returned (.bool (Begins r)) /\ Below w.heap.size w w' := by
 go_enter Tryz.func72, Tryz.ntmps72
 go_wp2_with fail;refine (begins_any _).mono ?_;rintro e w1 ⟨b, rfl, hP, hb⟩;have hP' := Hd hP;have hb' := Hd hb;clear hP hb;go_wp2_with fail;refine (within_any r b 15 beginsL rfl (by omega) _ hP'.out).mono ?_;rintro e w2 ⟨rfl, hb2⟩;have hb2' := Hd (hb'.out.trans (hb2.mono hb'.out.size));clear hb2 hb';rw [anyIn_begins];go_wp2_with fail;go_ret;exact ⟨rfl, hb2'⟩
end Go.Proofs.YtokdnhdfmgfkeaaGreatDoor.UtfW
end

section
namespace Go.Proofs.YtokdnhdfmgfkeaaGreatDoor.UtfW
open Go.RowKit
theorem anyIn_goesOn (r : Int) : (Begins r || anyIn goesOnL r) = GoesOn r := by
 have e1 : inb 45 46 r = (r == 45 || r == 46) := by
  rw [Bool.eq_iff_iff];simp [inb];omega
 have e2 : inb 183 183 r = (r == 183) := by
  rw [Bool.eq_iff_iff];simp [inb];omega
 have e3 : inb 8255 8256 r = (r == 8255 || r == 8256) := by
  rw [Bool.eq_iff_iff];simp [inb];omega
 unfold GoesOn;simp [anyIn, goesOnL, e1, e2, e3, Bool.or_assoc]
theorem utfGoesOn_any (r : Int) (w : World) :
  Calls Tryz.prog 73 #[.int .i32 r] w fun e w' => e = .returned (.bool (GoesOn r)) /\ Below w.heap.size w w' := by
 have hg := anyIn_goesOn r
 cases hB : Begins r with
 | true =>
  rw [hB, Bool.true_or] at hg;rw [<- hg]
  go_enter Tryz.func73, Tryz.ntmps73
  go_wp2_with fail;refine (utfBegins_any _ _).mono ?_;rw [hB];rintro e w1 ⟨rfl, hb⟩;have hb' := Hd hb;clear hb hB hg;go_wp2_with fail;go_ret;exact ⟨rfl, hb'⟩
 | false =>
  rw [hB, Bool.false_or] at hg;have hg' := Hd hg;clear hg
  go_enter Tryz.func73, Tryz.ntmps73
  go_wp2_with fail;refine (utfBegins_any _ _).mono ?_;rw [hB];rintro e w1 ⟨rfl, hb⟩;have hb' := Hd hb;clear hb hB;go_wp2_with fail;refine (goesOn_any _).mono ?_;rintro e w2 ⟨b, rfl, hP, hb2⟩;have hP' := Hd hP;have hb2' := Hd (hb'.out.trans (hb2.mono hb'.out.size));clear hP hb2 hb';go_wp2_with fail;refine (within_any r b 5 goesOnL rfl (by omega) _ hP'.out).mono ?_;rintro e w3 ⟨rfl, hb3⟩;have hb3' := Hd (hb2'.out.trans (hb3.mono hb2'.out.size));clear hb3 hb2';rw [hg'.out];go_wp2_with fail;go_ret;exact ⟨rfl, hb3'⟩
end Go.Proofs.YtokdnhdfmgfkeaaGreatDoor.UtfW
end

section
namespace Go.Proofs.YtokdnhdfmgfkeaaGreatDoor.UtfW
open Go.RowKit
def encB (r : Int) : List UInt8 := if r < 0 then [] else (Utf.enc r.toNat).map UInt8.ofNat
theorem bv_ofNat (ns : List Nat) (h : ∀ n ∈ ns, n < 256) : bv (ns.map UInt8.ofNat) = ns.map fun n => Value.int .u8 (n : Nat) := by
 induction ns with
 | nil => rfl
 | cons a l ih =>
  have ha := h a (List.mem_cons_self ..);have e : (UInt8.ofNat a).toNat = a := by rw [UInt8.toNat_ofNat']; omega
  have := ih fun n hn => h n (List.mem_cons_of_mem _ hn)
  rw [List.map_cons, List.map_cons, <- this]
  show Value.int .u8 ((UInt8.ofNat a).toNat : Int) :: bv (l.map UInt8.ofNat) = _
  rw [e]
theorem enc_lit (w : World) (v : Nat) (ns : List Nat) (he : Utf.enc v = ns) (hlt : ∀ n ∈ ns, n < 256) (C : Array Value) (E : TypeId) (hC : C.toList = ns.map fun n => Value.int .u8 (n : Nat)) (k : Nat) (hk : ns.length = k) (h4 : k <= 4) :
  ∃ A c, (Value.slice (some ⟨w.heap.size, 0, none⟩) k k) = .slice A (encB v).length c /\ OwB (w.alloc (.cells C E)) w.heap.size E (.slice A (encB v).length c) (encB v) /\ Below w.heap.size w (w.alloc (.cells C E)) := by
 have e : encB (v : Int) = ns.map UInt8.ofNat := by
  unfold encB;rw [if_neg (by omega), Int.toNat_natCast, he]
 have hl : (encB (v : Int)).length = k := by rw [e, List.length_map, hk]
 rw [hl];exact ⟨_, _, rfl, owb_lit w _ (Nat.le_refl _) C E _ _ hl (by omega) (by rw [hC, e, bv_ofNat _ hlt]), below_alloc _ _⟩
theorem refEncode_2 (v : Nat) (h1 : 128 <= v) (h2 : v < 2048) (w : World) :
  Calls Tryz.prog 120 #[.int .i32 v] w fun e w' => ∃ A c, e = .returned (.slice A (encB v).length c) /\ OwB w' w.heap.size 5 (.slice A (encB v).length c) (encB v) /\ Below w.heap.size w w' := by
 have i1 : decide ((v : Int) < 0) = false := by simp
 have i2 : decide ((1114111 : Int) < (v : Int)) = false := by simp; omega
 have i3 : decide ((55296 : Int) <= (v : Int)) = false := by simp; omega
 have i4 : decide ((v : Int) < 128) = false := by simp; omega
 have i5 : decide ((v : Int) < 2048) = true := by simp; omega
 go_enter Tryz.func120, Tryz.ntmps120
 go_wp2
 go_ret;obtain ⟨A, c, h3, h4, h5⟩ := enc_lit w v [192 + v / 64, 128 + v % 64] ((Utf.enc2 _ _ _).2 ⟨h1, h2, rfl, rfl⟩) (by intro n hn; simp at hn; omega) #[.int .u8 (192 + (v : Int) / 64), .int .u8 (128 + (v : Int) % 64)] 5 (by simp) 2 rfl (by omega);exact ⟨A, c, by rw [<- h3]; rfl, h4, h5⟩
theorem refEncode_1 (v : Nat) (h1 : v < 128) (w : World) :
  Calls Tryz.prog 120 #[.int .i32 v] w fun e w' => ∃ A c, e = .returned (.slice A (encB v).length c) /\ OwB w' w.heap.size 5 (.slice A (encB v).length c) (encB v) /\ Below w.heap.size w w' := by
 have i0 : decide ((v : Int) < 0) = false := by simp
 have i1 : decide ((1114111 : Int) < (v : Int)) = false := by simp ; omega
 have i2 : decide ((55296 : Int) <= (v : Int)) = false := by simp ; omega
 have i3 : decide ((v : Int) < 128) = true := by simp ; omega
 go_enter Tryz.func120, Tryz.ntmps120
 go_wp2
 go_ret;obtain ⟨A, c, h3, h4, h5⟩ := enc_lit w v [v] ((Utf.enc1 _ _).2 ⟨h1, rfl⟩) (by intro n hn; simp at hn; omega) #[.int .u8 (v : Int)] 5 (by simp) 1 rfl (by omega);exact ⟨A, c, by rw [<- h3]; rfl, h4, h5⟩
set_option maxRecDepth 100000 in
theorem refEncode_3 (v : Nat) (h1 : 2048 <= v) (h2 : v < 65536) (hs : ¬ (55296 <= v /\ v <= 57343)) (w : World) :
  Calls Tryz.prog 120 #[.int .i32 v] w fun e w' => ∃ A c, e = .returned (.slice A (encB v).length c) /\ OwB w' w.heap.size 5 (.slice A (encB v).length c) (encB v) /\ Below w.heap.size w w' := by
 have i0 : decide ((v : Int) < 0) = false := by simp
 have i1 : decide ((1114111 : Int) < (v : Int)) = false := by simp ; omega
 have i2 : decide ((v : Int) < 128) = false := by simp ; omega
 have i3 : decide ((v : Int) < 2048) = false := by simp ; omega
 have i4 : decide ((v : Int) < 65536) = true := by simp ; omega
 have t1 : ((v : Int) / 64).tmod 64 = (v : Int) / 64 % 64 := Int.tmod_eq_emod_of_nonneg (by omega);have q1 : (128 + (v : Int) / 64 % 64) % 256 = 128 + (v : Int) / 64 % 64 := by omega
 have q0 : (128 + (v : Int) % 64) % 256 = 128 + (v : Int) % 64 := by omega
 have q2 : (224 + (v : Int) / 4096) % 256 = 224 + (v : Int) / 4096 := by omega
 go_enter Tryz.func120, Tryz.ntmps120
 have hs' := Hd hs;clear hs;rcases (show v < 55296 \/ 57343 < v from by have := hs'.out; omega) with hq | hq
 case inl =>
  have i9 : decide ((55296 : Int) <= (v : Int)) = false := by simp ; omega
  go_wp2
  go_ret;obtain ⟨A, c, h3, h4, h5⟩ := enc_lit w v [224 + v / 4096, 128 + v / 64 % 64, 128 + v % 64] ((Utf.enc3 _ _ _ _).2 ⟨h1, h2, hs'.out, rfl, rfl, rfl⟩) (by intro n hn; simp at hn; omega) #[.int .u8 (224 + (v : Int) / 4096), .int .u8 (128 + (v : Int) / 64 % 64), .int .u8 (128 + (v : Int) % 64)] 5 (by simp) 3 rfl (by omega);exact ⟨A, c, by rw [<- h3]; rfl, h4, h5⟩
 case inr =>
  have i9 : decide ((55296 : Int) <= (v : Int)) = true := by simp ; omega
  have i10 : decide ((v : Int) <= 57343) = false := by simp ; omega
  go_wp2
  go_ret;obtain ⟨A, c, h3, h4, h5⟩ := enc_lit w v [224 + v / 4096, 128 + v / 64 % 64, 128 + v % 64] ((Utf.enc3 _ _ _ _).2 ⟨h1, h2, hs'.out, rfl, rfl, rfl⟩) (by intro n hn; simp at hn; omega) #[.int .u8 (224 + (v : Int) / 4096), .int .u8 (128 + (v : Int) / 64 % 64), .int .u8 (128 + (v : Int) % 64)] 5 (by simp) 3 rfl (by omega);exact ⟨A, c, by rw [<- h3]; rfl, h4, h5⟩
set_option maxRecDepth 100000 in
theorem refEncode_4 (v : Nat) (h1 : 65536 <= v) (h2 : v <= 1114111) (w : World) :
  Calls Tryz.prog 120 #[.int .i32 v] w fun e w' => ∃ A c, e = .returned (.slice A (encB v).length c) /\ OwB w' w.heap.size 5 (.slice A (encB v).length c) (encB v) /\ Below w.heap.size w w' := by
 have i0 : decide ((v : Int) < 0) = false := by simp
 have i1 : decide ((1114111 : Int) < (v : Int)) = false := by simp ; omega
 have i2 : decide ((v : Int) <= 57343) = false := by simp ; omega
 have i3 : decide ((v : Int) < 128) = false := by simp ; omega
 have i4 : decide ((v : Int) < 2048) = false := by simp ; omega
 have i5 : decide ((v : Int) < 65536) = false := by simp ; omega
 have i9 : decide ((55296 : Int) <= (v : Int)) = true := by simp ; omega
 have t1 : ((v : Int) / 64).tmod 64 = (v : Int) / 64 % 64 := Int.tmod_eq_emod_of_nonneg (by omega);have q1 : (128 + (v : Int) / 64 % 64) % 256 = 128 + (v : Int) / 64 % 64 := by omega
 have q0 : (128 + (v : Int) % 64) % 256 = 128 + (v : Int) % 64 := by omega
 have t2 : ((v : Int) / 4096).tmod 64 = (v : Int) / 4096 % 64 := Int.tmod_eq_emod_of_nonneg (by omega);have q2 : (128 + (v : Int) / 4096 % 64) % 256 = 128 + (v : Int) / 4096 % 64 := by omega
 have q3 : (240 + (v : Int) / 262144) % 256 = 240 + (v : Int) / 262144 := by omega
 go_enter Tryz.func120, Tryz.ntmps120
 go_wp2
 go_ret;obtain ⟨A, c, h3, h4, h5⟩ := enc_lit w v [240 + v / 262144, 128 + v / 4096 % 64, 128 + v / 64 % 64, 128 + v % 64] ((Utf.enc4 _ _ _ _ _).2 ⟨h1, h2, rfl, rfl, rfl, rfl⟩) (by intro n hn; simp at hn; omega) #[.int .u8 (240 + (v : Int) / 262144), .int .u8 (128 + (v : Int) / 4096 % 64), .int .u8 (128 + (v : Int) / 64 % 64), .int .u8 (128 + (v : Int) % 64)] 5 (by simp) 4 rfl (by omega);exact ⟨A, c, by rw [<- h3]; rfl, h4, h5⟩
def isRune (r : Int) : Bool := decide ((0 <= r /\ r < 0xD800) \/ (0xDFFF < r /\ r <= 0x10FFFF))
theorem encB_none {r : Int} (h : isRune r = false) : encB r = [] := by
 simp only [isRune, decide_eq_false_iff_not] at h;unfold encB
 split
 ·rfl
 ·unfold Utf.enc;rw [if_pos (by omega)];rfl
theorem refEncode_none (r : Int) (hr0 : -2147483648 <= r) (hr1 : r <= 2147483647) (h : isRune r = false) (w : World) :
  Calls Tryz.prog 120 #[.int .i32 r] w fun e w' => e = .returned (.slice none 0 0) /\ w' = w := by
 simp only [isRune, decide_eq_false_iff_not] at h;have h' := Hd h;clear h
 by_cases h0 : r < 0
 ·have i0 : decide (r < 0) = true := by simp [h0]
  go_enter Tryz.func120, Tryz.ntmps120
  go_wp2
  go_ret;exact ⟨rfl, rfl⟩
 ·have i0 : decide (r < 0) = false := by simp; omega
  by_cases h1 : 1114111 < r
  ·have i1 : decide ((1114111 : Int) < r) = true := by simp [h1]
   go_enter Tryz.func120, Tryz.ntmps120
   go_wp2
   go_ret;exact ⟨rfl, rfl⟩
  ·have i1 : decide ((1114111 : Int) < r) = false := by simp; omega
   have i2 : decide ((55296 : Int) <= r) = true := by have := h'.out; simp; omega
   have i3 : decide (r <= 57343) = true := by have := h'.out; simp; omega
   go_enter Tryz.func120, Tryz.ntmps120
   go_wp2
   go_ret;exact ⟨rfl, rfl⟩
theorem refEncode_any (r : Int) (hr0 : -2147483648 <= r) (hr1 : r <= 2147483647) (w : World) :
  Calls Tryz.prog 120 #[.int .i32 r] w fun e w' => ∃ A c, e = .returned (.slice A (encB r).length c) /\ OwB w' w.heap.size 5 (.slice A (encB r).length c) (encB r) /\ Below w.heap.size w w' := by
 cases hr : isRune r
 ·refine (refEncode_none r hr0 hr1 hr w).mono ?_;rintro e w' ⟨rfl, rfl⟩;rw [encB_none hr];exact ⟨none, 0, rfl, OwB.nil _ _ _, Below.refl _ _⟩
 ·simp only [isRune, decide_eq_true_eq] at hr;obtain ⟨v, rfl⟩ : ∃ v : Nat, r = v := ⟨r.toNat, by omega⟩;rcases (show v < 128 \/ (128 <= v /\ v < 2048) \/ (2048 <= v /\ v < 65536) \/ 65536 <= v from by omega) with h | h | h | h
  ·exact refEncode_1 v h w
  ·exact refEncode_2 v h.1 h.2 w
  ·exact refEncode_3 v h.1 h.2 (by omega) w
  ·exact refEncode_4 v h (by omega) w
end Go.Proofs.YtokdnhdfmgfkeaaGreatDoor.UtfW
end
