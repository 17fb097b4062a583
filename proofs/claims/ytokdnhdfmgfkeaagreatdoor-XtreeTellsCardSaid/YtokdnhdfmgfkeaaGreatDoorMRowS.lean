/- Rows of structs of the call's own; appended to. No program stands here. -/
import Derived.WalkKit
import Derived.WalkSpells
import Derived.Lib.Hide
import Derived.Deep.AppendLies
import Derived.Deep.Draws
import Derived.Laws.AppendOwnNone
import Derived.Maps.AppendAt
import Derived.ChangeSlices
import Derived.Lib.SlBytesConst
import Derived.SizedLaws
import Derived.Deep.Slices
import Derived.Deep.Fields
import Derived.ChangeSame
section
namespace Go.Proofs.YtokdnhdfmgfkeaaGreatDoor
open Go.RowKit

structure Rd (w : World) (A : Option Addr) (n c : Nat) (xs : List Value) : Prop where
  len : xs.length = n
  le : n ≤ c
  max : c ≤ 9223372036854775807
  nil : A = none → n = 0 ∧ c = 0
  cell : 0 < n → ∃ b off, A = some ⟨b, off, none⟩ ∧ b < w.heap.size ∧ ∀ j u, xs[j]? = some u → w.cell? ⟨b, off + j, none⟩ = some u

theorem Rd.none_ (w : World) : Rd w none 0 0 [] := ⟨rfl, by omega, by omega, fun _ => ⟨rfl, rfl⟩, fun h => absurd h (by omega)⟩

section
variable {w w' : World} {A : Option Addr} {n c : Nat} {xs : List Value}

theorem Rd.keep (h : Rd w A n c xs) (hs : w.heap.size ≤ w'.heap.size) (hk : ∀ p : Addr, p.block < w.heap.size → w'.cell? p = w.cell? p) : Rd w' A n c xs :=
  ⟨h.len, h.le, h.max, h.nil, fun hn => by
    obtain ⟨b, off, e, hb, hc⟩ := h.cell hn
    exact ⟨b, off, e, by omega, fun j u hu => (hk _ hb).trans (hc j u hu)⟩⟩

theorem Rd.below (h : Rd w A n c xs) (hb : Below w.heap.size w w') : Rd w' A n c xs := h.keep hb.size fun _ hp => hb.cell hp

theorem Rd.at_ {k : Nat} (h : Rd w A n c xs) (hk : k < n) :
    ∃ b off u, A = some ⟨b, off, none⟩ ∧ b < w.heap.size ∧ xs[k]? = some u ∧ w.cell? ⟨b, off + k, none⟩ = some u := by
  obtain ⟨b, off, e, hb, hc⟩ := h.cell (by omega)
  have hl : k < xs.length := by have := h.len; omega
  exact ⟨b, off, xs[k], e, hb, List.getElem?_eq_getElem hl, hc k _ (List.getElem?_eq_getElem hl)⟩
end

def bv (l : List UInt8) : List Value := l.map fun x => Value.int .u8 (x.toNat : Int)

@[simp] theorem bv_length (l : List UInt8) : (bv l).length = l.length := by simp [bv]
@[simp] theorem bv_nil : bv [] = [] := rfl
@[simp] theorem bv_append (a b : List UInt8) : bv (a ++ b) = bv a ++ bv b := by simp [bv]
theorem bv_get {l : List UInt8} {k : Nat} {u : Value} (h : (bv l)[k]? = some u) : ∃ x : UInt8, l[k]? = some x ∧ u = .int .u8 (x.toNat : Int) := by
  simp only [bv, List.getElem?_map, Option.map_eq_some_iff] at h
  obtain ⟨x, hx, rfl⟩ := h
  exact ⟨x, hx, rfl⟩

def Bs (w : World) (A : Option Addr) (n c : Nat) (l : List UInt8) : Prop := Rd w A n c (bv l)

section
variable {w w' : World} {A : Option Addr} {n c : Nat} {l : List UInt8}
theorem Bs.len (h : Bs w A n c l) : l.length = n := by simpa using Rd.len h
theorem Bs.below (h : Bs w A n c l) (hb : Below w.heap.size w w') : Bs w' A n c l := Rd.below h hb
theorem Bs.at_ {k : Nat} (h : Bs w A n c l) (hk : k < n) :
    ∃ b off, ∃ x : UInt8, A = some ⟨b, off, none⟩ ∧ b < w.heap.size ∧ l[k]? = some x ∧ x.toNat < 256 ∧ w.cell? ⟨b, off + k, none⟩ = some (.int .u8 (x.toNat : Int)) := by
  obtain ⟨b, off, u, e, hb, hx, hc⟩ := Rd.at_ h hk
  obtain ⟨x, hx2, rfl⟩ := bv_get hx
  exact ⟨b, off, x, e, hb, hx2, x.toNat_lt, hc⟩
end

theorem take_snoc {α : Type} {l : List α} {k : Nat} {x : α} (h : l[k]? = some x) : l.take (k + 1) = l.take k ++ [x] := by
  rw [List.take_add_one, h]; rfl

theorem ret_int {k : IntKind} {a b : Int} (h : a = b) : Ending.returned (.int k a) = .returned (.int k b) := by rw [h]
theorem ret_bool {a b : Bool} (h : a = b) : Ending.returned (.bool a) = .returned (.bool b) := by rw [h]
def OwB (w : World) (B E : Nat) (v : Value) (l : List UInt8) : Prop := w.ownsRow B E 1 v l.length (bv l)

theorem rd_of_own {w : World} {B E : Nat} {A : Option Addr} {n c : Nat} {xs : List Value} (h : w.ownsRow B E 1 (.slice A n c) n xs) : Rd w A n c xs := by
  obtain ⟨hl, h⟩ := h
  rcases h with ⟨hv, rfl⟩ | ⟨g, cap, cur, hv, hB, hh, hnc, hm, hs, ht⟩
  · injection hv with h1 h2 h3
    subst h1; subst h3
    have : xs = [] := List.eq_nil_of_length_eq_zero (by simpa using hl)
    subst this
    exact Rd.none_ w
  · injection hv with h1 h2 h3
    subst h1; subst h3
    have hg : g < w.heap.size := by
      rcases Nat.lt_or_ge g w.heap.size with hlt | hge
      · exact hlt
      · rw [Array.getElem?_eq_none hge] at hh; cases hh
    refine ⟨by simpa using hl, hnc, by unfold maxLen at hm; omega, fun h => by simp at h, fun _ => ⟨g, 0, rfl, hg, fun j u hu => ?_⟩⟩
    rw [← ht] at hu
    rw [List.getElem?_take] at hu
    split at hu
    · simp only [World.cell?, hh, Nat.zero_add]
      simpa using hu
    · cases hu

theorem OwB.bs {w : World} {B E : Nat} {A : Option Addr} {n c : Nat} {l : List UInt8} (h : OwB w B E (.slice A n c) l) : Bs w A n c l := by
  have hn : n = l.length := by
    rcases h.2 with ⟨hv, h0⟩ | ⟨g, cap, cur, hv, _⟩
    · injection hv with _ h2 _; omega
    · injection hv
  subst hn
  exact rd_of_own h

theorem ownsRow_form {w : World} {B E n : Nat} {v : Value} {xs : List Value} (h : w.ownsRow B E 1 v n xs) : ∃ A c, v = .slice A n c := by
  rcases h.2 with ⟨rfl, rfl⟩ | ⟨g, cap, cur, rfl, _⟩
  · exact ⟨_, _, rfl⟩
  · exact ⟨_, _, rfl⟩

theorem below_of_grown {w w' : World} {B E size n : Nat} {v : Value} {xs : List Value} (h : w.ownsRow B E size v n xs) (hB : B ≤ w.heap.size) (hg : w.grownBy w' v.ownBlock) : Below B w w' :=
  (Below.refl B w).grown hg hB (fun k hk => (h.lt k hk).1)

section
variable {P : Program} {ops : Array Oper} {rest : List Oper} {o : Oper} {a : Act} {Q : Exit → Act → World → Prop}

theorem wpList_append_rd (w : World) (hgd : o.guard = none) (s x : Operand) (t : TypeId)
    (ho : o.op = .call { callee := .builtin .append, args := #[s, x], argTypes := #[t, t] })
    (B : Nat) (e : TypeId) (z : Value) (bytes : Nat) (ht : P.underlying t = some (.slice e))
    (hinfo : (P.info? e).map (fun i => (i.zero, i.size, i.bytes)) = some (some z, 1, bytes)) (hzs : z.cells.size = 1)
    (v : Value) (n : Nat) (xs : List Value) (hs : a.eval s = v) (hown : w.ownsRow B e 1 v n xs)
    (A : Option Addr) (m c : Nat) (news : List Value) (hx : a.eval x = .slice A m c) (hr : Rd w A m c news) (h1 : ∀ u ∈ news, u.oneCell' = true)
    (hbytes : (n + m) * bytes ≤ 140737488355328) (h63 : n + m ≤ 140737488355328) (hB : B ≤ w.heap.size)
    (h : ∀ A' c' w', w'.ownsRow B e 1 (.slice A' (n + m) c') (n + m) (xs ++ news) → w.grownBy w' v.ownBlock → Below B w w' → ((Value.slice A' (n + m) c').ownBlock = v.ownBlock ∨ (Value.slice A' (n + m) c').ownBlock = some w.heap.size) → wpList P ops Q rest (a.put o.dst (.slice A' (n + m) c')) w') :
    wpList P ops Q (o :: rest) a w := by
  obtain ⟨i, hi, hz, hsz, hby⟩ := info_parts hinfo
  rcases A with _ | ad
  · obtain ⟨rfl, rfl⟩ := hr.nil rfl
    have hn : news = [] := List.eq_nil_of_length_eq_zero hr.len
    subst hn
    refine wpList_append_own_none hgd s x t ho B e i 1 ht hi v n xs hs hown hx ?_
    obtain ⟨A', c', rfl⟩ := ownsRow_form hown
    exact h A' c' w (by simpa using hown) (World.grownBy.refl _ _) (Below.refl _ _) (.inl rfl)
  · refine wpList_append_own_at w hgd s x t ho B e i z 1 bytes ht hi hz hsz hby hzs (by omega) v n xs hs hown ad m c news hx (by simpa using hr.len) ?_ h1 (by unfold maxLen; omega) hbytes hB ?_
    · intro j u hu
      have hm : 0 < m := by
        have := hr.len
        have := (List.getElem?_eq_some_iff.1 hu).1
        omega
      obtain ⟨b, off, he, _, hc⟩ := hr.cell hm
      injection he with he
      subst he
      have := hc j u hu
      unfold Addr.add
      split
      · rename_i h0; subst h0; simpa using this
      · exact this
    · intro v' w' hown' hg _ hat
      obtain ⟨A', c', rfl⟩ := ownsRow_form hown'
      exact h A' c' w' hown' hg (below_of_grown hown hB hg) hat
end

theorem bv_oneCell (l : List UInt8) : ∀ u ∈ bv l, u.oneCell' = true := by
  intro u hu
  simp only [bv, List.mem_map] at hu
  obtain ⟨x, _, rfl⟩ := hu
  rfl

theorem bs_lit (w : World) (C : Array Value) (E : TypeId) (fr : Nat × Nat) (l : List UInt8) (n : Nat) (hn : l.length = n) (hn2 : n ≤ 9223372036854775807) (hC : C.toList = bv l) :
    Bs (w.alloc (.cells C E fr)) (some ⟨w.heap.size, 0, none⟩) n n l := by
  refine ⟨by simpa using hn, Nat.le_refl _, hn2, fun h => by simp at h, fun _ => ⟨_, _, rfl, by simp, fun j u hu => ?_⟩⟩
  have hh : (w.alloc (.cells C E fr)).heap[w.heap.size]? = some (.cells C E fr) := heap_alloc_new w _
  rw [← hC, Array.getElem?_toList] at hu
  simp only [World.cell?, hh, Nat.zero_add]
  simpa using hu

theorem below_alloc (w : World) (o : Obj) : Below w.heap.size w (w.alloc o) := (Below.refl _ _).alloc (Nat.le_refl _) o

def Stop (p : Prop) : Prop := p
theorem stop_here {p : Prop} (h : Stop p) : p := h
theorem Stop.go {p : Prop} (h : p) : Stop p := h

section
variable {P : Program} {ops : Array Oper} {rest : List Oper} {o : Oper} {a : Act} {Q : Exit → Act → World → Prop}

theorem append_bytes (w : World) (t e : TypeId) (ht : P.underlying t = some (.slice e))
    (hinfo : (P.info? e).map (fun i => (i.zero, i.size, i.bytes)) = some (some (.int .u8 0), 1, 1))
    (hgd : o.guard = none) (s x : Operand)
    (ho : o.op = .call { callee := .builtin .append, args := #[s, x], argTypes := #[t, t] })
    (B : Nat) (v : Value) (la : List UInt8) (hs : a.eval s = v) (hown : OwB w B e v la)
    (A : Option Addr) (m c : Nat) (lb : List UInt8) (hx : a.eval x = .slice A m c) (hr : Bs w A m c lb)
    (N : Nat) (hN : la.length + m = N) (hsz : N ≤ 140737488355328) (hB : B ≤ w.heap.size)
    (h : ∀ A' c' w', OwB w' B e (.slice A' N c') (la ++ lb) → w.grownBy w' v.ownBlock → Below B w w' → wpList P ops Q rest (a.put o.dst (.slice A' N c')) w') :
    wpList P ops Q (o :: rest) a w := by
  refine wpList_append_rd w hgd s x t ho B e (.int .u8 0) 1 ht hinfo rfl v la.length (bv la) hs hown A m c (bv lb) hx hr (bv_oneCell lb) (by omega) (by omega) hB ?_
  intro A' c' w' h1 h2 h3 _
  have hl := hr.len
  rw [hN] at h1 ⊢
  refine h A' c' w' ?_ h2 h3
  unfold OwB
  rw [bv_append, List.length_append, show la.length + lb.length = N from by omega]
  exact h1
end

theorem OwB.lt {w : World} {B E : Nat} {v : Value} {l : List UInt8} (h : OwB w B E v l) : ∀ k, v.ownBlock = some k → B ≤ k ∧ k < w.heap.size := World.ownsRow.lt h

/-! Slices of slices of bytes. -/

def El (w : World) (blk : Option Nat) (u : Value) (l : List UInt8) : Prop := ∃ A n c, u = .slice A n c ∧ Bs w A n c l ∧ ∀ a, A = some a → 0 < n → some a.block ≠ blk

theorem Rd.grown {w w' : World} {A : Option Addr} {n c : Nat} {xs : List Value} {row : Option Nat} (h : Rd w A n c xs) (hg : w.grownBy w' row) (hne : ∀ a, A = some a → 0 < n → some a.block ≠ row) : Rd w' A n c xs :=
  ⟨h.len, h.le, h.max, h.nil, fun hn => by
    obtain ⟨b, off, rfl, hb, hc⟩ := h.cell hn
    exact ⟨b, off, rfl, Nat.lt_of_lt_of_le hb hg.size, fun j u hu => hg.cell (hc j u hu) (by have := hne _ rfl hn; exact this)⟩⟩

def BsL (w : World) (A : Option Addr) (n c : Nat) (ls : List (List UInt8)) : Prop :=
  ∃ xs : List Value, Rd w A n c xs ∧ ls.length = n ∧ ∀ (j : Nat) (u : Value), xs[j]? = some u → ∃ l, ls[j]? = some l ∧ El w none u l

def OwL (w : World) (B E : Nat) (v : Value) (ls : List (List UInt8)) : Prop :=
  ∃ xs : List Value, w.ownsRow B E 1 v ls.length xs ∧ ∀ (j : Nat) (u : Value), xs[j]? = some u → ∃ l, ls[j]? = some l ∧ El w v.ownBlock u l

section
variable {w w' : World} {A : Option Addr} {n c B E : Nat} {v : Value} {ls : List (List UInt8)}

theorem BsL.le (h : BsL w A n c ls) : n ≤ c := let ⟨_, h1, _⟩ := h; h1.le
theorem BsL.max (h : BsL w A n c ls) : c ≤ 9223372036854775807 := let ⟨_, h1, _⟩ := h; h1.max
end

theorem OwB.below {w w' : World} {B E : Nat} {v : Value} {l : List UInt8} (h1 : OwB w B E v l) (hb : Below w.heap.size w w') : OwB w' B E v l :=
  World.ownsRow.kept (row := none) h1 ⟨hb.os, hb.tape, hb.output, hb.size, fun k hk _ => hb.block k hk⟩ (by
    rcases h1.2 with ⟨rfl, _⟩ | ⟨g, cap, cur, rfl, _⟩
    · exact .inl rfl
    · right; simp [Value.ownBlock])

theorem OwB.nil (w : World) (B E : Nat) : OwB w B E (.slice none 0 0) [] := World.ownsRow_nil w B E 1

section
variable {P : Program} {ops : Array Oper} {rest : List Oper} {o : Oper} {a : Act} {Q : Exit → Act → World → Prop}

end

theorem ownsRow_base {w : World} {B B' E size n : Nat} {v : Value} {xs : List Value} (h : w.ownsRow B E size v n xs) (hb : B' ≤ B) : w.ownsRow B' E size v n xs :=
  ⟨h.1, h.2.elim .inl fun ⟨g, cap, cur, hv, hg, r⟩ => .inr ⟨g, cap, cur, hv, Nat.le_trans hb hg, r⟩⟩
theorem OwB.base {w : World} {B B' E : Nat} {v : Value} {l : List UInt8} (h : OwB w B E v l) (hb : B' ≤ B) : OwB w B' E v l := ownsRow_base h hb
theorem OwL.base {w : World} {B B' E : Nat} {v : Value} {ls : List (List UInt8)} (h : OwL w B E v ls) (hb : B' ≤ B) : OwL w B' E v ls :=
  let ⟨xs, h1, h2⟩ := h; ⟨xs, ownsRow_base h1 hb, h2⟩

theorem Rd.cut {w : World} {A : Option Addr} {n c : Nat} {xs : List Value} (h : Rd w A n c xs) (lo hi : Nat) (h1 : lo ≤ hi) (h2 : hi ≤ n) (A' : Option Addr)
    (hA : ∀ b off, A = some ⟨b, off, none⟩ → lo < c → A' = some ⟨b, off + lo, none⟩) (hA0 : A = none → A' = none) (hA1 : A ≠ none → A' ≠ none) :
    Rd w A' (hi - lo) (c - lo) ((xs.drop lo).take (hi - lo)) := by
  have hl := h.len
  have hle := h.le
  have hm := h.max
  refine ⟨by simp; omega, by omega, by omega, fun h0 => ?_, fun hn => ?_⟩
  · have hAn : A = none := by
      apply Classical.byContradiction
      intro hne
      exact hA1 hne h0
    have := h.nil hAn
    omega
  · obtain ⟨b, off, rfl, hb, hc⟩ := h.cell (by omega)
    refine ⟨b, off + lo, hA b off rfl (by omega), hb, fun j u hu => ?_⟩
    rw [List.getElem?_take] at hu
    split at hu
    · rw [List.getElem?_drop] at hu
      have := hc (lo + j) u hu
      rw [← Nat.add_assoc] at this
      exact this
    · cases hu

theorem bv_drop (l : List UInt8) (k : Nat) : bv (l.drop k) = (bv l).drop k := by simp [bv]
theorem bv_take (l : List UInt8) (k : Nat) : bv (l.take k) = (bv l).take k := by simp [bv]

theorem Bs.cut {w : World} {A : Option Addr} {n c : Nat} {l : List UInt8} (h : Bs w A n c l) (lo hi : Nat) (h1 : lo ≤ hi) (h2 : hi ≤ n) (A' : Option Addr)
    (hA : ∀ b off, A = some ⟨b, off, none⟩ → lo < c → A' = some ⟨b, off + lo, none⟩) (hA0 : A = none → A' = none) (hA1 : A ≠ none → A' ≠ none) :
    Bs w A' (hi - lo) (c - lo) ((l.drop lo).take (hi - lo)) := by
  unfold Bs
  rw [bv_take, bv_drop]
  exact Rd.cut h lo hi h1 h2 A' hA hA0 hA1

def strOf (l : List UInt8) : ByteArray := ⟨l.toArray⟩

theorem Bs.conv {P : Program} {w : World} {A : Option Addr} {n c : Nat} {l : List UInt8} (h : Bs w A n c l) {src dst e : TypeId}
    (hs : P.underlying src = some (.slice e)) (he : P.underlying e = some (.int .u8)) (hd : P.underlying dst = some .string) :
    (convert src dst (.slice A n c)).run P w = .ok (.string (strOf l)) w := by
  have hl := h.len
  rcases A with _ | a
  · obtain ⟨rfl, rfl⟩ := Rd.nil h rfl
    have : l = [] := List.eq_nil_of_length_eq_zero hl
    subst this
    exact run_convert_bytes_nil w src e hs he 0 0 dst hd
  · have e1 : (l.map fun x => (x.toNat : Int)).map (Value.int .u8) = bv l := by simp [bv]
    have hload : (loadCells a n).run P w = .ok ((l.map fun x => (x.toNat : Int)).map (Value.int .u8)).toArray w := by
      rw [e1]
      have := run_loadCells_list (P := P) w a (bv l) (fun j v hj => by
        have hn : 0 < n := by
          have := (List.getElem?_eq_some_iff.1 hj).1
          simp at this
          omega
        obtain ⟨b, off, ea, _, hc⟩ := Rd.cell h hn
        injection ea with ea
        subst ea
        have := hc j v hj
        unfold Addr.add
        split
        · rename_i h0; subst h0; simpa using this
        · exact this)
      simpa [hl] using this
    rw [run_convert_bytes_string w src dst e _ n c hs he hd, run_bytesToString w a n c _ hload, foldl_push_bytes]
    simp [strOf, ByteArray.empty, ByteArray.emptyWithCapacity, List.map_map, Function.comp_def]
    rfl

/-! Rows of slices whose elements lie below the row. -/

section
variable {w w' : World} {B E : Nat} {v : Value} {ls : List (List UInt8)}
theorem grown_of_below (hb : Below w.heap.size w w') : w.grownBy w' none := ⟨hb.os, hb.tape, hb.output, hb.size, fun k hk _ => hb.block k hk⟩
end

section
variable {P : Program} {ops : Array Oper} {rest : List Oper} {o : Oper} {a : Act} {Q : Exit → Act → World → Prop}

end

end Go.Proofs.YtokdnhdfmgfkeaaGreatDoor
end

section
namespace Go.Proofs.YtokdnhdfmgfkeaaGreatDoor
open Go.RowKit

def Sized {H : Type} (P : Program) (t : TypeId) (d : DataW H) : Prop := ∀ x ∈ d.weights P t, x ≤ 140737488351232

theorem sized_each {H : Type} {P : Program} {ts : List TypeId} {ds : List (DataW H)} (h : (DataW.weightsEach P ts ds).all (· ≤ reachBytes) = true)
    {j : Nat} {t : TypeId} {d : DataW H} (ht : ts[j]? = some t) (hd : ds[j]? = some d) : Sized P t d := by
  intro x hx
  have := List.all_eq_true.1 h _ (DataW.weights_mem_each ht hd x hx)
  exact of_decide_eq_true this

theorem range_get {n j i : Nat} (h : (List.range n)[j]? = some i) : j < n ∧ i = j := by
  obtain ⟨h1, h2⟩ := List.getElem?_eq_some_iff.1 h
  rw [List.getElem_range] at h2
  exact ⟨by simpa using h1, h2.symm⟩

theorem weights_mem_all {H : Type} {P : Program} {e : TypeId} {d : DataW H} {l : List (DataW H)} (hd : d ∈ l) {x : Nat} (hx : x ∈ d.weights P e) : x ∈ DataW.weightsAll P e l := by
  induction l with
  | nil => simp at hd
  | cons d' l ih =>
    simp only [DataW.weightsAll, List.mem_append]
    rcases List.mem_cons.1 hd with rfl | h
    · exact .inl hx
    · exact .inr (ih h)

theorem Sized.elem {H : Type} {P : Program} {t e : TypeId} {elems spare : List (DataW H)} (ht : P.underlying t = some (.slice e)) (h : Sized P t (.slice elems spare)) {d : DataW H} (hd : d ∈ elems) : Sized P e d := by
  intro x hx
  refine h x ?_
  simp only [DataW.weights, ht]
  exact List.mem_cons_of_mem _ (List.mem_append_left _ (weights_mem_all hd hx))

theorem Sized.row {H : Type} {P : Program} {t e : TypeId} {elems spare : List (DataW H)} (ht : P.underlying t = some (.slice e)) (h : Sized P t (.slice elems spare)) : (elems.length + spare.length) * P.bytesOf e ≤ 140737488351232 :=
  h _ (by simp [DataW.weights, ht])

section
variable {H : Type} {enc : TypeId × Value → H} {P : Program} {w : World} {t e q : TypeId}

end

end Go.Proofs.YtokdnhdfmgfkeaaGreatDoor
end

section
namespace Go.Proofs.YtokdnhdfmgfkeaaGreatDoor
open Go.RowKit
open Go.Deep (oneCellFields)

structure Sq {α : Type} (El : World → List Value → α → Prop) (k : Nat) (w : World) (A : Option Addr) (n c : Nat) (l : List α) : Prop where
  len : l.length = n
  le : n ≤ c
  max : c ≤ 9223372036854775807
  nil : A = none → n = 0 ∧ c = 0
  cell : 0 < n → ∃ b off, A = some ⟨b, off, none⟩ ∧ b < w.heap.size ∧ ∀ i x, l[i]? = some x → ∃ vs : List Value, vs.length = k ∧ El w vs x ∧ ∀ j v, vs[j]? = some v → w.cell? ⟨b, off + i * k + j, none⟩ = some v

section
variable {α : Type} {El : World → List Value → α → Prop} {k : Nat} {w w' : World} {A : Option Addr} {n c : Nat} {l : List α}

theorem Sq.none_ (w : World) : Sq El k w none 0 0 [] := ⟨rfl, Nat.le_refl _, by omega, fun _ => ⟨rfl, rfl⟩, fun h => absurd h (by omega)⟩
theorem Sq.below (h : Sq El k w A n c l) (hE : ∀ vs x, El w vs x → El w' vs x) (hb : Below w.heap.size w w') : Sq El k w' A n c l :=
  ⟨h.len, h.le, h.max, h.nil, fun hn => by
    obtain ⟨b, off, e, hlt, hc⟩ := h.cell hn
    refine ⟨b, off, e, Nat.lt_of_lt_of_le hlt hb.size, fun i x hi => ?_⟩
    obtain ⟨vs, h1, h2, h3⟩ := hc i x hi
    exact ⟨vs, h1, hE _ _ h2, fun j v hj => (hb.cell (p := ⟨b, off + i * k + j, none⟩) hlt).trans (h3 j v hj)⟩⟩
theorem Sq.at_ {i : Nat} (h : Sq El k w A n c l) (hi : i < n) : ∃ b off x vs, A = some ⟨b, off, none⟩ ∧ b < w.heap.size ∧ l[i]? = some x ∧ vs.length = k ∧ El w vs x ∧ ∀ j v, vs[j]? = some v → w.cell? ⟨b, off + i * k + j, none⟩ = some v := by
  obtain ⟨b, off, e, hb, hc⟩ := h.cell (by omega)
  have hl : i < l.length := by have := h.len; omega
  obtain ⟨vs, h1, h2, h3⟩ := hc i l[i] (List.getElem?_eq_getElem hl)
  exact ⟨b, off, l[i], vs, e, hb, List.getElem?_eq_getElem hl, h1, h2, h3⟩
theorem sq_of_own {B E : Nat} {v : Value} {xs : List Value} (h : w.ownsRow B E k v n xs) (hk : 0 < k) (hl : l.length = n) (hx : ∀ i x, l[i]? = some x → ∃ vs : List Value, vs.length = k ∧ El w vs x ∧ ∀ j u, vs[j]? = some u → xs[i * k + j]? = some u) :
    ∃ A c, v = .slice A n c ∧ Sq El k w A n c l := by
  obtain ⟨hxl, h⟩ := h
  rcases h with ⟨rfl, h0⟩ | ⟨g, cap, cur, rfl, hB, hh, hnc, hm, hs, ht⟩
  · subst h0
    have : l = [] := List.eq_nil_of_length_eq_zero hl
    subst this
    exact ⟨_, _, rfl, Sq.none_ w⟩
  · have hg : g < w.heap.size := (Array.getElem?_eq_some_iff.1 hh).1
    refine ⟨_, _, rfl, hl, hnc, by unfold maxLen at hm; omega, fun h => by simp at h, fun _ => ⟨g, 0, rfl, hg, fun i x hi => ?_⟩⟩
    obtain ⟨vs, h1, h2, h3⟩ := hx i x hi
    refine ⟨vs, h1, h2, fun j u hu => ?_⟩
    have := h3 j u hu
    rw [← ht, List.getElem?_take] at this
    split at this
    · simp only [World.cell?, hh, Nat.zero_add]
      simpa using this
    · cases this
end

section
variable {H : Type} {enc : TypeId × Value → H} {P : Program} {w : World}

theorem Sized.field {t : TypeId} {fs : Array Field} {parts : List (DataW H)} {j : Nat} {f : Field} {d : DataW H} (hs : P.underlying t = some (.struct fs)) (h : Sized P t (.agg parts)) (hf : fs[j]? = some f) (hd : parts[j]? = some d) : Sized P f.type d := by
  intro x hx
  refine h x ?_
  simp only [DataW.weights, hs]
  exact DataW.weights_mem_each (j := j) (by simp [hf]) hd x hx

section
open Go.ChangeShapes Go.WideShapes Go.Deep
end

theorem cell_add {a : Addr} {v : Value} {k : Nat} (h : w.cell? (a.add k) = some v) (hs : a.spot = none) : w.cell? ⟨a.block, a.off + k, none⟩ = some v := by
  obtain ⟨b, off, spot⟩ := a
  simp only at hs
  subst hs
  unfold Addr.add at h
  split at h
  · rename_i h0; subst h0; exact h
  · exact h

end
end Go.Proofs.YtokdnhdfmgfkeaaGreatDoor
end

section
namespace Go.Proofs.YtokdnhdfmgfkeaaGreatDoor
open Go.RowKit

theorem flat_at_k {k : Nat} : ∀ {L : List (List Value)}, (∀ v ∈ L, v.length = k) → ∀ {i j : Nat} {v : List Value}, L[i]? = some v → j < k → L.flatten[i * k + j]? = v[j]?
  | [], _, i, j, v, h, _ => by simp at h
  | a :: L, hL, 0, j, v, h, hj => by
    simp at h
    subst h
    have := hL a (List.mem_cons_self ..)
    rw [List.flatten_cons, Nat.zero_mul, Nat.zero_add, List.getElem?_append_left (by omega)]
  | a :: L, hL, i + 1, j, v, h, hj => by
    simp at h
    have ha := hL a (List.mem_cons_self ..)
    have hm : (i + 1) * k + j = a.length + (i * k + j) := by rw [Nat.succ_mul]; omega
    rw [List.flatten_cons, hm, List.getElem?_append_right (by omega), Nat.add_sub_cancel_left]
    exact flat_at_k (fun v hv => hL v (List.mem_cons_of_mem _ hv)) h hj
theorem flat_len_k {k : Nat} : ∀ {L : List (List Value)}, (∀ v ∈ L, v.length = k) → L.flatten.length = L.length * k
  | [], _ => by simp
  | a :: L, hL => by
    rw [List.flatten_cons, List.length_append, flat_len_k fun v hv => hL v (List.mem_cons_of_mem _ hv), hL a (List.mem_cons_self ..), List.length_cons, Nat.succ_mul, Nat.add_comm]

def Reads {α : Type} (El : World → List Value → α → Prop) (k : Nat) (w : World) (xs : List Value) (l : List α) : Prop :=
  ∃ L : List (List Value), xs = L.flatten ∧ L.length = l.length ∧ (∀ v ∈ L, v.length = k) ∧ ∀ (i : Nat) vs x, L[i]? = some vs → l[i]? = some x → El w vs x

section
variable {α : Type} {El El' : World → List Value → α → Prop} {k : Nat} {w w' : World} {xs ys : List Value} {l la lb : List α}
theorem Reads.nil (w : World) : Reads El k w [] [] := ⟨[], rfl, rfl, fun v h => (by cases h), fun i vs x h => by simp at h⟩
theorem Reads.len (h : Reads El k w xs l) : xs.length = l.length * k := by
  obtain ⟨L, rfl, h1, h2, _⟩ := h
  rw [flat_len_k h2, h1]
theorem Reads.mono (h : Reads El k w xs l) (hE : ∀ vs x, El w vs x → El' w' vs x) : Reads El' k w' xs l := by
  obtain ⟨L, h0, h1, h2, h3⟩ := h
  exact ⟨L, h0, h1, h2, fun i vs x hi hx => hE _ _ (h3 i vs x hi hx)⟩
theorem Reads.append (ha : Reads El k w xs la) (hb : Reads El k w ys lb) : Reads El k w (xs ++ ys) (la ++ lb) := by
  obtain ⟨L, rfl, h1, h2, h3⟩ := ha
  obtain ⟨M, rfl, g1, g2, g3⟩ := hb
  refine ⟨L ++ M, by simp, by simp [h1, g1], fun v hv => (List.mem_append.1 hv).elim (h2 v) (g2 v), fun i vs x hi hx => ?_⟩
  rcases Nat.lt_or_ge i L.length with h | h
  · rw [List.getElem?_append_left h] at hi
    rw [List.getElem?_append_left (by omega)] at hx
    exact h3 i vs x hi hx
  · rw [List.getElem?_append_right h] at hi
    rw [List.getElem?_append_right (by omega), ← h1] at hx
    exact g3 _ vs x hi hx
theorem Reads.at_ (h : Reads El k w xs l) {i : Nat} {x : α} (hi : l[i]? = some x) : ∃ vs, vs.length = k ∧ El w vs x ∧ ∀ j u, vs[j]? = some u → xs[i * k + j]? = some u := by
  obtain ⟨L, rfl, h1, h2, h3⟩ := h
  have hlt : i < L.length := by have := (List.getElem?_eq_some_iff.1 hi).1; omega
  have hL : L[i]? = some L[i] := List.getElem?_eq_getElem hlt
  have hlen := h2 L[i] (List.getElem_mem hlt)
  refine ⟨L[i], hlen, h3 i _ x hL hi, fun j u hu => ?_⟩
  have hj : j < k := by have := (List.getElem?_eq_some_iff.1 hu).1; omega
  rw [flat_at_k h2 hL hj, hu]
theorem Reads.all (h : Reads El k w xs l) (h1 : ∀ vs x, El w vs x → ∀ u ∈ vs, u.oneCell' = true) : ∀ u ∈ xs, u.oneCell' = true := by
  obtain ⟨L, rfl, g1, _, g3⟩ := h
  intro u hu
  obtain ⟨vs, hvs, huv⟩ := List.mem_flatten.1 hu
  obtain ⟨i, hi⟩ := List.mem_iff_getElem?.1 hvs
  have hlt : i < l.length := by have := (List.getElem?_eq_some_iff.1 hi).1; omega
  exact h1 vs _ (g3 i vs l[i] hi (List.getElem?_eq_getElem hlt)) u huv

def OwS (El : World → List Value → α → Prop) (k : Nat) (w : World) (B E : Nat) (v : Value) (l : List α) : Prop := ∃ xs, w.ownsRow B E k v l.length xs ∧ Reads El k w xs l
theorem OwS.nil (w : World) (B E : Nat) : OwS El k w B E (.slice none 0 0) [] := ⟨[], World.ownsRow_nil w B E k, Reads.nil w⟩
theorem OwS.sq {B E : Nat} {v : Value} (h : OwS El k w B E v l) (hk : 0 < k) : ∃ A c, v = .slice A l.length c ∧ Sq El k w A l.length c l := by
  obtain ⟨xs, h1, h2⟩ := h
  exact sq_of_own h1 hk rfl fun i x hi => h2.at_ hi
theorem OwS.form {B E : Nat} {v : Value} (h : OwS El k w B E v l) : ∃ A c, v = .slice A l.length c := by
  obtain ⟨xs, ⟨_, h1⟩, _⟩ := h
  rcases h1 with ⟨rfl, h0⟩ | ⟨g, cap, cur, rfl, _⟩
  · exact ⟨_, _, by rw [h0]⟩
  · exact ⟨_, _, rfl⟩
theorem OwS.sq' {B E n c : Nat} {A : Option Addr} (h : OwS El k w B E (.slice A n c) l) (hk : 0 < k) : Sq El k w A n c l := by
  obtain ⟨A', c', e, h1⟩ := h.sq hk
  injection e with e1 e2 e3
  subst e1; subst e2; subst e3
  exact h1
theorem OwS.kept {B E : Nat} {v : Value} {row : Option Nat} (h : OwS El k w B E v l) (hg : w.grownBy w' row) (hne : v.ownBlock = none ∨ v.ownBlock ≠ row) (hE : ∀ vs x, El w vs x → El w' vs x) : OwS El k w' B E v l := by
  obtain ⟨xs, h1, h2⟩ := h
  exact ⟨xs, h1.kept hg hne, h2.mono hE⟩
theorem OwS.below {B E : Nat} {v : Value} (h : OwS El k w B E v l) (hb : Below w.heap.size w w') (hE : ∀ vs x, El w vs x → El w' vs x) : OwS El k w' B E v l :=
  h.kept (grown_of_below hb) (by cases hv : v.ownBlock with | none => exact .inl rfl | some b => exact .inr (by simp)) hE
theorem OwS.lt {B E : Nat} {v : Value} (h : OwS El k w B E v l) : ∀ b, v.ownBlock = some b → B ≤ b ∧ b < w.heap.size := by
  obtain ⟨xs, h1, _⟩ := h
  exact World.ownsRow.lt h1

theorem Sq.cells {A : Option Addr} {n c : Nat} (h : Sq El k w A n c l) : ∃ xs, Reads El k w xs l ∧ (0 < n → ∃ b off, A = some ⟨b, off, none⟩ ∧ b < w.heap.size ∧ (0 < k → ∀ j u, xs[j]? = some u → w.cell? ⟨b, off + j, none⟩ = some u)) := by
  rcases Nat.eq_zero_or_pos n with h0 | hn
  · have : l = [] := List.eq_nil_of_length_eq_zero (by rw [h.len, h0])
    subst this
    exact ⟨[], Reads.nil w, fun hp => by omega⟩
  · obtain ⟨b, off, e, hb, hc⟩ := h.cell hn
    have hl := h.len
    have hV : ∀ i, i < n → ∃ vs : List Value, vs.length = k ∧ (∀ x, l[i]? = some x → El w vs x) ∧ ∀ j v, vs[j]? = some v → w.cell? ⟨b, off + i * k + j, none⟩ = some v := fun i hi => by
      obtain ⟨vs, h1, h2, h3⟩ := hc i l[i] (List.getElem?_eq_getElem (by omega))
      refine ⟨vs, h1, fun x hx => ?_, h3⟩
      rw [List.getElem?_eq_getElem (by omega)] at hx
      injection hx with hx
      rw [← hx]; exact h2
    obtain ⟨V, hV⟩ := Deep.choose_lt hV
    refine ⟨((List.range n).map V).flatten, ⟨_, rfl, by simp [hl], fun v hv => ?_, fun i vs x hi hx => ?_⟩, fun _ => ⟨b, off, e, hb, fun hk j u hu => ?_⟩⟩
    · obtain ⟨i, hi, rfl⟩ := List.mem_map.1 hv
      exact (hV i (by simpa using hi)).1
    · rw [List.getElem?_map, Option.map_eq_some_iff] at hi
      obtain ⟨i', hi', rfl⟩ := hi
      obtain ⟨hil, rfl⟩ := range_get hi'
      exact (hV i' hil).2.1 x hx
    · have hall : ∀ v ∈ (List.range n).map V, v.length = k := fun v hv => by
        obtain ⟨i, hi, rfl⟩ := List.mem_map.1 hv
        exact (hV i (by simpa using hi)).1
      have hj : j < n * k := by
        have := (List.getElem?_eq_some_iff.1 hu).1
        rw [flat_len_k hall] at this
        simpa using this
      have hq : j / k < n := (Nat.div_lt_iff_lt_mul hk).2 hj
      have hm : j % k < k := Nat.mod_lt _ hk
      have hjj : j / k * k + j % k = j := by rw [Nat.mul_comm]; exact Nat.div_add_mod j k
      have hget : ((List.range n).map V)[j / k]? = some (V (j / k)) := by simp [hq]
      have h1 := flat_at_k hall hget hm
      rw [hjj, hu] at h1
      have h2 := (hV (j / k) hq).2.2 (j % k) u h1.symm
      rw [Nat.add_assoc, hjj] at h2
      exact h2
end

section
variable {P : Program} {ops : Array Oper} {rest : List Oper} {o : Oper} {a : Act} {Q : Exit → Act → World → Prop}
theorem append_sq {α : Type} {El : World → List Value → α → Prop} {k : Nat} (w : World) (t e : TypeId) (z : Value) (by_ : Nat) (ht : P.underlying t = some (.slice e))
    (hinfo : (P.info? e).map (fun i => (i.zero, i.size, i.bytes)) = some (some z, k, by_)) (hzs : z.cells.size = k) (hk : 0 < k)
    (hgd : o.guard = none) (s x : Operand)
    (ho : o.op = .call { callee := .builtin .append, args := #[s, x], argTypes := #[t, t] })
    (B : Nat) (v : Value) (la : List α) (hs : a.eval s = v) (hown : OwS El k w B e v la)
    (A : Option Addr) (m c : Nat) (lb : List α) (hx : a.eval x = .slice A m c) (hr : Sq El k w A m c lb)
    (h1 : ∀ vs x, El w vs x → ∀ u ∈ vs, u.oneCell' = true) (hE : ∀ w', w.grownBy w' v.ownBlock → ∀ vs x, El w vs x → El w' vs x)
    (N : Nat) (hN : la.length + m = N) (hsz : N * by_ ≤ 140737488355328) (hsz2 : N ≤ 140737488355328) (hB : B ≤ w.heap.size)
    (h : ∀ A' c' w', OwS El k w' B e (.slice A' N c') (la ++ lb) → w.grownBy w' v.ownBlock → Below B w w' → ((Value.slice A' N c').ownBlock = v.ownBlock ∨ (Value.slice A' N c').ownBlock = some w.heap.size) → wpList P ops Q rest (a.put o.dst (.slice A' N c')) w') :
    wpList P ops Q (o :: rest) a w := by
  obtain ⟨xs, hown, hra⟩ := hown
  obtain ⟨ys, hrb, hyc⟩ := hr.cells
  obtain ⟨i, hi, hz, hsz', hby⟩ := info_parts hinfo
  have hbel : ∀ w', w.grownBy w' v.ownBlock → Below B w w' := fun w' hg => (Below.refl B w).grown hg hB (fun k hk => (World.ownsRow.lt hown k hk).1)
  rcases A with _ | ad
  · obtain ⟨rfl, rfl⟩ := hr.nil rfl
    have hn : lb = [] := List.eq_nil_of_length_eq_zero hr.len
    subst hn
    refine wpList_append_own_none hgd s x t ho B e i k ht hi v la.length xs hs hown hx ?_
    have h2 : OwS El k w B e v la := ⟨xs, hown, hra⟩
    obtain ⟨A', c', rfl⟩ := h2.form
    have h0 : la.length = N := by omega
    rw [h0] at h2 ⊢
    refine h A' c' w ?_ (World.grownBy.refl _ _) (Below.refl _ _) (.inl ?_)
    · rw [List.append_nil]; exact h2
    · rw [h0]
  · refine wpList_append_own_at w hgd s x t ho B e i z k by_ ht hi hz hsz' hby hzs hk v la.length xs hs hown ad m c ys hx (by rw [hrb.len, hr.len]) ?_ (hrb.all h1) (by unfold maxLen; omega) (by rw [hN]; exact hsz) hB ?_
    · intro j u hu
      have hm : 0 < m := by
        have h1 := (List.getElem?_eq_some_iff.1 hu).1
        rw [hrb.len, hr.len] at h1
        rcases Nat.eq_zero_or_pos m with h0 | h0
        · rw [h0] at h1; omega
        · exact h0
      obtain ⟨b, off, he, _, hc⟩ := hyc hm
      injection he with he
      subst he
      have := hc hk j u hu
      unfold Addr.add
      split
      · rename_i h0; subst h0; simpa using this
      · exact this
    · intro v' w' hown' hg _ hob
      have h2 : OwS El k w' B e v' (la ++ lb) := ⟨xs ++ ys, by rw [List.length_append, hr.len]; exact hown', (hra.append hrb).mono (hE w' hg)⟩
      obtain ⟨A', c', rfl⟩ := h2.form
      have h0 : (la ++ lb).length = N := by rw [List.length_append, hr.len]; exact hN
      rw [h0] at h2 hob ⊢
      exact h A' c' w' h2 hg (hbel w' hg) hob
end

theorem sq_one {α : Type} {El : World → List Value → α → Prop} {k : Nat} (w : World) (vs : List Value) (x : α) (E : TypeId) (fr : Nat × Nat) (hk : vs.length = k) (h : El (w.alloc (.cells vs.toArray E fr)) vs x) :
    Sq El k (w.alloc (.cells vs.toArray E fr)) (some ⟨w.heap.size, 0, none⟩) 1 1 [x] := by
  have hn : (w.alloc (.cells vs.toArray E fr)).heap[w.heap.size]? = some (.cells vs.toArray E fr) := heap_alloc_new w _
  refine ⟨rfl, Nat.le_refl _, by omega, fun h => by simp at h, fun _ => ⟨_, _, rfl, (Array.getElem?_eq_some_iff.1 hn).1, fun i y hi => ?_⟩⟩
  cases i with
  | succ i => simp at hi
  | zero =>
    simp at hi
    subst hi
    refine ⟨vs, hk, h, fun j v hj => ?_⟩
    simp only [World.cell?, hn]
    simpa using hj
end Go.Proofs.YtokdnhdfmgfkeaaGreatDoor
end
