/- Words of my own for slices that read as lists, kept over new memory. No program stands here. -/
import Derived.WalkKit
import Derived.WalkSpells
import Derived.Lib.Hide
import Derived.Deep.AppendLies
import Derived.Deep.Draws
import Derived.Laws.AppendOwnNone
import Derived.ChangeSlices
import Derived.Lib.SlBytesConst
namespace Go.Proofs.Yteljgmeahpeneaa
open Go.RowKit

/-- The slice value '.slice A n c' reads in w as the cells xs. -/
structure Rd (w : World) (A : Option Addr) (n c : Nat) (xs : List Value) : Prop where
  len : xs.length = n
  le : n ≤ c
  max : c ≤ 9223372036854775807
  nil : A = none → n = 0 ∧ c = 0
  cell : 0 < n → ∃ b off, A = some ⟨b, off, none⟩ ∧ b < w.heap.size ∧ ∀ j u, xs[j]? = some u → w.cell? ⟨b, off + j, none⟩ = some u

theorem Rd.none_ (w : World) : Rd w none 0 0 [] := ⟨rfl, by omega, by omega, fun _ => ⟨rfl, rfl⟩, fun h => absurd h (by omega)⟩

section
variable {w w' : World} {A : Option Addr} {n c : Nat} {xs : List Value}

theorem Rd.keep (h : Rd w A n c xs) (hs : w.heap.size ≤ w'.heap.size) (hk : ∀ p : Addr, p.block < w.heap.size → w'.cell? p = w.cell? p) : Rd w' A n c xs :=
  ⟨h.len, h.le, h.max, h.nil, fun hn => by
    obtain ⟨b, off, e, hb, hc⟩ := h.cell hn
    exact ⟨b, off, e, by omega, fun j u hu => (hk _ hb).trans (hc j u hu)⟩⟩

theorem Rd.below (h : Rd w A n c xs) (hb : Below w.heap.size w w') : Rd w' A n c xs := h.keep hb.size fun _ hp => hb.cell hp

theorem Rd.at_ {k : Nat} (h : Rd w A n c xs) (hk : k < n) :
    ∃ b off u, A = some ⟨b, off, none⟩ ∧ b < w.heap.size ∧ xs[k]? = some u ∧ w.cell? ⟨b, off + k, none⟩ = some u := by
  obtain ⟨b, off, e, hb, hc⟩ := h.cell (by omega)
  have hl : k < xs.length := by have := h.len; omega
  exact ⟨b, off, xs[k], e, hb, List.getElem?_eq_getElem hl, hc k _ (List.getElem?_eq_getElem hl)⟩
end

/-- Bytes as cells. -/
def bv (l : List UInt8) : List Value := l.map fun x => Value.int .u8 (x.toNat : Int)

@[simp] theorem bv_length (l : List UInt8) : (bv l).length = l.length := by simp [bv]
@[simp] theorem bv_nil : bv [] = [] := rfl
@[simp] theorem bv_append (a b : List UInt8) : bv (a ++ b) = bv a ++ bv b := by simp [bv]
theorem bv_get {l : List UInt8} {k : Nat} {u : Value} (h : (bv l)[k]? = some u) : ∃ x : UInt8, l[k]? = some x ∧ u = .int .u8 (x.toNat : Int) := by
  simp only [bv, List.getElem?_map, Option.map_eq_some_iff] at h
  obtain ⟨x, hx, rfl⟩ := h
  exact ⟨x, hx, rfl⟩

/-- A slice of bytes that reads as a list. -/
def Bs (w : World) (A : Option Addr) (n c : Nat) (l : List UInt8) : Prop := Rd w A n c (bv l)

section
variable {w w' : World} {A : Option Addr} {n c : Nat} {l : List UInt8}
theorem Bs.len (h : Bs w A n c l) : l.length = n := by simpa using Rd.len h
theorem Bs.below (h : Bs w A n c l) (hb : Below w.heap.size w w') : Bs w' A n c l := Rd.below h hb
theorem Bs.at_ {k : Nat} (h : Bs w A n c l) (hk : k < n) :
    ∃ b off, ∃ x : UInt8, A = some ⟨b, off, none⟩ ∧ b < w.heap.size ∧ l[k]? = some x ∧ x.toNat < 256 ∧ w.cell? ⟨b, off + k, none⟩ = some (.int .u8 (x.toNat : Int)) := by
  obtain ⟨b, off, u, e, hb, hx, hc⟩ := Rd.at_ h hk
  obtain ⟨x, hx2, rfl⟩ := bv_get hx
  exact ⟨b, off, x, e, hb, hx2, x.toNat_lt, hc⟩
end

theorem take_snoc {α : Type} {l : List α} {k : Nat} {x : α} (h : l[k]? = some x) : l.take (k + 1) = l.take k ++ [x] := by
  rw [List.take_add_one, h]; rfl

theorem ret_int {k : IntKind} {a b : Int} (h : a = b) : Ending.returned (.int k a) = .returned (.int k b) := by rw [h]
theorem val_int {k : IntKind} {a b : Int} (h : a = b) : Value.int k a = .int k b := by rw [h]
theorem ret_bool {a b : Bool} (h : a = b) : Ending.returned (.bool a) = .returned (.bool b) := by rw [h]
theorem val_bool {a b : Bool} (h : a = b) : Value.bool a = .bool b := by rw [h]


/-- A row of bytes of the call's own. -/
def OwB (w : World) (B E : Nat) (v : Value) (l : List UInt8) : Prop := w.ownsRow B E 1 v l.length (bv l)

theorem rd_of_own {w : World} {B E : Nat} {A : Option Addr} {n c : Nat} {xs : List Value} (h : w.ownsRow B E 1 (.slice A n c) n xs) : Rd w A n c xs := by
  obtain ⟨hl, h⟩ := h
  rcases h with ⟨hv, rfl⟩ | ⟨g, cap, cur, hv, hB, hh, hnc, hm, hs, ht⟩
  · injection hv with h1 h2 h3
    subst h1; subst h3
    have : xs = [] := List.eq_nil_of_length_eq_zero (by simpa using hl)
    subst this
    exact Rd.none_ w
  · injection hv with h1 h2 h3
    subst h1; subst h3
    have hg : g < w.heap.size := by
      rcases Nat.lt_or_ge g w.heap.size with hlt | hge
      · exact hlt
      · rw [Array.getElem?_eq_none hge] at hh; cases hh
    refine ⟨by simpa using hl, hnc, by unfold maxLen at hm; omega, fun h => by simp at h, fun _ => ⟨g, 0, rfl, hg, fun j u hu => ?_⟩⟩
    rw [← ht] at hu
    rw [List.getElem?_take] at hu
    split at hu
    · simp only [World.cell?, hh, Nat.zero_add]
      simpa using hu
    · cases hu

theorem OwB.bs {w : World} {B E : Nat} {A : Option Addr} {n c : Nat} {l : List UInt8} (h : OwB w B E (.slice A n c) l) : Bs w A n c l := by
  have hn : n = l.length := by
    rcases h.2 with ⟨hv, h0⟩ | ⟨g, cap, cur, hv, _⟩
    · injection hv with _ h2 _; omega
    · injection hv
  subst hn
  exact rd_of_own h

theorem ownsRow_form {w : World} {B E n : Nat} {v : Value} {xs : List Value} (h : w.ownsRow B E 1 v n xs) : ∃ A c, v = .slice A n c := by
  rcases h.2 with ⟨rfl, rfl⟩ | ⟨g, cap, cur, rfl, _⟩
  · exact ⟨_, _, rfl⟩
  · exact ⟨_, _, rfl⟩

/-- Behind an append to a row of the call's own all that lies below is as it was. -/
theorem below_of_grown {w w' : World} {B E size n : Nat} {v : Value} {xs : List Value} (h : w.ownsRow B E size v n xs) (hB : B ≤ w.heap.size) (hg : w.grownBy w' v.ownBlock) : Below B w w' :=
  (Below.refl B w).grown hg hB (fun k hk => (h.lt k hk).1)

section
variable {P : Program} {ops : Array Oper} {rest : List Oper} {o : Oper} {a : Act} {Q : Exit → Act → World → Prop}

/-- 'append(x, y...)', x a row of the call's own, y any slice that reads as a list. -/
theorem wpList_append_rd (w : World) (hgd : o.guard = none) (s x : Operand) (t : TypeId)
    (ho : o.op = .call { callee := .builtin .append, args := #[s, x], argTypes := #[t, t] })
    (B : Nat) (e : TypeId) (z : Value) (bytes : Nat) (ht : P.underlying t = some (.slice e))
    (hinfo : (P.info? e).map (fun i => (i.zero, i.size, i.bytes)) = some (some z, 1, bytes)) (hzs : z.cells.size = 1)
    (v : Value) (n : Nat) (xs : List Value) (hs : a.eval s = v) (hown : w.ownsRow B e 1 v n xs)
    (A : Option Addr) (m c : Nat) (news : List Value) (hx : a.eval x = .slice A m c) (hr : Rd w A m c news) (h1 : ∀ u ∈ news, u.oneCell' = true)
    (hbytes : (n + m) * bytes ≤ 140737488355328) (h63 : n + m ≤ 140737488355328) (hB : B ≤ w.heap.size)
    (h : ∀ A' c' w', w'.ownsRow B e 1 (.slice A' (n + m) c') (n + m) (xs ++ news) → w.grownBy w' v.ownBlock → Below B w w' → wpList P ops Q rest (a.put o.dst (.slice A' (n + m) c')) w') :
    wpList P ops Q (o :: rest) a w := by
  obtain ⟨i, hi, hz, hsz, hby⟩ := info_parts hinfo
  rcases A with _ | ad
  · obtain ⟨rfl, rfl⟩ := hr.nil rfl
    have hn : news = [] := List.eq_nil_of_length_eq_zero hr.len
    subst hn
    refine wpList_append_own_none hgd s x t ho B e i 1 ht hi v n xs hs hown hx ?_
    obtain ⟨A', c', rfl⟩ := ownsRow_form hown
    exact h A' c' w (by simpa using hown) (World.grownBy.refl _ _) (Below.refl _ _)
  · refine wpList_append_own w hgd s x t ho B e i z 1 bytes ht hi hz hsz hby hzs (by omega) v n xs hs hown ad m c news hx (by simpa using hr.len) ?_ h1 (by unfold maxLen; omega) hbytes hB ?_
    · intro j u hu
      have hm : 0 < m := by
        have := hr.len
        have := (List.getElem?_eq_some_iff.1 hu).1
        omega
      obtain ⟨b, off, he, _, hc⟩ := hr.cell hm
      injection he with he
      subst he
      have := hc j u hu
      unfold Addr.add
      split
      · rename_i h0; subst h0; simpa using this
      · exact this
    · intro v' w' hown' hg _
      obtain ⟨A', c', rfl⟩ := ownsRow_form hown'
      exact h A' c' w' hown' hg (below_of_grown hown hB hg)
end

theorem bv_oneCell (l : List UInt8) : ∀ u ∈ bv l, u.oneCell' = true := by
  intro u hu
  simp only [bv, List.mem_map] at hu
  obtain ⟨x, _, rfl⟩ := hu
  rfl

/-- What came in as a slice of bytes reads as a list. -/
theorem bs_of_ints {w : World} {x : Addr} {len cap : Nat} {zs : List Int} (hl : len ≤ cap) (hm : cap ≤ maxLen) (hz : zs.length = cap)
    (hc : ∀ i, i < zs.length → w.cell? (x.add i) = some (.int .u8 (zs.getD i 0))) (hwf : ∀ n ∈ zs, (Lit.int .u8 n).wf = true) :
    ∃ l : List UInt8, Bs w (some x) len cap l := by
  have hwf' : ∀ n ∈ zs, 0 ≤ n ∧ n < 256 := by
    intro n hn
    have := hwf n hn
    simp [Lit.wf, IntKind.min, IntKind.max, IntKind.signed, IntKind.bits] at this
    omega
  refine ⟨(zs.take len).map fun z => UInt8.ofNat z.toNat, by simp; omega, hl, by unfold maxLen at hm; omega, fun h => by simp at h, fun hn => ?_⟩
  obtain ⟨b, off, spot⟩ := x
  have h0 := hc 0 (by omega)
  have hspot : spot = none := by simpa [Addr.add] using World.cell?_spot h0
  subst hspot
  refine ⟨b, off, rfl, World.block_lt_of_cell? w _ h0, fun j u hu => ?_⟩
  obtain ⟨x, hx, rfl⟩ := bv_get hu
  rw [List.getElem?_map, Option.map_eq_some_iff] at hx
  obtain ⟨z, hz', rfl⟩ := hx
  rw [List.getElem?_take] at hz'
  split at hz'
  · rename_i hj
    have hjz : j < zs.length := by omega
    have h2 := hc j hjz
    have hget : zs.getD j 0 = z := by rw [List.getD_eq_getElem?_getD, hz']; rfl
    have hmem : z ∈ zs := List.mem_of_getElem? hz'
    obtain ⟨h0, h256⟩ := hwf' z hmem
    rw [hget] at h2
    have e : ((UInt8.ofNat z.toNat).toNat : Int) = z := by
      rw [UInt8.toNat_ofNat']
      omega
    rw [e]
    unfold Addr.add at h2
    split at h2
    · rename_i h0; subst h0; simpa using h2
    · exact h2
  · cases hz'

theorem bs_of_trod {H : Type} {enc : TypeId × Value → H} {P : Program} {w : World} {t e : TypeId} {a : Option Addr} {n c : Nat} {d : DataW H} {p : List MemPlace}
    (ht : P.underlying t = some (.slice e)) (he : P.underlying e = some (.int .u8)) (hc : P.cellsOf e = 1)
    (h : DataW.Trod enc P w 0 (fun _ => true) true t (.slice a n c) d p) : ∃ l : List UInt8, Bs w a n c l := by
  obtain ⟨fuel, hf⟩ := h
  rcases ChangeShapes.open_ints ht he hc hf with ⟨hcs, _⟩ | ⟨x, l, cc, zs, hcs, _, hl, hm, hz, _, hcell, hwz⟩
  · simp [Value.cells] at hcs
    obtain ⟨rfl, rfl, rfl⟩ := hcs
    exact ⟨[], Rd.none_ w⟩
  · simp [Value.cells] at hcs
    obtain ⟨rfl, rfl, rfl⟩ := hcs
    exact bs_of_ints hl hm (by simpa using hz) hcell hwz

/-- A literal in a new block. -/
theorem bs_lit (w : World) (C : Array Value) (E : TypeId) (fr : Nat × Nat) (l : List UInt8) (n : Nat) (hn : l.length = n) (hn2 : n ≤ 9223372036854775807) (hC : C.toList = bv l) :
    Bs (w.alloc (.cells C E fr)) (some ⟨w.heap.size, 0, none⟩) n n l := by
  refine ⟨by simpa using hn, Nat.le_refl _, hn2, fun h => by simp at h, fun _ => ⟨_, _, rfl, by simp, fun j u hu => ?_⟩⟩
  have hh : (w.alloc (.cells C E fr)).heap[w.heap.size]? = some (.cells C E fr) := heap_alloc_new w _
  rw [← hC, Array.getElem?_toList] at hu
  simp only [World.cell?, hh, Nat.zero_add]
  simpa using hu

theorem owb_lit (w : World) (B : Nat) (hB : B ≤ w.heap.size) (C : Array Value) (E : TypeId) (l : List UInt8) (n : Nat) (hn : l.length = n) (hn2 : n ≤ 9223372036854775807) (hC : C.toList = bv l) :
    OwB (w.alloc (.cells C E)) B E (.slice (some ⟨w.heap.size, 0, none⟩) n n) l := by
  subst hn
  have hs : C.size = l.length := by
    have := congrArg List.length hC
    simpa using this
  refine ⟨by simp, .inr ⟨_, _, C, rfl, hB, heap_alloc_new w _, Nat.le_refl _, by unfold maxLen; omega, by omega, ?_⟩⟩
  rw [hC, List.take_of_length_le (by simp)]

theorem below_alloc (w : World) (o : Obj) : Below w.heap.size w (w.alloc o) := (Below.refl _ _).alloc (Nat.le_refl _) o

/-- The walk stands still here: it does not know this word. -/
def Stop (p : Prop) : Prop := p
theorem stop_here {p : Prop} (h : Stop p) : p := h
theorem Stop.go {p : Prop} (h : p) : Stop p := h

section
variable {P : Program} {ops : Array Oper} {rest : List Oper} {o : Oper} {a : Act} {Q : Exit → Act → World → Prop}

/-- 'append(x, y...)' at bytes, x a row of the call's own. -/
theorem append_bytes (w : World) (t e : TypeId) (ht : P.underlying t = some (.slice e))
    (hinfo : (P.info? e).map (fun i => (i.zero, i.size, i.bytes)) = some (some (.int .u8 0), 1, 1))
    (hgd : o.guard = none) (s x : Operand)
    (ho : o.op = .call { callee := .builtin .append, args := #[s, x], argTypes := #[t, t] })
    (B : Nat) (v : Value) (la : List UInt8) (hs : a.eval s = v) (hown : OwB w B e v la)
    (A : Option Addr) (m c : Nat) (lb : List UInt8) (hx : a.eval x = .slice A m c) (hr : Bs w A m c lb)
    (N : Nat) (hN : la.length + m = N) (hsz : N ≤ 140737488355328) (hB : B ≤ w.heap.size)
    (h : ∀ A' c' w', OwB w' B e (.slice A' N c') (la ++ lb) → w.grownBy w' v.ownBlock → Below B w w' → wpList P ops Q rest (a.put o.dst (.slice A' N c')) w') :
    wpList P ops Q (o :: rest) a w := by
  refine wpList_append_rd w hgd s x t ho B e (.int .u8 0) 1 ht hinfo rfl v la.length (bv la) hs hown A m c (bv lb) hx hr (bv_oneCell lb) (by omega) (by omega) hB ?_
  intro A' c' w' h1 h2 h3
  have hl := hr.len
  rw [hN] at h1 ⊢
  refine h A' c' w' ?_ h2 h3
  unfold OwB
  rw [bv_append, List.length_append, show la.length + lb.length = N from by omega]
  exact h1
end

theorem OwB.rd_len {w : World} {B E : Nat} {A : Option Addr} {n c : Nat} {l : List UInt8} (h : OwB w B E (.slice A n c) l) : l.length = n := h.bs.len

/-- A byte of a row of the call's own: read, and written. -/
theorem OwB.at_ {w : World} {B E : Nat} {A : Option Addr} {n c k : Nat} {l : List UInt8} (h : OwB w B E (.slice A n c) l) (hk : k < n) :
    ∃ g, ∃ x : UInt8, A = some ⟨g, 0, none⟩ ∧ B ≤ g ∧ g < w.heap.size ∧ l[k]? = some x ∧ x.toNat < 256 ∧ w.cell? ⟨g, k, none⟩ = some (.int .u8 (x.toNat : Int)) ∧ w.frozen? ⟨g, k, none⟩ = false ∧
      ∀ y : UInt8, OwB (w.setCell ⟨g, k, none⟩ (.int .u8 (y.toNat : Int))) B E (.slice A n c) (l.set k y) := by
  have hl := h.rd_len
  subst hl
  rcases h.2 with ⟨hv, h0⟩ | ⟨g, cap, cur, hv, hB, hh, _⟩
  · omega
  · injection hv with h1 _ h3
    subst h1; subst h3
    have hg : g < w.heap.size := by
      rcases Nat.lt_or_ge g w.heap.size with hlt | hge
      · exact hlt
      · rw [Array.getElem?_eq_none hge] at hh; cases hh
    have hx : l[k]? = some l[k] := List.getElem?_eq_getElem hk
    refine ⟨g, l[k], rfl, hB, hg, hx, l[k].toNat_lt, ?_, World.ownsRow.frozenAt h k, fun y => ?_⟩
    · rw [World.ownsRow.cellAt h k (by omega)]
      simp [bv, hx]
    · have := (World.ownsRow.stored h k (.int .u8 (y.toNat : Int))).1
      unfold OwB
      rw [List.length_set]
      have e : bv (l.set k y) = (bv l).set k (.int .u8 (y.toNat : Int)) := by simp [bv, List.map_set]
      rw [e]
      exact this

theorem OwB.lt {w : World} {B E : Nat} {v : Value} {l : List UInt8} (h : OwB w B E v l) : ∀ k, v.ownBlock = some k → B ≤ k ∧ k < w.heap.size := World.ownsRow.lt h

end Go.Proofs.Yteljgmeahpeneaa
