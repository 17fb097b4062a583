/- Words of my own for slices that read as lists, kept over new memory. No program stands here. -/
import Derived.WalkKit
import Derived.WalkSpells
import Derived.Lib.Hide
import Derived.Deep.AppendLies
import Derived.Deep.Draws
import Derived.Laws.AppendOwnNone
import Derived.Maps.AppendAt
import Derived.ChangeSlices
import Derived.Lib.SlBytesConst
namespace Go.Proofs.YtcecmbbhjaeodaaGreatDoor
open Go.RowKit

/-- The slice value '.slice A n c' reads in w as the cells xs. -/
structure Rd (w : World) (A : Option Addr) (n c : Nat) (xs : List Value) : Prop where
  len : xs.length = n
  le : n ≤ c
  max : c ≤ 9223372036854775807
  nil : A = none → n = 0 ∧ c = 0
  cell : 0 < n → ∃ b off, A = some ⟨b, off, none⟩ ∧ b < w.heap.size ∧ ∀ j u, xs[j]? = some u → w.cell? ⟨b, off + j, none⟩ = some u

theorem Rd.none_ (w : World) : Rd w none 0 0 [] := ⟨rfl, by omega, by omega, fun _ => ⟨rfl, rfl⟩, fun h => absurd h (by omega)⟩

section
variable {w w' : World} {A : Option Addr} {n c : Nat} {xs : List Value}

theorem Rd.keep (h : Rd w A n c xs) (hs : w.heap.size ≤ w'.heap.size) (hk : ∀ p : Addr, p.block < w.heap.size → w'.cell? p = w.cell? p) : Rd w' A n c xs :=
  ⟨h.len, h.le, h.max, h.nil, fun hn => by
    obtain ⟨b, off, e, hb, hc⟩ := h.cell hn
    exact ⟨b, off, e, by omega, fun j u hu => (hk _ hb).trans (hc j u hu)⟩⟩

theorem Rd.below (h : Rd w A n c xs) (hb : Below w.heap.size w w') : Rd w' A n c xs := h.keep hb.size fun _ hp => hb.cell hp

theorem Rd.at_ {k : Nat} (h : Rd w A n c xs) (hk : k < n) :
    ∃ b off u, A = some ⟨b, off, none⟩ ∧ b < w.heap.size ∧ xs[k]? = some u ∧ w.cell? ⟨b, off + k, none⟩ = some u := by
  obtain ⟨b, off, e, hb, hc⟩ := h.cell (by omega)
  have hl : k < xs.length := by have := h.len; omega
  exact ⟨b, off, xs[k], e, hb, List.getElem?_eq_getElem hl, hc k _ (List.getElem?_eq_getElem hl)⟩
end

/-- Bytes as cells. -/
def bv (l : List UInt8) : List Value := l.map fun x => Value.int .u8 (x.toNat : Int)

@[simp] theorem bv_length (l : List UInt8) : (bv l).length = l.length := by simp [bv]
@[simp] theorem bv_nil : bv [] = [] := rfl
@[simp] theorem bv_append (a b : List UInt8) : bv (a ++ b) = bv a ++ bv b := by simp [bv]
theorem bv_get {l : List UInt8} {k : Nat} {u : Value} (h : (bv l)[k]? = some u) : ∃ x : UInt8, l[k]? = some x ∧ u = .int .u8 (x.toNat : Int) := by
  simp only [bv, List.getElem?_map, Option.map_eq_some_iff] at h
  obtain ⟨x, hx, rfl⟩ := h
  exact ⟨x, hx, rfl⟩

/-- A slice of bytes that reads as a list. -/
def Bs (w : World) (A : Option Addr) (n c : Nat) (l : List UInt8) : Prop := Rd w A n c (bv l)

section
variable {w w' : World} {A : Option Addr} {n c : Nat} {l : List UInt8}
theorem Bs.len (h : Bs w A n c l) : l.length = n := by simpa using Rd.len h
theorem Bs.below (h : Bs w A n c l) (hb : Below w.heap.size w w') : Bs w' A n c l := Rd.below h hb
theorem Bs.at_ {k : Nat} (h : Bs w A n c l) (hk : k < n) :
    ∃ b off, ∃ x : UInt8, A = some ⟨b, off, none⟩ ∧ b < w.heap.size ∧ l[k]? = some x ∧ x.toNat < 256 ∧ w.cell? ⟨b, off + k, none⟩ = some (.int .u8 (x.toNat : Int)) := by
  obtain ⟨b, off, u, e, hb, hx, hc⟩ := Rd.at_ h hk
  obtain ⟨x, hx2, rfl⟩ := bv_get hx
  exact ⟨b, off, x, e, hb, hx2, x.toNat_lt, hc⟩
end

theorem take_snoc {α : Type} {l : List α} {k : Nat} {x : α} (h : l[k]? = some x) : l.take (k + 1) = l.take k ++ [x] := by
  rw [List.take_add_one, h]; rfl

theorem ret_int {k : IntKind} {a b : Int} (h : a = b) : Ending.returned (.int k a) = .returned (.int k b) := by rw [h]
theorem val_int {k : IntKind} {a b : Int} (h : a = b) : Value.int k a = .int k b := by rw [h]
theorem ret_bool {a b : Bool} (h : a = b) : Ending.returned (.bool a) = .returned (.bool b) := by rw [h]
theorem val_bool {a b : Bool} (h : a = b) : Value.bool a = .bool b := by rw [h]


/-- A row of bytes of the call's own. -/
def OwB (w : World) (B E : Nat) (v : Value) (l : List UInt8) : Prop := w.ownsRow B E 1 v l.length (bv l)

theorem rd_of_own {w : World} {B E : Nat} {A : Option Addr} {n c : Nat} {xs : List Value} (h : w.ownsRow B E 1 (.slice A n c) n xs) : Rd w A n c xs := by
  obtain ⟨hl, h⟩ := h
  rcases h with ⟨hv, rfl⟩ | ⟨g, cap, cur, hv, hB, hh, hnc, hm, hs, ht⟩
  · injection hv with h1 h2 h3
    subst h1; subst h3
    have : xs = [] := List.eq_nil_of_length_eq_zero (by simpa using hl)
    subst this
    exact Rd.none_ w
  · injection hv with h1 h2 h3
    subst h1; subst h3
    have hg : g < w.heap.size := by
      rcases Nat.lt_or_ge g w.heap.size with hlt | hge
      · exact hlt
      · rw [Array.getElem?_eq_none hge] at hh; cases hh
    refine ⟨by simpa using hl, hnc, by unfold maxLen at hm; omega, fun h => by simp at h, fun _ => ⟨g, 0, rfl, hg, fun j u hu => ?_⟩⟩
    rw [← ht] at hu
    rw [List.getElem?_take] at hu
    split at hu
    · simp only [World.cell?, hh, Nat.zero_add]
      simpa using hu
    · cases hu

theorem OwB.bs {w : World} {B E : Nat} {A : Option Addr} {n c : Nat} {l : List UInt8} (h : OwB w B E (.slice A n c) l) : Bs w A n c l := by
  have hn : n = l.length := by
    rcases h.2 with ⟨hv, h0⟩ | ⟨g, cap, cur, hv, _⟩
    · injection hv with _ h2 _; omega
    · injection hv
  subst hn
  exact rd_of_own h

theorem ownsRow_form {w : World} {B E n : Nat} {v : Value} {xs : List Value} (h : w.ownsRow B E 1 v n xs) : ∃ A c, v = .slice A n c := by
  rcases h.2 with ⟨rfl, rfl⟩ | ⟨g, cap, cur, rfl, _⟩
  · exact ⟨_, _, rfl⟩
  · exact ⟨_, _, rfl⟩

/-- Behind an append to a row of the call's own all that lies below is as it was. -/
theorem below_of_grown {w w' : World} {B E size n : Nat} {v : Value} {xs : List Value} (h : w.ownsRow B E size v n xs) (hB : B ≤ w.heap.size) (hg : w.grownBy w' v.ownBlock) : Below B w w' :=
  (Below.refl B w).grown hg hB (fun k hk => (h.lt k hk).1)

section
variable {P : Program} {ops : Array Oper} {rest : List Oper} {o : Oper} {a : Act} {Q : Exit → Act → World → Prop}

/-- 'append(x, y...)', x a row of the call's own, y any slice that reads as a list. -/
theorem wpList_append_rd (w : World) (hgd : o.guard = none) (s x : Operand) (t : TypeId)
    (ho : o.op = .call { callee := .builtin .append, args := #[s, x], argTypes := #[t, t] })
    (B : Nat) (e : TypeId) (z : Value) (bytes : Nat) (ht : P.underlying t = some (.slice e))
    (hinfo : (P.info? e).map (fun i => (i.zero, i.size, i.bytes)) = some (some z, 1, bytes)) (hzs : z.cells.size = 1)
    (v : Value) (n : Nat) (xs : List Value) (hs : a.eval s = v) (hown : w.ownsRow B e 1 v n xs)
    (A : Option Addr) (m c : Nat) (news : List Value) (hx : a.eval x = .slice A m c) (hr : Rd w A m c news) (h1 : ∀ u ∈ news, u.oneCell' = true)
    (hbytes : (n + m) * bytes ≤ 140737488355328) (h63 : n + m ≤ 140737488355328) (hB : B ≤ w.heap.size)
    (h : ∀ A' c' w', w'.ownsRow B e 1 (.slice A' (n + m) c') (n + m) (xs ++ news) → w.grownBy w' v.ownBlock → Below B w w' → ((Value.slice A' (n + m) c').ownBlock = v.ownBlock ∨ (Value.slice A' (n + m) c').ownBlock = some w.heap.size) → wpList P ops Q rest (a.put o.dst (.slice A' (n + m) c')) w') :
    wpList P ops Q (o :: rest) a w := by
  obtain ⟨i, hi, hz, hsz, hby⟩ := info_parts hinfo
  rcases A with _ | ad
  · obtain ⟨rfl, rfl⟩ := hr.nil rfl
    have hn : news = [] := List.eq_nil_of_length_eq_zero hr.len
    subst hn
    refine wpList_append_own_none hgd s x t ho B e i 1 ht hi v n xs hs hown hx ?_
    obtain ⟨A', c', rfl⟩ := ownsRow_form hown
    exact h A' c' w (by simpa using hown) (World.grownBy.refl _ _) (Below.refl _ _) (.inl rfl)
  · refine wpList_append_own_at w hgd s x t ho B e i z 1 bytes ht hi hz hsz hby hzs (by omega) v n xs hs hown ad m c news hx (by simpa using hr.len) ?_ h1 (by unfold maxLen; omega) hbytes hB ?_
    · intro j u hu
      have hm : 0 < m := by
        have := hr.len
        have := (List.getElem?_eq_some_iff.1 hu).1
        omega
      obtain ⟨b, off, he, _, hc⟩ := hr.cell hm
      injection he with he
      subst he
      have := hc j u hu
      unfold Addr.add
      split
      · rename_i h0; subst h0; simpa using this
      · exact this
    · intro v' w' hown' hg _ hat
      obtain ⟨A', c', rfl⟩ := ownsRow_form hown'
      exact h A' c' w' hown' hg (below_of_grown hown hB hg) hat
end

theorem bv_oneCell (l : List UInt8) : ∀ u ∈ bv l, u.oneCell' = true := by
  intro u hu
  simp only [bv, List.mem_map] at hu
  obtain ⟨x, _, rfl⟩ := hu
  rfl

/-- What came in as a slice of bytes reads as a list. -/
theorem bs_of_ints {w : World} {x : Addr} {len cap : Nat} {zs : List Int} (hl : len ≤ cap) (hm : cap ≤ maxLen) (hz : zs.length = cap)
    (hc : ∀ i, i < zs.length → w.cell? (x.add i) = some (.int .u8 (zs.getD i 0))) (hwf : ∀ n ∈ zs, (Lit.int .u8 n).wf = true) :
    ∃ l : List UInt8, Bs w (some x) len cap l := by
  have hwf' : ∀ n ∈ zs, 0 ≤ n ∧ n < 256 := by
    intro n hn
    have := hwf n hn
    simp [Lit.wf, IntKind.min, IntKind.max, IntKind.signed, IntKind.bits] at this
    omega
  refine ⟨(zs.take len).map fun z => UInt8.ofNat z.toNat, by simp; omega, hl, by unfold maxLen at hm; omega, fun h => by simp at h, fun hn => ?_⟩
  obtain ⟨b, off, spot⟩ := x
  have h0 := hc 0 (by omega)
  have hspot : spot = none := by simpa [Addr.add] using World.cell?_spot h0
  subst hspot
  refine ⟨b, off, rfl, World.block_lt_of_cell? w _ h0, fun j u hu => ?_⟩
  obtain ⟨x, hx, rfl⟩ := bv_get hu
  rw [List.getElem?_map, Option.map_eq_some_iff] at hx
  obtain ⟨z, hz', rfl⟩ := hx
  rw [List.getElem?_take] at hz'
  split at hz'
  · rename_i hj
    have hjz : j < zs.length := by omega
    have h2 := hc j hjz
    have hget : zs.getD j 0 = z := by rw [List.getD_eq_getElem?_getD, hz']; rfl
    have hmem : z ∈ zs := List.mem_of_getElem? hz'
    obtain ⟨h0, h256⟩ := hwf' z hmem
    rw [hget] at h2
    have e : ((UInt8.ofNat z.toNat).toNat : Int) = z := by
      rw [UInt8.toNat_ofNat']
      omega
    rw [e]
    unfold Addr.add at h2
    split at h2
    · rename_i h0; subst h0; simpa using h2
    · exact h2
  · cases hz'

theorem bs_of_trod {H : Type} {enc : TypeId × Value → H} {P : Program} {w : World} {t e : TypeId} {a : Option Addr} {n c : Nat} {d : DataW H} {p : List MemPlace}
    (ht : P.underlying t = some (.slice e)) (he : P.underlying e = some (.int .u8)) (hc : P.cellsOf e = 1)
    (h : DataW.Trod enc P w 0 (fun _ => true) true t (.slice a n c) d p) : ∃ l : List UInt8, Bs w a n c l := by
  obtain ⟨fuel, hf⟩ := h
  rcases ChangeShapes.open_ints ht he hc hf with ⟨hcs, _⟩ | ⟨x, l, cc, zs, hcs, _, hl, hm, hz, _, hcell, hwz⟩
  · simp [Value.cells] at hcs
    obtain ⟨rfl, rfl, rfl⟩ := hcs
    exact ⟨[], Rd.none_ w⟩
  · simp [Value.cells] at hcs
    obtain ⟨rfl, rfl, rfl⟩ := hcs
    exact bs_of_ints hl hm (by simpa using hz) hcell hwz

/-- A literal in a new block. -/
theorem bs_lit (w : World) (C : Array Value) (E : TypeId) (fr : Nat × Nat) (l : List UInt8) (n : Nat) (hn : l.length = n) (hn2 : n ≤ 9223372036854775807) (hC : C.toList = bv l) :
    Bs (w.alloc (.cells C E fr)) (some ⟨w.heap.size, 0, none⟩) n n l := by
  refine ⟨by simpa using hn, Nat.le_refl _, hn2, fun h => by simp at h, fun _ => ⟨_, _, rfl, by simp, fun j u hu => ?_⟩⟩
  have hh : (w.alloc (.cells C E fr)).heap[w.heap.size]? = some (.cells C E fr) := heap_alloc_new w _
  rw [← hC, Array.getElem?_toList] at hu
  simp only [World.cell?, hh, Nat.zero_add]
  simpa using hu

theorem owb_lit (w : World) (B : Nat) (hB : B ≤ w.heap.size) (C : Array Value) (E : TypeId) (l : List UInt8) (n : Nat) (hn : l.length = n) (hn2 : n ≤ 9223372036854775807) (hC : C.toList = bv l) :
    OwB (w.alloc (.cells C E)) B E (.slice (some ⟨w.heap.size, 0, none⟩) n n) l := by
  subst hn
  have hs : C.size = l.length := by
    have := congrArg List.length hC
    simpa using this
  refine ⟨by simp, .inr ⟨_, _, C, rfl, hB, heap_alloc_new w _, Nat.le_refl _, by unfold maxLen; omega, by omega, ?_⟩⟩
  rw [hC, List.take_of_length_le (by simp)]

theorem below_alloc (w : World) (o : Obj) : Below w.heap.size w (w.alloc o) := (Below.refl _ _).alloc (Nat.le_refl _) o

/-- The walk stands still here: it does not know this word. -/
def Stop (p : Prop) : Prop := p
theorem stop_here {p : Prop} (h : Stop p) : p := h
theorem Stop.go {p : Prop} (h : p) : Stop p := h

section
variable {P : Program} {ops : Array Oper} {rest : List Oper} {o : Oper} {a : Act} {Q : Exit → Act → World → Prop}

/-- 'append(x, y...)' at bytes, x a row of the call's own. -/
theorem append_bytes (w : World) (t e : TypeId) (ht : P.underlying t = some (.slice e))
    (hinfo : (P.info? e).map (fun i => (i.zero, i.size, i.bytes)) = some (some (.int .u8 0), 1, 1))
    (hgd : o.guard = none) (s x : Operand)
    (ho : o.op = .call { callee := .builtin .append, args := #[s, x], argTypes := #[t, t] })
    (B : Nat) (v : Value) (la : List UInt8) (hs : a.eval s = v) (hown : OwB w B e v la)
    (A : Option Addr) (m c : Nat) (lb : List UInt8) (hx : a.eval x = .slice A m c) (hr : Bs w A m c lb)
    (N : Nat) (hN : la.length + m = N) (hsz : N ≤ 140737488355328) (hB : B ≤ w.heap.size)
    (h : ∀ A' c' w', OwB w' B e (.slice A' N c') (la ++ lb) → w.grownBy w' v.ownBlock → Below B w w' → wpList P ops Q rest (a.put o.dst (.slice A' N c')) w') :
    wpList P ops Q (o :: rest) a w := by
  refine wpList_append_rd w hgd s x t ho B e (.int .u8 0) 1 ht hinfo rfl v la.length (bv la) hs hown A m c (bv lb) hx hr (bv_oneCell lb) (by omega) (by omega) hB ?_
  intro A' c' w' h1 h2 h3 _
  have hl := hr.len
  rw [hN] at h1 ⊢
  refine h A' c' w' ?_ h2 h3
  unfold OwB
  rw [bv_append, List.length_append, show la.length + lb.length = N from by omega]
  exact h1
end

theorem OwB.rd_len {w : World} {B E : Nat} {A : Option Addr} {n c : Nat} {l : List UInt8} (h : OwB w B E (.slice A n c) l) : l.length = n := h.bs.len

/-- A byte of a row of the call's own: read, and written. -/
theorem OwB.at_ {w : World} {B E : Nat} {A : Option Addr} {n c k : Nat} {l : List UInt8} (h : OwB w B E (.slice A n c) l) (hk : k < n) :
    ∃ g, ∃ x : UInt8, A = some ⟨g, 0, none⟩ ∧ B ≤ g ∧ g < w.heap.size ∧ l[k]? = some x ∧ x.toNat < 256 ∧ w.cell? ⟨g, k, none⟩ = some (.int .u8 (x.toNat : Int)) ∧ w.frozen? ⟨g, k, none⟩ = false ∧
      ∀ y : UInt8, OwB (w.setCell ⟨g, k, none⟩ (.int .u8 (y.toNat : Int))) B E (.slice A n c) (l.set k y) := by
  have hl := h.rd_len
  subst hl
  rcases h.2 with ⟨hv, h0⟩ | ⟨g, cap, cur, hv, hB, hh, _⟩
  · omega
  · injection hv with h1 _ h3
    subst h1; subst h3
    have hg : g < w.heap.size := by
      rcases Nat.lt_or_ge g w.heap.size with hlt | hge
      · exact hlt
      · rw [Array.getElem?_eq_none hge] at hh; cases hh
    have hx : l[k]? = some l[k] := List.getElem?_eq_getElem hk
    refine ⟨g, l[k], rfl, hB, hg, hx, l[k].toNat_lt, ?_, World.ownsRow.frozenAt h k, fun y => ?_⟩
    · rw [World.ownsRow.cellAt h k (by omega)]
      simp [bv, hx]
    · have := (World.ownsRow.stored h k (.int .u8 (y.toNat : Int))).1
      unfold OwB
      rw [List.length_set]
      have e : bv (l.set k y) = (bv l).set k (.int .u8 (y.toNat : Int)) := by simp [bv, List.map_set]
      rw [e]
      exact this

theorem OwB.lt {w : World} {B E : Nat} {v : Value} {l : List UInt8} (h : OwB w B E v l) : ∀ k, v.ownBlock = some k → B ≤ k ∧ k < w.heap.size := World.ownsRow.lt h

/-! Slices of slices of bytes. -/

/-- The value u is a slice of bytes that reads as l, and lies in another block than blk. -/
def El (w : World) (blk : Option Nat) (u : Value) (l : List UInt8) : Prop := ∃ A n c, u = .slice A n c ∧ Bs w A n c l ∧ ∀ a, A = some a → 0 < n → some a.block ≠ blk

theorem El.below {w w' : World} {blk : Option Nat} {u : Value} {l : List UInt8} (h : El w blk u l) (hb : Below w.heap.size w w') : El w' blk u l := by
  obtain ⟨A, n, c, rfl, hbs, hne⟩ := h
  exact ⟨A, n, c, rfl, hbs.below hb, hne⟩

theorem El.oneCell {w : World} {blk : Option Nat} {u : Value} {l : List UInt8} (h : El w blk u l) : u.oneCell' = true := by
  obtain ⟨A, n, c, rfl, _⟩ := h
  rfl

theorem El.of_bs {w : World} {A : Option Addr} {n c : Nat} {l : List UInt8} (h : Bs w A n c l) : El w none (.slice A n c) l := ⟨A, n, c, rfl, h, fun a _ _ => by simp⟩

theorem El.far {w : World} {blk blk' : Option Nat} {u : Value} {l : List UInt8} (h : El w blk u l) (hblk : blk' = blk ∨ blk' = some w.heap.size) : El w blk' u l := by
  obtain ⟨A, n, c, rfl, hbs, hne⟩ := h
  refine ⟨A, n, c, rfl, hbs, fun a ha hn => ?_⟩
  rcases hblk with rfl | rfl
  · exact hne a ha hn
  · obtain ⟨b, off, e, hlt, _⟩ := Rd.cell hbs hn
    rw [ha] at e
    injection e with e
    subst e
    simp only [ne_eq, Option.some.injEq]
    omega

theorem Rd.grown {w w' : World} {A : Option Addr} {n c : Nat} {xs : List Value} {row : Option Nat} (h : Rd w A n c xs) (hg : w.grownBy w' row) (hne : ∀ a, A = some a → 0 < n → some a.block ≠ row) : Rd w' A n c xs :=
  ⟨h.len, h.le, h.max, h.nil, fun hn => by
    obtain ⟨b, off, rfl, hb, hc⟩ := h.cell hn
    exact ⟨b, off, rfl, Nat.lt_of_lt_of_le hb hg.size, fun j u hu => hg.cell (hc j u hu) (by have := hne _ rfl hn; exact this)⟩⟩

theorem El.grown {w w' : World} {blk : Option Nat} {u : Value} {l : List UInt8} (h : El w blk u l) (hg : w.grownBy w' blk) : El w' blk u l := by
  obtain ⟨A, n, c, rfl, hbs, hne⟩ := h
  exact ⟨A, n, c, rfl, Rd.grown hbs hg hne, hne⟩

theorem El.grown_at {w w' : World} {blk blk' : Option Nat} {u : Value} {l : List UInt8} (h : El w blk u l) (hg : w.grownBy w' blk) (hblk : blk' = blk ∨ blk' = some w.heap.size) : El w' blk' u l := by
  obtain ⟨A, n, c, rfl, hbs, hne⟩ := h
  refine ⟨A, n, c, rfl, Rd.grown hbs hg hne, ?_⟩
  obtain ⟨A', n', c', e, _, hne'⟩ := El.far ⟨A, n, c, rfl, hbs, hne⟩ hblk
  injection e with e1 e2 e3
  subst e1; subst e2; subst e3
  exact hne'

/-- A slice of slices of bytes that reads as ls. -/
def BsL (w : World) (A : Option Addr) (n c : Nat) (ls : List (List UInt8)) : Prop :=
  ∃ xs : List Value, Rd w A n c xs ∧ ls.length = n ∧ ∀ (j : Nat) (u : Value), xs[j]? = some u → ∃ l, ls[j]? = some l ∧ El w none u l

/-- A row of slices of bytes of the call's own. -/
def OwL (w : World) (B E : Nat) (v : Value) (ls : List (List UInt8)) : Prop :=
  ∃ xs : List Value, w.ownsRow B E 1 v ls.length xs ∧ ∀ (j : Nat) (u : Value), xs[j]? = some u → ∃ l, ls[j]? = some l ∧ El w v.ownBlock u l

section
variable {w w' : World} {A : Option Addr} {n c B E : Nat} {v : Value} {ls : List (List UInt8)}

theorem BsL.rd (h : BsL w A n c ls) : ∃ xs, Rd w A n c xs := let ⟨xs, h1, _⟩ := h; ⟨xs, h1⟩
theorem BsL.len (h : BsL w A n c ls) : ls.length = n := let ⟨_, _, h2, _⟩ := h; h2
theorem BsL.le (h : BsL w A n c ls) : n ≤ c := let ⟨_, h1, _⟩ := h; h1.le
theorem BsL.max (h : BsL w A n c ls) : c ≤ 9223372036854775807 := let ⟨_, h1, _⟩ := h; h1.max
theorem BsL.below (h : BsL w A n c ls) (hb : Below w.heap.size w w') : BsL w' A n c ls := by
  obtain ⟨xs, h1, h2, h3⟩ := h
  exact ⟨xs, h1.below hb, h2, fun j u hu => let ⟨l, hl, he⟩ := h3 j u hu; ⟨l, hl, he.below hb⟩⟩
theorem BsL.at_ {k : Nat} (h : BsL w A n c ls) (hk : k < n) :
    ∃ b off A' n' c' l, A = some ⟨b, off, none⟩ ∧ b < w.heap.size ∧ ls[k]? = some l ∧ w.cell? ⟨b, off + k, none⟩ = some (.slice A' n' c') ∧ Bs w A' n' c' l := by
  obtain ⟨xs, h1, h2, h3⟩ := h
  obtain ⟨b, off, u, e, hb, hx, hc⟩ := h1.at_ hk
  obtain ⟨l, hl, A', n', c', rfl, hbs, _⟩ := h3 k u hx
  exact ⟨b, off, A', n', c', l, e, hb, hl, hc, hbs⟩
theorem BsL.nil (w : World) : BsL w none 0 0 [] := ⟨[], Rd.none_ w, rfl, fun j u hu => by simp at hu⟩

theorem OwL.nil (w : World) (B E : Nat) : OwL w B E (.slice none 0 0) [] := ⟨[], World.ownsRow_nil w B E 1, fun j u hu => by simp at hu⟩
theorem OwL.bsl (h : OwL w B E (.slice A n c) ls) : BsL w A n c ls := by
  obtain ⟨xs, h1, h2⟩ := h
  have hn : n = ls.length := by
    rcases h1.2 with ⟨hv, h0⟩ | ⟨g, cap, cur, hv, _⟩
    · injection hv with _ h2 _; omega
    · injection hv
  subst hn
  refine ⟨xs, rd_of_own h1, rfl, fun j u hu => ?_⟩
  obtain ⟨l, hl, A', n', c', rfl, hbs, _⟩ := h2 j u hu
  exact ⟨l, hl, El.of_bs hbs⟩
theorem OwL.form (h : OwL w B E v ls) : ∃ A c, v = .slice A ls.length c := by
  obtain ⟨xs, h1, _⟩ := h
  rcases h1.2 with ⟨rfl, h0⟩ | ⟨g, cap, cur, rfl, _⟩
  · exact ⟨none, 0, by rw [h0]⟩
  · exact ⟨_, _, rfl⟩
theorem OwL.below (h : OwL w B E v ls) (hb : Below w.heap.size w w') : OwL w' B E v ls := by
  obtain ⟨xs, h1, h2⟩ := h
  refine ⟨xs, ?_, fun j u hu => let ⟨l, hl, he⟩ := h2 j u hu; ⟨l, hl, he.below hb⟩⟩
  exact h1.kept (row := none) ⟨hb.os, hb.tape, hb.output, hb.size, fun k hk _ => hb.block k hk⟩ (by
    rcases h1.2 with ⟨rfl, _⟩ | ⟨g, cap, cur, rfl, _⟩
    · exact .inl rfl
    · right; simp [Value.ownBlock])
theorem OwL.lt (h : OwL w B E v ls) : ∀ k, v.ownBlock = some k → B ≤ k ∧ k < w.heap.size := let ⟨_, h1, _⟩ := h; h1.lt
end

theorem OwB.below {w w' : World} {B E : Nat} {v : Value} {l : List UInt8} (h1 : OwB w B E v l) (hb : Below w.heap.size w w') : OwB w' B E v l :=
  World.ownsRow.kept (row := none) h1 ⟨hb.os, hb.tape, hb.output, hb.size, fun k hk _ => hb.block k hk⟩ (by
    rcases h1.2 with ⟨rfl, _⟩ | ⟨g, cap, cur, rfl, _⟩
    · exact .inl rfl
    · right; simp [Value.ownBlock])

theorem OwB.nil (w : World) (B E : Nat) : OwB w B E (.slice none 0 0) [] := World.ownsRow_nil w B E 1

section
variable {P : Program} {ops : Array Oper} {rest : List Oper} {o : Oper} {a : Act} {Q : Exit → Act → World → Prop}

/-- 'append(x, y)' of one slice of bytes: the walk lays it into a new block of one cell first. -/
theorem append_el (w : World) (t e : TypeId) (ht : P.underlying t = some (.slice e))
    (hinfo : (P.info? e).map (fun i => (i.zero, i.size, i.bytes)) = some (some (.slice none 0 0), 1, 24))
    (hgd : o.guard = none) (s x : Operand)
    (ho : o.op = .call { callee := .builtin .append, args := #[s, x], argTypes := #[t, t] })
    (B : Nat) (v : Value) (ls : List (List UInt8)) (hs : a.eval s = v) (hown : OwL w B e v ls)
    (u : Value) (l : List UInt8) (fr : Nat × Nat) (hx : a.eval x = .slice (some ⟨w.heap.size, 0, none⟩) 1 1) (hel : El w v.ownBlock u l)
    (N : Nat) (hN : ls.length + 1 = N) (hsz : N ≤ 4294967296) (hB : B ≤ w.heap.size)
    (h : ∀ A' c' w', OwL w' B e (.slice A' N c') (ls ++ [l]) → (w.alloc (.cells #[u] e fr)).grownBy w' v.ownBlock → Below B (w.alloc (.cells #[u] e fr)) w' → wpList P ops Q rest (a.put o.dst (.slice A' N c')) w') :
    wpList P ops Q (o :: rest) a (w.alloc (.cells #[u] e fr)) := by
  obtain ⟨xs, h1, h2⟩ := hown
  have hba := below_alloc w (.cells #[u] e fr)
  have hB' : B ≤ (w.alloc (.cells #[u] e fr)).heap.size := Nat.le_trans hB hba.size
  have hown1 : OwL (w.alloc (.cells #[u] e fr)) B e v ls := OwL.below ⟨xs, h1, h2⟩ hba
  obtain ⟨xs, h1, h2⟩ := hown1
  have hrd : Rd (w.alloc (.cells #[u] e fr)) (some ⟨w.heap.size, 0, none⟩) 1 1 [u] := by
    refine ⟨rfl, by omega, by omega, fun h => by simp at h, fun _ => ⟨_, _, rfl, by simp, fun j z hz => ?_⟩⟩
    have hh : (w.alloc (.cells #[u] e fr)).heap[w.heap.size]? = some (.cells #[u] e fr) := heap_alloc_new w _
    simp only [World.cell?, hh, Nat.zero_add]
    cases j with
    | zero => simpa using hz
    | succ j => simp at hz
  refine wpList_append_rd _ hgd s x t ho B e _ 24 ht hinfo rfl v ls.length xs hs h1 _ 1 1 [u] hx hrd (fun z hz => by simp at hz; subst hz; exact hel.oneCell) (by omega) (by omega) hB' ?_
  intro A' c' w' k1 k2 k3 k4
  rw [hN] at k1 k4 ⊢
  have hel1 := (hel.below hba)
  refine h A' c' w' ⟨xs ++ [u], by rw [List.length_append]; simpa [hN] using k1, fun j z hz => ?_⟩ k2 k3
  have hxl : xs.length = ls.length := by simpa using h1.1
  rcases Nat.lt_or_ge j xs.length with hj | hj
  · rw [List.getElem?_append_left hj] at hz
    obtain ⟨l', hl', he'⟩ := h2 j z hz
    exact ⟨l', by rw [List.getElem?_append_left (by omega)]; exact hl', he'.grown_at k2 k4⟩
  · rw [List.getElem?_append_right hj] at hz
    have hj0 : j - xs.length = 0 := by
      have := (List.getElem?_eq_some_iff.1 hz).1
      simp at this
      omega
    rw [hj0] at hz
    simp at hz
    subst hz
    exact ⟨l, by rw [List.getElem?_append_right (by omega), show j - ls.length = 0 from by omega]; rfl, hel1.grown_at k2 k4⟩
end

/-- Rows of bytes one behind the other, behind a name. -/
def cat (ls : List (List UInt8)) : List UInt8 := ls.flatten

theorem cat_take {ls : List (List UInt8)} {k : Nat} {l : List UInt8} (h : ls[k]? = some l) : cat (ls.take (k + 1)) = cat (ls.take k) ++ l := by
  unfold cat; rw [take_snoc h]; simp

theorem cat_take_le (ls : List (List UInt8)) (k : Nat) : (cat (ls.take k)).length ≤ (cat ls).length := by
  have h := congrArg (fun l : List (List UInt8) => l.flatten.length) (List.take_append_drop k ls)
  simp only [List.flatten_append, List.length_append] at h
  unfold cat
  omega

theorem ownsRow_base {w : World} {B B' E size n : Nat} {v : Value} {xs : List Value} (h : w.ownsRow B E size v n xs) (hb : B' ≤ B) : w.ownsRow B' E size v n xs :=
  ⟨h.1, h.2.elim .inl fun ⟨g, cap, cur, hv, hg, r⟩ => .inr ⟨g, cap, cur, hv, Nat.le_trans hb hg, r⟩⟩
theorem OwB.base {w : World} {B B' E : Nat} {v : Value} {l : List UInt8} (h : OwB w B E v l) (hb : B' ≤ B) : OwB w B' E v l := ownsRow_base h hb
theorem OwL.base {w : World} {B B' E : Nat} {v : Value} {ls : List (List UInt8)} (h : OwL w B E v ls) (hb : B' ≤ B) : OwL w B' E v ls :=
  let ⟨xs, h1, h2⟩ := h; ⟨xs, ownsRow_base h1 hb, h2⟩

/-- A piece of a slice that came in: what the model makes of its address where the piece begins at the capacity's end is kept. -/
theorem Rd.cut {w : World} {A : Option Addr} {n c : Nat} {xs : List Value} (h : Rd w A n c xs) (lo hi : Nat) (h1 : lo ≤ hi) (h2 : hi ≤ n) (A' : Option Addr)
    (hA : ∀ b off, A = some ⟨b, off, none⟩ → lo < c → A' = some ⟨b, off + lo, none⟩) (hA0 : A = none → A' = none) (hA1 : A ≠ none → A' ≠ none) :
    Rd w A' (hi - lo) (c - lo) ((xs.drop lo).take (hi - lo)) := by
  have hl := h.len
  have hle := h.le
  have hm := h.max
  refine ⟨by simp; omega, by omega, by omega, fun h0 => ?_, fun hn => ?_⟩
  · have hAn : A = none := by
      apply Classical.byContradiction
      intro hne
      exact hA1 hne h0
    have := h.nil hAn
    omega
  · obtain ⟨b, off, rfl, hb, hc⟩ := h.cell (by omega)
    refine ⟨b, off + lo, hA b off rfl (by omega), hb, fun j u hu => ?_⟩
    rw [List.getElem?_take] at hu
    split at hu
    · rw [List.getElem?_drop] at hu
      have := hc (lo + j) u hu
      rw [← Nat.add_assoc] at this
      exact this
    · cases hu

theorem bv_drop (l : List UInt8) (k : Nat) : bv (l.drop k) = (bv l).drop k := by simp [bv]
theorem bv_take (l : List UInt8) (k : Nat) : bv (l.take k) = (bv l).take k := by simp [bv]

theorem Bs.cut {w : World} {A : Option Addr} {n c : Nat} {l : List UInt8} (h : Bs w A n c l) (lo hi : Nat) (h1 : lo ≤ hi) (h2 : hi ≤ n) (A' : Option Addr)
    (hA : ∀ b off, A = some ⟨b, off, none⟩ → lo < c → A' = some ⟨b, off + lo, none⟩) (hA0 : A = none → A' = none) (hA1 : A ≠ none → A' ≠ none) :
    Bs w A' (hi - lo) (c - lo) ((l.drop lo).take (hi - lo)) := by
  unfold Bs
  rw [bv_take, bv_drop]
  exact Rd.cut h lo hi h1 h2 A' hA hA0 hA1

/-- Bytes as a string. -/
def strOf (l : List UInt8) : ByteArray := ⟨l.toArray⟩

theorem Bs.conv {P : Program} {w : World} {A : Option Addr} {n c : Nat} {l : List UInt8} (h : Bs w A n c l) {src dst e : TypeId}
    (hs : P.underlying src = some (.slice e)) (he : P.underlying e = some (.int .u8)) (hd : P.underlying dst = some .string) :
    (convert src dst (.slice A n c)).run P w = .ok (.string (strOf l)) w := by
  have hl := h.len
  rcases A with _ | a
  · obtain ⟨rfl, rfl⟩ := Rd.nil h rfl
    have : l = [] := List.eq_nil_of_length_eq_zero hl
    subst this
    exact run_convert_bytes_nil w src e hs he 0 0 dst hd
  · have e1 : (l.map fun x => (x.toNat : Int)).map (Value.int .u8) = bv l := by simp [bv]
    have hload : (loadCells a n).run P w = .ok ((l.map fun x => (x.toNat : Int)).map (Value.int .u8)).toArray w := by
      rw [e1]
      have := run_loadCells_list (P := P) w a (bv l) (fun j v hj => by
        have hn : 0 < n := by
          have := (List.getElem?_eq_some_iff.1 hj).1
          simp at this
          omega
        obtain ⟨b, off, ea, _, hc⟩ := Rd.cell h hn
        injection ea with ea
        subst ea
        have := hc j v hj
        unfold Addr.add
        split
        · rename_i h0; subst h0; simpa using this
        · exact this)
      simpa [hl] using this
    rw [run_convert_bytes_string w src dst e _ n c hs he hd, run_bytesToString w a n c _ hload, foldl_push_bytes]
    simp [strOf, ByteArray.empty, ByteArray.emptyWithCapacity, List.map_map, Function.comp_def]
    rfl

/-! Rows of slices whose elements lie below the row. -/

def ElB (w : World) (B : Nat) (u : Value) (l : List UInt8) : Prop := ∃ A n c, u = .slice A n c ∧ Bs w A n c l ∧ ∀ a, A = some a → 0 < n → a.block < B

def OwLB (w : World) (B E : Nat) (v : Value) (ls : List (List UInt8)) : Prop :=
  ∃ xs : List Value, w.ownsRow B E 1 v ls.length xs ∧ ∀ (j : Nat) (u : Value), xs[j]? = some u → ∃ l, ls[j]? = some l ∧ ElB w B u l

section
variable {w w' : World} {B E : Nat} {v : Value} {ls : List (List UInt8)}
theorem ElB.grown {u : Value} {l : List UInt8} {row : Option Nat} (h : ElB w B u l) (hg : w.grownBy w' row) (hr : ∀ k, row = some k → B ≤ k) : ElB w' B u l := by
  obtain ⟨A, n, c, rfl, hbs, hne⟩ := h
  exact ⟨A, n, c, rfl, Rd.grown hbs hg (fun a ha hn he => by have := hr _ he.symm; have := hne a ha hn; omega), hne⟩
theorem OwLB.nil (w : World) (B E : Nat) : OwLB w B E (.slice none 0 0) [] := ⟨[], World.ownsRow_nil w B E 1, fun j u hu => by simp at hu⟩
theorem OwLB.grown {row : Option Nat} (h : OwLB w B E v ls) (hg : w.grownBy w' row) (hr : ∀ k, row = some k → B ≤ k) (hne : v.ownBlock = none ∨ v.ownBlock ≠ row) : OwLB w' B E v ls := by
  obtain ⟨xs, h1, h2⟩ := h
  exact ⟨xs, h1.kept hg hne, fun j u hu => let ⟨l, hl, he⟩ := h2 j u hu; ⟨l, hl, he.grown hg hr⟩⟩
theorem grown_of_below (hb : Below w.heap.size w w') : w.grownBy w' none := ⟨hb.os, hb.tape, hb.output, hb.size, fun k hk _ => hb.block k hk⟩
theorem own_none_or {n size : Nat} {xs : List Value} (h : w.ownsRow B E size v n xs) : v.ownBlock = none ∨ v.ownBlock ≠ none := by
  rcases h.2 with ⟨rfl, _⟩ | ⟨g, cap, cur, rfl, _⟩
  · exact .inl rfl
  · right; simp [Value.ownBlock]
theorem OwLB.below (h : OwLB w B E v ls) (hb : Below w.heap.size w w') : OwLB w' B E v ls :=
  h.grown (grown_of_below hb) (fun k hk => by cases hk) (let ⟨_, h1, _⟩ := h; own_none_or h1)
theorem OwLB.owl (h : OwLB w B E v ls) : OwL w B E v ls := by
  obtain ⟨xs, h1, h2⟩ := h
  refine ⟨xs, h1, fun j u hu => ?_⟩
  obtain ⟨l, hl, A, n, c, rfl, hbs, hne⟩ := h2 j u hu
  refine ⟨l, hl, A, n, c, rfl, hbs, fun a ha hn he => ?_⟩
  have h3 := (h1.lt _ he.symm).1
  have h4 := hne a ha hn
  omega
theorem OwLB.lt (h : OwLB w B E v ls) : ∀ k, v.ownBlock = some k → B ≤ k ∧ k < w.heap.size := let ⟨_, h1, _⟩ := h; h1.lt

/-- Rows of different element types lie in different blocks. -/
theorem own_ne {B' E' n n' size size' : Nat} {v' : Value} {xs xs' : List Value} (h : w.ownsRow B E size v n xs) (h' : w.ownsRow B' E' size' v' n' xs') (hE : E ≠ E') : v.ownBlock = none ∨ v.ownBlock ≠ v'.ownBlock := by
  rcases h.2 with ⟨rfl, _⟩ | ⟨g, cap, cur, rfl, _, hh, _⟩
  · exact .inl rfl
  · right
    rcases h'.2 with ⟨rfl, _⟩ | ⟨g', cap', cur', rfl, _, hh', _⟩
    · simp [Value.ownBlock]
    · intro he
      simp only [Value.ownBlock, Option.some.injEq] at he
      subst he
      rw [hh] at hh'
      injection hh' with hh'
      injection hh' with _ h2
      exact hE h2
end

theorem BsL.elB {w : World} {A : Option Addr} {n c : Nat} {l : List UInt8} {B : Nat} (h : Bs w A n c l) (hlt : ∀ b off, A = some ⟨b, off, none⟩ → 0 < n → b < B) : ElB w B (.slice A n c) l :=
  ⟨A, n, c, rfl, h, fun a ha hn => by
    obtain ⟨b, off, e, _, _⟩ := Rd.cell h hn
    rw [ha] at e
    injection e with e
    subst e
    exact hlt b off ha hn⟩

/-- A slice that read in an earlier world lies below that world's end. -/
theorem Bs.elB {w w' : World} {A : Option Addr} {n c : Nat} {l : List UInt8} (h : Bs w A n c l) (hb : Below w.heap.size w w') : ElB w' w.heap.size (.slice A n c) l :=
  ⟨A, n, c, rfl, h.below hb, fun a ha hn => by
    obtain ⟨b, off, e, hlt, _⟩ := Rd.cell h hn
    rw [ha] at e
    injection e with e
    subst e
    exact hlt⟩

section
variable {P : Program} {ops : Array Oper} {rest : List Oper} {o : Oper} {a : Act} {Q : Exit → Act → World → Prop}

/-- 'append(x, y)' of one slice of bytes that lies below the row. -/
theorem append_elB (w : World) (t e : TypeId) (ht : P.underlying t = some (.slice e))
    (hinfo : (P.info? e).map (fun i => (i.zero, i.size, i.bytes)) = some (some (.slice none 0 0), 1, 24))
    (hgd : o.guard = none) (s x : Operand)
    (ho : o.op = .call { callee := .builtin .append, args := #[s, x], argTypes := #[t, t] })
    (B : Nat) (v : Value) (ls : List (List UInt8)) (hs : a.eval s = v) (hown : OwLB w B e v ls)
    (u : Value) (l : List UInt8) (fr : Nat × Nat) (hx : a.eval x = .slice (some ⟨w.heap.size, 0, none⟩) 1 1) (hel : ElB w B u l)
    (N : Nat) (hN : ls.length + 1 = N) (hsz : N ≤ 4294967296) (hB : B ≤ w.heap.size)
    (h : ∀ A' c' w', OwLB w' B e (.slice A' N c') (ls ++ [l]) → (w.alloc (.cells #[u] e fr)).grownBy w' v.ownBlock → Below B (w.alloc (.cells #[u] e fr)) w' → wpList P ops Q rest (a.put o.dst (.slice A' N c')) w') :
    wpList P ops Q (o :: rest) a (w.alloc (.cells #[u] e fr)) := by
  have hba := below_alloc w (.cells #[u] e fr)
  have hB' : B ≤ (w.alloc (.cells #[u] e fr)).heap.size := Nat.le_trans hB hba.size
  have hown1 := hown.below hba
  have hel1 : ElB (w.alloc (.cells #[u] e fr)) B u l := hel.grown (grown_of_below hba) (fun k hk => by cases hk)
  obtain ⟨xs, h1, h2⟩ := hown1
  have hrd : Rd (w.alloc (.cells #[u] e fr)) (some ⟨w.heap.size, 0, none⟩) 1 1 [u] := by
    refine ⟨rfl, by omega, by omega, fun h => by simp at h, fun _ => ⟨_, _, rfl, by simp, fun j z hz => ?_⟩⟩
    have hh : (w.alloc (.cells #[u] e fr)).heap[w.heap.size]? = some (.cells #[u] e fr) := heap_alloc_new w _
    simp only [World.cell?, hh, Nat.zero_add]
    cases j with
    | zero => simpa using hz
    | succ j => simp at hz
  have hone : u.oneCell' = true := by obtain ⟨A, n, c, rfl, _⟩ := hel; rfl
  refine wpList_append_rd _ hgd s x t ho B e _ 24 ht hinfo rfl v ls.length xs hs h1 _ 1 1 [u] hx hrd (fun z hz => by simp at hz; subst hz; exact hone) (by omega) (by omega) hB' ?_
  intro A' c' w' k1 k2 k3 _
  rw [hN] at k1 ⊢
  have hr : ∀ k, v.ownBlock = some k → B ≤ k := fun k hk => (h1.lt k hk).1
  refine h A' c' w' ⟨xs ++ [u], by rw [List.length_append]; simpa [hN] using k1, fun j z hz => ?_⟩ k2 k3
  have hxl : xs.length = ls.length := by simpa using h1.1
  rcases Nat.lt_or_ge j xs.length with hj | hj
  · rw [List.getElem?_append_left hj] at hz
    obtain ⟨l', hl', he'⟩ := h2 j z hz
    exact ⟨l', by rw [List.getElem?_append_left (by omega)]; exact hl', he'.grown k2 hr⟩
  · rw [List.getElem?_append_right hj] at hz
    have hj0 : j - xs.length = 0 := by
      have := (List.getElem?_eq_some_iff.1 hz).1
      simp at this
      omega
    rw [hj0] at hz
    simp at hz
    subst hz
    exact ⟨l, by rw [List.getElem?_append_right (by omega), show j - ls.length = 0 from by omega]; rfl, hel1.grown k2 hr⟩
end

theorem cat_le {ls : List (List UInt8)} {M : Nat} (h : ∀ l ∈ ls, l.length ≤ M) : (cat ls).length ≤ ls.length * M := by
  induction ls with
  | nil => simp [cat]
  | cons l ls ih =>
    have h1 := h l (by simp)
    have h2 := ih (fun x hx => h x (by simp [hx]))
    unfold cat at h2 ⊢
    simp only [List.flatten_cons, List.length_append, List.length_cons, Nat.add_mul]
    omega

theorem le_cat {ls : List (List UInt8)} {l : List UInt8} (h : l ∈ ls) : l.length ≤ (cat ls).length := by
  induction ls with
  | nil => simp at h
  | cons x ls ih =>
    unfold cat at ih ⊢
    simp only [List.flatten_cons, List.length_append]
    rcases List.mem_cons.1 h with rfl | h
    · omega
    · have := ih h; omega

theorem cat_small {ls : List (List UInt8)} (h : ∀ l ∈ ls, l.length ≤ 140737488351232) (hl : ls.length ≤ 1000) : (cat ls).length ≤ 9223372036854775807 := by
  have h1 := cat_le h
  have h2 : ls.length * 140737488351232 ≤ 1000 * 140737488351232 := Nat.mul_le_mul_right _ hl
  omega

end Go.Proofs.YtcecmbbhjaeodaaGreatDoor
