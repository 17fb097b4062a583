/- slices.IndexFunc and slices.DeleteFunc at strings, over a predicate that may lay memory. -/
import Derived.Test.YtfdpnjebhllpkaaGreatDoorProg
import Derived.Test.YtfdpnjebhllpkaaGreatDoorMStrLaws
import Derived.Test.YtfdpnjebhllpkaaGreatDoorMDkLaw
import Derived.Maps.RangeWalk
import Derived.StringKeys
import Derived.Lib.SmallJoins
import Derived.Lib.SliceRun
section
namespace Go.Proofs.YtfdpnjebhllpkaaGreatDoor.Dk
open Go.RowKit Go.ChangeMaps

/-- The row's block is none of such elements. -/
def NoE (E : TypeId) (w : World) (row : Option Nat) : Prop := ∀ r, row = some r → ∀ cs fr, w.heap[r]? ≠ some (.cells cs E fr)
theorem NoE.none {E : TypeId} {w : World} : NoE E w Option.none := fun _ h => by cases h
theorem NoE.of {E : TypeId} {w : World} {b : Nat} {o : Obj} (h : w.heap[b]? = some o) (hne : ∀ cs fr, o ≠ .cells cs E fr) : NoE E w (some b) := by
  intro r hr cs fr he
  injection hr with hr
  subst hr
  rw [h] at he
  injection he with he
  exact hne cs fr he

theorem row_kept {w w' : World} {B E s n : Nat} {v : Value} {xs : List Value} {row : Option Nat} (h : w.ownsRow B E s v n xs) (hg : w.grownBy w' row) (hn : NoE E w row) : w'.ownsRow B E s v n xs := by
  refine h.kept hg ?_
  rcases h.2 with ⟨rfl, _⟩ | ⟨g, cap, cur, rfl, _, hh, _⟩
  · exact .inl rfl
  · refine .inr fun he => ?_
    exact hn g he.symm _ _ hh

/-- A trouble's three cells. -/
def trC (t : Tr) : List Value := [.int .i64 t.1, .int .i64 t.2.1, .int .i64 t.2.2]
def trf (l : List Tr) : List Value := l.flatMap trC

def FileAt (w : World) (B b : Nat) (f : Fl) : Prop := B ≤ b ∧ ∃ v, w.heap[b]? = some (.cells #[v, .int .i64 (f.safe : Nat)] 132) ∧ OwB w B 5 v f.data
theorem FileAt.lt {w : World} {B b : Nat} {f : Fl} (h : FileAt w B b f) : b < w.heap.size := by
  obtain ⟨_, v, h, _⟩ := h
  exact (Array.getElem?_eq_some_iff.1 h).1
theorem FileAt.kept {w w' : World} {B b : Nat} {f : Fl} {row : Option Nat} (h : FileAt w B b f) (hg : w.grownBy w' row) (hne : some b ≠ row) (hn : NoE 5 w row) : FileAt w' B b f := by
  have hlt := h.lt
  obtain ⟨h0, v, h1, h2⟩ := h
  exact ⟨h0, v, (hg.block b hlt hne).trans h1, row_kept h2 hg hn⟩

/-- A disk in memory: its block a, its map mb of the blocks L of files F, its troubles tv. -/
structure Da (w : World) (B a mb : Nat) (L : Al Nat) (F : Nat → Fl) (tv : Value) (d : D) : Prop where
  base : B ≤ a ∧ B ≤ mb
  blk : w.heap[a]? = some (.cells #[.int .i64 (d.room : Nat), .map (some mb), tv, .int .i64 (d.ops : Nat), .bool d.down] 113)
  own : w.ownsMap Tryz.prog 9 ptrElem mb L.length (mp L)
  fs : d.fs = L.map fun p => (p.1, F p.2)
  up : Up L
  files : ∀ p ∈ L, FileAt w B p.2 (F p.2)
  nd : (L.map (·.2)).Nodup
  tr : w.ownsRow B 121 3 tv d.tr.length (trf d.tr)

section
variable {w w' : World} {B a mb : Nat} {L : Al Nat} {F : Nat → Fl} {tv : Value} {d : D}

theorem Da.alt (h : Da w B a mb L F tv d) : a < w.heap.size := (Array.getElem?_eq_some_iff.1 h.blk).1
theorem Da.mlt (h : Da w B a mb L F tv d) : mb < w.heap.size := h.own.lt
theorem Da.mblk (h : Da w B a mb L F tv d) : ∃ es cl, w.heap[mb]? = some (.map es cl) := by
  obtain ⟨es, cl, h1, _⟩ := h.own
  exact ⟨es, cl, h1⟩
theorem Da.am (h : Da w B a mb L F tv d) : a ≠ mb := by
  rintro rfl
  obtain ⟨es, cl, h1⟩ := h.mblk
  rw [h.blk] at h1
  cases h1
theorem Da.fa (h : Da w B a mb L F tv d) {p : Name × Nat} (hp : p ∈ L) : p.2 ≠ a := by
  intro e
  obtain ⟨_, v, h1, _⟩ := h.files p hp
  rw [e, h.blk] at h1
  injection h1 with h1
  injection h1 with _ h2 _
  exact absurd h2 (by decide)
theorem Da.fm (h : Da w B a mb L F tv d) {p : Name × Nat} (hp : p ∈ L) : p.2 ≠ mb := by
  intro e
  obtain ⟨_, v, h1, _⟩ := h.files p hp
  obtain ⟨es, cl, h2⟩ := h.mblk
  rw [e, h2] at h1
  cases h1

theorem Da.kept {row : Option Nat} (h : Da w B a mb L F tv d) (hg : w.grownBy w' row) (h1 : some a ≠ row) (h2 : some mb ≠ row) (h3 : ∀ p ∈ L, some p.2 ≠ row) (hb : NoE 5 w row) (ht : NoE 121 w row) : Da w' B a mb L F tv d :=
  ⟨h.base, (hg.block a h.alt h1).trans h.blk, h.own.kept hg h2, h.fs, h.up, fun p hp => (h.files p hp).kept hg (h3 p hp) hb, h.nd, row_kept h.tr hg ht⟩
theorem Da.below (h : Da w B a mb L F tv d) (hb : Below w.heap.size w w') : Da w' B a mb L F tv d :=
  h.kept (grown_of_below hb) (by simp) (by simp) (by simp) NoE.none NoE.none

theorem grown_set (w : World) (p : Addr) (x : Value) : w.grownBy (w.setCell p x) (some p.block) := by
  refine ⟨rfl, rfl, rfl, by simp [World.setCell], fun k hk hne => ?_⟩
  have : p.block ≠ k := fun e => hne (by rw [e])
  simp [World.setCell, Array.getElem?_modify, this]
theorem below_row {row : Nat} (hg : w.grownBy w' (some row)) (hB : B ≤ row) (hs : B ≤ w.heap.size) : Below B w w' :=
  ⟨hg.os, hg.tape, hg.output, hg.size, fun k hk => hg.block k (by omega) (by simp; omega)⟩

/-- The disk's own block has turned. -/
theorem Da.setA (h : Da w B a mb L F tv d) (hg : w.grownBy w' (some a)) {tv' : Value} {tr' : List Tr} {ops' : Nat} {down' : Bool}
    (hblk : w'.heap[a]? = some (.cells #[.int .i64 (d.room : Nat), .map (some mb), tv', .int .i64 (ops' : Nat), .bool down'] 113))
    (htr : w'.ownsRow B 121 3 tv' tr'.length (trf tr')) : Da w' B a mb L F tv' { d with tr := tr', ops := ops', down := down' } :=
  have hb : NoE 5 w (some a) := NoE.of h.blk (by intro cs fr e; injection e with _ e2 _; exact absurd e2 (by decide))
  ⟨h.base, hblk, h.own.kept hg (by simp; exact fun e => h.am e.symm), h.fs, h.up, fun p hp => (h.files p hp).kept hg (by simp; exact h.fa hp) hb, h.nd, htr⟩

theorem Da.noT (h : Da w B a mb L F tv d) : NoE 121 w (some a) := NoE.of h.blk (by intro cs fr e; injection e with _ e2 _; exact absurd e2 (by decide))

theorem setCell_blk {E : TypeId} {b i : Nat} {cs : Array Value} (h : w.heap[b]? = some (.cells cs E)) (v : Value) : (w.setCell ⟨b, i, none⟩ v).heap[b]? = some (.cells (cs.setIfInBounds i v) E) := by
  simp [World.setCell, Array.getElem?_modify, h]

theorem Da.setOps (h : Da w B a mb L F tv d) (n : Nat) : Da (w.setCell ⟨a, 3, none⟩ (.int .i64 (n : Nat))) B a mb L F tv { d with ops := n } ∧ Below B w (w.setCell ⟨a, 3, none⟩ (.int .i64 (n : Nat))) :=
  ⟨h.setA (grown_set w ⟨a, 3, none⟩ _) (setCell_blk h.blk _) (row_kept h.tr (grown_set w ⟨a, 3, none⟩ _) h.noT), below_row (grown_set w ⟨a, 3, none⟩ _) h.base.1 (Nat.le_trans h.base.1 (Nat.le_of_lt h.alt))⟩
theorem Da.setDown (h : Da w B a mb L F tv d) (b : Bool) : Da (w.setCell ⟨a, 4, none⟩ (.bool b)) B a mb L F tv { d with down := b } ∧ Below B w (w.setCell ⟨a, 4, none⟩ (.bool b)) :=
  ⟨h.setA (grown_set w ⟨a, 4, none⟩ _) (setCell_blk h.blk _) (row_kept h.tr (grown_set w ⟨a, 4, none⟩ _) h.noT), below_row (grown_set w ⟨a, 4, none⟩ _) h.base.1 (Nat.le_trans h.base.1 (Nat.le_of_lt h.alt))⟩

/-- A file's block has turned. -/
theorem Da.setF (h : Da w B a mb L F tv d) {nm : Name} {b : Nat} (hb : (nm, b) ∈ L) (hg : w.grownBy w' (some b)) {g : Fl → Fl} {v' : Value}
    (hblk : w'.heap[b]? = some (.cells #[v', .int .i64 ((g (F b)).safe : Nat)] 132)) (hv : OwB w' B 5 v' (g (F b)).data) :
    Da w' B a mb L (fun x => if x = b then g (F b) else F x) tv { d with fs := upd nm g d.fs } := by
  obtain ⟨hB, v, h1, h2⟩ := h.files _ hb
  have hbb : NoE 5 w (some b) := NoE.of h1 (by intro cs fr e; injection e with _ e2 _; exact absurd e2 (by decide))
  have hbt : NoE 121 w (some b) := NoE.of h1 (by intro cs fr e; injection e with _ e2 _; exact absurd e2 (by decide))
  have hinj : ∀ p ∈ L, p.2 = b → p = (nm, b) := by
    have : ∀ (l : Al Nat), (l.map (·.2)).Nodup → ∀ p ∈ l, ∀ q ∈ l, p.2 = q.2 → p = q := by
      intro l
      induction l with
      | nil => intro _ p hp; cases hp
      | cons x l ih =>
        intro hn p hp q hq e
        obtain ⟨hx, hn⟩ := List.nodup_cons.1 hn
        rcases List.mem_cons.1 hp with hp1 | hp1 <;> rcases List.mem_cons.1 hq with hq1 | hq1
        · rw [hp1, hq1]
        · exact absurd (List.mem_map.2 ⟨q, hq1, by rw [← e, hp1]⟩) hx
        · exact absurd (List.mem_map.2 ⟨p, hp1, by rw [e, hq1]⟩) hx
        · exact ih hn p hp1 q hq1 e
    exact fun p hp e => this L h.nd p hp (nm, b) hb e
  refine ⟨h.base, (hg.block a h.alt (by simp; exact fun e => h.fa hb e.symm)).trans h.blk, h.own.kept hg (by simp; exact fun e => h.fm hb e.symm), ?_, h.up, fun p hp => ?_, h.nd, row_kept h.tr hg hbt⟩
  · show upd nm g d.fs = _
    rw [h.fs]
    unfold upd
    rw [List.map_map]
    apply List.map_congr_left
    intro p hp
    simp only [Function.comp]
    by_cases e : p.2 = b
    · obtain rfl := hinj p hp e
      simp
    · rw [if_neg e, if_neg]
      intro e2
      have := get_of_mem h.up hp
      rw [e2, get_of_mem h.up hb] at this
      injection this with this
      exact e this.symm
  · by_cases e : p.2 = b
    · simp only [if_pos e]
      rw [e]
      exact ⟨hB, v', hblk, hv⟩
    · simp only [if_neg e]
      exact (h.files p hp).kept hg (by simp; exact e) hbb

theorem own_size {n : Nat} {L' : Al Nat} (h : w.ownsMap Tryz.prog 9 ptrElem mb n (mp L')) : w.ownsMap Tryz.prog 9 ptrElem mb L'.length (mp L') := by
  obtain ⟨es, cl, h1, h2, h3, h4⟩ := h
  refine ⟨es, cl, h1, h2, ?_, h4⟩
  have := mp_size L'
  rw [h4] at this
  simp [Maps.size, length_sorted] at this
  omega

/-- The map has turned. -/
theorem Da.setM (h : Da w B a mb L F tv d) (hg : w.grownBy w' (some mb)) {n : Nat} {L' : Al Nat} {F' : Nat → Fl} (hown : w'.ownsMap Tryz.prog 9 ptrElem mb n (mp L')) (hup : Up L') (hnd : (L'.map (·.2)).Nodup)
    (hfiles : ∀ p ∈ L', (p ∈ L ∧ F' p.2 = F p.2) ∨ FileAt w B p.2 (F' p.2)) : Da w' B a mb L' F' tv { d with fs := L'.map fun p => (p.1, F' p.2) } := by
  obtain ⟨es, cl, hm⟩ := h.mblk
  have hb : NoE 5 w (some mb) := NoE.of hm (by intro cs fr e; cases e)
  have ht : NoE 121 w (some mb) := NoE.of hm (by intro cs fr e; cases e)
  refine ⟨h.base, (hg.block a h.alt (by simp; exact h.am)).trans h.blk, own_size hown, rfl, hup, fun p hp => ?_, hnd, row_kept h.tr hg ht⟩
  have hf : FileAt w B p.2 (F' p.2) := by
    rcases hfiles p hp with ⟨h1, h2⟩ | h1
    · rw [h2]; exact h.files p h1
    · exact h1
  refine hf.kept hg ?_ hb
  obtain ⟨_, v, h1, _⟩ := hf
  simp
  intro e
  rw [e, hm] at h1
  cases h1

/-! ### Looking into the map -/
theorem law_str : Maps.Keyed Tryz.prog 9 := Maps.string_keyed Tryz.underlying9
theorem zero_ptr (w : World) : (zeroValue 130).run Tryz.prog w = .ok (.pointer none) w := by kernel_rfl

theorem Da.look (h : Da w B a mb L F tv d) (s : ByteArray) (hs : s.size ≤ maxLen) : (Instr.lookup 111 (.map (some mb)) (.string s) false).run Tryz.prog w = .ok (.pointer ((get L s.data.toList).map fun b => ⟨b, 0, none⟩)) w := by
  obtain ⟨v, ps, h1, h2⟩ := h.own.lookup law_str Tryz.underlying111 (zero_ptr w) (zd := .nil) (zp := []) rfl (WideMaps.keyOf_string_mk Tryz.underlying9 hs)
  rw [mp_at] at h2
  rw [h1]
  cases hg : get L s.data.toList with
  | none => rw [hg] at h2; rw [ptr_nil h2]; rfl
  | some b => rw [hg] at h2; rw [ptr_blk h2]; rfl
theorem Da.get (h : Da w B a mb L F tv d) (nm : Name) : Dk.get d.fs nm = (Dk.get L nm).map F := by rw [h.fs, get_map]
end
end Go.Proofs.YtfdpnjebhllpkaaGreatDoor.Dk
end

section
namespace Go.Proofs.YtfdpnjebhllpkaaGreatDoor.Mn
open Go.RowKit Dk

theorem setCell_blk {w : World} {g : Nat} {cs : Array Value} {E : TypeId} (h : w.heap[g]? = some (.cells cs E)) (i : Nat) (v : Value) : (w.setCell ⟨g, i, none⟩ v).heap[g]? = some (.cells (cs.setIfInBounds i v) E) := by
  simp [World.setCell, Array.getElem?_modify, h]
theorem setCells_blk {g : Nat} {E : TypeId} : ∀ (vs : List Value) (o : Nat) (w : World), (∃ cs, w.heap[g]? = some (.cells cs E)) → ∃ cs, (w.setCells g o vs).heap[g]? = some (.cells cs E)
  | [], _, _, h => h
  | v :: vs, o, w, ⟨_, h⟩ => setCells_blk vs (o + 1) _ ⟨_, setCell_blk h o v⟩
/-- A row of strings, in a block of its own. -/
def Hs (w : World) (A : Option Addr) (n c : Nat) (ss : List ByteArray) : Prop := Rd w A n c (ss.map .string) ∧ (0 < n → ∃ b cur, A = some ⟨b, 0, none⟩ ∧ w.heap[b]? = some (.cells cur 9))
/-- A row of strings that may be written to. -/
structure Ho (w : World) (g n : Nat) (ys : List ByteArray) : Prop where
  len : ys.length = n
  lt : g < w.heap.size
  blk : ∃ cur, w.heap[g]? = some (.cells cur 9)
  cell : ∀ (t : Nat) s, ys[t]? = some s → w.cell? ⟨g, t, none⟩ = some (.string s) ∧ w.frozen? ⟨g, t, none⟩ = false
theorem Ho.below {w w' : World} {g n : Nat} {ys : List ByteArray} (h : Ho w g n ys) (hb : Below w.heap.size w w') : Ho w' g n ys := by
  refine ⟨h.len, Nat.lt_of_lt_of_le h.lt hb.size, (by obtain ⟨cur, h1⟩ := h.blk; exact ⟨cur, (hb.block g h.lt).trans h1⟩), fun t s ht => ?_⟩
  obtain ⟨h1, h2⟩ := h.cell t s ht
  exact ⟨(hb.cell (p := ⟨g, t, none⟩) h.lt).trans h1, (hb.frozen (p := ⟨g, t, none⟩) h.lt).trans h2⟩
theorem Ho.set {w : World} {g n i : Nat} {ys : List ByteArray} (h : Ho w g n ys) (hi : i < n) (v : ByteArray) : Ho (w.setCell ⟨g, i, none⟩ (.string v)) g n (ys.set i v) := by
  have hl := h.len
  refine ⟨by simp [hl], Nat.lt_of_lt_of_le h.lt (grown_set w ⟨g, i, none⟩ (.string v)).size, (by obtain ⟨cur, h1⟩ := h.blk; exact ⟨_, setCell_blk h1 i (.string v)⟩), fun t s ht => ?_⟩
  rw [World.frozen?_setCell]
  by_cases e : t = i
  · subst e
    rw [List.getElem?_set_self (by omega)] at ht
    injection ht with ht
    subst ht
    obtain ⟨s0, hs0⟩ : ∃ s0, ys[t]? = some s0 := ⟨_, List.getElem?_eq_getElem (by omega)⟩
    obtain ⟨h1, h2⟩ := h.cell t s0 hs0
    exact ⟨World.cell?_setCell_same' _ _ _ (by rw [h1]; rfl), h2⟩
  · rw [List.getElem?_set_ne (fun h => e h.symm)] at ht
    obtain ⟨h1, h2⟩ := h.cell t s ht
    refine ⟨?_, h2⟩
    exact (World.cell?_setCell_other (w := w) (a := ⟨g, i, none⟩) (v := .string v) (b := ⟨g, t, none⟩) (by intro h9; injection h9 with _ h9 _; exact e h9.symm)).trans h1

theorem zeroStr (w : World) : (zeroValue 9).run Tryz.prog w = .ok (.string ByteArray.empty) w := by kernel_rfl
theorem below_cells {B b : Nat} {a : World} (hb : B ≤ b) : ∀ (vs : List Value) (o : Nat) (w : World), Below B a w → B ≤ w.heap.size → Below B a (w.setCells b o vs)
  | [], _, _, h, _ => h
  | v :: vs, o, w, h, hs => below_cells hb vs (o + 1) _ (h.trans (below_row (grown_set w ⟨b, o, none⟩ v) hb hs)) (Nat.le_trans hs (grown_set w ⟨b, o, none⟩ v).size)
theorem size_cells : ∀ (vs : List Value) (o b : Nat) (w : World), w.heap.size ≤ (w.setCells b o vs).heap.size
  | [], _, _, _ => Nat.le_refl _
  | v :: vs, o, b, w => Nat.le_trans (grown_set w ⟨b, o, none⟩ v).size (size_cells vs (o + 1) b _)

section
variable (B : Nat) (w0 : World) (g : FuncId) (lb : Array Value) (p : ByteArray → Bool)

/-- What IndexFunc answers. -/
def IdxP (ss : List ByteArray) (w : World) (e : Ending) (w' : World) : Prop :=
  ∃ z : Int, e = .returned (.int .i64 z) ∧ Below w.heap.size w w' ∧ ((z = -1 ∧ ∀ (j : Nat) s, ss[j]? = some s → p s = false) ∨ ∃ (k : Nat) (s : ByteArray), z = (k : Int) ∧ ss[k]? = some s ∧ p s = true ∧ ∀ (j : Nat) s, j < k → ss[j]? = some s → p s = false)

set_option maxHeartbeats 1000000 in
set_option maxRecDepth 100000 in
theorem IndexFunc_any (eg : ∀ args w, (callFunc g args).run Tryz.prog w = .ok (.enter g args) w)
    (A : Option Addr) (n c : Nat) (ss : List ByteArray)
    (hp : ∀ w', Below B w0 w' → ∀ s, s ∈ ss → Calls Tryz.prog g (#[.string s] ++ lb) w' fun e w'' => e = .returned (.bool (p s)) ∧ Below w'.heap.size w' w'')
    (w : World) (hw : Below B w0 w) (hB : B ≤ w.heap.size) (hS : Rd w A n c (ss.map .string)) :
    Calls Tryz.prog 155 #[.slice A n c, .func (.func g) #[] lb] w (IdxP p ss w) := by
  have hle := hS.le
  have hmx := hS.max
  have hln := Lib.hid (by have := hS.len; rwa [List.length_map] at this : ss.length = n)
  have hS' := Lib.hid hS
  have hp' := Lib.hid hp
  have hw' := Lib.hid hw
  clear hS hp hw
  go_enter Tryz.func155, Tryz.ntmps155
  go_wp2_with fail
  go_loopw [8] (fun i wr => ∃ k : Nat, k ≤ n ∧ i = .int .i64 k ∧ Hid (∀ (j : Nat) s, j < k → ss[j]? = some s → p s = false) ∧ Hid (Below w.heap.size w wr)) (fun i _ => n - (intOf i).toNat)
  case atStart => exact ⟨0, by omega, rfl, Lib.hid (fun j s h => absurd h (by omega)), Lib.hid (Below.refl _ _)⟩
  case round =>
    obtain ⟨k, hk, rfl, hno, hbw⟩ := hrel
    by_cases hlt : k < n
    · have i1 : decide ((k : Int) < (n : Int)) = true := by rw [decide_eq_true_eq]; omega
      have i2 : decide (k < n) = true := by rw [decide_eq_true_eq]; omega
      have i3 : (k : Int) < (n : Int) := by omega
      obtain ⟨b, off, u, rfl, hb, hu, hc⟩ := Rd.at_ (hS'.out.below hbw.out) hlt
      rw [List.getElem?_map, Option.map_eq_some_iff] at hu
      obtain ⟨s, hs, rfl⟩ := hu
      have hs' := Lib.hid hs
      have hcall := hp'.out wr (hw'.out.trans (hbw.out.mono hB)) s (List.mem_of_getElem? hs)
      clear hs
      cases hps : p s with
      | true =>
        rw [hps] at hcall
        have hps' := Lib.hid hps
        clear hps
        go_wp2_with fail
        refine hcall.mono ?_
        rintro e w2 ⟨rfl, hb2⟩
        have hx2 := Lib.hid (hbw.out.trans (hb2.mono hbw.out.size))
        clear hb2 hcall
        go_wp2_with fail
        go_ret
        exact ⟨_, rfl, hx2.out, .inr ⟨k, s, rfl, hs'.out, hps'.out, hno.out⟩⟩
      | false =>
        rw [hps] at hcall
        have hps' := Lib.hid hps
        clear hps
        go_wp2_with fail
        refine hcall.mono ?_
        rintro e w2 ⟨rfl, hb2⟩
        have hx2 := Lib.hid (hbw.out.trans (hb2.mono hbw.out.size))
        clear hb2 hcall
        go_wp2_with fail
        go_roundw
        case rel =>
          refine ⟨k + 1, by omega, by go_num, Lib.hid fun j s2 hj hs2 => ?_, hx2⟩
          rcases Nat.lt_or_ge j k with h9 | h9
          · exact hno.out j s2 h9 hs2
          · obtain rfl : j = k := by omega
            rw [hs'.out] at hs2
            injection hs2 with hs2
            rw [← hs2]
            exact hps'.out
        case measure => simp [intOf]; omega
    · have i1 : decide ((k : Int) < (n : Int)) = false := by rw [decide_eq_false_iff_not]; omega
      have i2 : decide (k < n) = false := by rw [decide_eq_false_iff_not]; omega
      obtain rfl : k = n := by omega
      go_wp2_with fail
      go_ret
      exact ⟨_, rfl, hbw.out, .inl ⟨rfl, fun j s hs => hno.out j s (by have := (List.getElem?_eq_some_iff.1 hs).1; have := hln.out; omega) hs⟩⟩

theorem filt_next {ss : List ByteArray} {j : Nat} {s : ByteArray} (h : ss[j]? = some s) : (ss.take (j + 1)).filter (fun x => !p x) = (ss.take j).filter (fun x => !p x) ++ (if p s = true then [] else [s]) := by
  rw [take_snoc h, List.filter_append]
  congr 1
  cases hp : p s <;> simp [List.filter, hp]
theorem filt_none {ss : List ByteArray} : ∀ {k : Nat}, (∀ (j : Nat) s, j < k → ss[j]? = some s → p s = false) → (ss.take k).filter (fun x => !p x) = ss.take k := by
  intro k h
  rw [List.filter_eq_self]
  intro x hx
  obtain ⟨j, hj⟩ := List.mem_iff_getElem?.1 hx
  have hjk : j < k := by have := (List.getElem?_eq_some_iff.1 hj).1; rw [List.length_take] at this; omega
  rw [List.getElem?_take_of_lt hjk] at hj
  rw [h j x hjk hj]
  rfl
theorem filt_len {ss : List ByteArray} (j : Nat) : ((ss.take j).filter (fun x => !p x)).length ≤ j := by
  have := List.length_filter_le (fun x => !p x) (ss.take j)
  rw [List.length_take] at this
  omega

/-- What DeleteFunc answers. -/
def DelP (B : Nat) (ss : List ByteArray) (w : World) (e : Ending) (w' : World) : Prop :=
  ∃ A n c, e = .returned (.slice A n c) ∧ Below B w w' ∧ Hs w' A n c (ss.filter fun x => !p x)

set_option maxHeartbeats 2000000 in
set_option maxRecDepth 100000 in
theorem DeleteFunc_any (eg : ∀ args w, (callFunc g args).run Tryz.prog w = .ok (.enter g args) w)
    (A : Option Addr) (n c : Nat) (ss : List ByteArray)
    (hp : ∀ w', Below B w0 w' → ∀ s, s ∈ ss → Calls Tryz.prog g (#[.string s] ++ lb) w' fun e w'' => e = .returned (.bool (p s)) ∧ Below w'.heap.size w' w'')
    (w : World) (hw : Below B w0 w) (hB : B ≤ w.heap.size) (hS : Rd w A n c (ss.map .string))
    (hH : 0 < n → ∃ gb, A = some ⟨gb, 0, none⟩ ∧ B ≤ gb ∧ Ho w gb n ss) :
    Calls Tryz.prog 90 #[.slice A n c, .func (.func g) #[] lb] w (DelP p B ss w) := by
  have hle := hS.le
  have hmx := hS.max
  have hln := Lib.hid (by have := hS.len; rwa [List.length_map] at this : ss.length = n)
  have hix := IndexFunc_any B w0 g lb p eg A n c ss hp w hw hB hS
  have hS' := Lib.hid hS
  have hp' := Lib.hid hp
  have hw' := Lib.hid hw
  have hH' := Lib.hid hH
  clear hS hp hw hH
  go_enter Tryz.func90, Tryz.ntmps90
  go_wp2_with fail
  refine hix.mono ?_
  rintro e w1 ⟨z, rfl, hb1, hz⟩
  have hx1 := Lib.hid (hb1.mono hB)
  have hS1 := Lib.hid (hS'.out.below hb1)
  have hb1' := Lib.hid hb1
  clear hb1 hix
  rcases hz with ⟨rfl, hno⟩ | ⟨k0, s0, rfl, hs0, hps0, hno⟩
  · have hall : (ss.filter fun x => !p x) = ss := by
      rw [List.filter_eq_self]
      intro x hx
      obtain ⟨j, hj⟩ := List.mem_iff_getElem?.1 hx
      rw [hno j x hj]
      rfl
    have hS2 : Hid (Hs w1 A n c (ss.filter fun x => !p x)) := Lib.hid (by
      rw [hall]
      refine ⟨hS1.out, fun h0 => ?_⟩
      obtain ⟨gb, e1, _, e2⟩ := hH'.out h0
      obtain ⟨cur, e3⟩ := (e2.below hb1'.out).blk
      exact ⟨gb, cur, e1, e3⟩)
    clear hno hall
    go_wp2_with fail
    go_ret
    exact ⟨_, _, _, rfl, hx1.out, hS2.out⟩
  · have hk0 : k0 < n := by have := (List.getElem?_eq_some_iff.1 hs0).1; have := hln.out; omega
    obtain ⟨gb, rfl, hgB, hHo⟩ := hH'.out (by omega)
    have hHo1 := Lib.hid (hHo.below hb1'.out)
    have j0 : ((k0 : Int) == -1) = false := by rw [beq_eq_false_iff_ne]; omega
    have hfil0 : Hid ((ss.take (k0 + 1)).filter (fun x => !p x) = ss.take k0) := Lib.hid (by rw [filt_next p hs0, hps0, if_pos rfl, List.append_nil, filt_none p hno])
    clear hHo hno hs0 hps0
    go_wp2_with fail
    go_loopw [5, 6] (fun iv jv wr => ∃ (i j : Nat) (ys : List ByteArray), i < j ∧ j ≤ n ∧ iv = .int .i64 i ∧ jv = .int .i64 j ∧ Hid (i = ((ss.take j).filter fun x => !p x).length) ∧ Hid (Ho wr gb n ys) ∧ Hid (ys.take i = (ss.take j).filter fun x => !p x) ∧ Hid (ys.drop j = ss.drop j) ∧ Hid (Below B w wr)) (fun _ jv _ => n - (intOf jv).toNat)
    case atStart => exact ⟨k0, k0 + 1, ss, by omega, by omega, rfl, by go_num, Lib.hid (by rw [hfil0.out, List.length_take]; have := hln.out; omega), hHo1, Lib.hid hfil0.out.symm, Lib.hid rfl, hx1⟩
    case round =>
      obtain ⟨i, j, ys, hij, hjn, rfl, rfl, hil, hHr, hta, hdr, hbw⟩ := hrel
      by_cases hlt : j < n
      · have i1 : decide ((j : Int) < (n : Int)) = true := by rw [decide_eq_true_eq]; omega
        have i2 : decide (j < n) = true := by rw [decide_eq_true_eq]; omega
        have i3 : (j : Int) < (n : Int) := by omega
        have i4 : (i : Int) < (n : Int) := by omega
        obtain ⟨s, hs⟩ : ∃ s, ss[j]? = some s := ⟨_, List.getElem?_eq_getElem (by have := hln.out; omega)⟩
        have hys : ys[j]? = some s := by
          have h1 := congrArg (fun l : List ByteArray => l[0]?) hdr.out
          simp only [List.getElem?_drop, Nat.add_zero] at h1
          rw [h1, hs]
        have cj : wr.cell? ⟨gb, j, none⟩ = some (.string s) := (hHr.out.cell j s hys).1
        have hcall := hp'.out wr (hw'.out.trans hbw.out) s (List.mem_of_getElem? hs)
        have hnx := Lib.hid (filt_next p hs)
        have hdn : Hid (ys.drop (j + 1) = ss.drop (j + 1)) := Lib.hid (by rw [← List.drop_drop, ← List.drop_drop, hdr.out])
        clear hs hys
        cases hps : p s with
        | true =>
          rw [hps] at hcall hnx
          go_wp2_with fail
          refine hcall.mono ?_
          rintro e w2 ⟨rfl, hb2⟩
          have hx2 := Lib.hid (hbw.out.trans (hb2.mono (by have := hbw.out.size; omega)))
          have hH2 := Lib.hid (hHr.out.below hb2)
          clear hb2 hcall hps cj
          go_wp2_with fail
          go_roundw
          case rel => exact ⟨i, j + 1, ys, by omega, by omega, rfl, by go_num, Lib.hid (by have h9 := hnx.out; simp only [if_true, List.append_nil] at h9; rw [h9]; exact hil.out), hH2, Lib.hid (by have h9 := hnx.out; simp only [if_true, List.append_nil] at h9; rw [h9]; exact hta.out), hdn, hx2⟩
          case measure => simp [intOf]; omega
        | false =>
          rw [hps] at hcall hnx
          go_wp2_with fail
          refine hcall.mono ?_
          rintro e w2 ⟨rfl, hb2⟩
          have hx2 := Lib.hid (hbw.out.trans (hb2.mono (by have := hbw.out.size; omega)))
          have hH2 := Lib.hid (hHr.out.below hb2)
          obtain ⟨u, hu⟩ : ∃ u, ys[i]? = some u := ⟨_, List.getElem?_eq_getElem (by have := hHr.out.len; omega)⟩
          obtain ⟨ci, fi⟩ := hH2.out.cell i u hu
          have hst := hH2.out.set (i := i) (by omega) s
          have hH3 := Lib.hid hst
          have hx3 := Lib.hid (hx2.out.trans (below_row (grown_set w2 ⟨gb, i, none⟩ (.string s)) hgB (by have := hx2.out.size; omega)))
          have hyl := hHr.out.len
          have hta3 : Hid ((ys.set i s).take (i + 1) = (ss.take (j + 1)).filter fun x => !p x) := Lib.hid (by
            rw [hnx.out, if_neg (by simp), take_snoc (List.getElem?_set_self (by omega)), List.take_set_of_le (Nat.le_refl _), hta.out])
          have hdn3 : Hid ((ys.set i s).drop (j + 1) = ss.drop (j + 1)) := Lib.hid (by rw [List.drop_set_of_lt (by omega)]; exact hdn.out)
          clear hb2 hcall hps cj hst hu hyl
          go_wp2_with fail
          go_roundw
          case rel => exact ⟨i + 1, j + 1, ys.set i s, by omega, by omega, by go_num, by go_num, Lib.hid (by rw [hnx.out, if_neg (by simp), List.length_append, ← hil.out]; rfl), hH3, hta3, hdn3, hx3⟩
          case measure => simp [intOf]; omega
      · obtain rfl : j = n := by omega
        have i1 : decide ((j : Int) < (j : Int)) = false := by rw [decide_eq_false_iff_not]; omega
        have hcl : ∀ ty, (Builtin.clear_ #[80] ty #[.slice (some ⟨gb, i, none⟩) (j - i) (c - i)]).run Tryz.prog wr = .ok (.tuple #[]) (wr.setCells gb i (List.replicate (j - i) (.string ByteArray.empty))) :=
          fun ty => Lib.run_clear_slice wr _ 9 ty _ Tryz.underlying80 zeroStr rfl rfl gb i _ _ (by omega)
            (fun t ht => by obtain ⟨u, hu⟩ : ∃ u, ys[i + t]? = some u := ⟨_, List.getElem?_eq_getElem (by have := hHr.out.len; omega)⟩; rw [(hHr.out.cell (i + t) u hu).1]; rfl)
            (fun t ht => by obtain ⟨u, hu⟩ : ∃ u, ys[i + t]? = some u := ⟨_, List.getElem?_eq_getElem (by have := hHr.out.len; omega)⟩; exact (hHr.out.cell (i + t) u hu).2)
        have hfull : Hid ((ss.take j).filter (fun x => !p x) = ss.filter fun x => !p x) := Lib.hid (by rw [List.take_of_length_le (by have := hln.out; omega)])
        have hbx := Lib.hid (below_cells hgB (List.replicate (j - i) (.string ByteArray.empty)) i wr hbw.out (by have := hHr.out.lt; omega))
        have hblk := Lib.hid (setCells_blk (List.replicate (j - i) (.string ByteArray.empty)) i wr hHr.out.blk)
        have hRd : Hid (Rd (wr.setCells gb i (List.replicate (j - i) (.string ByteArray.empty))) (some ⟨gb, 0, none⟩) i c ((ss.filter fun x => !p x).map .string)) := Lib.hid (by
          refine ⟨by rw [List.length_map, ← hfull.out, ← hil.out], by omega, hmx, fun h => (by cases h), fun h0 => ⟨gb, 0, rfl, ?_, fun t u ht => ?_⟩⟩
          · exact Nat.lt_of_lt_of_le hHr.out.lt (size_cells _ _ _ _)
          · rw [List.getElem?_map, Option.map_eq_some_iff] at ht
            obtain ⟨s, hs, rfl⟩ := ht
            have hti : t < i := by have := (List.getElem?_eq_some_iff.1 hs).1; rw [← hfull.out, ← hil.out] at this; exact this
            rw [World.cell?_setCells_out gb _ _ _ _ (fun _ _ => .inl (by show 0 + t < i; omega)), Nat.zero_add]
            refine (hHr.out.cell t s ?_).1
            rw [← hfull.out, ← hta.out, List.getElem?_take_of_lt hti] at hs
            exact hs)
        clear hHr hta hdr hil hbw
        go_wp2_with (simp only [hcl])
        go_ret
        exact ⟨_, _, _, rfl, hbx.out, hRd.out, fun _ => by obtain ⟨cs, h9⟩ := hblk.out; exact ⟨gb, cs, rfl, h9⟩⟩
end
end Go.Proofs.YtfdpnjebhllpkaaGreatDoor.Mn
end
