/- The disk in memory. -/
import Derived.Test.YtfdpnjebhllpkaaGreatDoorProg
import Derived.Test.YtfdpnjebhllpkaaGreatDoorMStrLaws
import Derived.Test.YtfdpnjebhllpkaaGreatDoorMDkMap
import Derived.Test.YtfdpnjebhllpkaaGreatDoorMDkLaw
import Derived.Maps.RangeWalk
import Derived.StringKeys
import Derived.Lib.SmallJoins
namespace Go.Proofs.YtfdpnjebhllpkaaGreatDoor.Dk
open Go.RowKit Go.ChangeMaps

/-- The row's block is none of such elements. -/
def NoE (E : TypeId) (w : World) (row : Option Nat) : Prop := ∀ r, row = some r → ∀ cs fr, w.heap[r]? ≠ some (.cells cs E fr)
theorem NoE.none {E : TypeId} {w : World} : NoE E w Option.none := fun _ h => by cases h
theorem NoE.of {E : TypeId} {w : World} {b : Nat} {o : Obj} (h : w.heap[b]? = some o) (hne : ∀ cs fr, o ≠ .cells cs E fr) : NoE E w (some b) := by
  intro r hr cs fr he
  injection hr with hr
  subst hr
  rw [h] at he
  injection he with he
  exact hne cs fr he

theorem row_kept {w w' : World} {B E s n : Nat} {v : Value} {xs : List Value} {row : Option Nat} (h : w.ownsRow B E s v n xs) (hg : w.grownBy w' row) (hn : NoE E w row) : w'.ownsRow B E s v n xs := by
  refine h.kept hg ?_
  rcases h.2 with ⟨rfl, _⟩ | ⟨g, cap, cur, rfl, _, hh, _⟩
  · exact .inl rfl
  · refine .inr fun he => ?_
    exact hn g he.symm _ _ hh

/-- A trouble's three cells. -/
def trC (t : Tr) : List Value := [.int .i64 t.1, .int .i64 t.2.1, .int .i64 t.2.2]
def trf (l : List Tr) : List Value := l.flatMap trC

def FileAt (w : World) (B b : Nat) (f : Fl) : Prop := B ≤ b ∧ ∃ v, w.heap[b]? = some (.cells #[v, .int .i64 (f.safe : Nat)] 132) ∧ OwB w B 5 v f.data
theorem FileAt.lt {w : World} {B b : Nat} {f : Fl} (h : FileAt w B b f) : b < w.heap.size := by
  obtain ⟨_, v, h, _⟩ := h
  exact (Array.getElem?_eq_some_iff.1 h).1
theorem FileAt.kept {w w' : World} {B b : Nat} {f : Fl} {row : Option Nat} (h : FileAt w B b f) (hg : w.grownBy w' row) (hne : some b ≠ row) (hn : NoE 5 w row) : FileAt w' B b f := by
  have hlt := h.lt
  obtain ⟨h0, v, h1, h2⟩ := h
  exact ⟨h0, v, (hg.block b hlt hne).trans h1, row_kept h2 hg hn⟩

/-- A disk in memory: its block a, its map mb of the blocks L of files F, its troubles tv. -/
structure Da (w : World) (B a mb : Nat) (L : Al Nat) (F : Nat → Fl) (tv : Value) (d : D) : Prop where
  base : B ≤ a ∧ B ≤ mb
  blk : w.heap[a]? = some (.cells #[.int .i64 (d.room : Nat), .map (some mb), tv, .int .i64 (d.ops : Nat), .bool d.down] 113)
  own : w.ownsMap Tryz.prog 9 ptrElem mb L.length (mp L)
  fs : d.fs = L.map fun p => (p.1, F p.2)
  up : Up L
  files : ∀ p ∈ L, FileAt w B p.2 (F p.2)
  nd : (L.map (·.2)).Nodup
  tr : w.ownsRow B 121 3 tv d.tr.length (trf d.tr)

section
variable {w w' : World} {B a mb : Nat} {L : Al Nat} {F : Nat → Fl} {tv : Value} {d : D}

theorem Da.alt (h : Da w B a mb L F tv d) : a < w.heap.size := (Array.getElem?_eq_some_iff.1 h.blk).1
theorem Da.mlt (h : Da w B a mb L F tv d) : mb < w.heap.size := h.own.lt
theorem Da.mblk (h : Da w B a mb L F tv d) : ∃ es cl, w.heap[mb]? = some (.map es cl) := by
  obtain ⟨es, cl, h1, _⟩ := h.own
  exact ⟨es, cl, h1⟩
theorem Da.am (h : Da w B a mb L F tv d) : a ≠ mb := by
  rintro rfl
  obtain ⟨es, cl, h1⟩ := h.mblk
  rw [h.blk] at h1
  cases h1
theorem Da.fa (h : Da w B a mb L F tv d) {p : Name × Nat} (hp : p ∈ L) : p.2 ≠ a := by
  intro e
  obtain ⟨_, v, h1, _⟩ := h.files p hp
  rw [e, h.blk] at h1
  injection h1 with h1
  injection h1 with _ h2 _
  exact absurd h2 (by decide)
theorem Da.fm (h : Da w B a mb L F tv d) {p : Name × Nat} (hp : p ∈ L) : p.2 ≠ mb := by
  intro e
  obtain ⟨_, v, h1, _⟩ := h.files p hp
  obtain ⟨es, cl, h2⟩ := h.mblk
  rw [e, h2] at h1
  cases h1

theorem Da.kept {row : Option Nat} (h : Da w B a mb L F tv d) (hg : w.grownBy w' row) (h1 : some a ≠ row) (h2 : some mb ≠ row) (h3 : ∀ p ∈ L, some p.2 ≠ row) (hb : NoE 5 w row) (ht : NoE 121 w row) : Da w' B a mb L F tv d :=
  ⟨h.base, (hg.block a h.alt h1).trans h.blk, h.own.kept hg h2, h.fs, h.up, fun p hp => (h.files p hp).kept hg (h3 p hp) hb, h.nd, row_kept h.tr hg ht⟩
theorem Da.below (h : Da w B a mb L F tv d) (hb : Below w.heap.size w w') : Da w' B a mb L F tv d :=
  h.kept (grown_of_below hb) (by simp) (by simp) (by simp) NoE.none NoE.none

theorem grown_set (w : World) (p : Addr) (x : Value) : w.grownBy (w.setCell p x) (some p.block) := by
  refine ⟨rfl, rfl, rfl, by simp [World.setCell], fun k hk hne => ?_⟩
  have : p.block ≠ k := fun e => hne (by rw [e])
  simp [World.setCell, Array.getElem?_modify, this]
theorem below_row {row : Nat} (hg : w.grownBy w' (some row)) (hB : B ≤ row) (hs : B ≤ w.heap.size) : Below B w w' :=
  ⟨hg.os, hg.tape, hg.output, hg.size, fun k hk => hg.block k (by omega) (by simp; omega)⟩

/-- The disk's own block has turned. -/
theorem Da.setA (h : Da w B a mb L F tv d) (hg : w.grownBy w' (some a)) {tv' : Value} {tr' : List Tr} {ops' : Nat} {down' : Bool}
    (hblk : w'.heap[a]? = some (.cells #[.int .i64 (d.room : Nat), .map (some mb), tv', .int .i64 (ops' : Nat), .bool down'] 113))
    (htr : w'.ownsRow B 121 3 tv' tr'.length (trf tr')) : Da w' B a mb L F tv' { d with tr := tr', ops := ops', down := down' } :=
  have hb : NoE 5 w (some a) := NoE.of h.blk (by intro cs fr e; injection e with _ e2 _; exact absurd e2 (by decide))
  ⟨h.base, hblk, h.own.kept hg (by simp; exact fun e => h.am e.symm), h.fs, h.up, fun p hp => (h.files p hp).kept hg (by simp; exact h.fa hp) hb, h.nd, htr⟩

theorem Da.noT (h : Da w B a mb L F tv d) : NoE 121 w (some a) := NoE.of h.blk (by intro cs fr e; injection e with _ e2 _; exact absurd e2 (by decide))

theorem setCell_blk {E : TypeId} {b i : Nat} {cs : Array Value} (h : w.heap[b]? = some (.cells cs E)) (v : Value) : (w.setCell ⟨b, i, none⟩ v).heap[b]? = some (.cells (cs.setIfInBounds i v) E) := by
  simp [World.setCell, Array.getElem?_modify, h]

theorem Da.setOps (h : Da w B a mb L F tv d) (n : Nat) : Da (w.setCell ⟨a, 3, none⟩ (.int .i64 (n : Nat))) B a mb L F tv { d with ops := n } ∧ Below B w (w.setCell ⟨a, 3, none⟩ (.int .i64 (n : Nat))) :=
  ⟨h.setA (grown_set w ⟨a, 3, none⟩ _) (setCell_blk h.blk _) (row_kept h.tr (grown_set w ⟨a, 3, none⟩ _) h.noT), below_row (grown_set w ⟨a, 3, none⟩ _) h.base.1 (Nat.le_trans h.base.1 (Nat.le_of_lt h.alt))⟩
theorem Da.setDown (h : Da w B a mb L F tv d) (b : Bool) : Da (w.setCell ⟨a, 4, none⟩ (.bool b)) B a mb L F tv { d with down := b } ∧ Below B w (w.setCell ⟨a, 4, none⟩ (.bool b)) :=
  ⟨h.setA (grown_set w ⟨a, 4, none⟩ _) (setCell_blk h.blk _) (row_kept h.tr (grown_set w ⟨a, 4, none⟩ _) h.noT), below_row (grown_set w ⟨a, 4, none⟩ _) h.base.1 (Nat.le_trans h.base.1 (Nat.le_of_lt h.alt))⟩

/-- A file's block has turned. -/
theorem Da.setF (h : Da w B a mb L F tv d) {nm : Name} {b : Nat} (hb : (nm, b) ∈ L) (hg : w.grownBy w' (some b)) {g : Fl → Fl} {v' : Value}
    (hblk : w'.heap[b]? = some (.cells #[v', .int .i64 ((g (F b)).safe : Nat)] 132)) (hv : OwB w' B 5 v' (g (F b)).data) :
    Da w' B a mb L (fun x => if x = b then g (F b) else F x) tv { d with fs := upd nm g d.fs } := by
  obtain ⟨hB, v, h1, h2⟩ := h.files _ hb
  have hbb : NoE 5 w (some b) := NoE.of h1 (by intro cs fr e; injection e with _ e2 _; exact absurd e2 (by decide))
  have hbt : NoE 121 w (some b) := NoE.of h1 (by intro cs fr e; injection e with _ e2 _; exact absurd e2 (by decide))
  have hinj : ∀ p ∈ L, p.2 = b → p = (nm, b) := by
    have : ∀ (l : Al Nat), (l.map (·.2)).Nodup → ∀ p ∈ l, ∀ q ∈ l, p.2 = q.2 → p = q := by
      intro l
      induction l with
      | nil => intro _ p hp; cases hp
      | cons x l ih =>
        intro hn p hp q hq e
        obtain ⟨hx, hn⟩ := List.nodup_cons.1 hn
        rcases List.mem_cons.1 hp with hp1 | hp1 <;> rcases List.mem_cons.1 hq with hq1 | hq1
        · rw [hp1, hq1]
        · exact absurd (List.mem_map.2 ⟨q, hq1, by rw [← e, hp1]⟩) hx
        · exact absurd (List.mem_map.2 ⟨p, hp1, by rw [e, hq1]⟩) hx
        · exact ih hn p hp1 q hq1 e
    exact fun p hp e => this L h.nd p hp (nm, b) hb e
  refine ⟨h.base, (hg.block a h.alt (by simp; exact fun e => h.fa hb e.symm)).trans h.blk, h.own.kept hg (by simp; exact fun e => h.fm hb e.symm), ?_, h.up, fun p hp => ?_, h.nd, row_kept h.tr hg hbt⟩
  · show upd nm g d.fs = _
    rw [h.fs]
    unfold upd
    rw [List.map_map]
    apply List.map_congr_left
    intro p hp
    simp only [Function.comp]
    by_cases e : p.2 = b
    · obtain rfl := hinj p hp e
      simp
    · rw [if_neg e, if_neg]
      intro e2
      have := get_of_mem h.up hp
      rw [e2, get_of_mem h.up hb] at this
      injection this with this
      exact e this.symm
  · by_cases e : p.2 = b
    · simp only [if_pos e]
      rw [e]
      exact ⟨hB, v', hblk, hv⟩
    · simp only [if_neg e]
      exact (h.files p hp).kept hg (by simp; exact e) hbb

theorem own_size {n : Nat} {L' : Al Nat} (h : w.ownsMap Tryz.prog 9 ptrElem mb n (mp L')) : w.ownsMap Tryz.prog 9 ptrElem mb L'.length (mp L') := by
  obtain ⟨es, cl, h1, h2, h3, h4⟩ := h
  refine ⟨es, cl, h1, h2, ?_, h4⟩
  have := mp_size L'
  rw [h4] at this
  simp [Maps.size, length_sorted] at this
  omega

/-- The map has turned. -/
theorem Da.setM (h : Da w B a mb L F tv d) (hg : w.grownBy w' (some mb)) {n : Nat} {L' : Al Nat} {F' : Nat → Fl} (hown : w'.ownsMap Tryz.prog 9 ptrElem mb n (mp L')) (hup : Up L') (hnd : (L'.map (·.2)).Nodup)
    (hfiles : ∀ p ∈ L', (p ∈ L ∧ F' p.2 = F p.2) ∨ FileAt w B p.2 (F' p.2)) : Da w' B a mb L' F' tv { d with fs := L'.map fun p => (p.1, F' p.2) } := by
  obtain ⟨es, cl, hm⟩ := h.mblk
  have hb : NoE 5 w (some mb) := NoE.of hm (by intro cs fr e; cases e)
  have ht : NoE 121 w (some mb) := NoE.of hm (by intro cs fr e; cases e)
  refine ⟨h.base, (hg.block a h.alt (by simp; exact h.am)).trans h.blk, own_size hown, rfl, hup, fun p hp => ?_, hnd, row_kept h.tr hg ht⟩
  have hf : FileAt w B p.2 (F' p.2) := by
    rcases hfiles p hp with ⟨h1, h2⟩ | h1
    · rw [h2]; exact h.files p h1
    · exact h1
  refine hf.kept hg ?_ hb
  obtain ⟨_, v, h1, _⟩ := hf
  simp
  intro e
  rw [e, hm] at h1
  cases h1

/-! ### Looking into the map -/
theorem law_str : Maps.Keyed Tryz.prog 9 := Maps.string_keyed Tryz.underlying9
theorem zero_ptr (w : World) : (zeroValue 130).run Tryz.prog w = .ok (.pointer none) w := by kernel_rfl

theorem Da.look (h : Da w B a mb L F tv d) (s : ByteArray) (hs : s.size ≤ maxLen) : (Instr.lookup 111 (.map (some mb)) (.string s) false).run Tryz.prog w = .ok (.pointer ((get L s.data.toList).map fun b => ⟨b, 0, none⟩)) w := by
  obtain ⟨v, ps, h1, h2⟩ := h.own.lookup law_str Tryz.underlying111 (zero_ptr w) (zd := .nil) (zp := []) rfl (WideMaps.keyOf_string_mk Tryz.underlying9 hs)
  rw [mp_at] at h2
  rw [h1]
  cases hg : get L s.data.toList with
  | none => rw [hg] at h2; rw [ptr_nil h2]; rfl
  | some b => rw [hg] at h2; rw [ptr_blk h2]; rfl
theorem Da.get (h : Da w B a mb L F tv d) (nm : Name) : Dk.get d.fs nm = (Dk.get L nm).map F := by rw [h.fs, get_map]
end
end Go.Proofs.YtfdpnjebhllpkaaGreatDoor.Dk
