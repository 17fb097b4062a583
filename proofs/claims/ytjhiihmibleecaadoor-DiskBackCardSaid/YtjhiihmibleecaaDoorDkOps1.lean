/- may, Used, Read. -/
import Derived.Test.YtjhiihmibleecaaDoorDkHeap
import Derived.Shelf.Lay
import Derived.Ground.NamesProg
import Derived.Shelf.Strings.SlTrimAscii
import Derived.Shelf.Bytes.SlClone
import Derived.Ground.SlbCloneProg
import Derived.BigQuiet
import Derived.BigRegion
import Derived.Deep.QuietTactic
import Derived.Deep.LoopGhost
import Derived.WalkLawsBesides
namespace Go.Proofs
open Go.Shelf Go.RowKit

shelf_lay Lays.n160 Nm 160 at Tryd as Tryd.lays160
shelf_lay SlLaysK.n4 Slk 4 at Tryd as Tryd.laysClone

end Go.Proofs
namespace Go.Proofs.YtjhiihmibleecaaDoor.Dk
open Go.RowKit Go.Shelf

/-! ### may -/
def lets : List UInt8 := [97, 98, 99, 100, 101, 102, 103, 104, 105, 106, 107, 108, 109, 110, 111, 112, 113, 114, 115, 116, 117, 118, 119, 120, 121, 122, 48, 49, 50, 51, 52, 53, 54, 55, 56, 57, 46, 45]
theorem lets_letter : ∀ c : UInt8, lets.contains c = letter c := by
  have : ((List.range 256).all fun n => lets.contains (UInt8.ofNat n) == letter (UInt8.ofNat n)) = true := by kernel_rfl
  intro c
  have h := List.all_eq_true.1 this c.toNat (List.mem_range.2 c.toNat_lt)
  simpa using h
theorem dropWhile_nil {p : UInt8 → Bool} {l : List UInt8} : l.dropWhile p = [] ↔ l.all p = true := by
  induction l with
  | nil => simp
  | cons c l ih =>
    rw [List.dropWhile_cons, List.all_cons]
    cases h : p c
    · simp
    · simpa using ih
theorem trim_nil (l : List UInt8) : Lib.trimS l lets = [] ↔ l.all letter = true := by
  have e : (fun c => lets.contains c) = letter := funext lets_letter
  unfold Lib.trimS Lib.trimLeftS Lib.trimRightS
  rw [e, dropWhile_nil, List.all_reverse]
  constructor
  · intro h
    have h2 : (l.reverse.dropWhile letter) = [] := by
      cases hd : l.reverse.dropWhile letter with
      | nil => rfl
      | cons c r =>
        rw [hd] at h
        have h3 : letter c = true := by
          simp only [List.all_cons, Bool.and_eq_true] at h
          exact h.1
        have h4 := List.head?_dropWhile_not letter l.reverse
        rw [hd] at h4
        simp [h3] at h4
    rw [dropWhile_nil, List.all_reverse] at h2
    exact h2
  · intro h
    have h2 : l.reverse.dropWhile letter = [] := by rw [dropWhile_nil, List.all_reverse]; exact h
    rw [h2]
    rfl

theorem trim_any (s : ByteArray) (hs : s.size ≤ 9223372036854775807) (w : World) :
    Calls Tryd.prog 44 #[.string s, .string (strOf lets)] w fun e w' => e = .returned (.string (strOf (Lib.trimS s.data.toList lets))) ∧ Below w.heap.size w w' :=
  Any.strings_Trim_laid Tryd.lays160 (by kernel_rfl) s (strOf lets) w hs (by decide) (ascii_of_all (by kernel_rfl))

theorem may_cut (l : List UInt8) : may l = (decide (l ≠ []) && (decide (l.length ≤ 40) && decide (Lib.trimS l lets = []))) := by
  unfold may
  have : decide (Lib.trimS l lets = []) = l.all letter := by
    rw [Bool.eq_iff_iff, decide_eq_true_eq, trim_nil]
  rw [this]
  cases l <;> simp

set_option maxRecDepth 100000 in
theorem may_any (s : ByteArray) (hs : s.size ≤ 9223372036854775807) (w : World) :
    Calls Tryd.prog 25 #[.string s] w fun e w' => e = .returned (.bool (may s.data.toList)) ∧ Below w.heap.size w w' := by
  have hsz : s.size = s.data.toList.length := by rw [Array.length_toList]; rfl
  obtain ⟨R, hR⟩ : ∃ R, may s.data.toList = R := ⟨_, rfl⟩
  rw [hR]
  have hR2 := hR
  rw [may_cut] at hR2
  have hR' := Lib.hid hR2
  clear hR hR2
  have hempty : s.toList.isEmpty = s.data.toList.isEmpty := by rw [Lib.toList_data]
  by_cases h0 : s.data.toList = []
  · have e0 : s.toList.isEmpty = true := by rw [hempty, h0]; rfl
    have e1 : s.toList = [] := by simpa using e0
    have hr : R = false := by rw [← hR'.out, h0]; rfl
    subst hr
    clear h0 hempty
    go_enter Tryd.func25, Tryd.ntmps25
    go_wp2_with fail
    go_ret
    exact ⟨rfl, Below.refl _ _⟩
  · have e0 : s.toList.isEmpty = false := by rw [hempty]; simpa using h0
    by_cases h40 : s.size ≤ 40
    · have i0 : decide ((s.size : Int) ≤ 40) = true := by simp; omega
      have hr : R = decide (Lib.trimS s.data.toList lets = []) := by rw [← hR'.out, ← hsz]; simp [h0, h40]
      have hr' := Lib.hid hr
      clear h0 hempty hR' hr hsz
      go_enter Tryd.func25, Tryd.ntmps25
      go_wp2_with fail
      refine (trim_any s hs w).mono ?_
      rintro e w1 ⟨rfl, hb1⟩
      have hb1' := Lib.hid hb1
      have he := strOf_empty (Lib.trimS s.data.toList lets)
      obtain ⟨T, hT⟩ : ∃ T, Lib.trimS s.data.toList lets = T := ⟨_, rfl⟩
      rw [hT] at hr' he ⊢
      clear hb1 hT
      by_cases hn : T = []
      · have hr := hr'.out
        rw [hn] at hr he
        simp only [decide_true] at hr
        subst hr
        have e2 : (strOf ([] : List UInt8)).toList = [] := by simpa using he
        rw [hn]
        go_wp2_with fail
        go_ret
        exact ⟨rfl, hb1'.out⟩
      · have hr := hr'.out
        rw [show decide (T = []) = false by simpa using hn] at hr
        subst hr
        have e2 : (strOf T).toList.isEmpty = false := by rw [he]; simpa using hn
        clear hn he hr'
        go_wp2_with fail
        go_ret
        exact ⟨rfl, hb1'.out⟩
    · have i0 : decide ((s.size : Int) ≤ 40) = false := by simp; omega
      have hr : R = false := by rw [← hR'.out, ← hsz]; simp [h40]
      subst hr
      clear h0 hempty hR' hsz
      go_enter Tryd.func25, Tryd.ntmps25
      go_wp2_with fail
      go_ret
      exact ⟨rfl, Below.refl _ _⟩

/-! ### bytes.Clone -/
theorem clone_any (A : Option Addr) (n c : Nat) (l : List UInt8) (w : World) (h : Bs w A n c l) (hz : n ≤ 140737488355328) :
    Calls Tryd.prog 26 #[.slice A n c] w fun e w' => ∃ v, e = .returned v ∧ OwB w' w.heap.size 5 v l ∧ Below w.heap.size w w' := by
  have hl := h.len
  rcases A with _ | a
  · obtain ⟨rfl, rfl⟩ := Rd.nil h rfl
    have : l = [] := List.eq_nil_of_length_eq_zero hl
    subst this
    refine (Any.bytes_Clone_nil Tryd.laysClone 0 0 w).mono ?_
    rintro e w1 ⟨rfl, rfl⟩
    exact ⟨_, rfl, OwB.nil _ _ _, Below.refl _ _⟩
  · refine (Any.bytes_Clone_at Tryd.laysClone a n c (l.map fun x => (x.toNat : Int)) w (by simpa using hl) hz ?_).mono ?_
    · intro i hi
      obtain ⟨b, off, he, hb, hc⟩ := Rd.cell h (by omega)
      injection he with he
      subst he
      have hx : l[i]? = some l[i] := List.getElem?_eq_getElem (by omega)
      have := hc i (.int .u8 (l[i].toNat : Int)) (by simp [bv, hx])
      have e : (l.map fun x => (x.toNat : Int)).getD i 0 = (l[i].toNat : Int) := by simp [List.getD, hx]
      rw [e]
      unfold Addr.add
      split
      · rename_i h0; subst h0; simpa using this
      · exact this
    · rintro e w1 ⟨v, rfl, h1, _, h2⟩
      refine ⟨v, rfl, ?_, h2⟩
      have e : (l.map fun x => (x.toNat : Int)).map (Value.int .u8) = bv l := by simp [bv]
      rw [e] at h1
      unfold OwB
      rw [hl]
      exact h1

theorem OwB.slice {w : World} {B E : Nat} {v : Value} {l : List UInt8} (h : OwB w B E v l) : ∃ A c, v = .slice A l.length c ∧ Bs w A l.length c l := by
  obtain ⟨A, c, rfl⟩ := ownsRow_form h
  exact ⟨A, c, rfl, OwB.bs h⟩

/-! ### Read -/
/-- A fresh slice of bytes is handed back, and a code. -/
def ReadP (B : Nat) (d : D) (nm : Name) (w : World) (e : Ending) (w' : World) : Prop :=
  Below w.heap.size w w' ∧ ∃ v l, e = .returned (.tuple #[v, .int .i64 (if (Dk.get d.fs nm).isSome then 0 else 42)]) ∧ OwB w' w.heap.size 5 v l ∧ l = ((Dk.get d.fs nm).map (·.data)).getD []

set_option maxRecDepth 100000 in
theorem Read_any (w : World) (B a mb : Nat) (L : Al Nat) (F : Nat → Fl) (tv : Value) (d : D) (h : Da w B a mb L F tv d) (s : ByteArray) (hs : s.size ≤ 1000000) (hz : ∀ p ∈ d.fs, p.2.data.length ≤ 1000000) :
    Calls Tryd.prog 10 #[.pointer (some ⟨a, 0, none⟩), .string s] w (ReadP B d s.data.toList w) := by
  have hlk := h.look s (by unfold maxLen; omega)
  have c1 : w.cell? ⟨a, 1, none⟩ = some (.map (some mb)) := by simp [World.cell?, h.blk]
  have hg := h.get s.data.toList
  cases hgl : Dk.get L s.data.toList with
  | none =>
    rw [hgl] at hlk hg
    simp only [Option.map_none] at hlk hg
    have hg' := Lib.hid hg
    clear hg hgl
    go_enter Tryd.func10, Tryd.ntmps10
    go_wp2_with fail
    go_ret2
    refine ⟨Below.refl _ _, _, [], ?_, OwB.nil _ _ _, by rw [hg'.out]; rfl⟩
    rw [hg'.out]
    rfl
  | some b =>
    rw [hgl] at hlk hg
    simp only [Option.map_some] at hlk hg
    have hmem := get_mem hgl
    obtain ⟨hB, v, hb1, hb2⟩ := h.files _ hmem
    have hm2 := get_mem hg
    have hle := hz _ hm2
    simp only at hb1 hb2 hle
    obtain ⟨A, c, rfl, hbs⟩ := OwB.slice hb2
    have k0 : w.cell? ⟨b, 0, none⟩ = some (.slice A (F b).data.length c) := by simp [World.cell?, hb1]
    have hg' := Lib.hid hg
    obtain ⟨n, hn⟩ : ∃ n, (F b).data.length = n := ⟨_, rfl⟩
    rw [hn] at k0 hbs hle
    have hbs' := Lib.hid hbs
    clear hg hgl hb1 hb2 hbs hm2 hmem hn
    go_enter Tryd.func10, Tryd.ntmps10
    go_wp2_with fail
    refine (clone_any A n c (F b).data w hbs'.out (by omega)).mono ?_
    rintro e w1 ⟨v, rfl, ho, hb⟩
    have ho' := Lib.hid ho
    have hb' := Lib.hid hb
    clear ho hb
    go_wp2_with fail
    go_ret2
    refine ⟨hb'.out, v, (F b).data, ?_, ho'.out, by rw [hg'.out]; rfl⟩
    rw [hg'.out]
    rfl
end Go.Proofs.YtjhiihmibleecaaDoor.Dk
