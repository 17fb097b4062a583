/- More plain laws of a disk: what an operation leaves alone; a file that is renamed. No program stands here. -/
import Derived.Test.YtfdpnjebhllpkaaGreatDoorMDkLaw
namespace Go.Proofs.YtfdpnjebhllpkaaGreatDoor.Dk
open Go

section
variable {α : Type} {P : Name → Bool}
theorem filter_ins {nm : Name} {f : α} (h : P nm = false) : ∀ {l : Al α}, (ins nm f l).filter (fun p => P p.1) = l.filter (fun p => P p.1)
  | [] => by simp [ins, h]
  | p :: l => by
    rw [ins]
    split
    · rw [List.filter_cons, if_neg (by simp [h])]
    · rw [List.filter_cons, List.filter_cons, filter_ins h]
theorem filter_del {nm : Name} (h : P nm = false) {l : Al α} : (del nm l).filter (fun p => P p.1) = l.filter (fun p => P p.1) := by
  unfold del
  rw [List.filter_filter]
  apply List.filter_congr
  intro p _
  by_cases e : p.1 = nm
  · simp [e, h]
  · simp [e]
theorem filter_upd {nm : Name} {g : α → α} (h : P nm = false) : ∀ {l : Al α}, (upd nm g l).filter (fun p => P p.1) = l.filter (fun p => P p.1)
  | [] => rfl
  | p :: l => by
    have ih := filter_upd (g := g) h (l := l)
    unfold upd at ih ⊢
    rw [List.map_cons, List.filter_cons, List.filter_cons, ih]
    by_cases e : p.1 = nm
    · simp [e, h]
    · simp [e]
end

theorem alone_op (d : D) (k : Nat) (nm nt : Name) (n : Int) (b : List UInt8) {P : Name → Bool} (h1 : P nm = false) (h2 : k = 5 → P nt = false) : (op d k nm nt n b).2.fs.filter (fun p => P p.1) = d.fs.filter (fun p => P p.1) := by
  have hpart : ∀ p, (part d.fs k nm p b).filter (fun p => P p.1) = d.fs.filter (fun p => P p.1) := fun p => by
    unfold part
    split
    · exact filter_upd h1
    · rfl
  have hact : (act d.fs k nm nt n b).filter (fun p => P p.1) = d.fs.filter (fun p => P p.1) := by
    unfold act
    split
    · exact filter_ins h1
    split
    · exact filter_upd h1
    split
    · exact filter_upd h1
    split
    · exact filter_upd h1
    split
    · rename_i k5
      split
      · rfl
      · rw [filter_ins (h2 k5), filter_del (h2 k5), filter_del h1]
    · exact filter_del h1
  unfold op
  split
  · rfl
  split
  · rfl
  · split
    · exact hact
    · split
      · exact hpart _
      · exact hpart _

/-- A file that is renamed. -/
theorem rename_op {d : D} (hd : d.down = false) (ht : d.tr = []) (nm nt : Name) : op d 5 nm nt 0 [] =
    if refuse d 5 nm nt 0 [] ≠ 0 then (refuse d 5 nm nt 0 [], { d with ops := d.ops + 1 }) else (0, { d with ops := d.ops + 1, fs := act d.fs 5 nm nt 0 [] }) := by
  unfold op
  rw [hd, ht]
  rfl
theorem rename_get {d : D} (hI : Inv d) {nm nt : Name} {f : Fl} (hf : get d.fs nm = some f) : act d.fs 5 nm nt 0 [] = ins nt f (del nt (del nm d.fs)) := by
  unfold act
  rw [if_neg (by omega), if_neg (by omega), if_neg (by omega), if_neg (by omega), if_pos rfl, hf]
theorem rename_to {d : D} {nm nt : Name} {f : Fl} : get (ins nt f (del nt (del nm d.fs))) nt = some f := by
  rw [get_ins (fun p hp => (del_mem.1 hp).2), if_pos rfl]
theorem rename_from {d : D} {nm nt : Name} {f : Fl} (hne : nm ≠ nt) : get (ins nt f (del nt (del nm d.fs))) nm = none := by
  rw [get_ins (fun p hp => (del_mem.1 hp).2), if_neg (fun e => hne e.symm), get_del, if_neg (fun e => hne e.symm), get_del, if_pos rfl]
theorem rename_used {d : D} (hI : Inv d) {nm nt : Name} {f : Fl} (hf : get d.fs nm = some f) :
    used (ins nt f (del nt (del nm d.fs))) = if nm = nt then used d.fs else used d.fs - (match get d.fs nt with | none => 0 | some g => g.data.length) := by
  have h1 := used_del hI.up hf
  rw [used_ins]
  by_cases e : nm = nt
  · subst e
    rw [if_pos rfl]
    have h2 : get (del nm d.fs) nm = none := by rw [get_del, if_pos rfl]
    rw [del_none h2]
    omega
  · rw [if_neg e]
    have h3 : get (del nm d.fs) nt = get d.fs nt := by rw [get_del, if_neg e]
    cases hg : get d.fs nt with
    | none =>
      rw [hg] at h3
      rw [del_none h3]
      simp only
      omega
    | some g =>
      rw [hg] at h3
      have h4 := used_del (del_up hI.up) h3
      simp only
      omega
end Go.Proofs.YtfdpnjebhllpkaaGreatDoor.Dk
