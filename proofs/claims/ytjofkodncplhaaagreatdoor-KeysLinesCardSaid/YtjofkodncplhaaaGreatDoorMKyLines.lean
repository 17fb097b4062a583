/- The plain law KeysLines: empty lines, remarks, blanks around lines. No program stands here. -/
import Derived.Test.YtjofkodncplhaaaGreatDoorMKyLaw
namespace Go.Proofs.YtjofkodncplhaaaGreatDoor.Ky

/-- Ends of lines turned. -/
def lns : Tx → Tx
  | [] => []
  | b :: t => if b = 13 then (if t.head? = some 10 then lns t else 10 :: lns t) else b :: lns t
theorem lns_keep : ∀ {a : Tx}, 13 ∉ a → ∀ s, lns (a ++ s) = a ++ lns s
  | [], _, _ => rfl
  | b :: a, h, s => by
    rw [List.mem_cons, not_or] at h
    rw [List.cons_append, List.cons_append]
    show (if b = 13 then _ else b :: lns (a ++ s)) = _
    rw [if_neg (fun e => h.1 e.symm), lns_keep h.2 s]
theorem lns_turn (s : Tx) : lns (13 :: 10 :: s) = 10 :: lns s := by simp [lns]

/-- "# a remark" -/
def remark : Tx := [35, 32, 97, 32, 114, 101, 109, 97, 114, 107]
/-- Lines that are passed over. -/
def idle : Nat → Tx
  | 0 => []
  | k + 1 => [32, 10, 35, 120, 10] ++ idle k
def decoR (k : Nat) : List Rl → Tx
  | [] => []
  | r :: l => idle k ++ ([32, 9] ++ textL r ++ [32, 13, 10]) ++ decoR k l
def deco (k : Nat) (l : List Rl) : Tx := remark ++ [13, 10] ++ decoR k l

theorem idle_no : ∀ k, 13 ∉ idle k
  | 0 => by simp [idle]
  | k + 1 => by
    intro h
    rcases List.mem_append.1 h with h | h
    · exact absurd h (by decide)
    · exact idle_no k h
theorem split_idle (s : Tx) : ∀ k, split 10 (idle k ++ s) = (List.replicate k [[32], [35, 120]]).flatten ++ split 10 s
  | 0 => rfl
  | k + 1 => by
    show split 10 (([32, 10, 35, 120, 10] ++ idle k) ++ s) = _
    rw [show ([32, 10, 35, 120, 10] ++ idle k) ++ s = [32] ++ 10 :: ([35, 120] ++ 10 :: (idle k ++ s)) by simp, split_cut (by decide), split_cut (by decide), split_idle s k, List.replicate_succ, List.flatten_cons]
    rfl
theorem idle_shows : ∀ k, ((List.replicate k [[32], [35, 120]]).flatten : List Tx).filter shows = []
  | 0 => rfl
  | k + 1 => by
    rw [List.replicate_succ, List.flatten_cons, List.filter_append, idle_shows k]
    decide

section
variable {nm : Tx → Bool} (hn : Names nm)
include hn
theorem deco_rows (k : Nat) : ∀ {l : List Rl}, (∀ r ∈ l, ruleB nm r = true) → ∃ ps, split 10 (lns (decoR k l)) = ps ++ [[]] ∧ (ps.filter shows).map trim = l.map textL
  | [], _ => ⟨[], rfl, rfl⟩
  | r :: l, h => by
    obtain ⟨ps, e1, e2⟩ := deco_rows k (l := l) fun x hx => h x (List.mem_cons_of_mem _ hx)
    have ht := text_bytes hn (h r (List.mem_cons_self ..))
    have hno : (13 : UInt8) ∉ idle k ++ ([32, 9] ++ textL r ++ [32]) := fun hm => by
      rcases List.mem_append.1 hm with hm | hm
      · exact idle_no k hm
      · rcases List.mem_append.1 hm with hm | hm
        · rcases List.mem_append.1 hm with hm | hm
          · exact absurd hm (by decide)
          · exact (ht _ hm).2 rfl
        · exact absurd hm (by decide)
    have hno2 : (10 : UInt8) ∉ [32, 9] ++ textL r ++ [32] := fun hm => by
      rcases List.mem_append.1 hm with hm | hm
      · rcases List.mem_append.1 hm with hm | hm
        · exact absurd hm (by decide)
        · exact (ht _ hm).1 rfl
      · exact absurd hm (by decide)
    refine ⟨(List.replicate k [[32], [35, 120]]).flatten ++ ([32, 9] ++ textL r ++ [32]) :: ps, ?_, ?_⟩
    · have e : decoR k (r :: l) = (idle k ++ ([32, 9] ++ textL r ++ [32])) ++ 13 :: 10 :: decoR k l := by
        show idle k ++ ([32, 9] ++ textL r ++ [32, 13, 10]) ++ decoR k l = _
        simp
      rw [e, lns_keep hno, lns_turn, List.append_assoc (idle k), split_idle, split_cut hno2, e1]
      simp
    · have htr := text_trim r (a := [32, 9]) (c := [32]) (fun b hb => by simp at hb; rcases hb with rfl | rfl <;> decide) (fun b hb => by rw [List.mem_singleton.1 hb]; decide)
      have hsh : shows ([32, 9] ++ textL r ++ [32]) = true := by
        unfold shows
        rw [htr]
        simp [textL]
      rw [List.filter_append, idle_shows, List.nil_append, List.filter_cons, if_pos hsh, List.map_cons, htr, e2, List.map_cons]
/-- THE LAW KeysLines. -/
theorem lines_law (k : Nat) {l : List Rl} (h : mayB nm l = true) : parseL nm (split 10 (lns (deco k l))) 0 [] = (l, 0, 0) := by
  have h' := h
  unfold mayB at h'
  rw [Bool.and_eq_true, decide_eq_true_eq] at h'
  have hne : ([] : List Rl) ++ l ≠ [] := by
    intro e
    rw [List.nil_append] at e
    rw [e] at h'
    simp at h'
  obtain ⟨ps, e1, e2⟩ := deco_rows hn k (mayP_rules h'.2)
  have e : lns (deco k l) = remark ++ 10 :: lns (decoR k l) := by
    unfold deco
    rw [List.append_assoc, lns_keep (by decide)]
    show remark ++ lns (13 :: 10 :: decoR k l) = _
    rw [lns_turn]
  rw [e, split_cut (by decide), e1, parse_shows hn (l := l) ?_ h'.2 (by simp; omega) hne, List.nil_append]
  rw [List.filter_cons, if_neg (show ¬ shows remark = true by decide), List.filter_append, show [([] : Tx)].filter shows = [] from by decide, List.append_nil, e2]
end
end Go.Proofs.YtjofkodncplhaaaGreatDoor.Ky
