/- The law IvsetOnes. -/
import Derived.Test.YtppmnelgekhbnaaDoorIvAwake
import Derived.Test.YtppmnelgekhbnaaDoorIvHas
import Derived.Test.YtppmnelgekhbnaaDoorIvInts
namespace Go.Proofs.YtppmnelgekhbnaaDoor.IvW
open Go.RowKit Iv

/-- The versions up to one. -/
def versTo (m : Nat → Bool) : Nat → List Int
  | 0 => []
  | k + 1 => versTo m k ++ if m (k + 1) then [((k + 1 : Nat) : Int)] else []

theorem vers_len (m : Nat → Bool) : ∀ k, (versTo m k).length = card m k
  | 0 => rfl
  | k + 1 => by
    rw [versTo, card, List.length_append, vers_len m k]
    split <;> simp
theorem vers_mem (m : Nat → Bool) : ∀ (k : Nat) (v : Int), v ∈ versTo m k ↔ ∃ x : Nat, v = x ∧ 1 ≤ x ∧ x ≤ k ∧ m x = true
  | 0, v => by simp [versTo]; intro x _ h1 h2; omega
  | k + 1, v => by
    rw [versTo, List.mem_append, vers_mem m k]
    constructor
    · rintro (⟨x, h1, h2, h3, h4⟩ | h)
      · exact ⟨x, h1, h2, by omega, h4⟩
      · split at h
        · rename_i hm
          rw [List.mem_singleton] at h
          exact ⟨k + 1, h, by omega, by omega, hm⟩
        · cases h
    · rintro ⟨x, h1, h2, h3, h4⟩
      by_cases hx : x = k + 1
      · right
        subst hx
        rw [if_pos h4, h1]
        simp
      · exact .inl ⟨x, h1, h2, by omega, h4⟩
theorem card_le' (m : Nat → Bool) : ∀ k, card m k ≤ k
  | 0 => Nat.le_refl _
  | k + 1 => by have := card_le' m k; rw [card]; split <;> omega

theorem ok_one {v : Int} (h : ver v = true) : okB 1 [(v, v)] = true := by
  have := ver_true.1 h
  simp [okB]
  omega

theorem add_sp (m : Nat → Bool) {v : Nat} (h1 : 1 ≤ v) (h2 : v ≤ 200) : add? (sp m) v = sp fun x => m x || decide (x = v) := by
  have hv : ver (v : Int) = true := ver_true.2 ⟨by omega, by omega⟩
  unfold add?
  rw [if_pos hv]
  unfold union?
  rw [okB_sp, ok_one hv, if_pos (show (true && true) = true from rfl)]
  exact sp_congr fun x g1 g2 => by
    rw [mem_sp' m g1 g2, mem_cons, mem_nil, Bool.or_false]
    congr 1
    rw [Bool.eq_iff_iff]
    simp
    omega

theorem of_sp : ∀ (L : List Nat) (m : Nat → Bool), (∀ v ∈ L, 1 ≤ v ∧ v ≤ 200) → (L.map (fun x : Nat => (x : Int))).foldl add? (sp m) = sp fun x => m x || L.contains x
  | [], m, _ => by simp
  | v :: L, m, h => by
    obtain ⟨h1, h2⟩ := h v (by simp)
    rw [List.map_cons, List.foldl_cons, add_sp m h1 h2, of_sp L _ (fun u hu => h u (by simp [hu]))]
    exact sp_congr fun x _ _ => by
      simp [Bool.or_assoc]

theorem of_law (L : List Nat) (h : ∀ v ∈ L, 1 ≤ v ∧ v ≤ 200) : of? (L.map (fun x : Nat => (x : Int))) = sp fun x => L.contains x := by
  unfold of?
  rw [show ([] : List Span) = sp (fun _ => false) from sp_none.symm, of_sp L _ h]
  exact sp_congr fun x _ _ => by simp

def versN (m : Nat → Bool) (k : Nat) : List Nat := ((List.range k).map (· + 1)).filter m
theorem versN_map (m : Nat → Bool) : ∀ k, (versN m k).map (fun x : Nat => (x : Int)) = versTo m k
  | 0 => rfl
  | k + 1 => by
    rw [versTo, ← versN_map m k]
    unfold versN
    rw [List.range_succ, List.map_append, List.filter_append, List.map_append]
    congr 1
    by_cases h : m (k + 1) = true <;> simp [h]
theorem versN_mem (m : Nat → Bool) (k x : Nat) : x ∈ versN m k ↔ 1 ≤ x ∧ x ≤ k ∧ m x = true := by
  unfold versN
  simp only [List.mem_filter, List.mem_map, List.mem_range]
  constructor
  · rintro ⟨⟨y, h1, rfl⟩, h2⟩; exact ⟨by omega, by omega, h2⟩
  · rintro ⟨h1, h2, h3⟩; exact ⟨⟨x - 1, by omega, by omega⟩, h3⟩

/-- The versions, turned. -/
def rotN (L : List Nat) (t k : Nat) : List Nat := (List.range k).map fun i => L[(i + t) % L.length]?.getD 0
theorem rotN_succ (L : List Nat) (t k : Nat) : rotN L t (k + 1) = rotN L t k ++ [L[(k + t) % L.length]?.getD 0] := by
  unfold rotN
  rw [List.range_succ, List.map_append]
  rfl
theorem rotN_mem (L : List Nat) (t x : Nat) : x ∈ rotN L t L.length ↔ x ∈ L := by
  unfold rotN
  simp only [List.mem_map, List.mem_range]
  constructor
  · rintro ⟨i, hi, rfl⟩
    have hlt : (i + t) % L.length < L.length := Nat.mod_lt _ (by omega)
    rw [List.getElem?_eq_getElem hlt]
    exact List.getElem_mem _
  · intro h
    obtain ⟨j, hj, rfl⟩ := List.getElem_of_mem h
    refine ⟨(j + (L.length - t % L.length)) % L.length, Nat.mod_lt _ (by omega), ?_⟩
    have hm : t % L.length < L.length := Nat.mod_lt _ (by omega)
    have e : ((j + (L.length - t % L.length)) % L.length + t) % L.length = j := by
      have ht := Nat.div_add_mod t L.length
      rw [Nat.add_mod, Nat.mod_mod, ← Nat.add_mod]
      have e2 : j + (L.length - t % L.length) + t = j + L.length * (1 + t / L.length) := by
        rw [Nat.mul_add, Nat.mul_one]
        generalize L.length * (t / L.length) = q at *
        omega
      rw [e2, Nat.add_mul_mod_self_left, Nat.mod_eq_of_lt hj]
    rw [e, List.getElem?_eq_getElem hj]
    rfl

theorem ones_of (ms : Nat → Bool) : of? (versTo ms 200) = sp ms := by
  rw [← versN_map, of_law _ (fun v hv => by have := (versN_mem ms 200 v).1 hv; omega)]
  exact sp_congr fun x h1 h2 => by
    rw [Bool.eq_iff_iff, List.contains_iff_mem, versN_mem]
    exact ⟨fun h => h.2.2, fun h => ⟨h1, h2, h⟩⟩
theorem ones_rot (ms : Nat → Bool) (t : Nat) : of? ((rotN (versN ms 200) t (versN ms 200).length).map (fun x : Nat => (x : Int))) = sp ms := by
  rw [of_law _ (fun v hv => by rw [rotN_mem] at hv; have := (versN_mem ms 200 v).1 hv; omega)]
  exact sp_congr fun x h1 h2 => by
    rw [Bool.eq_iff_iff, List.contains_iff_mem, rotN_mem, versN_mem]
    exact ⟨fun h => h.2.2, fun h => ⟨h1, h2, h⟩⟩
end Go.Proofs.YtppmnelgekhbnaaDoor.IvW
