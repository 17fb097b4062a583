/- A map of names to blocks, as a list by names. No program stands here. -/
import Derived.Test.YtfdpnjebhllpkaaGreatDoorMDkMath
import Derived.Sort.KeysCollected
namespace Go.Proofs.YtfdpnjebhllpkaaGreatDoor.Dk
open Go

/-- Blocks by names, as a map's datum. -/
def mp (L : Al Nat) : DataW Unit := .map (L.map fun p => (Lit.string p.1, DataW.lit (.int .i64 (p.2 : Nat))))

/-- A pointer to a block's beginning, or none. -/
def ptrElem : Value → Option (DataW Unit × List MemPlace)
  | .pointer none => some (.nil, [])
  | .pointer (some ⟨b, 0, none⟩) => some (.lit (.int .i64 (b : Nat)), [])
  | _ => none

theorem ptr_nil {v : Value} {ps : List MemPlace} (h : ptrElem v = some (.nil, ps)) : v = .pointer none := by
  unfold ptrElem at h
  split at h
  · rfl
  · simp at h
  · cases h
theorem ptr_blk {v : Value} {b : Nat} {ps : List MemPlace} (h : ptrElem v = some (.lit (.int .i64 (b : Nat)), ps)) : v = .pointer (some ⟨b, 0, none⟩) := by
  unfold ptrElem at h
  split at h
  · simp at h
  · rename_i b'
    simp at h
    have := h.1
    have : b' = b := by omega
    rw [this]
  · cases h

theorem mp_at (L : Al Nat) (nm : Name) (zd : DataW Unit) : (mp L).atKey (.string nm) zd = match get L nm with | none => zd | some b => .lit (.int .i64 (b : Nat)) := by
  unfold mp DataW.atKey
  induction L with
  | nil => rfl
  | cons p L ih =>
    rw [get_cons]
    simp only [List.map_cons, List.find?_cons] at ih ⊢
    by_cases h : p.1 = nm
    · simp [Lit.sameKey, h]
    · rw [if_neg h]
      simp only [Lit.sameKey, show (p.1 == nm) = false by simpa using h]
      exact ih

theorem mp_del (L : Al Nat) (nm : Name) : (mp L).del (.string nm) = mp (del nm L) := by
  unfold mp DataW.del del
  simp only
  congr 1
  rw [List.filter_map]
  rfl

theorem insert_mp (nm : Name) (b : Nat) (L : Al Nat) : DataW.insert (Lit.string nm, DataW.lit (.int .i64 (b : Nat))) (L.map fun p => (Lit.string p.1, DataW.lit (H := Unit) (.int .i64 (p.2 : Nat)))) = (ins nm b L).map fun p => (Lit.string p.1, DataW.lit (.int .i64 (p.2 : Nat))) := by
  induction L with
  | nil => rfl
  | cons p L ih =>
    rw [ins, List.map_cons]
    unfold DataW.insert
    by_cases h : bytesBefore nm p.1 = true
    · have h' : (Lit.string nm).before (Lit.string p.1) = true := h
      rw [if_pos h', if_pos h]
      rfl
    · have h' : ¬ (Lit.string nm).before (Lit.string p.1) = true := h
      rw [if_neg h', if_neg h, ih]
      rfl

theorem mp_put (L : Al Nat) (nm : Name) (b : Nat) : (mp L).put (.string nm) (.lit (.int .i64 (b : Nat))) = mp (ins nm b (del nm L)) := by
  have h := mp_del L nm
  unfold mp DataW.del at h
  simp only at h
  injection h with h
  unfold mp DataW.put
  simp only
  rw [h, insert_mp]

theorem mp_size (L : Al Nat) : Maps.size (mp L) = L.length := by
  unfold mp Maps.size
  simp

theorem mp_keys (L : Al Nat) : strKeys (mp L) = L.map (·.1) := by
  show (L.map fun p => (Lit.string p.1, DataW.lit (H := Unit) (.int .i64 (p.2 : Nat)))).map (fun p => strOf p.1) = _
  rw [List.map_map]
  rfl
end Go.Proofs.YtfdpnjebhllpkaaGreatDoor.Dk
