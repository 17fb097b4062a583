/- What a manifest's bytes are is read as it. -/
import Derived.Test.YtpolobklcgfciaaDoorManDec
namespace Go.Proofs.YtpolobklcgfciaaDoor.Ma
open Go.RowKit Go.Shelf

theorem recM_len (g la : Int) (ss : List Int) : (recM g la ss).length = 16 + 4 * ss.length := by
  unfold recM
  rw [List.length_append, les_len]
  simp [mag]
  omega

theorem les_drop (z : Int) (zs : List Int) (k : Nat) : (les (z :: zs)).drop (4 * (k + 1)) = (les zs).drop (4 * k) := by
  show (Fr.le z.toNat ++ les zs).drop (4 * (k + 1)) = _
  rw [show 4 * (k + 1) = (Fr.le z.toNat).length + 4 * k by rw [Fr.le_length]; omega, ← List.drop_drop, List.drop_append_of_le_length (Nat.le_refl _), List.drop_length, List.nil_append]

theorem num_les : ∀ (zs : List Int) (k : Nat), (∀ z ∈ zs, 0 ≤ z ∧ z < 4294967296) → (h : k < zs.length) → (num (les zs) k : Int) = zs[k] := by
  intro zs
  induction zs with
  | nil => intro k _ h; simp at h
  | cons z r ih =>
    intro k hz h
    cases k with
    | zero =>
      have := hz z (List.mem_cons_self ..)
      unfold num
      rw [Nat.mul_zero, List.drop_zero]
      show (Fr.get (Fr.le z.toNat ++ les r) : Int) = z
      rw [Fr.get_le _ (by omega)]
      omega
    | succ k =>
      have h' : k < r.length := by simpa using h
      have := ih k (fun x hx => hz x (List.mem_cons_of_mem _ hx)) h'
      unfold num at this ⊢
      rw [les_drop, this]
      simp

theorem nums_les (zs : List Int) (hz : ∀ z ∈ zs, 0 ≤ z ∧ z < 4294967296) : ∀ k, k ≤ zs.length → nums (les zs) k = zs.take k := by
  intro k
  induction k with
  | zero => intro _; rfl
  | succ k ih =>
    intro hk
    rw [nums, ih (by omega), num_les zs k hz (by omega)]
    rw [take_snoc (List.getElem?_eq_getElem (by omega))]

/-- What is told of a manifest's record is the manifest. -/
theorem ofRec_recM {g la : Int} {ss : List Int} (h : mayM g la ss = true) : ofRec (recM g la ss) = (true, g, la, ss) := by
  have hz := nums_lt h
  obtain ⟨zs, hzs⟩ : ∃ zs, g :: la :: (ss.length : Int) :: ss = zs := ⟨_, rfl⟩
  have hl : zs.length = 3 + ss.length := by rw [← hzs]; simp; omega
  rw [hzs] at hz
  have hr : recM g la ss = mag ++ les zs := by rw [recM, hzs]
  have hd : (recM g la ss).drop 4 = les zs := by rw [hr]; rfl
  have hlen := recM_len g la ss
  have hdiv : (recM g la ss).length / 4 = zs.length + 1 := by rw [hlen, hl]; omega
  have n1 : ((num (recM g la ss) 1 : Nat) : Int) = g := by
    rw [← num_drop, hd, num_les zs 0 hz (by omega)]
    simp [← hzs]
  have n2 : ((num (recM g la ss) 2 : Nat) : Int) = la := by
    rw [← num_drop, hd, num_les zs 1 hz (by omega)]
    simp [← hzs]
  have n3 : ((num (recM g la ss) 3 : Nat) : Int) = (ss.length : Int) := by
    rw [← num_drop, hd, num_les zs 2 hz (by omega)]
    simp [← hzs]
  have hn : (nums (recM g la ss) ((recM g la ss).length / 4)).drop 4 = ss := by
    rw [hdiv, ← nums_drop, hd, nums_les zs hz _ (Nat.le_refl _), List.take_length, ← hzs]
    rfl
  unfold ofRec
  rw [if_pos ⟨by rw [hr]; rfl, by rw [hlen]; omega, by rw [hlen]; omega⟩, hn, n1, n2]
  rw [if_pos ⟨by rw [hlen]; omega, h⟩]

theorem encM_len {g la : Int} {ss : List Int} (h : mayM g la ss = true) : (encM g la ss).length = 24 + 4 * ss.length ∧ encM g la ss = Fr.frame (recM g la ss) := by
  obtain ⟨_, _, _, h4, h5, _⟩ := may_facts h
  have hlen := recM_len g la ss
  have e : encM g la ss = Fr.frame (recM g la ss) := by
    unfold encM Fr.put
    rw [h, if_pos rfl, if_neg (by omega)]
  rw [e, Fr.frame_length, hlen]
  exact ⟨by omega, rfl⟩

/-- What a manifest's bytes are is read as it. -/
theorem decM_encM {g la : Int} {ss : List Int} (h : mayM g la ss = true) : decM (encM g la ss) = (true, g, la, ss) := by
  obtain ⟨_, _, _, h4, h5, _⟩ := may_facts h
  obtain ⟨hl, he⟩ := encM_len h
  have hlen := recM_len g la ss
  have hn := Fr.next_frame (recM g la ss) [] (by omega) (by omega)
  rw [List.append_nil, ← he] at hn
  unfold decM
  rw [hn, if_pos ⟨rfl, by simp only; rw [hl, hlen]; omega⟩]
  exact ofRec_recM h

/-- With a byte more it is none. -/
theorem decM_more {g la : Int} {ss : List Int} (h : mayM g la ss = true) (x : UInt8) : decM (encM g la ss ++ [x]) = (false, 0, 0, []) := by
  obtain ⟨_, _, _, h4, h5, _⟩ := may_facts h
  obtain ⟨hl, he⟩ := encM_len h
  have hlen := recM_len g la ss
  have hn := Fr.next_frame (recM g la ss) [x] (by omega) (by omega)
  rw [← he] at hn
  unfold decM
  rw [hn, if_neg]
  rintro ⟨_, h2⟩
  rw [List.length_append, hl] at h2
  simp at h2
  omega

/-- With a byte fewer it is none. -/
theorem decM_fewer {g la : Int} {ss : List Int} (h : mayM g la ss = true) : decM ((encM g la ss).take ((encM g la ss).length - 1)) = (false, 0, 0, []) := by
  obtain ⟨_, _, _, h4, h5, _⟩ := may_facts h
  obtain ⟨hl, he⟩ := encM_len h
  have hlen := recM_len g la ss
  have hn := Fr.next_stop (recM g la ss) [] ((encM g la ss).length - 1) (by omega) (by omega) (by rw [hl]; omega)
  rw [List.append_nil, ← he] at hn
  unfold decM
  rw [hn, if_neg]
  rintro ⟨h1, _⟩
  simp only at h1
  split at h1 <;> omega
end Go.Proofs.YtpolobklcgfciaaDoor.Ma
