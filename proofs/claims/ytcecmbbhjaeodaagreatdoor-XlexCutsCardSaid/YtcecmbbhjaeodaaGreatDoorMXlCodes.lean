/- What is wrong has a code. No program stands here. -/
import Derived.Test.YtcecmbbhjaeodaaGreatDoorMXlLex
namespace Go.Proofs.YtcecmbbhjaeodaaGreatDoor.Xl
open Go.RowKit UtfW Qx

def Cd (c : Int) : Prop := c = 2 ∨ c = 4 ∨ c = 5 ∨ c = 6
theorem cd2 : Cd 2 := .inl rfl
theorem cd4 : Cd 4 := .inr (.inl rfl)
theorem cd5 : Cd 5 := .inr (.inr (.inl rfl))
theorem cd6 : Cd 6 := .inr (.inr (.inr rfl))
theorem Cd.ne {c : Int} (h : Cd c) : c ≠ 0 := by rcases h with h | h | h | h <;> omega
theorem eat_cd {t r : Tx} {c : Int} {o : Nat} (h : eat t r = .bad c o) : Cd c := by
  rcases (eat_bad h).2.1 with rfl | rfl
  · exact cd6
  · exact cd2
theorem upto_cd {t r : Tx} {c : Int} {o : Nat} (h : upto t r = .bad c o) : Cd c := by
  unfold upto at h
  split at h
  · injection h with h1 _; rw [← h1]; exact cd6
  · cases h
theorem name_cd {r : Tx} {c : Int} {o : Nat} (h : name r = .bad c o) : Cd c := by
  unfold name at h
  split at h
  · injection h with h1 _; rw [← h1]; exact cd6
  · split at h
    · injection h with h1 _; rw [← h1]; exact cd2
    · cases h
theorem refR_cd {r : Tx} {c : Int} {o : Nat} (h : refR r = .bad c o) : Cd c := by
  unfold refR at h
  split at h
  · injection h with h1 _; rw [← h1]; exact cd5
  · split at h
    · injection h with h1 _; rw [← h1]; exact cd5
    · cases h
theorem valF_cd : ∀ {f : Nat} {q : UInt8} {r out : Tx} {c : Int} {o : Nat}, valF f q r out = .bad c o → Cd c
  | 0, q, r, out, c, o, h => by rw [valF] at h; injection h with h1 _; rw [← h1]; exact cd6
  | f + 1, q, [], out, c, o, h => by rw [valF] at h; injection h with h1 _; rw [← h1]; exact cd6
  | f + 1, q, x :: t, out, c, o, h => by
    rw [valF] at h
    split at h
    · cases h
    · split at h
      · injection h with h1 _; rw [← h1]; exact cd2
      · split at h
        · split at h
          · rename_i e p hr
            injection h with h1 _
            rw [← h1]
            exact refR_cd hr
          · obtain ⟨p, hp, _⟩ := shift_bad h
            exact valF_cd hp
        · split at h
          · obtain ⟨p, hp, _⟩ := shift_bad h
            exact valF_cd hp
          · obtain ⟨p, hp, _⟩ := shift_bad h
            exact valF_cd hp
theorem value_cd {r : Tx} {c : Int} {o : Nat} (h : value r = .bad c o) : Cd c := by
  unfold value at h
  split at h
  · injection h with h1 _; rw [← h1]; exact cd6
  · split at h
    · obtain ⟨p, hp, _⟩ := shift_bad h
      exact valF_cd hp
    · injection h with h1 _; rw [← h1]; exact cd2
theorem textF_cd : ∀ {f : Nat} {r out : Tx} {c : Int} {o : Nat}, textF f r out = .bad c o → Cd c
  | 0, r, out, c, o, h => by rw [textF] at h; injection h with h1 _; rw [← h1]; exact cd6
  | f + 1, [], out, c, o, h => by rw [textF] at h; cases h
  | f + 1, x :: t, out, c, o, h => by
    rw [textF] at h
    split at h
    · cases h
    · split at h
      · split at h
        · rename_i e p hr
          injection h with h1 _
          rw [← h1]
          exact refR_cd hr
        · obtain ⟨p, hp, _⟩ := shift_bad h
          exact textF_cd hp
      · split at h
        · obtain ⟨p, hp, _⟩ := shift_bad h
          exact textF_cd hp
        · split at h
          · injection h with h1 _; rw [← h1]; exact cd2
          · obtain ⟨p, hp, _⟩ := shift_bad h
            exact textF_cd hp
theorem attr_cd {there : List At} {r : Tx} {c : Int} {o : Nat} (h : attr there r = .bad c o) : Cd c := by
  unfold attr at h
  split at h
  · rename_i hn
    injection h with h1 _; rw [← h1]; exact name_cd hn
  · split at h
    · injection h with h1 _; rw [← h1]; exact cd4
    · split at h
      · rename_i he
        injection h with h1 _; rw [← h1]; exact eat_cd he
      · split at h
        · rename_i hv
          injection h with h1 _; rw [← h1]; exact value_cd hv
        · cases h
theorem tagF_cd : ∀ {f : Nat} {r : Tx} {ats : List At} {c : Int} {o : Nat}, tagF f r ats = .bad c o → Cd c
  | 0, r, ats, c, o, h => by rw [tagF] at h; injection h with h1 _; rw [← h1]; exact cd6
  | f + 1, r, ats, c, o, h => by
    cases hd : r.drop (blanks r) with
    | nil =>
      rw [tagF_nil f ats hd] at h
      injection h with h1 _; rw [← h1]; exact cd6
    | cons x t =>
      rw [tagF_cons f ats hd] at h
      split at h
      · cases h
      · split at h
        · split at h
          · rename_i he
            injection h with h1 _; rw [← h1]; exact eat_cd he
          · cases h
        · split at h
          · injection h with h1 _; rw [← h1]; exact cd2
          · split at h
            · rename_i ha
              injection h with h1 _; rw [← h1]; exact attr_cd ha
            · obtain ⟨p, hp, _⟩ := shift_bad h
              exact tagF_cd hp
theorem tag_cd {r : Tx} {c : Int} {o : Nat} (h : tag r = .bad c o) : Cd c := by
  unfold tag at h
  split at h
  · rename_i hn
    injection h with h1 _; rw [← h1]; exact name_cd hn
  · split at h
    · rename_i ht
      injection h with h1 _; rw [← h1]; exact tagF_cd ht
    · cases h
theorem instr_cd {r : Tx} {c : Int} {o : Nat} (h : instr r = .bad c o) : Cd c := by
  unfold instr at h
  split at h
  · rename_i hn
    injection h with h1 _; rw [← h1]; exact name_cd hn
  · split at h
    · injection h with h1 _; rw [← h1]; exact cd2
    · split at h
      · split at h
        · rename_i he
          injection h with h1 _; rw [← h1]; exact eat_cd he
        · cases h
      · split at h
        · rename_i hu
          injection h with h1 _; rw [← h1]; exact upto_cd hu
        · cases h
theorem comment_cd {r : Tx} {c : Int} {o : Nat} (h : comment r = .bad c o) : Cd c := by
  unfold comment at h
  split at h
  · rename_i hu
    injection h with h1 _; rw [← h1]; exact upto_cd hu
  · split at h
    · injection h with h1 _; rw [← h1]; exact cd6
    · split at h
      · cases h
      · injection h with h1 _; rw [← h1]; exact cd2
theorem cdata_cd {r : Tx} {c : Int} {o : Nat} (h : cdata r = .bad c o) : Cd c := by
  unfold cdata at h
  split at h
  · rename_i hu
    injection h with h1 _; rw [← h1]; exact upto_cd hu
  · cases h
theorem endT_cd {r : Tx} {c : Int} {o : Nat} (h : endT r = .bad c o) : Cd c := by
  unfold endT at h
  split at h
  · rename_i hn
    injection h with h1 _; rw [← h1]; exact name_cd hn
  · split at h
    · rename_i he
      injection h with h1 _; rw [← h1]; exact eat_cd he
    · cases h
theorem mark_cd' {r : Tx} {c : Int} {o : Nat} (h : mark r = .bad c o) : Cd c := by
  unfold mark at h
  split at h
  · exact comment_cd h
  · split at h
    · exact cdata_cd h
    · split at h
      · injection h with h1 _; rw [← h1]; exact cd6
      · injection h with h1 _; rw [← h1]; exact cd2
theorem chars_cd {r : Tx} {c : Int} {o : Nat} (h : chars r = .bad c o) : Cd c := by
  unfold chars at h
  split at h
  · rename_i ht
    injection h with h1 _; rw [← h1]; exact textF_cd ht
  · cases h
theorem token_cd {r : Tx} {c : Int} {o : Nat} (h : token r = .bad c o) : Cd c := by
  unfold token at h
  split at h
  · exact chars_cd h
  · split at h
    · exact mark_cd' h
    · split at h
      · exact instr_cd h
      · split at h
        · exact endT_cd h
        · exact tag_cd h
theorem decl_cd {S : Tx} {c : Int} {o : Nat} (h : decl S = .bad c o) : Cd c := by
  unfold decl at h
  split at h
  · split at h
    · rename_i hu
      injection h with h1 _; rw [← h1]; exact upto_cd hu
    · split at h
      · cases h
      · injection h with h1 _; rw [← h1]; exact cd2
  · cases h
end Go.Proofs.YtcecmbbhjaeodaaGreatDoor.Xl
