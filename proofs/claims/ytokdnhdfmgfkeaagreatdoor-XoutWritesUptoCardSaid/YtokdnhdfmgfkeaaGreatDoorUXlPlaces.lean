/- The law XlexPlaces, plainly. No program stands here. -/
import Derived.Test.YtokdnhdfmgfkeaaGreatDoorUXlStep
import Derived.Test.YtokdnhdfmgfkeaaGreatDoorUPlan2
import Derived.Lib.ConvBytes
import Derived.Test.YtokdnhdfmgfkeaaGreatDoorUStrLaws
import Derived.Lib.OthersKept
import Derived.Shelf.Strings.CaseAny
import Derived.Shelf.Strings.Replace
import Derived.Shelf.Strings.OnBuilder
set_option linter.unusedVariables false
set_option linter.unusedSimpArgs false
section
namespace Go.Proofs.YtokdnhdfmgfkeaaGreatDoor.Xl
open Go.RowKit UtfW

theorem str_at {S : Tx} {k : Nat} {x : UInt8} (h : S[k]? = some x) (hk : k < (strOf S).size) : (strOf S)[k]'hk = x := by
  have hk' : k < S.length := (List.getElem?_eq_some_iff.1 h).1
  rw [List.getElem?_eq_getElem hk'] at h
  exact Option.some.inj h
def offA (A : Option Addr) (c k : Nat) : Option Addr := if c = k then A else A.map (fun a => a.add k)
theorem Bs.from {w : World} {A : Option Addr} {n c : Nat} {l : Tx} (h : Bs w A n c l) {k m : Nat} (hk : k ≤ m) (hm : m ≤ n) : Bs w (offA A c k) (m - k) (c - k) ((l.drop k).take (m - k)) :=
  h.cut k m hk hm _ (fun b off e hlt => by
    unfold offA
    rw [if_neg (by omega), e]
    show some (Addr.add ⟨b, off, none⟩ k) = _
    unfold Addr.add
    split
    · rename_i h0; rw [h0]; rfl
    · rfl) (fun e => by
    unfold offA
    split
    · exact e
    · rw [e]; rfl) (fun hne => by
    unfold offA
    split
    · exact hne
    · intro e
      cases A with
      | none => exact hne rfl
      | some a => cases e)

section
variable (w : World) (b : Nat) (S : Tx) (k : Nat) (A : Option Addr) (c : Nat) (vo : Value)
end
end Go.Proofs.YtokdnhdfmgfkeaaGreatDoor.Xl
end

section
namespace Go.Proofs.YtokdnhdfmgfkeaaGreatDoor.Xl
open Go.RowKit Go.Shelf UtfW

theorem decN_high {n b0 b1 b2 b3 : Nat} (h : 128 ≤ b0) : 128 ≤ (Lib.decodeN n b0 b1 b2 b3).1 := by
  unfold Lib.decodeN
  rw [if_neg (by omega)]
  repeat' split
  all_goals simp only
  all_goals omega
end Go.Proofs.YtokdnhdfmgfkeaaGreatDoor.Xl
end

section
namespace Go.Proofs
open Go.Shelf Go.RowKit

shelf_lay Lays.n159 Nm 159 at Tryz as Tryz.lays159
theorem Tryz.extra159 : Builder.Extra Tryz.prog Tryz.lays159_ren where
  sizeBuilder := by kernel_rfl
  liesBuilder := by kernel_rfl
  t5 := Tryz.underlying5
  a5 := Tryz.lays187.a5
  z5 := Tryz.lays187.z5
  v5 := Tryz.lays187.v5
  infoByte := by kernel_rfl
  cellsByte := by kernel_rfl
  sizeByte := by kernel_rfl
  neB5 := by decide
end Go.Proofs
namespace Go.Proofs.YtokdnhdfmgfkeaaGreatDoor.Xl
open Go.RowKit Go.Shelf UtfW

def rowOk (x : Lib.CaseRow) : Bool :=
  if x.delta 1 > 1114111 then decide (128 ≤ x.1)
  else decide (x.2.1 < 128) || decide (128 ≤ x.1) && (decide (128 ≤ (x.1 : Int) + x.delta 1) || decide (x.1 = x.2.1) && (decide ((x.1 : Int) + x.delta 1 = 105) || decide ((x.1 : Int) + x.delta 1 = 107)))
theorem rows_ok : Lib.caseT.all rowOk = true := by decide +kernel
theorem row_at {i : Nat} (h : i < Lib.caseA.size) : rowOk (Lib.caseA.getD i (0, 0, 0, 0, 0)) = true := by
  have hr2 := rows_ok
  unfold Lib.caseA at h ⊢
  generalize Lib.caseT = T at hr2 h ⊢
  have h2 : i < T.length := by simpa using h
  have hm : T.toArray.getD i (0, 0, 0, 0, 0) = T[i] := by
    rw [Array.getD_eq_getD_getElem?]
    simp [h2]
  rw [hm]
  exact List.all_eq_true.1 hr2 _ (List.getElem_mem h2)
theorem conv_hi (x : Lib.CaseRow) (r : Int) (hr : 128 ≤ r) (hlo : (x.1 : Int) ≤ r) (hhi : r ≤ (x.2.1 : Int)) (hrow : rowOk x = true) : 128 ≤ Lib.convertR 1 r x ∨ Lib.convertR 1 r x = 105 ∨ Lib.convertR 1 r x = 107 := by
  unfold rowOk at hrow
  unfold Lib.convertR
  split at hrow
  · rename_i hd
    rw [if_pos hd]
    have := of_decide_eq_true hrow
    left
    omega
  · rename_i hd
    rw [if_neg hd]
    simp only [Bool.or_eq_true, Bool.and_eq_true, decide_eq_true_eq] at hrow
    omega
theorem lowU_hi (r : Int) (hr : 128 ≤ r) : 128 ≤ Lib.toLowerU r ∨ Lib.toLowerU r = 105 ∨ Lib.toLowerU r = 107 := by
  unfold Lib.toLowerU
  rw [if_neg (by omega)]
  unfold Lib.toR Lib.lookupGo
  have hrow := @row_at
  generalize Lib.caseA = C at hrow ⊢
  cases hi : Lib.lookupIdx C r (C.size + 1) 0 C.size with
  | none => exact .inl hr
  | some i =>
    obtain ⟨hil, hlo, hhi⟩ := Lib.lookupIdx_some C r _ _ _ i hi
    exact conv_hi _ r hr hlo hhi (hrow hil)
theorem enc_head {v : Int} (h : 128 ≤ v ∨ v = 105 ∨ v = 107) : ∃ b t, Lib.encodeRune v = b :: t ∧ (128 ≤ b.toNat ∨ b = 105 ∨ b = 107) := by
  rcases h with h | rfl | rfl
  · unfold Lib.encodeRune Lib.encodeRuneZ
    rw [if_neg (by omega)]
    split
    · refine ⟨_, _, rfl, .inl ?_⟩
      simp
      omega
    · split
      · refine ⟨_, _, rfl, .inl ?_⟩
        simp
        omega
      · split
        · refine ⟨_, _, rfl, .inl ?_⟩
          simp
          omega
        · exact ⟨_, _, rfl, .inl (by decide)⟩
  · exact ⟨_, _, rfl, .inr (.inl rfl)⟩
  · exact ⟨_, _, rfl, .inr (.inr rfl)⟩
theorem dec_hi (b : UInt8) (t : Tx) (h : 128 ≤ b.toNat) : 128 ≤ (Lib.decodeL (b :: t)).1 := by
  rw [Lib.decodeL_N]
  exact decN_high h
theorem low_lower (b : UInt8) : Lib.lowerB b = low b := by
  have e : Lib.isUpperB b = decide (65 ≤ b.toNat ∧ b.toNat ≤ 90) := by
    unfold Lib.isUpperB
    rw [Bool.eq_iff_iff, Bool.and_eq_true, decide_eq_true_eq, decide_eq_true_eq, decide_eq_true_eq]
    exact Iff.rfl
  unfold Lib.lowerB low
  rw [e]
  by_cases h : 65 ≤ b.toNat ∧ b.toNat ≤ 90
  · rw [if_pos h, if_pos (decide_eq_true h)]
  · rw [if_neg h, if_neg (by rw [decide_eq_false h]; decide)]
theorem lower_ascii : ∀ (l t : Tx), Lib.toLowerD l = t → (∀ b ∈ t, b.toNat < 128 ∧ b ≠ 105 ∧ b ≠ 107) → ∀ b ∈ l, b.toNat < 128
  | [], _, _, _ => fun b hb => by cases hb
  | b :: l, t, h, ht => by
    unfold Lib.toLowerD at h
    rw [Lib.mapD_step Lib.toLowerU (b :: l) (by simp)] at h
    by_cases hb : b.toNat < 128
    · rw [Lib.decodeL_ascii b l hb] at h
      dsimp only at h
      rw [if_pos (Lib.toLowerU_range b.toNat (by omega)).1, Lib.lower_byte ⟨b.toNat, hb⟩, List.drop_succ_cons, List.drop_zero] at h
      subst h
      intro x hx
      rcases List.mem_cons.1 hx with rfl | hx
      · exact hb
      · exact lower_ascii l _ rfl (fun y hy => ht y (List.mem_append_right _ hy)) x hx
    · exfalso
      have h1 := lowU_hi ((Lib.decodeL (b :: l)).1 : Nat) (by have := dec_hi b l (by omega); omega)
      rw [if_pos (by omega)] at h
      obtain ⟨c, u, hc, hcc⟩ := enc_head h1
      rw [hc] at h
      have := ht c (by rw [← h]; simp)
      rcases hcc with e | e | e
      · omega
      · exact this.2.1 e
      · exact this.2.2 e
end Go.Proofs.YtokdnhdfmgfkeaaGreatDoor.Xl
end

section
namespace Go.Proofs
open Go.Shelf Go.RowKit

shelf_lay Lays.n155 Nm 155 at Tryz as Tryz.lays155

end Go.Proofs
namespace Go.Proofs.YtokdnhdfmgfkeaaGreatDoor.UtfW
open Go.RowKit

end Go.Proofs.YtokdnhdfmgfkeaaGreatDoor.UtfW
end

section
namespace Go.Proofs.YtokdnhdfmgfkeaaGreatDoor.Xl
open Go.RowKit UtfW Qx

theorem V_of_bad {l : Tx} (h : badW l 0 < 0) : V l := by
  obtain ⟨rs, u, h1, h2, h3⟩ := runes_split l.length l (Nat.le_refl _)
  rcases h3 with rfl | ⟨h4, h5⟩
  · exact ⟨rs, h1, by rw [h2, List.append_nil]⟩
  · rw [badW_E h4 h5 rs 0 h1 (by rw [List.drop_zero]; exact h2)] at h
    omega
theorem V.cons {c : UInt8} {b : Tx} (hc : c.toNat < 128) {a : Tx} (h : V (a ++ c :: b)) : V (c :: b) := by
  obtain ⟨rs, hr, e⟩ := h
  exact (V.split hc hr e).2
theorem V.enc {v : Nat} (h : Utf.Char (v : Nat) = true) : V (encB (v : Nat)) := ⟨[v], fun r hr => by rw [List.mem_singleton.1 hr]; exact h, (E_one v).symm⟩

/-! ### Ends of lines -/
theorem lines_app : ∀ {a : Tx}, 13 ∉ a → ∀ s, Utf.lines (a ++ s) = a ++ Utf.lines s
  | [], _, _ => rfl
  | b :: a, h, s => by
    rw [List.mem_cons, not_or] at h
    rw [List.cons_append, Utf.lines, if_neg (fun e => h.1 e.symm), lines_app h.2 s, List.cons_append]
theorem cut13 (c : UInt8) : ∀ s : Tx, c ∉ s ∨ ∃ x r, s = x ++ c :: r ∧ c ∉ x
  | [] => .inl (by simp)
  | b :: s => by
    by_cases hb : b = c
    · exact .inr ⟨[], s, by rw [hb]; rfl, by simp⟩
    · rcases cut13 c s with h | ⟨x, r, e, h⟩
      · exact .inl (by rw [List.mem_cons, not_or]; exact ⟨fun e => hb e.symm, h⟩)
      · exact .inr ⟨b :: x, r, by rw [e]; rfl, by rw [List.mem_cons, not_or]; exact ⟨fun e => hb e.symm, h⟩⟩
theorem V.lines : ∀ (n : Nat) {s : Tx}, s.length ≤ n → V s → V (Utf.lines s)
  | 0, s, h, hv => by
    obtain rfl : s = [] := List.eq_nil_of_length_eq_zero (by omega)
    exact hv
  | n + 1, s, h, hv => by
    rcases cut13 13 s with h1 | ⟨x, r, rfl, h1⟩
    · have := lines_app h1 []
      rw [List.append_nil] at this
      rw [this]
      show V (s ++ [])
      rw [List.append_nil]
      exact hv
    · obtain ⟨hx, hr⟩ := V.cut (c := 13) (by decide) hv
      have ih := V.lines n (s := r) (by simp at h; omega) hr
      rw [lines_app h1]
      refine hx.append ?_
      rw [Utf.lines, if_pos rfl]
      split
      · exact ih
      · exact V.append (V.one (c := 10) (by decide) (by decide)) ih

/-! ### Names -/
theorem nameR_take {r : Tx} (h : V r) (h0 : nameL r ≠ 0) : nameR (r.take (nameL r)) = true := by
  obtain ⟨rs, hr, rfl⟩ := h
  have hge := E_ge hr
  obtain ⟨qs, ss, h1, h2, h3, h4⟩ := name_split rs ((E rs).length + 1) true (by omega) hr
  have h2' : nameL (E rs) = (E qs).length := h2
  subst h1
  have hq : ∀ r ∈ qs, Utf.Char (r : Nat) = true := fun r h => hr r (List.mem_append_left _ h)
  rw [h2', E_append, List.take_append_of_le_length (Nat.le_refl _), List.take_length]
  unfold nameR
  rw [runesW_E (E qs) qs 0 hq (by rw [List.drop_zero])]
  cases qs with
  | nil => rw [h2'] at h0; exact absurd rfl h0
  | cons q qs =>
    simp only
    rw [h4 rfl q rfl, h3 q (List.mem_cons_self ..), Bool.true_and, Bool.true_and, List.all_eq_true]
    exact fun x hx => h3 x (List.mem_cons_of_mem _ hx)
theorem name_V {r x : Tx} {n : Nat} (hv : V r) (h : name r = .ok x n) : nameR x = true ∧ V x ∧ V (r.drop n) := by
  obtain ⟨h1, h2, rfl, rfl⟩ := name_len h
  obtain ⟨g1, g2, _⟩ := nameL_V hv
  exact ⟨nameR_take hv (by omega), g1, g2⟩

/-! ### What is gone past leaves a valid text -/
theorem blanks_V {r : Tx} (h : V r) : V (r.drop (blanks r)) := by
  have e : r = r.takeWhile Qx.blank ++ r.drop (blanks r) := by
    have h1 := takeWhile_take Qx.blank r
    unfold blanks
    rw [← h1]
    conv => lhs; rw [← List.take_append_drop (r.takeWhile Qx.blank).length r]
    rw [h1]
  rw [e] at h
  refine h.drop fun c hc => ?_
  have hb := takeWhile_all Qx.blank r c hc
  unfold Qx.blank Blank at hb
  simp at hb
  omega
theorem eat_V {t r : Tx} {n : Nat} (hv : V r) (h : eat t r = .ok () n) (ht : ∀ c ∈ t, c.toNat < 128) : V (r.drop n) := by
  have key : ∀ {t r : Tx} {n : Nat}, eat t r = .ok () n → r = t ++ r.drop n := by
    intro t
    induction t with
    | nil =>
      intro r n h
      injection h with _ h
      subst h
      simp
    | cons c t ih =>
      intro r n h
      cases r with
      | nil => cases h
      | cons b r =>
        rw [eat] at h
        split at h
        · rename_i hb
          obtain ⟨m, hm, rfl⟩ := shift_ok h
          have := ih hm
          rw [Nat.add_comm 1 m, List.drop_succ_cons, List.cons_append, ← this, hb]
        · cases h
  rw [key h] at hv
  exact hv.drop ht
theorem upto_V {c : UInt8} {t r x : Tx} {n : Nat} (hv : V r) (h : upto (c :: t) r = .ok x n) (ht : ∀ b ∈ c :: t, b.toNat < 128) : V x ∧ V (r.drop n) := by
  obtain ⟨g1, g2, y, g3⟩ := upto_len h
  have hc := ht c (List.mem_cons_self ..)
  have e : r.drop n = y := by
    rw [g3, ← g2, ← List.length_append, List.drop_left]
  rw [e]
  rw [g3, List.append_assoc, List.cons_append] at hv
  obtain ⟨k1, k2⟩ := V.cut hc hv
  exact ⟨k1, k2.drop fun b hb => ht b (List.mem_cons_of_mem _ hb)⟩
theorem refV_char {t : Tx} {v : Nat} (h : refV t = some v) : Utf.Char (v : Nat) = true := by
  have hn : ∀ {base : Nat} {d : Tx} {v : Nat}, numR base d = some v → Utf.Char (v : Nat) = true := by
    intro base d v h
    unfold numR at h
    split at h
    · cases h
    · split at h
      · split at h
        · rename_i hc
          injection h with h
          rw [← h]
          exact hc
        · cases h
      · cases h
  unfold refV at h
  split at h
  · exact hn h
  · exact hn h
  · unfold named at h
    repeat (split at h; · (injection h with h; rw [← h]; decide))
    cases h
theorem refR_V {t v : Tx} {n : Nat} {c : UInt8} (hc : c.toNat < 128) (hv : V (c :: t)) (h : refR t = .ok v n) : V v ∧ V ((c :: t).drop n) := by
  have hg := refR_len h
  unfold refR at h
  cases hf : find [59] t with
  | none => rw [hf] at h; cases h
  | some m =>
    rw [hf] at h
    simp only at h
    obtain ⟨g1, y, g2⟩ := find_len hf
    cases hr : refV (t.take m) with
    | none => rw [hr] at h; cases h
    | some u =>
      rw [hr] at h
      injection h with h1 h2
      subst h1; subst h2
      refine ⟨V.enc (refV_char hr), ?_⟩
      have hvt := hv.tail hc
      rw [g2, List.append_assoc] at hvt
      obtain ⟨_, k2⟩ := V.cut (c := 59) (by decide) hvt
      have e : (c :: t).drop (m + 2) = y := by
        rw [show m + 2 = (m + 1) + 1 by omega, List.drop_succ_cons]
        conv => lhs; rw [g2]
        have : (t.take m ++ [59]).length = m + 1 := by
          rw [List.length_append, List.length_take]
          simp at g1 ⊢
          omega
        rw [← this, List.drop_left]
      rw [e]
      exact k2

def Half (out r : Tx) : Prop := ∃ o p, out = o ++ p ∧ V o ∧ V (p ++ r)
theorem Half.nil {r : Tx} (h : V r) : Half [] r := ⟨[], [], rfl, V.nil, h⟩
theorem Half.cut {out t : Tx} {c : UInt8} (h : Half out (c :: t)) (hc : c.toNat < 128) : V out ∧ V (c :: t) := by
  obtain ⟨o, p, rfl, h1, h2⟩ := h
  exact ⟨h1.append (V.cut hc h2).1, V.cons hc h2⟩
theorem Half.put {out t : Tx} {c : UInt8} (h : Half out (c :: t)) : Half (out ++ [c]) t := by
  obtain ⟨o, p, rfl, h1, h2⟩ := h
  exact ⟨o, p ++ [c], by simp, h1, by simpa using h2⟩
theorem line_V {c : UInt8} {t : Tx} (hc : c.toNat < 128) (h : V (c :: t)) : V ((c :: t).drop (line (c :: t))) := by
  unfold line
  split
  · rename_i hp
    obtain ⟨x, hx⟩ := List.isPrefixOf_iff_prefix.1 (show ([13, 10] : Tx).isPrefixOf (c :: t) = true from hp)
    rw [← hx] at h ⊢
    exact V.drop (a := [13, 10]) (b := x) h (by decide)
  · exact h.tail hc
theorem valF_V : ∀ {f : Nat} {q : UInt8} {r out v : Tx} {n : Nat}, q.toNat < 128 → valF f q r out = .ok v n → Half out r → V v ∧ V (r.drop n)
  | 0, q, r, out, v, n, _, h, _ => by cases h
  | f + 1, q, [], out, v, n, _, h, _ => by cases h
  | f + 1, q, c :: t, out, v, n, hq, h, hh => by
    rw [valF] at h
    split at h
    · rename_i h1
      injection h with h2 h3
      subst h2; subst h3; subst h1
      obtain ⟨k1, k2⟩ := hh.cut hq
      exact ⟨k1, k2.tail hq⟩
    · split at h
      · cases h
      · split at h
        · rename_i h1
          subst h1
          obtain ⟨k1, k2⟩ := hh.cut (by decide)
          cases hr : refR t with
          | bad e o => rw [hr] at h; cases h
          | ok u m =>
            rw [hr] at h
            obtain ⟨p, hp, rfl⟩ := shift_ok h
            obtain ⟨k3, k4⟩ := refR_V (by decide) k2 hr
            rw [← List.drop_drop]
            exact valF_V hq hp ⟨out ++ u, [], by simp, k1.append k3, k4⟩
        · split at h
          · rename_i h1
            have hc : c.toNat < 128 := by rcases h1 with rfl | rfl | rfl <;> decide
            obtain ⟨k1, k2⟩ := hh.cut hc
            obtain ⟨p, hp, rfl⟩ := shift_ok h
            rw [← List.drop_drop]
            exact valF_V hq hp ⟨out ++ [32], [], by simp, k1.append (V.one (by decide) (by decide)), line_V hc k2⟩
          · obtain ⟨p, hp, rfl⟩ := shift_ok h
            rw [Nat.add_comm 1 p, List.drop_succ_cons]
            exact valF_V hq hp hh.put
theorem value_V {r v : Tx} {n : Nat} (hv : V r) (h : value r = .ok v n) : V v ∧ V (r.drop n) := by
  cases r with
  | nil => cases h
  | cons q t =>
    rw [value] at h
    split at h
    · rename_i h1
      have hq : q.toNat < 128 := by rcases h1 with rfl | rfl <;> decide
      obtain ⟨p, hp, rfl⟩ := shift_ok h
      rw [Nat.add_comm 1 p, List.drop_succ_cons]
      exact valF_V hq hp (Half.nil (hv.tail hq))
    · cases h
theorem textF_V : ∀ {f : Nat} {r out v : Tx} {n : Nat}, textF f r out = .ok v n → Half out r → V v ∧ V (r.drop n)
  | 0, r, out, v, n, h, _ => by cases h
  | f + 1, [], out, v, n, h, hh => by
    injection h with h1 h2
    subst h1; subst h2
    obtain ⟨o, p, rfl, k1, k2⟩ := hh
    rw [List.append_nil] at k2
    exact ⟨k1.append k2, V.nil⟩
  | f + 1, c :: t, out, v, n, h, hh => by
    rw [textF] at h
    split at h
    · rename_i h1
      injection h with h2 h3
      subst h2; subst h3; subst h1
      exact hh.cut (by decide)
    · split at h
      · rename_i h1
        subst h1
        obtain ⟨k1, k2⟩ := hh.cut (by decide)
        cases hr : refR t with
        | bad e o => rw [hr] at h; cases h
        | ok u m =>
          rw [hr] at h
          obtain ⟨p, hp, rfl⟩ := shift_ok h
          obtain ⟨k3, k4⟩ := refR_V (by decide) k2 hr
          rw [← List.drop_drop]
          exact textF_V hp ⟨out ++ u, [], by simp, k1.append k3, k4⟩
      · split at h
        · rename_i h1
          subst h1
          obtain ⟨k1, k2⟩ := hh.cut (by decide)
          obtain ⟨p, hp, rfl⟩ := shift_ok h
          rw [← List.drop_drop]
          exact textF_V hp ⟨out ++ [10], [], by simp, k1.append (V.one (by decide) (by decide)), line_V (by decide) k2⟩
        · split at h
          · cases h
          · obtain ⟨p, hp, rfl⟩ := shift_ok h
            rw [Nat.add_comm 1 p, List.drop_succ_cons]
            exact textF_V hp hh.put

/-! ### Tags -/
def AtV (a : At) : Prop := nameR a.1 = true ∧ V a.2
theorem attr_V {there : List At} {r : Tx} {a : At} {n : Nat} (hv : V r) (h : attr there r = .ok a n) : AtV a ∧ V (r.drop n) := by
  unfold attr at h
  cases hn : name r with
  | bad c o => rw [hn] at h; cases h
  | ok nm n1 =>
    rw [hn] at h
    simp only at h
    obtain ⟨g1, g2, g3⟩ := name_V hv hn
    split at h
    · cases h
    · split at h
      · cases h
      · rename_i u m he
        have g4 := blanks_V g3
        rw [List.drop_drop] at g4
        have g5 := eat_V g4 he (by decide)
        rw [List.drop_drop] at g5
        have g6 := blanks_V g5
        rw [List.drop_drop] at g6
        split at h
        · cases h
        · rename_i v n2 hval
          injection h with h1 h2
          subst h1; subst h2
          obtain ⟨g7, g8⟩ := value_V g6 hval
          rw [List.drop_drop] at g8
          exact ⟨⟨g1, g7⟩, g8⟩
theorem tagF_V : ∀ {f : Nat} {r : Tx} {ats : List At} {v : Bool × List At} {n : Nat}, V r → tagF f r ats = .ok v n → (∀ a ∈ ats, AtV a) → (∀ a ∈ v.2, AtV a) ∧ V (r.drop n)
  | 0, r, ats, v, n, _, h, _ => by cases h
  | f + 1, r, ats, v, n, hv, h, ha => by
    have hb := blanks_V hv
    cases hd : r.drop (blanks r) with
    | nil => rw [tagF_nil f ats hd] at h; cases h
    | cons c t =>
      rw [hd] at hb
      rw [tagF_cons f ats hd] at h
      by_cases h1 : c = 62
      · rw [if_pos h1] at h
        injection h with h2 h3
        subst h2; subst h3; subst h1
        rw [← List.drop_drop, hd]
        exact ⟨ha, hb.tail (by decide)⟩
      · rw [if_neg h1] at h
        by_cases h2 : c = 47
        · rw [if_pos h2] at h
          cases he : eat [47, 62] (c :: t) with
          | bad e o => rw [he] at h; cases h
          | ok u m =>
            rw [he] at h
            injection h with h3 h4
            subst h3; subst h4
            have := eat_V hb he (by decide)
            rw [← List.drop_drop, hd]
            exact ⟨ha, this⟩
        · rw [if_neg h2] at h
          by_cases h3 : blanks r = 0
          · rw [if_pos h3] at h; cases h
          · rw [if_neg h3] at h
            cases hat : attr ats (c :: t) with
            | bad e o => rw [hat] at h; cases h
            | ok a m =>
              rw [hat] at h
              obtain ⟨p, hp, rfl⟩ := shift_ok h
              obtain ⟨g1, g2⟩ := attr_V hb hat
              have g3 := tagF_V g2 hp (fun x hx => by
                rcases List.mem_append.1 hx with hx | hx
                · exact ha x hx
                · rw [List.mem_singleton.1 hx]; exact g1)
              rw [List.drop_drop] at g3
              rw [← List.drop_drop, ← List.drop_drop, hd, List.drop_drop]
              exact g3

def named_ (k : Nat) : Bool := k == 1 || k == 2 || k == 3 || k == 7
structure TokV (t : Tok) : Prop where
  kind : 1 ≤ t.kind ∧ t.kind ≤ 7
  text : V t.text
  name : nameR t.name = named_ t.kind
  attrs : ∀ a ∈ t.attrs, AtV a
theorem nameR_nil : nameR [] = false := by decide +kernel
theorem hp_cut {p r : Tx} (h : Lib.hasPrefix r p = true) : ∃ x, r = p ++ x := by
  obtain ⟨x, hx⟩ := List.isPrefixOf_iff_prefix.1 (show p.isPrefixOf r = true from h)
  exact ⟨x, hx.symm⟩
theorem V.past {p r : Tx} (hv : V r) (h : Lib.hasPrefix r p = true) (hp : ∀ c ∈ p, c.toNat < 128) : V (r.drop p.length) := by
  obtain ⟨x, rfl⟩ := hp_cut h
  rw [List.drop_left]
  exact V.drop hv hp
theorem tag_V {r : Tx} {t : Tok} {n : Nat} (hv : V (r.drop 1)) (h : tag r = .ok t n) : TokV t ∧ V (r.drop n) ∧ t.kind ≠ 4 := by
  unfold tag at h
  split at h
  · cases h
  · rename_i nm m hn
    obtain ⟨g1, g2, g3⟩ := name_V hv hn
    rw [List.drop_drop] at g3
    split at h
    · cases h
    · rename_i e ats p ht
      injection h with h1 h2
      subst h1; subst h2
      obtain ⟨g4, g5⟩ := tagF_V g3 ht (fun a ha => by cases ha)
      rw [List.drop_drop] at g5
      exact ⟨⟨by cases e <;> simp, V.nil, by rw [g1]; cases e <;> rfl, g4⟩, g5, by cases e <;> simp⟩
theorem instr_V {r : Tx} {t : Tok} {n : Nat} (hv : V (r.drop 2)) (h : instr r = .ok t n) : TokV t ∧ V (r.drop n) ∧ t.kind ≠ 4 := by
  unfold instr at h
  split at h
  · cases h
  · rename_i nm m hn
    obtain ⟨g1, g2, g3⟩ := name_V hv hn
    rw [List.drop_drop] at g3
    split at h
    · cases h
    · split at h
      · split at h
        · cases h
        · rename_i u p he
          injection h with h1 h2
          subst h1; subst h2
          have g4 := eat_V g3 he (by decide)
          rw [List.drop_drop] at g4
          exact ⟨⟨by simp, V.nil, by rw [g1]; rfl, fun a ha => by cases ha⟩, g4, by simp⟩
      · have g4 := blanks_V g3
        rw [List.drop_drop] at g4
        split at h
        · cases h
        · rename_i x p hu
          injection h with h1 h2
          subst h1; subst h2
          obtain ⟨g5, g6⟩ := upto_V g4 hu (by decide)
          rw [List.drop_drop] at g6
          exact ⟨⟨by simp, V.lines _ (Nat.le_refl _) g5, by rw [g1]; rfl, fun a ha => by cases ha⟩, g6, by simp⟩
theorem comment_V {r : Tx} {t : Tok} {n : Nat} (hv : V (r.drop 4)) (h : comment r = .ok t n) : TokV t ∧ V (r.drop n) ∧ t.kind ≠ 4 := by
  unfold comment at h
  split at h
  · cases h
  · rename_i x m hu
    obtain ⟨g5, g6⟩ := upto_V hv hu (by decide)
    rw [List.drop_drop] at g6
    split at h
    · cases h
    · rename_i c y hd
      split at h
      · rename_i hc
        injection h with h1 h2
        subst h1; subst h2; subst hc
        rw [hd] at g6
        rw [← List.drop_drop, hd]
        exact ⟨⟨by simp, V.lines _ (Nat.le_refl _) g5, by rw [nameR_nil]; rfl, fun a ha => by cases ha⟩, g6.tail (by decide), by simp⟩
      · cases h
theorem cdata_V {r : Tx} {t : Tok} {n : Nat} (hv : V (r.drop 9)) (h : cdata r = .ok t n) : TokV t ∧ V (r.drop n) ∧ t.kind ≠ 4 := by
  unfold cdata at h
  split at h
  · cases h
  · rename_i x m hu
    obtain ⟨g5, g6⟩ := upto_V hv hu (by decide)
    rw [List.drop_drop] at g6
    injection h with h1 h2
    subst h1; subst h2
    exact ⟨⟨by simp, V.lines _ (Nat.le_refl _) g5, by rw [nameR_nil]; rfl, fun a ha => by cases ha⟩, g6, by simp⟩
theorem endT_V {r : Tx} {t : Tok} {n : Nat} (hv : V (r.drop 2)) (h : endT r = .ok t n) : TokV t ∧ V (r.drop n) ∧ t.kind ≠ 4 := by
  unfold endT at h
  split at h
  · cases h
  · rename_i nm m hn
    obtain ⟨g1, g2, g3⟩ := name_V hv hn
    rw [List.drop_drop] at g3
    have g4 := blanks_V g3
    rw [List.drop_drop] at g4
    split at h
    · cases h
    · rename_i u p he
      injection h with h1 h2
      subst h1; subst h2
      have g5 := eat_V g4 he (by decide)
      rw [List.drop_drop] at g5
      exact ⟨⟨by simp, V.nil, by rw [g1]; rfl, fun a ha => by cases ha⟩, g5, by simp⟩
theorem mark_V {r : Tx} {t : Tok} {n : Nat} (hv : V r) (h : mark r = .ok t n) : TokV t ∧ V (r.drop n) ∧ t.kind ≠ 4 := by
  unfold mark at h
  split at h
  · rename_i hp
    exact comment_V (V.past hv hp (by decide)) h
  · split at h
    · rename_i hp
      exact cdata_V (V.past hv hp (by decide)) h
    · split at h <;> cases h
theorem chars_V {r : Tx} {t : Tok} {n : Nat} (hv : V r) (h : chars r = .ok t n) : TokV t ∧ V (r.drop n) ∧ t.kind = 4 := by
  unfold chars at h
  split at h
  · cases h
  · rename_i x m ht
    injection h with h1 h2
    subst h1; subst h2
    obtain ⟨g1, g2⟩ := textF_V ht (Half.nil hv)
    exact ⟨⟨by simp, g1, by rw [nameR_nil]; rfl, fun a ha => by cases ha⟩, g2, rfl⟩
theorem head_60 {r : Tx} (h : ¬ r.head? ≠ some 60) : ∃ t, r = 60 :: t := by
  cases r with
  | nil => exact absurd (by simp) h
  | cons c t =>
    simp at h
    exact ⟨t, by rw [h]⟩
theorem token_V {r : Tx} {t : Tok} {n : Nat} (hv : V r) (h : token r = .ok t n) : TokV t ∧ V (r.drop n) ∧ (t.kind = 4 ↔ r.head? ≠ some 60) := by
  unfold token at h
  split at h
  · rename_i h1
    obtain ⟨g1, g2, g3⟩ := chars_V hv h
    exact ⟨g1, g2, fun _ => h1, fun _ => g3⟩
  · rename_i h1
    have fin : (TokV t ∧ V (r.drop n) ∧ t.kind ≠ 4) → TokV t ∧ V (r.drop n) ∧ (t.kind = 4 ↔ r.head? ≠ some 60) := fun ⟨g1, g2, g3⟩ => ⟨g1, g2, fun e => absurd e g3, fun e => absurd e h1⟩
    split at h
    · exact fin (mark_V hv h)
    · split at h
      · rename_i hp
        exact fin (instr_V (V.past hv hp (by decide)) h)
      · split at h
        · rename_i hp
          exact fin (endT_V (V.past hv hp (by decide)) h)
        · obtain ⟨s, rfl⟩ := head_60 h1
          exact fin (tag_V (hv.tail (by decide)) h)
theorem decl_V {S : Tx} {n : Nat} (hv : V S) (h : decl S = .ok () n) : V (S.drop n) := by
  unfold decl at h
  split at h
  · rename_i hp
    have g1 := V.past hv hp.1 (by decide)
    split at h
    · cases h
    · rename_i x m hu
      obtain ⟨_, g2⟩ := upto_V (r := S.drop 5) g1 hu (by decide)
      rw [List.drop_drop] at g2
      split at h
      · injection h with _ h2
        subst h2
        exact g2
      · cases h
  · injection h with _ h2
    subst h2
    exact hv
end Go.Proofs.YtokdnhdfmgfkeaaGreatDoor.Xl
end

section
namespace Go.Proofs.YtokdnhdfmgfkeaaGreatDoor.Xl
open Go.RowKit UtfW Qx

theorem textF_end : ∀ {f : Nat} {r out v : Tx} {n : Nat}, textF f r out = .ok v n → r.drop n = [] ∨ (r.drop n).head? = some 60
  | 0, r, out, v, n, h => by cases h
  | f + 1, [], out, v, n, h => by simp
  | f + 1, c :: t, out, v, n, h => by
    rw [textF] at h
    split at h
    · rename_i h1
      injection h with h2 h3
      subst h3; subst h1
      exact .inr rfl
    · split at h
      · cases hr : refR t with
        | bad e o => rw [hr] at h; cases h
        | ok u m =>
          rw [hr] at h
          obtain ⟨p, hp, rfl⟩ := shift_ok h
          rw [← List.drop_drop]
          exact textF_end hp
      · split at h
        · obtain ⟨p, hp, rfl⟩ := shift_ok h
          rw [← List.drop_drop]
          exact textF_end hp
        · split at h
          · cases h
          · obtain ⟨p, hp, rfl⟩ := shift_ok h
            rw [Nat.add_comm 1 p, List.drop_succ_cons]
            exact textF_end hp
theorem token_end {r : Tx} {t : Tok} {n : Nat} (h : token r = .ok t n) (h1 : r.head? ≠ some 60) : r.drop n = [] ∨ (r.drop n).head? = some 60 := by
  unfold token at h
  rw [if_pos h1] at h
  unfold chars at h
  split at h
  · cases h
  · rename_i x m ht
    injection h with h2 h3
    subst h3
    exact textF_end ht

structure TokOk (S : Tx) (t : Tok) : Prop where
  v : TokV t
  lt : t.at_ < S.length
  tag : t.kind ≠ 4 → S[t.at_]? = some 60
def Next (a b : Tok) : Prop := a.at_ < b.at_ ∧ ¬(a.kind = 4 ∧ b.kind = 4)
structure Toks (S : Tx) (k : Nat) (ts : List Tok) : Prop where
  each : ∀ t ∈ ts, TokOk S t
  next : ∀ i a b, ts[i]? = some a → ts[i + 1]? = some b → Next a b
  last : ∀ a, ts.getLast? = some a → a.at_ < k ∧ (a.kind = 4 → S.drop k = [] ∨ (S.drop k).head? = some 60)
theorem Toks.nil (S : Tx) (k : Nat) : Toks S k [] := ⟨fun t h => (by cases h), fun i a b h => (by simp at h), fun a h => (by cases h)⟩
theorem Toks.snoc {S : Tx} {k n : Nat} {ts : List Tok} {t : Tok} (h : Toks S k ts) (hk : k < S.length) (ht : TokV t) (h0 : t.kind ≠ 4 → (S.drop k).head? = some 60) (h00 : t.kind = 4 → (S.drop k).head? ≠ some 60) (hn : 1 ≤ n)
    (he : t.kind = 4 → S.drop (k + n) = [] ∨ (S.drop (k + n)).head? = some 60) : Toks S (k + n) (ts ++ [{ t with at_ := k }]) := by
  have hT : TokOk S { t with at_ := k } := ⟨⟨ht.kind, ht.text, ht.name, ht.attrs⟩, hk, fun e => by
    have := h0 e
    rw [List.head?_drop] at this
    exact this⟩
  refine ⟨fun x hx => ?_, fun i a b ha hb => ?_, fun a ha => ?_⟩
  · rcases List.mem_append.1 hx with hx | hx
    · exact h.each x hx
    · rw [List.mem_singleton.1 hx]; exact hT
  · rcases Nat.lt_or_ge (i + 1) ts.length with hi | hi
    · rw [List.getElem?_append_left hi] at hb
      rw [List.getElem?_append_left (by omega)] at ha
      exact h.next i a b ha hb
    · have hlt := (List.getElem?_eq_some_iff.1 hb).1
      rw [List.length_append] at hlt
      simp at hlt
      have hi1 : i + 1 = ts.length := by omega
      rw [List.getElem?_append_right (by omega), hi1, Nat.sub_self] at hb
      rw [List.getElem?_append_left (by omega)] at ha
      simp at hb
      have hl : ts.getLast? = some a := by rw [List.getLast?_eq_getElem?, ← hi1, Nat.add_sub_cancel]; exact ha
      obtain ⟨g1, g2⟩ := h.last a hl
      subst hb
      refine ⟨g1, fun ⟨e1, e2⟩ => ?_⟩
      rcases g2 e1 with g | g
      · have := congrArg List.length g
        simp at this
        omega
      · exact h00 e2 g
  · rw [List.getLast?_append] at ha
    simp at ha
    subst ha
    exact ⟨by simp only; omega, he⟩

theorem runF_ok {S : Tx} : ∀ (f : Nat) {k : Nat} {ts us : List Tok} {p : Nat}, V (S.drop k) → Toks S k ts → runF f (S.drop k) k ts = (0, p, us) → ∃ k', Toks S k' us
  | 0, k, ts, us, p, hv, hT, h => by
    injection h with _ h
    injection h with _ h
    subst h
    exact ⟨k, hT⟩
  | f + 1, k, ts, us, p, hv, hT, h => by
    rw [runF] at h
    split at h
    · injection h with _ h
      injection h with _ h
      subst h
      exact ⟨k, hT⟩
    · rename_i hne
      have hk : k < S.length := by
        rcases Nat.lt_or_ge k S.length with g | g
        · exact g
        · exact absurd (List.drop_eq_nil_of_le g) hne
      cases ht : token (S.drop k) with
      | bad c o =>
        rw [ht] at h
        injection h with h1 h
        injection h with h2 h
        subst h
        exact ⟨0, Toks.nil S 0⟩
      | ok t n =>
        rw [ht] at h
        obtain ⟨g1, g2, g3⟩ := token_V hv ht
        obtain ⟨g4, _⟩ := token_len ht hne
        rw [List.drop_drop] at g2
        simp only [List.drop_drop] at h
        refine runF_ok f g2 (hT.snoc hk g1 (fun e => ?_) (fun e => g3.1 e) g4 (fun e => ?_)) h
        · exact Classical.byContradiction fun hc => e (g3.2 hc)
        · have := token_end ht (g3.1 e)
          rw [List.drop_drop] at this
          exact this

theorem places {S : Tx} {ts : List Tok} {p : Nat} (h : allF S = (0, p, ts)) : (∀ t ∈ ts, TokOk S t) ∧ ∀ i a b, ts[i]? = some a → ts[i + 1]? = some b → Next a b := by
  unfold allF at h
  split at h
  · cases h
  · split at h
    · cases h
    · rename_i hb
      have hv : V S := V_of_bad (by omega)
      cases hd : decl S with
      | bad c o =>
        rw [hd] at h
        injection h with h1 h
        injection h with h2 h
        subst h
        exact ⟨fun t h => (by cases h), fun i a b h => (by simp at h)⟩
      | ok u n =>
        rw [hd] at h
        obtain ⟨k', hT⟩ := runF_ok _ (decl_V hv hd) (Toks.nil S n) h
        exact ⟨hT.each, hT.next⟩
end Go.Proofs.YtokdnhdfmgfkeaaGreatDoor.Xl
end
