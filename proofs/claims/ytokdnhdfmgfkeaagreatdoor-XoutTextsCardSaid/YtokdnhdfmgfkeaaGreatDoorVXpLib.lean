/- What the library's functions on texts give to the printer: Contains, HasSuffix, ToLower, utf.Bad of a text. -/
import Derived.Test.YtokdnhdfmgfkeaaGreatDoorVXlPlaces
import Derived.Test.YtokdnhdfmgfkeaaGreatDoorVQxVal
import Derived.Test.YtokdnhdfmgfkeaaGreatDoorVXoMath
import Derived.Shelf.Strings.Search3
import Derived.Shelf.Strings.Prefix
import Derived.Lib.SlBytesConst
namespace Go.Proofs
open Go.Shelf Go.RowKit

shelf_lay Lays.n144 Nm 144 at Tryz as Tryz.lays144
shelf_lay Lays.n100 Nm 100 at Tryz as Tryz.lays100
end Go.Proofs
namespace Go.Proofs.YtokdnhdfmgfkeaaGreatDoor.Xp
open Go.RowKit Go.Shelf UtfW Xl Xo

theorem contains_any (w : World) (hU : Ut w) (s p : Tx) (hs : s.length ≤ 4000000000) :
  Calls Tryz.prog 48 #[.string (strOf s), .string (strOf p)] w fun e w' => e = .returned (.bool (find p s).isSome) ∧ w' = w := by
 obtain ⟨m, hm⟩ := hU.max
 refine (Any.strings_Contains Tryz.lays144 (strOf s) (strOf p) m w (by rw [strOf_size']; omega) hm).mono ?_
 rintro e w' ⟨rfl, rfl⟩
 refine ⟨?_, rfl⟩
 have e1 : (strOf s).data.toList = s := by simp [strOf]
 have e2 : (strOf p).data.toList = p := by simp [strOf]
 rw [e1, e2]
 unfold Lib.contains
 rw [index_find]
 cases find p s with
 | none => rfl
 | some n => simp [idxV]
theorem suffix_any (w : World) (s p : Tx) (hs : s.length ≤ 4000000000) :
  Calls Tryz.prog 49 #[.string (strOf s), .string (strOf p)] w fun e w' => e = .returned (.bool (p.isSuffixOf s)) ∧ w' = w := by
 refine (Any.strings_HasSuffix Tryz.lays100 (strOf s) (strOf p) w (by rw [strOf_size']; omega)).mono ?_
 rintro e w' ⟨rfl, rfl⟩
 have e1 : (strOf s).data.toList = s := by simp [strOf]
 have e2 : (strOf p).data.toList = p := by simp [strOf]
 rw [e1, e2]
 exact ⟨rfl, rfl⟩
theorem suffix_last (s : Tx) (c : UInt8) : [c].isSuffixOf s = decide (s.getLast? = some c) := by
 rw [Bool.eq_iff_iff, List.isSuffixOf_iff_suffix, decide_eq_true_eq]
 constructor
 ·rintro ⟨t, rfl⟩
  simp
 ·intro h
  obtain ⟨l, rfl⟩ := List.getLast?_eq_some_iff.1 h
  exact ⟨l, rfl⟩
theorem lower_xml (l : Tx) : Lib.toLowerD l = xml3 ↔ l.map low = xml3 := by
 constructor
 ·intro h
  have ha := lower_ascii l _ h (by decide)
  rw [Lib.toLowerD_ascii l ha] at h
  rw [← h]
  unfold Lib.toLowerA
  exact List.map_congr_left fun b _ => (low_lower b).symm
 ·intro h
  have ha : ∀ b ∈ l, b.toNat < 128 := fun b hb => by
   have hm : low b ∈ xml3 := by rw [← h]; exact List.mem_map_of_mem hb
   have h2 : ∀ x ∈ xml3, x.toNat < 128 := by decide
   have := h2 _ hm
   unfold low at this
   split at this
   ·omega
   ·exact this
  rw [Lib.toLowerD_ascii l ha, ← h]
  unfold Lib.toLowerA
  exact List.map_congr_left fun b _ => low_lower b
theorem lowX_any (w : World) (hU : Un w) (s : Tx) (hs : s.length ≤ 1000000) :
  Calls Tryz.prog 51 #[.string (strOf s)] w fun e w' => ∃ t, e = .returned (.string (strOf t)) ∧ decide (t = xml3) = decide (s.map low = xml3) ∧ Below w.heap.size w w' := by
 have hls : (strOf s).data.toList = s := by simp [strOf]
 refine (Any.strings_ToLower_any Tryz.lays159 Tryz.extra159 (strOf s) w (by rw [strOf_size' s]; omega) hU.case_ hU.ut.tabs).mono ?_
 rintro e w' ⟨rfl, hb⟩
 rw [hls]
 exact ⟨_, rfl, decide_eq_decide.2 (lower_xml s), hb⟩
theorem bs_convert (w : World) (s : ByteArray) (hs : s.size ≤ 281474976710656) :
  Bs (Lib.bytesWorld w 5 s) (some ⟨w.heap.size, 0, none⟩) s.size (grownCap w s.size 0 5) s.data.toList ∧ Below w.heap.size w (Lib.bytesWorld w 5 s) := by
 have hl : s.data.toList.length = s.size := by rw [Array.length_toList]; rfl
 refine ⟨{ len := by rw [bv_length, hl], le := grownCap_ge _ _ _ _, max := ?_, nil := (fun h => by cases h), cell := fun h0 => ⟨w.heap.size, 0, rfl, by rw [Lib.bytesWorld_size]; omega, ?_⟩ }, ?_⟩
 ·have := grownCap_le_maxLen w s.size 0 5 (by unfold maxLen; omega)
  unfold maxLen at this
  omega
 ·intro j u hu
  obtain ⟨x, hx, rfl⟩ := bv_get hu
  have hj : j < s.size := by rw [← hl]; exact (List.getElem?_eq_some_iff.1 hx).1
  rw [Nat.zero_add, Lib.bytesWorld_cell w 5 s j hj, List.getD_eq_getElem?_getD, hx]
  rfl
 ·exact ⟨rfl, rfl, rfl, by rw [Lib.bytesWorld_size]; omega, fun k hk => Lib.bytesWorld_at_old w 5 s k hk⟩
set_option maxHeartbeats 1000000 in
set_option maxRecDepth 100000 in
theorem good_any (w : World) (hU : Ut w) (s : Tx) (hs : s.length ≤ 4000000000) :
  Calls Tryz.prog 46 #[.string (strOf s)] w fun e w' => e = .returned (.bool (good s)) ∧ Below w.heap.size w w' := by
 have e1 : (strOf s).data.toList = s := by simp [strOf]
 have hsz : (strOf s).size = s.length := strOf_size' s
 obtain ⟨hbs, hbl⟩ := bs_convert w (strOf s) (by omega)
 rw [e1] at hbs
 have hcv := Lib.run_convert_string_bytes (P := Tryz.prog) w 9 41 5 (strOf s) Tryz.underlying9 Tryz.underlying41 Tryz.underlying5
 have hbc := Lib.hid (utfBad_any _ _ _ s (by omega) (Lib.bytesWorld w 5 (strOf s)) hbs (hU.below hbl))
 have hbl' := Lib.hid hbl
 obtain ⟨R, hR⟩ : ∃ R, badW s 0 = R := ⟨_, rfl⟩
 rw [hR] at hbc
 have hg : Hid (good s = decide (R < 0)) := Lib.hid (by unfold good; rw [hR])
 clear hbs hbl hR
 go_enter Tryz.func46, Tryz.ntmps46
 go_wp2_with fail
 refine hbc.out.mono ?_
 rintro e w1 ⟨rfl, hb1⟩
 have hfin := Lib.hid (hbl'.out.trans (hb1.mono hbl'.out.size))
 clear hb1 hbc hcv
 go_wp2_with fail
 go_ret
 exact ⟨by rw [hg.out]; rfl, hfin.out⟩
set_option maxHeartbeats 1000000 in
set_option maxRecDepth 100000 in
theorem plain_any (w : World) (hU : Ut w) (s : Tx) (hs : s.length ≤ 4000000000) :
  Calls Tryz.prog 47 #[.string (strOf s)] w fun e w' => e = .returned (.bool (plainT s)) ∧ Below w.heap.size w w' := by
 have hgc := Lib.hid (good_any w hU s hs)
 obtain ⟨G, hG⟩ : ∃ G, good s = G := ⟨_, rfl⟩
 rw [hG] at hgc
 have hp : Hid (plainT s = (G && decide (13 ∉ s))) := Lib.hid (by unfold plainT; rw [hG])
 have hf : Hid (decide ((idxV (find [13] s) : Int) < 0) = decide (13 ∉ s)) := Lib.hid (by
  rw [← byte_find, decide_eq_decide]
  have key : ∀ l : Tx, Lib.indexByte l 13 < 0 ↔ 13 ∉ l := by
   intro l
   induction l with
   | nil => simp [Lib.indexByte]
   | cons a l ih =>
    rw [Lib.indexByte]
    by_cases ha : a = 13
    ·subst ha
     simp
    ·have h1 : (a == 13) = false := by simpa using ha
     rw [h1]
     simp only [Bool.false_eq_true, if_false, List.mem_cons, not_or]
     rw [← ih]
     constructor
     ·intro h
      refine ⟨fun e => ha e.symm, ?_⟩
      split at h
      ·rename_i h2
       have : Lib.indexByte l 13 = -1 := by simpa using h2
       omega
      ·omega
     ·rintro ⟨_, h⟩
      split
      ·omega
      ·rename_i h2
       have h3 := Lib.indexByte_ge l 13
       have h4 : Lib.indexByte l 13 ≠ -1 := by simpa using h2
       omega
  exact key s)
 clear hG
 cases G with
 | false =>
  go_enter Tryz.func47, Tryz.ntmps47
  go_wp2_with fail
  refine hgc.out.mono ?_
  rintro e w1 ⟨rfl, hb1⟩
  have hfin := Lib.hid hb1
  clear hb1 hgc
  go_wp2_with fail
  go_ret
  exact ⟨by rw [hp.out]; rfl, hfin.out⟩
 | true =>
  obtain ⟨I, hI⟩ : ∃ I, idxV (find [13] s) = I := ⟨_, rfl⟩
  rw [hI] at hf
  have hbc := Lib.hid (fun w1 => byteS_any s 13 w1)
  rw [hI] at hbc
  clear hI
  go_enter Tryz.func47, Tryz.ntmps47
  go_wp2_with fail
  refine hgc.out.mono ?_
  rintro e w1 ⟨rfl, hb1⟩
  have hfin := Lib.hid hb1
  clear hb1 hgc
  go_wp2_with fail
  refine (hbc.out w1).mono ?_
  rintro e w2 ⟨rfl, rfl⟩
  go_wp2_with fail
  go_ret
  exact ⟨by rw [hp.out, ← hf.out]; rfl, hfin.out⟩
end Go.Proofs.YtokdnhdfmgfkeaaGreatDoor.Xp
