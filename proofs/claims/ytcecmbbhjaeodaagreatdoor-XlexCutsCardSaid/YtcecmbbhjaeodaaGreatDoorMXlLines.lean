/- Lines of utf, where its Trim and Name are not at hand. -/
import Derived.Test.YtcecmbbhjaeodaaGreatDoorMUtfE
import Derived.Test.YtcecmbbhjaeodaaGreatDoorMUtfLinesLaw
import Derived.Test.YtcecmbbhjaeodaaGreatDoorMXlShelf
import Derived.Shelf.Strings.Replace
import Derived.Shelf.Strings.OnBuilder
namespace Go.Proofs
open Go.Shelf Go.RowKit

shelf_lay Lays.n155 Nm 155 at Tryz as Tryz.lays155

theorem Tryz.extra155 : Builder.Extra Tryz.prog Tryz.lays155_ren where
  sizeBuilder := by kernel_rfl
  liesBuilder := by kernel_rfl
  t5 := Tryz.underlying5
  a5 := Tryz.lays187.a5
  z5 := Tryz.lays187.z5
  v5 := Tryz.lays187.v5
  infoByte := by kernel_rfl
  cellsByte := by kernel_rfl
  sizeByte := by kernel_rfl
  neB5 := by decide

end Go.Proofs
namespace Go.Proofs.YtcecmbbhjaeodaaGreatDoor.UtfW
open Go.RowKit

theorem replaceAll_any (s old : ByteArray) (w : World) (hU : Ut w) (hs : s.size ≤ 1000000) (h1 : 1 ≤ old.size) :
    Calls Tryz.prog 112 #[.string s, .string old, .string ⟨#[10]⟩] w fun e w' => e = .returned (.string (strOf (Lib.replaceAll s.data.toList old.data.toList [10]))) ∧ Below w.heap.size w w' := by
  obtain ⟨m, hm⟩ := hU.max
  have hc := Lib.countB_le old h1 s.size s (Nat.le_refl _)
  exact Any.strings_ReplaceAll Tryz.lays155 Tryz.extra155 s old ⟨#[10]⟩ m w (by omega) hm h1 (by
    have : (⟨#[10]⟩ : ByteArray).size = 1 := rfl
    rw [this]
    omega)

/-- The code's Lines. -/
theorem utfLines_any (s : ByteArray) (hs : s.size ≤ 1000000) (w : World) (hU : Ut w) :
    Calls Tryz.prog 87 #[.string s] w fun e w' => e = .returned (.string (strOf (Utf.lines s.data.toList))) ∧ Below w.heap.size w w' := by
  have hl : s.data.toList.length = s.size := by rw [Array.length_toList]; rfl
  have c1 := replaceAll_any s ⟨#[13, 10]⟩ w hU hs (by decide)
  have e1 : Lib.replaceAll s.data.toList (⟨#[13, 10]⟩ : ByteArray).data.toList [10] = Utf.rep2 s.data.toList := Utf.rep2_eq _
  rw [e1] at c1
  have hlen := Utf.rep2_len s.data.toList
  have hfin := Utf.lines_eq _ s.data.toList (Nat.le_refl _)
  obtain ⟨m, hm⟩ : ∃ m, Utf.rep2 s.data.toList = m := ⟨_, rfl⟩
  rw [hm] at c1 hlen hfin
  obtain ⟨z, hz⟩ : ∃ z, Utf.lines s.data.toList = z := ⟨_, rfl⟩
  rw [hz] at hfin ⊢
  have hfin' := Lib.hid hfin
  clear hz hm e1 hfin
  go_enter Tryz.func87, Tryz.ntmps87
  go_wp2_with fail
  refine c1.mono ?_
  rintro e w1 ⟨rfl, hb1⟩
  have c2 := replaceAll_any (strOf m) ⟨#[13]⟩ w1 (hU.below hb1) (by rw [strOf_size]; omega) (by decide)
  have e2 : Lib.replaceAll (strOf m).data.toList (⟨#[13]⟩ : ByteArray).data.toList [10] = Utf.rep1 m := Utf.rep1_eq _
  rw [e2, hfin'.out] at c2
  have hb1' := Lib.hid hb1
  clear hb1 e2
  go_wp2_with fail
  refine c2.mono ?_
  rintro e w2 ⟨rfl, hb2⟩
  have hx := Lib.hid (hb1'.out.trans (hb2.mono hb1'.out.size))
  clear hb2 c1 c2
  go_wp2_with fail
  go_ret
  exact ⟨rfl, hx.out⟩

end Go.Proofs.YtcecmbbhjaeodaaGreatDoor.UtfW
