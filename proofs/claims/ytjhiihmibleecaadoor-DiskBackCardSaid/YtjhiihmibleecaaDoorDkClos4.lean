/- Append's part and whole; Cut. -/
import Derived.Test.YtjhiihmibleecaaDoorDkClos3
namespace Go.Proofs.YtjhiihmibleecaaDoor.Dk
open Go.RowKit

/-- What the closures of Append captured: the variable put, the bytes. -/
def PutV (w : World) (bp bd bn bb : Nat) : Prop := w.cell? ⟨bp, 0, none⟩ = some (.func (.func 33) #[] #[.pointer (some ⟨bd, 0, none⟩), .pointer (some ⟨bn, 0, none⟩), .pointer (some ⟨bb, 0, none⟩)])

set_option maxHeartbeats 1000000 in
set_option maxRecDepth 100000 in
theorem append4 (w : World) (B a mb : Nat) (L : Al Nat) (F : Nat → Fl) (tv : Value) (d : D) (h : Da w B a mb L F tv d) (s : ByteArray) (hs : s.size ≤ 1000000) (bd bn bb bp : Nat) (hc : Cp w bd bn a s) (hp : PutV w bp bd bn bb)
    (A : Option Addr) (n c : Nat) (l : List UInt8) (kb : w.cell? ⟨bb, 0, none⟩ = some (.slice A n c)) (hBs : Bs w A n c l) (hn : n ≤ 1000000) (b : Nat) (hg : Dk.get L s.data.toList = some b) (hfl : (F b).data.length ≤ 1000000000) :
    Calls Tryd.prog 37 #[.pointer (some ⟨bp, 0, none⟩), .pointer (some ⟨bb, 0, none⟩)] w
      fun e w' => e = .returned (.tuple #[]) ∧ St B a mb tv { d with fs := upd s.data.toList (fun f => ⟨f.data ++ l, f.safe⟩) d.fs } w w' := by
  have hcon := append1 w B a mb L F tv d h s hs bd bn bb hc A n c l kb hBs hn n (Nat.le_refl _) b hg hfl
  rw [List.take_of_length_le (by rw [hBs.len]; exact Nat.le_refl _)] at hcon
  have hcon' := Lib.hid hcon
  have kp : w.cell? ⟨bp, 0, none⟩ = _ := hp
  have e1 : ∀ args w, (callFunc 33 args).run Tryd.prog w = .ok (.enter 33 args) w := enters_of Tryd.func33 (by kernel_rfl) rfl
  clear hcon h hc hp hBs hg
  go_enter Tryd.func37, Tryd.ntmps37
  go_wp2_with fail
  refine hcon'.out.mono ?_
  rintro e w1 ⟨rfl, hst⟩
  have hst' := Lib.hid hst
  clear hst kp kb
  go_wp2_with fail
  go_end0
  exact ⟨rfl, hst'.out⟩

set_option maxHeartbeats 1000000 in
set_option maxRecDepth 100000 in
theorem append3 (w : World) (B a mb : Nat) (L : Al Nat) (F : Nat → Fl) (tv : Value) (d : D) (h : Da w B a mb L F tv d) (s : ByteArray) (hs : s.size ≤ 1000000) (bd bn bb bp : Nat) (hc : Cp w bd bn a s) (hp : PutV w bp bd bn bb)
    (A : Option Addr) (n c : Nat) (l : List UInt8) (kb : w.cell? ⟨bb, 0, none⟩ = some (.slice A n c)) (hBs : Bs w A n c l) (hn : n ≤ 1000000) (b : Nat) (hg : Dk.get L s.data.toList = some b) (hfl : (F b).data.length ≤ 1000000000) (z : Int) :
    Calls Tryd.prog 36 #[.int .i64 z, .pointer (some ⟨bp, 0, none⟩), .pointer (some ⟨bb, 0, none⟩)] w
      fun e w' => e = .returned (.tuple #[]) ∧ St B a mb tv { d with fs := upd s.data.toList (fun f => ⟨f.data ++ l.take z.toNat, f.safe⟩) d.fs } w w' := by
  obtain ⟨m, hm⟩ : ∃ m : Nat, min (max z 0) (n : Int) = (m : Int) := ⟨(min (max z 0) (n : Int)).toNat, by omega⟩
  have hcon := append1 w B a mb L F tv d h s hs bd bn bb hc A n c l kb hBs hn m (by omega) b hg hfl
  have htk : l.take m = l.take z.toNat := by
    have hl := hBs.len
    rcases Nat.le_total z.toNat n with h1 | h1
    · rw [show m = z.toNat by omega]
    · rw [show m = n by omega, List.take_of_length_le (by omega), List.take_of_length_le (by omega)]
  rw [htk] at hcon
  have hcon' := Lib.hid hcon
  have kp : w.cell? ⟨bp, 0, none⟩ = _ := hp
  have e1 : ∀ args w, (callFunc 33 args).run Tryd.prog w = .ok (.enter 33 args) w := enters_of Tryd.func33 (by kernel_rfl) rfl
  clear hcon h hc hp hBs hg htk
  go_enter Tryd.func36, Tryd.ntmps36
  go_wp2_with fail
  refine hcon'.out.mono ?_
  rintro e w1 ⟨rfl, hst⟩
  have hst' := Lib.hid hst
  clear hst kp kb
  go_wp2_with fail
  go_end0
  exact ⟨rfl, hst'.out⟩
end Go.Proofs.YtjhiihmibleecaaDoor.Dk
