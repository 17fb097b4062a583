/- The document's Arm. -/
import Derived.Test.YtjhiihmibleecaaGreatDoorDkRh
namespace Go.Proofs.YtjhiihmibleecaaGreatDoor.Dk
open Go.RowKit

theorem Ra.setTr {w : World} {B rb : Nat} {lv tv tv' : Value} {d : D} {tr' : List Tr} (h : Ra w B rb lv tv d) (htr : w.ownsRow B 86 3 tv' tr'.length (trf tr')) : Ra (w.setCell ⟨rb, 2, none⟩ tv') B rb lv tv' { d with tr := tr' } ∧ Below B w (w.setCell ⟨rb, 2, none⟩ tv') ∧ Rm w (w.setCell ⟨rb, 2, none⟩ tv') :=
  h.setA (d' := { d with tr := tr' }) (grown_set w ⟨rb, 2, none⟩ tv') (setCell_blk h.blk _) (h.row_set 2 _) (row_kept htr (grown_set w ⟨rb, 2, none⟩ tv') h.noT)

set_option maxHeartbeats 1000000 in
set_option maxRecDepth 100000 in
theorem rArm_any (w : World) (B rb : Nat) (lv tv : Value) (d : D) (h : Ra w B rb lv tv d) (A : Option Addr) (n c : Nat) (l : List Tr) (hq : Sq TrEl 3 w A n c l) (hn : n ≤ 1000000) :
    Calls Tryz.prog 38 #[.pointer (some ⟨rb, 0, none⟩), .slice A n c] w fun e w' => e = .returned (.tuple #[]) ∧ Rs B rb (arm d l) w w' := by
  have hba := below_alloc w (.cells #[] 86)
  have hq1 := Lib.hid (hq.below (w' := w.alloc (.cells #[] 86)) (fun _ _ h => h) hba)
  have hnil : OwS TrEl 3 (w.alloc (.cells #[] 86)) w.heap.size 86 (.slice (some ⟨w.heap.size, 0, none⟩) 0 0) [] := ⟨[], ⟨by simp, .inr ⟨_, _, #[], rfl, Nat.le_refl _, heap_alloc_new w _, Nat.le_refl _, by decide, by simp, by simp⟩⟩, Reads.nil _⟩
  have hnil' := Lib.hid hnil
  have h' := Lib.hid h
  clear h hq hba hnil
  go_enter Tryz.func38, Tryz.ntmps38
  go_wp2_with (at_builtin; apply stop_here)
  refine Stop.go (append_sq (El := TrEl) (k := 3) _ 37 86 (.agg #[.int .i64 0, .int .i64 0, .int .i64 0]) 24 Tryz.underlying37 (by kernel_rfl) rfl (by omega) rfl _ _ rfl w.heap.size _ _ rfl hnil'.out _ n c _ rfl hq1.out (TrEl.one _) (fun w' hg _ _ h => h) n ?h3 ?h4 ?h5 ?h6 ?_)
  case h3 => simp
  case h4 => omega
  case h5 => omega
  case h6 => exact (below_alloc w _).size
  intro A2 c2 w2 ho _ hb _
  have hb2 : Below w.heap.size w w2 := (below_alloc w (.cells #[] 86)).trans hb
  have h2 := h'.out.below hb2
  have hBw : B ≤ w.heap.size := by have := h'.out.base; have := h'.out.lt; omega
  have htr : w2.ownsRow B 86 3 (.slice A2 n c2) l.length (trf l) := by
    obtain ⟨xs, h3, h4⟩ := ho
    rw [List.nil_append] at h3 h4
    rw [← reads_trf h4]
    exact ownsRow_base h3 hBw
  obtain ⟨h3, g1, g2⟩ := h2.setTr htr
  obtain ⟨h4, g3, g4⟩ := h3.setOps 0
  have z2 : w2.frozen? ⟨rb, 2, none⟩ = false := frozen_of_row w2 rb 2 _ _ h2.blk
  have c2' : w2.cell? ⟨rb, 2, none⟩ = some tv := cell_blk h2.blk rfl
  have z3 : (w2.setCell ⟨rb, 2, none⟩ (.slice A2 n c2)).frozen? ⟨rb, 3, none⟩ = false := frozen_of_row _ rb 3 _ _ h3.blk
  have c3 : (w2.setCell ⟨rb, 2, none⟩ (.slice A2 n c2)).cell? ⟨rb, 3, none⟩ = some (.int .i64 (d.ops : Nat)) := cell_blk h3.blk rfl
  have hf := Lib.hid (show Rs B rb (arm d l) w _ from ⟨((hb2.mono hBw).trans g1).trans g3, ((Rm.below hb2).trans g2).trans g4, lv, .slice A2 n c2, h4⟩)
  clear ho hb hb2 h2 htr h3 h4 g1 g2 g3 g4 hnil' hq1
  go_wp2_with fail
  go_end0
  exact ⟨rfl, hf.out⟩
end Go.Proofs.YtjhiihmibleecaaGreatDoor.Dk
