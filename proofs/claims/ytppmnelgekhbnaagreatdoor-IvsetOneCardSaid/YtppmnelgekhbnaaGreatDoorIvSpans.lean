/- The document's spans of flags. -/
import Derived.Test.YtppmnelgekhbnaaGreatDoorIvFl
import Derived.Test.YtppmnelgekhbnaaGreatDoorIvPut
namespace Go.Proofs.YtppmnelgekhbnaaGreatDoor.IvW
open Go.RowKit Iv

set_option maxHeartbeats 1000000 in
set_option maxRecDepth 100000 in
theorem spans_any (m : Nat → Bool) (w : World) :
    Calls Tryz.prog 27 #[.agg (fl m)] w fun e w' => ∃ A c, e = .returned (.slice A (sp m).length c) ∧ OwP w' w.heap.size 41 (.slice A (sp m).length c) (sp m) ∧ Below w.heap.size w w' := by
  have b0 := below_alloc w (.cells (fl m) 43)
  have f0 := fb_new w m
  have hs0 : (w.alloc (.cells (fl m) 43)).heap.size = w.heap.size + 1 := by simp
  obtain ⟨w0, hw0⟩ : ∃ w0, w.alloc (.cells (fl m) 43) = w0 := ⟨_, rfl⟩
  rw [hw0] at b0 f0 hs0
  have hx0 := Lib.hid b0
  have hf0 := Lib.hid f0
  have hs0' := Lib.hid hs0
  clear b0 f0 hs0
  go_enter Tryz.func27, Tryz.ntmps27
  go_wp2_with fail
  clear hw0
  go_loopw [3, 4] (fun o v wr => ∃ (v' k : Nat) (A : Option Addr) (c : Nat) (acc : List Span), 1 ≤ v' ∧ v' ≤ 201 ∧ 201 ≤ v' + k ∧ acc.length < v' ∧ v = .int .i64 v' ∧ o = .slice A acc.length c ∧ acc ++ spf m k v' = sp m ∧ OwP wr w0.heap.size 41 (.slice A acc.length c) acc ∧ Below w0.heap.size w0 wr) (fun _ v _ => 201 - (intOf v).toNat)
  case atStart => exact ⟨1, 200, none, 0, [], by omega, by omega, by omega, by simp, rfl, rfl, rfl, OwP.nil _ _ _, Below.refl _ _⟩
  case round =>
    obtain ⟨v', k, A, c, acc, h1, h2, h3, h4, rfl, rfl, hsp, hO, hbw⟩ := hrel
    have hfw := hf0.out.below hbw
    by_cases hlt : v' ≤ 200
    · have t1 : decide ((v' : Int) ≤ 200) = true := by simp; omega
      have hcv := hfw.cell (i := v') (by omega)
      obtain ⟨k, rfl⟩ : ∃ j, k = j + 1 := ⟨k - 1, by omega⟩
      rw [spf, if_pos hlt] at hsp
      cases hm : m v'
      · rw [hm] at hcv hsp
        rw [if_neg (by simp)] at hsp
        have hsp' := Lib.hid hsp
        clear hsp
        go_wp2_with fail
        go_roundw
        case rel => exact ⟨v' + 1, k, A, c, acc, by omega, by omega, by omega, by omega, by go_num, rfl, hsp'.out, hO, hbw⟩
        case measure => simp [intOf]; omega
      · rw [hm] at hcv hsp
        rw [if_pos rfl] at hsp
        obtain ⟨r1, r2, _, _⟩ := runTo_spec m 200 v' hlt (by omega) hm
        have hsp' := Lib.hid hsp
        have hO' := Lib.hid hO
        have hbw' := Lib.hid hbw
        have hfw' := Lib.hid hfw
        obtain ⟨T, hT⟩ : ∃ T, runTo m 200 v' = T := ⟨_, rfl⟩
        have hT' := Lib.hid hT
        rw [hT] at r1 r2
        clear hsp hO hbw hfw hT
        go_wp2_with fail
        go_loopw [5] (fun u wq => ∃ (u' j : Nat), v' ≤ u' ∧ u' ≤ 200 ∧ 200 ≤ u' + j ∧ u = .int .i64 u' ∧ runTo m j u' = T ∧ wq = wr) (fun u _ => 200 - (intOf u).toNat)
        case atStart => exact ⟨v', 200, by omega, by omega, by omega, rfl, hT'.out, rfl⟩
        case round =>
          obtain ⟨u', j, g1, g2, g3, rfl, hru, rfl⟩ := hrel
          by_cases hu : u' < 200
          · have t2 : decide ((u' : Int) < 200) = true := by simp; omega
            have hcu := hfw'.out.cell (i := u' + 1) (by omega)
            obtain ⟨j, rfl⟩ : ∃ i, j = i + 1 := ⟨j - 1, by omega⟩
            rw [runTo] at hru
            cases hmu : m (u' + 1)
            · rw [hmu] at hcu
              rw [if_neg (by simp [hmu])] at hru
              subst hru
              have hmu' := Lib.hid hmu
              clear hmu
              go_wp2_with (at_builtin; apply stop_here)
              have hB : w0.heap.size ≤ wr.heap.size := hbw'.out.size
              refine Stop.go (append_spans _ 22 41 _ Tryz.underlying22 info_span rfl rfl _ _ rfl w0.heap.size _ acc rfl (hO'.out.below (below_alloc _ _)) _ _ _ [((v' : Int), (u' : Int))] rfl (rp_lit wr #[.int .i64 v', .int .i64 u'] _ _ [((v' : Int), (u' : Int))] 1 rfl (by omega) rfl) (acc.length + 1) rfl (by omega) (by simp; omega) ?_)
              intro A2 c2 w2 ho2 hb2
              have hx2 := Lib.hid (hbw'.out.trans (((below_alloc wr _).mono hB).trans hb2))
              have ho2' := Lib.hid ho2
              clear ho2 hb2
              go_wp2_with fail
              go_roundw
              case rel => exact ⟨u' + 1, k, A2, c2, acc ++ [((v' : Int), (u' : Int))], by omega, by omega, by omega, by simp; omega, by go_num, by simp, by rw [← hsp'.out, hT'.out]; simp, by simpa using ho2'.out, hx2.out⟩
              case measure => simp [intOf]; omega
            · rw [hmu] at hcu
              rw [if_pos ⟨hu, hmu⟩] at hru
              have hru' := Lib.hid hru
              have hmu' := Lib.hid hmu
              clear hmu hru
              go_wp2_with fail
              go_roundw
              case rel => exact ⟨u' + 1, j, by omega, by omega, by omega, by go_num, hru'.out, trivial⟩
              case measure => simp [intOf]; omega
          · have t2 : decide ((u' : Int) < 200) = false := by simp; omega
            have hu2 : u' = T := by
              cases j with
              | zero => exact hru
              | succ j => rw [runTo, if_neg (by omega)] at hru; exact hru
            subst hu2
            clear hru
            go_wp2_with (at_builtin; apply stop_here)
            have hB : w0.heap.size ≤ wr.heap.size := hbw'.out.size
            refine Stop.go (append_spans _ 22 41 _ Tryz.underlying22 info_span rfl rfl _ _ rfl w0.heap.size _ acc rfl (hO'.out.below (below_alloc _ _)) _ _ _ [((v' : Int), (u' : Int))] rfl (rp_lit wr #[.int .i64 v', .int .i64 u'] _ _ [((v' : Int), (u' : Int))] 1 rfl (by omega) rfl) (acc.length + 1) rfl (by omega) (by simp; omega) ?_)
            intro A2 c2 w2 ho2 hb2
            have hx2 := Lib.hid (hbw'.out.trans (((below_alloc wr _).mono hB).trans hb2))
            have ho2' := Lib.hid ho2
            clear ho2 hb2
            go_wp2_with fail
            go_roundw
            case rel => exact ⟨u' + 1, k, A2, c2, acc ++ [((v' : Int), (u' : Int))], by omega, by omega, by omega, by simp; omega, by go_num, by simp, by rw [← hsp'.out, hT'.out]; simp, by simpa using ho2'.out, hx2.out⟩
            case measure => simp [intOf]; omega
    · have t1 : decide ((v' : Int) ≤ 200) = false := by simp; omega
      have hnil : spf m k v' = [] := by
        cases k with
        | zero => rfl
        | succ k => rw [spf, if_neg hlt]
      rw [hnil, List.append_nil] at hsp
      have hO' := Lib.hid hO
      have hbw' := Lib.hid hbw
      have hsp' := Lib.hid hsp
      clear hO hbw hfw hsp hnil
      go_wp2_with fail
      go_ret
      rw [← hsp'.out]
      exact ⟨A, c, rfl, hO'.out.mono hx0.out.size, hx0.out.trans (hbw'.out.mono hx0.out.size)⟩
end Go.Proofs.YtppmnelgekhbnaaGreatDoor.IvW
