/- The laws over utf, second part. -/
import Derived.Test.YtfbhcjjnkahmhaaDoorUtfBackLaw
namespace Go.Proofs.YtfbhcjjnkahmhaaDoor.UtfW
open Go.RowKit

/-- Of a row of numbers the runes that XML has. -/
def chars (zs : List Int) : List Nat := (zs.filter Utf.Char).map Int.toNat

theorem chars_snoc (zs : List Int) (z : Int) : chars (zs ++ [z]) = if Utf.Char z = true then chars zs ++ [z.toNat] else chars zs := by
  unfold chars
  rw [List.filter_append, List.map_append]
  cases h : Utf.Char z
  · simp [h]
  · simp [h]

theorem char_nat {z : Int} (h : Utf.Char z = true) : ((z.toNat : Nat) : Int) = z := by
  unfold Utf.Char at h
  rw [decide_eq_true_eq] at h
  omega

theorem chars_ok (zs : List Int) : ∀ r ∈ chars zs, Utf.Char (r : Nat) = true := by
  intro r hr
  unfold chars at hr
  obtain ⟨z, hz, rfl⟩ := List.mem_map.1 hr
  have := (List.mem_filter.1 hz).2
  rw [char_nat this]
  exact this

theorem chars_len (zs : List Int) : (chars zs).length ≤ zs.length := by
  unfold chars
  rw [List.length_map]
  exact List.length_filter_le _ _

theorem E_len (rs : List Nat) (h : ∀ r ∈ rs, Utf.Char (r : Nat) = true) : (E rs).length ≤ rs.length * 4 := by
  induction rs with
  | nil => simp [E]
  | cons r rs ih =>
    have h1 := encB_pos (isRune_of_char (h r (List.mem_cons_self ..)))
    have h2 := ih fun x hx => h x (List.mem_cons_of_mem _ hx)
    rw [E_cons, List.length_append, List.length_cons]
    omega

theorem OwB.grown' {w w' : World} {B E' : Nat} {v : Value} {l : List UInt8} {row : Option Nat} (h : OwB w B E' v l) (hg : w.grownBy w' row) (hne : v.ownBlock = none ∨ v.ownBlock ≠ row) : OwB w' B E' v l :=
  World.ownsRow.kept (row := row) h hg hne
theorem OwI.grown' {w w' : World} {B E' : Nat} {v : Value} {l : List Nat} {row : Option Nat} (h : OwI w B E' v l) (hg : w.grownBy w' row) (hne : v.ownBlock = none ∨ v.ownBlock ≠ row) : OwI w' B E' v l :=
  World.ownsRow.kept (row := row) h hg hne

theorem E_drop {rs P Q : List Nat} (h : rs = P ++ Q) : (E rs).drop (E P).length = E Q := by
  rw [h, E_append, List.drop_append_of_le_length (Nat.le_refl _)]
  simp

set_option maxHeartbeats 4000000 in
set_option maxRecDepth 100000 in
theorem back_law (A : Option Addr) (n c : Nat) (zs : List Int) (w : World) (hR : Rd w A n c (zs.map (Value.int .i32))) (hz : ∀ z ∈ zs, -2147483648 ≤ z ∧ z ≤ 2147483647) (hU : Ut w) :
    Calls Tryd.prog 5 #[.slice A n c] w fun e w' => e = .returned (.bool true) ∧ Below w.heap.size w w' := by
  have hn := hR.le
  have hm := hR.max
  have HN : Hid (zs.length = n) := by have := hR.len; rw [List.length_map] at this; exact this
  have HZ := Lib.hid hz
  clear hz
  go_enter Tryd.func5, Tryd.ntmps5
  go_wp2_with fail
  refine (awake_any w hU).mono ?_
  rintro e w1 ⟨rfl, hb1⟩
  have hx1 := Lib.hid hb1
  clear hb1
  by_cases hl : n ≤ 4096
  case neg =>
    have i0 : decide ((4096 : Int) < (n : Int)) = true := by simp; omega
    go_wp2_with fail
    go_ret
    exact ⟨rfl, hx1.out⟩
  case pos =>
    have i0 : decide ((4096 : Int) < (n : Int)) = false := by simp; omega
    go_wp2_with fail
    go_loopw [3, 4, 5] (fun bv wv v wr => ∃ (k : Nat) (Ab : Option Addr) (cb nb : Nat) (Aw : Option Addr) (cw nw : Nat), k ≤ n ∧ nw ≤ k ∧ nb ≤ nw * 4 ∧ v = .int .i64 (k : Nat) ∧ bv = .slice Ab nb cb ∧ wv = .slice Aw nw cw ∧
      Hid (OwB wr w.heap.size 5 (.slice Ab nb cb) (E (chars (zs.take k)))) ∧ Hid (OwI wr w.heap.size 21 (.slice Aw nw cw) (chars (zs.take k))) ∧ Hid (Below w.heap.size w wr)) (fun _ _ v _ => n - (intOf v).toNat)
    case atStart => exact ⟨0, none, 0, 0, none, 0, 0, by omega, by omega, by omega, rfl, rfl, rfl, Lib.hid (OwB.nil _ _ _), Lib.hid (OwI.nil _ _ _), hx1⟩
    case round =>
      obtain ⟨k, Ab, cb, nb, Aw, cw, nw, hk, hkw, hnb, rfl, rfl, rfl, hob, how, hb⟩ := hrel
      by_cases hlt : k < n
      · have j0 : decide ((k : Int) < (n : Int)) = true := by simp; omega
        have j1 : (k : Int) < (n : Int) := by omega
        obtain ⟨b, off, u, rfl, hbl, hu, hc⟩ := hR.at_ hlt
        rw [List.getElem?_map, Option.map_eq_some_iff] at hu
        obtain ⟨z, hzk, rfl⟩ := hu
        have hcr : wr.cell? ⟨b, off + k, none⟩ = some (.int .i32 z) := by rw [hb.out.cell hbl]; exact hc
        have hzz := HZ.out z (List.mem_of_getElem? hzk)
        have hsn := chars_snoc (zs.take k) z
        rw [← take_snoc hzk] at hsn
        have hsn' := Lib.hid hsn
        clear hsn hzk hc
        cases hch : Utf.Char z
        · have hsame : chars (zs.take (k + 1)) = chars (zs.take k) := by rw [hsn'.out, if_neg (by rw [hch]; simp)]
          have hsame' := Lib.hid hsame
          clear hsame
          go_wp2_with fail
          refine (char_any z wr).mono ?_
          rintro e w2 ⟨rfl, rfl⟩
          rw [hch]
          go_wp2_with fail
          go_roundw
          case rel => exact ⟨k + 1, Ab, cb, nb, Aw, cw, nw, by omega, by omega, hnb, by go_num, rfl, rfl, by rw [hsame'.out]; exact hob, by rw [hsame'.out]; exact how, hb⟩
          case measure => simp [intOf]; omega
        · have hnat := char_nat hch
          have hpos := encB_pos (v := z.toNat) (isRune_of_char (by rw [hnat]; exact hch))
          rw [hnat] at hpos
          have hE : E (chars (zs.take (k + 1))) = E (chars (zs.take k)) ++ encB z := by rw [hsn'.out, if_pos hch, E_append, E_one, hnat]
          have hC : chars (zs.take (k + 1)) = chars (zs.take k) ++ [z.toNat] := by rw [hsn'.out, if_pos hch]
          have hE' := Lib.hid hE
          have hC' := Lib.hid hC
          obtain ⟨eb, heb⟩ : ∃ eb, encB z = eb := ⟨_, rfl⟩
          have c2 := utfEncode_any z hzz.1 hzz.2
          rw [heb] at c2 hpos
          have heb' := Lib.hid heb
          have hpos1 := hpos.2.1
          have hpos' := Lib.hid hpos
          clear heb hpos hE hC
          obtain ⟨le, hle⟩ : ∃ le, eb.length = le := ⟨_, rfl⟩
          rw [hle] at c2 hpos1
          have hle' := Lib.hid hle
          clear hle
          have hnbl : (E (chars (zs.take k))).length = nb := hob.out.rd_len
          have hnwl : (chars (zs.take k)).length = nw := by have := how.out.rd.len; rw [List.length_map] at this; exact this
          have hnbl' := Lib.hid hnbl
          have hnwl' := Lib.hid hnwl
          clear hnbl hnwl
          go_wp2_with fail
          refine (char_any z wr).mono ?_
          rintro e w2 ⟨rfl, rfl⟩
          rw [hch]
          go_wp2_with fail
          refine (c2 w2).mono ?_
          rintro e w3 ⟨A3, c3, rfl, ho3, hb3⟩
          have hx3 := Lib.hid (hb.out.trans (hb3.mono hb.out.size))
          have hob3 := Lib.hid (hob.out.below hb3)
          have how3 := Lib.hid (how.out.below hb3)
          have hcr3 : w3.cell? ⟨b, off + k, none⟩ = some (.int .i32 z) := by rw [hx3.out.cell hbl]; exact (by rw [← hb.out.cell hbl]; exact hcr)
          have hbs3 := Lib.hid ho3.bs
          clear hb3 ho3 c2
          go_wp2_with (at_builtin; apply stop_here)
          refine Stop.go (append_bytes _ 22 5 Tryd.underlying22 (by kernel_rfl) rfl _ _ rfl w.heap.size _ _ rfl hob3.out A3 le c3 eb rfl hbs3.out (nb + le) (by rw [hnbl'.out]) (by omega) hx3.out.size ?_)
          intro A4 c4 w4 h1 h2 h3
          have hob4 := Lib.hid h1
          have hx4 := Lib.hid (hx3.out.trans h3)
          have how4 := Lib.hid (OwI.grown' how3.out h2 (own_ne how3.out hob3.out (by decide)))
          have hcr4 : w4.cell? ⟨b, off + k, none⟩ = some (.int .i32 z) := by rw [h3.cell hbl]; exact hcr3
          clear h1 h2 h3
          go_wp2_with (at_builtin; apply stop_here)
          refine Stop.go (append_rune _ 31 21 Tryd.underlying31 i32_info rfl _ _ rfl w.heap.size _ _ rfl (how4.out.below (below_alloc _ _)) _ 1 z.toNat rfl (by rw [hnat]; exact rd_one _ _ _) (nw + 1) (by rw [hnwl'.out]) (by omega) (by have := hx4.out.size; simp; omega) ?_)
          intro A5 c5 w5 h1 h2 h3
          have how5 := Lib.hid h1
          have hx5 := Lib.hid ((hx4.out.trans ((below_alloc _ _).mono hx4.out.size)).trans h3)
          have hob5 := Lib.hid (OwB.grown' (hob4.out.below (below_alloc _ _)) h2 (own_ne hob4.out how4.out (by decide)))
          clear h1 h2 h3
          go_wp2_with fail
          go_roundw
          case rel => exact ⟨k + 1, A4, c4, nb + le, A5, c5, nw + 1, by omega, by omega, by omega, by go_num, rfl, rfl, by rw [hE'.out, heb'.out]; exact hob5, by rw [hC'.out]; exact how5, hx5⟩
          case measure => simp [intOf]; omega
      · have j0 : decide ((k : Int) < (n : Int)) = false := by simp; omega
        obtain rfl : k = n := by omega
        obtain ⟨rs, hrs⟩ : ∃ rs, chars (zs.take k) = rs := ⟨_, rfl⟩
        have hok : ∀ r ∈ rs, Utf.Char (r : Nat) = true := by rw [← hrs]; exact chars_ok _
        rw [hrs] at hob how
        have hbl : (E rs).length = nb := hob.out.rd_len
        have hwl : rs.length = nw := by have := how.out.rd.len; rw [List.length_map] at this; exact this
        have hbad : badW (E rs) 0 = -1 := bad_of_runes (E rs) _ 0 rs (Nat.le_refl _) (runesW_E (E rs) rs 0 hok rfl)
        have c2 := utfBad_any Ab nb cb (E rs) (by omega) wr hob.out.bs (hU.below hb.out)
        rw [hbad] at c2
        have hok' := Lib.hid hok
        have hbl' := Lib.hid hbl
        have hwl' := Lib.hid hwl
        clear hok hbl hwl hbad hrs
        go_wp2_with fail
        refine c2.mono ?_
        rintro e w2 ⟨rfl, hb2⟩
        have hx2 := Lib.hid (hb.out.trans (hb2.mono hb.out.size))
        have hob2 := Lib.hid (hob.out.below hb2)
        have how2 := Lib.hid (how.out.below hb2)
        clear hb2 c2 hob how hb
        go_wp2_with fail
        go_loopw [6, 7] (fun av v wr => ∃ (i a : Nat), i ≤ nw ∧ a ≤ nb ∧ v = .int .i64 (i : Nat) ∧ av = .int .i64 (a : Nat) ∧ Hid (a = (E (rs.take i)).length) ∧ Hid (Below w2.heap.size w2 wr)) (fun _ v _ => nw - (intOf v).toNat)
        case atStart => exact ⟨0, 0, by omega, by omega, rfl, rfl, Lib.hid rfl, Lib.hid (Below.refl _ _)⟩
        case round =>
          obtain ⟨i, a, hi, hab, rfl, rfl, ha, hb⟩ := hrel
          by_cases hlt : i < nw
          · have k0 : decide ((i : Int) < (nw : Int)) = true := by simp; omega
            have k1 : (i : Int) < (nw : Int) := by omega
            obtain ⟨b, off, u, rfl, hbl, hu, hc⟩ := (how2.out.rd.below hb.out).at_ hlt
            rw [List.getElem?_map, Option.map_eq_some_iff] at hu
            obtain ⟨r, hr, rfl⟩ := hu
            have hsplit : (E rs).drop a = encB (r : Nat) ++ E (rs.drop (i + 1)) := by
              have h1 : rs = rs.take i ++ (r :: rs.drop (i + 1)) := by
                obtain ⟨h2, h3⟩ := List.getElem?_eq_some_iff.1 hr
                rw [← h3, ← List.drop_eq_getElem_cons h2, List.take_append_drop]
              rw [ha.out, E_drop h1, E_cons]
            have hchr := hok'.out r (List.mem_of_getElem? hr)
            have hrun := isRune_of_char hchr
            have hnx := nx_enc hrun hsplit
            rw [if_pos hchr] at hnx
            have hp := encB_pos hrun
            have hlen : a + (encB (r : Nat)).length ≤ nb := by
              have := congrArg List.length hsplit
              rw [List.length_drop, List.length_append] at this
              have := hbl'.out
              omega
            have hnext : a + (encB (r : Nat)).length = (E (rs.take (i + 1))).length := by
              rw [take_snoc hr, E_append, E_one, List.length_append, ha.out]
            obtain ⟨m, hm⟩ : ∃ m, (encB (r : Nat)).length = m := ⟨_, rfl⟩
            rw [hm] at hnx hp hlen hnext
            have hnext' := Lib.hid hnext
            have c3 := utfNext_any Ab nb cb (E rs) a (by omega) wr (hob2.out.bs.below hb.out) ((hU.below hx2.out).below hb.out)
            rw [nxI_nat, hnx] at c3
            unfold nxV at c3
            have hm1 := hp.1
            clear hnx hnext hm hp hsplit hr
            have k2 : decide ((m : Int) < 1) = false := by simp; omega
            go_wp2_with fail
            refine c3.mono ?_
            rintro e w3 ⟨rfl, hb3⟩
            have hx3 := Lib.hid (hb.out.trans (hb3.mono hb.out.size))
            have hc3 : w3.cell? ⟨b, off + i, none⟩ = some (.int .i32 (r : Nat)) := by rw [hb3.cell hbl]; exact hc
            clear hb3 c3 hc
            go_wp2_with fail
            go_roundw
            case rel => exact ⟨i + 1, a + m, by omega, by omega, by go_num, by go_num, hnext', hx3⟩
            case measure => simp [intOf]; omega
          · have k0 : decide ((i : Int) < (nw : Int)) = false := by simp; omega
            have hfin : a = nb := by
              rw [ha.out, List.take_of_length_le (by have := hwl'.out; omega)]
              exact hbl'.out
            subst hfin
            go_wp2_with fail
            go_ret
            exact ⟨by simp, hx2.out.trans (hb.out.mono hx2.out.size)⟩
end Go.Proofs.YtfbhcjjnkahmhaaDoor.UtfW
