/- Nodes and Docs of the document; sound of the laws. Printed by xt_bnd.py. -/
import Derived.Test.YtokdnhdfmgfkeaaGreatDoorMXtSame
import Derived.Test.YtokdnhdfmgfkeaaGreatDoorMXtLawD
import Derived.Test.YtokdnhdfmgfkeaaGreatDoorMXlRname
namespace Go.Proofs.YtokdnhdfmgfkeaaGreatDoor.Xt
open Go.RowKit UtfW Xl Xo

section
variable {X Y : Nat → Prop} (w : World)
set_option maxHeartbeats 2000000 in
theorem rnodes_any (A1 A2 : Option Addr) (n1 n2 c1 c2 : Nat) (l1 l2 : List Nd) (h1 : Sq (NdE X) 5 w A1 n1 c1 l1) (h2 : Sq (NdE Y) 5 w A2 n2 c2 l2) (hX1 : ∀ a, A1 = some a → 0 < n1 → X a.block) (hY1 : ∀ a, A2 = some a → 0 < n2 → Y a.block)
    (hX : ∀ j, X j → j < w.heap.size) (hY : ∀ j, Y j → j < w.heap.size) :
    Calls Tryz.prog 66 #[.slice A1 n1 c1, .slice A2 n2 c2] w fun e w' => (∃ B : Bool, e = .returned (.bool B) ∧ (B = true ↔ l1 = l2)) ∧ Below w.heap.size w w' := by
  have hl1 := h1.len
  have hl2 := h2.len
  subst hl1
  subst hl2
  have m1 : NdI X w [.int .i64 0, .string (strOf []), .string (strOf []), .slice none 0 0, .slice A1 l1.length c1] (.mk 0 [] [] [] l1) := NdI.make (as_ := []) (Sq.none_ w) (fun a e => by cases e) h1 hX1
  have m2 : NdI Y w [.int .i64 0, .string (strOf []), .string (strOf []), .slice none 0 0, .slice A2 l2.length c2] (.mk 0 [] [] [] l2) := NdI.make (as_ := []) (Sq.none_ w) (fun a e => by cases e) h2 hY1
  have hs := Lib.hid (rsame_any _ X Y w _ _ _ _ (Nat.le_refl _) m1 m2 hX hY)
  clear h1 h2 m1 m2 hX hY hX1 hY1
  go_enter Tryz.func66, Tryz.ntmps66
  go_wp2_with fail
  refine hs.out.mono ?_
  rintro e w1 ⟨⟨B, rfl, hB⟩, hb⟩
  have hb' := Lib.hid hb
  have hB' : Hid (B = true ↔ l1 = l2) := Lib.hid ⟨fun h => by have := hB.1 h; injection this, fun h => hB.2 (by rw [h])⟩
  clear hb hB
  go_wp2_with fail
  go_ret
  exact ⟨⟨B, rfl, hB'.out⟩, hb'.out⟩
end
/-- The cells of a document. -/
structure DocS (X : Nat → Prop) (w : World) (A1 : Option Addr) (c1 : Nat) (kd : Int) (nm tx : Tx) (as_ : List At) (ks : List Nd) (Ar : Option Addr) (cr : Nat) (Ak : Option Addr) (ck : Nat) (A2 : Option Addr) (c2 : Nat) (bf af : List Nd) : Prop where
  bef : Sq (NdE X) 5 w A1 bf.length c1 bf
  befX : ∀ a, A1 = some a → 0 < bf.length → X a.block
  root : NdI X w [.int .i64 kd, .string (strOf nm), .string (strOf tx), .slice Ar as_.length cr, .slice Ak ks.length ck] (.mk kd nm tx as_ ks)
  aft : Sq (NdE X) 5 w A2 af.length c2 af
  aftX : ∀ a, A2 = some a → 0 < af.length → X a.block
theorem DocI.parts {X : Nat → Prop} {w : World} {v : Value} {d : Doc} (h : DocI X w v d) : ∃ A1 c1 kd nm tx as_ ks Ar cr Ak ck A2 c2, v = .agg #[.slice A1 d.before.length c1, .int .i64 kd, .string (strOf nm), .string (strOf tx), .slice Ar as_.length cr, .slice Ak ks.length ck, .slice A2 d.after.length c2] ∧ d.root = .mk kd nm tx as_ ks ∧
    DocS X w A1 c1 kd nm tx as_ ks Ar cr Ak ck A2 c2 d.before d.after := by
  obtain ⟨A1, c1, r0, r1, r2, r3, r4, A2, c2, rfl, h1, h1x, h2, h3, h3x⟩ := h
  obtain ⟨bf, rt, af⟩ := d
  obtain ⟨kd, nm, tx, as_, ks⟩ := rt
  obtain ⟨Ar, cr, Ak, ck, e, g1, g2, _⟩ := h2.cells
  injection e with e0 e
  injection e with e1 e
  injection e with e2 e
  injection e with e3 e
  injection e with e4 e
  subst e0; subst e1; subst e2; subst e3; subst e4
  exact ⟨A1, c1, kd, nm, tx, as_, ks, Ar, cr, Ak, ck, A2, c2, rfl, rfl, h1, h1x, h2, h3, h3x⟩
theorem DocS.later {X : Nat → Prop} {w w' : World} {A1 : Option Addr} {c1 : Nat} {kd : Int} {nm tx : Tx} {as_ : List At} {ks : List Nd} {Ar : Option Addr} {cr : Nat} {Ak : Option Addr} {ck : Nat} {A2 : Option Addr} {c2 : Nat} {bf af : List Nd} (h : DocS X w A1 c1 kd nm tx as_ ks Ar cr Ak ck A2 c2 bf af) (hX : ∀ j, X j → j < w.heap.size) (hb : Below w.heap.size w w') :
    DocS X w' A1 c1 kd nm tx as_ ks Ar cr Ak ck A2 c2 bf af :=
  ⟨Sq.kept_ h.bef hb (fun _ _ hx => NdI.later hx hX hb), h.befX, NdI.later h.root hX hb, Sq.kept_ h.aft hb (fun _ _ hx => NdI.later hx hX hb), h.aftX⟩
set_option maxHeartbeats 8000000 in
set_option maxRecDepth 100000 in
theorem rdocs_any {X Y : Nat → Prop} (w : World) (v u : Value) (d d' : Doc) (h1 : DocI X w v d) (h2 : DocI Y w u d') (hX : ∀ j, X j → j < w.heap.size) (hY : ∀ j, Y j → j < w.heap.size) :
    Calls Tryz.prog 28 #[v, u] w fun e w' => (∃ B : Bool, e = .returned (.bool B) ∧ (B = true ↔ d = d')) ∧ Below w.heap.size w w' := by
  obtain ⟨A1, c1, kd, nm, tx, as_, ks, Ar, cr, Ak, ck, A2, c2, rfl, hr, hS⟩ := h1.parts
  obtain ⟨B1, d1, kd', nm', tx', as', ks', Br, dr, Bk, dk, B2, d2, rfl, hr', hS'⟩ := h2.parts
  obtain ⟨bf, rt, af⟩ := d
  obtain ⟨bf', rt', af'⟩ := d'
  simp only at hr hr' hS hS'
  subst hr
  subst hr'
  clear h1 h2
  obtain ⟨n1, hn1⟩ : ∃ n1, bf.length = n1 := ⟨_, rfl⟩
  obtain ⟨n2, hn2⟩ : ∃ n2, af.length = n2 := ⟨_, rfl⟩
  obtain ⟨n3, hn3⟩ : ∃ n3, bf'.length = n3 := ⟨_, rfl⟩
  obtain ⟨n4, hn4⟩ : ∃ n4, af'.length = n4 := ⟨_, rfl⟩
  obtain ⟨n5, hn5⟩ : ∃ n5, as_.length = n5 := ⟨_, rfl⟩
  obtain ⟨n6, hn6⟩ : ∃ n6, ks.length = n6 := ⟨_, rfl⟩
  obtain ⟨n7, hn7⟩ : ∃ n7, as'.length = n7 := ⟨_, rfl⟩
  obtain ⟨n8, hn8⟩ : ∃ n8, ks'.length = n8 := ⟨_, rfl⟩
  simp only [hn1, hn2, hn3, hn4, hn5, hn6, hn7, hn8]
  have hba := below_alloc w (.cells #[.slice A1 n1 c1, .int .i64 kd, .string (strOf nm), .string (strOf tx), .slice Ar n5 cr, .slice Ak n6 ck, .slice A2 n2 c2] 27)
  have hnb := heap_alloc_new w (.cells #[.slice A1 n1 c1, .int .i64 kd, .string (strOf nm), .string (strOf tx), .slice Ar n5 cr, .slice Ak n6 ck, .slice A2 n2 c2] 27)
  obtain ⟨T, hT⟩ : ∃ T, w.heap.size = T := ⟨_, rfl⟩
  obtain ⟨w1, hw1⟩ : ∃ w1, w.alloc (.cells #[.slice A1 n1 c1, .int .i64 kd, .string (strOf nm), .string (strOf tx), .slice Ar n5 cr, .slice Ak n6 ck, .slice A2 n2 c2] 27) = w1 := ⟨_, rfl⟩
  rw [hw1] at hba hnb
  rw [hT] at hnb
  have hbb := below_alloc w1 (.cells #[.slice B1 n3 d1, .int .i64 kd', .string (strOf nm'), .string (strOf tx'), .slice Br n7 dr, .slice Bk n8 dk, .slice B2 n4 d2] 27)
  have hnc := heap_alloc_new w1 (.cells #[.slice B1 n3 d1, .int .i64 kd', .string (strOf nm'), .string (strOf tx'), .slice Br n7 dr, .slice Bk n8 dk, .slice B2 n4 d2] 27)
  obtain ⟨U, hU⟩ : ∃ U, w1.heap.size = U := ⟨_, rfl⟩
  obtain ⟨w2, hw2⟩ : ∃ w2, w1.alloc (.cells #[.slice B1 n3 d1, .int .i64 kd', .string (strOf nm'), .string (strOf tx'), .slice Br n7 dr, .slice Bk n8 dk, .slice B2 n4 d2] 27) = w2 := ⟨_, rfl⟩
  rw [hw2] at hbb hnc
  rw [hU] at hnc
  have hb02 := hba.trans (hbb.mono hba.size)
  have hnb2 := (hbb.block T (Array.getElem?_eq_some_iff.1 hnb).1).trans hnb
  have hX2 : ∀ j, X j → j < w2.heap.size := fun j hj => Nat.lt_of_lt_of_le (hX j hj) hb02.size
  have hY2 : ∀ j, Y j → j < w2.heap.size := fun j hj => Nat.lt_of_lt_of_le (hY j hj) hb02.size
  have hS2 := hS.later hX hb02
  have hS2' := hS'.later hY hb02
  have cN := rnodes_any w2 A1 B1 _ _ c1 d1 bf bf' hS2.bef hS2'.bef hS2.befX hS2'.befX hX2 hY2
  have cS := fun z (hz : Below w2.heap.size w2 z) => rsame_any _ X Y z _ _ _ _ (Nat.le_refl _) (hS2.later hX2 hz).root (hS2'.later hY2 hz).root (fun j hj => Nat.lt_of_lt_of_le (hX2 j hj) hz.size) (fun j hj => Nat.lt_of_lt_of_le (hY2 j hj) hz.size)
  have cM := fun z (hz : Below w2.heap.size w2 z) => rnodes_any z A2 B2 _ _ c2 d2 af af' (hS2.later hX2 hz).aft (hS2'.later hY2 hz).aft hS2.aftX hS2'.aftX (fun j hj => Nat.lt_of_lt_of_le (hX2 j hj) hz.size) (fun j hj => Nat.lt_of_lt_of_le (hY2 j hj) hz.size)
  rw [hn1, hn3] at cN
  rw [hn5, hn6, hn7, hn8] at cS
  rw [hn2, hn4] at cM
  have x0 : w2.cell? ⟨T, 0, none⟩ = some (.slice A1 n1 c1) := cell_blk hnb2 rfl
  have y0 : w2.cell? ⟨U, 0, none⟩ = some (.slice B1 n3 d1) := cell_blk hnc rfl
  replace cN := Lib.hid cN
  replace cS := Lib.hid cS
  replace cM := Lib.hid cM
  replace hnb2 := Lib.hid hnb2
  replace hnc := Lib.hid hnc
  replace hb02 := Lib.hid hb02
  clear hS hS' hS2 hS2' hX2 hY2 hX hY hba hbb hnb hn1 hn2 hn3 hn4 hn5 hn6 hn7 hn8
  go_enter Tryz.func28, Tryz.ntmps28
  go_wp2_with fail
  refine cN.out.mono ?_
  rintro e w3 ⟨⟨b1, rfl, hB1⟩, hb3⟩
  have hT3 := (hb3.block T (Array.getElem?_eq_some_iff.1 hnb2.out).1).trans hnb2.out
  have hU3 := (hb3.block U (Array.getElem?_eq_some_iff.1 hnc.out).1).trans hnc.out
  have hb03 := Lib.hid (hb02.out.trans (hb3.mono hb02.out.size))
  cases b1 with
  | false =>
    have hno : Hid (Doc.mk bf (.mk kd nm tx as_ ks) af ≠ Doc.mk bf' (.mk kd' nm' tx' as' ks') af') := Lib.hid fun e => by
      injection e with e1 _ _
      exact absurd (hB1.2 e1) (by decide)
    clear hb3 hB1 hT3 hU3
    go_wp2_with fail
    go_ret
    exact ⟨⟨false, rfl, by simpa using hno.out⟩, hb03.out⟩
  | true =>
    have e1 := Lib.hid (hB1.1 rfl)
    have p1 := cell_blk hT3 (i := 1) rfl
    have p2 := cell_blk hT3 (i := 2) rfl
    have p3 := cell_blk hT3 (i := 3) rfl
    have p4 := cell_blk hT3 (i := 4) rfl
    have p5 := cell_blk hT3 (i := 5) rfl
    have r1 := cell_blk hU3 (i := 1) rfl
    have r2 := cell_blk hU3 (i := 2) rfl
    have r3 := cell_blk hU3 (i := 3) rfl
    have r4 := cell_blk hU3 (i := 4) rfl
    have r5 := cell_blk hU3 (i := 5) rfl
    have cS3 := Lib.hid (cS.out w3 hb3)
    replace hb3 := Lib.hid hb3
    clear hB1 hT3 hU3
    go_wp2_with fail
    refine cS3.out.mono ?_
    rintro e w4 ⟨⟨b2, rfl, hB2⟩, hb4⟩
    have hb24 := hb3.out.trans (hb4.mono hb3.out.size)
    have hT4 := (hb24.block T (Array.getElem?_eq_some_iff.1 hnb2.out).1).trans hnb2.out
    have hU4 := (hb24.block U (Array.getElem?_eq_some_iff.1 hnc.out).1).trans hnc.out
    have hb04 := Lib.hid (hb03.out.trans (hb4.mono hb03.out.size))
    cases b2 with
    | false =>
      have hno : Hid (Doc.mk bf (.mk kd nm tx as_ ks) af ≠ Doc.mk bf' (.mk kd' nm' tx' as' ks') af') := Lib.hid fun e => by
        injection e with _ e1 _
        exact absurd (hB2.2 e1) (by decide)
      clear hb4 hB2 hT4 hU4 hb24
      go_wp2_with fail
      go_ret
      exact ⟨⟨false, rfl, by simpa using hno.out⟩, hb04.out⟩
    | true =>
      have e2 := Lib.hid (hB2.1 rfl)
      have p6 := cell_blk hT4 (i := 6) rfl
      have r6 := cell_blk hU4 (i := 6) rfl
      have cM4 := Lib.hid (cM.out w4 hb24)
      clear hb4 hB2 hT4 hU4 hb24
      go_wp2_with fail
      refine cM4.out.mono ?_
      rintro e w5 ⟨⟨b3, rfl, hB3⟩, hb5⟩
      have hb05 := Lib.hid (hb04.out.trans (hb5.mono hb04.out.size))
      have hfin : Hid (b3 = true ↔ Doc.mk bf (.mk kd nm tx as_ ks) af = Doc.mk bf' (.mk kd' nm' tx' as' ks') af') := Lib.hid ⟨fun h => by rw [e1.out, e2.out, hB3.1 h], fun h => by
        injection h with _ _ h
        exact hB3.2 h⟩
      clear hb5 hB3
      go_wp2_with fail
      go_ret
      exact ⟨⟨b3, rfl, hfin.out⟩, hb05.out⟩
end Go.Proofs.YtokdnhdfmgfkeaaGreatDoor.Xt
