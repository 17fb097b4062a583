/- ivset.Parse. -/
import Derived.Test.YtppmnelgekhbnaaGreatDoorIvText
import Derived.Shelf.Strings.Split
import Derived.Shelf.Strings.SplitShaped
import Derived.Shelf.Strings.Cut
import Derived.Shelf.Strconv.AtoiAll
import Derived.Shelf.Strconv.ErrVarAll
namespace Go.Proofs
open Go.Shelf Go.RowKit
shelf_lay LaysM.n146 Nm 146 at Tryz as Tryz.lays146
shelf_lay LaysM.n145 Nm 145 at Tryz as Tryz.lays145
shelf_lay LaysC.n172 Nm 172 at Tryz as Tryz.lays172
end Go.Proofs
namespace Go.Proofs.YtppmnelgekhbnaaGreatDoor.IvW
open Go.RowKit Go.Shelf Iv

/-- What the rows' list and shape give. -/
structure Iw (w : World) : Prop where
  tens : Tens w
  syn : ∃ tp p, w.cell? ⟨1, 0, none⟩ = some (.iface tp p)
  rng : ∃ tp p, w.cell? ⟨2, 0, none⟩ = some (.iface tp p)
  mlen : ∃ m, w.cell? ⟨0, 0, none⟩ = some (.int .i64 m)

theorem lt_cell {w : World} {a : Addr} {v : Value} (h : w.cell? a = some v) : a.block < w.heap.size := World.block_lt_of_cell? w _ h

theorem Iw.below {w w' : World} (h : Iw w) (hb : Below w.heap.size w w') : Iw w' :=
  ⟨h.tens.below hb, by obtain ⟨tp, p, h1⟩ := h.syn; exact ⟨tp, p, by rw [hb.cell (lt_cell h1)]; exact h1⟩, by obtain ⟨tp, p, h1⟩ := h.rng; exact ⟨tp, p, by rw [hb.cell (lt_cell h1)]; exact h1⟩, by obtain ⟨m, h1⟩ := h.mlen; exact ⟨m, by rw [hb.cell (lt_cell h1)]; exact h1⟩⟩

theorem below_bytes (w : World) (t : ByteArray) : Below w.heap.size w (Lib.bytesWorld w 5 t) :=
  ⟨rfl, rfl, rfl, by rw [Lib.bytesWorld_size]; omega, fun k hk => Lib.bytesWorld_at_old w 5 t k hk⟩

/-- strconv.Atoi. -/
theorem atoi_any (s : ByteArray) (hs : s.size ≤ 1000000) (w : World) (hE : Iw w) :
    Calls Tryz.prog 30 #[.string s] w fun e w' => ∃ n er, e = .returned (.tuple #[.int .i64 n, er]) ∧
      ((er = .nilIface ∧ Lib.atoiAll s.data.toList = .ok n) ∨ ((∃ t a, er = .iface t (.pointer (some a))) ∧ ∀ m, Lib.atoiAll s.data.toList ≠ .ok m)) ∧ Below w.heap.size w w' := by
  generalize h : Lib.atoiAll s.data.toList = R
  rcases R with n | _ | _
  ·
    refine (Any.strconv_Atoi_ok Tryz.lays172 s (by omega) n h w).mono ?_
    rintro e w' ⟨rfl, hw⟩
    refine ⟨n, .nilIface, rfl, .inl ⟨rfl, rfl⟩, ?_⟩
    rcases hw with rfl | ⟨t, rfl⟩
    · exact Below.refl _ _
    · exact below_bytes w t
  ·
    obtain ⟨tp, p, hv⟩ := hE.syn
    refine (Any.strconv_Atoi_syntax Tryz.lays172 s (by omega) h (.iface tp p) w hv (.inr ⟨tp, p, rfl⟩)).mono ?_
    rintro e w' ⟨N, rfl, _, _, hb⟩
    exact ⟨0, _, rfl, .inr ⟨⟨_, _, rfl⟩, fun m hm => by cases hm⟩, hb⟩
  ·
    obtain ⟨tp, p, hv⟩ := hE.rng
    refine (Any.strconv_Atoi_range Tryz.lays172 s (by omega) h (.iface tp p) w hv (.inr ⟨tp, p, rfl⟩)).mono ?_
    rintro e w' ⟨N, rfl, _, _, hb⟩
    exact ⟨_, _, rfl, .inr ⟨⟨_, _, rfl⟩, fun m hm => by cases hm⟩, hb⟩

/-- strings.Split at a comma. -/
theorem split_any (s : ByteArray) (hs : s.size ≤ 1000000) (w : World) (hE : Iw w) :
    Calls Tryz.prog 28 #[.string s, .string ⟨#[44]⟩] w fun e w' => ∃ A n c ss, e = .returned (.slice A n c) ∧ Ss w' A n c ss ∧ ss.map (·.data.toList) = Lib.splitK [44] 0 (s.data.toList.count 44) s.data.toList ∧ (∀ x ∈ ss, x.size ≤ s.size) ∧ Below w.heap.size w w' := by
  obtain ⟨m, hm⟩ := hE.mlen
  refine (Any.strings_Split { Tryz.lays146 with } Tryz.lays146.i9 s ⟨#[44]⟩ m w (by omega) hm (by decide)).mono ?_
  rintro e w' ⟨rfl, rfl⟩
  have hb := below_alloc w (.cells ((Lib.splitB ⟨#[44]⟩ 0 (Lib.countB s ⟨#[44]⟩) s).map Value.string).toArray 9)
  have hlen := Lib.splitB_all ⟨#[44]⟩ (by decide) 0 (Lib.countB s ⟨#[44]⟩) s rfl
  have hcnt : Lib.countB s ⟨#[44]⟩ = s.data.toList.count 44 := Lib.count_one 44 s.data.toList
  have hle : s.data.toList.count 44 ≤ s.size := by
    have := List.count_le_length (a := (44 : UInt8)) (l := s.data.toList)
    rw [Array.length_toList] at this
    exact this
  have hdat := Lib.splitB_data ⟨#[44]⟩ 0 (Lib.countB s ⟨#[44]⟩) s
  refine ⟨some ⟨w.heap.size, 0, none⟩, _, _, Lib.splitB ⟨#[44]⟩ 0 (Lib.countB s ⟨#[44]⟩) s, rfl, ?_, ?_, ?_, hb⟩
  · refine ⟨by simpa using hlen, Nat.le_refl _, by omega, fun h => by simp at h, fun _ => ⟨_, _, rfl, by simp, fun j u hu => ?_⟩⟩
    have hh : (w.alloc (.cells ((Lib.splitB ⟨#[44]⟩ 0 (Lib.countB s ⟨#[44]⟩) s).map Value.string).toArray 9)).heap[w.heap.size]? = some (.cells ((Lib.splitB ⟨#[44]⟩ 0 (Lib.countB s ⟨#[44]⟩) s).map Value.string).toArray 9) := heap_alloc_new w _
    show World.cell? (w.alloc (.cells ((Lib.splitB ⟨#[44]⟩ 0 (Lib.countB s ⟨#[44]⟩) s).map Value.string).toArray 9)) _ = _
    simp only [World.cell?, hh, Nat.zero_add]
    simpa using hu
  · rw [hdat, hcnt]
  · intro x hx
    have key : ∀ (k : Nat) (t : List UInt8), ∀ y ∈ Lib.splitK [44] 0 k t, y.length ≤ t.length := by
      intro k
      induction k with
      | zero => intro t y hy; rw [Lib.splitK, List.mem_singleton] at hy; rw [hy]; exact Nat.le_refl _
      | succ k ih =>
        intro t y hy
        rw [Lib.splitK] at hy
        split at hy
        · rw [List.mem_singleton] at hy; rw [hy]; exact Nat.le_refl _
        · rcases List.mem_cons.1 hy with rfl | hy
          · rw [List.length_take]; omega
          · have := ih _ y hy
            rw [List.length_drop] at this
            omega
    have hx' : x.data.toList ∈ Lib.splitK [44] 0 (Lib.countB s ⟨#[44]⟩) s.data.toList := by
      have e : Lib.splitK [44] 0 (Lib.countB s ⟨#[44]⟩) s.data.toList = (Lib.splitB ⟨#[44]⟩ 0 (Lib.countB s ⟨#[44]⟩) s).map (·.data.toList) := hdat.symm
      rw [e]
      exact List.mem_map.2 ⟨x, hx, rfl⟩
    have := key _ _ _ hx'
    rw [Array.length_toList, Array.length_toList] at this
    exact this

/-- strings.Cut at a dash. -/
theorem cut_any (s : ByteArray) (hs : s.size ≤ 1000000) (w : World) (hE : Iw w) :
    Calls Tryz.prog 29 #[.string s, .string ⟨#[45]⟩] w fun e w' => e = .returned (.tuple #[.string (strOf (Lib.cut s.data.toList [45]).1), .string (strOf (Lib.cut s.data.toList [45]).2.1), .bool (Lib.cut s.data.toList [45]).2.2]) ∧ ∃ k, w' = w.drewN k := by
  obtain ⟨m, hm⟩ := hE.mlen
  exact Any.strings_Cut { Tryz.lays145 with } s ⟨#[45]⟩ m w (by omega) hm

theorem cut_len (x : List UInt8) : (Lib.cut x [45]).1.length ≤ x.length ∧ (Lib.cut x [45]).2.1.length ≤ x.length := by
  unfold Lib.cut
  split
  · simp only [List.length_take, List.length_drop]; omega
  · simp

def item2 (X Y : Lib.NumEnd Int) : Option Span := match X, Y with
  | .ok f, .ok t => some (f, t)
  | _, _ => none
theorem item2_ok {X Y : Lib.NumEnd Int} {a b : Int} (h1 : X = .ok a) (h2 : Y = .ok b) : item2 X Y = some (a, b) := by subst h1 h2; rfl
theorem item2_no1 {X Y : Lib.NumEnd Int} (h1 : ∀ m, X ≠ .ok m) : item2 X Y = none := by
  unfold item2
  split
  · exact absurd rfl (h1 _)
  · rfl
theorem item2_no2 {X Y : Lib.NumEnd Int} (h1 : ∀ m, Y ≠ .ok m) : item2 X Y = none := by
  unfold item2
  split
  · exact absurd rfl (h1 _)
  · rfl

set_option maxHeartbeats 4000000 in
set_option maxRecDepth 100000 in
theorem parse_any (s : ByteArray) (hs : s.size ≤ 10000) (w : World) (hE : Iw w) :
    Calls Tryz.prog 19 #[.string s] w fun e w' => ∃ A n c l, e = .returned (.tuple #[.slice A n c, .bool (parse? s.data.toList).isSome]) ∧ Rp w' A n c l ∧ (∀ l', parse? s.data.toList = some l' → l' = l) ∧ Below w.heap.size w w' := by
  obtain ⟨Q, hQ⟩ : ∃ Q, parse? s.data.toList = Q := ⟨_, rfl⟩
  rw [hQ]
  unfold parse? at hQ
  have hemp : s.toList.isEmpty = decide (s.data.toList = []) := by
    rw [Lib.toList_data]
    cases s.data.toList <;> rfl
  by_cases h0 : s.data.toList = []
  · rw [if_pos h0] at hQ
    subst hQ
    have e0 : s.toList.isEmpty = true := by rw [hemp]; simpa using h0
    clear hemp h0 hE
    go_enter Tryz.func19, Tryz.ntmps19
    go_wp2_with (fail)
    go_ret2
    exact ⟨none, 0, 0, [], rfl, Rp.none_ _, (fun l' h => by injection h with h; exact h.symm), Below.refl _ _⟩
  · rw [if_neg h0] at hQ
    have e0 : s.toList.isEmpty = false := by rw [hemp]; simpa using h0
    have hQ' := Lib.hid hQ
    have cs := split_any s (by omega) w hE
    have hE' := Lib.hid hE
    clear hemp h0 hQ hE
    have fail : ∀ (hn : Q = none) (w1 : World), Below w.heap.size w w1 → ∃ (A : Option Addr) (n c : Nat) (l : List Span), Ending.returned (.tuple #[.slice none 0 0, .bool false]) = .returned (.tuple #[.slice A n c, .bool Q.isSome]) ∧ Rp w1 A n c l ∧ (∀ l', Q = some l' → l' = l) ∧ Below w.heap.size w w1 := by
      intro hn w1 hb
      subst hn
      exact ⟨none, 0, 0, [], rfl, Rp.none_ _, (fun l' h => by cases h), hb⟩
    have fail' := Lib.hid fail
    clear fail
    go_enter Tryz.func19, Tryz.ntmps19
    go_wp2_with fail
    refine cs.mono ?_
    rintro e w1 ⟨A, n, c, ss, rfl, hS, hK, hsz, hb1⟩
    have hn := hS.len
    have hle := Rd.le hS
    have hmx := Rd.max hS
    have hn2 : n ≤ 10001 := by
      have e1 : (ss.map (·.data.toList)).length = (Lib.splitK [44] 0 (s.data.toList.count 44) s.data.toList).length := by rw [hK]
      have e2 : ∀ (k : Nat) (t : List UInt8), (Lib.splitK [44] 0 k t).length ≤ k + 1 := by
        intro k
        induction k with
        | zero => intro t; simp [Lib.splitK]
        | succ k ih =>
          intro t
          rw [Lib.splitK]
          split
          · simp
          · have := ih (t.drop ((Lib.index t [44]).toNat + [44].length))
            simp only [List.length_cons] at this ⊢
            omega
      have e3 := e2 (s.data.toList.count 44) s.data.toList
      have e4 : s.data.toList.count 44 ≤ s.size := by
        have := List.count_le_length (a := (44 : UInt8)) (l := s.data.toList)
        rw [Array.length_toList] at this
        exact this
      rw [List.length_map] at e1
      omega
    have hQ2 : Hid (Q = match items (ss.map (·.data.toList)) with | none => none | some l => if okB 1 l && decide (textP l = s.data.toList) then some l else none) := Lib.hid (by rw [hK]; exact hQ'.out.symm)
    have hS' := Lib.hid hS
    have hsz' := Lib.hid hsz
    have hx1 := Lib.hid hb1
    clear cs hS hK hsz hb1 hQ'
    go_wp2_with fail
    go_loopw [4, 19] (fun o i wr => ∃ (k : Nat) (A' : Option Addr) (c' : Nat) (acc : List Span), k ≤ n ∧ acc.length = k ∧ i = .int .i64 k ∧ o = .slice A' acc.length c' ∧ Hid (items (ss.map (·.data.toList)) = (items ((ss.drop k).map (·.data.toList))).map fun l => acc ++ l) ∧ OwP wr w1.heap.size 41 (.slice A' acc.length c') acc ∧ Below w1.heap.size w1 wr) (fun _ i _ => n - (intOf i).toNat)
    case atStart => exact ⟨0, none, 0, [], by omega, rfl, rfl, rfl, Lib.hid (by simp), OwP.nil _ _ _, Below.refl _ _⟩
    case round =>
      obtain ⟨k, A', c', acc, hk, hacc, rfl, rfl, hit, hO, hbw⟩ := hrel
      have hacc' := Lib.hid hacc
      have hal : acc.length ≤ 10001 := by omega
      clear hacc
      have hO' := Lib.hid hO
      have hbw' := Lib.hid hbw
      by_cases hlt : k < n
      case neg =>
        obtain rfl : k = n := by omega
        have hall : items (ss.map (·.data.toList)) = some acc := by
          rw [hit.out, List.drop_eq_nil_of_le (by omega)]
          simp [items]
        have hQ3 : Q = if okB 1 acc && decide (textP acc = s.data.toList) then some acc else none := by rw [hQ2.out, hall]
        have hQ3' := Lib.hid hQ3
        have cm := may_any A' acc.length c' acc wr hO.rp
        cases hok : okB 1 acc with
        | false =>
          rw [hok] at cm hQ3
          have hn := Lib.hid (show Q = none by rw [hQ3, Bool.false_and, if_neg Bool.false_ne_true])
          clear hall hQ3 hQ3' hit hO hbw hok
          go_wp2_with fail
          refine cm.mono ?_
          rintro e w2 ⟨rfl, hb2⟩
          have hx2 := Lib.hid ((hx1.out.trans (hbw'.out.mono hx1.out.size)).trans (hb2.mono (hx1.out.trans (hbw'.out.mono hx1.out.size)).size))
          clear hb2 cm
          go_wp2_with fail
          go_ret2
          exact fail'.out hn.out _ hx2.out
        | true =>
          rw [hok] at cm hQ3
          have ht : text? acc = textP acc := by unfold text?; rw [if_pos hok]
          clear hall hQ3' hit hO hbw
          go_wp2_with fail
          refine cm.mono ?_
          rintro e w2 ⟨rfl, hb2⟩
          have hx2 := Lib.hid ((hx1.out.trans (hbw'.out.mono hx1.out.size)).trans (hb2.mono (hx1.out.trans (hbw'.out.mono hx1.out.size)).size))
          have hR2 := Lib.hid (hO'.out.rp.below hb2)
          have ct := text_any A' acc.length c' acc w2 hR2.out (hE'.out.below hx2.out).tens
          rw [ht] at ct
          obtain ⟨T, hT⟩ : ∃ T, strOf (textP acc) = T := ⟨_, rfl⟩
          rw [hT] at ct
          obtain ⟨v, hv⟩ : ∃ v, decide (textP acc = s.data.toList) = v := ⟨_, rfl⟩
          have hbq : (T.toList == s.toList) = v := by
            rw [str_beq, ← hv, ← hT]
            congr 1
            apply propext
            constructor
            · intro h
              have := congrArg (fun x : ByteArray => x.data.toList) h
              exact this
            · intro h; rw [h]; rfl
          rw [hv] at hQ3
          have hQ4 := Lib.hid hQ3
          clear hb2 cm hQ3 hv hT hok ht
          go_wp2_with fail
          refine ct.mono ?_
          rintro e w3 ⟨rfl, hb3⟩
          have hx3 := Lib.hid (hx2.out.trans (hb3.mono hx2.out.size))
          have hR3 := Lib.hid (hR2.out.below hb3)
          clear hb3 ct
          cases v with
          | false =>
            have hn := Lib.hid (show Q = none by rw [hQ4.out, Bool.and_false, if_neg Bool.false_ne_true])
            go_wp2_with fail
            go_ret2
            exact fail'.out hn.out _ hx3.out
          | true =>
            have hn := Lib.hid (show Q = some acc by rw [hQ4.out, Bool.and_true, if_pos rfl])
            go_wp2_with fail
            go_ret2
            rw [hn.out]
            exact ⟨A', acc.length, c', acc, rfl, hR3.out, (fun l' h => by injection h with h; exact h.symm), hx3.out⟩
      case pos =>
        obtain ⟨b', off, x, rfl, hb, hp, hc1⟩ := (hS'.out.below hbw).at_ hlt
        have hxs : x.size ≤ s.size := hsz'.out x (List.mem_of_getElem? hp)
        have hdr : ss.drop k = x :: ss.drop (k + 1) := by
          obtain ⟨g1, g2⟩ := List.getElem?_eq_some_iff.1 hp
          rw [List.drop_eq_getElem_cons g1, g2]
        have hstep : items (ss.map (·.data.toList)) = match item x.data.toList with
            | none => none
            | some p => (items ((ss.drop (k + 1)).map (·.data.toList))).map fun l => (acc ++ [p]) ++ l := by
          rw [hit.out, hdr, List.map_cons, items]
          cases item x.data.toList with
          | none => rfl
          | some p =>
            simp only
            cases items ((ss.drop (k + 1)).map (·.data.toList)) with
            | none => rfl
            | some l => simp
        have hstep' := Lib.hid hstep
        have hnone : item x.data.toList = none → Q = none := fun h => by rw [hQ2.out, hstep, h]
        have hnone' := Lib.hid hnone
        have hE1 : Iw wr := hE'.out.below (hx1.out.trans (hbw.mono hx1.out.size))
        have hE1' := Lib.hid hE1
        have hxr := Lib.hid (hx1.out.trans (hbw.mono hx1.out.size))
        have cc := cut_any x (by omega) wr hE1
        have hcl := cut_len x.data.toList
        rw [show x.data.toList.length = x.size by rw [Array.length_toList]; rfl] at hcl
        have hitem : item x.data.toList = item2 (Lib.atoiAll (Lib.cut x.data.toList [45]).1) (Lib.atoiAll (if (Lib.cut x.data.toList [45]).2.2 then (Lib.cut x.data.toList [45]).2.1 else (Lib.cut x.data.toList [45]).1)) := rfl
        obtain ⟨C, hC⟩ : ∃ C, Lib.cut x.data.toList [45] = C := ⟨_, rfl⟩
        rw [hC] at cc hcl hitem
        obtain ⟨c1', c2', two⟩ := C
        simp only at cc hcl hitem
        have hitem' := Lib.hid hitem
        clear hit hO hbw hdr hstep hnone hE1 hitem hC hp
        go_wp2_with fail
        refine cc.mono ?_
        rintro e w2 ⟨rfl, q, rfl⟩
        have hx2 := Lib.hid (Joins.below_draws wr.heap.size wr q)
        clear cc hc1
        have a1 := atoi_any (strOf c1') (by rw [strOf_size']; omega) (wr.drewN q) (hE1'.out.below hx2.out)
        rw [strOf_data'] at a1
        obtain ⟨b2, hb2⟩ : ∃ b2, (if two then c2' else c1') = b2 := ⟨_, rfl⟩
        rw [hb2] at hitem'
        have hbl : b2.length ≤ s.size := by rw [← hb2]; split <;> omega
        have hbv : (if two then strOf c2' else strOf c1') = strOf b2 := by rw [← hb2]; split <;> rfl
        have main : ∀ (er1 : Value) (n1 : Int) (w3 : World), True := fun _ _ _ => trivial
        cases two with
        | true =>
          simp only [if_true] at hb2 hbv
          subst hb2
          go_wp2_with fail
          refine a1.mono ?_
          rintro e w3 ⟨n1, er1, rfl, hor1, hb3⟩
          have hx3 := Lib.hid (hx2.out.trans (hb3.mono hx2.out.size))
          have a2 := atoi_any (strOf c2') (by rw [strOf_size']; omega) w3 (hE1'.out.below hx3.out)
          rw [strOf_data'] at a2
          have hor1' := Lib.hid hor1
          clear a1 hb3 hor1
          go_wp2_with fail
          refine a2.mono ?_
          rintro e w4 ⟨n2, er2, rfl, hor2, hb4⟩
          have hx4 := Lib.hid (hx3.out.trans (hb4.mono hx3.out.size))
          clear a2 hb4
          rcases hor1'.out with ⟨rfl, h1⟩ | ⟨⟨t1, ad1, rfl⟩, h1⟩
          · rcases hor2 with ⟨rfl, h2⟩ | ⟨⟨t2, ad2, rfl⟩, h2⟩
            · have hit2 : item x.data.toList = some (n1, n2) := by rw [hitem'.out, item2_ok h1 h2]
              have hnext : Hid (items (ss.map (·.data.toList)) = (items ((ss.drop (k + 1)).map (·.data.toList))).map fun l => (acc ++ [(n1, n2)]) ++ l) := Lib.hid (by rw [hstep'.out, hit2])
              have hB0 : w1.heap.size ≤ wr.heap.size := hbw'.out.size
              have hB4 : w1.heap.size ≤ w4.heap.size := Nat.le_trans hB0 hx4.out.size
              have hO4 := Lib.hid (hO'.out.below hx4.out)
              have hbw4 := Lib.hid (hbw'.out.trans (hx4.out.mono hB0))
              clear h1 h2 hit2
              go_wp2_with (at_builtin; apply stop_here)
              refine Stop.go (append_spans _ 22 41 _ Tryz.underlying22 info_span rfl rfl _ _ rfl w1.heap.size _ acc rfl (hO4.out.below (below_alloc _ _)) _ _ _ [(n1, n2)] rfl (rp_lit w4 #[.int .i64 n1, .int .i64 n2] _ _ [(n1, n2)] 1 rfl (by omega) rfl) (acc.length + 1) rfl (by omega) (by simp; omega) ?_)
              intro A2 c2 w5 ho5 hb5
              have hx5 := Lib.hid (hbw4.out.trans (((below_alloc w4 _).mono hB4).trans hb5))
              have ho5' := Lib.hid ho5
              clear ho5 hb5
              go_wp2_with fail
              go_roundw
              case rel => exact ⟨k + 1, A2, c2, acc ++ [(n1, n2)], by omega, by have := hacc'.out; simp; omega, by go_num, by simp, hnext, by simpa using ho5'.out, hx5.out⟩
              case measure => simp [intOf]; omega
            · have hn : Hid (Q = none) := Lib.hid (hnone'.out (by rw [hitem'.out, item2_no2 h2]))
              clear h1 h2
              go_wp2_with fail
              go_ret2
              exact fail'.out hn.out _ (hxr.out.trans (hx4.out.mono hxr.out.size))
          · have hn : Hid (Q = none) := Lib.hid (hnone'.out (by rw [hitem'.out, item2_no1 h1]))
            clear h1 hor2
            go_wp2_with fail
            go_ret2
            exact fail'.out hn.out _ (hxr.out.trans (hx4.out.mono hxr.out.size))
        | false =>
          simp only [Bool.false_eq_true, if_false] at hb2 hbv
          subst hb2
          go_wp2_with fail
          refine a1.mono ?_
          rintro e w3 ⟨n1, er1, rfl, hor1, hb3⟩
          have hx3 := Lib.hid (hx2.out.trans (hb3.mono hx2.out.size))
          have a2 := atoi_any (strOf c1') (by rw [strOf_size']; omega) w3 (hE1'.out.below hx3.out)
          rw [strOf_data'] at a2
          have hor1' := Lib.hid hor1
          clear a1 hb3 hor1
          go_wp2_with fail
          refine a2.mono ?_
          rintro e w4 ⟨n2, er2, rfl, hor2, hb4⟩
          have hx4 := Lib.hid (hx3.out.trans (hb4.mono hx3.out.size))
          clear a2 hb4
          rcases hor1'.out with ⟨rfl, h1⟩ | ⟨⟨t1, ad1, rfl⟩, h1⟩
          · rcases hor2 with ⟨rfl, h2⟩ | ⟨⟨t2, ad2, rfl⟩, h2⟩
            · have hit2 : item x.data.toList = some (n1, n2) := by rw [hitem'.out, item2_ok h1 h2]
              have hnext : Hid (items (ss.map (·.data.toList)) = (items ((ss.drop (k + 1)).map (·.data.toList))).map fun l => (acc ++ [(n1, n2)]) ++ l) := Lib.hid (by rw [hstep'.out, hit2])
              have hB0 : w1.heap.size ≤ wr.heap.size := hbw'.out.size
              have hB4 : w1.heap.size ≤ w4.heap.size := Nat.le_trans hB0 hx4.out.size
              have hO4 := Lib.hid (hO'.out.below hx4.out)
              have hbw4 := Lib.hid (hbw'.out.trans (hx4.out.mono hB0))
              clear h1 h2 hit2
              go_wp2_with (at_builtin; apply stop_here)
              refine Stop.go (append_spans _ 22 41 _ Tryz.underlying22 info_span rfl rfl _ _ rfl w1.heap.size _ acc rfl (hO4.out.below (below_alloc _ _)) _ _ _ [(n1, n2)] rfl (rp_lit w4 #[.int .i64 n1, .int .i64 n2] _ _ [(n1, n2)] 1 rfl (by omega) rfl) (acc.length + 1) rfl (by omega) (by simp; omega) ?_)
              intro A2 c2 w5 ho5 hb5
              have hx5 := Lib.hid (hbw4.out.trans (((below_alloc w4 _).mono hB4).trans hb5))
              have ho5' := Lib.hid ho5
              clear ho5 hb5
              go_wp2_with fail
              go_roundw
              case rel => exact ⟨k + 1, A2, c2, acc ++ [(n1, n2)], by omega, by have := hacc'.out; simp; omega, by go_num, by simp, hnext, by simpa using ho5'.out, hx5.out⟩
              case measure => simp [intOf]; omega
            · have hn : Hid (Q = none) := Lib.hid (hnone'.out (by rw [hitem'.out, item2_no2 h2]))
              clear h1 h2
              go_wp2_with fail
              go_ret2
              exact fail'.out hn.out _ (hxr.out.trans (hx4.out.mono hxr.out.size))
          · have hn : Hid (Q = none) := Lib.hid (hnone'.out (by rw [hitem'.out, item2_no1 h1]))
            clear h1 hor2
            go_wp2_with fail
            go_ret2
            exact fail'.out hn.out _ (hxr.out.trans (hx4.out.mono hxr.out.size))
end Go.Proofs.YtppmnelgekhbnaaGreatDoor.IvW
