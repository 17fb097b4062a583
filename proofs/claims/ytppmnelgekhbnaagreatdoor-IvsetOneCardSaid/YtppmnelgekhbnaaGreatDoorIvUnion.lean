/- ivset.Union, Add, Of. -/
import Derived.Test.YtppmnelgekhbnaaGreatDoorIvSort
import Derived.Test.YtppmnelgekhbnaaGreatDoorIvConcat
namespace Go.Proofs.YtppmnelgekhbnaaGreatDoor.IvW
open Go.RowKit Iv

set_option maxHeartbeats 2000000 in
set_option maxRecDepth 100000 in
theorem union_any (A : Option Addr) (n c : Nat) (la : List Span) (B : Option Addr) (m d : Nat) (lb : List Span) (w : World) (hA : Rp w A n c la) (hB : Rp w B m d lb) (hn : n ≤ 100000) (hm : m ≤ 100000) :
    Calls Tryz.prog 26 #[.slice A n c, .slice B m d] w fun e w' => ∃ A' c', e = .returned (.slice A' (union? la lb).length c') ∧ OwP w' w.heap.size 41 (.slice A' (union? la lb).length c') (union? la lb) ∧ Below w.heap.size w w' := by
  have hla := hA.len
  have hlb := hB.len
  have a1 := hA.le
  have a2 := hA.max
  have a3 := hB.le
  have a4 := hB.max
  have c1 := may_any A n c la w hA
  obtain ⟨R, hR⟩ : ∃ R, union? la lb = R := ⟨_, rfl⟩
  rw [hR]
  have hRR := Lib.hid hR
  unfold union? at hR
  cases ha : okB 1 la
  · rw [ha] at c1 hR
    simp only [Bool.false_and, Bool.false_eq_true, if_false] at hR
    subst hR
    clear hRR
    go_enter Tryz.func26, Tryz.ntmps26
    go_wp2_with (go_at_call 7; refine c1.mono ?_; rintro e w1 ⟨rfl, hb1⟩)
    go_ret
    exact ⟨none, 0, rfl, OwP.nil _ _ _, hb1⟩
  rw [ha] at c1 hR
  cases hb : okB 1 lb
  · rw [hb] at hR
    simp only [Bool.and_false, Bool.false_eq_true, if_false] at hR
    subst hR
    clear hRR
    go_enter Tryz.func26, Tryz.ntmps26
    go_wp2_with fail
    refine c1.mono ?_
    rintro e w1 ⟨rfl, hb1⟩
    have c2 := may_any B m d lb w1 (hB.below hb1)
    rw [hb] at c2
    go_wp2_with fail
    refine c2.mono ?_
    rintro e w2 ⟨rfl, hb2⟩
    have hb02 := hb1.trans (hb2.mono hb1.size)
    clear hb1 hb2
    go_wp2_with fail
    go_ret
    exact ⟨none, 0, rfl, OwP.nil _ _ _, hb02⟩
  have hA' := Lib.hid hA
  have hB' := Lib.hid hB
  have ha' := Lib.hid ha
  have hb' := Lib.hid hb
  clear hR hA hB ha
  go_enter Tryz.func26, Tryz.ntmps26
  go_wp2_with fail
  refine c1.mono ?_
  rintro e w1 ⟨rfl, hb1⟩
  have c2 := may_any B m d lb w1 (hB'.out.below hb1)
  rw [hb] at c2
  clear hb c1
  go_wp2_with fail
  refine c2.mono ?_
  rintro e w2 ⟨rfl, hb2⟩
  have hx2 := Lib.hid (hb1.trans (hb2.mono hb1.size))
  have hlit := rpl_lit2 w2 22 A B n m c d la lb (hA'.out.below hx2.out) (hB'.out.below hx2.out)
  have hba := below_alloc w2 (.cells #[.slice A n c, .slice B m d] 22)
  have hcl : (catP [la, lb]).length = n + m := by simp [catP]; omega
  have hce : catP [la, lb] = la ++ lb := by simp [catP]
  have c3 := concatP_any _ 2 2 [la, lb] _ hlit (by omega)
  rw [hcl, hce] at c3
  have hx3 := Lib.hid (hx2.out.trans (hba.mono hx2.out.size))
  clear hb1 hb2 c2 hlit hba hcl hce
  go_wp2_with fail
  refine c3.mono ?_
  rintro e w4 ⟨A4, c4, rfl, ho4, hb4⟩
  have hs4 := hb4.size
  have hx4 := Lib.hid (hx3.out.trans (hb4.mono hx3.out.size))
  have hspan : ∀ p ∈ la ++ lb, 0 ≤ p.1 ∧ p.1 ≤ 200 := fun p hp => by
    rcases List.mem_append.1 hp with h | h
    · have := ok_span ((okB_iff _ _).1 ha'.out) p h; omega
    · have := ok_span ((okB_iff _ _).1 hb'.out) p h; omega
  have c5 := sort_any A4 (n + m) c4 (la ++ lb) _ w4 (ho4.mono hx3.out.size) hx4.out.size hspan (by omega)
  clear c3 hb4 hspan ho4
  go_wp2_with fail
  refine c5.mono ?_
  rintro e w5 ⟨rfl, l', hperm, hsort, hR5, hb5⟩
  obtain ⟨hrise, hfold⟩ := union_law ha'.out hb'.out hperm hsort
  rw [hRR.out] at hfold
  have hx5 := Lib.hid (hx4.out.trans hb5)
  have hR5' := Lib.hid hR5
  have hrise' := Lib.hid hrise
  have hfold' := Lib.hid hfold
  have hl5 := hR5.len
  have hle5 := hR5.le
  have hm5 := hR5.max
  clear c5 hperm hsort hR5 hb5 hrise hfold hs4
  go_wp2_with fail
  go_loopw [6, 25] (fun o i wr => ∃ (k : Nat) (A' : Option Addr) (c' : Nat), k ≤ n + m ∧ i = .int .i64 k ∧ o = .slice A' ((l'.take k).foldl putL []).length c' ∧ ((l'.take k).foldl putL []).length ≤ k ∧ OwP wr w5.heap.size 41 (.slice A' ((l'.take k).foldl putL []).length c') ((l'.take k).foldl putL []) ∧ Below w5.heap.size w5 wr) (fun _ i _ => n + m - (intOf i).toNat)
  case atStart => exact ⟨0, none, 0, by omega, rfl, rfl, by simp, OwP.nil _ _ _, Below.refl _ _⟩
  case round =>
    obtain ⟨k, A', c', hk, rfl, rfl, hal, hO, hbw⟩ := hrel
    by_cases hlt : k < n + m
    · obtain ⟨b', off, ⟨f, t⟩, rfl, hb, hp, hk1, hk2⟩ := (hR5'.out.below hbw).at_ hlt
      simp only at hk1 hk2
      obtain ⟨_, _, hq⟩ := puts_rising (rising_take k hrise'.out)
      have hstep : (l'.take (k + 1)).foldl putL [] = putL ((l'.take k).foldl putL []) (f, t) := by rw [take_snoc hp, List.foldl_append]; rfl
      have hlen1 := putL_len (l := (l'.take k).foldl putL []) (f, t)
      obtain ⟨acc, hacc⟩ : ∃ acc, (l'.take k).foldl putL [] = acc := ⟨_, rfl⟩
      rw [hacc] at hO hal hq hstep hlen1
      rw [hacc]
      have hstep' := Lib.hid hstep
      have hsz := hbw.size
      have hba := below_alloc wr (.cells #[.int .i64 f, .int .i64 t] 41)
      have hs1 : w5.heap.size ≤ (wr.alloc (.cells #[.int .i64 f, .int .i64 t] 41)).heap.size := Nat.le_trans hsz hba.size
      have c6 := put_any A' acc.length c' acc f t w5.heap.size (wr.alloc (.cells #[.int .i64 f, .int .i64 t] 41)) hs1 (hO.below hba) (by omega) hq
      have hx6 := Lib.hid (hbw.trans (hba.mono hsz))
      clear hO hbw hacc hstep hq hba hs1
      go_wp2_with fail
      refine c6.mono ?_
      rintro e w7 ⟨A7, c7, rfl, ho7, hb7⟩
      have hx7 := Lib.hid (hx6.out.trans hb7)
      have ho7' := Lib.hid ho7
      have hlen1' := Lib.hid hlen1
      clear c6 hb7 ho7 hlen1
      go_wp2_with fail
      go_roundw
      case rel => exact ⟨k + 1, A7, c7, by omega, by go_num, by rw [hstep'.out], by rw [hstep'.out]; have := hlen1'.out; omega, by rw [hstep'.out]; exact ho7'.out, hx7.out⟩
      case measure => simp [intOf]; omega
    · obtain rfl : k = n + m := by omega
      rw [List.take_of_length_le (by omega), hfold'.out] at hO hal
      rw [List.take_of_length_le (by omega), hfold'.out]
      have hO' := Lib.hid (hO.mono hx5.out.size)
      have hbw' := Lib.hid (hx5.out.trans (hbw.mono hx5.out.size))
      clear hO hbw hal
      go_wp2_with fail
      go_ret
      exact ⟨A', c', rfl, hO'.out, hbw'.out⟩

/-- A set with one version more. -/
def add? (l : List Span) (v : Int) : List Span := if ver v then union? l [(v, v)] else union? l []

set_option maxHeartbeats 1000000 in
set_option maxRecDepth 100000 in
theorem add_any (A : Option Addr) (n c : Nat) (l : List Span) (v : Int) (w : World) (hA : Rp w A n c l) (hn : n ≤ 100000) :
    Calls Tryz.prog 15 #[.slice A n c, .int .i64 v] w fun e w' => ∃ A' c', e = .returned (.slice A' (add? l v).length c') ∧ OwP w' w.heap.size 41 (.slice A' (add? l v).length c') (add? l v) ∧ Below w.heap.size w w' := by
  unfold add?
  cases hv : ver v
  · simp only [Bool.false_eq_true, if_false]
    have c1 := union_any A n c l none 0 0 [] w hA (Rp.none_ w) hn (by omega)
    obtain ⟨R, hR⟩ : ∃ R, union? l [] = R := ⟨_, rfl⟩
    rw [hR] at c1 ⊢
    clear hA hR
    go_enter Tryz.func15, Tryz.ntmps15
    go_wp2_with (go_at_call 23; refine (version_any _ _).mono ?_; rintro e w' ⟨rfl, rfl⟩)
    refine c1.mono ?_
    rintro e w2 ⟨A2, c2, rfl, ho2, hb2⟩
    have ho2' := Lib.hid ho2
    have hb2' := Lib.hid hb2
    clear c1 ho2 hb2
    go_wp2_with fail
    go_ret
    exact ⟨A2, c2, rfl, ho2'.out, hb2'.out⟩
  · simp only [if_true]
    have hba := below_alloc w (.cells #[.int .i64 v, .int .i64 v] 41)
    have c1 := union_any A n c l (some ⟨w.heap.size, 0, none⟩) 1 1 [(v, v)] (w.alloc (.cells #[.int .i64 v, .int .i64 v] 41)) (hA.below hba) (rp_lit w _ _ _ [(v, v)] 1 rfl (by omega) rfl) hn (by omega)
    obtain ⟨R, hR⟩ : ∃ R, union? l [(v, v)] = R := ⟨_, rfl⟩
    rw [hR] at c1 ⊢
    have hba' := Lib.hid hba
    clear hA hR hba
    go_enter Tryz.func15, Tryz.ntmps15
    go_wp2_with (go_at_call 23; refine (version_any _ _).mono ?_; rintro e w' ⟨rfl, rfl⟩)
    refine c1.mono ?_
    rintro e w2 ⟨A2, c2, rfl, ho2, hb2⟩
    have ho2' := Lib.hid (ho2.mono hba'.out.size)
    have hb2' := Lib.hid (hba'.out.trans (hb2.mono hba'.out.size))
    clear c1 ho2 hb2
    go_wp2_with fail
    go_ret
    exact ⟨A2, c2, rfl, ho2'.out, hb2'.out⟩

/-- The set of some versions. -/
def of? (l : List Int) : List Span := l.foldl add? []

theorem add_len (s : List Span) (v : Int) : (add? s v).length ≤ 300 := by
  have hu : ∀ a b, (union? a b).length ≤ 300 := fun a b => by
    unfold union?
    split
    · exact sp_len _
    · simp
  unfold add?
  split <;> exact hu _ _

set_option maxHeartbeats 1000000 in
set_option maxRecDepth 100000 in
theorem of_any (A : Option Addr) (n c : Nat) (l : List Int) (w : World) (hI : Rd w A n c (l.map (Value.int .i64))) :
    Calls Tryz.prog 18 #[.slice A n c] w fun e w' => ∃ A' c', e = .returned (.slice A' (of? l).length c') ∧ OwP w' w.heap.size 41 (.slice A' (of? l).length c') (of? l) ∧ Below w.heap.size w w' := by
  have hlen := hI.len
  have hle := hI.le
  have hm := hI.max
  rw [List.length_map] at hlen
  obtain ⟨R, hR⟩ : ∃ R, of? l = R := ⟨_, rfl⟩
  rw [hR]
  have hR' := Lib.hid hR
  have hI' := Lib.hid hI
  clear hR hI
  go_enter Tryz.func18, Tryz.ntmps18
  go_wp2_with fail
  go_loopw [3, 8] (fun o i wr => ∃ (k : Nat) (A' : Option Addr) (c' : Nat), k ≤ n ∧ i = .int .i64 k ∧ o = .slice A' (of? (l.take k)).length c' ∧ (of? (l.take k)).length ≤ 300 ∧ OwP wr w.heap.size 41 (.slice A' (of? (l.take k)).length c') (of? (l.take k)) ∧ Below w.heap.size w wr) (fun _ i _ => n - (intOf i).toNat)
  case atStart => exact ⟨0, none, 0, by omega, rfl, rfl, by simp [of?], OwP.nil _ _ _, Below.refl _ _⟩
  case round =>
    obtain ⟨k, A', c', hk, rfl, rfl, hal, hO, hbw⟩ := hrel
    by_cases hlt : k < n
    · obtain ⟨b', off, u, rfl, hb, hp, hk1⟩ := (hI'.out.below hbw).at_ hlt
      rw [List.getElem?_map, Option.map_eq_some_iff] at hp
      obtain ⟨v, hv, rfl⟩ := hp
      have hstep : of? (l.take (k + 1)) = add? (of? (l.take k)) v := by unfold of?; rw [take_snoc hv, List.foldl_append]; rfl
      have hlen1 := add_len (of? (l.take k)) v
      obtain ⟨acc, hacc⟩ : ∃ acc, of? (l.take k) = acc := ⟨_, rfl⟩
      rw [hacc] at hO hal hstep hlen1
      rw [hacc]
      have hstep' := Lib.hid hstep
      have c6 := add_any A' acc.length c' acc v wr hO.rp (by omega)
      have hx6 := Lib.hid hbw
      clear hO hbw hacc hstep
      go_wp2_with fail
      refine c6.mono ?_
      rintro e w7 ⟨A7, c7, rfl, ho7, hb7⟩
      have hx7 := Lib.hid (hx6.out.trans (hb7.mono hx6.out.size))
      have ho7' := Lib.hid (ho7.mono hx6.out.size)
      have hlen1' := Lib.hid hlen1
      clear c6 hb7 ho7 hlen1
      go_wp2_with fail
      go_roundw
      case rel => exact ⟨k + 1, A7, c7, by omega, by go_num, by rw [hstep'.out], by rw [hstep'.out]; exact hlen1'.out, by rw [hstep'.out]; exact ho7'.out, hx7.out⟩
      case measure => simp [intOf]; omega
    · obtain rfl : k = n := by omega
      rw [List.take_of_length_le (by omega), hR'.out] at hO hal
      rw [List.take_of_length_le (by omega), hR'.out]
      have hO' := Lib.hid hO
      have hbw' := Lib.hid hbw
      clear hO hbw hal
      go_wp2_with fail
      go_ret
      exact ⟨A', c', rfl, hO'.out, hbw'.out⟩
end Go.Proofs.YtppmnelgekhbnaaGreatDoor.IvW
