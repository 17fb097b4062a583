/- XlexJoins. Printed by xl_lawj.py. -/
import Derived.Test.YtcecmbbhjaeodaaGreatDoorMXlToks
import Derived.Test.YtcecmbbhjaeodaaGreatDoorMXlJoin
import Derived.Test.YtcecmbbhjaeodaaGreatDoorMSq2
import Derived.Laws.OwnMore
namespace Go.Proofs.YtcecmbbhjaeodaaGreatDoor.Xl
open Go.RowKit UtfW Er

theorem flatten_set {k : Nat} {u : Value} {j : Nat} (hj : j < k) : ∀ {L : List (List Value)} {i : Nat} {vs : List Value}, (∀ v ∈ L, v.length = k) → L[i]? = some vs → L.flatten.set (i * k + j) u = (L.set i (vs.set j u)).flatten
  | [], i, vs, _, h => by simp at h
  | a :: L, 0, vs, hL, h => by
    simp at h
    subst h
    have := hL a (List.mem_cons_self ..)
    rw [List.flatten_cons, Nat.zero_mul, Nat.zero_add, List.set_append_left _ _ (by omega)]
    rfl
  | a :: L, i + 1, vs, hL, h => by
    simp at h
    have ha := hL a (List.mem_cons_self ..)
    have hm : (i + 1) * k + j = a.length + (i * k + j) := by rw [Nat.succ_mul]; omega
    rw [List.flatten_cons, hm, List.set_append_right _ _ (by omega), Nat.add_sub_cancel_left, flatten_set hj (fun v hv => hL v (List.mem_cons_of_mem _ hv)) h]
    rfl
theorem ows_store {α : Type} {El : World → List Value → α → Prop} {k : Nat} {w : World} {B E g c : Nat} {l : List α} (h : OwS El k w B E (.slice (some ⟨g, 0, none⟩) l.length c) l) {i j : Nat} {x x' : α} (hi : l[i]? = some x) (hj : j < k) (u : Value)
    (h1 : ∀ vs, El w vs x → vs.length = k → El (w.setCell ⟨g, i * k + j, none⟩ u) (vs.set j u) x') (h2 : ∀ vs y, El w vs y → El (w.setCell ⟨g, i * k + j, none⟩ u) vs y) :
    OwS El k (w.setCell ⟨g, i * k + j, none⟩ u) B E (.slice (some ⟨g, 0, none⟩) l.length c) (l.set i x') := by
  obtain ⟨xs, ho, L, rfl, hl, hk, he⟩ := h
  have hil : i < l.length := (List.getElem?_eq_some_iff.1 hi).1
  have hLi : L[i]? = some L[i] := List.getElem?_eq_getElem (by omega)
  refine ⟨_, by rw [List.length_set]; exact (ho.stored (i * k + j) u).1, L.set i (L[i].set j u), flatten_set hj hk hLi, by rw [List.length_set, List.length_set, hl], fun v hv => ?_, fun i' vs y hvs hy => ?_⟩
  · rcases List.mem_or_eq_of_mem_set hv with h | h
    · exact hk v h
    · rw [h, List.length_set]; exact hk _ (List.getElem_mem _)
  · by_cases e : i' = i
    · subst e
      rw [List.getElem?_set_self (by omega)] at hvs
      rw [List.getElem?_set_self hil] at hy
      injection hvs with hvs
      injection hy with hy
      subst hvs; subst hy
      exact h1 _ (he _ _ _ hLi hi) (hk _ (List.getElem_mem _))
    · rw [List.getElem?_set_ne (by omega)] at hvs hy
      exact h2 _ _ (he _ _ _ hvs hy)
section
variable {w : World} {B g c : Nat} {ts : List Tok} {cur : Array Value} {fr : Nat × Nat}
theorem tko_set {i : Nat} (hc : w.heap[g]? = some (.cells cur 39 fr)) (u : Value) : ∀ vs y, TkO B w vs y → TkO B (w.setCell ⟨g, i, none⟩ u) vs y :=
  TkO.kept (grown_set w ⟨g, i, none⟩ u) fun g' e _ cur' hc' => by
    injection e with e
    subst e
    rw [hc] at hc'
    injection hc' with hc'
    injection hc' with _ hc' _
    exact absurd hc' (by decide)
theorem OwTk.setAt (h : OwTk w B (.slice (some ⟨g, 0, none⟩) ts.length c) ts) (hc : w.heap[g]? = some (.cells cur 39 fr)) {i : Nat} {t : Tok} (hi : ts[i]? = some t) (z : Nat) :
    OwTk (w.setCell ⟨g, i * 5 + 1, none⟩ (.int .i64 (z : Nat))) B (.slice (some ⟨g, 0, none⟩) ts.length c) (ts.set i { t with at_ := z }) := by
  refine ows_store h hi (by decide) _ (fun vs h1 hl => ?_) (tko_set hc _)
  obtain ⟨A, c, rfl, h2⟩ := tko_set (i := i * 5 + 1) hc (.int .i64 (z : Nat)) vs t h1
  exact ⟨A, c, rfl, h2⟩
theorem OwTk.far {v : Value} (h : OwTk w B v ts) (hc : w.heap[g]? = some (.cells cur 39 fr)) (hne : ∀ k, v.ownBlock = some k → k ≠ g) (i : Nat) (u : Value) : OwTk (w.setCell ⟨g, i, none⟩ u) B v ts :=
  OwS.kept h (grown_set w ⟨g, i, none⟩ u) (by
    cases hv : v.ownBlock with
    | none => exact .inl rfl
    | some k => exact .inr fun e => by injection e with e; exact hne k hv e) (tko_set hc u)
end
/-- The first of them moved. -/
def mv (k i : Nat) (ys : List Tok) : List Tok := moved k (ys.take i) ++ ys.drop i
theorem mv_len (k i : Nat) (ys : List Tok) : (mv k i ys).length = ys.length := by
  unfold mv moved
  rw [List.length_append, List.length_map, List.length_take, List.length_drop]
  omega
theorem mv_at {k i : Nat} {ys : List Tok} (h : i ≤ ys.length) : (mv k i ys)[i]? = ys[i]? := by
  unfold mv moved
  have e : (List.map (fun t : Tok => { t with at_ := t.at_ + k }) (ys.take i)).length = i := by rw [List.length_map, List.length_take]; omega
  rw [List.getElem?_append_right (by omega), e, Nat.sub_self, List.getElem?_drop, Nat.add_zero]
theorem mv_set {k i : Nat} {ys : List Tok} {t : Tok} (h : ys[i]? = some t) : (mv k i ys).set i { t with at_ := t.at_ + k } = mv k (i + 1) ys := by
  have hl := (List.getElem?_eq_some_iff.1 h).1
  have he := (List.getElem?_eq_some_iff.1 h).2
  unfold mv moved
  have e : (List.map (fun t : Tok => { t with at_ := t.at_ + k }) (ys.take i)).length = i := by rw [List.length_map, List.length_take]; omega
  rw [List.set_append_right _ _ (by omega), e, Nat.sub_self, List.drop_eq_getElem_cons hl, he, List.set_cons_zero, List.take_add_one, h, List.map_append, List.append_assoc]
  rfl
theorem mv_all (k : Nat) (ys : List Tok) : mv k ys.length ys = moved k ys := by
  unfold mv
  rw [List.take_length, List.drop_length, List.append_nil]
def offT (A : Option Addr) (c k : Nat) : Option Addr := if c = k then A else A.map fun x => x.add (k * 5)
theorem Tks.from {w : World} {A : Option Addr} {n c k : Nat} {ts : List Tok} (h : Tks w A n c ts) (hk : k ≤ n) : Tks w (offT A c k) (n - k) (c - k) (ts.drop k) := by
  have hl := h.len
  have := Sq.cut h k n hk (Nat.le_refl _) (offT A c k) (fun b off e hlt => by
    unfold offT
    rw [if_neg (by omega), e]
    show some (Addr.add ⟨b, off, none⟩ (k * 5)) = _
    unfold Addr.add
    split
    · rename_i h0; rw [h0, Nat.add_zero]
    · rfl) (fun hA => by
    unfold offT
    split
    · exact hA
    · cases A with
      | none => exact absurd rfl hA
      | some x => simp)
  rw [List.take_of_length_le (by rw [List.length_drop]; omega)] at this
  exact this
theorem Tks.upto {w : World} {A : Option Addr} {n c k : Nat} {ts : List Tok} (h : Tks w A n c ts) (hk : k ≤ n) : Tks w A k c (ts.take k) := by
  have := Sq.cut h 0 k (by omega) hk A (fun b off e _ => by rw [e]; simp) (fun h => h)
  rw [Nat.sub_zero, Nat.sub_zero, List.drop_zero] at this
  exact this
theorem no_xml {b : Tx} (h : b.length ≤ 4 ∨ b.take 5 ≠ [60, 63, 120, 109, 108]) : Lib.hasPrefix b xmlT = false := by
  cases hp : Lib.hasPrefix b xmlT with
  | false => rfl
  | true =>
    exfalso
    obtain ⟨x, rfl⟩ := hp_cut hp
    rcases h with h | h
    · simp [xmlT] at h
    · exact h rfl

section
variable (w : World) (A1 A2 : Option Addr) (na ca nb cb : Nat) (a b : Tx)
set_option maxHeartbeats 16000000 in
set_option maxRecDepth 100000 in
theorem joins_law (hA : Bs w A1 na ca a) (hB : Bs w A2 nb cb b) (hU : Un w) (hE : En w.heap.size w) :
    Calls Tryz.prog 5 #[.slice A1 na ca, .slice A2 nb cb] w fun e w' => e = .returned (.bool true) ∧ Below w.heap.size w w' := by
  have hla : a.length = na := hA.len
  have hlb : b.length = nb := hB.len
  have hU' := Lib.hid hU
  have hE' := Lib.hid hE
  have hA' := Lib.hid hA
  have hB' := Lib.hid hB
  have hla' := Lib.hid hla
  have hlb' := Lib.hid hlb
  have hlea := Rd.le hA
  have hleb := Rd.le hB
  go_enter Tryz.func5, Tryz.ntmps5
  go_wp2_with fail
  refine (awake_any w hU hE).mono ?_
  rintro e w1 ⟨rfl, hb1⟩
  have hb1' := Lib.hid hb1
  clear hb1 hU hE hA hB hla hlb
  by_cases hlen : 4096 < na
  · have i0 : decide ((4096 : Int) < (na : Int)) = true := by simp; omega
    go_wp2_with fail
    (try simp only [Exit.inBlock, Exit.then])
    go_ret
    exact ⟨rfl, hb1'.out⟩
  have i0 : decide ((4096 : Int) < (na : Int)) = false := by simp; omega
  have hlen1 : na ≤ 4096 := by omega
  by_cases hlen2 : 4096 < nb
  · have i1 : decide ((4096 : Int) < (nb : Int)) = true := by simp; omega
    go_wp2_with fail
    (try simp only [Exit.inBlock, Exit.then])
    go_ret
    exact ⟨rfl, hb1'.out⟩
  have i1 : decide ((4096 : Int) < (nb : Int)) = false := by simp; omega
  have hlen3 : nb ≤ 4096 := by omega
  clear hlen hlen2
  go_wp2_with fail
  clear i0 i1
  refine (All_any w1 (hU'.out.below hb1'.out) _ na ca a (hA'.out.below hb1'.out) (by omega)).mono ?_
  intro e w2 h2
  obtain ⟨cd, p, xs, hall⟩ : ∃ cd p ts, allF a = (cd, p, ts) := ⟨_, _, _, rfl⟩
  by_cases hcd : cd = 0
  · subst hcd
    obtain ⟨hb2, Ax, cx, rfl, ho2⟩ := h2.ok hall
    have hx2 := Lib.hid (hb1'.out.trans (hb2.mono hb1'.out.size))
    have ho2' := Lib.hid ho2
    have hall' := Lib.hid hall
    clear h2 hb2 ho2 hall
    go_wp2_with fail
    refine (All_any w2 (hU'.out.below hx2.out) _ nb cb b (hB'.out.below hx2.out) (by omega)).mono ?_
    intro e w3 h3
    obtain ⟨cd, q, ys, hall2⟩ : ∃ cd p ts, allF b = (cd, p, ts) := ⟨_, _, _, rfl⟩
    by_cases hcd : cd = 0
    · subst hcd
      obtain ⟨hb3, Ay, cy, rfl, ho3⟩ := h3.ok hall2
      have hx3 := Lib.hid (hx2.out.trans (hb3.mono hx2.out.size))
      have hox3 := Lib.hid (ho2'.out.below hb3)
      have hoy3 := Lib.hid ho3
      have hall2' := Lib.hid hall2
      have hxlt : Hid (∀ k, (Value.slice Ax xs.length cx).ownBlock = some k → k < w2.heap.size) := Lib.hid fun k hk => (OwS.lt ho2'.out k hk).2
      have hs2 : Hid (w.heap.size ≤ w2.heap.size ∧ w2.heap.size ≤ w3.heap.size) := Lib.hid ⟨hx2.out.size, hb3.size⟩
      have hmx := (OwS.sq' hox3.out (by decide)).max
      have hlx := (OwS.sq' hox3.out (by decide)).le
      have hmy := (OwS.sq' ho3 (by decide)).max
      have hly := (OwS.sq' ho3 (by decide)).le
      clear h3 hb3 ho3 hall2 hx2
      go_wp2_with fail
      refine (Code_ok w3).mono ?_
      rintro e w4 ⟨rfl, hb4⟩
      have hb34 := Lib.hid hb4
      clear hb4
      go_wp2_with fail
      refine (Code_ok w4).mono ?_
      rintro e w5 ⟨rfl, hb5⟩
      have hb35 := Lib.hid (hb34.out.trans (hb5.mono hb34.out.size))
      have hx5 := Lib.hid (hx3.out.trans (hb35.out.mono hx3.out.size))
      have hox5 := Lib.hid (hox3.out.below hb35.out)
      have hoy5 := Lib.hid (hoy3.out.below hb35.out)
      clear hb5 hb34 hox3
      by_cases hxs : xs = []
      · have j0 : ((xs.length : Int) == 0) = true := by rw [hxs]; rfl
        clear hxs
        go_wp2_with fail
        (try simp only [Exit.inBlock, Exit.then])
        go_ret
        exact ⟨rfl, hx5.out⟩
      · have hxp := List.length_pos_iff.2 hxs
        obtain ⟨m, hm⟩ : ∃ m, xs.length = m + 1 := ⟨xs.length - 1, by omega⟩
        have hne : Hid (xs ≠ []) := Lib.hid hxs
        have hxm : xs[m]? = some (xs[m]'(by omega)) := List.getElem?_eq_getElem (by omega)
        generalize xs[m]'(by omega) = t at hxm
        have hlast : Hid (xs.getLast? = some t) := Lib.hid (by rw [List.getLast?_eq_getElem?, hm, Nat.add_sub_cancel]; exact hxm)
        have j0 : ((xs.length : Int) == 0) = false := by rw [beq_eq_false_iff_ne]; omega
        obtain ⟨bx, offx, At, ct, rfl, _, k0, _, _, _, _, _⟩ := tk_at hox5.out hxm
        have g2 : IntKind.i64.wrap ((xs.length : Int) - 1) = (m : Int) := by rw [IntWalk.i64_in _ (by omega)]; omega
        have g3 : ((xs.length : Int) - 1) = (m : Int) := by omega
        have g4 : (m : Int) < (xs.length : Int) := by omega
        have hm' := Lib.hid hm
        clear hxs hm hxm
        by_cases hk4 : t.kind = 4
        · have e1 : ((t.kind : Int) == 4) = true := by rw [beq_iff_eq]; omega
          clear hk4
          go_wp2_with fail
          (try simp only [Exit.inBlock, Exit.then])
          go_ret
          exact ⟨rfl, hx5.out⟩
        have e1 : ((t.kind : Int) == 4) = false := by rw [beq_eq_false_iff_ne]; omega
        have hk4' := Lib.hid hk4
        clear hk4
        by_cases hb4 : nb ≤ 4
        · have i2 : decide ((4 : Int) < (nb : Int)) = false := by simp; omega
          have hnx : Hid (Lib.hasPrefix b xmlT = false) := Lib.hid (no_xml (.inl (by have := hlb'.out; omega)))
          go_wp2_with (at_builtin; apply stop_here)
          have hW : w5.heap.size ≤ (w5.alloc (.cells #[] 5)).heap.size := by simp
          refine Stop.go (append_bytes _ 22 5 Tryz.underlying22 info_u8 rfl _ _ rfl w5.heap.size _ [] rfl (owb_lit _ _ (Nat.le_refl _) _ _ _ _ rfl (by decide) rfl) _ _ _ a rfl ((hA'.out.below hx5.out).below (below_alloc _ _)) na (by simp) (by omega) hW ?_)
          intro A6 c6 w6 ho6 hg6 hb6
          have hb56 := Lib.hid ((below_alloc w5 (.cells #[] 5)).trans hb6)
          have hs6 : w5.heap.size ≤ w6.heap.size := hb56.out.size
          have ho6' := Lib.hid ho6
          have hx6 := Lib.hid (hx5.out.trans (hb56.out.mono hx5.out.size))
          clear ho6 hg6 hb6 hW
          go_wp2_with (at_builtin; apply stop_here)
          refine Stop.go (append_bytes _ 22 5 Tryz.underlying22 info_u8 rfl _ _ rfl w5.heap.size _ a rfl (by exact ho6'.out) _ _ _ b rfl (hB'.out.below hx6.out) (na + nb) (by rw [hla'.out]) (by omega) hs6 ?_)
          intro A7 c7 w7 ho7 hg7 hb7
          have hb57 := Lib.hid (hb56.out.trans hb7)
          have hx7 := Lib.hid (hx5.out.trans (hb57.out.mono hx5.out.size))
          have hab := Lib.hid ho7.bs
          clear ho6' ho7 hg7 hb7 hs6 hb56 hx6
          go_wp2_with fail
          refine (All_any w7 (hU'.out.below hx7.out) _ (na + nb) c7 (a ++ b) hab.out (by omega)).mono ?_
          intro e w8 h8
          obtain ⟨p', hall3⟩ := joins (by rw [hla'.out]; omega) (by rw [hlb'.out]; omega) hall'.out hall2'.out hne.out (fun u hu => by rw [hlast.out] at hu; injection hu with hu; subst hu; exact hk4'.out) hnx.out (all_some (by rw [hlb'.out]; omega) hall2'.out hnx.out)
          obtain ⟨hb8, Az, cz, he, ho8⟩ := h8.ok hall3
          have hzl : (xs ++ moved a.length ys).length = xs.length + ys.length := by unfold moved; simp
          rw [hzl] at he ho8
          subst he
          have hb58 := Lib.hid (hb57.out.trans (hb8.mono hb57.out.size))
          have hx8 := Lib.hid (hx5.out.trans (hb58.out.mono hx5.out.size))
          have hox8 := Lib.hid (hox5.out.below hb58.out)
          have hoy8 := Lib.hid (hoy5.out.below hb58.out)
          have hoz8 := Lib.hid ho8
          have hmz := (OwS.sq' ho8 (by decide)).max
          have hlz := (OwS.sq' ho8 (by decide)).le
          have hylt : Hid (∀ k, (Value.slice Ay ys.length cy).ownBlock = some k → w2.heap.size ≤ k ∧ k < w3.heap.size) := Lib.hid fun k hk => OwS.lt hoy3.out k hk
          have h37 : Hid (w3.heap.size ≤ w7.heap.size) := Lib.hid (Nat.le_trans hb35.out.size hb57.out.size)
          clear h8 hb8 ho8 hall3 hzl hab
          go_wp2_with fail
          refine (Code_ok w8).mono ?_
          rintro e w9 ⟨rfl, hb9⟩
          have hx9 := Lib.hid (hx8.out.trans (hb9.mono hx8.out.size))
          have hox9 := Lib.hid (hox8.out.below hb9)
          have hoy9 := Lib.hid (hoy8.out.below hb9)
          have hoz9 := Lib.hid (hoz8.out.below hb9)
          have u1 : IntKind.i64.wrap ((xs.length : Int) + (ys.length : Int)) = (xs.length : Int) + (ys.length : Int) := IntWalk.i64_in _ (by omega)
          have u2 : wrap64 ((xs.length : Int) + (ys.length : Int)) = (xs.length : Int) + (ys.length : Int) := by unfold wrap64; omega
          clear hb9
          go_wp2_with fail
          clear u1 u2
          go_loopw [11] (fun v11 wr => ∃ i : Nat, i ≤ ys.length ∧ v11 = .int .i64 (i : Nat) ∧ Hid (OwTk wr w1.heap.size (.slice (some ⟨bx, offx, none⟩) xs.length cx) xs) ∧ Hid (OwTk wr w2.heap.size (.slice Ay ys.length cy) (mv na i ys)) ∧ Hid (OwTk wr w7.heap.size (.slice Az (xs.length + ys.length) cz) (xs ++ moved a.length ys)) ∧ Hid (Below w.heap.size w wr)) (fun v11 _ => ys.length - (intOf v11).toNat)
          case atStart => exact ⟨0, by omega, rfl, hox9, by simpa [mv, moved] using hoy9, hoz9, hx9⟩
          case round =>
            clear hx9 hox9 hoy9 hoz9
            obtain ⟨i, hi, rfl, hox, hoy, hoz, hb⟩ := hrel
            by_cases hlt : i < ys.length
            · have i3 : decide ((i : Int) < (ys.length : Int)) = true := by simp; omega
              have q1 : (i : Int) < (ys.length : Int) := by omega
              have hyi : ys[i]? = some ys[i] := List.getElem?_eq_getElem hlt
              generalize ys[i] = u at hyi
              have hmi : (mv na i ys)[i]? = some u := by rw [mv_at hi]; exact hyi
              have hub : u.at_ < nb := by have := ((places hall2'.out).1 u (List.mem_of_getElem? hyi)).lt; have := hlb'.out; omega
              obtain ⟨g, off, Au, cu, rfl, _, _, k1, _, _, _, _⟩ := tk_at hoy.out hmi
              obtain ⟨rfl, cur, hc⟩ : off = 0 ∧ ∃ cur, wr.heap[g]? = some (.cells cur 39) := by
                obtain ⟨xs0, ⟨_, hr⟩, _⟩ := hoy.out
                rcases hr with ⟨he, _⟩ | ⟨g', cap, cur, he, _, hc, _⟩
                · injection he with he _ _; cases he
                · injection he with he _ _
                  injection he with he
                  injection he with e1 e2 _
                  subst e1
                  exact ⟨e2, cur, hc⟩
              have hf : ∀ j, wr.frozen? ⟨g, j, none⟩ = false := fun j => frozen_of_row wr g j _ _ hc
              have hgl := hylt.out g rfl
              rw [Nat.zero_add] at k1
              have f1 := hf (i * 5 + 1)
              have hoyl : Value.slice (some ⟨g, 0, none⟩) ys.length cy = Value.slice (some ⟨g, 0, none⟩) (mv na i ys).length cy := by rw [mv_len]
              have hoy2 := hoy.out
              rw [hoyl] at hoy2
              have hoyS := OwTk.setAt hoy2 hc hmi (u.at_ + na)
              rw [mv_set hyi, mv_len] at hoyS
              have hoyS' := Lib.hid hoyS
              have hoxS := Lib.hid (hox.out.far hc (fun k hk => by have h1 := hxlt.out k hk; have h2 := hgl.1; omega) (i * 5 + 1) (.int .i64 ((u.at_ + na : Nat) : Int)))
              have hozS := Lib.hid (hoz.out.on (grown_set wr ⟨g, i * 5 + 1, none⟩ (.int .i64 ((u.at_ + na : Nat) : Int))) (by have := h37.out; have h2 := hgl.2; show g < _; omega))
              have hbS := Lib.hid (hb.out.setCell (p := ⟨g, i * 5 + 1, none⟩) (by have := hs2.out.1; have h2 := hgl.1; show _ ≤ g; omega) (.int .i64 ((u.at_ + na : Nat) : Int)))
              have u5 : (u.at_ : Int) + (na : Int) = ((u.at_ + na : Nat) : Int) := by omega
              clear hoyl hoy2 hoyS hf hmi hyi hc
              have u3 : IntKind.i64.wrap ((u.at_ : Int) + (na : Int)) = ((u.at_ + na : Nat) : Int) := by rw [IntWalk.i64_in _ (by omega)]; exact u5
              have u4 : wrap64 ((u.at_ : Int) + (na : Int)) = ((u.at_ + na : Nat) : Int) := by unfold wrap64; omega
              clear u5
              go_wp2_with fail
              clear u3 u4
              go_roundw
              case rel => exact ⟨i + 1, by omega, by go_num, hoxS, hoyS', hozS, hbS⟩
              case measure => simp [intOf]; omega
            · have i3 : decide ((i : Int) < (ys.length : Int)) = false := by simp; omega
              obtain rfl : i = ys.length := by omega
              have hz := OwTk.tks hoz.out
              have hz1 : Hid (Tks wr Az xs.length cz xs) := Lib.hid (by
                have := Tks.upto hz (k := xs.length) (by omega)
                rw [List.take_left] at this
                exact this)
              have hz2 : Hid (Tks wr (offT Az cz xs.length) ys.length (cz - xs.length) (moved na ys)) := Lib.hid (by
                have := Tks.from hz (k := xs.length) (by omega)
                rw [List.drop_left, Nat.add_sub_cancel_left, hla'.out] at this
                exact this)
              have hxt := Lib.hid (OwTk.tks hox.out)
              have hyt : Hid (Tks wr Ay ys.length cy (moved na ys)) := Lib.hid (by
                have := OwTk.tks hoy.out
                rw [mv_all] at this
                exact this)
              have q2 : (xs.length : Int) ≤ (xs.length : Int) + (ys.length : Int) := by omega
              have q3 : (xs.length : Int) ≤ (cz : Int) := by omega
              have q4 : xs.length ≤ cz := by omega
              clear hz
              go_wp2_with fail
              refine (tokens_same wr Az (some ⟨bx, offx, none⟩) xs.length cz cx xs hz1.out hxt.out).mono ?_
              rintro e w10 ⟨rfl, hb10⟩
              have hx10 := Lib.hid (hb.out.trans (hb10.mono hb.out.size))
              have hz2' := Lib.hid (hz2.out.later hb10)
              have hyt' := Lib.hid (hyt.out.later hb10)
              clear hb10
              unfold offT at hz2'
              obtain ⟨A9, hA9⟩ : ∃ A9, (if cz = xs.length then Az else Option.map (fun x => x.add (xs.length * 5)) Az) = A9 := ⟨_, rfl⟩
              rw [hA9] at hz2'
              go_wp2_with fail
              refine (tokens_same w10 A9 Ay ys.length (cz - xs.length) cy (moved na ys) hz2'.out hyt'.out).mono ?_
              rintro e w11 ⟨rfl, hb11⟩
              have hx11 := Lib.hid (hx10.out.trans (hb11.mono hx10.out.size))
              clear hb11
              go_wp2_with fail
              (try simp only [Exit.inBlock, Exit.then])
              go_ret
              exact ⟨rfl, hx11.out⟩
        · have i2 : decide ((4 : Int) < (nb : Int)) = true := by simp; omega
          have q5 : (5 : Int) ≤ (nb : Int) := by omega
          have q6 : (5 : Int) ≤ (cb : Int) := by omega
          have hcv : (convert 22 9 (.slice A2 5 cb)).run Tryz.prog w5 = .ok (.string (strOf (b.take 5))) w5 := by
            have := Bs.cut (hB'.out.below hx5.out) 0 5 (by omega) (by omega) A2 (fun b off e _ => by rw [e]; simp) (fun h => h) (fun h => h)
            rw [Nat.sub_zero, Nat.sub_zero, List.drop_zero] at this
            exact Bs.conv this Tryz.underlying22 Tryz.underlying5 Tryz.underlying9
          by_cases h5 : b.take 5 = [60, 63, 120, 109, 108]
          · have e2 : ((strOf (b.take 5)).toList == [60, 63, 120, 109, 108]) = true := by rw [str_eqL, decide_eq_true h5]
            clear h5
            go_wp2_with fail
            (try simp only [Exit.inBlock, Exit.then])
            go_ret
            exact ⟨rfl, hx5.out⟩
          · have e2 : ((strOf (b.take 5)).toList == [60, 63, 120, 109, 108]) = false := by rw [str_eqL, decide_eq_false h5]
            have hnx : Hid (Lib.hasPrefix b xmlT = false) := Lib.hid (no_xml (.inr h5))
            clear h5
            go_wp2_with (at_builtin; apply stop_here)
            have hW : w5.heap.size ≤ (w5.alloc (.cells #[] 5)).heap.size := by simp
            refine Stop.go (append_bytes _ 22 5 Tryz.underlying22 info_u8 rfl _ _ rfl w5.heap.size _ [] rfl (owb_lit _ _ (Nat.le_refl _) _ _ _ _ rfl (by decide) rfl) _ _ _ a rfl ((hA'.out.below hx5.out).below (below_alloc _ _)) na (by simp) (by omega) hW ?_)
            intro A6 c6 w6 ho6 hg6 hb6
            have hb56 := Lib.hid ((below_alloc w5 (.cells #[] 5)).trans hb6)
            have hs6 : w5.heap.size ≤ w6.heap.size := hb56.out.size
            have ho6' := Lib.hid ho6
            have hx6 := Lib.hid (hx5.out.trans (hb56.out.mono hx5.out.size))
            clear ho6 hg6 hb6 hW
            go_wp2_with (at_builtin; apply stop_here)
            refine Stop.go (append_bytes _ 22 5 Tryz.underlying22 info_u8 rfl _ _ rfl w5.heap.size _ a rfl (by exact ho6'.out) _ _ _ b rfl (hB'.out.below hx6.out) (na + nb) (by rw [hla'.out]) (by omega) hs6 ?_)
            intro A7 c7 w7 ho7 hg7 hb7
            have hb57 := Lib.hid (hb56.out.trans hb7)
            have hx7 := Lib.hid (hx5.out.trans (hb57.out.mono hx5.out.size))
            have hab := Lib.hid ho7.bs
            clear ho6' ho7 hg7 hb7 hs6 hb56 hx6
            go_wp2_with fail
            refine (All_any w7 (hU'.out.below hx7.out) _ (na + nb) c7 (a ++ b) hab.out (by omega)).mono ?_
            intro e w8 h8
            obtain ⟨p', hall3⟩ := joins (by rw [hla'.out]; omega) (by rw [hlb'.out]; omega) hall'.out hall2'.out hne.out (fun u hu => by rw [hlast.out] at hu; injection hu with hu; subst hu; exact hk4'.out) hnx.out (all_some (by rw [hlb'.out]; omega) hall2'.out hnx.out)
            obtain ⟨hb8, Az, cz, he, ho8⟩ := h8.ok hall3
            have hzl : (xs ++ moved a.length ys).length = xs.length + ys.length := by unfold moved; simp
            rw [hzl] at he ho8
            subst he
            have hb58 := Lib.hid (hb57.out.trans (hb8.mono hb57.out.size))
            have hx8 := Lib.hid (hx5.out.trans (hb58.out.mono hx5.out.size))
            have hox8 := Lib.hid (hox5.out.below hb58.out)
            have hoy8 := Lib.hid (hoy5.out.below hb58.out)
            have hoz8 := Lib.hid ho8
            have hmz := (OwS.sq' ho8 (by decide)).max
            have hlz := (OwS.sq' ho8 (by decide)).le
            have hylt : Hid (∀ k, (Value.slice Ay ys.length cy).ownBlock = some k → w2.heap.size ≤ k ∧ k < w3.heap.size) := Lib.hid fun k hk => OwS.lt hoy3.out k hk
            have h37 : Hid (w3.heap.size ≤ w7.heap.size) := Lib.hid (Nat.le_trans hb35.out.size hb57.out.size)
            clear h8 hb8 ho8 hall3 hzl hab
            go_wp2_with fail
            refine (Code_ok w8).mono ?_
            rintro e w9 ⟨rfl, hb9⟩
            have hx9 := Lib.hid (hx8.out.trans (hb9.mono hx8.out.size))
            have hox9 := Lib.hid (hox8.out.below hb9)
            have hoy9 := Lib.hid (hoy8.out.below hb9)
            have hoz9 := Lib.hid (hoz8.out.below hb9)
            have u1 : IntKind.i64.wrap ((xs.length : Int) + (ys.length : Int)) = (xs.length : Int) + (ys.length : Int) := IntWalk.i64_in _ (by omega)
            have u2 : wrap64 ((xs.length : Int) + (ys.length : Int)) = (xs.length : Int) + (ys.length : Int) := by unfold wrap64; omega
            clear hb9
            go_wp2_with fail
            clear u1 u2
            go_loopw [11] (fun v11 wr => ∃ i : Nat, i ≤ ys.length ∧ v11 = .int .i64 (i : Nat) ∧ Hid (OwTk wr w1.heap.size (.slice (some ⟨bx, offx, none⟩) xs.length cx) xs) ∧ Hid (OwTk wr w2.heap.size (.slice Ay ys.length cy) (mv na i ys)) ∧ Hid (OwTk wr w7.heap.size (.slice Az (xs.length + ys.length) cz) (xs ++ moved a.length ys)) ∧ Hid (Below w.heap.size w wr)) (fun v11 _ => ys.length - (intOf v11).toNat)
            case atStart => exact ⟨0, by omega, rfl, hox9, by simpa [mv, moved] using hoy9, hoz9, hx9⟩
            case round =>
              clear hx9 hox9 hoy9 hoz9
              obtain ⟨i, hi, rfl, hox, hoy, hoz, hb⟩ := hrel
              by_cases hlt : i < ys.length
              · have i3 : decide ((i : Int) < (ys.length : Int)) = true := by simp; omega
                have q1 : (i : Int) < (ys.length : Int) := by omega
                have hyi : ys[i]? = some ys[i] := List.getElem?_eq_getElem hlt
                generalize ys[i] = u at hyi
                have hmi : (mv na i ys)[i]? = some u := by rw [mv_at hi]; exact hyi
                have hub : u.at_ < nb := by have := ((places hall2'.out).1 u (List.mem_of_getElem? hyi)).lt; have := hlb'.out; omega
                obtain ⟨g, off, Au, cu, rfl, _, _, k1, _, _, _, _⟩ := tk_at hoy.out hmi
                obtain ⟨rfl, cur, hc⟩ : off = 0 ∧ ∃ cur, wr.heap[g]? = some (.cells cur 39) := by
                  obtain ⟨xs0, ⟨_, hr⟩, _⟩ := hoy.out
                  rcases hr with ⟨he, _⟩ | ⟨g', cap, cur, he, _, hc, _⟩
                  · injection he with he _ _; cases he
                  · injection he with he _ _
                    injection he with he
                    injection he with e1 e2 _
                    subst e1
                    exact ⟨e2, cur, hc⟩
                have hf : ∀ j, wr.frozen? ⟨g, j, none⟩ = false := fun j => frozen_of_row wr g j _ _ hc
                have hgl := hylt.out g rfl
                rw [Nat.zero_add] at k1
                have f1 := hf (i * 5 + 1)
                have hoyl : Value.slice (some ⟨g, 0, none⟩) ys.length cy = Value.slice (some ⟨g, 0, none⟩) (mv na i ys).length cy := by rw [mv_len]
                have hoy2 := hoy.out
                rw [hoyl] at hoy2
                have hoyS := OwTk.setAt hoy2 hc hmi (u.at_ + na)
                rw [mv_set hyi, mv_len] at hoyS
                have hoyS' := Lib.hid hoyS
                have hoxS := Lib.hid (hox.out.far hc (fun k hk => by have h1 := hxlt.out k hk; have h2 := hgl.1; omega) (i * 5 + 1) (.int .i64 ((u.at_ + na : Nat) : Int)))
                have hozS := Lib.hid (hoz.out.on (grown_set wr ⟨g, i * 5 + 1, none⟩ (.int .i64 ((u.at_ + na : Nat) : Int))) (by have := h37.out; have h2 := hgl.2; show g < _; omega))
                have hbS := Lib.hid (hb.out.setCell (p := ⟨g, i * 5 + 1, none⟩) (by have := hs2.out.1; have h2 := hgl.1; show _ ≤ g; omega) (.int .i64 ((u.at_ + na : Nat) : Int)))
                have u5 : (u.at_ : Int) + (na : Int) = ((u.at_ + na : Nat) : Int) := by omega
                clear hoyl hoy2 hoyS hf hmi hyi hc
                have u3 : IntKind.i64.wrap ((u.at_ : Int) + (na : Int)) = ((u.at_ + na : Nat) : Int) := by rw [IntWalk.i64_in _ (by omega)]; exact u5
                have u4 : wrap64 ((u.at_ : Int) + (na : Int)) = ((u.at_ + na : Nat) : Int) := by unfold wrap64; omega
                clear u5
                go_wp2_with fail
                clear u3 u4
                go_roundw
                case rel => exact ⟨i + 1, by omega, by go_num, hoxS, hoyS', hozS, hbS⟩
                case measure => simp [intOf]; omega
              · have i3 : decide ((i : Int) < (ys.length : Int)) = false := by simp; omega
                obtain rfl : i = ys.length := by omega
                have hz := OwTk.tks hoz.out
                have hz1 : Hid (Tks wr Az xs.length cz xs) := Lib.hid (by
                  have := Tks.upto hz (k := xs.length) (by omega)
                  rw [List.take_left] at this
                  exact this)
                have hz2 : Hid (Tks wr (offT Az cz xs.length) ys.length (cz - xs.length) (moved na ys)) := Lib.hid (by
                  have := Tks.from hz (k := xs.length) (by omega)
                  rw [List.drop_left, Nat.add_sub_cancel_left, hla'.out] at this
                  exact this)
                have hxt := Lib.hid (OwTk.tks hox.out)
                have hyt : Hid (Tks wr Ay ys.length cy (moved na ys)) := Lib.hid (by
                  have := OwTk.tks hoy.out
                  rw [mv_all] at this
                  exact this)
                have q2 : (xs.length : Int) ≤ (xs.length : Int) + (ys.length : Int) := by omega
                have q3 : (xs.length : Int) ≤ (cz : Int) := by omega
                have q4 : xs.length ≤ cz := by omega
                clear hz
                go_wp2_with fail
                refine (tokens_same wr Az (some ⟨bx, offx, none⟩) xs.length cz cx xs hz1.out hxt.out).mono ?_
                rintro e w10 ⟨rfl, hb10⟩
                have hx10 := Lib.hid (hb.out.trans (hb10.mono hb.out.size))
                have hz2' := Lib.hid (hz2.out.later hb10)
                have hyt' := Lib.hid (hyt.out.later hb10)
                clear hb10
                unfold offT at hz2'
                obtain ⟨A9, hA9⟩ : ∃ A9, (if cz = xs.length then Az else Option.map (fun x => x.add (xs.length * 5)) Az) = A9 := ⟨_, rfl⟩
                rw [hA9] at hz2'
                go_wp2_with fail
                refine (tokens_same w10 A9 Ay ys.length (cz - xs.length) cy (moved na ys) hz2'.out hyt'.out).mono ?_
                rintro e w11 ⟨rfl, hb11⟩
                have hx11 := Lib.hid (hx10.out.trans (hb11.mono hx10.out.size))
                clear hb11
                go_wp2_with fail
                (try simp only [Exit.inBlock, Exit.then])
                go_ret
                exact ⟨rfl, hx11.out⟩
    · obtain ⟨hb3, v, rfl, f3⟩ := h3.no hall2 hcd
      have hx3 := Lib.hid (hx2.out.trans (hb3.mono hx2.out.size))
      have f3' := Lib.hid f3
      obtain ⟨Tv, av, rfl⟩ := f3.iface
      have j0 : (cd == 0) = false := by rw [beq_eq_false_iff_ne]; exact hcd
      have j9 : (cd != 0) = true := by rw [bne_iff_ne]; exact hcd
      clear h3 hb3 f3 hcd hx2 ho2'
      go_wp2_with fail
      refine (Code_ok w3).mono ?_
      rintro e w4 ⟨rfl, hb4⟩
      have hx4 := Lib.hid (hx3.out.trans (hb4.mono hx3.out.size))
      have f4' := Lib.hid (Fe.later f3'.out hb4)
      clear hb4 f3' hx3
      go_wp2_with fail
      refine (Code_any cd q _ _ w.heap.size w4 (hE'.out.on hx4.out) f4'.out).mono ?_
      rintro e w5 ⟨rfl, hb5⟩
      have hx5 := Lib.hid (hx4.out.trans (hb5.mono hx4.out.size))
      clear hb5 f4' hx4
      go_wp2_with fail
      (try simp only [Exit.inBlock, Exit.then])
      go_ret
      exact ⟨rfl, hx5.out⟩
  · obtain ⟨hb2, v, rfl, f2⟩ := h2.no hall hcd
    have hx2 := Lib.hid (hb1'.out.trans (hb2.mono hb1'.out.size))
    have f2' := Lib.hid f2
    obtain ⟨Tv, av, rfl⟩ := f2.iface
    have j0 : (cd == 0) = false := by rw [beq_eq_false_iff_ne]; exact hcd
    have j9 : (cd != 0) = true := by rw [bne_iff_ne]; exact hcd
    clear h2 hb2 f2 hall hcd hb1'
    go_wp2_with fail
    refine (All_any w2 (hU'.out.below hx2.out) _ nb cb b (hB'.out.below hx2.out) (by omega)).mono ?_
    rintro e w3 ⟨hb3, va, ev, rfl, _⟩
    have hx3 := Lib.hid (hx2.out.trans (hb3.mono hx2.out.size))
    have f3' := Lib.hid (Fe.later f2'.out hb3)
    clear hb3 f2' hx2
    go_wp2_with fail
    refine (Code_any cd p _ _ w.heap.size w3 (hE'.out.on hx3.out) f3'.out).mono ?_
    rintro e w4 ⟨rfl, hb4⟩
    have hx4 := Lib.hid (hx3.out.trans (hb4.mono hx3.out.size))
    clear hb4 f3' hx3
    go_wp2_with fail
    (try simp only [Exit.inBlock, Exit.then])
    go_ret
    exact ⟨rfl, hx4.out⟩
end
end Go.Proofs.YtcecmbbhjaeodaaGreatDoor.Xl
