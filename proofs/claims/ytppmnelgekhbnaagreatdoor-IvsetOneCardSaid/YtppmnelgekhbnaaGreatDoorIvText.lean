/- ivset.Text. -/
import Derived.Test.YtppmnelgekhbnaaGreatDoorIvTextLaw
import Derived.Test.YtppmnelgekhbnaaGreatDoorIvPut
import Derived.Test.YtppmnelgekhbnaaGreatDoorIvSortLaw
import Derived.Test.YtppmnelgekhbnaaGreatDoorErrItoaL
import Derived.Test.YtppmnelgekhbnaaGreatDoorStrLaws
import Derived.Test.YtppmnelgekhbnaaGreatDoorStrs
import Derived.Shelf.Strings.OnBuilder
namespace Go.Proofs
open Go.Shelf Go.RowKit

shelf_lay Lays.n156 Nm 156 at Tryz as Tryz.lays156

theorem Tryz.extra156 : Builder.Extra Tryz.prog Tryz.lays156_ren where
  sizeBuilder := by kernel_rfl
  liesBuilder := by kernel_rfl
  t5 := Tryz.underlying5
  a5 := Tryz.isAgg5
  z5 := Tryz.sizeOf5
  v5 := Tryz.zeroValue5
  infoByte := by kernel_rfl
  cellsByte := by kernel_rfl
  sizeByte := by kernel_rfl
  neB5 := by decide

end Go.Proofs
namespace Go.Proofs.YtppmnelgekhbnaaGreatDoor
open Go.RowKit

/-- A row of strings of the call's own. -/
def OwS (w : World) (B E : Nat) (v : Value) (ss : List ByteArray) : Prop := w.ownsRow B E 1 v ss.length (ss.map Value.string)

theorem OwS.nil (w : World) (B E : Nat) : OwS w B E (.slice none 0 0) [] := World.ownsRow_nil w B E 1

theorem OwS.ss {w : World} {B E : Nat} {A : Option Addr} {n c : Nat} {ss : List ByteArray} (h : OwS w B E (.slice A n c) ss) : Ss w A n c ss := by
  obtain ⟨A', c', e⟩ := ownsRow_form h
  injection e with e1 e2 e3
  subst e2
  exact rd_of_own h

theorem OwS.below {w w' : World} {B E : Nat} {v : Value} {ss : List ByteArray} (h1 : OwS w B E v ss) (hb : Below w.heap.size w w') : OwS w' B E v ss :=
  World.ownsRow.kept (row := none) h1 ⟨hb.os, hb.tape, hb.output, hb.size, fun k hk _ => hb.block k hk⟩ (by
    rcases h1.2 with ⟨rfl, _⟩ | ⟨g, cap, cur, rfl, _⟩
    · exact .inl rfl
    · right; simp [Value.ownBlock])

section
variable {P : Program} {ops : Array Oper} {rest : List Oper} {o : Oper} {a : Act} {Q : Exit → Act → World → Prop}
/-- 'append(x, y...)' at strings, x a row of the call's own. -/
theorem append_strs (w : World) (t e : TypeId) (ht : P.underlying t = some (.slice e))
    (hinfo : (P.info? e).map (fun i => (i.zero, i.size, i.bytes)) = some (some (.string ByteArray.empty), 1, 16))
    (hgd : o.guard = none) (s x : Operand)
    (ho : o.op = .call { callee := .builtin .append, args := #[s, x], argTypes := #[t, t] })
    (B : Nat) (v : Value) (la : List ByteArray) (hs : a.eval s = v) (hown : OwS w B e v la)
    (A : Option Addr) (m c : Nat) (lb : List ByteArray) (hx : a.eval x = .slice A m c) (hr : Ss w A m c lb)
    (N : Nat) (hN : la.length + m = N) (hsz : N ≤ 1000000) (hB : B ≤ w.heap.size)
    (h : ∀ A' c' w', OwS w' B e (.slice A' N c') (la ++ lb) → w.grownBy w' v.ownBlock → Below B w w' → wpList P ops Q rest (a.put o.dst (.slice A' N c')) w') :
    wpList P ops Q (o :: rest) a w := by
  refine wpList_append_rd w hgd s x t ho B e (.string ByteArray.empty) 16 ht hinfo rfl v la.length (la.map Value.string) hs hown A m c (lb.map Value.string) hx hr (fun u hu => ?_) (by omega) (by omega) hB ?_
  · obtain ⟨s, _, rfl⟩ := List.mem_map.1 hu
    rfl
  intro A' c' w' h1 h2 h3 _
  have hl := hr.len
  rw [hN] at h1 ⊢
  refine h A' c' w' ?_ h2 h3
  unfold OwS
  rw [List.map_append, List.length_append, show la.length + lb.length = N from by omega]
  exact h1
end

/-- A literal of one string. -/
theorem ss_lit (w : World) (s : ByteArray) (E : TypeId) (g : Nat) (hg : w.heap.size = g) : Ss (w.alloc (.cells #[.string s] E)) (some ⟨g, 0, none⟩) 1 1 [s] := by
  subst hg
  refine ⟨rfl, by omega, by omega, fun h => by simp at h, fun _ => ⟨_, _, rfl, by simp, fun j u hu => ?_⟩⟩
  have hh : (w.alloc (.cells #[.string s] E)).heap[w.heap.size]? = some (.cells #[.string s] E) := heap_alloc_new w _
  simp only [World.cell?, hh, Nat.zero_add]
  simpa using hu

/-- strings.Join. -/
theorem join_any (A : Option Addr) (n c : Nat) (ss : List ByteArray) (sep : ByteArray) (w : World) (hS : Ss w A n c ss) (hN : n ≤ 1000000)
    (hlen : (Lib.join (ss.map (·.data.toList)) sep.data.toList).length ≤ 1000000) :
    Calls Tryz.prog 32 #[.slice A n c, .string sep] w fun e w' => e = .returned (.string (strOf (Lib.join (ss.map (·.data.toList)) sep.data.toList))) ∧ Below w.heap.size w w' := by
  have hl := hS.len
  have hle := Rd.le hS
  by_cases h0 : n = 0
  · subst h0
    have : ss = [] := List.eq_nil_of_length_eq_zero hl
    subst this
    refine (Any.strings_Join_none Tryz.lays156 Tryz.extra156 A c sep w).mono ?_
    rintro e w' ⟨rfl, rfl⟩
    exact ⟨rfl, Below.refl _ _⟩
  · obtain ⟨b, off, rfl, hb, hc⟩ := Rd.cell hS (by omega)
    subst hl
    exact Any.strings_Join Tryz.lays156 Tryz.extra156 b off c ss sep w (fun j x hx => hc j _ (by rw [List.getElem?_map, hx]; rfl)) hb (by omega) (by omega) (by omega)
end Go.Proofs.YtppmnelgekhbnaaGreatDoor
namespace Go.Proofs.YtppmnelgekhbnaaGreatDoor.IvW
open Go.RowKit Iv

/-- What the library's table of tens holds. -/
def Tens (w : World) : Prop := Lib.TabBelow Tryz.prog w.heap.size w "internal/strconv.uint64pow10" .u64 Lib.pow10Tab
theorem Tens.below {w w' : World} (h : Tens w) (hb : Below w.heap.size w w') : Tens w' := fun w'' h' => h w'' (hb.trans (h'.mono hb.size))
theorem Tens.of_tab {w : World} (h : Lib.TabIs Tryz.prog w "internal/strconv.uint64pow10" .u64 Lib.pow10Tab) : Tens w := Lib.tabBelow_of_tabIs h

theorem info_str : (Tryz.prog.info? 9).map (fun i => (i.zero, i.size, i.bytes)) = some (some (.string ByteArray.empty), 1, 16) := by kernel_rfl

def text? (l : List Span) : List UInt8 := if okB 1 l then textP l else []

theorem dec_small {z : Int} (h0 : 0 ≤ z) (h : z ≤ 200) : (dec z).length ≤ 3 := by
  obtain ⟨n, rfl⟩ : ∃ n : Nat, z = n := ⟨z.toNat, by omega⟩
  rw [dec_nat]
  exact dec_len (k := 2) (by omega)

theorem it_small {p : Span} (h0 : 0 ≤ p.1) (h1 : p.1 ≤ p.2) (h : p.2 ≤ 200) : (it p).length ≤ 7 := by
  have a := dec_small h0 (show p.1 ≤ 200 by omega)
  have b := dec_small (show 0 ≤ p.2 by omega) h
  unfold it
  split
  · simp; omega
  · omega

theorem joinTail_small : ∀ {xs : List (List UInt8)}, (∀ x ∈ xs, x.length ≤ 7) → (Lib.joinTail [44] xs).length ≤ 8 * xs.length
  | [], _ => by simp [Lib.joinTail]
  | x :: r, h => by
    have h1 := h x (by simp)
    have h2 := joinTail_small (xs := r) (fun y hy => h y (by simp [hy]))
    unfold Lib.joinTail at h2 ⊢
    simp only [List.map_cons, List.flatten_cons, List.length_append, List.length_cons, List.length_nil] at h2 ⊢
    omega

theorem join_small {xs : List (List UInt8)} (h : ∀ x ∈ xs, x.length ≤ 7) : (Lib.join xs [44]).length ≤ 8 * xs.length := by
  cases xs with
  | nil => simp [Lib.join_nil]
  | cons x r =>
    rw [Lib.join_cons, List.length_append]
    have h1 := h x (by simp)
    have h2 := joinTail_small (xs := r) (fun y hy => h y (by simp [hy]))
    simp only [List.length_cons]
    omega

set_option maxHeartbeats 2000000 in
set_option maxRecDepth 100000 in
theorem text_any (A : Option Addr) (n c : Nat) (l : List Span) (w : World) (hR : Rp w A n c l) (hT : Tens w) :
    Calls Tryz.prog 20 #[.slice A n c] w fun e w' => e = .returned (.string (strOf (text? l))) ∧ Below w.heap.size w w' := by
  have hla := hR.len
  have a1 := hR.le
  have a2 := hR.max
  have c1 := may_any A n c l w hR
  unfold text?
  cases ha : okB 1 l
  · rw [ha] at c1
    simp only [Bool.false_eq_true, if_false]
    go_enter Tryz.func20, Tryz.ntmps20
    go_wp2_with (go_at_call 7; refine c1.mono ?_; rintro e w1 ⟨rfl, hb1⟩)
    go_ret
    exact ⟨rfl, hb1⟩
  · rw [ha] at c1
    simp only [if_true]
    obtain ⟨T, hT0⟩ : ∃ T, strOf (textP l) = T := ⟨_, rfl⟩
    rw [hT0]
    have hTx := Lib.hid hT0
    have hall := ok_all ((okB_iff _ _).1 ha) (by omega)
    have hnl := ok_len ((okB_iff _ _).1 ha) (by omega)
    have hn : n ≤ 300 := by omega
    have hR' := Lib.hid hR
    have hT' := Lib.hid hT
    have hall' := Lib.hid hall
    clear hT0 ha hR hT hall
    go_enter Tryz.func20, Tryz.ntmps20
    go_wp2_with (go_at_call 7; refine c1.mono ?_; rintro e w1 ⟨rfl, hb1⟩)
    clear c1
    have hb1' := Lib.hid hb1
    go_loopw [3, 12] (fun o i wr => ∃ (k : Nat) (A' : Option Addr) (c' : Nat), k ≤ n ∧ i = .int .i64 k ∧ o = .slice A' k c' ∧ OwS wr w.heap.size 9 (.slice A' k c') ((l.take k).map fun p => strOf (it p)) ∧ Below w.heap.size w wr) (fun _ i _ => n - (intOf i).toNat)
    case atStart => exact ⟨0, none, 0, by omega, rfl, rfl, OwS.nil _ _ _, hb1'.out⟩
    case round =>
      clear hb1 hb1'
      obtain ⟨k, A', c', hk, rfl, rfl, hO, hbw⟩ := hrel
      by_cases hlt : k < n
      · obtain ⟨b', off, ⟨f, t⟩, rfl, hb, hp, hc1, hc2⟩ := (hR'.out.below hbw).at_ hlt
        obtain ⟨o1, o2, o3⟩ := hall'.out _ (List.mem_of_getElem? hp)
        have hmap : (l.take (k + 1)).map (fun p => strOf (it p)) = (l.take k).map (fun p => strOf (it p)) ++ [strOf (it (f, t))] := by rw [take_snoc hp]; simp
        have hlk : ((l.take k).map fun p => strOf (it p)).length = k := by simp; omega
        simp only at hc1 hc2 o1 o2 o3
        obtain ⟨acc, hacc⟩ : ∃ acc, (l.take k).map (fun p => strOf (it p)) = acc := ⟨_, rfl⟩
        rw [hacc] at hO hmap hlk
        have hB0 : w.heap.size ≤ wr.heap.size := hbw.size
        have hba := below_alloc wr (.cells #[.int .i64 f, .int .i64 t] 41)
        obtain ⟨x0, x1⟩ := box2 wr f t 41
        have hsz : wr.heap.size < (wr.alloc (.cells #[.int .i64 f, .int .i64 t] 41)).heap.size := by simp
        obtain ⟨wa, hwa⟩ : ∃ wa, wr.alloc (.cells #[.int .i64 f, .int .i64 t] 41) = wa := ⟨_, rfl⟩
        rw [hwa] at hba x0 x1 hsz
        have hxa := Lib.hid (hbw.trans (hba.mono hB0))
        have hOa := Lib.hid (hO.below hba)
        have ci := Er.strconv_Itoa f (by omega) (by omega) wa (hT'.out.below hxa.out).here
        obtain ⟨F, hF⟩ : ∃ F, Er.itx f = F := ⟨_, rfl⟩
        rw [hF] at ci
        have hF' := Lib.hid hF
        have hmap' := Lib.hid hmap
        have hFs : F.size ≤ 3 := by rw [← hF]; unfold Er.itx; rw [strOf_size']; exact dec_small o1 (by omega)
        clear hO hacc hba hbw hF hmap
        go_wp2_with fail
        refine ci.mono ?_
        rintro e wb ⟨rfl, hbb⟩
        have y0 := (hbb.cell (p := ⟨wr.heap.size, 0, none⟩) hsz).trans x0
        have y1 := (hbb.cell (p := ⟨wr.heap.size, 1, none⟩) hsz).trans x1
        have hxb := Lib.hid (hxa.out.trans (hbb.mono hxa.out.size))
        have hOb := Lib.hid (hOa.out.below hbb)
        clear ci x0 x1 hbb hOa hwa
        by_cases hft : f < t
        · have d1 : decide (f < t) = true := by simpa using hft
          have ct := Er.strconv_Itoa t (by omega) (by omega) wb (hT'.out.below hxb.out).here
          obtain ⟨G, hG⟩ : ∃ G, Er.itx t = G := ⟨_, rfl⟩
          rw [hG] at ct
          have hGs : G.size ≤ 3 := by rw [← hG]; unfold Er.itx; rw [strOf_size']; exact dec_small (show 0 ≤ t by omega) o3
          obtain ⟨H, hH⟩ : ∃ H, (⟨#[45]⟩ : ByteArray) ++ G = H := ⟨_, rfl⟩
          have e1 := fun w => run_string_add_sum (P := Tryz.prog) w ⟨#[45]⟩ G (by rw [show (ByteArray.mk #[45]).size = 1 from rfl]; omega)
          rw [hH] at e1
          have hHs : H.size ≤ 4 := by rw [← hH, ByteArray.size_append, show (ByteArray.mk #[45]).size = 1 from rfl]; omega
          obtain ⟨S, hS⟩ : ∃ S, F ++ H = S := ⟨_, rfl⟩
          have e2 := fun w => run_string_add_sum (P := Tryz.prog) w F H (by omega)
          rw [hS] at e2
          have hfin : strOf (it (f, t)) = S := by
            rw [← hS, ← hH, ← hG, ← hF'.out]
            unfold Er.itx it
            rw [if_pos hft, show (ByteArray.mk #[45]) = strOf [45] from rfl, strOf_add, strOf_add]
            rfl
          have hfin' := Lib.hid hfin
          clear hG hH hS hfin
          go_wp2_with fail
          refine ct.mono ?_
          rintro e wd ⟨rfl, hbd⟩
          have hxd := Lib.hid (hxb.out.trans (hbd.mono hxb.out.size))
          have hOd := Lib.hid (hOb.out.below hbd)
          clear ct hbd hOb y0 y1
          go_wp2_with (at_builtin; apply stop_here)
          refine Stop.go (append_strs _ 50 9 Tryz.underlying50 info_str rfl _ _ rfl w.heap.size _ acc rfl (hOd.out.below (below_alloc _ _)) _ _ _ [S] rfl (ss_lit wd S _ _ rfl) (k + 1) (by rw [hlk]) (by omega) (by have := hxd.out.size; simp; omega) ?_)
          intro A2 c2 w3 ho3 _ hb3
          have hx3 := Lib.hid (hxd.out.trans (((below_alloc wd _).mono hxd.out.size).trans hb3))
          have ho3' := Lib.hid ho3
          clear ho3 hb3 hOd
          go_wp2_with fail
          go_roundw
          case rel => exact ⟨k + 1, A2, c2, by omega, by go_num, rfl, by rw [hmap'.out, hfin'.out]; exact ho3'.out, hx3.out⟩
          case measure => simp [intOf]; omega
        · have d1 : decide (f < t) = false := by simpa using hft
          have hfin : strOf (it (f, t)) = F := by
            rw [← hF'.out]
            unfold Er.itx it
            rw [if_neg hft]
            rfl
          have hfin' := Lib.hid hfin
          clear hfin
          go_wp2_with (at_builtin; apply stop_here)
          refine Stop.go (append_strs _ 50 9 Tryz.underlying50 info_str rfl _ _ rfl w.heap.size _ acc rfl (hOb.out.below (below_alloc _ _)) _ _ _ [F] rfl (ss_lit wb F _ _ rfl) (k + 1) (by rw [hlk]) (by omega) (by have := hxb.out.size; simp; omega) ?_)
          intro A2 c2 w3 ho3 _ hb3
          have hx3 := Lib.hid (hxb.out.trans (((below_alloc wb _).mono hxb.out.size).trans hb3))
          have ho3' := Lib.hid ho3
          clear ho3 hb3 hOb
          go_wp2_with fail
          go_roundw
          case rel => exact ⟨k + 1, A2, c2, by omega, by go_num, rfl, by rw [hmap'.out, hfin'.out]; exact ho3'.out, hx3.out⟩
          case measure => simp [intOf]; omega
      · obtain rfl : k = n := by omega
        rw [List.take_of_length_le (by omega)] at hO
        have hj : (l.map fun p => strOf (it p)).map (·.data.toList) = l.map it := by rw [List.map_map]; rfl
        have hsm := join_small (xs := l.map it) (fun x hx => by
          obtain ⟨p, hp, rfl⟩ := List.mem_map.1 hx
          obtain ⟨o1, o2, o3⟩ := hall'.out p hp
          exact it_small o1 o2 o3)
        rw [List.length_map] at hsm
        have cj := join_any A' k c' (l.map fun p => strOf (it p)) ⟨#[44]⟩ wr hO.ss (by omega) (by rw [hj]; show (Lib.join (l.map it) [44]).length ≤ _; omega)
        rw [hj] at cj
        have e9 : strOf (Lib.join (l.map it) (ByteArray.mk #[44]).data.toList) = T := hTx.out
        rw [e9] at cj
        have hbw' := Lib.hid hbw
        clear hO hbw hj hsm e9
        go_wp2_with fail
        refine cj.mono ?_
        rintro e w9 ⟨rfl, hb9⟩
        have hx9 := Lib.hid (hbw'.out.trans (hb9.mono hbw'.out.size))
        clear hb9 cj
        go_wp2_with fail
        go_ret
        exact ⟨rfl, hx9.out⟩
end Go.Proofs.YtppmnelgekhbnaaGreatDoor.IvW
