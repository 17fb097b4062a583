/- A manifest in a result's cell: written anew, and handed back. -/
import Derived.Test.YtfdpnjebhllpkaaGreatDoorMManMay2
import Derived.Test.YtfdpnjebhllpkaaGreatDoorMCrcWalk
import Derived.Test.YtfdpnjebhllpkaaGreatDoorMFrameNext2
import Derived.Laws.ResultCell
import Derived.Laws.Rows
import Derived.Deep.Heap
section
namespace Go.Proofs.YtfdpnjebhllpkaaGreatDoor.Ma
open Go.RowKit Go.Shelf

/-- The bytes of numbers, four a number. -/
def les (zs : List Int) : List UInt8 := zs.flatMap fun z => Fr.le z.toNat

theorem les_append (a b : List Int) : les (a ++ b) = les a ++ les b := by simp [les]
theorem les_one (z : Int) : les [z] = Fr.le z.toNat := by simp [les]
theorem les_len (zs : List Int) : (les zs).length = 4 * zs.length := by
  induction zs with
  | nil => rfl
  | cons z r ih =>
    show (Fr.le z.toNat ++ les r).length = _
    rw [List.length_append, ih, List.length_cons, Fr.le_length]
    omega

def mag : List UInt8 := [82, 67, 77, 49]

/-- A manifest's record. -/
def recM (g la : Int) (ss : List Int) : List UInt8 := mag ++ les (g :: la :: (ss.length : Int) :: ss)

/-- A manifest's bytes; none of one that may not be. -/
def encM (g la : Int) (ss : List Int) : List UInt8 := if mayM g la ss = true then Fr.put (recM g la ss) else []

theorem may_facts {g la : Int} {ss : List Int} (h : mayM g la ss = true) : okN g = true ∧ 0 ≤ la ∧ la ≤ 200 ∧ 1 ≤ ss.length ∧ ss.length ≤ 64 ∧ segsTo ss ss.length = true := by
  unfold mayM at h
  rw [Bool.and_eq_true, Bool.and_eq_true, decide_eq_true_eq] at h
  exact ⟨h.1, h.2.1.1, h.2.1.2.1, h.2.1.2.2.1, h.2.1.2.2.2, h.2.2⟩

theorem segs_ok {ss : List Int} : ∀ {n : Nat}, segsTo ss n = true → ∀ k, k < n → okN (ss[k]?.getD 0) = true := by
  intro n
  induction n with
  | zero => intro _ k hk; omega
  | succ n ih =>
    intro h k hk
    rw [segsTo, Bool.and_eq_true] at h
    by_cases e : k = n
    · subst e
      unfold seg1 at h
      rw [Bool.and_eq_true] at h
      exact h.2.1
    · exact ih h.1 k (by omega)

theorem nums_lt {g la : Int} {ss : List Int} (h : mayM g la ss = true) : ∀ z ∈ g :: la :: (ss.length : Int) :: ss, 0 ≤ z ∧ z < 4294967296 := by
  obtain ⟨h1, h2, h3, h4, h5, h6⟩ := may_facts h
  intro z hz
  rcases List.mem_cons.1 hz with rfl | hz
  · unfold okN at h1; rw [decide_eq_true_eq] at h1; omega
  rcases List.mem_cons.1 hz with rfl | hz
  · omega
  rcases List.mem_cons.1 hz with rfl | hz
  · omega
  obtain ⟨k, hk⟩ := List.mem_iff_getElem?.1 hz
  have := segs_ok h6 k (List.getElem?_eq_some_iff.1 hk).1
  rw [hk] at this
  unfold okN at this
  rw [decide_eq_true_eq] at this
  simp only [Option.getD_some] at this
  omega

theorem i64_info : (Tryz.prog.info? 3).map (fun i => (i.zero, i.size, i.bytes)) = some (some (.int .i64 0), 1, 8) := by kernel_rfl

set_option maxHeartbeats 400000 in
theorem manlittle_any (v : Nat) (hv : v < 4294967296) (w : World) :
    Calls Tryz.prog 152 #[.int .u32 v] w fun e w' => ∃ A c, e = .returned (.slice A 4 c) ∧ OwB w' w.heap.size 5 (.slice A 4 c) (Fr.le v) ∧ Below w.heap.size w w' := by
  go_enter Tryz.func152, Tryz.ntmps152
  go_wp2
  go_ret
  exact ⟨_, _, rfl, owb_lit w _ (Nat.le_refl _) _ _ _ 4 rfl (by decide) (FrW.le_cells v hv), below_alloc _ _⟩

set_option maxHeartbeats 1000000 in
set_option maxRecDepth 100000 in
/-- man.Encode. -/
theorem manEncode_any (g la : Int) (A : Option Addr) (n c : Nat) (ss : List Int) (w : World) (hT : Nu.Tens w) (hI : Is w A n c ss) :
    Calls Tryz.prog 85 #[.agg #[.int .i64 g, .int .i64 la, .slice A n c]] w fun e w' => ∃ A' c', e = .returned (.slice A' (encM g la ss).length c') ∧ OwB w' w.heap.size 5 (.slice A' (encM g la ss).length c') (encM g la ss) ∧ Below w.heap.size w w' := by
  have kc := fun (w : World) (C : Array Value) (n c : Nat) => Lib.run_convert_bytes_const (P := Tryz.prog) w 22 5 C n c Tryz.underlying22 Tryz.underlying5
  have hn := hI.len
  have hle := Rd.le hI
  have hm := Rd.max hI
  have hm0 := mf_new w g la A n c 75
  have hb0 := below_alloc w (.cells #[.int .i64 g, .int .i64 la, .slice A n c] 75)
  have c1 := manMay_any g la A n c ss _ (hT.below hb0) (hI.below hb0)
  cases hmay : mayM g la ss
  · have he : encM g la ss = [] := by rw [encM, hmay, if_neg (by simp)]
    rw [he]
    rw [hmay] at c1
    clear he
    go_enter Tryz.func85, Tryz.ntmps85
    go_wp2_with fail
    refine c1.mono ?_
    rintro e w1 ⟨rfl, hb1⟩
    have hx1 := Lib.hid (hb0.trans (hb1.mono hb0.size))
    clear hb1 hb0 kc
    go_wp2_with fail
    go_ret
    exact ⟨none, 0, rfl, OwB.nil _ _ _, hx1.out⟩
  · have he : encM g la ss = Fr.put (recM g la ss) := by rw [encM, hmay, if_pos rfl]
    have hnum := nums_lt hmay
    obtain ⟨_, _, _, f4, f5, _⟩ := may_facts hmay
    rw [he]
    rw [hmay] at c1
    rw [hn] at f4 f5 hnum
    have hrec : recM g la ss = mag ++ les (g :: la :: (n : Int) :: ss) := by rw [recM, hn]
    obtain ⟨zs, hzs⟩ : ∃ zs, g :: la :: (n : Int) :: ss = zs := ⟨_, rfl⟩
    have hzl : zs.length = 3 + n := by rw [← hzs]; simp [hn]; omega
    rw [hzs] at hrec hnum
    have hzs' : Hid ([g, la, (n : Int)] ++ ss = zs) := Lib.hid hzs
    have hrec' := Lib.hid hrec
    have hnum' := Lib.hid hnum
    have hzl' := Lib.hid hzl
    have hn' := Lib.hid hn
    obtain ⟨P, hP⟩ : ∃ P, Fr.put (recM g la ss) = P := ⟨_, rfl⟩
    rw [hP]
    have hP' := Lib.hid hP
    clear he hn hrec hnum hzl hzs hP
    go_enter Tryz.func85, Tryz.ntmps85
    go_wp2_with fail
    refine c1.mono ?_
    rintro e w1 ⟨rfl, hb1⟩
    have hm1 := hm0.below hb1
    have hx1 := Lib.hid (hb0.trans (hb1.mono hb0.size))
    have hI1 := Lib.hid (hI.below hx1.out)
    clear hb1 hb0 c1 hm0 hI
    obtain ⟨k0, k1, k2, hsz1⟩ := hm1
    go_wp2_with (at_builtin; apply stop_here)
    have hmg := bs_lit w1 #[.int .u8 82, .int .u8 67, .int .u8 77, .int .u8 49] 5 (4, 5) mag 4 rfl (by omega) rfl
    have hba := below_alloc w1 (.cells #[.int .u8 82, .int .u8 67, .int .u8 77, .int .u8 49] 5 (4, 5))
    obtain ⟨wa, hwa⟩ : ∃ wa, w1.alloc (.cells #[.int .u8 82, .int .u8 67, .int .u8 77, .int .u8 49] 5 (4, 5)) = wa := ⟨_, rfl⟩
    have hwas : wa.heap.size = w1.heap.size + 1 := by rw [← hwa]; simp
    rw [hwa] at hmg hba
    have hza := owz_lit wa wa.heap.size (Nat.le_refl _) #[.int .i64 g, .int .i64 la, .int .i64 n] 3 [g, la, (n : Int)] 3 rfl (by omega) rfl
    have hbb := below_alloc wa (.cells #[.int .i64 g, .int .i64 la, .int .i64 n] 3)
    have hIb := (hI1.out.below hba).below hbb
    rw [hwas] at hza
    refine Stop.go (append_ints _ 37 3 Tryz.underlying37 i64_info rfl _ _ rfl (w1.heap.size + 1) (.slice (some ⟨w1.heap.size + 1, 0, none⟩) 3 3) [g, la, (n : Int)] rfl (by simp only [hwa]; exact hza) _ n c ss rfl (by simp only [hwa]; exact hIb) (3 + n) (by simp) (by omega) (by simp) ?_)
    intro A2 c2 w2 h1 _ h3
    rw [hzs'.out] at h1
    rw [hwa, ← hwas] at h3
    have hba2 : Below wa.heap.size wa w2 := hbb.trans h3
    have hz2 := Lib.hid h1.rd
    have hmg2 := Lib.hid (hmg.below hba2)
    have hx2 := Lib.hid ((hx1.out.trans (hba.mono hx1.out.size)).trans (hba2.mono (by have := hx1.out.size; omega)))
    have hc2 := h1.rd.le
    have hc2m := h1.rd.max
    clear h1 h3 hza hIb hbb hba hmg kc hba2 k0 k1 k2 hmay
    obtain ⟨p1, hp1⟩ : ∃ p1, w1.heap.size = p1 := ⟨_, rfl⟩
    rw [hp1] at hmg2
    go_wp2_with fail
    go_loopw [3, 5, 23] (fun bv _ v wr => ∃ (k : Nat) (A3 : Option Addr) (c3 m3 : Nat), k ≤ 3 + n ∧ Hid (m3 = 4 + 4 * k) ∧ v = .int .i64 (k : Nat) ∧ bv = .slice A3 m3 c3 ∧
      Hid ((k = 0 ∧ A3 = some ⟨p1, 0, none⟩ ∧ c3 = 4) ∨ OwB wr w2.heap.size 5 (.slice A3 m3 c3) (mag ++ les (zs.take k))) ∧ Hid (Below w2.heap.size w2 wr)) (fun _ _ v _ => 4 + n - (intOf v).toNat)
    case atStart => exact ⟨0, some ⟨p1, 0, none⟩, 4, 4, by omega, Lib.hid rfl, rfl, rfl, Lib.hid (.inl ⟨rfl, rfl, rfl⟩), Lib.hid (Below.refl _ _)⟩
    case round =>
      obtain ⟨k, A3, c3, m3, hk, hm3, rfl, rfl, hb3, hbw⟩ := hrel
      have hxr := Lib.hid (hx2.out.trans (hbw.out.mono hx2.out.size))
      by_cases hlt : k < 3 + n
      · have i0 : decide ((k : Int) < 3 + (n : Int)) = true := by simp; omega
        have i1 : (k : Int) < 3 + (n : Int) := by omega
        obtain ⟨b, off, u, rfl, hbl, hu, hc⟩ := (hz2.out.below hbw.out).at_ hlt
        rw [List.getElem?_map, Option.map_eq_some_iff] at hu
        obtain ⟨z, hzk, rfl⟩ := hu
        have hzr := hnum'.out z (List.mem_of_getElem? hzk)
        obtain ⟨v, rfl⟩ : ∃ v : Nat, z = v := ⟨z.toNat, by omega⟩
        have hnext : mag ++ les (zs.take (k + 1)) = (mag ++ les (zs.take k)) ++ Fr.le v := by rw [take_snoc hzk, les_append, les_one, List.append_assoc]; rfl
        have hnext' := Lib.hid hnext
        clear hzk hnext
        have hv : v < 4294967296 := by omega
        go_wp2_with fail
        refine (manlittle_any v hv wr).mono ?_
        rintro e w3 ⟨A4, c4, rfl, ho4, hb4⟩
        have hbw4 := Lib.hid (hbw.out.trans (hb4.mono hbw.out.size))
        have hle4 := Lib.hid ho4.bs
        go_wp2_with (at_builtin; apply stop_here)
        rcases hb3.out with ⟨rfl, rfl, rfl⟩ | hob
        · have hf := (hmg2.out.below hbw.out).below hb4
          refine Stop.go (append_bytes_full _ 22 5 Tryz.underlying22 info_u8 rfl _ _ rfl _ m3 4 mag rfl (by rw [hm3.out]; exact hf) A4 4 c4 (Fr.le v) rfl hle4.out (by omega) (by have := hm3.out; omega) (m3 + 4) rfl (by have := hm3.out; omega) ?_)
          intro A6 c6 w6 h1 h3
          have h1' := Lib.hid (OwB.base h1 hbw4.out.size)
          have hx6 := Lib.hid (hbw4.out.trans (h3.mono hbw4.out.size))
          clear h1 h3 hb4 hf hb3 ho4
          go_wp2_with fail
          go_roundw
          case rel => exact ⟨0 + 1, A6, c6, m3 + 4, by omega, Lib.hid (by have := hm3.out; omega), by go_num, rfl, Lib.hid (.inr (by rw [hnext'.out]; exact h1'.out)), hx6⟩
          case measure => simp [intOf]
        · have hf := Lib.hid (hob.below hb4)
          have hlen : (mag ++ les (zs.take k)).length = m3 := hob.rd_len
          refine Stop.go (append_bytes _ 22 5 Tryz.underlying22 info_u8 rfl _ _ rfl w2.heap.size _ _ rfl hf.out A4 4 c4 (Fr.le v) rfl hle4.out (m3 + 4) (by rw [hlen]) (by have := hm3.out; omega) hbw4.out.size ?_)
          intro A6 c6 w6 h1 _ h3
          have h1' := Lib.hid h1
          have hx6 := Lib.hid (hbw4.out.trans h3)
          clear h1 h3 hb4 hf hb3 ho4 hlen hob
          go_wp2_with fail
          go_roundw
          case rel => exact ⟨k + 1, A6, c6, m3 + 4, by omega, Lib.hid (by have := hm3.out; omega), by go_num, rfl, Lib.hid (.inr (by rw [hnext'.out]; exact h1'.out)), hx6⟩
          case measure => simp [intOf]; omega
      · have i0 : decide ((k : Int) < 3 + (n : Int)) = false := by simp; omega
        obtain rfl : k = 3 + n := by omega
        have hob : OwB wr w2.heap.size 5 (.slice A3 m3 c3) (mag ++ les zs) := by
          rcases hb3.out with ⟨h, _⟩ | h
          · omega
          · rw [List.take_of_length_le (by have := hzl'.out; omega)] at h
            exact h
        rw [← hrec'.out] at hob
        have hput := FrW.put_any A3 m3 c3 (recM g la ss) wr hob.bs
        rw [hP'.out] at hput
        clear hb3 hob
        go_wp2_with fail
        refine hput.mono ?_
        rintro e w3 ⟨A5, c5, rfl, ho5, hb5⟩
        have ho5' := Lib.hid (OwB.base ho5 hxr.out.size)
        have hx5 := Lib.hid (hxr.out.trans (hb5.mono hxr.out.size))
        clear ho5 hb5 hput
        go_wp2_with fail
        go_ret
        exact ⟨A5, c5, rfl, ho5'.out, hx5.out⟩
end Go.Proofs.YtfdpnjebhllpkaaGreatDoor.Ma
end

section
namespace Go.Proofs.YtfdpnjebhllpkaaGreatDoor.Ma
open Go.RowKit Go.Shelf

/-- A manifest's block. -/
def Mb (w : World) (b : Nat) (g la : Int) (A : Option Addr) (n c : Nat) : Prop :=
  w.heap[b]? = some (.cells #[.int .i64 g, .int .i64 la, .slice A n c] 75)

theorem Mb.lt {w : World} {b : Nat} {g la : Int} {A : Option Addr} {n c : Nat} (h : Mb w b g la A n c) : b < w.heap.size := (Array.getElem?_eq_some_iff.1 h).1

theorem Mb.below {w w' : World} {b : Nat} {g la : Int} {A : Option Addr} {n c : Nat} (h : Mb w b g la A n c) (hb : Below w.heap.size w w') : Mb w' b g la A n c :=
  (hb.block b h.lt).trans h

theorem mb_new (w : World) (g la : Int) (A : Option Addr) (n c : Nat) : Mb (w.alloc (.cells #[.int .i64 g, .int .i64 la, .slice A n c] 75)) w.heap.size g la A n c :=
  heap_alloc_new w _

theorem Mb.mf {w : World} {b : Nat} {g la : Int} {A : Option Addr} {n c : Nat} (h : Mb w b g la A n c) : Mf w b g la A n c := by
  have hl := h.lt
  unfold Mb at h
  refine ⟨?_, ?_, ?_, hl⟩ <;> simp [World.cell?, h]

theorem Mb.frozen {w : World} {b : Nat} {g la : Int} {A : Option Addr} {n c : Nat} (h : Mb w b g la A n c) (i : Nat) : w.frozen? ⟨b, i, none⟩ = false := frozen_of_row w b i _ _ h

theorem setCell_mb {w : World} {b i : Nat} {cs : Array Value} {E : TypeId} (h : w.heap[b]? = some (.cells cs E)) (v : Value) : (w.setCell ⟨b, i, none⟩ v).heap[b]? = some (.cells (cs.setIfInBounds i v) E) := by
  simp [World.setCell, Array.getElem?_modify, h]

/-- The three stores, one behind the other. -/
theorem mb_set {w : World} {b : Nat} {g la : Int} {A : Option Addr} {n c : Nat} (h : Mb w b g la A n c) (g' la' : Int) (A' : Option Addr) (n' c' : Nat) :
    Mb (((w.setCell ⟨b, 0, none⟩ (.int .i64 g')).setCell ⟨b, 1, none⟩ (.int .i64 la')).setCell ⟨b, 2, none⟩ (.slice A' n' c')) b g' la' A' n' c' := by
  have h1 := setCell_mb h (i := 0) (.int .i64 g')
  have h2 := setCell_mb h1 (i := 1) (.int .i64 la')
  exact setCell_mb h2 (i := 2) (.slice A' n' c')

theorem below_set {w0 w : World} {B b i : Nat} (h : Below B w0 w) (hb : B ≤ b) (v : Value) : Below B w0 (w.setCell ⟨b, i, none⟩ v) :=
  ⟨h.os, h.tape, h.output, by rw [Deep.nblk_setCell]; exact h.size, fun k hk => by
    rw [Deep.blk_setCell_other _ _ _ _ (by simp only; omega)]
    exact h.block k hk⟩

theorem rd_set {w : World} {A : Option Addr} {n c b i : Nat} {xs : List Value} (h : Rd w A n c xs) (hne : ∀ a, A = some a → 0 < n → a.block ≠ b) (v : Value) : Rd (w.setCell ⟨b, i, none⟩ v) A n c xs :=
  { len := h.len, le := h.le, max := h.max, nil := h.nil, cell := fun hn => by
      obtain ⟨b', off, e, hb, hc⟩ := h.cell hn
      refine ⟨b', off, e, by rw [Deep.nblk_setCell]; exact hb, fun j u hu => ?_⟩
      have := hc j u hu
      have hk := Deep.blk_setCell_other w ⟨b, i, none⟩ v b' (by have := hne _ e hn; simpa using this)
      unfold World.cell? at this ⊢
      rw [hk]
      exact this }

theorem load_mb {w : World} {b : Nat} {g la : Int} {A : Option Addr} {n c : Nat} (h : Mb w b g la A n c) : (loadVar 75 ⟨b, 0, none⟩).run Tryz.prog w = .ok (.agg #[.int .i64 g, .int .i64 la, .slice A n c]) w :=
  run_loadVar_row w b _ _ _ _ _ h Tryz.underlying75 rfl (by kernel_rfl)

theorem res_mb {fn : Func} {p u : Tmp} (hf : fn.results = #[.cell p 75, .tmp u]) {tmps : Array Value} {w : World} {b : Nat} {g la : Int} {A : Option Addr} {n c : Nat} {ok : Value}
    (h : Mb w b g la A n c) (hp : tmps.getD p undef = .pointer (some ⟨b, 0, none⟩)) (hu : tmps.getD u undef = ok) :
    (results fn tmps).run Tryz.prog w = .ok (.tuple #[.agg #[.int .i64 g, .int .i64 la, .slice A n c], ok]) w := by
  rw [results_cell_tmp hf, hp, hu]
  simp [asAddr, Result.andThen, load_mb h]
end Go.Proofs.YtfdpnjebhllpkaaGreatDoor.Ma
end
