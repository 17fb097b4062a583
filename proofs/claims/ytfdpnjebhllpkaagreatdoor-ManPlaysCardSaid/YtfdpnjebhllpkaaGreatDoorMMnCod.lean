/- Manifests as files: their names rise with their generations. The laws of XMnLaw hold of them. -/
import Derived.Test.YtfdpnjebhllpkaaGreatDoorMManMay2
import Derived.Test.YtfdpnjebhllpkaaGreatDoorMCrcWalk
import Derived.Test.YtfdpnjebhllpkaaGreatDoorMFrameNext2
import Derived.Laws.ResultCell
import Derived.Laws.Rows
import Derived.Deep.Heap
import Derived.Shelf.Small.Wraps
import Derived.Lib.ConvBytes
import Derived.Lib.QuietBelow
import Derived.StillTailTactics
import Derived.BigRegion
import Derived.Test.YtfdpnjebhllpkaaGreatDoorMMnLaw
section
namespace Go.Proofs.YtfdpnjebhllpkaaGreatDoor.Ma
open Go.RowKit Go.Shelf

/-- The bytes of numbers, four a number. -/
def les (zs : List Int) : List UInt8 := zs.flatMap fun z => Fr.le z.toNat

theorem les_append (a b : List Int) : les (a ++ b) = les a ++ les b := by simp [les]
theorem les_one (z : Int) : les [z] = Fr.le z.toNat := by simp [les]
theorem les_len (zs : List Int) : (les zs).length = 4 * zs.length := by
  induction zs with
  | nil => rfl
  | cons z r ih =>
    show (Fr.le z.toNat ++ les r).length = _
    rw [List.length_append, ih, List.length_cons, Fr.le_length]
    omega

def mag : List UInt8 := [82, 67, 77, 49]

/-- A manifest's record. -/
def recM (g la : Int) (ss : List Int) : List UInt8 := mag ++ les (g :: la :: (ss.length : Int) :: ss)

/-- A manifest's bytes; none of one that may not be. -/
def encM (g la : Int) (ss : List Int) : List UInt8 := if mayM g la ss = true then Fr.put (recM g la ss) else []

theorem may_facts {g la : Int} {ss : List Int} (h : mayM g la ss = true) : okN g = true ∧ 0 ≤ la ∧ la ≤ 200 ∧ 1 ≤ ss.length ∧ ss.length ≤ 64 ∧ segsTo ss ss.length = true := by
  unfold mayM at h
  rw [Bool.and_eq_true, Bool.and_eq_true, decide_eq_true_eq] at h
  exact ⟨h.1, h.2.1.1, h.2.1.2.1, h.2.1.2.2.1, h.2.1.2.2.2, h.2.2⟩

theorem segs_ok {ss : List Int} : ∀ {n : Nat}, segsTo ss n = true → ∀ k, k < n → okN (ss[k]?.getD 0) = true := by
  intro n
  induction n with
  | zero => intro _ k hk; omega
  | succ n ih =>
    intro h k hk
    rw [segsTo, Bool.and_eq_true] at h
    by_cases e : k = n
    · subst e
      unfold seg1 at h
      rw [Bool.and_eq_true] at h
      exact h.2.1
    · exact ih h.1 k (by omega)

theorem nums_lt {g la : Int} {ss : List Int} (h : mayM g la ss = true) : ∀ z ∈ g :: la :: (ss.length : Int) :: ss, 0 ≤ z ∧ z < 4294967296 := by
  obtain ⟨h1, h2, h3, h4, h5, h6⟩ := may_facts h
  intro z hz
  rcases List.mem_cons.1 hz with rfl | hz
  · unfold okN at h1; rw [decide_eq_true_eq] at h1; omega
  rcases List.mem_cons.1 hz with rfl | hz
  · omega
  rcases List.mem_cons.1 hz with rfl | hz
  · omega
  obtain ⟨k, hk⟩ := List.mem_iff_getElem?.1 hz
  have := segs_ok h6 k (List.getElem?_eq_some_iff.1 hk).1
  rw [hk] at this
  unfold okN at this
  rw [decide_eq_true_eq] at this
  simp only [Option.getD_some] at this
  omega

theorem i64_info : (Tryz.prog.info? 3).map (fun i => (i.zero, i.size, i.bytes)) = some (some (.int .i64 0), 1, 8) := by kernel_rfl

set_option maxHeartbeats 400000 in
theorem manlittle_any (v : Nat) (hv : v < 4294967296) (w : World) :
    Calls Tryz.prog 152 #[.int .u32 v] w fun e w' => ∃ A c, e = .returned (.slice A 4 c) ∧ OwB w' w.heap.size 5 (.slice A 4 c) (Fr.le v) ∧ Below w.heap.size w w' := by
  go_enter Tryz.func152, Tryz.ntmps152
  go_wp2
  go_ret
  exact ⟨_, _, rfl, owb_lit w _ (Nat.le_refl _) _ _ _ 4 rfl (by decide) (FrW.le_cells v hv), below_alloc _ _⟩

set_option maxHeartbeats 1000000 in
set_option maxRecDepth 100000 in
/-- man.Encode. -/
theorem manEncode_any (g la : Int) (A : Option Addr) (n c : Nat) (ss : List Int) (w : World) (hT : Nu.Tens w) (hI : Is w A n c ss) :
    Calls Tryz.prog 85 #[.agg #[.int .i64 g, .int .i64 la, .slice A n c]] w fun e w' => ∃ A' c', e = .returned (.slice A' (encM g la ss).length c') ∧ OwB w' w.heap.size 5 (.slice A' (encM g la ss).length c') (encM g la ss) ∧ Below w.heap.size w w' := by
  have kc := fun (w : World) (C : Array Value) (n c : Nat) => Lib.run_convert_bytes_const (P := Tryz.prog) w 22 5 C n c Tryz.underlying22 Tryz.underlying5
  have hn := hI.len
  have hle := Rd.le hI
  have hm := Rd.max hI
  have hm0 := mf_new w g la A n c 75
  have hb0 := below_alloc w (.cells #[.int .i64 g, .int .i64 la, .slice A n c] 75)
  have c1 := manMay_any g la A n c ss _ (hT.below hb0) (hI.below hb0)
  cases hmay : mayM g la ss
  · have he : encM g la ss = [] := by rw [encM, hmay, if_neg (by simp)]
    rw [he]
    rw [hmay] at c1
    clear he
    go_enter Tryz.func85, Tryz.ntmps85
    go_wp2_with fail
    refine c1.mono ?_
    rintro e w1 ⟨rfl, hb1⟩
    have hx1 := Lib.hid (hb0.trans (hb1.mono hb0.size))
    clear hb1 hb0 kc
    go_wp2_with fail
    go_ret
    exact ⟨none, 0, rfl, OwB.nil _ _ _, hx1.out⟩
  · have he : encM g la ss = Fr.put (recM g la ss) := by rw [encM, hmay, if_pos rfl]
    have hnum := nums_lt hmay
    obtain ⟨_, _, _, f4, f5, _⟩ := may_facts hmay
    rw [he]
    rw [hmay] at c1
    rw [hn] at f4 f5 hnum
    have hrec : recM g la ss = mag ++ les (g :: la :: (n : Int) :: ss) := by rw [recM, hn]
    obtain ⟨zs, hzs⟩ : ∃ zs, g :: la :: (n : Int) :: ss = zs := ⟨_, rfl⟩
    have hzl : zs.length = 3 + n := by rw [← hzs]; simp [hn]; omega
    rw [hzs] at hrec hnum
    have hzs' : Hid ([g, la, (n : Int)] ++ ss = zs) := Lib.hid hzs
    have hrec' := Lib.hid hrec
    have hnum' := Lib.hid hnum
    have hzl' := Lib.hid hzl
    have hn' := Lib.hid hn
    obtain ⟨P, hP⟩ : ∃ P, Fr.put (recM g la ss) = P := ⟨_, rfl⟩
    rw [hP]
    have hP' := Lib.hid hP
    clear he hn hrec hnum hzl hzs hP
    go_enter Tryz.func85, Tryz.ntmps85
    go_wp2_with fail
    refine c1.mono ?_
    rintro e w1 ⟨rfl, hb1⟩
    have hm1 := hm0.below hb1
    have hx1 := Lib.hid (hb0.trans (hb1.mono hb0.size))
    have hI1 := Lib.hid (hI.below hx1.out)
    clear hb1 hb0 c1 hm0 hI
    obtain ⟨k0, k1, k2, hsz1⟩ := hm1
    go_wp2_with (at_builtin; apply stop_here)
    have hmg := bs_lit w1 #[.int .u8 82, .int .u8 67, .int .u8 77, .int .u8 49] 5 (4, 5) mag 4 rfl (by omega) rfl
    have hba := below_alloc w1 (.cells #[.int .u8 82, .int .u8 67, .int .u8 77, .int .u8 49] 5 (4, 5))
    obtain ⟨wa, hwa⟩ : ∃ wa, w1.alloc (.cells #[.int .u8 82, .int .u8 67, .int .u8 77, .int .u8 49] 5 (4, 5)) = wa := ⟨_, rfl⟩
    have hwas : wa.heap.size = w1.heap.size + 1 := by rw [← hwa]; simp
    rw [hwa] at hmg hba
    have hza := owz_lit wa wa.heap.size (Nat.le_refl _) #[.int .i64 g, .int .i64 la, .int .i64 n] 3 [g, la, (n : Int)] 3 rfl (by omega) rfl
    have hbb := below_alloc wa (.cells #[.int .i64 g, .int .i64 la, .int .i64 n] 3)
    have hIb := (hI1.out.below hba).below hbb
    rw [hwas] at hza
    refine Stop.go (append_ints _ 37 3 Tryz.underlying37 i64_info rfl _ _ rfl (w1.heap.size + 1) (.slice (some ⟨w1.heap.size + 1, 0, none⟩) 3 3) [g, la, (n : Int)] rfl (by simp only [hwa]; exact hza) _ n c ss rfl (by simp only [hwa]; exact hIb) (3 + n) (by simp) (by omega) (by simp) ?_)
    intro A2 c2 w2 h1 _ h3
    rw [hzs'.out] at h1
    rw [hwa, ← hwas] at h3
    have hba2 : Below wa.heap.size wa w2 := hbb.trans h3
    have hz2 := Lib.hid h1.rd
    have hmg2 := Lib.hid (hmg.below hba2)
    have hx2 := Lib.hid ((hx1.out.trans (hba.mono hx1.out.size)).trans (hba2.mono (by have := hx1.out.size; omega)))
    have hc2 := h1.rd.le
    have hc2m := h1.rd.max
    clear h1 h3 hza hIb hbb hba hmg kc hba2 k0 k1 k2 hmay
    obtain ⟨p1, hp1⟩ : ∃ p1, w1.heap.size = p1 := ⟨_, rfl⟩
    rw [hp1] at hmg2
    go_wp2_with fail
    go_loopw [3, 5, 23] (fun bv _ v wr => ∃ (k : Nat) (A3 : Option Addr) (c3 m3 : Nat), k ≤ 3 + n ∧ Hid (m3 = 4 + 4 * k) ∧ v = .int .i64 (k : Nat) ∧ bv = .slice A3 m3 c3 ∧
      Hid ((k = 0 ∧ A3 = some ⟨p1, 0, none⟩ ∧ c3 = 4) ∨ OwB wr w2.heap.size 5 (.slice A3 m3 c3) (mag ++ les (zs.take k))) ∧ Hid (Below w2.heap.size w2 wr)) (fun _ _ v _ => 4 + n - (intOf v).toNat)
    case atStart => exact ⟨0, some ⟨p1, 0, none⟩, 4, 4, by omega, Lib.hid rfl, rfl, rfl, Lib.hid (.inl ⟨rfl, rfl, rfl⟩), Lib.hid (Below.refl _ _)⟩
    case round =>
      obtain ⟨k, A3, c3, m3, hk, hm3, rfl, rfl, hb3, hbw⟩ := hrel
      have hxr := Lib.hid (hx2.out.trans (hbw.out.mono hx2.out.size))
      by_cases hlt : k < 3 + n
      · have i0 : decide ((k : Int) < 3 + (n : Int)) = true := by simp; omega
        have i1 : (k : Int) < 3 + (n : Int) := by omega
        obtain ⟨b, off, u, rfl, hbl, hu, hc⟩ := (hz2.out.below hbw.out).at_ hlt
        rw [List.getElem?_map, Option.map_eq_some_iff] at hu
        obtain ⟨z, hzk, rfl⟩ := hu
        have hzr := hnum'.out z (List.mem_of_getElem? hzk)
        obtain ⟨v, rfl⟩ : ∃ v : Nat, z = v := ⟨z.toNat, by omega⟩
        have hnext : mag ++ les (zs.take (k + 1)) = (mag ++ les (zs.take k)) ++ Fr.le v := by rw [take_snoc hzk, les_append, les_one, List.append_assoc]; rfl
        have hnext' := Lib.hid hnext
        clear hzk hnext
        have hv : v < 4294967296 := by omega
        go_wp2_with fail
        refine (manlittle_any v hv wr).mono ?_
        rintro e w3 ⟨A4, c4, rfl, ho4, hb4⟩
        have hbw4 := Lib.hid (hbw.out.trans (hb4.mono hbw.out.size))
        have hle4 := Lib.hid ho4.bs
        go_wp2_with (at_builtin; apply stop_here)
        rcases hb3.out with ⟨rfl, rfl, rfl⟩ | hob
        · have hf := (hmg2.out.below hbw.out).below hb4
          refine Stop.go (append_bytes_full _ 22 5 Tryz.underlying22 info_u8 rfl _ _ rfl _ m3 4 mag rfl (by rw [hm3.out]; exact hf) A4 4 c4 (Fr.le v) rfl hle4.out (by omega) (by have := hm3.out; omega) (m3 + 4) rfl (by have := hm3.out; omega) ?_)
          intro A6 c6 w6 h1 h3
          have h1' := Lib.hid (OwB.base h1 hbw4.out.size)
          have hx6 := Lib.hid (hbw4.out.trans (h3.mono hbw4.out.size))
          clear h1 h3 hb4 hf hb3 ho4
          go_wp2_with fail
          go_roundw
          case rel => exact ⟨0 + 1, A6, c6, m3 + 4, by omega, Lib.hid (by have := hm3.out; omega), by go_num, rfl, Lib.hid (.inr (by rw [hnext'.out]; exact h1'.out)), hx6⟩
          case measure => simp [intOf]
        · have hf := Lib.hid (hob.below hb4)
          have hlen : (mag ++ les (zs.take k)).length = m3 := hob.rd_len
          refine Stop.go (append_bytes _ 22 5 Tryz.underlying22 info_u8 rfl _ _ rfl w2.heap.size _ _ rfl hf.out A4 4 c4 (Fr.le v) rfl hle4.out (m3 + 4) (by rw [hlen]) (by have := hm3.out; omega) hbw4.out.size ?_)
          intro A6 c6 w6 h1 _ h3
          have h1' := Lib.hid h1
          have hx6 := Lib.hid (hbw4.out.trans h3)
          clear h1 h3 hb4 hf hb3 ho4 hlen hob
          go_wp2_with fail
          go_roundw
          case rel => exact ⟨k + 1, A6, c6, m3 + 4, by omega, Lib.hid (by have := hm3.out; omega), by go_num, rfl, Lib.hid (.inr (by rw [hnext'.out]; exact h1'.out)), hx6⟩
          case measure => simp [intOf]; omega
      · have i0 : decide ((k : Int) < 3 + (n : Int)) = false := by simp; omega
        obtain rfl : k = 3 + n := by omega
        have hob : OwB wr w2.heap.size 5 (.slice A3 m3 c3) (mag ++ les zs) := by
          rcases hb3.out with ⟨h, _⟩ | h
          · omega
          · rw [List.take_of_length_le (by have := hzl'.out; omega)] at h
            exact h
        rw [← hrec'.out] at hob
        have hput := FrW.put_any A3 m3 c3 (recM g la ss) wr hob.bs
        rw [hP'.out] at hput
        clear hb3 hob
        go_wp2_with fail
        refine hput.mono ?_
        rintro e w3 ⟨A5, c5, rfl, ho5, hb5⟩
        have ho5' := Lib.hid (OwB.base ho5 hxr.out.size)
        have hx5 := Lib.hid (hxr.out.trans (hb5.mono hxr.out.size))
        clear ho5 hb5 hput
        go_wp2_with fail
        go_ret
        exact ⟨A5, c5, rfl, ho5'.out, hx5.out⟩
end Go.Proofs.YtfdpnjebhllpkaaGreatDoor.Ma
end

section
namespace Go.Proofs.YtfdpnjebhllpkaaGreatDoor.Ma
open Go.RowKit Go.Shelf

/-- A manifest's block. -/
def Mb (w : World) (b : Nat) (g la : Int) (A : Option Addr) (n c : Nat) : Prop :=
  w.heap[b]? = some (.cells #[.int .i64 g, .int .i64 la, .slice A n c] 75)

theorem Mb.lt {w : World} {b : Nat} {g la : Int} {A : Option Addr} {n c : Nat} (h : Mb w b g la A n c) : b < w.heap.size := (Array.getElem?_eq_some_iff.1 h).1

theorem Mb.below {w w' : World} {b : Nat} {g la : Int} {A : Option Addr} {n c : Nat} (h : Mb w b g la A n c) (hb : Below w.heap.size w w') : Mb w' b g la A n c :=
  (hb.block b h.lt).trans h

theorem mb_new (w : World) (g la : Int) (A : Option Addr) (n c : Nat) : Mb (w.alloc (.cells #[.int .i64 g, .int .i64 la, .slice A n c] 75)) w.heap.size g la A n c :=
  heap_alloc_new w _

theorem Mb.mf {w : World} {b : Nat} {g la : Int} {A : Option Addr} {n c : Nat} (h : Mb w b g la A n c) : Mf w b g la A n c := by
  have hl := h.lt
  unfold Mb at h
  refine ⟨?_, ?_, ?_, hl⟩ <;> simp [World.cell?, h]

theorem Mb.frozen {w : World} {b : Nat} {g la : Int} {A : Option Addr} {n c : Nat} (h : Mb w b g la A n c) (i : Nat) : w.frozen? ⟨b, i, none⟩ = false := frozen_of_row w b i _ _ h

theorem setCell_mb {w : World} {b i : Nat} {cs : Array Value} {E : TypeId} (h : w.heap[b]? = some (.cells cs E)) (v : Value) : (w.setCell ⟨b, i, none⟩ v).heap[b]? = some (.cells (cs.setIfInBounds i v) E) := by
  simp [World.setCell, Array.getElem?_modify, h]

/-- The three stores, one behind the other. -/
theorem mb_set {w : World} {b : Nat} {g la : Int} {A : Option Addr} {n c : Nat} (h : Mb w b g la A n c) (g' la' : Int) (A' : Option Addr) (n' c' : Nat) :
    Mb (((w.setCell ⟨b, 0, none⟩ (.int .i64 g')).setCell ⟨b, 1, none⟩ (.int .i64 la')).setCell ⟨b, 2, none⟩ (.slice A' n' c')) b g' la' A' n' c' := by
  have h1 := setCell_mb h (i := 0) (.int .i64 g')
  have h2 := setCell_mb h1 (i := 1) (.int .i64 la')
  exact setCell_mb h2 (i := 2) (.slice A' n' c')

theorem below_set {w0 w : World} {B b i : Nat} (h : Below B w0 w) (hb : B ≤ b) (v : Value) : Below B w0 (w.setCell ⟨b, i, none⟩ v) :=
  ⟨h.os, h.tape, h.output, by rw [Deep.nblk_setCell]; exact h.size, fun k hk => by
    rw [Deep.blk_setCell_other _ _ _ _ (by simp only; omega)]
    exact h.block k hk⟩

theorem rd_set {w : World} {A : Option Addr} {n c b i : Nat} {xs : List Value} (h : Rd w A n c xs) (hne : ∀ a, A = some a → 0 < n → a.block ≠ b) (v : Value) : Rd (w.setCell ⟨b, i, none⟩ v) A n c xs :=
  { len := h.len, le := h.le, max := h.max, nil := h.nil, cell := fun hn => by
      obtain ⟨b', off, e, hb, hc⟩ := h.cell hn
      refine ⟨b', off, e, by rw [Deep.nblk_setCell]; exact hb, fun j u hu => ?_⟩
      have := hc j u hu
      have hk := Deep.blk_setCell_other w ⟨b, i, none⟩ v b' (by have := hne _ e hn; simpa using this)
      unfold World.cell? at this ⊢
      rw [hk]
      exact this }

theorem load_mb {w : World} {b : Nat} {g la : Int} {A : Option Addr} {n c : Nat} (h : Mb w b g la A n c) : (loadVar 75 ⟨b, 0, none⟩).run Tryz.prog w = .ok (.agg #[.int .i64 g, .int .i64 la, .slice A n c]) w :=
  run_loadVar_row w b _ _ _ _ _ h Tryz.underlying75 rfl (by kernel_rfl)

theorem res_mb {fn : Func} {p u : Tmp} (hf : fn.results = #[.cell p 75, .tmp u]) {tmps : Array Value} {w : World} {b : Nat} {g la : Int} {A : Option Addr} {n c : Nat} {ok : Value}
    (h : Mb w b g la A n c) (hp : tmps.getD p undef = .pointer (some ⟨b, 0, none⟩)) (hu : tmps.getD u undef = ok) :
    (results fn tmps).run Tryz.prog w = .ok (.tuple #[.agg #[.int .i64 g, .int .i64 la, .slice A n c], ok]) w := by
  rw [results_cell_tmp hf, hp, hu]
  simp [asAddr, Result.andThen, load_mb h]
end Go.Proofs.YtfdpnjebhllpkaaGreatDoor.Ma
end

section
namespace Go.Proofs
open Go.Shelf Go.RowKit

shelf_lay Lays.n103 Nm 103 at Tryz as Tryz.lays103

end Go.Proofs
namespace Go.Proofs.YtfdpnjebhllpkaaGreatDoor.Ma
open Go.RowKit Go.Shelf

/-- The k-th number of a row of bytes. -/
def num (t : List UInt8) (k : Nat) : Nat := Fr.get (t.drop (4 * k))

/-- The first k numbers of a row of bytes. -/
def nums (t : List UInt8) : Nat → List Int
  | 0 => []
  | k + 1 => nums t k ++ [(num t k : Int)]

theorem nums_len (t : List UInt8) (k : Nat) : (nums t k).length = k := by
  induction k with
  | zero => rfl
  | succ k ih => simp [nums, ih]

theorem nums_get (t : List UInt8) {k i : Nat} (h : i < k) : (nums t k)[i]? = some (num t i : Int) := by
  induction k with
  | zero => omega
  | succ k ih =>
    rw [nums]
    by_cases e : i = k
    · subst e
      rw [List.getElem?_append_right (by rw [nums_len]; omega), nums_len]
      simp
    · rw [List.getElem?_append_left (by rw [nums_len]; omega)]
      exact ih (by omega)

/-- What is told of a record. -/
def ofRec (r : List UInt8) : Bool × Int × Int × List Int :=
  if r.take 4 = mag ∧ 16 ≤ r.length ∧ r.length % 4 = 0 then
    (if num r 3 = (r.length / 4 - 4) ∧ mayM (num r 1 : Nat) (num r 2 : Nat) ((nums r (r.length / 4)).drop 4) = true then (true, (num r 1 : Nat), (num r 2 : Nat), (nums r (r.length / 4)).drop 4) else (false, 0, 0, []))
  else (false, 0, 0, [])

/-- What is told of bytes. -/
def decM (b : List UInt8) : Bool × Int × Int × List Int :=
  if (Fr.next b).2.2 = 1 ∧ (Fr.next b).2.1 = b.length then ofRec (Fr.next b).1 else (false, 0, 0, [])

theorem cutPrefix_any (s p : ByteArray) (w : World) :
    Calls Tryz.prog 62 #[.string s, .string p] w fun e w' => e = .returned (.tuple #[.string (strOf (Lib.trimPrefix s.data.toList p.data.toList)), .bool (Lib.hasPrefix s.data.toList p.data.toList)]) ∧ w' = w :=
  Any.strings_CutPrefix Tryz.lays103 s p w

theorem hasPrefix_mag (r : List UInt8) : Lib.hasPrefix r mag = decide (r.take 4 = mag) := by
  unfold Lib.hasPrefix
  rw [Bool.eq_iff_iff, decide_eq_true_eq]
  rw [List.isPrefixOf_iff_prefix, List.prefix_iff_eq_take]
  exact eq_comm

theorem trimPrefix_mag {r : List UInt8} (h : r.take 4 = mag) : Lib.trimPrefix r mag = r.drop 4 := by
  unfold Lib.trimPrefix
  rw [hasPrefix_mag, decide_eq_true h, if_pos rfl]
  rfl

theorem get_take (l : List UInt8) : Fr.get (l.take 4) = Fr.get l := by
  match l with
  | [] => rfl
  | [_] => rfl
  | [_, _] => rfl
  | [_, _, _] => rfl
  | _ :: _ :: _ :: _ :: _ => rfl

theorem num_drop (r : List UInt8) (k : Nat) : num (r.drop 4) k = num r (k + 1) := by
  unfold num
  rw [List.drop_drop]
  congr 2
  omega

theorem nums_drop (r : List UInt8) (k : Nat) : (num r 0 : Int) :: nums (r.drop 4) k = nums r (k + 1) := by
  induction k with
  | zero => rfl
  | succ k ih =>
    rw [nums, nums, ← ih, num_drop]
    rfl

/-- '[]byte(s)'. -/
theorem bs_convert (w : World) (s : ByteArray) (hs : s.size ≤ 281474976710656) :
    Bs (Lib.bytesWorld w 5 s) (some ⟨w.heap.size, 0, none⟩) s.size (grownCap w s.size 0 5) s.data.toList ∧ Below w.heap.size w (Lib.bytesWorld w 5 s) := by
  have hl : s.data.toList.length = s.size := by rw [Array.length_toList]; rfl
  refine ⟨{ len := by rw [bv_length, hl], le := grownCap_ge _ _ _ _, max := ?_, nil := (fun h => by cases h), cell := fun h0 => ⟨w.heap.size, 0, rfl, by rw [Lib.bytesWorld_size]; omega, ?_⟩ }, ?_⟩
  · have := grownCap_le_maxLen w s.size 0 5 (by unfold maxLen; omega)
    unfold maxLen at this
    omega
  · intro j u hu
    obtain ⟨x, hx, rfl⟩ := bv_get hu
    have hj : j < s.size := by rw [← hl]; exact (List.getElem?_eq_some_iff.1 hx).1
    rw [Nat.zero_add, Lib.bytesWorld_cell w 5 s j hj, List.getD_eq_getElem?_getD, hx]
    rfl
  · exact ⟨rfl, rfl, rfl, by rw [Lib.bytesWorld_size]; omega, fun k hk => Lib.bytesWorld_at_old w 5 s k hk⟩

set_option maxHeartbeats 400000 in
theorem manwhole_any (A : Option Addr) (n c : Nat) (l : List UInt8) (w : World) (hBs : Bs w A n c l) (h4 : 4 ≤ n) :
    Calls Tryz.prog 153 #[.slice A n c] w fun e w' => e = .returned (.int .u32 (Fr.get l)) ∧ ∃ k, w' = w.drewN k := by
  obtain ⟨b, off, x0, x1, x2, x3, rfl, hg, k0, k1, k2, k3, c0, c1, c2, c3⟩ := FrW.four hBs h4
  have HG := Lib.hid hg
  clear hg hBs
  have i0 : (0 : Int) < (n : Int) := by omega
  have i1 : (1 : Int) < (n : Int) := by omega
  have i2 : (2 : Int) < (n : Int) := by omega
  have i3 : (3 : Int) < (n : Int) := by omega
  go_enter Tryz.func153, Tryz.ntmps153
  go_wp2
  go_quiet (fail)
  go_wp2
  go_ret
  exact ⟨ret_int (by rw [HG.out]; exact FrW.get_num _ _ _ _ k0 k1 k2 k3), _, rfl⟩

theorem rdz_one (w : World) (z : Int) (E : TypeId) : Rd (w.alloc (.cells #[.int .i64 z] E)) (some ⟨w.heap.size, 0, none⟩) 1 1 ([z].map (Value.int .i64)) :=
  { len := rfl, le := Nat.le_refl _, max := by omega, nil := (fun h => by cases h), cell := fun _ => ⟨w.heap.size, 0, rfl, by simp, fun j u hu => by
    obtain rfl : j = 0 := by have := (List.getElem?_eq_some_iff.1 hu).1; simp at this; omega
    simp at hu
    subst hu
    exact World.cell?_alloc_at _ _ _ _ rfl⟩ }

/-- What Decode's answer is. -/
def Told (w : World) (d : Bool × Int × Int × List Int) (e : Ending) : Prop :=
  ∃ A n c, e = .returned (.tuple #[.agg #[.int .i64 d.2.1, .int .i64 d.2.2.1, .slice A n c], .bool d.1]) ∧ Is w A n c d.2.2.2

theorem next_rec_len (b : List UInt8) : (Fr.next b).1.length ≤ 1048576 := by
  unfold Fr.next
  repeat' split
  all_goals first
    | (simp; done)
    | (simp only [List.length_take]; omega)

set_option maxHeartbeats 2000000 in
set_option maxRecDepth 100000 in
/-- man.Decode. -/
theorem manDecode_any (A : Option Addr) (n c : Nat) (l : List UInt8) (w : World) (hT : Nu.Tens w) (hBs : Bs w A n c l) :
    Calls Tryz.prog 86 #[.slice A n c] w fun e w' => Told w' (decM l) e ∧ Below w.heap.size w w' := by
  have hl := hBs.len
  have hle := Rd.le hBs
  have hm := Rd.max hBs
  obtain ⟨D, hD⟩ : ∃ D, decM l = D := ⟨_, rfl⟩
  have hD2 := hD
  unfold decM at hD2
  rw [hD]
  have hb0 := below_alloc w (.cells #[.int .i64 0, .int .i64 0, .slice none 0 0] 75)
  have c1 := FrW.next_any A n c l _ (hBs.below hb0)
  have hrl := next_rec_len l
  obtain ⟨N, hN⟩ : ∃ N, Fr.next l = N := ⟨_, rfl⟩
  obtain ⟨r, m, st⟩ := N
  rw [hN] at c1 hD2 hrl
  simp only at c1 hD2 hrl
  rw [hl] at hD2
  have hD' := Lib.hid hD2
  clear hD hD2 hN hl
  go_enter Tryz.func86, Tryz.ntmps86
  go_wp2_with fail
  refine c1.mono ?_
  rintro e w1 ⟨A1, cc1, rfl, ho1, hb1⟩
  have hx1 := Lib.hid (hb0.trans (hb1.mono hb0.size))
  have hz := Lib.hid ((mb_new w 0 0 none 0 0).below hb1)
  have hcv := ho1.bs.conv (P := Tryz.prog) (src := 22) (dst := 9) (e := 5) Tryz.underlying22 Tryz.underlying5 Tryz.underlying9
  clear ho1 hb1 hb0 c1 hBs
  have c2 := cutPrefix_any (strOf r) ⟨#[82, 67, 77, 49]⟩ w1
  have e2 : Lib.hasPrefix (strOf r).data.toList (⟨#[82, 67, 77, 49]⟩ : ByteArray).data.toList = decide (r.take 4 = mag) := hasPrefix_mag r
  rw [e2] at c2
  clear e2
  obtain ⟨f0, f1, f2, hsz⟩ := hz.out.mf
  have z0 := hz.out.frozen 0
  have z1 := hz.out.frozen 1
  have z2 := hz.out.frozen 2
  by_cases hpre : r.take 4 = mag
  case neg =>
    rw [decide_eq_false hpre] at c2
    obtain ⟨tt, htt⟩ : ∃ tt, strOf (Lib.trimPrefix (strOf r).data.toList (⟨#[82, 67, 77, 49]⟩ : ByteArray).data.toList) = tt := ⟨_, rfl⟩
    rw [htt] at c2
    clear htt
    have hno : D = (false, 0, 0, []) := by
      rw [← hD'.out]
      split
      · rw [ofRec, if_neg (fun h => hpre h.1)]
      · rfl
    clear hpre
    by_cases h1 : st = 1
    · have t1 : ((st : Int) != 1) = false := by rw [bne_eq_false_iff_eq]; omega
      by_cases h2 : m = n
      · have t2 : ((m : Int) != (n : Int)) = false := by rw [bne_eq_false_iff_eq]; omega
        clear h1 h2
        go_wp2_with fail
        refine c2.mono ?_
        rintro e w2 ⟨rfl, rfl⟩
        go_wp2_with fail
        refine bodyPost_ret (res_mb rfl (mb_set hz.out 0 0 none 0 0) rfl rfl) rfl ?_
        try rw [hno]
        exact ⟨⟨none, 0, 0, rfl, Rd.none_ _⟩, below_set (below_set (below_set hx1.out (Nat.le_refl _) _) (Nat.le_refl _) _) (Nat.le_refl _) _⟩
      · have t2 : ((m : Int) != (n : Int)) = true := by rw [bne_iff_ne]; omega
        clear h1 h2
        go_wp2_with fail
        refine c2.mono ?_
        rintro e w2 ⟨rfl, rfl⟩
        go_wp2_with fail
        refine bodyPost_ret (res_mb rfl (mb_set hz.out 0 0 none 0 0) rfl rfl) rfl ?_
        try rw [hno]
        exact ⟨⟨none, 0, 0, rfl, Rd.none_ _⟩, below_set (below_set (below_set hx1.out (Nat.le_refl _) _) (Nat.le_refl _) _) (Nat.le_refl _) _⟩
    · have t1 : ((st : Int) != 1) = true := by rw [bne_iff_ne]; omega
      clear h1
      go_wp2_with fail
      refine c2.mono ?_
      rintro e w2 ⟨rfl, rfl⟩
      go_wp2_with fail
      refine bodyPost_ret (res_mb rfl (mb_set hz.out 0 0 none 0 0) rfl rfl) rfl ?_
      try rw [hno]
      exact ⟨⟨none, 0, 0, rfl, Rd.none_ _⟩, below_set (below_set (below_set hx1.out (Nat.le_refl _) _) (Nat.le_refl _) _) (Nat.le_refl _) _⟩
  case pos =>
    rw [decide_eq_true hpre] at c2
    have e3 : Lib.trimPrefix (strOf r).data.toList (⟨#[82, 67, 77, 49]⟩ : ByteArray).data.toList = r.drop 4 := trimPrefix_mag hpre
    rw [e3] at c2
    clear e3
    obtain ⟨tt, htt⟩ : ∃ tt, strOf (r.drop 4) = tt := ⟨_, rfl⟩
    have hts : tt.size = r.length - 4 := by rw [← htt, strOf_size', List.length_drop]
    obtain ⟨T, hTT⟩ : ∃ T, tt.size = T := ⟨_, rfl⟩
    have hTr : Hid (T = r.length - 4) := Lib.hid (by rw [← hTT]; exact hts)
    clear hts
    rw [htt] at c2
    by_cases h1 : st = 1
    case neg =>
      have hno : D = (false, 0, 0, []) := by rw [← hD'.out, if_neg (fun h => h1 h.1)]
      have t1 : ((st : Int) != 1) = true := by rw [bne_iff_ne]; omega
      clear h1 hpre
      go_wp2_with fail
      refine c2.mono ?_
      rintro e w2 ⟨rfl, rfl⟩
      go_wp2_with fail
      refine bodyPost_ret (res_mb rfl (mb_set hz.out 0 0 none 0 0) rfl rfl) rfl ?_
      try rw [hno]
      exact ⟨⟨none, 0, 0, rfl, Rd.none_ _⟩, below_set (below_set (below_set hx1.out (Nat.le_refl _) _) (Nat.le_refl _) _) (Nat.le_refl _) _⟩
    case pos =>
      have t1 : ((st : Int) != 1) = false := by rw [bne_eq_false_iff_eq]; omega
      by_cases h2 : m = n
      case neg =>
        have hno : D = (false, 0, 0, []) := by rw [← hD'.out, if_neg (fun h => h2 h.2)]
        have t2 : ((m : Int) != (n : Int)) = true := by rw [bne_iff_ne]; omega
        clear h1 h2 hpre
        go_wp2_with fail
        refine c2.mono ?_
        rintro e w2 ⟨rfl, rfl⟩
        go_wp2_with fail
        refine bodyPost_ret (res_mb rfl (mb_set hz.out 0 0 none 0 0) rfl rfl) rfl ?_
        try rw [hno]
        exact ⟨⟨none, 0, 0, rfl, Rd.none_ _⟩, below_set (below_set (below_set hx1.out (Nat.le_refl _) _) (Nat.le_refl _) _) (Nat.le_refl _) _⟩
      case pos =>
        have t2 : ((m : Int) != (n : Int)) = false := by rw [bne_eq_false_iff_eq]; omega
        have hrec : ofRec r = D := by rw [← hD'.out, if_pos ⟨h1, h2⟩]
        have hrec' := Lib.hid hrec
        clear hrec h1 h2 hD'
        by_cases h3 : 16 ≤ r.length ∧ r.length % 4 = 0
        case neg =>
          have hno : D = (false, 0, 0, []) := by rw [← hrec'.out, ofRec, if_neg (fun h => h3 h.2)]
          have h3' := Lib.hid h3
          clear h3
          by_cases h4 : T < 12
          · have t3 : decide ((T : Int) < 12) = true := by simp; omega
            clear hpre
            go_wp2_with fail
            refine c2.mono ?_
            rintro e w2 ⟨rfl, rfl⟩
            go_wp2_with fail
            refine bodyPost_ret (res_mb rfl (mb_set hz.out 0 0 none 0 0) rfl rfl) rfl ?_
            try rw [hno]
            exact ⟨⟨none, 0, 0, rfl, Rd.none_ _⟩, below_set (below_set (below_set hx1.out (Nat.le_refl _) _) (Nat.le_refl _) _) (Nat.le_refl _) _⟩
          · have t3 : decide ((T : Int) < 12) = false := by simp; omega
            have t4 : (((T : Int) % 4) != 0) = true := by
              rw [bne_iff_ne]
              have := h3'.out
              have := hTr.out
              omega
            clear hpre
            go_wp2_with fail
            refine c2.mono ?_
            rintro e w2 ⟨rfl, rfl⟩
            go_wp2_with fail
            refine bodyPost_ret (res_mb rfl (mb_set hz.out 0 0 none 0 0) rfl rfl) rfl ?_
            try rw [hno]
            exact ⟨⟨none, 0, 0, rfl, Rd.none_ _⟩, below_set (below_set (below_set hx1.out (Nat.le_refl _) _) (Nat.le_refl _) _) (Nat.le_refl _) _⟩
        case pos =>
          obtain ⟨h3, h4⟩ := h3
          have hT4 : T % 4 = 0 := by rw [hTr.out]; omega
          have hT12 : 12 ≤ T := by rw [hTr.out]; omega
          have hTb : T ≤ 1048576 := by rw [hTr.out]; omega
          have t3 : decide ((T : Int) < 12) = false := by simp; omega
          have t4 : (((T : Int) % 4) != 0) = false := by rw [bne_eq_false_iff_eq]; omega
          have hpre' := Lib.hid hpre
          have htt' := Lib.hid htt
          clear hpre htt z0 z1 z2 f0 f1 f2
          go_wp2_with fail
          refine c2.mono ?_
          rintro e w2 ⟨rfl, rfl⟩
          clear c2 hcv
          go_wp2_with fail
          go_loopw [9, 10] (fun lv v wr => ∃ (q i : Nat) (A3 : Option Addr) (c3 : Nat), i ≤ T ∧ Hid (i = 4 * q) ∧ q ≤ 1048576 ∧ v = .int .i64 (i : Nat) ∧ lv = .slice A3 q c3 ∧
            Hid (OwZ wr w2.heap.size 3 (.slice A3 q c3) (nums (r.drop 4) q)) ∧ Hid (Below w2.heap.size w2 wr)) (fun _ v _ => T + 4 - (intOf v).toNat)
          case atStart => exact ⟨0, 0, none, 0, by omega, Lib.hid rfl, by omega, rfl, rfl, Lib.hid (OwZ.nil _ _ _), Lib.hid (Below.refl _ _)⟩
          case round =>
            obtain ⟨q, i, A3, c3, hi, hiq, hq, rfl, rfl, hoz, hbw⟩ := hrel
            have hxr := Lib.hid (hx1.out.trans (hbw.out.mono hx1.out.size))
            by_cases hlt : i < T
            · have i0 : decide ((i : Int) < (T : Int)) = true := by simp; omega
              have i1 : i + 4 ≤ T := by have := hiq.out; omega
              have i2 : (i : Int) + 4 ≤ (T : Int) := by omega
              have hcutd : tt.extract i (i + 4) = strOf (((r.drop 4).drop i).take 4) := by
                rw [← htt'.out, strOf_cut]
                congr 2
                omega
              obtain ⟨X, hX⟩ : ∃ X, tt.extract i (i + 4) = X := ⟨_, rfl⟩
              have hXd : X.data.toList = ((r.drop 4).drop i).take 4 := by rw [← hX, hcutd]; rfl
              have hXs : X.size = 4 := by
                rw [← hX, hcutd, strOf_size', List.length_take, List.length_drop, List.length_drop]
                have := hTr.out
                omega
              obtain ⟨hbs, hbb⟩ := bs_convert wr X (by omega)
              have hcv := Lib.run_convert_string_bytes (P := Tryz.prog) wr 9 22 5 X Tryz.underlying9 Tryz.underlying22 Tryz.underlying5
              rw [hXs] at hcv hbs
              obtain ⟨cb, hcb⟩ : ∃ cb, grownCap wr 4 0 5 = cb := ⟨_, rfl⟩
              obtain ⟨wb, hwb⟩ : ∃ wb, Lib.bytesWorld wr 5 X = wb := ⟨_, rfl⟩
              rw [hcb, hwb] at hcv hbs
              rw [hwb] at hbb
              have hwh := manwhole_any _ 4 cb X.data.toList wb hbs (by omega)
              have hnum : Fr.get X.data.toList = num (r.drop 4) q := by rw [hXd, get_take, num, hiq.out]
              rw [hnum] at hwh
              have hnl : num (r.drop 4) q < 4294967296 := Fr.get_lt _
              have hnext : nums (r.drop 4) (q + 1) = nums (r.drop 4) q ++ [(num (r.drop 4) q : Int)] := rfl
              obtain ⟨z, hz'⟩ : ∃ z, num (r.drop 4) q = z := ⟨_, rfl⟩
              rw [hz'] at hwh hnl hnext
              have hnext' := Lib.hid hnext
              have hbb' := Lib.hid (hbw.out.trans (hbb.mono hbw.out.size))
              have hoz' := Lib.hid (hoz.out.below hbb)
              have hqlen := nums_len (r.drop 4) q
              have hqlen' := Lib.hid hqlen
              clear hcutd hXd hnum hnext hz' hcb hwb hbs hbb hqlen
              go_wp2_with fail
              refine hwh.mono ?_
              rintro e w3 ⟨rfl, dk, rfl⟩
              have hb3 := Lib.hid (hbb'.out.trans ((Joins.below_draws _ wb dk).mono hbb'.out.size))
              have hoz3 := Lib.hid (hoz'.out.below (Joins.below_draws _ wb dk))
              go_wp2_with (at_builtin; apply stop_here)
              refine Stop.go (append_ints _ 37 3 Tryz.underlying37 i64_info rfl _ _ rfl w2.heap.size _ _ rfl (hoz3.out.below (below_alloc _ _)) _ 1 1 [(z : Int)] rfl (rdz_one _ _ _) (q + 1) (by rw [hqlen'.out]) (by omega) (by have := hb3.out.size; simp at this ⊢; omega) ?_)
              intro A6 c6 w6 h1 _ h3
              have h1' := Lib.hid h1
              have hx6 := Lib.hid ((hb3.out.trans ((below_alloc _ _).mono hb3.out.size)).trans h3)
              clear h1 h3 hwh hcv
              go_wp2_with fail
              go_roundw
              case rel => exact ⟨q + 1, i + 4, A6, c6, by omega, Lib.hid (by have := hiq.out; omega), by have := hiq.out; have := hTr.out; omega, by go_num, rfl, by rw [hnext'.out]; exact h1', hx6⟩
              case measure => simp [intOf]; omega
            · have i0 : decide ((i : Int) < (T : Int)) = false := by simp; omega
              have hq3 : 3 ≤ q := by have := hiq.out; omega
              have hrd := hoz.out.rd
              obtain ⟨b3, o3, u0, rfl, hl3, hu0, d0⟩ := hrd.at_ (k := 0) (by omega)
              have hb3 : Hid (w2.heap.size ≤ b3) := Lib.hid (World.ownsRow.lt hoz.out b3 rfl).1
              obtain ⟨b3', o3', u1, e3, _, hu1, d1⟩ := hrd.at_ (k := 1) (by omega)
              simp only [Option.some.injEq, Addr.mk.injEq, and_true] at e3
              obtain ⟨rfl, rfl⟩ := e3
              obtain ⟨b3', o3', u2, e3, _, hu2, d2⟩ := hrd.at_ (k := 2) (by omega)
              simp only [Option.some.injEq, Addr.mk.injEq, and_true] at e3
              obtain ⟨rfl, rfl⟩ := e3
              rw [List.getElem?_map, nums_get _ (by omega)] at hu0 hu1 hu2
              simp only [Option.map_some, Option.some.injEq, num_drop, Nat.zero_add, Nat.reduceAdd] at hu0 hu1 hu2
              subst hu0 hu1 hu2
              rw [Nat.add_zero] at d0
              obtain ⟨y0, hy0⟩ : ∃ y, num r 1 = y := ⟨_, rfl⟩
              obtain ⟨y1, hy1⟩ : ∃ y, num r 2 = y := ⟨_, rfl⟩
              obtain ⟨y2, hy2⟩ : ∃ y, num r 3 = y := ⟨_, rfl⟩
              rw [hy0] at d0
              rw [hy1] at d1
              rw [hy2] at d2
              have q0 : (0 : Int) < (q : Int) := by omega
              have q1 : (1 : Int) < (q : Int) := by omega
              have q2 : (2 : Int) < (q : Int) := by omega
              have q3 : (3 : Int) ≤ (q : Int) := by omega
              have hqc := hrd.le
              have hqm := hrd.max
              have hrd' := Lib.hid hrd
              have hy0' := Lib.hid hy0
              have hy1' := Lib.hid hy1
              have hy2' := Lib.hid hy2
              clear hy0 hy1 hy2 hrd
              go_upto_region 10 with fail
              go_region
              obtain ⟨A7, hA7⟩ : ∃ A7, (if c3 = 3 then some (⟨b3, o3, none⟩ : Addr) else some ⟨b3, o3 + 3, none⟩) = A7 := ⟨_, rfl⟩
              rw [hA7]
              have hbN : Below wr.heap.size wr ((wr.alloc (.cells #[.int .i64 y0, .int .i64 y1, .slice A7 (q - 3) (c3 - 3)] 75)).drew) := (below_alloc _ _).trans (Joins.below_draws _ _ 1)
              have hmN : Mb ((wr.alloc (.cells #[.int .i64 y0, .int .i64 y1, .slice A7 (q - 3) (c3 - 3)] 75)).drew) wr.heap.size y0 y1 A7 (q - 3) (c3 - 3) := (mb_new wr y0 y1 A7 (q - 3) (c3 - 3)).below (Joins.below_draws _ _ 1)
              obtain ⟨wN, hwN⟩ : ∃ wN, (wr.alloc (.cells #[.int .i64 y0, .int .i64 y1, .slice A7 (q - 3) (c3 - 3)] 75)).drew = wN := ⟨_, rfl⟩
              rw [hwN] at hbN hmN ⊢
              clear hwN
              have hcutI : Is wr A7 (q - 3) (c3 - 3) ((nums (r.drop 4) q).drop 3) := by
                have h := hrd'.out.cut 3 q (by omega) (Nat.le_refl _) A7 (fun b off e hlt => by
                  injection e with e
                  injection e with e1 e2 _
                  rw [← hA7, if_neg (by omega), e1, e2]) (fun e => by cases e) (fun _ e => by
                  rw [e] at hA7
                  split at hA7 <;> cases hA7)
                rw [← List.map_drop, List.take_of_length_le (by simp [nums_len])] at h
                exact h
              have hdrop : (nums r (r.length / 4)).drop 4 = (nums (r.drop 4) q).drop 3 := by
                have e : r.length / 4 = q + 1 := by have := hiq.out; have := hTr.out; omega
                rw [e, ← nums_drop]
                rfl
              have hIN := hcutI.below hbN
              have hxN := Lib.hid (hxr.out.trans (hbN.mono hxr.out.size))
              have e2 : wN.cell? ⟨b3, o3 + 2, none⟩ = some (.int .i64 (y2 : Nat)) := by rw [hbN.cell hl3]; exact d2
              obtain ⟨g0, g1, g2, _⟩ := hmN.mf
              obtain ⟨ss, hss⟩ : ∃ ss, (nums (r.drop 4) q).drop 3 = ss := ⟨_, rfl⟩
              rw [hss] at hIN
              have cM : ∀ d os, Calls Tryz.prog 151 #[.agg #[.int .i64 y0, .int .i64 y1, .slice A7 (q - 3) (c3 - 3)]] (Sort.grow (redrawn wN d) os) fun e w'' => e = .returned (.bool (mayM y0 y1 ss)) ∧ ∃ p : Regrown, w'' = Sort.grow (redrawn wN p.d) p.os := fun d os =>
                Calls.regrown_of (manMay_any y0 y1 A7 (q - 3) (c3 - 3) ss _ ((hT.below hxN.out).below (below_regrown wN d os)) (hIN.below (below_regrown wN d os)))
              have m0 := cell_regrown g0
              have m1 := cell_regrown g1
              have m2 := cell_regrown g2
              have me := cell_regrown e2
              have hmN' := Lib.hid hmN
              have hIN' := Lib.hid hIN
              have hss' := Lib.hid hss
              have hbN' := Lib.hid hbN
              clear hIN hcutI hss hmN hbN d0 d1 d2
              have hof : D = if y2 = q - 3 ∧ mayM y0 y1 ss = true then (true, (y0 : Int), (y1 : Int), ss) else (false, 0, 0, []) := by
                have e : r.length / 4 - 4 = q - 3 := by have := hiq.out; have := hTr.out; omega
                rw [← hrec'.out, ofRec, if_pos ⟨hpre'.out, h3, h4⟩, hdrop, hss'.out, hy0'.out, hy1'.out, hy2'.out, e]
              have hof' := Lib.hid hof
              clear hof hdrop
              by_cases hy : y2 = q - 3
              · have s1 : ((y2 : Int) != ((q - 3 : Nat) : Int)) = false := by rw [bne_eq_false_iff_eq]; omega
                obtain ⟨M, hM⟩ : ∃ M, mayM y0 y1 ss = M := ⟨_, rfl⟩
                rw [hM] at cM
                cases M
                · have hno : D = (false, 0, 0, []) := by rw [hof'.out, if_neg (fun h => by rw [hM] at h; cases h.2)]
                  clear hM hy
                  go_wp2_with fail
                  refine wp_region_quiet_below (by kernel_rfl) (by kernel_rfl) ?_
                  repeat (quiet_step (exact cM _ _))
                  refine wpQuiet_nil ?_
                  intro _ hw'
                  obtain ⟨⟨dq, osq⟩, hw''⟩ := hw'
                  subst hw''
                  have hbQ := below_regrown wN dq osq
                  obtain ⟨wQ, hwQ⟩ : ∃ wQ, Sort.grow (redrawn wN dq) osq = wQ := ⟨_, rfl⟩
                  rw [hwQ] at hbQ ⊢
                  clear hwQ
                  have hxQ := Lib.hid (hxN.out.trans (hbQ.mono hxN.out.size))
                  have hzQ := Lib.hid (hz.out.below ((hbw.out.trans (hbN'.out.mono hbw.out.size)).trans (hbQ.mono (by have := hbw.out.size; have := hbN'.out.size; omega))))
                  have hmQ := Lib.hid (hmN'.out.below hbQ)
                  have hIQ := Lib.hid (hIN'.out.below hbQ)
                  obtain ⟨f0, f1, f2, _⟩ := hzQ.out.mf
                  obtain ⟨p0, p1, p2, _⟩ := hmQ.out.mf
                  have z0 := hzQ.out.frozen 0
                  have z1 := hzQ.out.frozen 1
                  have z2 := hzQ.out.frozen 2
                  clear hbQ m0 m1 m2 me cM g0 g1 g2 e2
                  go_wp2_with fail
                  refine bodyPost_ret (res_mb rfl (mb_set hzQ.out 0 0 none 0 0) rfl rfl) rfl ?_
                  try rw [hno]
                  exact ⟨⟨none, 0, 0, rfl, Rd.none_ _⟩, below_set (below_set (below_set hxQ.out (Nat.le_refl _) _) (Nat.le_refl _) _) (Nat.le_refl _) _⟩
                · have hyes : D = (true, (y0 : Int), (y1 : Int), ss) := by rw [hof'.out, if_pos ⟨hy, hM⟩]
                  have hyes' := Lib.hid hyes
                  clear hM hy hyes
                  go_wp2_with fail
                  refine wp_region_quiet_below (by kernel_rfl) (by kernel_rfl) ?_
                  repeat (quiet_step (exact cM _ _))
                  refine wpQuiet_nil ?_
                  intro _ hw'
                  obtain ⟨⟨dq, osq⟩, hw''⟩ := hw'
                  subst hw''
                  have hbQ := below_regrown wN dq osq
                  obtain ⟨wQ, hwQ⟩ : ∃ wQ, Sort.grow (redrawn wN dq) osq = wQ := ⟨_, rfl⟩
                  rw [hwQ] at hbQ ⊢
                  clear hwQ
                  have hxQ := Lib.hid (hxN.out.trans (hbQ.mono hxN.out.size))
                  have hzQ := Lib.hid (hz.out.below ((hbw.out.trans (hbN'.out.mono hbw.out.size)).trans (hbQ.mono (by have := hbw.out.size; have := hbN'.out.size; omega))))
                  have hmQ := Lib.hid (hmN'.out.below hbQ)
                  have hIQ := Lib.hid (hIN'.out.below hbQ)
                  obtain ⟨f0, f1, f2, _⟩ := hzQ.out.mf
                  obtain ⟨p0, p1, p2, _⟩ := hmQ.out.mf
                  have z0 := hzQ.out.frozen 0
                  have z1 := hzQ.out.frozen 1
                  have z2 := hzQ.out.frozen 2
                  clear hbQ m0 m1 m2 me cM g0 g1 g2 e2
                  go_wp2_with fail
                  refine bodyPost_ret (res_mb rfl (mb_set hzQ.out y0 y1 A7 (q - 3) (c3 - 3)) rfl rfl) rfl ?_
                  rw [hyes'.out]
                  have hne : ∀ a, A7 = some a → 0 < q - 3 → a.block ≠ w.heap.size := by
                    intro a ha _
                    have hge := hb3.out
                    rw [← hA7] at ha
                    split at ha <;> (injection ha with ha; subst ha; simp only; omega)
                  exact ⟨⟨A7, q - 3, c3 - 3, rfl, rd_set (rd_set (rd_set hIQ.out hne _) hne _) hne _⟩, below_set (below_set (below_set hxQ.out (Nat.le_refl _) _) (Nat.le_refl _) _) (Nat.le_refl _) _⟩
              · have hno : D = (false, 0, 0, []) := by rw [hof'.out, if_neg (fun h => hy h.1)]
                have s1 : ((y2 : Int) != ((q - 3 : Nat) : Int)) = true := by rw [bne_iff_ne]; omega
                clear hy
                go_wp2_with fail
                refine wp_region_quiet_below (by kernel_rfl) (by kernel_rfl) ?_
                repeat (quiet_step (exact cM _ _))
                refine wpQuiet_nil ?_
                intro _ hw'
                obtain ⟨⟨dq, osq⟩, hw''⟩ := hw'
                subst hw''
                have hbQ := below_regrown wN dq osq
                obtain ⟨wQ, hwQ⟩ : ∃ wQ, Sort.grow (redrawn wN dq) osq = wQ := ⟨_, rfl⟩
                rw [hwQ] at hbQ ⊢
                clear hwQ
                have hxQ := Lib.hid (hxN.out.trans (hbQ.mono hxN.out.size))
                have hzQ := Lib.hid (hz.out.below ((hbw.out.trans (hbN'.out.mono hbw.out.size)).trans (hbQ.mono (by have := hbw.out.size; have := hbN'.out.size; omega))))
                have hmQ := Lib.hid (hmN'.out.below hbQ)
                have hIQ := Lib.hid (hIN'.out.below hbQ)
                obtain ⟨f0, f1, f2, _⟩ := hzQ.out.mf
                obtain ⟨p0, p1, p2, _⟩ := hmQ.out.mf
                have z0 := hzQ.out.frozen 0
                have z1 := hzQ.out.frozen 1
                have z2 := hzQ.out.frozen 2
                clear hbQ m0 m1 m2 me cM g0 g1 g2 e2
                go_wp2_with fail
                refine bodyPost_ret (res_mb rfl (mb_set hzQ.out 0 0 none 0 0) rfl rfl) rfl ?_
                try rw [hno]
                exact ⟨⟨none, 0, 0, rfl, Rd.none_ _⟩, below_set (below_set (below_set hxQ.out (Nat.le_refl _) _) (Nat.le_refl _) _) (Nat.le_refl _) _⟩
end Go.Proofs.YtfdpnjebhllpkaaGreatDoor.Ma
end

section
namespace Go.Proofs.YtfdpnjebhllpkaaGreatDoor.Ma
open Go.RowKit Go.Shelf

theorem recM_len (g la : Int) (ss : List Int) : (recM g la ss).length = 16 + 4 * ss.length := by
  unfold recM
  rw [List.length_append, les_len]
  simp [mag]
  omega

theorem les_drop (z : Int) (zs : List Int) (k : Nat) : (les (z :: zs)).drop (4 * (k + 1)) = (les zs).drop (4 * k) := by
  show (Fr.le z.toNat ++ les zs).drop (4 * (k + 1)) = _
  rw [show 4 * (k + 1) = (Fr.le z.toNat).length + 4 * k by rw [Fr.le_length]; omega, ← List.drop_drop, List.drop_append_of_le_length (Nat.le_refl _), List.drop_length, List.nil_append]

theorem num_les : ∀ (zs : List Int) (k : Nat), (∀ z ∈ zs, 0 ≤ z ∧ z < 4294967296) → (h : k < zs.length) → (num (les zs) k : Int) = zs[k] := by
  intro zs
  induction zs with
  | nil => intro k _ h; simp at h
  | cons z r ih =>
    intro k hz h
    cases k with
    | zero =>
      have := hz z (List.mem_cons_self ..)
      unfold num
      rw [Nat.mul_zero, List.drop_zero]
      show (Fr.get (Fr.le z.toNat ++ les r) : Int) = z
      rw [Fr.get_le _ (by omega)]
      omega
    | succ k =>
      have h' : k < r.length := by simpa using h
      have := ih k (fun x hx => hz x (List.mem_cons_of_mem _ hx)) h'
      unfold num at this ⊢
      rw [les_drop, this]
      simp

theorem nums_les (zs : List Int) (hz : ∀ z ∈ zs, 0 ≤ z ∧ z < 4294967296) : ∀ k, k ≤ zs.length → nums (les zs) k = zs.take k := by
  intro k
  induction k with
  | zero => intro _; rfl
  | succ k ih =>
    intro hk
    rw [nums, ih (by omega), num_les zs k hz (by omega)]
    rw [take_snoc (List.getElem?_eq_getElem (by omega))]

/-- What is told of a manifest's record is the manifest. -/
theorem ofRec_recM {g la : Int} {ss : List Int} (h : mayM g la ss = true) : ofRec (recM g la ss) = (true, g, la, ss) := by
  have hz := nums_lt h
  obtain ⟨zs, hzs⟩ : ∃ zs, g :: la :: (ss.length : Int) :: ss = zs := ⟨_, rfl⟩
  have hl : zs.length = 3 + ss.length := by rw [← hzs]; simp; omega
  rw [hzs] at hz
  have hr : recM g la ss = mag ++ les zs := by rw [recM, hzs]
  have hd : (recM g la ss).drop 4 = les zs := by rw [hr]; rfl
  have hlen := recM_len g la ss
  have hdiv : (recM g la ss).length / 4 = zs.length + 1 := by rw [hlen, hl]; omega
  have n1 : ((num (recM g la ss) 1 : Nat) : Int) = g := by
    rw [← num_drop, hd, num_les zs 0 hz (by omega)]
    simp [← hzs]
  have n2 : ((num (recM g la ss) 2 : Nat) : Int) = la := by
    rw [← num_drop, hd, num_les zs 1 hz (by omega)]
    simp [← hzs]
  have n3 : ((num (recM g la ss) 3 : Nat) : Int) = (ss.length : Int) := by
    rw [← num_drop, hd, num_les zs 2 hz (by omega)]
    simp [← hzs]
  have hn : (nums (recM g la ss) ((recM g la ss).length / 4)).drop 4 = ss := by
    rw [hdiv, ← nums_drop, hd, nums_les zs hz _ (Nat.le_refl _), List.take_length, ← hzs]
    rfl
  unfold ofRec
  rw [if_pos ⟨by rw [hr]; rfl, by rw [hlen]; omega, by rw [hlen]; omega⟩, hn, n1, n2]
  rw [if_pos ⟨by rw [hlen]; omega, h⟩]

theorem encM_len {g la : Int} {ss : List Int} (h : mayM g la ss = true) : (encM g la ss).length = 24 + 4 * ss.length ∧ encM g la ss = Fr.frame (recM g la ss) := by
  obtain ⟨_, _, _, h4, h5, _⟩ := may_facts h
  have hlen := recM_len g la ss
  have e : encM g la ss = Fr.frame (recM g la ss) := by
    unfold encM Fr.put
    rw [h, if_pos rfl, if_neg (by omega)]
  rw [e, Fr.frame_length, hlen]
  exact ⟨by omega, rfl⟩

/-- What a manifest's bytes are is read as it. -/
theorem decM_encM {g la : Int} {ss : List Int} (h : mayM g la ss = true) : decM (encM g la ss) = (true, g, la, ss) := by
  obtain ⟨_, _, _, h4, h5, _⟩ := may_facts h
  obtain ⟨hl, he⟩ := encM_len h
  have hlen := recM_len g la ss
  have hn := Fr.next_frame (recM g la ss) [] (by omega) (by omega)
  rw [List.append_nil, ← he] at hn
  unfold decM
  rw [hn, if_pos ⟨rfl, by simp only; rw [hl, hlen]; omega⟩]
  exact ofRec_recM h

/-- With a byte more it is none. -/
theorem decM_more {g la : Int} {ss : List Int} (h : mayM g la ss = true) (x : UInt8) : decM (encM g la ss ++ [x]) = (false, 0, 0, []) := by
  obtain ⟨_, _, _, h4, h5, _⟩ := may_facts h
  obtain ⟨hl, he⟩ := encM_len h
  have hlen := recM_len g la ss
  have hn := Fr.next_frame (recM g la ss) [x] (by omega) (by omega)
  rw [← he] at hn
  unfold decM
  rw [hn, if_neg]
  rintro ⟨_, h2⟩
  rw [List.length_append, hl] at h2
  simp at h2
  omega

/-- With a byte fewer it is none. -/
theorem decM_fewer {g la : Int} {ss : List Int} (h : mayM g la ss = true) : decM ((encM g la ss).take ((encM g la ss).length - 1)) = (false, 0, 0, []) := by
  obtain ⟨_, _, _, h4, h5, _⟩ := may_facts h
  obtain ⟨hl, he⟩ := encM_len h
  have hlen := recM_len g la ss
  have hn := Fr.next_stop (recM g la ss) [] ((encM g la ss).length - 1) (by omega) (by omega) (by rw [hl]; omega)
  rw [List.append_nil, ← he] at hn
  unfold decM
  rw [hn, if_neg]
  rintro ⟨h1, _⟩
  simp only at h1
  split at h1 <;> omega
end Go.Proofs.YtfdpnjebhllpkaaGreatDoor.Ma
end

section
namespace Go.Proofs.YtfdpnjebhllpkaaGreatDoor.Mn
open Go Dk Ma

theorem before_same : ∀ (a x y : List UInt8), bytesBefore (a ++ x) (a ++ y) = bytesBefore x y
  | [], _, _ => rfl
  | c :: a, x, y => by
    have := before_same a x y
    simp [bytesBefore, this]
theorem before_longer : ∀ {a b : List UInt8}, a.length = b.length → bytesBefore a b = true → ∀ x y, bytesBefore (a ++ x) (b ++ y) = true
  | [], [], _, h, _, _ => by simp [bytesBefore] at h
  | [], _ :: _, h, _, _, _ => by simp at h
  | _ :: _, [], h, _, _, _ => by simp at h
  | a :: r, b :: s, hl, h, x, y => by
    simp only [bytesBefore, List.cons_append, Bool.or_eq_true, Bool.and_eq_true, decide_eq_true_eq, beq_iff_eq] at h ⊢
    rcases h with h | ⟨e, h⟩
    · exact .inl h
    · exact .inr ⟨e, before_longer (by simpa using hl) h x y⟩
theorem before_digits : ∀ (k n m : Nat), n < m → m < 10 ^ k → bytesBefore (Nu.digitsK k n) (Nu.digitsK k m) = true
  | 0, n, m, h, hm => by simp at hm; omega
  | k + 1, n, m, h, hm => by
    rw [Nat.pow_succ] at hm
    rw [Nu.digitsK, Nu.digitsK]
    by_cases e : n / 10 = m / 10
    · rw [e, before_same]
      have h1 : (UInt8.ofNat (48 + n % 10)) < UInt8.ofNat (48 + m % 10) := by
        rw [UInt8.lt_iff_toNat_lt, UInt8.toNat_ofNat', UInt8.toNat_ofNat']
        omega
      unfold bytesBefore
      rw [decide_eq_true h1, Bool.true_or]
    · exact before_longer (by rw [Nu.digitsK_len, Nu.digitsK_len]) (before_digits k _ _ (by omega) (by omega)) _ _

theorem genR_name {x : List UInt8} {g : Int} (h : genR x = (g, true)) : okN g = true ∧ x = nameOf man4 g := by
  unfold genR at h
  split at h
  · rename_i hx
    cases hd : Lib.decFrom 0 (x.drop 4) with
    | none => rw [hd] at h; simp at h
    | some v =>
      rw [hd] at h
      simp only [Prod.mk.injEq, decide_eq_true_eq] at h
      obtain ⟨rfl, hv0⟩ := h
      have hl8 : (x.drop 4).length = 8 := by rw [List.length_drop]; omega
      have hdig := digits_dec 8 v (x.drop 4) hl8 hd
      have hv := Lib.decFrom_lt (x.drop 4) 0 v hd
      rw [hl8] at hv
      have hok : okN (v : Int) = true := by unfold okN; rw [decide_eq_true_eq]; simp at hv; omega
      refine ⟨hok, ?_⟩
      unfold nameOf
      rw [hok, if_pos rfl, Int.toNat_natCast, ← hx.2, show Nu.eight v = x.drop 4 from hdig.symm, List.take_append_drop]
  · simp at h

theorem name_form {g : Int} (h : okN g = true) : nameOf man4 g = man4 ++ Nu.eight g.toNat := by unfold nameOf; rw [h, if_pos rfl]
theorem name_rise {g g' : Int} (h : okN g = true) (h' : okN g' = true) (hlt : g < g') : bytesBefore (nameOf man4 g) (nameOf man4 g') = true := by
  rw [name_form h, name_form h', before_same]
  unfold okN at h h'
  rw [decide_eq_true_eq] at h h'
  exact before_digits 8 _ _ (by omega) (by omega)
theorem digits_letter : ∀ (k n : Nat), (Nu.digitsK k n).all letter = true
  | 0, _ => rfl
  | k + 1, n => by
    rw [Nu.digitsK, List.all_append, digits_letter k]
    have : letter (UInt8.ofNat (48 + n % 10)) = true := by
      unfold letter
      have h : (UInt8.ofNat (48 + n % 10)).toNat = 48 + n % 10 := by rw [UInt8.toNat_ofNat']; omega
      rw [h]
      simp
      omega
    rw [List.all_cons, this]
    rfl

/-- Manifests: generation, last version, segments. -/
abbrev Mf := Int × Int × List Int
def cand (x : Name) (b : List UInt8) : Option Mf :=
  if (genR x).2 = true ∧ (decM b).1 = true ∧ (decM b).2.1 = (genR x).1 then some (decM b).2 else none
def cod : Cod Mf where
  gen m := m.1
  name m := nameOf man4 m.1
  enc m := encM m.1 m.2.1 m.2.2
  cand := cand
  ok m := mayM m.1 m.2.1 m.2.2 = true

theorem cand_name {x : Name} {b : List UInt8} {m : Mf} (h : cand x b = some m) : okN m.1 = true ∧ x = nameOf man4 m.1 ∧ decM b = (true, m) := by
  unfold cand at h
  split at h
  · rename_i hx
    injection h with h
    subst h
    obtain ⟨h1, h2, h3⟩ := hx
    obtain ⟨g1, g2⟩ := genR_name (x := x) (g := (genR x).1) (by rw [← h1])
    rw [← h3] at g1 g2
    exact ⟨g1, g2, by rw [← h2]⟩
  · cases h

theorem good : cod.Good where
  enc_ := fun m h => by
    have h' : mayM m.1 m.2.1 m.2.2 = true := h
    show cand (nameOf man4 m.1) (encM m.1 m.2.1 m.2.2) = some m
    unfold cand
    rw [genR_of_name (may_facts h').1, decM_encM h', if_pos ⟨rfl, rfl, rfl⟩]
  tmp_ := fun b => by
    show cand tmp b = none
    unfold cand
    rw [if_neg]
    intro h
    have : (genR tmp).2 = false := by decide
    rw [this] at h
    cases h.1
  rise := fun x y b c m m' h h' hb => by
    obtain ⟨h1, rfl, _⟩ := cand_name h
    obtain ⟨k1, rfl, _⟩ := cand_name h'
    show m.1 < m'.1
    rcases Int.lt_trichotomy m.1 m'.1 with e | e | e
    · exact e
    · rw [e, before_irrefl] at hb
      cases hb
    · have := before_trans hb (name_rise k1 h1 e)
      rw [before_irrefl] at this
      cases this
  may_ := fun m h => by
    have hok := (may_facts (g := m.1) (la := m.2.1) (ss := m.2.2) h).1
    show may (nameOf man4 m.1) = true
    rw [name_form hok]
    unfold may
    rw [List.all_append, List.length_append, Nu.eight_len]
    have h1 : man4.all letter = true := by decide
    have h2 : (Nu.eight m.1.toNat).all letter = true := digits_letter 8 _
    rw [h1, h2]
    simp [man4]
  ne := fun m h e => by
    have hok := (may_facts (g := m.1) (la := m.2.1) (ss := m.2.2) h).1
    have e' : nameOf man4 m.1 = tmp := e
    rw [name_form hok] at e'
    have := congrArg List.length e'
    rw [List.length_append, Nu.eight_len] at this
    simp [man4, tmp] at this
  same := fun m m' h h' => by
    have h1 := (may_facts (g := m.1) (la := m.2.1) (ss := m.2.2) h).1
    have h2 := (may_facts (g := m'.1) (la := m'.2.1) (ss := m'.2.2) h').1
    show m.1 = m'.1 ↔ nameOf man4 m.1 = nameOf man4 m'.1
    refine ⟨fun e => by rw [e], fun e => ?_⟩
    have e1 := genR_of_name h1
    rw [e, genR_of_name h2] at e1
    exact (Prod.mk.inj e1).1.symm
  len := fun m h => by
    have h' : mayM m.1 m.2.1 m.2.2 = true := h
    show (encM m.1 m.2.1 m.2.2).length ≤ 300
    rw [(encM_len h').1]
    have := (may_facts h').2.2.2.2.1
    omega
end Go.Proofs.YtfdpnjebhllpkaaGreatDoor.Mn
end
