/- scan of the scanner. Printed by xl_scan.py. -/
import Derived.Test.YtokdnhdfmgfkeaaGreatDoorMStrLaws
import Derived.Test.YtokdnhdfmgfkeaaGreatDoorMXlCatch
import Derived.Test.YtokdnhdfmgfkeaaGreatDoorMXlRname
section
namespace Go.Proofs.YtokdnhdfmgfkeaaGreatDoor.Xl
open Go.RowKit UtfW Qx

def Cd (c : Int) : Prop := c = 2 ∨ c = 4 ∨ c = 5 ∨ c = 6
theorem cd2 : Cd 2 := .inl rfl
theorem cd4 : Cd 4 := .inr (.inl rfl)
theorem cd5 : Cd 5 := .inr (.inr (.inl rfl))
theorem cd6 : Cd 6 := .inr (.inr (.inr rfl))
theorem Cd.ne {c : Int} (h : Cd c) : c ≠ 0 := by rcases h with h | h | h | h <;> omega
theorem eat_cd {t r : Tx} {c : Int} {o : Nat} (h : eat t r = .bad c o) : Cd c := by
  rcases (eat_bad h).2.1 with rfl | rfl
  · exact cd6
  · exact cd2
theorem upto_cd {t r : Tx} {c : Int} {o : Nat} (h : upto t r = .bad c o) : Cd c := by
  unfold upto at h
  split at h
  · injection h with h1 _; rw [← h1]; exact cd6
  · cases h
theorem name_cd {r : Tx} {c : Int} {o : Nat} (h : name r = .bad c o) : Cd c := by
  unfold name at h
  split at h
  · injection h with h1 _; rw [← h1]; exact cd6
  · split at h
    · injection h with h1 _; rw [← h1]; exact cd2
    · cases h
theorem refR_cd {r : Tx} {c : Int} {o : Nat} (h : refR r = .bad c o) : Cd c := by
  unfold refR at h
  split at h
  · injection h with h1 _; rw [← h1]; exact cd5
  · split at h
    · injection h with h1 _; rw [← h1]; exact cd5
    · cases h
theorem valF_cd : ∀ {f : Nat} {q : UInt8} {r out : Tx} {c : Int} {o : Nat}, valF f q r out = .bad c o → Cd c
  | 0, q, r, out, c, o, h => by rw [valF] at h; injection h with h1 _; rw [← h1]; exact cd6
  | f + 1, q, [], out, c, o, h => by rw [valF] at h; injection h with h1 _; rw [← h1]; exact cd6
  | f + 1, q, x :: t, out, c, o, h => by
    rw [valF] at h
    split at h
    · cases h
    · split at h
      · injection h with h1 _; rw [← h1]; exact cd2
      · split at h
        · split at h
          · rename_i e p hr
            injection h with h1 _
            rw [← h1]
            exact refR_cd hr
          · obtain ⟨p, hp, _⟩ := shift_bad h
            exact valF_cd hp
        · split at h
          · obtain ⟨p, hp, _⟩ := shift_bad h
            exact valF_cd hp
          · obtain ⟨p, hp, _⟩ := shift_bad h
            exact valF_cd hp
theorem value_cd {r : Tx} {c : Int} {o : Nat} (h : value r = .bad c o) : Cd c := by
  unfold value at h
  split at h
  · injection h with h1 _; rw [← h1]; exact cd6
  · split at h
    · obtain ⟨p, hp, _⟩ := shift_bad h
      exact valF_cd hp
    · injection h with h1 _; rw [← h1]; exact cd2
theorem textF_cd : ∀ {f : Nat} {r out : Tx} {c : Int} {o : Nat}, textF f r out = .bad c o → Cd c
  | 0, r, out, c, o, h => by rw [textF] at h; injection h with h1 _; rw [← h1]; exact cd6
  | f + 1, [], out, c, o, h => by rw [textF] at h; cases h
  | f + 1, x :: t, out, c, o, h => by
    rw [textF] at h
    split at h
    · cases h
    · split at h
      · split at h
        · rename_i e p hr
          injection h with h1 _
          rw [← h1]
          exact refR_cd hr
        · obtain ⟨p, hp, _⟩ := shift_bad h
          exact textF_cd hp
      · split at h
        · obtain ⟨p, hp, _⟩ := shift_bad h
          exact textF_cd hp
        · split at h
          · injection h with h1 _; rw [← h1]; exact cd2
          · obtain ⟨p, hp, _⟩ := shift_bad h
            exact textF_cd hp
theorem attr_cd {there : List At} {r : Tx} {c : Int} {o : Nat} (h : attr there r = .bad c o) : Cd c := by
  unfold attr at h
  split at h
  · rename_i hn
    injection h with h1 _; rw [← h1]; exact name_cd hn
  · split at h
    · injection h with h1 _; rw [← h1]; exact cd4
    · split at h
      · rename_i he
        injection h with h1 _; rw [← h1]; exact eat_cd he
      · split at h
        · rename_i hv
          injection h with h1 _; rw [← h1]; exact value_cd hv
        · cases h
theorem tagF_cd : ∀ {f : Nat} {r : Tx} {ats : List At} {c : Int} {o : Nat}, tagF f r ats = .bad c o → Cd c
  | 0, r, ats, c, o, h => by rw [tagF] at h; injection h with h1 _; rw [← h1]; exact cd6
  | f + 1, r, ats, c, o, h => by
    cases hd : r.drop (blanks r) with
    | nil =>
      rw [tagF_nil f ats hd] at h
      injection h with h1 _; rw [← h1]; exact cd6
    | cons x t =>
      rw [tagF_cons f ats hd] at h
      split at h
      · cases h
      · split at h
        · split at h
          · rename_i he
            injection h with h1 _; rw [← h1]; exact eat_cd he
          · cases h
        · split at h
          · injection h with h1 _; rw [← h1]; exact cd2
          · split at h
            · rename_i ha
              injection h with h1 _; rw [← h1]; exact attr_cd ha
            · obtain ⟨p, hp, _⟩ := shift_bad h
              exact tagF_cd hp
theorem tag_cd {r : Tx} {c : Int} {o : Nat} (h : tag r = .bad c o) : Cd c := by
  unfold tag at h
  split at h
  · rename_i hn
    injection h with h1 _; rw [← h1]; exact name_cd hn
  · split at h
    · rename_i ht
      injection h with h1 _; rw [← h1]; exact tagF_cd ht
    · cases h
theorem instr_cd {r : Tx} {c : Int} {o : Nat} (h : instr r = .bad c o) : Cd c := by
  unfold instr at h
  split at h
  · rename_i hn
    injection h with h1 _; rw [← h1]; exact name_cd hn
  · split at h
    · injection h with h1 _; rw [← h1]; exact cd2
    · split at h
      · split at h
        · rename_i he
          injection h with h1 _; rw [← h1]; exact eat_cd he
        · cases h
      · split at h
        · rename_i hu
          injection h with h1 _; rw [← h1]; exact upto_cd hu
        · cases h
theorem comment_cd {r : Tx} {c : Int} {o : Nat} (h : comment r = .bad c o) : Cd c := by
  unfold comment at h
  split at h
  · rename_i hu
    injection h with h1 _; rw [← h1]; exact upto_cd hu
  · split at h
    · injection h with h1 _; rw [← h1]; exact cd6
    · split at h
      · cases h
      · injection h with h1 _; rw [← h1]; exact cd2
theorem cdata_cd {r : Tx} {c : Int} {o : Nat} (h : cdata r = .bad c o) : Cd c := by
  unfold cdata at h
  split at h
  · rename_i hu
    injection h with h1 _; rw [← h1]; exact upto_cd hu
  · cases h
theorem endT_cd {r : Tx} {c : Int} {o : Nat} (h : endT r = .bad c o) : Cd c := by
  unfold endT at h
  split at h
  · rename_i hn
    injection h with h1 _; rw [← h1]; exact name_cd hn
  · split at h
    · rename_i he
      injection h with h1 _; rw [← h1]; exact eat_cd he
    · cases h
theorem mark_cd' {r : Tx} {c : Int} {o : Nat} (h : mark r = .bad c o) : Cd c := by
  unfold mark at h
  split at h
  · exact comment_cd h
  · split at h
    · exact cdata_cd h
    · split at h
      · injection h with h1 _; rw [← h1]; exact cd6
      · injection h with h1 _; rw [← h1]; exact cd2
theorem chars_cd {r : Tx} {c : Int} {o : Nat} (h : chars r = .bad c o) : Cd c := by
  unfold chars at h
  split at h
  · rename_i ht
    injection h with h1 _; rw [← h1]; exact textF_cd ht
  · cases h
theorem token_cd {r : Tx} {c : Int} {o : Nat} (h : token r = .bad c o) : Cd c := by
  unfold token at h
  split at h
  · exact chars_cd h
  · split at h
    · exact mark_cd' h
    · split at h
      · exact instr_cd h
      · split at h
        · exact endT_cd h
        · exact tag_cd h
theorem decl_cd {S : Tx} {c : Int} {o : Nat} (h : decl S = .bad c o) : Cd c := by
  unfold decl at h
  split at h
  · split at h
    · rename_i hu
      injection h with h1 _; rw [← h1]; exact upto_cd hu
    · split at h
      · cases h
      · injection h with h1 _; rw [← h1]; exact cd2
  · cases h
end Go.Proofs.YtokdnhdfmgfkeaaGreatDoor.Xl
end

section
namespace Go.Proofs.YtokdnhdfmgfkeaaGreatDoor.Xl
open Go.RowKit UtfW

def scanF (S : Tx) : Int × Nat × List Tok := match decl S with
  | .bad c o => (c, o, [])
  | .ok _ n => runF (S.length + 1) (S.drop n) n []
section
variable {S : Tx} {f q n o : Nat} {ts : List Tok} {t : Tok} {ec : Int}
theorem run_end1 (h : S.length ≤ q) : runF (f + 1) (S.drop q) q ts = (0, 0, ts) := by
  rw [runF, if_pos (drop_end h)]
theorem run_bad1 (h : q < S.length) (ht : token (S.drop q) = .bad ec o) : runF (f + 1) (S.drop q) q ts = (ec, q + o, []) := by
  rw [runF, if_neg (by rw [List.drop_eq_nil_iff]; omega), ht]
theorem run_ok1 (h : q < S.length) (ht : token (S.drop q) = .ok t n) : runF (f + 1) (S.drop q) q ts = runF f (S.drop (q + n)) (q + n) (ts ++ [{ t with at_ := q }]) := by
  rw [runF, if_neg (by rw [List.drop_eq_nil_iff]; omega), ht]
  simp only [List.drop_drop]
end
theorem Xc.set2 {w : World} {b : Nat} {S : Tx} {k : Nat} {A : Option Addr} {c : Nat} {vo : Value} (h : Xc w b S k A c vo) (vo' : Value) : Xc (w.setCell ⟨b, 2, none⟩ vo') b S k A c vo' ∧ w.grownBy (w.setCell ⟨b, 2, none⟩ vo') (some b) := by
  have hg := grown_set w ⟨b, 2, none⟩ vo'
  exact ⟨h.on hg (blk_setCell h.blk _), hg⟩
theorem OwTk.low {w : World} {B B' : Nat} {v : Value} {ts : List Tok} (h : OwTk w B v ts) (hB : B' ≤ B) : OwTk w B' v ts := by
  obtain ⟨xs, h1, h2⟩ := h
  refine ⟨xs, Joins.ownsRow_le h1 hB, h2.mono ?_⟩
  rintro vs t ⟨A, c, rfl, ho⟩
  exact ⟨A, c, rfl, OwS.low ho hB⟩
def Nb (w : World) (p : Nat) (x : Int) (E : TypeId) : Prop := w.heap[p]? = some (.cells #[.int .i64 x] E)
theorem Nb.cell {w : World} {p : Nat} {x : Int} {E : TypeId} (h : Nb w p x E) : w.cell? ⟨p, 0, none⟩ = some (.int .i64 x) := by unfold Nb at h; simp [World.cell?, h]
theorem Nb.frozen {w : World} {p : Nat} {x : Int} {E : TypeId} (h : Nb w p x E) : w.frozen? ⟨p, 0, none⟩ = false := frozen_of_row w p 0 _ _ h
theorem Nb.on {w w' : World} {p b : Nat} {x : Int} {E : TypeId} (h : Nb w p x E) (hg : w.grownBy w' (some b)) (hne : p ≠ b) : Nb w' p x E := (hg.block p (Array.getElem?_eq_some_iff.1 h).1 (by simpa using hne)).trans h

theorem two_p {w : World} {p : Nat} {x y z : Int} {E : TypeId} (h : Nb w p x E) : Nb ((w.setCell ⟨p, 0, none⟩ (.int .i64 y)).setCell ⟨p + 1, 0, none⟩ (.int .i64 z)) p y E := by
  have h1 : Nb (w.setCell ⟨p, 0, none⟩ (.int .i64 y)) p y E := blk_setCell h (i := 0) _
  exact h1.on (grown_set _ ⟨p + 1, 0, none⟩ _) (by simp)
theorem two_q {w : World} {p : Nat} {x y z : Int} {E : TypeId} (h : Nb w (p + 1) x E) : Nb ((w.setCell ⟨p, 0, none⟩ (.int .i64 y)).setCell ⟨p + 1, 0, none⟩ (.int .i64 z)) (p + 1) z E := by
  have h1 : Nb (w.setCell ⟨p, 0, none⟩ (.int .i64 y)) (p + 1) x E := h.on (grown_set w ⟨p, 0, none⟩ _) (by simp)
  exact blk_setCell h1 (i := 0) _
theorem grown_two {w w3 wc : World} {p b : Nat} {x y : Value} (hg : w.grownBy w3 (some b)) (hb : Below w3.heap.size w3 wc) (hp : w.heap.size = p) : w.grownBy ((wc.setCell ⟨p, 0, none⟩ x).setCell ⟨p + 1, 0, none⟩ y) (some b) := by
  have h2 := ((hb.mono hg.size).setCell (p := ⟨p, 0, none⟩) (Nat.le_of_eq hp) x).setCell (p := ⟨p + 1, 0, none⟩) (by show w.heap.size ≤ p + 1; omega) y
  exact ⟨h2.os.trans hg.os, h2.tape.trans hg.tape, h2.output.trans hg.output, Nat.le_trans hg.size h2.size, fun j hj hne => (h2.block j hj).trans (hg.block j hj hne)⟩
theorem scan_caught {R : Ending → World → Prop} (p : Nat) (ec eo : Int) (tmps : Array Value) (w3 : World) (hp : Nb w3 p 0 38) (hq : Nb w3 (p + 1) 0 3)
    (h2 : tmps.getD 2 undef = .pointer (some ⟨p, 0, none⟩)) (h3 : tmps.getD 3 undef = .pointer (some ⟨p + 1, 0, none⟩))
    (hfin : ∀ wc, Below w3.heap.size w3 wc → R (.returned (.tuple #[.int .i64 ec, .int .i64 eo])) ((wc.setCell ⟨p, 0, none⟩ (.int .i64 ec)).setCell ⟨p + 1, 0, none⟩ (.int .i64 eo))) :
    bodyPostD Tryz.prog Tryz.f95 R (.panic [wr ec eo]) { tmps := tmps, defers := [{ target := .fn (.func 127) #[.pointer (some ⟨p, 0, none⟩), .pointer (some ⟨p + 1, 0, none⟩)], args := #[] }] } w3 := by
  refine leaves_cons (f := 127) (args := #[.pointer (some ⟨p, 0, none⟩), .pointer (some ⟨p + 1, 0, none⟩)]) (by simp) (by simp [go_sem]) ?_
  refine (catch_pan p (p + 1) ec eo 0 0 w3 hp.cell hq.cell hp.frozen hq.frozen (by omega)).mono ?_
  rintro e u' w'' ⟨rfl, rfl, wc, hbc, rfl⟩
  have hp2 : Nb wc p 0 38 := (hbc.block p (Array.getElem?_eq_some_iff.1 hp).1).trans hp
  have hq2 : Nb wc (p + 1) 0 3 := (hbc.block (p + 1) (Array.getElem?_eq_some_iff.1 hq).1).trans hq
  have hp3 := (two_p (y := ec) (z := eo) hp2).cell
  have hq3 := (two_q (y := ec) (z := eo) hq2).cell
  have hf := hfin wc hbc
  generalize (wc.setCell ⟨p, 0, none⟩ (.int .i64 ec)).setCell ⟨p + 1, 0, none⟩ (.int .i64 eo) = w9 at hp3 hq3 hf ⊢
  have h2' : tmps[2]?.getD undef = .pointer (some ⟨p, 0, none⟩) := by simpa using h2
  have h3' : tmps[3]?.getD undef = .pointer (some ⟨p + 1, 0, none⟩) := by simpa using h3
  simp [Leaves, settle, results, Tryz.results95, go_sem, h2', h3', hp3, hq3]
  exact hf

theorem leaves_tmps {P : Program} {fn : Func} {R : Ending → World → Prop} {t1 t2 : Array Value} (h : results fn t1 = results fn t2) : ∀ (ds : List Deferred) (u : FrameMode) (w : World), Leaves P fn t1 R ds u w → Leaves P fn t2 R ds u w
  | [], .returning, w, hl => by
    obtain ⟨v, h1, h2⟩ := hl
    exact ⟨v, by rw [← h]; exact h1, h2⟩
  | [], .panicking _, w, hl => hl
  | [], .run, w, hl => hl
  | d :: ds, u, w, hl => by
    obtain ⟨hu, fv, cap, f, args, h1, h2, h3⟩ := hl
    refine ⟨hu, fv, cap, f, args, h1, h2, h3.mono fun e u' w' he => ?_⟩
    cases e with
    | returned v => exact leaves_tmps h ds _ _ he
    | panicked c => exact leaves_tmps h ds _ _ he
    | outgrown => exact he
theorem scan_put {R : Ending → World → Prop} {d : Nat} (h2 : d ≠ 2) (h3 : d ≠ 3) {v : Value} {c : List PanicEntry} {a : Act} {w : World} (h : bodyPostD Tryz.prog Tryz.f95 R (.panic c) (a.put (some d) v) w) :
    bodyPostD Tryz.prog Tryz.f95 R (.panic c) a w := by
  refine leaves_tmps ?_ _ _ _ h
  simp [results, Tryz.results95, Act.put, h2, h3]
theorem scan_idle {R : Ending → World → Prop} (p : Nat) (ec eo : Int) (tmps : Array Value) (w3 : World) (hp : Nb w3 p ec 38) (hq : Nb w3 (p + 1) eo 3)
    (h2 : tmps.getD 2 undef = .pointer (some ⟨p, 0, none⟩)) (h3 : tmps.getD 3 undef = .pointer (some ⟨p + 1, 0, none⟩))
    (hfin : R (.returned (.tuple #[.int .i64 ec, .int .i64 eo])) w3) :
    bodyPostD Tryz.prog Tryz.f95 R .ret { tmps := tmps, defers := [{ target := .fn (.func 127) #[.pointer (some ⟨p, 0, none⟩), .pointer (some ⟨p + 1, 0, none⟩)], args := #[] }] } w3 := by
  refine leaves_cons (f := 127) (args := #[.pointer (some ⟨p, 0, none⟩), .pointer (some ⟨p + 1, 0, none⟩)]) (by simp) (by simp [go_sem]) ?_
  refine (catch_idle ⟨p, 0, none⟩ ⟨p + 1, 0, none⟩ w3).mono ?_
  rintro e u' w'' ⟨rfl, rfl, rfl⟩
  have hp3 := hp.cell
  have hq3 := hq.cell
  have h2' : tmps[2]?.getD undef = .pointer (some ⟨p, 0, none⟩) := by simpa using h2
  have h3' : tmps[3]?.getD undef = .pointer (some ⟨p + 1, 0, none⟩) := by simpa using h3
  simp [Leaves, settle, results, Tryz.results95, go_sem, h2', h3', hp3, hq3]
  exact hfin

section
variable (w : World) (b : Nat) (S : Tx) (A : Option Addr) (c : Nat)
set_option maxHeartbeats 4000000 in
set_option maxRecDepth 100000 in
theorem scan_any (h : Xc w b S 0 A c (.slice none 0 0)) (hS : S.length ≤ 65536) :
    Calls Tryz.prog 95 #[.pointer (some ⟨b, 0, none⟩)] w fun e w' => e = .returned (.tuple #[.int .i64 (scanF S).1, .int .i64 ((scanF S).2.1 : Nat)]) ∧ w.grownBy w' (some b) ∧ ((scanF S).1 = 0 → ∃ va q, Xc w' b S q A c va ∧ OwTk w' w.heap.size va (scanF S).2.2) := by
  have hmf : ∀ (fn : Fn) (first cap : Array Value) (w : World), (Instr.makeFunc fn first cap).run Tryz.prog w = .ok (.func fn first cap) w := fun _ _ _ _ => rfl
  have hbw := h.lt
  have hb1 := below_alloc w (.cells #[.int .i64 0] 38)
  have hn1 : Nb (w.alloc (.cells #[.int .i64 0] 38)) w.heap.size 0 38 := heap_alloc_new w _
  obtain ⟨p, hp⟩ : ∃ p, w.heap.size = p := ⟨_, rfl⟩
  obtain ⟨w1, hw1⟩ : ∃ w1, w.alloc (.cells #[.int .i64 0] 38) = w1 := ⟨_, rfl⟩
  have hsz1 : w1.heap.size = p + 1 := by rw [← hw1, ← hp]; exact Array.size_push _
  rw [hw1] at hb1 hn1
  rw [hp] at hn1
  have hb2 := below_alloc w1 (.cells #[.int .i64 0] 3)
  have hn2 : Nb (w1.alloc (.cells #[.int .i64 0] 3)) w1.heap.size 0 3 := heap_alloc_new w1 _
  have hn1' : Nb (w1.alloc (.cells #[.int .i64 0] 3)) p 0 38 := (hb2.block p (by omega)).trans hn1
  rw [hsz1] at hn2
  have hb12 := Lib.hid (hb1.trans (hb2.mono hb1.size))
  have hpb : p ≠ b := by omega
  have hqb : p + 1 ≠ b := by omega
  have hs2 := Lib.hid (h.below hb12.out)
  have hN1 := Lib.hid hn1'
  have hN2 := Lib.hid hn2
  have h0 := Lib.hid h
  have hp' := Lib.hid hp
  have hsz1' := Lib.hid hsz1
  obtain ⟨R, hR⟩ : ∃ R, scanF S = R := ⟨_, rfl⟩
  rw [hR]
  have hR' := Lib.hid hR
  clear h hb1 hb2 hn1 hn2 hn1' hR
  go_enter_defers Tryz.func95, Tryz.ntmps95
  go_wp2_with fail
  refine (decl_any _ b S A c (.slice none 0 0) hs2.out hS).mono ?_
  rintro e w3 ⟨hg3, hG⟩
  have hNp : Nb w3 p 0 38 := hN1.out.on hg3 hpb
  have hNq : Nb w3 (p + 1) 0 3 := hN2.out.on hg3 hqb
  have hgw := (grown_in (r := some b) hb12.out).trans hg3
  cases hde : decl S with
  | bad ec eo =>
    rw [hde] at hG
    subst hG
    have hRe : Hid (R = (ec, eo, [])) := Lib.hid (by rw [← hR'.out]; unfold scanF; rw [hde])
    have hgd := hgw
    have hde' := Lib.hid hde
    clear hde
    go_wp2_with fail
    refine scan_caught p ec (eo : Nat) _ w3 hNp hNq rfl rfl fun wc hbc => ?_
    have hgc : w.grownBy ((wc.setCell ⟨p, 0, none⟩ (.int .i64 ec)).setCell ⟨p + 1, 0, none⟩ (.int .i64 (eo : Nat))) (some b) :=
      grown_two hgd hbc hp'.out
    rw [hRe.out]
    exact ⟨by simp, hgc, fun e => absurd e (decl_cd hde'.out).ne⟩
  | ok u n =>
    rw [hde] at hG
    obtain ⟨rfl, hs3⟩ := hG
    rw [Nat.zero_add] at hs3
    have hdl := decl_len hde
    have hRe : Hid (runF (S.length + 1) (S.drop n) n [] = R) := Lib.hid (by rw [← hR'.out]; unfold scanF; rw [hde])
    have hs3' := Lib.hid hs3
    have hg3' := Lib.hid hg3
    have hNp' := Lib.hid hNp
    have hNq' := Lib.hid hNq
    have hgw' := Lib.hid hgw
    clear hde hs3 hg3 hNp hNq hgw hN1 hN2 hs2
    obtain ⟨B, hB⟩ : ∃ B, w3.heap.size = B := ⟨_, rfl⟩
    have hbB : b < B := by have := hgw'.out.size; omega
    have hwB : w.heap.size ≤ B := by have := hgw'.out.size; omega
    have hB' := Lib.hid hB
    have hbB' := Lib.hid hbB
    have hwB' := Lib.hid hwB
    have hpB : Hid (p + 1 < B) := Lib.hid (by have := (Array.getElem?_eq_some_iff.1 hNq'.out).1; omega)
    clear hB hbB hwB
    go_upto_region 3 with fail
    go_loopg [] (S.length + 1) (fun m wr => ∃ (q f : Nat) (ts : List Tok) (va : Value), q ≤ S.length ∧ S.length - q < m ∧ ts.length ≤ q ∧ Hid (S.length - q < f) ∧ Hid (runF f (S.drop q) q ts = R) ∧ Hid (B ≤ wr.heap.size) ∧ Hid (Xc wr b S q A c va) ∧ Hid (w.grownBy wr (some b)) ∧ Hid (Nb wr p 0 38) ∧ Hid (Nb wr (p + 1) 0 3) ∧ Hid (OwTk wr B va ts))
    case atStart => exact ⟨n, S.length + 1, [], .slice none 0 0, hdl, by omega, by simp, Lib.hid (by omega), hRe, Lib.hid (by rw [hB'.out]; omega), hs3', hgw', hNp', hNq', Lib.hid (OwTk.nil _ _)⟩
    case round =>
      clear hs3' hgw' hNp' hNq' hg3' hRe
      obtain ⟨q, f, ts, va, hql, hms, htl, hf, hr, hsz, hs, hg, hNp, hNq, ho⟩ := hrel
      obtain ⟨f', rfl⟩ : ∃ f', f = f' + 1 := ⟨f - 1, by have := hf.out; omega⟩
      have c0 := hs.out.c0
      have c1 := hs.out.c1
      by_cases hge : S.length ≤ q
      · have i0 : decide (q < S.length) = false := by simp; omega
        have hfin : Hid (R = (0, 0, ts)) := Lib.hid (by rw [← hr.out, run_end1 hge])
        clear hge
        go_wp2_with fail
        go_big_quiet (fail)
        have hbq := Joins.below_draws wr.heap.size wr nq
        have hs4 := Lib.hid (hs.out.below hbq)
        have hg4 := Lib.hid (hg.out.trans (grown_in (r := some b) hbq))
        have hNp4 : Nb (wr.drewN nq) p 0 38 := hNp.out
        have hNq4 : Nb (wr.drewN nq) (p + 1) 0 3 := hNq.out
        have ho4 := Lib.hid (ho.out.below hbq)
        generalize wr.drewN nq = w4 at hs4 hg4 hNp4 hNq4 ho4 ⊢
        clear hs hg hNp hNq ho c0 c1 hbq
        have z0 := hNp4.cell
        have zf := hNp4.frozen
        have y0 := hNq4.cell
        have yf := hNq4.frozen
        go_wp2_with fail
        (try simp only [Exit.then, Exit.inBlock])
        show bodyPostD _ _ _ Exit.ret _ _
        refine scan_idle p 0 0 _ _ (two_p (y := 0) (z := 0) hNp4) (two_q (y := 0) (z := 0) hNq4) rfl rfl ?_
        rw [hfin.out]
        have hgt := grown_two (x := .int .i64 0) (y := .int .i64 0) hg4.out (Below.refl _ w4) hp'.out
        have hb5 := ((Below.refl w.heap.size w4).setCell (p := ⟨p, 0, none⟩) (Nat.le_of_eq hp'.out) (.int .i64 0)).setCell (p := ⟨p + 1, 0, none⟩) (by show w.heap.size ≤ p + 1; have := hp'.out; omega) (.int .i64 0)
        have hfar := h0.out.far hg4.out hs4.out hb5
        refine ⟨rfl, hfar.2, fun _ => ⟨va, q, hfar.1, ?_⟩⟩
        exact ((ho4.out.on (grown_set w4 ⟨p, 0, none⟩ (.int .i64 0)) (by have := hpB.out; show p < B; omega)).on (grown_set _ ⟨p + 1, 0, none⟩ (.int .i64 0)) hpB.out).low hwB'.out
      have hlt : q < S.length := by omega
      have i0 : decide (q < S.length) = true := by simp; omega
      clear hge
      go_wp2_with fail
      go_big_quiet (fail)
      have hbq := Joins.below_draws wr.heap.size wr nq
      have hs4 := Lib.hid (hs.out.below hbq)
      have hg4 := Lib.hid (hg.out.trans (grown_in (r := some b) hbq))
      have hNp4 : Nb (wr.drewN nq) p 0 38 := hNp.out
      have hNq4 : Nb (wr.drewN nq) (p + 1) 0 3 := hNq.out
      have hNp4' := Lib.hid hNp4
      have hNq4' := Lib.hid hNq4
      have ho4 := Lib.hid (ho.out.below hbq)
      have hsz4 := Lib.hid (Nat.le_trans hsz.out hbq.size)
      generalize wr.drewN nq = w4 at hs4 hg4 hNp4' hNq4' ho4 hsz4 ⊢
      clear hs hg hNp hNq ho c0 c1 hbq hNp4 hNq4 hsz
      go_wp2_with fail
      have hq : Hid (∀ x, Below w4.heap.size w4 x → x.cell? ⟨b, 2, none⟩ = some va) := Lib.hid fun x hx => (hs4.out.below hx).c2
      have hdr : Hid (Below w4.heap.size w4 w4.drew) := Lib.hid (Joins.below_draws w4.heap.size w4 1)
      have htok := token_any w4.drew b S q A c va (hs4.out.below hdr.out) hlt hS
      cases hto : token (S.drop q) with
      | bad ec eo =>
        rw [hto] at htok
        have htok' := Lib.hid htok
        have hfin : Hid (R = (ec, q + eo, [])) := Lib.hid (by rw [← hr.out, run_bad1 hlt hto])
        have hcd : Hid (ec ≠ 0) := Lib.hid (token_cd hto).ne
        clear htok hto
        refine Pl.wp_region_plan 9 (.take 0 (.take 1 (.take 2 (.take 3 (.take 4 (.take 5 (.run 6 (.run 7 (.run 8 .done))))))))) (fun x => x.cell? ⟨b, 2, none⟩ = some va) (by kernel_rfl) (by kernel_rfl) (by exact hq.out _ hdr.out) ?_
        simp only [Pl.fill, List.getElem?_cons_zero, List.getElem?_cons_succ, List.drop_succ_cons, List.drop_zero]
        iterate 6
          refine Pl.take_go ?_ (by rfl) (fun _ _ _ h => scan_put (by decide) (by decide) h) ?_ ?_
          rotate_left
          · (intro x hSw; (try dsimp only at hSw); go_simp; try with_reducible rfl)
          try simp only [Act.put, List.setIfInBounds_toArray, List.set_cons_zero, List.set_cons_succ]
        refine Pl.run_go (fun K hK => ?_)
        go_simp
        refine htok'.out.mono ?_
        rintro e w5 ⟨hg5, hG⟩
        dsimp only at hG
        subst hG
        dsimp only
        have hgd := hg4.out.trans ((grown_in (r := some b) hdr.out).trans hg5)
        have hg5' := (grown_in (r := some b) hdr.out).trans hg5
        (try simp only [Exit.then, Exit.inBlock])
        refine scan_caught p ec ((q + eo : Nat) : Int) _ w5 (hNp4'.out.on hg5' hpb) (hNq4'.out.on hg5' hqb) rfl rfl fun wc hbc => ?_
        rw [hfin.out]
        exact ⟨rfl, grown_two hgd hbc hp'.out, fun e => absurd e hcd.out⟩
      | ok t n1 =>
        rw [hto] at htok
        have htok' := Lib.hid htok
        have htl2 := token_len hto (by rw [ne_eq, List.drop_eq_nil_iff]; omega)
        rw [List.length_drop] at htl2
        have hr2 : Hid (runF f' (S.drop (q + n1)) (q + n1) (ts ++ [{ t with at_ := q }]) = R) := Lib.hid (by rw [← hr.out, run_ok1 hlt hto])
        clear htok hto
        refine Pl.wp_region_plan 9 (.take 0 (.take 1 (.take 2 (.take 3 (.take 4 (.take 5 (.run 6 (.run 7 (.run 8 .done))))))))) (fun x => x.cell? ⟨b, 2, none⟩ = some va) (by kernel_rfl) (by kernel_rfl) (by exact hq.out _ hdr.out) ?_
        simp only [Pl.fill, List.getElem?_cons_zero, List.getElem?_cons_succ, List.drop_succ_cons, List.drop_zero]
        iterate 6
          refine Pl.take_go ?_ (by rfl) (fun _ _ _ h => scan_put (by decide) (by decide) h) ?_ ?_
          rotate_left
          · (intro x hSw; (try dsimp only at hSw); go_simp; try with_reducible rfl)
          try simp only [Act.put, List.setIfInBounds_toArray, List.set_cons_zero, List.set_cons_succ]
        refine Pl.run_go (fun K hK => ?_)
        go_simp
        refine htok'.out.mono ?_
        rintro e w5 ⟨hg5, hG⟩
        obtain ⟨vt, rfl, hs5, ho5⟩ := hG
        obtain ⟨At, ct, rfl⟩ := ho5.form
        unfold tkV
        have hg5' := (grown_in (r := some b) hdr.out).trans hg5
        have hNp5 := hNp4'.out.on hg5' hpb
        have hNq5 := hNq4'.out.on hg5' hqb
        have ho4' := ho4.out.on hg5' hbB'.out
        have hsz5 := Nat.le_trans hsz4.out hg5'.size
        have q5 := hs5.c2
        dsimp only
        refine hK.out _ _ (Pl.more_go _ (fun _ h => h) (by exact q5) ?_)
        clear hK K q5
        try simp only [Act.put, List.setIfInBounds_toArray, List.set_cons_zero, List.set_cons_succ]
        refine Pl.run_go (fun K hK => ?_)
        have hbA := below_alloc w5 (.cells #[.int .i64 (t.kind : Nat), .int .i64 (q : Nat), .string (strOf t.name), .string (strOf t.text), .slice At t.attrs.length ct] 87)
        have hlit : Sq (TkO B) 5 (w5.alloc (.cells #[.int .i64 (t.kind : Nat), .int .i64 (q : Nat), .string (strOf t.name), .string (strOf t.text), .slice At t.attrs.length ct] 87)) (some ⟨w5.heap.size, 0, none⟩) 1 1 [{ t with at_ := q }] :=
          sq_one w5 [.int .i64 (t.kind : Nat), .int .i64 (q : Nat), .string (strOf t.name), .string (strOf t.text), .slice At t.attrs.length ct] { t with at_ := q } 87 (0, 0) rfl
            ⟨At, ct, rfl, OwS.low (OwS.below ho5 hbA AtEl.to) (Nat.le_trans hsz4.out hdr.out.size)⟩
        go_simp
        obtain ⟨pA, hpA⟩ : ∃ pA, w5.heap.size = pA := ⟨_, rfl⟩
        obtain ⟨wA, hwA⟩ : ∃ wA, w5.alloc (.cells #[.int .i64 (t.kind : Nat), .int .i64 (q : Nat), .string (strOf t.name), .string (strOf t.text), .slice At t.attrs.length ct] 87) = wA := ⟨_, rfl⟩
        rw [hwA] at hbA hlit ⊢
        rw [hpA] at hlit ⊢
        have qA := (hs5.below hbA).c2
        refine hK.out _ _ (Pl.more_go _ (fun _ h => h) (by exact qA) ?_)
        clear hK K
        try simp only [Act.put, List.setIfInBounds_toArray, List.set_cons_zero, List.set_cons_succ]
        have hoA := ho4'.below hbA
        have hszA := Nat.le_trans hsz5 hbA.size
        refine Pl.run_list fun K hK => ?_
        refine append_tok wA rfl _ _ rfl B _ ts rfl hoA _ 1 1 [{ t with at_ := q }] rfl hlit (ts.length + 1) rfl (by omega) hszA ?_
        intro A6 c6 wB hoB hgB hbB
        have hbAB : Below w.heap.size w5 wB := (hbA.mono (by have := hg4.out.trans hg5'; exact this.size)).trans (hbB.mono hwB'.out)
        have hfar := h0.out.far (hg4.out.trans hg5') hs5 hbAB
        have hset := hfar.1.set2 (.slice A6 (ts.length + 1) c6)
        have hNpB : Nb wB p 0 38 := (hbB.block p (by have := hpB.out; omega)).trans ((hbA.block p (Array.getElem?_eq_some_iff.1 hNp5).1).trans hNp5)
        have hNqB : Nb wB (p + 1) 0 3 := (hbB.block (p + 1) hpB.out).trans ((hbA.block (p + 1) (Array.getElem?_eq_some_iff.1 hNq5).1).trans hNq5)
        have hgS := grown_set wB ⟨b, 2, none⟩ (.slice A6 (ts.length + 1) c6)
        have hsC := Lib.hid hset.1
        have hgC := Lib.hid (hfar.2.trans hgS)
        have hNpC := Lib.hid (hNpB.on hgS hpb)
        have hNqC := Lib.hid (hNqB.on hgS hqb)
        have hoC := Lib.hid (hoB.on hgS hbB'.out)
        have hszC : Hid (B ≤ (wB.setCell ⟨b, 2, none⟩ (.slice A6 (ts.length + 1) c6)).heap.size) := Lib.hid (Nat.le_trans hszA (Nat.le_trans hgB.size hgS.size))
        have z2 := hfar.1.c2
        have zf := hfar.1.frozen 2
        refine hK.out _ _ (Pl.more_go _ (fun _ h => h) (by exact z2) ?_)
        clear hK K
        try simp only [Act.put, List.setIfInBounds_toArray, List.set_cons_zero, List.set_cons_succ]
        refine Pl.done_go ?_
        try simp only [Act.put, List.setIfInBounds_toArray, List.set_cons_zero, List.set_cons_succ]
        clear hoB hgB hbB hbAB hfar hset hNpB hNqB hgS hbA hlit hoA hszA hwA hpA qA hs5 ho5 hg5 hg5' hNp5 hNq5 ho4' hsz5 htok' hq hdr hs4 hg4 hNp4' hNq4' ho4 hsz4
        go_wp2_with fail
        go_roundg (S.length - (q + n1) + 1)
        case measure => omega
        case rel => exact ⟨q + n1, f', ts ++ [{ t with at_ := q }], .slice A6 (ts.length + 1) c6, by omega, by omega, by rw [List.length_append]; simp; omega, Lib.hid (by have := hf.out; omega), hr2, hszC, hsC, hgC, hNpC, hNqC, hoC⟩
end
end Go.Proofs.YtokdnhdfmgfkeaaGreatDoor.Xl
end
