/- scan of the scanner. Printed by xl_scan.py. -/
import Derived.Test.YtokdnhdfmgfkeaaGreatDoorWUtfMath
import Derived.Test.YtokdnhdfmgfkeaaGreatDoorWXpRc
import Derived.Test.YtokdnhdfmgfkeaaGreatDoorWKyLib
import Derived.Shelf.Strings.SlTrimAscii
import Derived.Test.YtokdnhdfmgfkeaaGreatDoorWXlUpto
import Derived.Test.YtokdnhdfmgfkeaaGreatDoorWXlPlaces
import Derived.Test.YtokdnhdfmgfkeaaGreatDoorWXlStep
import Derived.Test.YtokdnhdfmgfkeaaGreatDoorWQxVal
import Derived.Test.YtokdnhdfmgfkeaaGreatDoorWXnSt1
import Derived.Tactics2
import Derived.Defers
import Derived.Recover
import Derived.Laws.Pointers
import Derived.Test.YtokdnhdfmgfkeaaGreatDoorWStrLaws
set_option linter.unusedVariables false
set_option linter.unusedSimpArgs false
section
namespace Go.Proofs
open Go.Shelf Go.RowKit
shelf_lay Lays.n160 Nm 160 at Tryz as Tryz.laysTrim
end Go.Proofs
namespace Go.Proofs.YtokdnhdfmgfkeaaGreatDoor.UtfW
open Go.RowKit
theorem utfTrim_any (s : ByteArray) (hs : s.size <= 281474976710656) (w : World) :
  Calls Tryz.prog 133 #[.string s] w fun e w' => e = .returned (.string (strOf (Lib.trimS s.data.toList Utf.cs))) /\ Below w.heap.size w w' := by
 have c1 : Calls Tryz.prog 166 #[.string s, .string ⟨#[9, 10, 13, 32]⟩] w fun e w' => e = .returned (.string (strOf (Lib.trimS s.data.toList Utf.cs))) /\ Below w.heap.size w w' :=
  Any.strings_Trim_laid Tryz.laysTrim (by kernel_rfl) s ⟨#[9, 10, 13, 32]⟩ w (by omega) (by decide) (ascii_of_all (by decide))
 obtain ⟨z, hz⟩ : ∃ z, Lib.trimS s.data.toList Utf.cs = z := ⟨_, rfl⟩;rw [hz] at c1 ⊢;clear hz
 go_enter Tryz.func133, Tryz.ntmps133
 go_wp2_with fail;refine c1.mono ?_;rintro e w1 ⟨rfl, hb1⟩;have hb1' := Hd hb1;clear hb1 c1;go_wp2_with fail;go_ret;exact ⟨rfl, hb1'.out⟩
theorem trim_any (s : Ky.Tx) (hs : (strOf s).size <= 281474976710656) (w : World) :
  Calls Tryz.prog 133 #[.string (strOf s)] w fun e w' => e = .returned (.string (strOf (Ky.trim s))) /\ Below w.heap.size w w' := by
 have h := utfTrim_any (strOf s) hs w
 have e : Lib.trimS (strOf s).data.toList Utf.cs = Ky.trim s := by
  rw [show (strOf s).data.toList = s by simp [strOf]];exact Ky.trim_eq s
 rw [e] at h;exact h
end Go.Proofs.YtokdnhdfmgfkeaaGreatDoor.UtfW
end

section
namespace Go.Proofs.YtokdnhdfmgfkeaaGreatDoor.Xl
open Go.RowKit UtfW
section
variable {S p t : Tx} {k B1 B2 n : Nat} {q : UInt8}
theorem qu_has (h : Lib.hasPrefix (S.drop k) p = false) : quoted p (S.drop k) = none := by
 unfold quoted;rw [if_neg (by rw [h]; decide)]
theorem qu_eq (h : Lib.hasPrefix (S.drop k) p = true) (h1 : blanks (S.drop (k + p.length)) = B1) (h2 : Lib.hasPrefix (S.drop (k + p.length + B1)) [61] = false) : quoted p (S.drop k) = none := by
 unfold quoted;rw [if_pos h];simp only [List.drop_drop, <- Nat.add_assoc, h1];rw [if_neg (by rw [h2]; decide)]
theorem qu_end (h : Lib.hasPrefix (S.drop k) p = true) (h1 : blanks (S.drop (k + p.length)) = B1) (h2 : Lib.hasPrefix (S.drop (k + p.length + B1)) [61] = true) (h3 : blanks (S.drop (k + p.length + B1 + 1)) = B2) (h4 : S.length <= k + p.length + B1 + 1 + B2) : quoted p (S.drop k) = none := by
 unfold quoted;rw [if_pos h];simp only [List.drop_drop, <- Nat.add_assoc, h1];rw [if_pos h2];simp only [h3, drop_end h4]
theorem qu_off (h : Lib.hasPrefix (S.drop k) p = true) (h1 : blanks (S.drop (k + p.length)) = B1) (h2 : Lib.hasPrefix (S.drop (k + p.length + B1)) [61] = true) (h3 : blanks (S.drop (k + p.length + B1 + 1)) = B2) (h4 : S[k + p.length + B1 + 1 + B2]? = some q) (h5 : ¬ (q = 34 \/ q = 39)) : quoted p (S.drop k) = none := by
 unfold quoted;rw [if_pos h];simp only [List.drop_drop, <- Nat.add_assoc, h1];rw [if_pos h2];simp only [h3, drop_at h4, if_neg h5]
theorem qu_find (h : Lib.hasPrefix (S.drop k) p = true) (h1 : blanks (S.drop (k + p.length)) = B1) (h2 : Lib.hasPrefix (S.drop (k + p.length + B1)) [61] = true) (h3 : blanks (S.drop (k + p.length + B1 + 1)) = B2) (h4 : S[k + p.length + B1 + 1 + B2]? = some q) (h5 : q = 34 \/ q = 39) :
  quoted p (S.drop k) = (find [q] (S.drop (k + p.length + B1 + 1 + B2 + 1))).map fun n => ((S.drop (k + p.length + B1 + 1 + B2 + 1)).take n, p.length + B1 + 1 + B2 + (n + 2)) := by
 unfold quoted;rw [if_pos h];simp only [List.drop_drop, <- Nat.add_assoc, h1];rw [if_pos h2];simp only [h3, drop_at h4, if_pos h5]
end
theorem wrapN {n : Nat} (h : n < 9223372036854775808) : IntKind.i64.wrap (n : Int) = (n : Int) := by
 have e : (n : Int) % 2 ^ 64 = n := Int.emod_eq_of_lt (by omega) (by omega);simp only [IntKind.wrap, IntKind.bits, IntKind.signed, e];rw [if_neg];simp;omega
def GivesQ (w : World) (b : Nat) (S : Tx) (k : Nat) (A : Option Addr) (c : Nat) (vo : Value) (x : Option (Tx × Nat)) (e : Ending) (w' : World) : Prop :=
 w.grownBy w' (some b) /\ match x with
 | none => e = .returned (.tuple #[.string ⟨#[]⟩, .bool false])
 | some (t, n) => e = .returned (.tuple #[.string (strOf t), .bool true]) /\ Xc w' b S (k + n) A c vo
section
variable (w : World) (b : Nat) (S : Tx) (k : Nat) (A : Option Addr) (c : Nat) (vo : Value)
set_option maxHeartbeats 2000000 in
set_option maxRecDepth 100000 in
theorem quoted_any (h : Xc w b S k A c vo) (hk : k <= S.length) (hS : S.length <= 65536) (p : Tx) (hp : p.length <= 65536) :
    Calls Tryz.prog 176 #[.pointer (some ⟨b, 0, none⟩), .string (strOf p)] w fun e w' => GivesQ w b S k A c vo (quoted p (S.drop k)) e w' := by
  have hsz : (strOf p).size = p.length := strOf_size' p;have h' := Hd h;clear h;obtain ⟨R, hR⟩ : ∃ R, quoted p (S.drop k) = R := ⟨_, rfl⟩;rw [hR];have hR' := Hd hR;clear hR
  go_enter Tryz.func176, Tryz.ntmps176
  go_wp2_with fail;refine (has_any w b S k A c vo h'.out hk hS p hp).mono ?_;rintro e w1 ⟨rfl, hb1⟩;have hs1 := Hd (h'.out.below hb1);have hg1 := Hd (grown_in (r := some b) hb1);clear hb1
  cases hp1 : Lib.hasPrefix (S.drop k) p with
  | false =>
    have hp1' := Hd hp1;clear hp1;go_wp2_with fail
    (try simp only [Exit.inBlock, Exit.then])
    go_ret2
    refine ⟨hg1.out, ?_⟩;rw [<- hR'.out, qu_has hp1'.out];exact rfl
  | true =>
  have hkp : k + p.length <= S.length := by
    have := Qx.prefix_len hp1;rw [List.length_drop] at this;omega
  have hp1' := Hd hp1;clear hp1;have c1 := hs1.out.c1;have f1 := hs1.out.frozen 1;have hset := hs1.out.set1 (k + p.length);have hs2 := Hd hset.1;have hg2 := Hd (hg1.out.trans hset.2);clear hset
  go_upto_region 4 with fail
  have e5 : ((k : Int) + (p.length : Int)) = ((k + p.length : Nat) : Int) := by omega
  try rw [e5]
  generalize w1.setCell ⟨b, 1, none⟩ (.int .i64 ((k + p.length : Nat) : Int)) = w2 at hs2 hg2 ⊢;clear c1 f1 hs1 hg1 e5;go_wp2_with fail;refine (blanks_any w2 b S (k + p.length) A c vo hs2.out hkp hS).mono ?_;rintro e w3 ⟨rfl, hs3, hg3⟩;have hB1 := blanks_le (S.drop (k + p.length));rw [List.length_drop] at hB1;obtain ⟨B1, hB1e⟩ : ∃ B1, blanks (S.drop (k + p.length)) = B1 := ⟨_, rfl⟩;rw [hB1e] at hs3 hB1 ⊢;have hB1' := Hd hB1e;have hs3' := Hd hs3;have hg3' := Hd (hg2.out.trans hg3);clear hs3 hg3 hB1e hs2 hg2;go_wp2_with fail;refine (has_any w3 b S (k + p.length + B1) A c vo hs3'.out (by omega) hS [61] (by decide)).mono ?_;rintro e w4 ⟨rfl, hb4⟩;have hs4 := Hd (hs3'.out.below hb4);have hg4 := Hd (hg3'.out.trans (grown_in (r := some b) hb4));clear hb4 hs3' hg3'
  cases hp2 : Lib.hasPrefix (S.drop (k + p.length + B1)) [61] with
  | false =>
    have hp2' := Hd hp2;clear hp2;go_wp2_with fail
    (try simp only [Exit.inBlock, Exit.then])
    go_ret2
    refine ⟨hg4.out, ?_⟩;rw [<- hR'.out, qu_eq hp1'.out hB1'.out hp2'.out];exact rfl
  | true =>
  have hkq : k + p.length + B1 + 1 <= S.length := by
    have := Qx.prefix_len hp2;rw [List.length_drop] at this;simp only [List.length_cons, List.length_nil] at this;omega
  have hp2' := Hd hp2;clear hp2;have c1 := hs4.out.c1;have f1 := hs4.out.frozen 1;have hset := hs4.out.set1 (k + p.length + B1 + 1);have hs5 := Hd hset.1;have hg5 := Hd (hg4.out.trans hset.2);clear hset
  go_upto_region 8 with fail
  have e5 : ((k : Int) + (p.length : Int) + (B1 : Int) + 1) = ((k + p.length + B1 + 1 : Nat) : Int) := by omega
  try rw [e5]
  generalize w4.setCell ⟨b, 1, none⟩ (.int .i64 ((k + p.length + B1 + 1 : Nat) : Int)) = w5 at hs5 hg5 ⊢;clear c1 f1 hs4 hg4 e5;go_wp2_with fail;refine (blanks_any w5 b S (k + p.length + B1 + 1) A c vo hs5.out hkq hS).mono ?_;rintro e w6 ⟨rfl, hs6, hg6⟩;have hB2 := blanks_le (S.drop (k + p.length + B1 + 1));rw [List.length_drop] at hB2;obtain ⟨B2, hB2e⟩ : ∃ B2, blanks (S.drop (k + p.length + B1 + 1)) = B2 := ⟨_, rfl⟩;rw [hB2e] at hs6 hB2 ⊢;have hB2' := Hd hB2e;obtain ⟨K, hK⟩ : ∃ K, k + p.length + B1 + 1 + B2 = K := ⟨_, rfl⟩;rw [hK] at hs6;have hKe := Hd hK;have hKle : K <= S.length := by omega
  have hKk : p.length + B1 + 1 + B2 = K - k /\ k <= K := by omega
  have hKk' := Hd hKk;have hs6' := Hd hs6;have hg6' := Hd (hg5.out.trans hg6);clear hs6 hg6 hB2e hs5 hg5 hK hKk hB1 hB2 hkq hkp;go_wp2_with fail;have c0 := hs6'.out.c0;have c1 := hs6'.out.c1
  by_cases hlt : K < S.length
  · have i0 : decide (S.length <= K) = false := by simp; omega
    obtain ⟨ba, off, rfl, hx, hcell⟩ := hs6'.out.at_ hlt;generalize S[K] = x0 at hx hcell;have hx' := Hd hx;clear hx;have hck : Hid (∀ x, Below w6.heap.size w6 x -> x.cell? ⟨ba, off + K, none⟩ = some (.int .u8 (x0.toNat : Int))) := Hd fun x hx => (hx.cell (World.block_lt_of_cell? w6 _ hcell)).trans hcell
    clear hcell
    by_cases hqt : ¬ (x0 = 34 \/ x0 = 39)
    · have j34 : ((x0.toNat : Int) == 34) = false := by rw [show (34 : Int) = ((34 : UInt8).toNat : Int) from rfl, byte_eq, decide_eq_false fun e => hqt (.inl e)]
      have j39 : ((x0.toNat : Int) == 39) = false := (by rw [show (39 : Int) = ((39 : UInt8).toNat : Int) from rfl, byte_eq, decide_eq_false fun e => hqt (.inr e)]);have m34 : ((x0.toNat : Int) != 34) = true := by unfold bne; rw [j34]; rfl
      have m39 : ((x0.toNat : Int) != 39) = true := by unfold bne; rw [j39]; rfl
      have hqt' := Hd hqt;clear hqt j34 j39 c0 c1;have hq : Hid (∀ x, Below w6.heap.size w6 x -> x.cell? ⟨b, 0, none⟩ = some (.slice (some ⟨ba, off, none⟩) S.length c) /\ x.cell? ⟨b, 1, none⟩ = some (.int .i64 (K : Nat)) /\ x.cell? ⟨ba, off + K, none⟩ = some (.int .u8 (x0.toNat : Int))) := Hd fun x hx => ⟨(hs6'.out.below hx).c0, (hs6'.out.below hx).c1, hck.out _ hx⟩
      have hdr : Hid (Below w6.heap.size w6 w6.drew) := Hd (Joins.below_draws w6.heap.size w6 1);refine Pl.wp_region_plan 31 (.take 0 (.take 1 (.take 2 (.take 3 (.take 4 (.take 5 (.take 6 (.take 7 (.take 8 (.take 9 (.take 10 (.take 11 (.take 12 (.take 13 (.take 14 (.take 15 (.take 16 (.take 17 (.take 18 (.take 19 (.take 20 (.take 21 (.take 22 (.take 23 (.take 24 (.take 25 (.take 26 (.take 27 (.take 28 (.take 29 (.take 30 .done))))))))))))))))))))))))))))))) (fun x => x.cell? ⟨b, 0, none⟩ = some (.slice (some ⟨ba, off, none⟩) S.length c) /\ x.cell? ⟨b, 1, none⟩ = some (.int .i64 (K : Nat)) /\ x.cell? ⟨ba, off + K, none⟩ = some (.int .u8 (x0.toNat : Int))) (by kernel_rfl) (by kernel_rfl) (by exact hq.out _ hdr.out) ?_;simp only [Pl.fill, Al_4, Al_5, Al_6, Al_7]
      iterate 31
        first
        | (refine Pl.take_go ?_ (by rfl) (fun _ _ _ h => h) ?_ ?_
           rotate_left
           · (intro x hSw; (try dsimp only at hSw); (try obtain ⟨s0, s1, s2⟩ := hSw); go_simp; try with_reducible rfl)
           (try simp only [Act.put, Al_1, Al_2, Al_3]))
        | (refine Pl.take_skip (by rfl) (fun _ _ _ h => h) ?_
           (try simp only [Act.put, Al_1, Al_2, Al_3]))
      refine Pl.done_go ?_;have hc9 := hck.out _ hdr.out;have hb7 := hdr.out;clear hq;go_wp2_with fail
      (try simp only [Exit.inBlock, Exit.then])
      go_ret2
      refine ⟨hg6'.out.trans (grown_in hb7), ?_⟩;rw [<- hR'.out, qu_off hp1'.out hB1'.out hp2'.out hB2'.out (by rw [hKe.out]; exact hx'.out) hqt'.out];exact rfl
    have hqt := Classical.not_not.1 hqt;have hqt' := Hd hqt
    have hfin : Hid (R = (find [x0] (S.drop (K + 1))).map fun n => ((S.drop (K + 1)).take n, K - k + (n + 2))) := Hd (by
      rw [<- hR'.out, qu_find hp1'.out hB1'.out hp2'.out hB2'.out (by rw [hKe.out]; exact hx'.out) hqt, hKe.out, hKk'.out.1])
    go_upto_region 10 with fail
    go_cut [71] (fun v wx => v = .bool false /\ Hid (Below w6.heap.size w6 wx))
    case first =>
      rcases hqt'.out with e | e
      · have m34 : ((x0.toNat : Int) != 34) = false := by rw [e]; rfl
        clear hqt c0 c1;have hq : Hid (∀ x, Below w6.heap.size w6 x -> x.cell? ⟨b, 0, none⟩ = some (.slice (some ⟨ba, off, none⟩) S.length c) /\ x.cell? ⟨b, 1, none⟩ = some (.int .i64 (K : Nat)) /\ x.cell? ⟨ba, off + K, none⟩ = some (.int .u8 (x0.toNat : Int))) := Hd fun x hx => ⟨(hs6'.out.below hx).c0, (hs6'.out.below hx).c1, hck.out _ hx⟩
        have hdr : Hid (Below w6.heap.size w6 w6.drew) := Hd (Joins.below_draws w6.heap.size w6 1);refine Pl.wp_region_plan 31 (.take 0 (.take 1 (.take 2 (.take 3 (.take 4 (.take 5 (.take 6 (.take 7 (.take 8 (.take 9 (.take 10 (.take 11 (.take 12 (.take 13 (.take 14 (.take 15 (.take 16 (.take 17 (.take 18 (.take 19 (.take 20 (.take 21 (.take 22 (.take 23 (.take 24 (.take 25 (.take 26 (.take 27 (.take 28 (.take 29 (.take 30 .done))))))))))))))))))))))))))))))) (fun x => x.cell? ⟨b, 0, none⟩ = some (.slice (some ⟨ba, off, none⟩) S.length c) /\ x.cell? ⟨b, 1, none⟩ = some (.int .i64 (K : Nat)) /\ x.cell? ⟨ba, off + K, none⟩ = some (.int .u8 (x0.toNat : Int))) (by kernel_rfl) (by kernel_rfl) (by exact hq.out _ hdr.out) ?_;simp only [Pl.fill, Al_4, Al_5, Al_6, Al_7]
        iterate 31
          first
          | (refine Pl.take_go ?_ (by rfl) (fun _ _ _ h => h) ?_ ?_
             rotate_left
             · (intro x hSw; (try dsimp only at hSw); (try obtain ⟨s0, s1, s2⟩ := hSw); go_simp; try with_reducible rfl)
             (try simp only [Act.put, Al_1, Al_2, Al_3]))
          | (refine Pl.take_skip (by rfl) (fun _ _ _ h => h) ?_
             (try simp only [Act.put, Al_1, Al_2, Al_3]))
        refine Pl.done_go ?_;have hc9 := hck.out _ hdr.out;go_wp2_with fail
        go_meet
        exact ⟨rfl, hdr⟩
      · have m34 : ((x0.toNat : Int) != 34) = true := by rw [e]; rfl
        have m39 : ((x0.toNat : Int) != 39) = false := by rw [e]; rfl
        clear hqt c0 c1;have hq : Hid (∀ x, Below w6.heap.size w6 x -> x.cell? ⟨b, 0, none⟩ = some (.slice (some ⟨ba, off, none⟩) S.length c) /\ x.cell? ⟨b, 1, none⟩ = some (.int .i64 (K : Nat)) /\ x.cell? ⟨ba, off + K, none⟩ = some (.int .u8 (x0.toNat : Int))) := Hd fun x hx => ⟨(hs6'.out.below hx).c0, (hs6'.out.below hx).c1, hck.out _ hx⟩
        have hdr : Hid (Below w6.heap.size w6 w6.drew) := Hd (Joins.below_draws w6.heap.size w6 1);refine Pl.wp_region_plan 31 (.take 0 (.take 1 (.take 2 (.take 3 (.take 4 (.take 5 (.take 6 (.take 7 (.take 8 (.take 9 (.take 10 (.take 11 (.take 12 (.take 13 (.take 14 (.take 15 (.take 16 (.take 17 (.take 18 (.take 19 (.take 20 (.take 21 (.take 22 (.take 23 (.take 24 (.take 25 (.take 26 (.take 27 (.take 28 (.take 29 (.take 30 .done))))))))))))))))))))))))))))))) (fun x => x.cell? ⟨b, 0, none⟩ = some (.slice (some ⟨ba, off, none⟩) S.length c) /\ x.cell? ⟨b, 1, none⟩ = some (.int .i64 (K : Nat)) /\ x.cell? ⟨ba, off + K, none⟩ = some (.int .u8 (x0.toNat : Int))) (by kernel_rfl) (by kernel_rfl) (by exact hq.out _ hdr.out) ?_;simp only [Pl.fill, Al_4, Al_5, Al_6, Al_7]
        iterate 31
          first
          | (refine Pl.take_go ?_ (by rfl) (fun _ _ _ h => h) ?_ ?_
             rotate_left
             · (intro x hSw; (try dsimp only at hSw); (try obtain ⟨s0, s1, s2⟩ := hSw); go_simp; try with_reducible rfl)
             (try simp only [Act.put, Al_1, Al_2, Al_3]))
          | (refine Pl.take_skip (by rfl) (fun _ _ _ h => h) ?_
             (try simp only [Act.put, Al_1, Al_2, Al_3]))
        refine Pl.done_go ?_;have hc9 := hck.out _ hdr.out;go_wp2_with fail
        go_meet
        exact ⟨rfl, hdr⟩
    obtain ⟨rfl, hbc⟩ := hcut;have hs7 := Hd (hs6'.out.below hbc.out);have hg7 := Hd (hg6'.out.trans (grown_in (r := some b) hbc.out));have hcc := hck.out _ hbc.out;clear hbc hck hs6' hg6' c0 c1 hqt;have c0 := hs7.out.c0;have c1 := hs7.out.c1;go_wp2_with fail
    go_big_quiet (fail)
    have hdr := Joins.below_draws wc.heap.size wc nq;have hs8 := Hd (hs7.out.below hdr);have hg8 := Hd (hg7.out.trans (grown_in (r := some b) hdr));generalize wc.drewN nq = w8 at hs8 hg8 ⊢;clear hs7 hg7 hcc hdr c0 c1;have hlc := Rd.le hs8.out.bs;have hcm := Rd.max hs8.out.bs;obtain ⟨L, hL⟩ : ∃ L, K + 1 = L := ⟨_, rfl⟩;have hLI : (K : Int) + 1 = (L : Int) := (by omega);have hLle : L <= S.length := (by omega);have hLe := Hd hL;clear hL
    have hcut : Hid (Bs w8.drew (offA (some ⟨ba, off, none⟩) c L) (S.length - L) (c - L) (S.drop L)) := Hd (by
      have hf := Bs.from (hs8.out.below (Joins.below_draws w8.heap.size w8 1)).bs hLle (Nat.le_refl _);rw [List.take_of_length_le (by rw [List.length_drop]; omega)] at hf
      exact hf)
    have hoff : offA (some ⟨ba, off, none⟩) c L = (if c = L then some (⟨ba, off, none⟩ : Addr) else some ⟨ba, off + L, none⟩) := by
      unfold offA
      split
      · rfl
      · show some (Addr.add ⟨ba, off, none⟩ L) = _
        unfold Addr.add;rw [if_neg (by have := hLe.out; omega)]
    rw [hoff] at hcut;have hoff' := Hd hoff;clear hoff;obtain ⟨A1, hA1⟩ : ∃ A1, (if c = L then some (⟨ba, off, none⟩ : Addr) else some ⟨ba, off + L, none⟩) = A1 := ⟨_, rfl⟩;rw [hA1] at hcut;have hwL : IntKind.i64.wrap (L : Int) = (L : Int) := wrapN (by omega);have q1 : (0 : Int) <= (L : Int) /\ (L : Int) <= (S.length : Int) := ⟨by omega, by omega⟩;go_wp2_with fail;have hq : Hid (∀ x, Below w8.heap.size w8 x -> x.cell? ⟨b, 0, none⟩ = some (.slice (some ⟨ba, off, none⟩) S.length c) /\ x.cell? ⟨b, 1, none⟩ = some (.int .i64 (K : Nat))) := Hd fun x hx => ⟨(hs8.out.below hx).c0, (hs8.out.below hx).c1⟩
    have hdr : Hid (Below w8.heap.size w8 w8.drew) := Hd (Joins.below_draws w8.heap.size w8 1);refine Pl.wp_region_plan 11 (.take 0 (.take 1 (.take 2 (.take 3 (.take 4 (.take 5 (.take 6 (.take 7 (.take 8 (.take 9 (.take 10 .done))))))))))) (fun x => x.cell? ⟨b, 0, none⟩ = some (.slice (some ⟨ba, off, none⟩) S.length c) /\ x.cell? ⟨b, 1, none⟩ = some (.int .i64 (K : Nat))) (by kernel_rfl) (by kernel_rfl) (by exact hq.out _ hdr.out) ?_;simp only [Pl.fill, Al_4, Al_5, Al_6, Al_7]
    iterate 9
      first
      | (refine Pl.take_go ?_ (by rfl) (fun _ _ _ h => h) ?_ ?_
         rotate_left
         · (intro x hSw; (try dsimp only at hSw); (try obtain ⟨s0, s1⟩ := hSw); go_simp; try with_reducible rfl)
         (try simp only [Act.put, Al_1, Al_2, Al_3]))
      | (refine Pl.take_skip (by rfl) (fun _ _ _ h => h) ?_
         (try simp only [Act.put, Al_1, Al_2, Al_3]))
    refine Pl.take_go (.slice A1 (S.length - L) (c - L)) (by rfl) (fun _ _ _ h => h) ?_ ?_
    · intro x hSw
      go_simp
    try simp only [Act.put, Al_1, Al_2, Al_3]
    iterate 1
      refine Pl.take_go ?_ (by rfl) (fun _ _ _ h => h) ?_ ?_
      rotate_left
      · (intro x hSw; (try dsimp only at hSw); go_simp; try with_reducible rfl)
      (try simp only [Act.put, Al_1, Al_2, Al_3])
    refine Pl.done_go ?_;go_wp2_with fail;refine (byteB_any x0 w8.drew hcut.out).mono ?_;rintro e w9 ⟨rfl, hww⟩;subst hww;have hs9 := Hd (hs8.out.below hdr.out);have hg9 := Hd (hg8.out.trans (grown_in (r := some b) hdr.out));generalize w8.drew = w9 at hs9 hg9 ⊢;clear hq hdr hs8 hg8 hcut q1;rw [hLe.out] at hfin
    cases hfi : find [x0] (S.drop L) with
    | none =>
      have hRn : Hid (R = none) := Hd (by rw [hfin.out, hfi]; rfl);unfold idxV;clear hfi;go_wp2_with fail
      (try simp only [Exit.inBlock, Exit.then])
      go_ret2
      refine ⟨hg9.out, ?_⟩;rw [hRn.out];exact rfl
    | some n =>
      obtain ⟨hn1, _⟩ := find_len hfi;rw [List.length_drop] at hn1;simp only [List.length_cons, List.length_nil] at hn1;have hRn : Hid (R = some ((S.drop L).take n, K - k + (n + 2))) := Hd (by rw [hfin.out, hfi]; rfl);unfold idxV;clear hfi;have n0 : decide ((n : Int) < 0) = false := (by simp);obtain ⟨M, hM⟩ : ∃ M, L + n = M := ⟨_, rfl⟩;have hMI : (L : Int) + (n : Int) = (M : Int) := (by omega);have hwM : IntKind.i64.wrap (M : Int) = (M : Int) := wrapN (by omega);have q2 : (0 : Int) <= (L : Int) /\ (L : Int) <= (M : Int) := ⟨by omega, by omega⟩;have q3 : M <= S.length := (by omega);have hnM : M - L = n := (by omega);have hnM' := Hd hnM;have hcut : Bs w9 (offA (some ⟨ba, off, none⟩) c L) (M - L) (c - L) ((S.drop L).take (M - L)) := Bs.from hs9.out.bs (by omega) q3;have hcv2 : Hid (∀ x, Below w9.heap.size w9 x -> (convert 41 9 (.slice (offA (some ⟨ba, off, none⟩) c L) (M - L) (c - L))).run Tryz.prog x = .ok (.string (strOf ((S.drop L).take (M - L)))) x) := Hd fun x hx => Bs.conv (Bs.below hcut hx) Tryz.underlying41 Tryz.underlying5 Tryz.underlying9
      rw [hoff'.out, hA1] at hcv2;clear hM hnM hcut;go_wp2_with fail;have hq : Hid (∀ x, Below w9.heap.size w9 x -> x.cell? ⟨b, 0, none⟩ = some (.slice (some ⟨ba, off, none⟩) S.length c) /\ x.cell? ⟨b, 1, none⟩ = some (.int .i64 (K : Nat))) := Hd fun x hx => ⟨(hs9.out.below hx).c0, (hs9.out.below hx).c1⟩
      have hdr : Hid (Below w9.heap.size w9 w9.drew) := Hd (Joins.below_draws w9.heap.size w9 1);refine Pl.wp_region_plan 16 (.take 0 (.take 1 (.take 2 (.take 3 (.take 4 (.take 5 (.take 6 (.take 7 (.take 8 (.take 9 (.take 10 (.take 11 (.take 12 (.take 13 (.take 14 (.take 15 .done)))))))))))))))) (fun x => x.cell? ⟨b, 0, none⟩ = some (.slice (some ⟨ba, off, none⟩) S.length c) /\ x.cell? ⟨b, 1, none⟩ = some (.int .i64 (K : Nat))) (by kernel_rfl) (by kernel_rfl) (by exact hq.out _ hdr.out) ?_;simp only [Pl.fill, Al_4, Al_5, Al_6, Al_7]
      iterate 16
        first
        | (refine Pl.take_go ?_ (by rfl) (fun _ _ _ h => h) ?_ ?_
           rotate_left
           · (intro x hSw; (try dsimp only at hSw); (try obtain ⟨s0, s1⟩ := hSw); go_simp; try with_reducible rfl)
           (try simp only [Act.put, Al_1, Al_2, Al_3]))
        | (refine Pl.take_skip (by rfl) (fun _ _ _ h => h) ?_
           (try simp only [Act.put, Al_1, Al_2, Al_3]))
      refine Pl.done_go ?_;have hcv3 := hcv2.out _ hdr.out;have hsA := Hd (hs9.out.below hdr.out);have hgA := Hd (hg9.out.trans (grown_in (r := some b) hdr.out));generalize w9.drew = wA at hcv3 hsA hgA ⊢;clear hq hdr hs9 hg9 hcv2;have c1 := hsA.out.c1;have f1 := hsA.out.frozen 1;go_wp2_with fail
      (try simp only [Exit.inBlock, Exit.then])
      go_ret2
      have h4 := hsA.out.set1 (K + (n + 2));have ee : ((K : Int) + ((n : Int) + 2)) = ((K + (n + 2) : Nat) : Int) := by omega
      try rw [ee]
      refine ⟨hgA.out.trans h4.2, ?_⟩;rw [hRn.out];refine ⟨by rw [<- hnM'.out]; rfl, ?_⟩;have hk2 := hKk'.out.2
      show Xc _ b S (k + (K - k + (n + 2))) _ c vo
      rw [show k + (K - k + (n + 2)) = K + (n + 2) by omega];exact h4.1
  · have i0 : decide (S.length <= K) = true := by simp; omega
    clear c0 c1;have hq : Hid (∀ x, Below w6.heap.size w6 x -> x.cell? ⟨b, 0, none⟩ = some (.slice A S.length c) /\ x.cell? ⟨b, 1, none⟩ = some (.int .i64 (K : Nat))) := Hd fun x hx => ⟨(hs6'.out.below hx).c0, (hs6'.out.below hx).c1⟩
    have hdr : Hid (Below w6.heap.size w6 w6.drew) := Hd (Joins.below_draws w6.heap.size w6 1);refine Pl.wp_region_plan 31 (.take 0 (.take 1 (.take 2 (.take 3 (.take 4 (.take 5 (.take 6 (.take 7 (.take 8 (.take 9 (.take 10 (.take 11 (.take 12 (.take 13 (.take 14 (.take 15 (.take 16 (.take 17 (.take 18 (.take 19 (.take 20 (.take 21 (.take 22 (.take 23 (.take 24 (.take 25 (.take 26 (.take 27 (.take 28 (.take 29 (.take 30 .done))))))))))))))))))))))))))))))) (fun x => x.cell? ⟨b, 0, none⟩ = some (.slice A S.length c) /\ x.cell? ⟨b, 1, none⟩ = some (.int .i64 (K : Nat))) (by kernel_rfl) (by kernel_rfl) (by exact hq.out _ hdr.out) ?_;simp only [Pl.fill, Al_4, Al_5, Al_6, Al_7]
    iterate 31
      first
      | (refine Pl.take_go ?_ (by rfl) (fun _ _ _ h => h) ?_ ?_
         rotate_left
         · (intro x hSw; (try dsimp only at hSw); (try obtain ⟨s0, s1⟩ := hSw); go_simp; try with_reducible rfl)
         (try simp only [Act.put, Al_1, Al_2, Al_3]))
      | (refine Pl.take_skip (by rfl) (fun _ _ _ h => h) ?_
         (try simp only [Act.put, Al_1, Al_2, Al_3]))
    refine Pl.done_go ?_;have hb7 := hdr.out;clear hq;go_wp2_with fail
    (try simp only [Exit.inBlock, Exit.then])
    go_ret2
    refine ⟨hg6'.out.trans (grown_in hb7), ?_⟩;rw [<- hR'.out, qu_end hp1'.out hB1'.out hp2'.out hB2'.out (by rw [hKe.out]; omega)];exact rfl
end
end Go.Proofs.YtokdnhdfmgfkeaaGreatDoor.Xl
end

section
namespace Go.Proofs.YtokdnhdfmgfkeaaGreatDoor.Xl
open Go.RowKit UtfW
section
variable {r : Tx} {y : Tx} {n : Nat} {s : Bool}
theorem stand_off (h : Lib.hasPrefix r [115, 116, 97, 110, 100, 97, 108, 111, 110, 101] = false) : stand r s = decide (r = []) := by
 unfold stand staT;rw [if_neg (by rw [h]; decide)]
theorem stand_none (h : Lib.hasPrefix r [115, 116, 97, 110, 100, 97, 108, 111, 110, 101] = true) (hq : quoted [115, 116, 97, 110, 100, 97, 108, 111, 110, 101] r = none) : stand r s = false := by
 unfold stand staT;rw [if_pos h, hq]
theorem stand_some (h : Lib.hasPrefix r [115, 116, 97, 110, 100, 97, 108, 111, 110, 101] = true) (hq : quoted [115, 116, 97, 110, 100, 97, 108, 111, 110, 101] r = some (y, n)) : stand r s = (s && (decide (y = [121, 101, 115]) || decide (y = [110, 111])) && decide (n + blanks (r.drop n) = r.length)) := by
 unfold stand staT;rw [if_pos h, hq]
theorem encd_off (h : Lib.hasPrefix r [101, 110, 99, 111, 100, 105, 110, 103] = false) : encd r s = stand r s := by
 unfold encd encT;rw [if_neg (by rw [h]; decide)]
theorem encd_none (h : Lib.hasPrefix r [101, 110, 99, 111, 100, 105, 110, 103] = true) (hq : quoted [101, 110, 99, 111, 100, 105, 110, 103] r = none) : encd r s = false := by
 unfold encd encT;rw [if_pos h, hq]
theorem encd_some (h : Lib.hasPrefix r [101, 110, 99, 111, 100, 105, 110, 103] = true) (hq : quoted [101, 110, 99, 111, 100, 105, 110, 103] r = some (y, n)) : encd r s = (s && decide (y.map low = utfT) && stand (r.drop (n + blanks (r.drop n))) (decide (0 < blanks (r.drop n)))) := by
 unfold encd encT;rw [if_pos h, hq];rfl
theorem drop_nil {x : Tx} {K : Nat} (h : K <= x.length) : decide (x.drop K = []) = decide (K = x.length) := by
 rw [decide_eq_decide, List.drop_eq_nil_iff];omega
theorem quoted_len {w r t : Tx} {n : Nat} (h : quoted w r = some (t, n)) : n <= r.length := by
 unfold quoted at h
 split at h
 ·split at h
  ·split at h
   ·cases h
   ·rename_i q u hd
    split at h
    ·cases hf : find [q] u with
     | none => rw [hf] at h; cases h
     | some m =>
      rw [hf] at h;injection h with h;injection h with h1 h2;obtain ⟨g1, _⟩ := find_len hf;have hl : (q :: u).length = r.length - (w.length + blanks (r.drop w.length) + 1 + blanks (r.drop (w.length + blanks (r.drop w.length) + 1))) := (by rw [<- hd, List.length_drop]);simp only [List.length_cons, List.length_nil] at hl g1;omega
    ·cases h
  ·cases h
 ·cases h
theorem quoted_txt {w r t : Tx} {n : Nat} (h : quoted w r = some (t, n)) : t.length <= r.length := by
 unfold quoted at h
 split at h
 ·split at h
  ·split at h
   ·cases h
   ·rename_i q u hd
    split at h
    ·cases hf : find [q] u with
     | none => rw [hf] at h; cases h
     | some m =>
      rw [hf] at h;injection h with h;injection h with h1 h2;have hl : (q :: u).length = r.length - (w.length + blanks (r.drop w.length) + 1 + blanks (r.drop (w.length + blanks (r.drop w.length) + 1))) := (by rw [<- hd, List.length_drop]);simp only [List.length_cons] at hl;rw [<- h1, List.length_take];omega
    ·cases h
  ·cases h
 ·cases h
theorem dec_none {x : Tx} (h : blanks x = 0) : declared x = false := by
 unfold declared;rw [h];rfl
theorem dec_some {x : Tx} {B : Nat} (h : blanks x = B) (h0 : 0 < B) : declared x = match quoted [118, 101, 114, 115, 105, 111, 110] (x.drop B) with
  | none => false
  | some (v, n) => decide (v = [49, 46, 48]) && encd (x.drop (B + n + blanks (x.drop (B + n)))) (decide (0 < blanks (x.drop (B + n)))) := by
 unfold declared verT;rw [h, decide_eq_true h0, Bool.true_and]
 cases quoted [118, 101, 114, 115, 105, 111, 110] (x.drop B) with
 | none => rfl
 | some y => rfl
end
section
variable (w : World) (hU : Un w) (x : Tx) (hx : x.length <= 65536)
include hU hx
set_option maxHeartbeats 4000000 in
set_option maxRecDepth 100000 in
theorem declared_any : Calls Tryz.prog 158 #[.string (strOf x)] w fun e w' => e = .returned (.bool (declared x)) /\ Below w.heap.size w w' := by
 obtain ⟨bd, cb, w1, hcv, hbs, hb1⟩ := conv_bytes w x (by omega);have hbA := below_alloc w1 (.cells #[.slice (some ⟨bd, 0, none⟩) x.length cb, .int .i64 0, .slice none 0 0] 134);have hnA := heap_alloc_new w1 (.cells #[.slice (some ⟨bd, 0, none⟩) x.length cb, .int .i64 0, .slice none 0 0] 134)
 have hne : ∀ a, (some ⟨bd, 0, none⟩ : Option Addr) = some a -> 0 < x.length -> a.block ≠ w1.heap.size := by
  intro a e h0;obtain ⟨b9, off, e9, hlt, _⟩ := Rd.cell hbs h0;rw [e] at e9;injection e9 with e9;rw [e9];exact Nat.ne_of_lt hlt
 have hs2 : Xc (w1.alloc (.cells #[.slice (some ⟨bd, 0, none⟩) x.length cb, .int .i64 0, .slice none 0 0] 134)) w1.heap.size x 0 (some ⟨bd, 0, none⟩) cb (.slice none 0 0) :=
  ⟨⟨w, hU, hb1.size, hb1.trans (hbA.mono hb1.size)⟩, hnA, Bs.below hbs hbA, hne⟩
 have hs2' := Hd hs2;have hb2' := Hd (hb1.trans (hbA.mono hb1.size));have hbw := Hd hb1.size;obtain ⟨R, hR⟩ : ∃ R, declared x = R := ⟨_, rfl⟩;rw [hR];have hR0 := Hd hR;clear hR hs2 hbA hnA hne hbs hb1
 go_enter Tryz.func158, Tryz.ntmps158
 go_upto_region 2 with fail
 generalize w1.alloc (.cells #[.slice (some ⟨bd, 0, none⟩) x.length cb, .int .i64 0, .slice none 0 0] 134) = w2 at hs2' hb2' ⊢;clear hcv;generalize w1.heap.size = b at hs2' hbw ⊢;go_wp2_with fail;refine (blanks_any w2 b x 0 _ cb _ hs2'.out (by omega) hx).mono ?_;rintro e w3 ⟨rfl, hs3, hg3⟩;rw [List.drop_zero, Nat.zero_add] at hs3;rw [List.drop_zero];have hBl := blanks_le x;obtain ⟨B, hBe⟩ : ∃ B, blanks x = B := ⟨_, rfl⟩;rw [hBe] at hs3 hBl ⊢;have hB' := Hd hBe;have hs3' := Hd hs3;have hb3 := Hd (hb2'.out.trans (below_row hg3 hbw.out hb2'.out.size));clear hs3 hg3 hBe hs2' hb2'
 by_cases hB0 : B = 0
 ·have hR' : Hid (declared x = R) := hR0;have hB0' := Hd (hB'.out.trans hB0);have i0 : decide (0 < B) = false := by simp; omega
  rw [i0];clear hB0 i0;go_wp2_with fail
  (try simp only [Exit.inBlock, Exit.then])
  go_ret;exact ⟨ret_bool (by rw [<- hR'.out, dec_none hB0'.out]), hb3.out⟩
 have i0 : decide (0 < B) = true := by simp; omega
 rw [i0];have hBp : 0 < B := by omega
 have hds := Hd (dec_some hB'.out hBp);clear hB0 i0;go_wp2_with fail;refine (quoted_any w3 b x B _ cb _ hs3'.out hBl hx [118, 101, 114, 115, 105, 111, 110] (by decide)).mono ?_;rintro e w4 ⟨hg4, hG⟩;have hb4 := Hd (hb3.out.trans (below_row hg4 hbw.out hb3.out.size))
 cases hq : quoted [118, 101, 114, 115, 105, 111, 110] (x.drop B) with
 | none =>
  rw [hq] at hG hds;subst hG;have hR' : Hid (declared x = R) := hR0;clear hq;go_wp2_with fail
  (try simp only [Exit.inBlock, Exit.then])
  go_ret;exact ⟨ret_bool (by rw [<- hR'.out, hds.out]), hb4.out⟩
 | some vn =>
  obtain ⟨v, n⟩ := vn;have hnl := quoted_len hq;rw [List.length_drop] at hnl;rw [hq] at hG hds;obtain ⟨rfl, hs4⟩ := hG;have hs4' := Hd hs4;clear hq hs4 hg4 hs3' hb3;have s1 := str_eqL v [49, 46, 48]
  by_cases hv : v = [49, 46, 48]
  ·have hR1 : Hid (encd (x.drop (B + n + blanks (x.drop (B + n)))) (decide (0 < blanks (x.drop (B + n)))) = R) := Hd (by
    rw [<- hR0.out, hds.out]
    simp only [decide_eq_true hv, Bool.true_and])
   rw [decide_eq_true hv] at s1;have hn2 : B + n <= x.length := by omega
   clear hv hds;go_wp2_with fail;refine (blanks_any w4 b x (B + n) _ cb _ hs4'.out hn2 hx).mono ?_;rintro e w5 ⟨rfl, hs5, hg5⟩;have hBl2 := blanks_le (x.drop (B + n));rw [List.length_drop] at hBl2;obtain ⟨B2, hBe⟩ : ∃ B2, blanks (x.drop (B + n)) = B2 := ⟨_, rfl⟩;rw [hBe] at hs5 hBl2 hR1 ⊢;obtain ⟨K0, hK0⟩ : ∃ K0, B + n + B2 = K0 := ⟨_, rfl⟩;rw [hK0] at hs5 hR1;have hKl : K0 <= x.length := by omega
   obtain ⟨sm, hsm⟩ : ∃ sm, decide (0 < B2) = sm := ⟨_, rfl⟩;rw [hsm] at hR1 ⊢;have hs5' := Hd hs5;have hb5 := Hd (hb4.out.trans (below_row hg5 hbw.out hb4.out.size));clear hs5 hg5 hBe hK0 hsm hs4' hb4 s1 hnl hn2 hBl hBl2 hBp;go_wp2_with fail;refine (has_any w5 b x K0 _ cb _ hs5'.out hKl hx [101, 110, 99, 111, 100, 105, 110, 103] (by decide)).mono ?_;rintro e w6 ⟨rfl, hb6⟩;have hs6 := Hd (hs5'.out.below hb6);have hb6' := Hd (hb5.out.trans (hb6.mono hb5.out.size));clear hb6 hs5' hb5
   cases hpe : Lib.hasPrefix (x.drop K0) [101, 110, 99, 111, 100, 105, 110, 103] with
   | true =>
    have hpe' := Hd hpe;clear hpe;go_wp2_with fail;refine (quoted_any w6 b x K0 _ cb _ hs6.out hKl hx [101, 110, 99, 111, 100, 105, 110, 103] (by decide)).mono ?_;rintro e w7 ⟨hg7, hG⟩;have hb7 := Hd (hb6'.out.trans (below_row hg7 hbw.out hb6'.out.size))
    cases hq : quoted [101, 110, 99, 111, 100, 105, 110, 103] (x.drop K0) with
    | none =>
     rw [hq] at hG;subst hG;have hR' : Hid (encd (x.drop K0) sm = R) := hR1;have hq' := Hd hq;clear hq
     cases sm with
     | false =>
      go_wp2_with fail
      (try simp only [Exit.inBlock, Exit.then])
      go_ret;exact ⟨ret_bool (by rw [<- hR'.out, encd_none hpe'.out hq'.out]), hb7.out⟩
     | true =>
      go_wp2_with fail
      (try simp only [Exit.inBlock, Exit.then])
      go_ret;exact ⟨ret_bool (by rw [<- hR'.out, encd_none hpe'.out hq'.out]), hb7.out⟩
    | some yn =>
     obtain ⟨y0, m⟩ := yn;rw [hq] at hG;obtain ⟨rfl, hs7⟩ := hG;have hs7' := Hd hs7;have hq' := Hd hq;have hml := quoted_len hq;rw [List.length_drop] at hml;have hes := Hd (encd_some (s := sm) hpe'.out hq'.out)
     have hyl : y0.length <= 65536 := by
      have := quoted_txt hq;rw [List.length_drop] at this;omega
     clear hq hs7 hg7 hs6 hb6'
     cases sm with
     | false =>
      have hR' : Hid (encd (x.drop K0) false = R) := hR1;go_wp2_with fail
      (try simp only [Exit.inBlock, Exit.then])
      go_ret;exact ⟨ret_bool (by rw [<- hR'.out, hes.out, Bool.false_and, Bool.false_and]), hb7.out⟩
     | true =>
     go_wp2_with fail;refine (lower_any w7 hs7'.out.us.un y0 hyl).mono ?_;rintro e w8 ⟨tl, rfl, htl, hb8⟩;have hs8 := Hd (hs7'.out.below hb8);have hb8' := Hd (hb7.out.trans (hb8.mono hb7.out.size));clear hb8 hs7' hb7;have s2 := str_eqL tl [117, 116, 102, 45, 56];have htl' : decide (tl = [117, 116, 102, 45, 56]) = decide (y0.map low = utfT) := htl;rw [htl'] at s2;clear htl htl';have hn3 : K0 + m <= x.length := by omega
     have hR2 : Hid ((decide (y0.map low = utfT) && stand (x.drop (K0 + m + blanks (x.drop (K0 + m)))) (decide (0 < blanks (x.drop (K0 + m))))) = R) := Hd (by
      rw [<- hR1.out, hes.out, Bool.true_and, List.drop_drop, List.drop_drop, <- Nat.add_assoc])
     clear hes hR1
     cases hlo : decide (y0.map low = utfT) with
     | false =>
      rw [hlo] at s2 hR2;have hR' := hR2;clear hlo;go_wp2_with fail
      (try simp only [Exit.inBlock, Exit.then])
      go_ret;exact ⟨ret_bool (by rw [<- hR'.out, Bool.false_and]), hb8'.out⟩
     | true =>
     rw [hlo, Bool.true_and] at hR2;rw [hlo] at s2;clear hlo;go_wp2_with fail;refine (blanks_any w8 b x (K0 + m) _ cb _ hs8.out hn3 hx).mono ?_;rintro e wS ⟨rfl, hs9, hg9⟩;have hBl2 := blanks_le (x.drop (K0 + m));rw [List.length_drop] at hBl2;obtain ⟨B3, hBe⟩ : ∃ B3, blanks (x.drop (K0 + m)) = B3 := ⟨_, rfl⟩;rw [hBe] at hs9 hBl2 hR2 ⊢;obtain ⟨K, hK0⟩ : ∃ K, K0 + m + B3 = K := ⟨_, rfl⟩;rw [hK0] at hs9 hR2;have hK : K <= x.length := (by omega);obtain ⟨sm, hsm⟩ : ∃ sm, decide (0 < B3) = sm := ⟨_, rfl⟩;rw [hsm] at hR2 ⊢;have hsS := Hd hs9;have hbS := Hd (hb8'.out.trans (below_row hg9 hbw.out hb8'.out.size));have hR' := hR2;clear hs9 hg9 hBe hK0 hsm hs8 hb8' s2 hR2 hml hyl hn3 hBl2 hKl;go_wp2_with fail;refine (has_any wS b x K _ cb _ hsS.out hK hx [115, 116, 97, 110, 100, 97, 108, 111, 110, 101] (by decide)).mono ?_;rintro e wa ⟨rfl, hba⟩;have hsa := Hd (hsS.out.below hba);have hbb := Hd (hbS.out.trans (hba.mono hbS.out.size));clear hba hsS hbS
     cases hp : Lib.hasPrefix (x.drop K) [115, 116, 97, 110, 100, 97, 108, 111, 110, 101] with
     | false =>
      have hp' := Hd hp;clear hp;have c0 := hsa.out.c0;have c1 := hsa.out.c1
      by_cases hend : K = x.length
      ·have i0 : (((K : Nat) : Int) == (x.length : Int)) = true := by rw [hend]; simp
       have hend' := Hd hend;clear hend;go_wp2_with fail
       go_big_quiet (fail)
       have hbq := Joins.below_draws wa.heap.size wa nq;go_wp2_with fail
       (try simp only [Exit.inBlock, Exit.then])
       go_ret;have hend := hend'.out;exact ⟨ret_bool (by rw [<- hR'.out, stand_off hp'.out, drop_nil hK]; first | exact (decide_eq_true (by omega)) | (rw [Bool.eq_iff_iff, beq_iff_eq, decide_eq_true_eq]; omega) | exact (decide_eq_true (by omega)).symm | (symm; simp; omega) | (simp; omega)), hbb.out.trans (hbq.mono hbb.out.size)⟩
      ·have i0 : (((K : Nat) : Int) == (x.length : Int)) = false := by rw [beq_eq_false_iff_ne]; omega
       have hend' := Hd hend;clear hend;go_wp2_with fail
       go_big_quiet (fail)
       have hbq := Joins.below_draws wa.heap.size wa nq;go_wp2_with fail
       (try simp only [Exit.inBlock, Exit.then])
       go_ret;have hend := hend'.out;exact ⟨ret_bool (by rw [<- hR'.out, stand_off hp'.out, drop_nil hK]; first | exact (decide_eq_false (by omega)) | (rw [Bool.eq_iff_iff, beq_iff_eq, decide_eq_true_eq]; omega) | exact (decide_eq_false (by omega)).symm | (symm; simp; omega) | (simp; omega)), hbb.out.trans (hbq.mono hbb.out.size)⟩
     | true =>
      have hp' := Hd hp;clear hp;go_wp2_with fail;refine (quoted_any wa b x K _ cb _ hsa.out hK hx [115, 116, 97, 110, 100, 97, 108, 111, 110, 101] (by decide)).mono ?_;rintro e wb ⟨hgb, hG⟩;have hbB := Hd (hbb.out.trans (below_row hgb hbw.out hbb.out.size))
      cases hq : quoted [115, 116, 97, 110, 100, 97, 108, 111, 110, 101] (x.drop K) with
      | none =>
       rw [hq] at hG;subst hG;have hq' := Hd hq;clear hq
       cases sm with
       | false =>
        go_wp2_with fail
        (try simp only [Exit.inBlock, Exit.then])
        go_ret;exact ⟨ret_bool (by rw [<- hR'.out, stand_none hp'.out hq'.out]), hbB.out⟩
       | true =>
        go_wp2_with fail
        (try simp only [Exit.inBlock, Exit.then])
        go_ret;exact ⟨ret_bool (by rw [<- hR'.out, stand_none hp'.out hq'.out]), hbB.out⟩
      | some yn =>
       obtain ⟨y, n⟩ := yn;rw [hq] at hG;obtain ⟨rfl, hsb⟩ := hG;have hsb' := Hd hsb;have hq' := Hd hq;clear hq hsb hgb
       cases sm with
       | false =>
        go_wp2_with fail
        (try simp only [Exit.inBlock, Exit.then])
        go_ret;exact ⟨ret_bool (by rw [<- hR'.out, stand_some hp'.out hq'.out, Bool.false_and, Bool.false_and]), hbB.out⟩
       | true =>
       have hnl := Hd (quoted_len hq'.out)
       have hn2 : K + n <= x.length := by
        have := hnl.out;rw [List.length_drop] at this;omega
       by_cases hy1 : y = [121, 101, 115]
       ·have hys : Hid ((decide (y = [121, 101, 115]) || decide (y = [110, 111])) = true) := Hd (by
         rw [decide_eq_true hy1]; rfl)
        have s1 := str_eqL y [121, 101, 115];rw [decide_eq_true hy1] at s1;clear hy1;go_wp2_with fail;refine (blanks_any wb b x (K + n) _ cb _ hsb'.out hn2 hx).mono ?_;rintro e wd ⟨rfl, hsd, hgd⟩;have hsd' := Hd hsd;have hbd := Hd (hbB.out.trans (below_row hgd hbw.out hbB.out.size));have hBl := blanks_le (x.drop (K + n));rw [List.length_drop] at hBl;obtain ⟨B, hBe⟩ : ∃ B, blanks (x.drop (K + n)) = B := ⟨_, rfl⟩;rw [hBe] at hsd' hBl;have hB' := Hd hBe;clear hsd hgd hBe hsb' hbB s1;have hkk : Hid (decide (n + B = (x.drop K).length) = decide (K + n + B = x.length)) := Hd (by rw [List.length_drop, decide_eq_decide]; omega);have hBd : Hid (blanks ((x.drop K).drop n) = B) := Hd (by rw [List.drop_drop]; exact hB'.out);have c0 := hsd'.out.c0;have c1 := hsd'.out.c1
        by_cases hend : K + n + B = x.length
        ·have i0 : (((K + n + B : Nat) : Int) == (x.length : Int)) = true := by rw [hend]; simp
         have hend' := Hd hend;clear hend;go_wp2_with fail
         go_big_quiet (fail)
         have hbq := Joins.below_draws wd.heap.size wd nq;go_wp2_with fail
         (try simp only [Exit.inBlock, Exit.then])
         go_ret;have hend := hend'.out;exact ⟨ret_bool (by rw [<- hR'.out, stand_some hp'.out hq'.out, hys.out, hBd.out, hkk.out, Bool.true_and, Bool.true_and]; first | exact (decide_eq_true (by omega)) | (rw [Bool.eq_iff_iff, beq_iff_eq, decide_eq_true_eq]; omega) | exact (decide_eq_true (by omega)).symm | (symm; simp; omega) | (simp; omega)), hbd.out.trans (hbq.mono hbd.out.size)⟩
        ·have i0 : (((K + n + B : Nat) : Int) == (x.length : Int)) = false := by rw [beq_eq_false_iff_ne]; omega
         have hend' := Hd hend;clear hend;go_wp2_with fail
         go_big_quiet (fail)
         have hbq := Joins.below_draws wd.heap.size wd nq;go_wp2_with fail
         (try simp only [Exit.inBlock, Exit.then])
         go_ret;have hend := hend'.out;exact ⟨ret_bool (by rw [<- hR'.out, stand_some hp'.out hq'.out, hys.out, hBd.out, hkk.out, Bool.true_and, Bool.true_and]; first | exact (decide_eq_false (by omega)) | (rw [Bool.eq_iff_iff, beq_iff_eq, decide_eq_true_eq]; omega) | exact (decide_eq_false (by omega)).symm | (symm; simp; omega) | (simp; omega)), hbd.out.trans (hbq.mono hbd.out.size)⟩
       by_cases hy2 : y = [110, 111]
       ·have hys : Hid ((decide (y = [121, 101, 115]) || decide (y = [110, 111])) = true) := Hd (by
         rw [decide_eq_true hy2, Bool.or_true])
        have s1 := str_eqL y [121, 101, 115];have s2 := str_eqL y [110, 111];rw [decide_eq_false hy1] at s1;rw [decide_eq_true hy2] at s2;clear hy1 hy2;go_wp2_with fail;refine (blanks_any wb b x (K + n) _ cb _ hsb'.out hn2 hx).mono ?_;rintro e wd ⟨rfl, hsd, hgd⟩;have hsd' := Hd hsd;have hbd := Hd (hbB.out.trans (below_row hgd hbw.out hbB.out.size));have hBl := blanks_le (x.drop (K + n));rw [List.length_drop] at hBl;obtain ⟨B, hBe⟩ : ∃ B, blanks (x.drop (K + n)) = B := ⟨_, rfl⟩;rw [hBe] at hsd' hBl;have hB' := Hd hBe;clear hsd hgd hBe hsb' hbB s1;have hkk : Hid (decide (n + B = (x.drop K).length) = decide (K + n + B = x.length)) := Hd (by rw [List.length_drop, decide_eq_decide]; omega);have hBd : Hid (blanks ((x.drop K).drop n) = B) := Hd (by rw [List.drop_drop]; exact hB'.out);have c0 := hsd'.out.c0;have c1 := hsd'.out.c1
        by_cases hend : K + n + B = x.length
        ·have i0 : (((K + n + B : Nat) : Int) == (x.length : Int)) = true := by rw [hend]; simp
         have hend' := Hd hend;clear hend;go_wp2_with fail
         go_big_quiet (fail)
         have hbq := Joins.below_draws wd.heap.size wd nq;go_wp2_with fail
         (try simp only [Exit.inBlock, Exit.then])
         go_ret;have hend := hend'.out;exact ⟨ret_bool (by rw [<- hR'.out, stand_some hp'.out hq'.out, hys.out, hBd.out, hkk.out, Bool.true_and, Bool.true_and]; first | exact (decide_eq_true (by omega)) | (rw [Bool.eq_iff_iff, beq_iff_eq, decide_eq_true_eq]; omega) | exact (decide_eq_true (by omega)).symm | (symm; simp; omega) | (simp; omega)), hbd.out.trans (hbq.mono hbd.out.size)⟩
        ·have i0 : (((K + n + B : Nat) : Int) == (x.length : Int)) = false := by rw [beq_eq_false_iff_ne]; omega
         have hend' := Hd hend;clear hend;go_wp2_with fail
         go_big_quiet (fail)
         have hbq := Joins.below_draws wd.heap.size wd nq;go_wp2_with fail
         (try simp only [Exit.inBlock, Exit.then])
         go_ret;have hend := hend'.out;exact ⟨ret_bool (by rw [<- hR'.out, stand_some hp'.out hq'.out, hys.out, hBd.out, hkk.out, Bool.true_and, Bool.true_and]; first | exact (decide_eq_false (by omega)) | (rw [Bool.eq_iff_iff, beq_iff_eq, decide_eq_true_eq]; omega) | exact (decide_eq_false (by omega)).symm | (symm; simp; omega) | (simp; omega)), hbd.out.trans (hbq.mono hbd.out.size)⟩
       have hys : Hid ((decide (y = [121, 101, 115]) || decide (y = [110, 111])) = false) := Hd (by
        rw [decide_eq_false hy1, decide_eq_false hy2]; rfl)
       have s1 := str_eqL y [121, 101, 115];have s2 := str_eqL y [110, 111];rw [decide_eq_false hy1] at s1;rw [decide_eq_false hy2] at s2;clear hy1 hy2;go_wp2_with fail
       (try simp only [Exit.inBlock, Exit.then])
       go_ret;exact ⟨ret_bool (by rw [<- hR'.out, stand_some hp'.out hq'.out, hys.out, Bool.and_false, Bool.false_and]), hbB.out⟩
   | false =>
    have hpe' := Hd hpe;clear hpe;have hR' : Hid (stand (x.drop K0) sm = R) := Hd (by rw [<- hR1.out, encd_off hpe'.out]);clear hR1;have hsS := hs6;have hbS := hb6';have hK := hKl;clear hs6 hb6' hKl;generalize hww : w6 = wS at hsS hbS ⊢;generalize hKK : K0 = K at hsS hR' hK ⊢;clear hww hKK;go_wp2_with fail;refine (has_any wS b x K _ cb _ hsS.out hK hx [115, 116, 97, 110, 100, 97, 108, 111, 110, 101] (by decide)).mono ?_;rintro e wa ⟨rfl, hba⟩;have hsa := Hd (hsS.out.below hba);have hbb := Hd (hbS.out.trans (hba.mono hbS.out.size));clear hba hsS hbS
    cases hp : Lib.hasPrefix (x.drop K) [115, 116, 97, 110, 100, 97, 108, 111, 110, 101] with
    | false =>
     have hp' := Hd hp;clear hp;have c0 := hsa.out.c0;have c1 := hsa.out.c1
     by_cases hend : K = x.length
     ·have i0 : (((K : Nat) : Int) == (x.length : Int)) = true := by rw [hend]; simp
      have hend' := Hd hend;clear hend;go_wp2_with fail
      go_big_quiet (fail)
      have hbq := Joins.below_draws wa.heap.size wa nq;go_wp2_with fail
      (try simp only [Exit.inBlock, Exit.then])
      go_ret;have hend := hend'.out;exact ⟨ret_bool (by rw [<- hR'.out, stand_off hp'.out, drop_nil hK]; first | exact (decide_eq_true (by omega)) | (rw [Bool.eq_iff_iff, beq_iff_eq, decide_eq_true_eq]; omega) | exact (decide_eq_true (by omega)).symm | (symm; simp; omega) | (simp; omega)), hbb.out.trans (hbq.mono hbb.out.size)⟩
     ·have i0 : (((K : Nat) : Int) == (x.length : Int)) = false := by rw [beq_eq_false_iff_ne]; omega
      have hend' := Hd hend;clear hend;go_wp2_with fail
      go_big_quiet (fail)
      have hbq := Joins.below_draws wa.heap.size wa nq;go_wp2_with fail
      (try simp only [Exit.inBlock, Exit.then])
      go_ret;have hend := hend'.out;exact ⟨ret_bool (by rw [<- hR'.out, stand_off hp'.out, drop_nil hK]; first | exact (decide_eq_false (by omega)) | (rw [Bool.eq_iff_iff, beq_iff_eq, decide_eq_true_eq]; omega) | exact (decide_eq_false (by omega)).symm | (symm; simp; omega) | (simp; omega)), hbb.out.trans (hbq.mono hbb.out.size)⟩
    | true =>
     have hp' := Hd hp;clear hp;go_wp2_with fail;refine (quoted_any wa b x K _ cb _ hsa.out hK hx [115, 116, 97, 110, 100, 97, 108, 111, 110, 101] (by decide)).mono ?_;rintro e wb ⟨hgb, hG⟩;have hbB := Hd (hbb.out.trans (below_row hgb hbw.out hbb.out.size))
     cases hq : quoted [115, 116, 97, 110, 100, 97, 108, 111, 110, 101] (x.drop K) with
     | none =>
      rw [hq] at hG;subst hG;have hq' := Hd hq;clear hq
      cases sm with
      | false =>
       go_wp2_with fail
       (try simp only [Exit.inBlock, Exit.then])
       go_ret;exact ⟨ret_bool (by rw [<- hR'.out, stand_none hp'.out hq'.out]), hbB.out⟩
      | true =>
       go_wp2_with fail
       (try simp only [Exit.inBlock, Exit.then])
       go_ret;exact ⟨ret_bool (by rw [<- hR'.out, stand_none hp'.out hq'.out]), hbB.out⟩
     | some yn =>
      obtain ⟨y, n⟩ := yn;rw [hq] at hG;obtain ⟨rfl, hsb⟩ := hG;have hsb' := Hd hsb;have hq' := Hd hq;clear hq hsb hgb
      cases sm with
      | false =>
       go_wp2_with fail
       (try simp only [Exit.inBlock, Exit.then])
       go_ret;exact ⟨ret_bool (by rw [<- hR'.out, stand_some hp'.out hq'.out, Bool.false_and, Bool.false_and]), hbB.out⟩
      | true =>
      have hnl := Hd (quoted_len hq'.out)
      have hn2 : K + n <= x.length := by
       have := hnl.out;rw [List.length_drop] at this;omega
      by_cases hy1 : y = [121, 101, 115]
      ·have hys : Hid ((decide (y = [121, 101, 115]) || decide (y = [110, 111])) = true) := Hd (by
        rw [decide_eq_true hy1]; rfl)
       have s1 := str_eqL y [121, 101, 115];rw [decide_eq_true hy1] at s1;clear hy1;go_wp2_with fail;refine (blanks_any wb b x (K + n) _ cb _ hsb'.out hn2 hx).mono ?_;rintro e wd ⟨rfl, hsd, hgd⟩;have hsd' := Hd hsd;have hbd := Hd (hbB.out.trans (below_row hgd hbw.out hbB.out.size));have hBl := blanks_le (x.drop (K + n));rw [List.length_drop] at hBl;obtain ⟨B, hBe⟩ : ∃ B, blanks (x.drop (K + n)) = B := ⟨_, rfl⟩;rw [hBe] at hsd' hBl;have hB' := Hd hBe;clear hsd hgd hBe hsb' hbB s1;have hkk : Hid (decide (n + B = (x.drop K).length) = decide (K + n + B = x.length)) := Hd (by rw [List.length_drop, decide_eq_decide]; omega);have hBd : Hid (blanks ((x.drop K).drop n) = B) := Hd (by rw [List.drop_drop]; exact hB'.out);have c0 := hsd'.out.c0;have c1 := hsd'.out.c1
       by_cases hend : K + n + B = x.length
       ·have i0 : (((K + n + B : Nat) : Int) == (x.length : Int)) = true := by rw [hend]; simp
        have hend' := Hd hend;clear hend;go_wp2_with fail
        go_big_quiet (fail)
        have hbq := Joins.below_draws wd.heap.size wd nq;go_wp2_with fail
        (try simp only [Exit.inBlock, Exit.then])
        go_ret;have hend := hend'.out;exact ⟨ret_bool (by rw [<- hR'.out, stand_some hp'.out hq'.out, hys.out, hBd.out, hkk.out, Bool.true_and, Bool.true_and]; first | exact (decide_eq_true (by omega)) | (rw [Bool.eq_iff_iff, beq_iff_eq, decide_eq_true_eq]; omega) | exact (decide_eq_true (by omega)).symm | (symm; simp; omega) | (simp; omega)), hbd.out.trans (hbq.mono hbd.out.size)⟩
       ·have i0 : (((K + n + B : Nat) : Int) == (x.length : Int)) = false := by rw [beq_eq_false_iff_ne]; omega
        have hend' := Hd hend;clear hend;go_wp2_with fail
        go_big_quiet (fail)
        have hbq := Joins.below_draws wd.heap.size wd nq;go_wp2_with fail
        (try simp only [Exit.inBlock, Exit.then])
        go_ret;have hend := hend'.out;exact ⟨ret_bool (by rw [<- hR'.out, stand_some hp'.out hq'.out, hys.out, hBd.out, hkk.out, Bool.true_and, Bool.true_and]; first | exact (decide_eq_false (by omega)) | (rw [Bool.eq_iff_iff, beq_iff_eq, decide_eq_true_eq]; omega) | exact (decide_eq_false (by omega)).symm | (symm; simp; omega) | (simp; omega)), hbd.out.trans (hbq.mono hbd.out.size)⟩
      by_cases hy2 : y = [110, 111]
      ·have hys : Hid ((decide (y = [121, 101, 115]) || decide (y = [110, 111])) = true) := Hd (by
        rw [decide_eq_true hy2, Bool.or_true])
       have s1 := str_eqL y [121, 101, 115];have s2 := str_eqL y [110, 111];rw [decide_eq_false hy1] at s1;rw [decide_eq_true hy2] at s2;clear hy1 hy2;go_wp2_with fail;refine (blanks_any wb b x (K + n) _ cb _ hsb'.out hn2 hx).mono ?_;rintro e wd ⟨rfl, hsd, hgd⟩;have hsd' := Hd hsd;have hbd := Hd (hbB.out.trans (below_row hgd hbw.out hbB.out.size));have hBl := blanks_le (x.drop (K + n));rw [List.length_drop] at hBl;obtain ⟨B, hBe⟩ : ∃ B, blanks (x.drop (K + n)) = B := ⟨_, rfl⟩;rw [hBe] at hsd' hBl;have hB' := Hd hBe;clear hsd hgd hBe hsb' hbB s1;have hkk : Hid (decide (n + B = (x.drop K).length) = decide (K + n + B = x.length)) := Hd (by rw [List.length_drop, decide_eq_decide]; omega);have hBd : Hid (blanks ((x.drop K).drop n) = B) := Hd (by rw [List.drop_drop]; exact hB'.out);have c0 := hsd'.out.c0;have c1 := hsd'.out.c1
       by_cases hend : K + n + B = x.length
       ·have i0 : (((K + n + B : Nat) : Int) == (x.length : Int)) = true := by rw [hend]; simp
        have hend' := Hd hend;clear hend;go_wp2_with fail
        go_big_quiet (fail)
        have hbq := Joins.below_draws wd.heap.size wd nq;go_wp2_with fail
        (try simp only [Exit.inBlock, Exit.then])
        go_ret;have hend := hend'.out;exact ⟨ret_bool (by rw [<- hR'.out, stand_some hp'.out hq'.out, hys.out, hBd.out, hkk.out, Bool.true_and, Bool.true_and]; first | exact (decide_eq_true (by omega)) | (rw [Bool.eq_iff_iff, beq_iff_eq, decide_eq_true_eq]; omega) | exact (decide_eq_true (by omega)).symm | (symm; simp; omega) | (simp; omega)), hbd.out.trans (hbq.mono hbd.out.size)⟩
       ·have i0 : (((K + n + B : Nat) : Int) == (x.length : Int)) = false := by rw [beq_eq_false_iff_ne]; omega
        have hend' := Hd hend;clear hend;go_wp2_with fail
        go_big_quiet (fail)
        have hbq := Joins.below_draws wd.heap.size wd nq;go_wp2_with fail
        (try simp only [Exit.inBlock, Exit.then])
        go_ret;have hend := hend'.out;exact ⟨ret_bool (by rw [<- hR'.out, stand_some hp'.out hq'.out, hys.out, hBd.out, hkk.out, Bool.true_and, Bool.true_and]; first | exact (decide_eq_false (by omega)) | (rw [Bool.eq_iff_iff, beq_iff_eq, decide_eq_true_eq]; omega) | exact (decide_eq_false (by omega)).symm | (symm; simp; omega) | (simp; omega)), hbd.out.trans (hbq.mono hbd.out.size)⟩
      have hys : Hid ((decide (y = [121, 101, 115]) || decide (y = [110, 111])) = false) := Hd (by
       rw [decide_eq_false hy1, decide_eq_false hy2]; rfl)
      have s1 := str_eqL y [121, 101, 115];have s2 := str_eqL y [110, 111];rw [decide_eq_false hy1] at s1;rw [decide_eq_false hy2] at s2;clear hy1 hy2;go_wp2_with fail
      (try simp only [Exit.inBlock, Exit.then])
      go_ret;exact ⟨ret_bool (by rw [<- hR'.out, stand_some hp'.out hq'.out, hys.out, Bool.and_false, Bool.false_and]), hbB.out⟩
  ·have hR' : Hid (declared x = R) := hR0;rw [decide_eq_false hv] at s1
   have hdv : Hid (declared x = false) := Hd (by
    rw [hds.out]
    simp only [decide_eq_false hv, Bool.false_and])
   clear hv hds;go_wp2_with fail
   (try simp only [Exit.inBlock, Exit.then])
   go_ret;exact ⟨ret_bool (by rw [<- hR'.out, hdv.out]), hb4.out⟩
end
end Go.Proofs.YtokdnhdfmgfkeaaGreatDoor.Xl
end

section
namespace Go.Proofs.YtokdnhdfmgfkeaaGreatDoor.Xl
open Go.RowKit UtfW
theorem next_any (A : Option Addr) (n c : Nat) (l : Tx) (p : Nat) (hsz : n <= 281474976710656) (w : World) (hBs : Bs w A n c l) (hU : Ut w) :
  Calls Tryz.prog 157 #[.slice A n c, .int .i64 (p : Nat)] w fun e w' => e = .returned (.int .i32 ((nx l p).1 : Nat)) /\ Below w.heap.size w w' := by
 have hc := utfNext_any A n c l p hsz w hBs hU;rw [nxI_nat] at hc;obtain ⟨P, hP⟩ : ∃ P, nx l p = P := ⟨_, rfl⟩;rw [hP] at hc ⊢;clear hP;obtain ⟨r, m⟩ := P;unfold nxV at hc;simp only at hc ⊢
 go_enter Tryz.func157, Tryz.ntmps157
 go_wp2_with fail;refine hc.mono ?_;rintro e w1 ⟨rfl, hb1⟩;have hb1' := Hd hb1;clear hb1 hc;go_wp2_with fail;go_ret;exact ⟨rfl, hb1'.out⟩
end Go.Proofs.YtokdnhdfmgfkeaaGreatDoor.Xl
end

section
namespace Go.Proofs.YtokdnhdfmgfkeaaGreatDoor.Xl
open Go.RowKit UtfW
section
variable {S x : Tx} {n o : Nat} {ec : Int}
theorem decl_none (h : Lib.hasPrefix S [60, 63, 120, 109, 108] = false) : decl S = .ok () 0 := by
 unfold decl xmlT;rw [if_neg (by rw [h]; intro e; exact absurd e.1 (by decide))]
theorem decl_on (hg : GoesOn (nx (S.drop 5) 0).1 = true) : decl S = .ok () 0 := by
 unfold decl;rw [if_neg (by rw [hg]; intro e; exact absurd e.2 (by decide))]
theorem decl_bad (h : Lib.hasPrefix S [60, 63, 120, 109, 108] = true) (hg : GoesOn (nx (S.drop 5) 0).1 = false) (hu : upto [63, 62] (S.drop 5) = .bad ec o) : decl S = .bad ec (5 + o) := by
 unfold decl xmlT;rw [if_pos ⟨h, hg⟩, hu]
theorem decl_ok (h : Lib.hasPrefix S [60, 63, 120, 109, 108] = true) (hg : GoesOn (nx (S.drop 5) 0).1 = false) (hu : upto [63, 62] (S.drop 5) = .ok x n) (hd : declared x = true) : decl S = .ok () (5 + n) := by
 unfold decl xmlT;rw [if_pos ⟨h, hg⟩, hu];simp only [hd, if_true]
theorem decl_off (h : Lib.hasPrefix S [60, 63, 120, 109, 108] = true) (hg : GoesOn (nx (S.drop 5) 0).1 = false) (hu : upto [63, 62] (S.drop 5) = .ok x n) (hd : declared x = false) : decl S = .bad 2 0 := by
 unfold decl xmlT;rw [if_pos ⟨h, hg⟩, hu];simp only [hd, Bool.false_eq_true, if_false]
end
section
variable (w : World) (b : Nat) (S : Tx) (A : Option Addr) (c : Nat) (vo : Value)
set_option maxHeartbeats 4000000 in
set_option maxRecDepth 100000 in
theorem decl_any (h : Xc w b S 0 A c vo) (hS : S.length <= 65536) :
    Calls Tryz.prog 128 #[.pointer (some ⟨b, 0, none⟩)] w fun e w' => Gives w b S 0 A c vo (fun _ => .tuple #[]) (decl S) e w' := by
  have h' := Hd h;have hq : Hid (∀ x, Below w.heap.size w x -> x.cell? ⟨b, 0, none⟩ = some (.slice A S.length c) /\ x.cell? ⟨b, 1, none⟩ = some (.int .i64 0)) := Hd fun x hx => ⟨(h'.out.below hx).c0, (h'.out.below hx).c1⟩
  have hdr : Hid (Below w.heap.size w w.drew) := Hd (Joins.below_draws w.heap.size w 1);have hw5 : IntKind.i64.wrap 5 = 5 := by decide
  have hh := Hd (has_any w.drew b S 0 A c vo (h'.out.below hdr.out) (by omega) hS [60, 63, 120, 109, 108] (by decide));rw [List.drop_zero] at hh;obtain ⟨R, hR⟩ : ∃ R, decl S = R := ⟨_, rfl⟩;rw [hR];have hR' := Hd hR;clear h hR
  cases hp : Lib.hasPrefix S [60, 63, 120, 109, 108] with
  | false =>
    have hp' := Hd hp;rw [hp] at hh;clear hp
    go_enter Tryz.func128, Tryz.ntmps128
    go_wp2_with fail;refine Pl.wp_region_plan 25 (.take 0 (.run 1 (.take 2 (.take 3 (.take 4 (.take 5 (.take 6 (.take 7 (.take 8 (.take 9 (.take 10 (.take 11 (.take 12 (.take 13 (.take 14 (.take 15 (.take 16 (.take 17 (.take 18 (.take 19 (.take 20 (.take 21 (.take 22 (.take 23 (.take 24 .done))))))))))))))))))))))))) (fun x => x.cell? ⟨b, 0, none⟩ = some (.slice A S.length c) /\ x.cell? ⟨b, 1, none⟩ = some (.int .i64 0)) (by kernel_rfl) (by kernel_rfl) (by exact hq.out _ hdr.out) ?_;simp only [Pl.fill, Al_4, Al_5, Al_6, Al_7]
    iterate 1
      first
      | (refine Pl.take_go ?_ (by rfl) (fun _ _ _ h => h) ?_ ?_
         rotate_left
         · (intro x hSw; (try dsimp only at hSw); (try obtain ⟨s0, s1⟩ := hSw); go_simp; try with_reducible rfl)
         (try simp only [Act.put, Al_1, Al_2, Al_3]))
      | (refine Pl.take_skip (by rfl) (fun _ _ _ h => h) ?_
         (try simp only [Act.put, Al_1, Al_2, Al_3]))
    refine Pl.run_go (fun K hK => ?_);go_simp;refine hh.out.mono ?_;rintro e w1 ⟨rfl, hb1⟩;have hb1' := Hd (hdr.out.trans (hb1.mono hdr.out.size));dsimp only;refine hK.out _ _ (Pl.more_go _ (fun _ h => h) (by exact hq.out _ hb1'.out) ?_);clear hK K hb1
    try simp only [Act.put, Al_1, Al_2, Al_3]
    iterate 23
      first
      | (refine Pl.take_go ?_ (by rfl) (fun _ _ _ h => h) ?_ ?_
         rotate_left
         · (intro x hSw; (try dsimp only at hSw); (try obtain ⟨s0, s1⟩ := hSw); go_simp; try with_reducible rfl)
         (try simp only [Act.put, Al_1, Al_2, Al_3]))
      | (refine Pl.take_skip (by rfl) (fun _ _ _ h => h) ?_
         (try simp only [Act.put, Al_1, Al_2, Al_3]))
    refine Pl.done_go ?_;go_wp2_with fail
    go_end0
    refine ⟨grown_in hb1'.out, ?_⟩;rw [<- hR'.out, decl_none hp'.out];exact ⟨rfl, h'.out.below hb1'.out⟩
  | true =>
    have h5 : 5 <= S.length := by
      have := Qx.prefix_len hp
      simpa using this
    rw [hp] at hh;have hp' := hp;have hpH := Hd hp;clear hp hp'
    by_cases h6 : 5 < S.length
    · have i0 : decide ((5 : Int) < (S.length : Int)) = true := by simp; omega
      have hnx := fun (x : World) (hx : Below w.heap.size w x) => next_any A S.length c S 5 (by omega) x (h'.out.below hx).bs (h'.out.below hx).us.ut
      obtain ⟨r, hr⟩ : ∃ r, (nx S 5).1 = r := ⟨_, rfl⟩;rw [hr] at hnx;have hr' := Hd hr;have hnx' := Hd hnx;clear hr hnx
      go_enter Tryz.func128, Tryz.ntmps128
      go_wp2_with fail;refine Pl.wp_region_plan 25 (.take 0 (.run 1 (.take 2 (.take 3 (.take 4 (.take 5 (.take 6 (.take 7 (.take 8 (.take 9 (.take 10 (.take 11 (.take 12 (.take 13 (.take 14 (.take 15 (.take 16 (.take 17 (.take 18 (.take 19 (.take 20 (.take 21 (.take 22 (.take 23 (.take 24 .done))))))))))))))))))))))))) (fun x => x.cell? ⟨b, 0, none⟩ = some (.slice A S.length c) /\ x.cell? ⟨b, 1, none⟩ = some (.int .i64 0)) (by kernel_rfl) (by kernel_rfl) (by exact hq.out _ hdr.out) ?_;simp only [Pl.fill, Al_4, Al_5, Al_6, Al_7]
      iterate 1
        first
        | (refine Pl.take_go ?_ (by rfl) (fun _ _ _ h => h) ?_ ?_
           rotate_left
           · (intro x hSw; (try dsimp only at hSw); (try obtain ⟨s0, s1⟩ := hSw); go_simp; try with_reducible rfl)
           (try simp only [Act.put, Al_1, Al_2, Al_3]))
        | (refine Pl.take_skip (by rfl) (fun _ _ _ h => h) ?_
           (try simp only [Act.put, Al_1, Al_2, Al_3]))
      refine Pl.run_go (fun K hK => ?_);go_simp;refine hh.out.mono ?_;rintro e w1 ⟨rfl, hb1⟩;have hb1' := Hd (hdr.out.trans (hb1.mono hdr.out.size));dsimp only;refine hK.out _ _ (Pl.more_go _ (fun _ h => h) (by exact hq.out _ hb1'.out) ?_);clear hK K hb1
      try simp only [Act.put, Al_1, Al_2, Al_3]
      iterate 23
        first
        | (refine Pl.take_go ?_ (by rfl) (fun _ _ _ h => h) ?_ ?_
           rotate_left
           · (intro x hSw; (try dsimp only at hSw); (try obtain ⟨s0, s1⟩ := hSw); go_simp; try with_reducible rfl)
           (try simp only [Act.put, Al_1, Al_2, Al_3]))
        | (refine Pl.take_skip (by rfl) (fun _ _ _ h => h) ?_
           (try simp only [Act.put, Al_1, Al_2, Al_3]))
      refine Pl.done_go ?_;go_wp2_with fail;refine (hnx'.out w1 hb1'.out).mono ?_;rintro e w2 ⟨rfl, hb2⟩;have hb2' := Hd (hb1'.out.trans (hb2.mono hb1'.out.size));clear hb2 hb1';go_wp2_with fail;refine (utfGoesOn_any r w2).mono ?_;rintro e w3 ⟨rfl, hb3⟩;have hb3' := Hd (hb2'.out.trans (hb3.mono hb2'.out.size));clear hb3 hb2'
      cases hgo : GoesOn (r : Nat) with
      | true =>
        have hgo' : Hid (GoesOn (nx (S.drop 5) 0).1 = true) := Hd (by rw [<- Qx.nx_drop, hr'.out]; exact hgo);clear hgo;go_wp2_with fail
        go_end0
        refine ⟨grown_in hb3'.out, ?_⟩;rw [<- hR'.out, decl_on hgo'.out];exact ⟨rfl, h'.out.below hb3'.out⟩
      | false =>
        have hgo'' : Hid (GoesOn (nx (S.drop 5) 0).1 = false) := Hd (by rw [<- Qx.nx_drop, hr'.out]; exact hgo);clear hgo;clear hh hq hdr hnx';have hs3 := Hd (h'.out.below hb3'.out);have hg3 := Hd (grown_in (r := some b) hb3'.out);clear hb3';have c1 := hs3.out.c1;have f1 := hs3.out.frozen 1;have hset := hs3.out.set1 5;have hs4 := Hd hset.1;have hg4 := Hd (hg3.out.trans hset.2);clear hset
        go_upto_region 2 with fail
        generalize w3.setCell ⟨b, 1, none⟩ (.int .i64 5) = w4 at hs4 hg4 ⊢;clear c1 f1 hs3 hg3;go_wp2_with fail;refine (upto_any w4 b S 5 A c vo hs4.out h5 hS [63, 62] (by decide) (by decide)).mono ?_;rintro e w5 ⟨hg5, hG⟩
        cases hup : upto [63, 62] (S.drop 5) with
        | bad ec o =>
          rw [hup] at hG;subst hG;go_wp2_with fail;refine ⟨rfl, hg4.out.trans hg5, ?_⟩;rw [<- hR'.out, decl_bad hpH.out hgo''.out hup];exact pan_eqI (by omega)
        | ok x n =>
          rw [hup] at hG;obtain ⟨rfl, hs5⟩ := hG;have hul := upto_len hup;have hm1 := hul.1;have hm2 := hul.2.1;rw [List.length_drop] at hm1;have hs5' := Hd hs5;have hg5' := Hd (hg4.out.trans hg5);have hup' := Hd hup;clear hul hs5 hg5 hup hs4 hg4;go_wp2_with fail;refine (declared_any w5 hs5'.out.us.un x (by omega)).mono ?_;rintro e w6 ⟨rfl, hb6⟩;have hs6 := Hd (hs5'.out.below hb6);have hg6 := Hd (hg5'.out.trans (grown_in (r := some b) hb6));clear hb6 hs5' hg5'
          cases hde : declared x with
          | true =>
            have hde' := Hd hde;clear hde;go_wp2_with fail
            go_end0
            refine ⟨hg6.out, ?_⟩;rw [<- hR'.out, decl_ok hpH.out hgo''.out hup'.out hde'.out];refine ⟨rfl, ?_⟩;rw [Nat.zero_add];exact hs6.out
          | false =>
            have hde' := Hd hde;clear hde;go_wp2_with fail;refine (fail_any _ 2 0).mono ?_;rintro e w9 ⟨rfl, rfl⟩;go_wp2_with fail;refine ⟨rfl, hg6.out, ?_⟩;rw [<- hR'.out, decl_off hpH.out hgo''.out hup'.out hde'.out];exact pan_eqI (by omega)
    · have i0 : decide ((5 : Int) < (S.length : Int)) = false := by simp; omega
      have hgo'' : Hid (GoesOn (nx (S.drop 5) 0).1 = false) := Hd (by rw [drop_end (by omega)]; decide)
      go_enter Tryz.func128, Tryz.ntmps128
      go_wp2_with fail;refine Pl.wp_region_plan 25 (.take 0 (.run 1 (.take 2 (.take 3 (.take 4 (.take 5 (.take 6 (.take 7 (.take 8 (.take 9 (.take 10 (.take 11 (.take 12 (.take 13 (.take 14 (.take 15 (.take 16 (.take 17 (.take 18 (.take 19 (.take 20 (.take 21 (.take 22 (.take 23 (.take 24 .done))))))))))))))))))))))))) (fun x => x.cell? ⟨b, 0, none⟩ = some (.slice A S.length c) /\ x.cell? ⟨b, 1, none⟩ = some (.int .i64 0)) (by kernel_rfl) (by kernel_rfl) (by exact hq.out _ hdr.out) ?_;simp only [Pl.fill, Al_4, Al_5, Al_6, Al_7]
      iterate 1
        first
        | (refine Pl.take_go ?_ (by rfl) (fun _ _ _ h => h) ?_ ?_
           rotate_left
           · (intro x hSw; (try dsimp only at hSw); (try obtain ⟨s0, s1⟩ := hSw); go_simp; try with_reducible rfl)
           (try simp only [Act.put, Al_1, Al_2, Al_3]))
        | (refine Pl.take_skip (by rfl) (fun _ _ _ h => h) ?_
           (try simp only [Act.put, Al_1, Al_2, Al_3]))
      refine Pl.run_go (fun K hK => ?_);go_simp;refine hh.out.mono ?_;rintro e w1 ⟨rfl, hb1⟩;have hb1' := Hd (hdr.out.trans (hb1.mono hdr.out.size));dsimp only;refine hK.out _ _ (Pl.more_go _ (fun _ h => h) (by exact hq.out _ hb1'.out) ?_);clear hK K hb1
      try simp only [Act.put, Al_1, Al_2, Al_3]
      iterate 23
        first
        | (refine Pl.take_go ?_ (by rfl) (fun _ _ _ h => h) ?_ ?_
           rotate_left
           · (intro x hSw; (try dsimp only at hSw); (try obtain ⟨s0, s1⟩ := hSw); go_simp; try with_reducible rfl)
           (try simp only [Act.put, Al_1, Al_2, Al_3]))
        | (refine Pl.take_skip (by rfl) (fun _ _ _ h => h) ?_
           (try simp only [Act.put, Al_1, Al_2, Al_3]))
      refine Pl.done_go ?_
      go_upto_region 1 with fail
      clear hh hq hdr;generalize hww : w1 = w3 at hb1' ⊢;clear hww;have hb3' := hb1';clear hb1';have hs3 := Hd (h'.out.below hb3'.out);have hg3 := Hd (grown_in (r := some b) hb3'.out);clear hb3';have c1 := hs3.out.c1;have f1 := hs3.out.frozen 1;have hset := hs3.out.set1 5;have hs4 := Hd hset.1;have hg4 := Hd (hg3.out.trans hset.2);clear hset
      go_upto_region 2 with fail
      generalize w3.setCell ⟨b, 1, none⟩ (.int .i64 5) = w4 at hs4 hg4 ⊢;clear c1 f1 hs3 hg3;go_wp2_with fail;refine (upto_any w4 b S 5 A c vo hs4.out h5 hS [63, 62] (by decide) (by decide)).mono ?_;rintro e w5 ⟨hg5, hG⟩
      cases hup : upto [63, 62] (S.drop 5) with
      | bad ec o =>
        rw [hup] at hG;subst hG;go_wp2_with fail;refine ⟨rfl, hg4.out.trans hg5, ?_⟩;rw [<- hR'.out, decl_bad hpH.out hgo''.out hup];exact pan_eqI (by omega)
      | ok x n =>
        rw [hup] at hG;obtain ⟨rfl, hs5⟩ := hG;have hul := upto_len hup;have hm1 := hul.1;have hm2 := hul.2.1;rw [List.length_drop] at hm1;have hs5' := Hd hs5;have hg5' := Hd (hg4.out.trans hg5);have hup' := Hd hup;clear hul hs5 hg5 hup hs4 hg4;go_wp2_with fail;refine (declared_any w5 hs5'.out.us.un x (by omega)).mono ?_;rintro e w6 ⟨rfl, hb6⟩;have hs6 := Hd (hs5'.out.below hb6);have hg6 := Hd (hg5'.out.trans (grown_in (r := some b) hb6));clear hb6 hs5' hg5'
        cases hde : declared x with
        | true =>
          have hde' := Hd hde;clear hde;go_wp2_with fail
          go_end0
          refine ⟨hg6.out, ?_⟩;rw [<- hR'.out, decl_ok hpH.out hgo''.out hup'.out hde'.out];refine ⟨rfl, ?_⟩;rw [Nat.zero_add];exact hs6.out
        | false =>
          have hde' := Hd hde;clear hde;go_wp2_with fail;refine (fail_any _ 2 0).mono ?_;rintro e w9 ⟨rfl, rfl⟩;go_wp2_with fail;refine ⟨rfl, hg6.out, ?_⟩;rw [<- hR'.out, decl_off hpH.out hgo''.out hup'.out hde'.out];exact pan_eqI (by omega)
end
end Go.Proofs.YtokdnhdfmgfkeaaGreatDoor.Xl
end

section
namespace Go.Proofs.YtokdnhdfmgfkeaaGreatDoor.Xl
open Go.RowKit UtfW
set_option maxRecDepth 100000 in
theorem catch_idle (p q : Addr) (w : World) :
  CallsD Tryz.prog 127 #[.pointer (some p), .pointer (some q)] .returning w fun e u' w' => e = .returned (.tuple #[]) /\ u' = .returning /\ w' = w := by
 refine callsD_of_wpS Tryz.func127 rfl fun c₀ cs hu => ?_
 apply wpS_seq;apply wpS_region;simp [wpOpsS, go_sem, recoverD, hu, Tryz.ntmps127, Exit.thenS];refine wpS_of_wp ?_;go_wp2_with fail
 cases c₀
 simp_all [bodyPostS, results, Exit.inBlock, Tryz.results127]
theorem cell_far {w : World} {p i q j : Nat} {v : Value} (h : p ≠ q) : (w.setCell ⟨p, i, none⟩ v).cell? ⟨q, j, none⟩ = w.cell? ⟨q, j, none⟩ := by
 unfold World.cell? World.setCell;simp [Array.getElem?_modify, h]
theorem ta_wrong (v : Value) (w : World) : (Instr.typeAssert (.iface 176 v) 20 176 true).run Tryz.prog w = .ok (.tuple #[v, .bool true]) w := by kernel_rfl
set_option maxHeartbeats 1000000 in
set_option maxRecDepth 100000 in
theorem catch_pan (p q : Nat) (cd at_ x y : Int) (w : World) (hp : w.cell? ⟨p, 0, none⟩ = some (.int .i64 x)) (hq : w.cell? ⟨q, 0, none⟩ = some (.int .i64 y)) (fp : w.frozen? ⟨p, 0, none⟩ = false) (fq : w.frozen? ⟨q, 0, none⟩ = false) (hpq : p ≠ q) :
  CallsD Tryz.prog 127 #[.pointer (some ⟨p, 0, none⟩), .pointer (some ⟨q, 0, none⟩)] (.panicking [wr cd at_]) w fun e u' w' => e = .returned (.tuple #[]) /\ u' = .panicking [{ wr cd at_ with recovered := true }] /\ ∃ w1, Below w.heap.size w w1 /\ w' = (w1.setCell ⟨p, 0, none⟩ (.int .i64 cd)).setCell ⟨q, 0, none⟩ (.int .i64 at_) := by
 refine callsD_of_wpS Tryz.func127 rfl fun c₀ cs hu => ?_
 simp only [Tryz.ntmps127, List.size_toArray, List.length_cons, List.length_nil, Nat.reduceAdd, Nat.reduceSub, Array.replicate_succ, Array.replicate_zero, List.push_toArray, List.append_toArray, List.nil_append, List.cons_append];apply wpS_seq;apply wpS_region;unfold wr at hu ⊢;simp [wpOpsS, go_sem, recoverD, hu, Exit.thenS];refine wpS_of_wp ?_;have hta := ta_wrong;have hbA := below_alloc w (.cells #[.int .i64 cd, .int .i64 at_] 176);have hnA := heap_alloc_new w (.cells #[.int .i64 cd, .int .i64 at_] 176);have hp0 := World.block_lt_of_cell? w _ hp;have hq0 := World.block_lt_of_cell? w _ hq;go_wp2_with fail;generalize w.alloc (.cells #[.int .i64 cd, .int .i64 at_] 176) = w1 at hbA hnA ⊢;have hLp : w.heap.size ≠ p := Nat.ne_of_gt hp0;have hp1 := (hbA.cell hp0).trans hp;have hq1 := (hbA.cell hq0).trans hq;have fp1 : w1.frozen? ⟨p, 0, none⟩ = false := (hbA.frozen hp0).trans fp;have fq1 : w1.frozen? ⟨q, 0, none⟩ = false := (hbA.frozen hq0).trans fq;have hc0 : w1.cell? ⟨w.heap.size, 0, none⟩ = some (.int .i64 cd) := by simp [World.cell?, hnA]
 have hc1 : w1.cell? ⟨w.heap.size, 1, none⟩ = some (.int .i64 at_) := by simp [World.cell?, hnA]
 have hb2 : Hid (Below w.heap.size w w1.drew) := Hd (hbA.trans (Joins.below_draws _ w1 1));generalize w.heap.size = L at hLp hc0 hc1;clear hp hq fp fq hbA hnA hta;refine Pl.wp_region_plan 5 (.take 0 (.take 1 (.take 2 (.take 3 (.run 4 .done))))) (fun x => x.cell? ⟨L, 0, none⟩ = some (.int .i64 cd) /\ x.cell? ⟨L, 1, none⟩ = some (.int .i64 at_)) (by kernel_rfl) (by kernel_rfl) (by exact ⟨hc0, hc1⟩) ?_;simp only [Pl.fill, Al_4, Al_5, Al_6, Al_7]
 iterate 4
  refine Pl.take_go ?_ (by rfl) (fun _ _ _ h => h) ?_ ?_
  rotate_left
  ·(intro x hSw; (try dsimp only at hSw); (try obtain ⟨s0, s1⟩ := hSw); go_simp; try with_reducible rfl)
  try simp only [Act.put, Al_1, Al_2, Al_3]
 have hp2 : w1.drew.cell? ⟨p, 0, none⟩ = some (.int .i64 x) := hp1;have hq2 : w1.drew.cell? ⟨q, 0, none⟩ = some (.int .i64 y) := hq1;have fp2 : w1.drew.frozen? ⟨p, 0, none⟩ = false := fp1;have fq2 : w1.drew.frozen? ⟨q, 0, none⟩ = false := fq1;have hd0 : w1.drew.cell? ⟨L, 0, none⟩ = some (.int .i64 cd) := hc0;have hd1 : w1.drew.cell? ⟨L, 1, none⟩ = some (.int .i64 at_) := hc1;clear hp1 hq1 fp1 fq1 hc0 hc1;generalize w1.drew = w2 at hp2 hq2 fp2 fq2 hd0 hd1 hb2 ⊢;have e0 : (w2.setCell ⟨p, 0, none⟩ (.int .i64 cd)).cell? ⟨L, 0, none⟩ = some (.int .i64 cd) := (cell_far (by omega)).trans hd0;have e1 : (w2.setCell ⟨p, 0, none⟩ (.int .i64 cd)).cell? ⟨L, 1, none⟩ = some (.int .i64 at_) := (cell_far (by omega)).trans hd1;have e2 : (w2.setCell ⟨p, 0, none⟩ (.int .i64 cd)).cell? ⟨q, 0, none⟩ = some (.int .i64 y) := (cell_far (by omega)).trans hq2;have e3 : (w2.setCell ⟨p, 0, none⟩ (.int .i64 cd)).frozen? ⟨q, 0, none⟩ = false := by rw [World.frozen?_setCell]; exact fq2
 refine Pl.run_go (fun K hK => ?_);go_simp;refine hK.out _ _ (Pl.more_go _ (fun _ h => h) (by exact ⟨e0, e1⟩) ?_);clear hK K;refine Pl.done_go ?_;go_wp2_with fail
 cases c₀
 simp_all [bodyPostS, results, Exit.inBlock, Exit.then, Tryz.results127]
 exact ⟨w2, hb2.out, rfl⟩
end Go.Proofs.YtokdnhdfmgfkeaaGreatDoor.Xl
end

section
namespace Go.Proofs.YtokdnhdfmgfkeaaGreatDoor.Xl
open Go.RowKit UtfW Qx
def Cd (c : Int) : Prop := c = 2 \/ c = 4 \/ c = 5 \/ c = 6
theorem cd2 : Cd 2 := .inl rfl
theorem cd4 : Cd 4 := .inr (.inl rfl)
theorem cd5 : Cd 5 := .inr (.inr (.inl rfl))
theorem cd6 : Cd 6 := .inr (.inr (.inr rfl))
theorem Cd.ne {c : Int} (h : Cd c) : c ≠ 0 := by rcases h with h | h | h | h <;> omega
theorem eat_cd {t r : Tx} {c : Int} {o : Nat} (h : eat t r = .bad c o) : Cd c := by
 rcases (eat_bad h).2.1 with rfl | rfl
 ·exact cd6
 ·exact cd2
theorem upto_cd {t r : Tx} {c : Int} {o : Nat} (h : upto t r = .bad c o) : Cd c := by
 unfold upto at h
 split at h
 ·injection h with h1 _; rw [<- h1]; exact cd6
 ·cases h
theorem name_cd {r : Tx} {c : Int} {o : Nat} (h : name r = .bad c o) : Cd c := by
 unfold name at h
 split at h
 ·injection h with h1 _; rw [<- h1]; exact cd6
 ·split at h
  ·injection h with h1 _; rw [<- h1]; exact cd2
  ·cases h
theorem refR_cd {r : Tx} {c : Int} {o : Nat} (h : refR r = .bad c o) : Cd c := by
 unfold refR at h
 split at h
 ·injection h with h1 _; rw [<- h1]; exact cd5
 ·split at h
  ·injection h with h1 _; rw [<- h1]; exact cd5
  ·cases h
theorem valF_cd : ∀ {f : Nat} {q : UInt8} {r out : Tx} {c : Int} {o : Nat}, valF f q r out = .bad c o -> Cd c
 | 0, q, r, out, c, o, h => by rw [valF] at h; injection h with h1 _; rw [<- h1]; exact cd6
 | f + 1, q, [], out, c, o, h => by rw [valF] at h; injection h with h1 _; rw [<- h1]; exact cd6
 | f + 1, q, x :: t, out, c, o, h => by
  rw [valF] at h
  split at h
  ·cases h
  ·split at h
   ·injection h with h1 _; rw [<- h1]; exact cd2
   ·split at h
    ·split at h
     ·rename_i e p hr
      injection h with h1 _;rw [<- h1];exact refR_cd hr
     ·obtain ⟨p, hp, _⟩ := shift_bad h;exact valF_cd hp
    ·split at h
     ·obtain ⟨p, hp, _⟩ := shift_bad h;exact valF_cd hp
     ·obtain ⟨p, hp, _⟩ := shift_bad h;exact valF_cd hp
theorem value_cd {r : Tx} {c : Int} {o : Nat} (h : value r = .bad c o) : Cd c := by
 unfold value at h
 split at h
 ·injection h with h1 _; rw [<- h1]; exact cd6
 ·split at h
  ·obtain ⟨p, hp, _⟩ := shift_bad h;exact valF_cd hp
  ·injection h with h1 _; rw [<- h1]; exact cd2
theorem textF_cd : ∀ {f : Nat} {r out : Tx} {c : Int} {o : Nat}, textF f r out = .bad c o -> Cd c
 | 0, r, out, c, o, h => by rw [textF] at h; injection h with h1 _; rw [<- h1]; exact cd6
 | f + 1, [], out, c, o, h => by rw [textF] at h; cases h
 | f + 1, x :: t, out, c, o, h => by
  rw [textF] at h
  split at h
  ·cases h
  ·split at h
   ·split at h
    ·rename_i e p hr
     injection h with h1 _;rw [<- h1];exact refR_cd hr
    ·obtain ⟨p, hp, _⟩ := shift_bad h;exact textF_cd hp
   ·split at h
    ·obtain ⟨p, hp, _⟩ := shift_bad h;exact textF_cd hp
    ·split at h
     ·injection h with h1 _; rw [<- h1]; exact cd2
     ·obtain ⟨p, hp, _⟩ := shift_bad h;exact textF_cd hp
theorem attr_cd {there : List At} {r : Tx} {c : Int} {o : Nat} (h : attr there r = .bad c o) : Cd c := by
 unfold attr at h
 split at h
 ·rename_i hn
  injection h with h1 _; rw [<- h1]; exact name_cd hn
 ·split at h
  ·injection h with h1 _; rw [<- h1]; exact cd4
  ·split at h
   ·rename_i he
    injection h with h1 _; rw [<- h1]; exact eat_cd he
   ·split at h
    ·rename_i hv
     injection h with h1 _; rw [<- h1]; exact value_cd hv
    ·cases h
theorem tagF_cd : ∀ {f : Nat} {r : Tx} {ats : List At} {c : Int} {o : Nat}, tagF f r ats = .bad c o -> Cd c
 | 0, r, ats, c, o, h => by rw [tagF] at h; injection h with h1 _; rw [<- h1]; exact cd6
 | f + 1, r, ats, c, o, h => by
  cases hd : r.drop (blanks r) with
  | nil =>
   rw [tagF_nil f ats hd] at h;injection h with h1 _; rw [<- h1]; exact cd6
  | cons x t =>
   rw [tagF_cons f ats hd] at h
   split at h
   ·cases h
   ·split at h
    ·split at h
     ·rename_i he
      injection h with h1 _; rw [<- h1]; exact eat_cd he
     ·cases h
    ·split at h
     ·injection h with h1 _; rw [<- h1]; exact cd2
     ·split at h
      ·rename_i ha
       injection h with h1 _; rw [<- h1]; exact attr_cd ha
      ·obtain ⟨p, hp, _⟩ := shift_bad h;exact tagF_cd hp
theorem tag_cd {r : Tx} {c : Int} {o : Nat} (h : tag r = .bad c o) : Cd c := by
 unfold tag at h
 split at h
 ·rename_i hn
  injection h with h1 _; rw [<- h1]; exact name_cd hn
 ·split at h
  ·rename_i ht
   injection h with h1 _; rw [<- h1]; exact tagF_cd ht
  ·cases h
theorem instr_cd {r : Tx} {c : Int} {o : Nat} (h : instr r = .bad c o) : Cd c := by
 unfold instr at h
 split at h
 ·rename_i hn
  injection h with h1 _; rw [<- h1]; exact name_cd hn
 ·split at h
  ·injection h with h1 _; rw [<- h1]; exact cd2
  ·split at h
   ·split at h
    ·rename_i he
     injection h with h1 _; rw [<- h1]; exact eat_cd he
    ·cases h
   ·split at h
    ·rename_i hu
     injection h with h1 _; rw [<- h1]; exact upto_cd hu
    ·cases h
theorem comment_cd {r : Tx} {c : Int} {o : Nat} (h : comment r = .bad c o) : Cd c := by
 unfold comment at h
 split at h
 ·rename_i hu
  injection h with h1 _; rw [<- h1]; exact upto_cd hu
 ·split at h
  ·injection h with h1 _; rw [<- h1]; exact cd6
  ·split at h
   ·cases h
   ·injection h with h1 _; rw [<- h1]; exact cd2
theorem cdata_cd {r : Tx} {c : Int} {o : Nat} (h : cdata r = .bad c o) : Cd c := by
 unfold cdata at h
 split at h
 ·rename_i hu
  injection h with h1 _; rw [<- h1]; exact upto_cd hu
 ·cases h
theorem endT_cd {r : Tx} {c : Int} {o : Nat} (h : endT r = .bad c o) : Cd c := by
 unfold endT at h
 split at h
 ·rename_i hn
  injection h with h1 _; rw [<- h1]; exact name_cd hn
 ·split at h
  ·rename_i he
   injection h with h1 _; rw [<- h1]; exact eat_cd he
  ·cases h
theorem mark_cd' {r : Tx} {c : Int} {o : Nat} (h : mark r = .bad c o) : Cd c := by
 unfold mark at h
 split at h
 ·exact comment_cd h
 ·split at h
  ·exact cdata_cd h
  ·split at h
   ·injection h with h1 _; rw [<- h1]; exact cd6
   ·injection h with h1 _; rw [<- h1]; exact cd2
theorem chars_cd {r : Tx} {c : Int} {o : Nat} (h : chars r = .bad c o) : Cd c := by
 unfold chars at h
 split at h
 ·rename_i ht
  injection h with h1 _; rw [<- h1]; exact textF_cd ht
 ·cases h
theorem token_cd {r : Tx} {c : Int} {o : Nat} (h : token r = .bad c o) : Cd c := by
 unfold token at h
 split at h
 ·exact chars_cd h
 ·split at h
  ·exact mark_cd' h
  ·split at h
   ·exact instr_cd h
   ·split at h
    ·exact endT_cd h
    ·exact tag_cd h
theorem decl_cd {S : Tx} {c : Int} {o : Nat} (h : decl S = .bad c o) : Cd c := by
 unfold decl at h
 split at h
 ·split at h
  ·rename_i hu
   injection h with h1 _; rw [<- h1]; exact upto_cd hu
  ·split at h
   ·cases h
   ·injection h with h1 _; rw [<- h1]; exact cd2
 ·cases h
end Go.Proofs.YtokdnhdfmgfkeaaGreatDoor.Xl
end

section
namespace Go.Proofs.YtokdnhdfmgfkeaaGreatDoor.Xl
open Go.RowKit UtfW
def scanF (S : Tx) : Int × Nat × List Tok := match decl S with
 | .bad c o => (c, o, [])
 | .ok _ n => runF (S.length + 1) (S.drop n) n []
section
variable {S : Tx} {f q n o : Nat} {ts : List Tok} {t : Tok} {ec : Int}
theorem run_end1 (h : S.length <= q) : runF (f + 1) (S.drop q) q ts = (0, 0, ts) := by
 rw [runF, if_pos (drop_end h)]
theorem run_bad1 (h : q < S.length) (ht : token (S.drop q) = .bad ec o) : runF (f + 1) (S.drop q) q ts = (ec, q + o, []) := by
 rw [runF, if_neg (by rw [List.drop_eq_nil_iff]; omega), ht]
theorem run_ok1 (h : q < S.length) (ht : token (S.drop q) = .ok t n) : runF (f + 1) (S.drop q) q ts = runF f (S.drop (q + n)) (q + n) (ts ++ [{ t with at_ := q }]) := by
 rw [runF, if_neg (by rw [List.drop_eq_nil_iff]; omega), ht];simp only [List.drop_drop]
end
theorem Xc.set2 {w : World} {b : Nat} {S : Tx} {k : Nat} {A : Option Addr} {c : Nat} {vo : Value} (h : Xc w b S k A c vo) (vo' : Value) : Xc (w.setCell ⟨b, 2, none⟩ vo') b S k A c vo' /\ w.grownBy (w.setCell ⟨b, 2, none⟩ vo') (some b) := by
 have hg := grown_set w ⟨b, 2, none⟩ vo';exact ⟨h.on hg (blk_setCell h.blk _), hg⟩
theorem OwTk.low {w : World} {B B' : Nat} {v : Value} {ts : List Tok} (h : OwTk w B v ts) (hB : B' <= B) : OwTk w B' v ts := by
 obtain ⟨xs, h1, h2⟩ := h;refine ⟨xs, Joins.ownsRow_le h1 hB, h2.mono ?_⟩;rintro vs t ⟨A, c, rfl, ho⟩;exact ⟨A, c, rfl, OwS.low ho hB⟩
def Nb (w : World) (p : Nat) (x : Int) (E : TypeId) : Prop := w.heap[p]? = some (.cells #[.int .i64 x] E)
theorem Nb.cell {w : World} {p : Nat} {x : Int} {E : TypeId} (h : Nb w p x E) : w.cell? ⟨p, 0, none⟩ = some (.int .i64 x) := by unfold Nb at h; simp [World.cell?, h]
theorem Nb.frozen {w : World} {p : Nat} {x : Int} {E : TypeId} (h : Nb w p x E) : w.frozen? ⟨p, 0, none⟩ = false := frozen_of_row w p 0 _ _ h
theorem Nb.on {w w' : World} {p b : Nat} {x : Int} {E : TypeId} (h : Nb w p x E) (hg : w.grownBy w' (some b)) (hne : p ≠ b) : Nb w' p x E := (hg.block p (Array.getElem?_eq_some_iff.1 h).1 (by simpa using hne)).trans h
theorem two_p {w : World} {p : Nat} {x y z : Int} {E : TypeId} (h : Nb w p x E) : Nb ((w.setCell ⟨p, 0, none⟩ (.int .i64 y)).setCell ⟨p + 1, 0, none⟩ (.int .i64 z)) p y E := by
 have h1 : Nb (w.setCell ⟨p, 0, none⟩ (.int .i64 y)) p y E := blk_setCell h (i := 0) _;exact h1.on (grown_set _ ⟨p + 1, 0, none⟩ _) (by simp)
theorem two_q {w : World} {p : Nat} {x y z : Int} {E : TypeId} (h : Nb w (p + 1) x E) : Nb ((w.setCell ⟨p, 0, none⟩ (.int .i64 y)).setCell ⟨p + 1, 0, none⟩ (.int .i64 z)) (p + 1) z E := by
 have h1 : Nb (w.setCell ⟨p, 0, none⟩ (.int .i64 y)) (p + 1) x E := h.on (grown_set w ⟨p, 0, none⟩ _) (by simp);exact blk_setCell h1 (i := 0) _
theorem grown_two {w w3 wc : World} {p b : Nat} {x y : Value} (hg : w.grownBy w3 (some b)) (hb : Below w3.heap.size w3 wc) (hp : w.heap.size = p) : w.grownBy ((wc.setCell ⟨p, 0, none⟩ x).setCell ⟨p + 1, 0, none⟩ y) (some b) := by
 have h2 := ((hb.mono hg.size).setCell (p := ⟨p, 0, none⟩) (Nat.le_of_eq hp) x).setCell (p := ⟨p + 1, 0, none⟩) (by show w.heap.size <= p + 1; omega) y;exact ⟨h2.os.trans hg.os, h2.tape.trans hg.tape, h2.output.trans hg.output, Nat.le_trans hg.size h2.size, fun j hj hne => (h2.block j hj).trans (hg.block j hj hne)⟩
theorem scan_caught {R : Ending -> World -> Prop} (p : Nat) (ec eo : Int) (tmps : Array Value) (w3 : World) (hp : Nb w3 p 0 38) (hq : Nb w3 (p + 1) 0 3)
  (h2 : tmps.getD 2 undef = .pointer (some ⟨p, 0, none⟩)) (h3 : tmps.getD 3 undef = .pointer (some ⟨p + 1, 0, none⟩))
  (hfin : ∀ wc, Below w3.heap.size w3 wc -> R (.returned (.tuple #[.int .i64 ec, .int .i64 eo])) ((wc.setCell ⟨p, 0, none⟩ (.int .i64 ec)).setCell ⟨p + 1, 0, none⟩ (.int .i64 eo))) :
  bodyPostD Tryz.prog Tryz.f95 R (.panic [wr ec eo]) { tmps := tmps, defers := [{ target := .fn (.func 127) #[.pointer (some ⟨p, 0, none⟩), .pointer (some ⟨p + 1, 0, none⟩)], args := #[] }] } w3 := by
 refine leaves_cons (f := 127) (args := #[.pointer (some ⟨p, 0, none⟩), .pointer (some ⟨p + 1, 0, none⟩)]) (by simp) (by simp [go_sem]) ?_;refine (catch_pan p (p + 1) ec eo 0 0 w3 hp.cell hq.cell hp.frozen hq.frozen (by omega)).mono ?_;rintro e u' w'' ⟨rfl, rfl, wc, hbc, rfl⟩;have hp2 : Nb wc p 0 38 := (hbc.block p (Array.getElem?_eq_some_iff.1 hp).1).trans hp;have hq2 : Nb wc (p + 1) 0 3 := (hbc.block (p + 1) (Array.getElem?_eq_some_iff.1 hq).1).trans hq;have hp3 := (two_p (y := ec) (z := eo) hp2).cell;have hq3 := (two_q (y := ec) (z := eo) hq2).cell;have hf := hfin wc hbc;generalize (wc.setCell ⟨p, 0, none⟩ (.int .i64 ec)).setCell ⟨p + 1, 0, none⟩ (.int .i64 eo) = w9 at hp3 hq3 hf ⊢;have h2' : tmps[2]?.getD undef = .pointer (some ⟨p, 0, none⟩) := by simpa using h2
 have h3' : tmps[3]?.getD undef = .pointer (some ⟨p + 1, 0, none⟩) := by simpa using h3
 simp [Leaves, settle, results, Tryz.results95, go_sem, h2', h3', hp3, hq3];exact hf
theorem leaves_tmps {P : Program} {fn : Func} {R : Ending -> World -> Prop} {t1 t2 : Array Value} (h : results fn t1 = results fn t2) : ∀ (ds : List Deferred) (u : FrameMode) (w : World), Leaves P fn t1 R ds u w -> Leaves P fn t2 R ds u w
 | [], .returning, w, hl => by
  obtain ⟨v, h1, h2⟩ := hl;exact ⟨v, by rw [<- h]; exact h1, h2⟩
 | [], .panicking _, w, hl => hl
 | [], .run, w, hl => hl
 | d :: ds, u, w, hl => by
  obtain ⟨hu, fv, cap, f, args, h1, h2, h3⟩ := hl;refine ⟨hu, fv, cap, f, args, h1, h2, h3.mono fun e u' w' he => ?_⟩
  cases e with
  | returned v => exact leaves_tmps h ds _ _ he
  | panicked c => exact leaves_tmps h ds _ _ he
  | outgrown => exact he
theorem scan_put {R : Ending -> World -> Prop} {d : Nat} (h2 : d ≠ 2) (h3 : d ≠ 3) {v : Value} {c : List PanicEntry} {a : Act} {w : World} (h : bodyPostD Tryz.prog Tryz.f95 R (.panic c) (a.put (some d) v) w) :
  bodyPostD Tryz.prog Tryz.f95 R (.panic c) a w := by
 refine leaves_tmps ?_ _ _ _ h;simp [results, Tryz.results95, Act.put, h2, h3]
theorem scan_idle {R : Ending -> World -> Prop} (p : Nat) (ec eo : Int) (tmps : Array Value) (w3 : World) (hp : Nb w3 p ec 38) (hq : Nb w3 (p + 1) eo 3)
  (h2 : tmps.getD 2 undef = .pointer (some ⟨p, 0, none⟩)) (h3 : tmps.getD 3 undef = .pointer (some ⟨p + 1, 0, none⟩))
  (hfin : R (.returned (.tuple #[.int .i64 ec, .int .i64 eo])) w3) :
  bodyPostD Tryz.prog Tryz.f95 R .ret { tmps := tmps, defers := [{ target := .fn (.func 127) #[.pointer (some ⟨p, 0, none⟩), .pointer (some ⟨p + 1, 0, none⟩)], args := #[] }] } w3 := by
 refine leaves_cons (f := 127) (args := #[.pointer (some ⟨p, 0, none⟩), .pointer (some ⟨p + 1, 0, none⟩)]) (by simp) (by simp [go_sem]) ?_;refine (catch_idle ⟨p, 0, none⟩ ⟨p + 1, 0, none⟩ w3).mono ?_;rintro e u' w'' ⟨rfl, rfl, rfl⟩;have hp3 := hp.cell;have hq3 := hq.cell;have h2' : tmps[2]?.getD undef = .pointer (some ⟨p, 0, none⟩) := by simpa using h2
 have h3' : tmps[3]?.getD undef = .pointer (some ⟨p + 1, 0, none⟩) := by simpa using h3
 simp [Leaves, settle, results, Tryz.results95, go_sem, h2', h3', hp3, hq3];exact hfin
section
variable (w : World) (b : Nat) (S : Tx) (A : Option Addr) (c : Nat)
set_option maxHeartbeats 4000000 in
set_option maxRecDepth 100000 in
theorem scan_any (h : Xc w b S 0 A c (.slice none 0 0)) (hS : S.length <= 65536) :
  Calls Tryz.prog 95 #[.pointer (some ⟨b, 0, none⟩)] w fun e w' => e = .returned (.tuple #[.int .i64 (scanF S).1, .int .i64 ((scanF S).2.1 : Nat)]) /\ w.grownBy w' (some b) /\ ((scanF S).1 = 0 -> ∃ va q, Xc w' b S q A c va /\ OwTk w' w.heap.size va (scanF S).2.2) := by
 have hmf : ∀ (fn : Fn) (first cap : Array Value) (w : World), (Instr.makeFunc fn first cap).run Tryz.prog w = .ok (.func fn first cap) w := fun _ _ _ _ => rfl
 have hbw := h.lt;have hb1 := below_alloc w (.cells #[.int .i64 0] 38);have hn1 : Nb (w.alloc (.cells #[.int .i64 0] 38)) w.heap.size 0 38 := heap_alloc_new w _;obtain ⟨p, hp⟩ : ∃ p, w.heap.size = p := ⟨_, rfl⟩;obtain ⟨w1, hw1⟩ : ∃ w1, w.alloc (.cells #[.int .i64 0] 38) = w1 := ⟨_, rfl⟩;have hsz1 : w1.heap.size = p + 1 := by rw [<- hw1, <- hp]; exact Array.size_push _
 rw [hw1] at hb1 hn1;rw [hp] at hn1;have hb2 := below_alloc w1 (.cells #[.int .i64 0] 3);have hn2 : Nb (w1.alloc (.cells #[.int .i64 0] 3)) w1.heap.size 0 3 := heap_alloc_new w1 _;have hn1' : Nb (w1.alloc (.cells #[.int .i64 0] 3)) p 0 38 := (hb2.block p (by omega)).trans hn1;rw [hsz1] at hn2;have hb12 := Hd (hb1.trans (hb2.mono hb1.size));have hpb : p ≠ b := by omega
 have hqb : p + 1 ≠ b := by omega
 have hs2 := Hd (h.below hb12.out);have hN1 := Hd hn1';have hN2 := Hd hn2;have h0 := Hd h;have hp' := Hd hp;have hsz1' := Hd hsz1;obtain ⟨R, hR⟩ : ∃ R, scanF S = R := ⟨_, rfl⟩;rw [hR];have hR' := Hd hR;clear h hb1 hb2 hn1 hn2 hn1' hR
 go_enter_defers Tryz.func95, Tryz.ntmps95
 go_wp2_with fail;refine (decl_any _ b S A c (.slice none 0 0) hs2.out hS).mono ?_;rintro e w3 ⟨hg3, hG⟩;have hNp : Nb w3 p 0 38 := hN1.out.on hg3 hpb;have hNq : Nb w3 (p + 1) 0 3 := hN2.out.on hg3 hqb;have hgw := (grown_in (r := some b) hb12.out).trans hg3
 cases hde : decl S with
 | bad ec eo =>
  rw [hde] at hG;subst hG;have hRe : Hid (R = (ec, eo, [])) := Hd (by rw [<- hR'.out]; unfold scanF; rw [hde]);have hgd := hgw;have hde' := Hd hde;clear hde;go_wp2_with fail;refine scan_caught p ec (eo : Nat) _ w3 hNp hNq rfl rfl fun wc hbc => ?_
  have hgc : w.grownBy ((wc.setCell ⟨p, 0, none⟩ (.int .i64 ec)).setCell ⟨p + 1, 0, none⟩ (.int .i64 (eo : Nat))) (some b) :=
   grown_two hgd hbc hp'.out
  rw [hRe.out];exact ⟨by simp, hgc, fun e => absurd e (decl_cd hde'.out).ne⟩
 | ok u n =>
  rw [hde] at hG;obtain ⟨rfl, hs3⟩ := hG;rw [Nat.zero_add] at hs3;have hdl := decl_len hde;have hRe : Hid (runF (S.length + 1) (S.drop n) n [] = R) := Hd (by rw [<- hR'.out]; unfold scanF; rw [hde]);have hs3' := Hd hs3;have hg3' := Hd hg3;have hNp' := Hd hNp;have hNq' := Hd hNq;have hgw' := Hd hgw;clear hde hs3 hg3 hNp hNq hgw hN1 hN2 hs2;obtain ⟨B, hB⟩ : ∃ B, w3.heap.size = B := ⟨_, rfl⟩;have hbB : b < B := by have := hgw'.out.size; omega
  have hwB : w.heap.size <= B := by have := hgw'.out.size; omega
  have hB' := Hd hB;have hbB' := Hd hbB;have hwB' := Hd hwB;have hpB : Hid (p + 1 < B) := Hd (by have := (Array.getElem?_eq_some_iff.1 hNq'.out).1; omega);clear hB hbB hwB
  go_upto_region 3 with fail
  go_loopg [] (S.length + 1) (fun m wr => ∃ (q f : Nat) (ts : List Tok) (va : Value), q <= S.length /\ S.length - q < m /\ ts.length <= q /\ Hid (S.length - q < f) /\ Hid (runF f (S.drop q) q ts = R) /\ Hid (B <= wr.heap.size) /\ Hid (Xc wr b S q A c va) /\ Hid (w.grownBy wr (some b)) /\ Hid (Nb wr p 0 38) /\ Hid (Nb wr (p + 1) 0 3) /\ Hid (OwTk wr B va ts))
  case atStart => exact ⟨n, S.length + 1, [], .slice none 0 0, hdl, by omega, by simp, Hd (by omega), hRe, Hd (by rw [hB'.out]; omega), hs3', hgw', hNp', hNq', Hd (OwTk.nil _ _)⟩
  case round =>
   clear hs3' hgw' hNp' hNq' hg3' hRe;obtain ⟨q, f, ts, va, hql, hms, htl, hf, hr, hsz, hs, hg, hNp, hNq, ho⟩ := hrel;obtain ⟨f', rfl⟩ : ∃ f', f = f' + 1 := ⟨f - 1, by have := hf.out; omega⟩;have c0 := hs.out.c0;have c1 := hs.out.c1
   by_cases hge : S.length <= q
   ·have i0 : decide (q < S.length) = false := by simp; omega
    have hfin : Hid (R = (0, 0, ts)) := Hd (by rw [<- hr.out, run_end1 hge]);clear hge;go_wp2_with fail
    go_big_quiet (fail)
    have hbq := Joins.below_draws wr.heap.size wr nq;have hs4 := Hd (hs.out.below hbq);have hg4 := Hd (hg.out.trans (grown_in (r := some b) hbq));have hNp4 : Nb (wr.drewN nq) p 0 38 := hNp.out;have hNq4 : Nb (wr.drewN nq) (p + 1) 0 3 := hNq.out;have ho4 := Hd (ho.out.below hbq);generalize wr.drewN nq = w4 at hs4 hg4 hNp4 hNq4 ho4 ⊢;clear hs hg hNp hNq ho c0 c1 hbq;have z0 := hNp4.cell;have zf := hNp4.frozen;have y0 := hNq4.cell;have yf := hNq4.frozen;go_wp2_with fail
    (try simp only [Exit.then, Exit.inBlock])
    show bodyPostD _ _ _ Exit.ret _ _
    refine scan_idle p 0 0 _ _ (two_p (y := 0) (z := 0) hNp4) (two_q (y := 0) (z := 0) hNq4) rfl rfl ?_;rw [hfin.out];have hgt := grown_two (x := .int .i64 0) (y := .int .i64 0) hg4.out (Below.refl _ w4) hp'.out;have hb5 := ((Below.refl w.heap.size w4).setCell (p := ⟨p, 0, none⟩) (Nat.le_of_eq hp'.out) (.int .i64 0)).setCell (p := ⟨p + 1, 0, none⟩) (by show w.heap.size <= p + 1; have := hp'.out; omega) (.int .i64 0);have hfar := h0.out.far hg4.out hs4.out hb5;refine ⟨rfl, hfar.2, fun _ => ⟨va, q, hfar.1, ?_⟩⟩;exact ((ho4.out.on (grown_set w4 ⟨p, 0, none⟩ (.int .i64 0)) (by have := hpB.out; show p < B; omega)).on (grown_set _ ⟨p + 1, 0, none⟩ (.int .i64 0)) hpB.out).low hwB'.out
   have hlt : q < S.length := by omega
   have i0 : decide (q < S.length) = true := by simp; omega
   clear hge;go_wp2_with fail
   go_big_quiet (fail)
   have hbq := Joins.below_draws wr.heap.size wr nq;have hs4 := Hd (hs.out.below hbq);have hg4 := Hd (hg.out.trans (grown_in (r := some b) hbq));have hNp4 : Nb (wr.drewN nq) p 0 38 := hNp.out;have hNq4 : Nb (wr.drewN nq) (p + 1) 0 3 := hNq.out;have hNp4' := Hd hNp4;have hNq4' := Hd hNq4;have ho4 := Hd (ho.out.below hbq);have hsz4 := Hd (Nat.le_trans hsz.out hbq.size);generalize wr.drewN nq = w4 at hs4 hg4 hNp4' hNq4' ho4 hsz4 ⊢;clear hs hg hNp hNq ho c0 c1 hbq hNp4 hNq4 hsz;go_wp2_with fail;have hq : Hid (∀ x, Below w4.heap.size w4 x -> x.cell? ⟨b, 2, none⟩ = some va) := Hd fun x hx => (hs4.out.below hx).c2
   have hdr : Hid (Below w4.heap.size w4 w4.drew) := Hd (Joins.below_draws w4.heap.size w4 1);have htok := token_any w4.drew b S q A c va (hs4.out.below hdr.out) hlt hS
   cases hto : token (S.drop q) with
   | bad ec eo =>
    rw [hto] at htok;have htok' := Hd htok;have hfin : Hid (R = (ec, q + eo, [])) := Hd (by rw [<- hr.out, run_bad1 hlt hto]);have hcd : Hid (ec ≠ 0) := Hd (token_cd hto).ne;clear htok hto;refine Pl.wp_region_plan 9 (.take 0 (.take 1 (.take 2 (.take 3 (.take 4 (.take 5 (.run 6 (.run 7 (.run 8 .done))))))))) (fun x => x.cell? ⟨b, 2, none⟩ = some va) (by kernel_rfl) (by kernel_rfl) (by exact hq.out _ hdr.out) ?_;simp only [Pl.fill, Al_4, Al_5, Al_6, Al_7]
    iterate 6
     refine Pl.take_go ?_ (by rfl) (fun _ _ _ h => scan_put (by decide) (by decide) h) ?_ ?_
     rotate_left
     ·(intro x hSw; (try dsimp only at hSw); go_simp; try with_reducible rfl)
     try simp only [Act.put, Al_1, Al_2, Al_3]
    refine Pl.run_go (fun K hK => ?_);go_simp;refine htok'.out.mono ?_;rintro e w5 ⟨hg5, hG⟩;dsimp only at hG;subst hG;dsimp only;have hgd := hg4.out.trans ((grown_in (r := some b) hdr.out).trans hg5);have hg5' := (grown_in (r := some b) hdr.out).trans hg5
    (try simp only [Exit.then, Exit.inBlock])
    refine scan_caught p ec ((q + eo : Nat) : Int) _ w5 (hNp4'.out.on hg5' hpb) (hNq4'.out.on hg5' hqb) rfl rfl fun wc hbc => ?_
    rw [hfin.out];exact ⟨rfl, grown_two hgd hbc hp'.out, fun e => absurd e hcd.out⟩
   | ok t n1 =>
    rw [hto] at htok;have htok' := Hd htok;have htl2 := token_len hto (by rw [ne_eq, List.drop_eq_nil_iff]; omega);rw [List.length_drop] at htl2;have hr2 : Hid (runF f' (S.drop (q + n1)) (q + n1) (ts ++ [{ t with at_ := q }]) = R) := Hd (by rw [<- hr.out, run_ok1 hlt hto]);clear htok hto;refine Pl.wp_region_plan 9 (.take 0 (.take 1 (.take 2 (.take 3 (.take 4 (.take 5 (.run 6 (.run 7 (.run 8 .done))))))))) (fun x => x.cell? ⟨b, 2, none⟩ = some va) (by kernel_rfl) (by kernel_rfl) (by exact hq.out _ hdr.out) ?_;simp only [Pl.fill, Al_4, Al_5, Al_6, Al_7]
    iterate 6
     refine Pl.take_go ?_ (by rfl) (fun _ _ _ h => scan_put (by decide) (by decide) h) ?_ ?_
     rotate_left
     ·(intro x hSw; (try dsimp only at hSw); go_simp; try with_reducible rfl)
     try simp only [Act.put, Al_1, Al_2, Al_3]
    refine Pl.run_go (fun K hK => ?_);go_simp;refine htok'.out.mono ?_;rintro e w5 ⟨hg5, hG⟩;obtain ⟨vt, rfl, hs5, ho5⟩ := hG;obtain ⟨At, ct, rfl⟩ := ho5.form;unfold tkV;have hg5' := (grown_in (r := some b) hdr.out).trans hg5;have hNp5 := hNp4'.out.on hg5' hpb;have hNq5 := hNq4'.out.on hg5' hqb;have ho4' := ho4.out.on hg5' hbB'.out;have hsz5 := Nat.le_trans hsz4.out hg5'.size;have q5 := hs5.c2;dsimp only;refine hK.out _ _ (Pl.more_go _ (fun _ h => h) (by exact q5) ?_);clear hK K q5
    try simp only [Act.put, Al_1, Al_2, Al_3]
    refine Pl.run_go (fun K hK => ?_);have hbA := below_alloc w5 (.cells #[.int .i64 (t.kind : Nat), .int .i64 (q : Nat), .string (strOf t.name), .string (strOf t.text), .slice At t.attrs.length ct] 87)
    have hlit : Sq (TkO B) 5 (w5.alloc (.cells #[.int .i64 (t.kind : Nat), .int .i64 (q : Nat), .string (strOf t.name), .string (strOf t.text), .slice At t.attrs.length ct] 87)) (some ⟨w5.heap.size, 0, none⟩) 1 1 [{ t with at_ := q }] :=
     sq_one w5 [.int .i64 (t.kind : Nat), .int .i64 (q : Nat), .string (strOf t.name), .string (strOf t.text), .slice At t.attrs.length ct] { t with at_ := q } 87 (0, 0) rfl
      ⟨At, ct, rfl, OwS.low (OwS.below ho5 hbA AtEl.to) (Nat.le_trans hsz4.out hdr.out.size)⟩
    go_simp;obtain ⟨pA, hpA⟩ : ∃ pA, w5.heap.size = pA := ⟨_, rfl⟩;obtain ⟨wA, hwA⟩ : ∃ wA, w5.alloc (.cells #[.int .i64 (t.kind : Nat), .int .i64 (q : Nat), .string (strOf t.name), .string (strOf t.text), .slice At t.attrs.length ct] 87) = wA := ⟨_, rfl⟩;rw [hwA] at hbA hlit ⊢;rw [hpA] at hlit ⊢;have qA := (hs5.below hbA).c2;refine hK.out _ _ (Pl.more_go _ (fun _ h => h) (by exact qA) ?_);clear hK K
    try simp only [Act.put, Al_1, Al_2, Al_3]
    have hoA := ho4'.below hbA;have hszA := Nat.le_trans hsz5 hbA.size;refine Pl.run_list fun K hK => ?_
    refine append_tok wA rfl _ _ rfl B _ ts rfl hoA _ 1 1 [{ t with at_ := q }] rfl hlit (ts.length + 1) rfl (by omega) hszA ?_;intro A6 c6 wB hoB hgB hbB;have hbAB : Below w.heap.size w5 wB := (hbA.mono (by have := hg4.out.trans hg5'; exact this.size)).trans (hbB.mono hwB'.out);have hfar := h0.out.far (hg4.out.trans hg5') hs5 hbAB;have hset := hfar.1.set2 (.slice A6 (ts.length + 1) c6);have hNpB : Nb wB p 0 38 := (hbB.block p (by have := hpB.out; omega)).trans ((hbA.block p (Array.getElem?_eq_some_iff.1 hNp5).1).trans hNp5);have hNqB : Nb wB (p + 1) 0 3 := (hbB.block (p + 1) hpB.out).trans ((hbA.block (p + 1) (Array.getElem?_eq_some_iff.1 hNq5).1).trans hNq5);have hgS := grown_set wB ⟨b, 2, none⟩ (.slice A6 (ts.length + 1) c6);have hsC := Hd hset.1;have hgC := Hd (hfar.2.trans hgS);have hNpC := Hd (hNpB.on hgS hpb);have hNqC := Hd (hNqB.on hgS hqb);have hoC := Hd (hoB.on hgS hbB'.out);have hszC : Hid (B <= (wB.setCell ⟨b, 2, none⟩ (.slice A6 (ts.length + 1) c6)).heap.size) := Hd (Nat.le_trans hszA (Nat.le_trans hgB.size hgS.size));have z2 := hfar.1.c2;have zf := hfar.1.frozen 2;refine hK.out _ _ (Pl.more_go _ (fun _ h => h) (by exact z2) ?_);clear hK K
    try simp only [Act.put, Al_1, Al_2, Al_3]
    refine Pl.done_go ?_
    try simp only [Act.put, Al_1, Al_2, Al_3]
    clear hoB hgB hbB hbAB hfar hset hNpB hNqB hgS hbA hlit hoA hszA hwA hpA qA hs5 ho5 hg5 hg5' hNp5 hNq5 ho4' hsz5 htok' hq hdr hs4 hg4 hNp4' hNq4' ho4 hsz4;go_wp2_with fail
    go_roundg (S.length - (q + n1) + 1)
    case measure => omega
    case rel => exact ⟨q + n1, f', ts ++ [{ t with at_ := q }], .slice A6 (ts.length + 1) c6, by omega, by omega, by rw [List.length_append]; simp; omega, Hd (by have := hf.out; omega), hr2, hszC, hsC, hgC, hNpC, hNqC, hoC⟩
end
end Go.Proofs.YtokdnhdfmgfkeaaGreatDoor.Xl
end
