/- Strings as lists of bytes. -/
import Derived.Test.YtdnfnkicmfkkmaaGreatDoorVXlPlaces
import Derived.Test.YtdnfnkicmfkkmaaGreatDoorVKyMath
import Derived.Lib.ItoaNum
import Derived.Test.YtdnfnkicmfkkmaaGreatDoorVUtfEnc
import Derived.SizedLaws
import Derived.Deep.Slices
import Derived.Deep.Fields
import Derived.ChangeSame
import Derived.Maps.AppendAt
import Derived.Lib.Strings
set_option linter.unusedVariables false
set_option linter.unusedSimpArgs false
section
namespace Go.Proofs.YtdnfnkicmfkkmaaGreatDoor.Xt
open Xl
open Go.Proofs.YtdnfnkicmfkkmaaGreatDoor (Ky.trim)
inductive Nd where
 | mk (kind : Int) (name text : Tx) (attrs : List At) (kids : List Nd)
def Nd.kind : Nd -> Int | .mk k _ _ _ _ => k
def Nd.kids : Nd -> List Nd | .mk _ _ _ _ ks => ks
def Nd.attrs : Nd -> List At | .mk _ _ _ as_ _ => as_
def Nd.name : Nd -> Tx | .mk _ n _ _ _ => n
def Nd.text : Nd -> Tx | .mk _ _ t _ _ => t
def textN (s : Tx) : Nd := .mk 2 [] s [] []
structure Fr where
 name : Tx
 attrs : List At
 kids : List Nd
structure St where
 before : List Nd
 root : Nd
 has : Bool
 after : List Nd
 opn : List Fr
 text : Tx
 nodes : Nat
/-! ### The document's way -/
end Go.Proofs.YtdnfnkicmfkkmaaGreatDoor.Xt
end

section
namespace Go.Proofs.YtdnfnkicmfkkmaaGreatDoor.Xt
open Xl
/-! ### What is told of trees, plainly -/
theorem kid_lt {k : Int} {nm tx : Tx} {as_ : List At} {ks : List Nd} {i : Nat} {x : Nd} (h : ks[i]? = some x) : SizeOf.sizeOf x < SizeOf.sizeOf (Nd.mk k nm tx as_ ks) := by
 have := List.sizeOf_lt_of_mem (List.mem_of_getElem? h);simp;omega
end Go.Proofs.YtdnfnkicmfkkmaaGreatDoor.Xt
end

section
namespace Go.Proofs.YtdnfnkicmfkkmaaGreatDoor.Xo
open Go.RowKit UtfW Qx Xl Xt
def esc1 (value : Bool) (c : UInt8) : Tx :=
 if c = 38 then [38, 97, 109, 112, 59]
 else if c = 60 then [38, 108, 116, 59]
 else if c = 13 then [38, 35, 49, 51, 59]
 else if c = 62 /\ value = false then [38, 103, 116, 59]
 else if c = 34 /\ value = true then [38, 113, 117, 111, 116, 59]
 else if c = 9 /\ value = true then [38, 35, 57, 59]
 else if c = 10 /\ value = true then [38, 35, 49, 48, 59]
 else [c]
def esc (value : Bool) : Tx -> Tx
 | [] => []
 | c :: s => esc1 value c ++ esc value s
def writeA : List At -> Tx
 | [] => []
 | a :: l => (32 :: a.1 ++ [61, 34] ++ esc true a.2 ++ [34]) ++ writeA l
mutual
def writeN : Nd -> Tx
 | .mk k nm tx as_ ks =>
  if k = 1 then 60 :: nm ++ writeA as_ ++ (if ks.isEmpty then [47, 62] else [62] ++ writeL ks ++ ([60, 47] ++ nm ++ [62]))
  else if k = 2 then esc false tx
  else if k = 3 then [60, 33, 45, 45] ++ tx ++ [45, 45, 62]
  else if k = 4 then [60, 63] ++ nm ++ (if tx = [] then [] else 32 :: tx) ++ [63, 62]
  else []
def writeL : List Nd -> Tx
 | [] => []
 | x :: xs => writeN x ++ writeL xs
end
/-! ### Which may be -/
def good (s : Tx) : Bool := decide (badW s 0 < 0)
def plainT (s : Tx) : Bool := good s && decide (13 ∉ s)
def attrsOk : List Tx -> List At -> Bool
 | _, [] => true
 | seen, a :: l => nameR a.1 && good a.2 && decide (a.1 ∉ seen) && attrsOk (seen ++ [a.1]) l
def headOk (s : Tx) : Bool := match s with
 | [] => true
 | c :: _ => !Qx.blank c
def xml3 : Tx := [120, 109, 108]
mutual
def fairN : Nd -> Bool
 | .mk k nm tx as_ ks =>
  if k = 1 then nameR nm && decide (tx = []) && attrsOk [] as_ && fairL 0 ks
  else if k = 2 then as_.isEmpty && ks.isEmpty && decide (nm = []) && decide (tx ≠ []) && good tx
  else if k = 3 then as_.isEmpty && ks.isEmpty && decide (nm = []) && plainT tx && (find [45, 45] tx).isNone && decide (tx.getLast? ≠ some 45)
  else if k = 4 then as_.isEmpty && ks.isEmpty && nameR nm && decide (nm.map low ≠ xml3) && plainT tx && (find [63, 62] tx).isNone && headOk tx
  else false
def fairL (was : Int) : List Nd -> Bool
 | [] => true
 | x :: xs => fairN x && !(decide (was = 2) && decide (x.kind = 2)) && fairL x.kind xs
end
/-! ### What is good is valid -/
theorem V_good {s : Tx} (h : V s) : good s = true := by
 unfold good;rw [decide_eq_true_eq];obtain ⟨rs, hr, rfl⟩ := h;have h1 := runesW_E (E rs) rs 0 hr (by rw [List.drop_zero]);have h2 := bad_of_runes (E rs) (E rs).length 0 rs (by omega) h1;rw [h2]
 decide
end Go.Proofs.YtdnfnkicmfkkmaaGreatDoor.Xo
end

section
namespace Go.Proofs.YtdnfnkicmfkkmaaGreatDoor.No
open Go.RowKit UtfW Xl Xt Xo
open Go.Proofs.YtdnfnkicmfkkmaaGreatDoor (Ky.trim Ky.split Ky.Rl Ky.frontB Ky.hasB Ky.mayB)
def lessT : Tx -> Tx -> Bool
 | a :: as_, b :: bs => if a ≠ b then decide (a < b) else lessT as_ bs
 | [], _ :: _ => true
 | _, [] => false
def lessK : List Tx -> List Tx -> Bool
 | a :: as_, b :: bs => if a ≠ b then lessT a b else lessK as_ bs
 | [], _ :: _ => true
 | _, [] => false
abbrev Stp := Tx × List Tx
def ahead (a b : Stp) : Bool := if a.1 ≠ b.1 then lessT a.1 b.1 else lessK a.2 b.2
def insA (x : At) : List At -> List At
 | [] => [x]
 | y :: l => if lessT x.1 y.1 then x :: y :: l else y :: insA x l
def attrsN (l : List At) : List At := l.foldl (fun out x => insA x out) []
mutual
def contentN : Nd -> Nd
 | .mk k nm tx as_ ks => .mk k nm tx (attrsN as_) (contentL ks)
def contentL : List Nd -> List Nd
 | [] => []
 | x :: xs => contentN x :: contentL xs
end
def onlyK (ks : List Nd) (p : Tx) : List Nd := ks.filter fun k => decide (k.kind = 1) && decide (k.name = p)
def valueP : List Tx -> Nd -> Option Tx
 | [], n => some (writeL n.kids)
 | p :: ps, n =>
  if p.head? = some 64 then (n.attrs.find? fun a => decide (a.1 = p.tail)).map (·.2)
  else match onlyK n.kids p with
   | [x] => valueP ps x
   | _ => none
def valueR (n : Nd) (path : Tx) : Option Tx := if path = [46] then some (writeL n.kids) else valueP (Ky.split 47 path) n
def keyR (n : Nd) : List Tx -> Option (List Tx)
 | [] => some []
 | k :: ks => match valueR n k with
  | none => none
  | some v => (keyR n ks).map (v :: ·)
mutual
def elementsN : Nd -> Nat
 | .mk k _ _ _ ks => if k = 1 then 1 + elementsL ks else 0
def elementsL : List Nd -> Nat
 | [] => 0
 | x :: xs => elementsN x + elementsL xs
end
def ruleOf (l : List Ky.Rl) (p : List Tx) : Option Ky.Rl := l.find? fun r => decide (r.1 = p)
def placeS (s : Stp) (out : List (Stp × Nd)) : Nat := (out.filter fun o => ahead o.1 s).length
def insS (s : Stp) (n : Nd) (out : List (Stp × Nd)) : List (Stp × Nd) := out.take (placeS s out) ++ (s, n) :: out.drop (placeS s out)
mutual
def normN (l : List Ky.Rl) (path : List Tx) (first : Nat) : Nd -> Except (Int × Nat) Nd
 | .mk _ nm _ as_ ks =>
  if Ky.frontB l path = true then .ok (.mk 1 nm [] (attrsN as_) (contentL ks))
  else match normL l path first (first + 1) [] ks with
   | .error e => .error e
   | .ok out => .ok (.mk 1 nm [] (attrsN as_) (out.map (·.2)))
def normL (l : List Ky.Rl) (path : List Tx) (first : Nat) (at_ : Nat) (out : List (Stp × Nd)) : List Nd -> Except (Int × Nat) (List (Stp × Nd))
 | [] => .ok out
 | k :: ks =>
  if k.kind = 2 /\ Ky.trim k.text ≠ [] then .error (24, first)
  else if k.kind ≠ 1 then normL l path first at_ out ks
  else match ruleOf l (path ++ [k.name]) with
   | none => .error (24, at_)
   | some r => match normN l (path ++ [k.name]) at_ k with
    | .error e => .error e
    | .ok kid => match keyR kid r.2 with
     | none => .error (22, at_)
     | some key => if (out.any fun o => decide (o.1 = (k.name, key))) = true then .error (23, at_)
      else normL l path first (at_ + elementsN k) (insS (k.name, key) kid out) ks
end
def NormR (l : List Ky.Rl) (n : Nd) : Except (Int × Nat) Nd :=
 if Ky.mayB nameR l = false then .error (20, 0)
 else if fairN n = false \/ n.kind ≠ 1 then .error (80, 0)
 else match l with
  | [] => .error (20, 0)
  | r :: _ => match r.1 with
   | [] => .error (20, 0)
   | p :: _ => if n.name ≠ p then .error (24, 0) else normN l r.1 0 n
def stepK (l : List Ky.Rl) (path : List Tx) (k : Nd) : Stp := (k.name, match ruleOf l (path ++ [k.name]) with
 | none => []
 | some r => (keyR k r.2).getD [])
def stepsR (l : List Ky.Rl) (path : List Tx) (ks : List Nd) : List Stp := ks.filterMap fun k => (ruleOf l (path ++ [k.name])).map fun r => (k.name, (keyR k r.2).getD [])
/-! ### Attributes -/
theorem insA_perm (x : At) : ∀ l, (insA x l).Perm (x :: l)
 | [] => .refl _
 | y :: l => by
  unfold insA
  split
  ·exact .refl _
  ·exact ((insA_perm x l).cons y).trans (.swap x y l)
theorem attrsN_perm (l : List At) : (attrsN l).Perm l := by
 have h : ∀ (l out : List At), (l.foldl (fun out x => insA x out) out).Perm (out ++ l) := by
  intro l
  induction l with
  | nil => intro out; simp
  | cons x l ih =>
   intro out;rw [List.foldl_cons];refine (ih _).trans ?_;refine ((insA_perm x out).append_right l).trans ?_;exact (List.perm_middle (l₁ := out) (l₂ := l) (a := x)).symm
 have := h l []
 rwa [List.nil_append] at this
theorem attrsN_len (l : List At) : (attrsN l).length = l.length := (attrsN_perm l).length_eq
theorem attrsOk_iff : ∀ {l : List At} {seen : List Tx}, attrsOk seen l = true ↔ (∀ a ∈ l, nameR a.1 = true /\ good a.2 = true /\ a.1 ∉ seen) /\ (l.map (·.1)).Nodup
 | [], seen => by simp [attrsOk]
 | a :: l, seen => by
  unfold attrsOk;simp only [Bool.and_eq_true, decide_eq_true_eq];rw [attrsOk_iff (l := l) (seen := seen ++ [a.1])];simp only [List.map_cons, List.nodup_cons, List.mem_cons, List.mem_append, List.mem_singleton, List.mem_map, forall_eq_or_imp, not_or];constructor
  ·rintro ⟨⟨⟨h1, h2⟩, h3⟩, h4, h5⟩;refine ⟨⟨⟨h1, h2, h3⟩, fun x hx => ⟨(h4 x hx).1, (h4 x hx).2.1, (h4 x hx).2.2.1⟩⟩, ?_, h5⟩;rintro ⟨x, hx, e⟩;exact (h4 x hx).2.2.2.1 e
  ·rintro ⟨⟨⟨h1, h2, h3⟩, h4⟩, h5, h6⟩;refine ⟨⟨⟨h1, h2⟩, h3⟩, fun x hx => ⟨(h4 x hx).1, (h4 x hx).2.1, (h4 x hx).2.2, fun e => h5 ⟨x, hx, e⟩, by simp⟩, h6⟩
theorem attrsOk_norm {l : List At} (h : attrsOk [] l = true) : attrsOk [] (attrsN l) = true := by
 rw [attrsOk_iff] at h ⊢;have hp := attrsN_perm l;exact ⟨fun a ha => h.1 a (hp.mem_iff.1 ha), (hp.map _).nodup_iff.2 h.2⟩
/-! ### Fairness stays -/
theorem contentN_kind (n : Nd) : (contentN n).kind = n.kind := by cases n; simp [contentN, Nd.kind]
mutual
theorem contentN_fair : ∀ (n : Nd), fairN n = true -> fairN (contentN n) = true
 | .mk k nm tx as_ ks, h => by
  simp only [contentN];unfold fairN at h ⊢
  have e1 : (attrsN as_).isEmpty = as_.isEmpty := by
   have := attrsN_len as_
   cases as_ with
   | nil => rfl
   | cons a l => cases hx : attrsN (a :: l) with
    | nil => rw [hx] at this; simp at this
    | cons _ _ => rfl
  have e2 : (contentL ks).isEmpty = ks.isEmpty := by cases ks <;> simp [contentL]
  rw [e1, e2]
  by_cases hk : k = 1
  ·rw [if_pos hk] at h ⊢;simp only [Bool.and_eq_true] at h ⊢;exact ⟨⟨h.1.1, attrsOk_norm h.1.2⟩, contentL_fair ks 0 h.2⟩
  ·rw [if_neg hk] at h ⊢;exact h
theorem contentL_fair : ∀ (ks : List Nd) (was : Int), fairL was ks = true -> fairL was (contentL ks) = true
 | [], _, _ => by simp [contentL, fairL]
 | x :: xs, was, h => by
  simp only [contentL];unfold fairL at h ⊢;simp only [Bool.and_eq_true] at h ⊢;rw [contentN_kind];exact ⟨⟨contentN_fair x h.1.1, h.1.2⟩, contentL_fair xs _ h.2⟩
end
theorem fairL_all : ∀ {ks : List Nd} {was : Int}, fairL was ks = true -> ∀ k ∈ ks, fairN k = true
 | [], _, _, k, hk => by simp at hk
 | x :: xs, was, h, k, hk => by
  unfold fairL at h;simp only [Bool.and_eq_true] at h;rcases List.mem_cons.1 hk with rfl | hk
  ·exact h.1.1
  ·exact fairL_all h.2 k hk
theorem fairL_elements : ∀ {ks : List Nd} {was : Int}, (∀ k ∈ ks, fairN k = true /\ k.kind = 1) -> fairL was ks = true
 | [], _, _ => by simp [fairL]
 | x :: xs, was, h => by
  unfold fairL;have h1 := h x (by simp);simp only [Bool.and_eq_true, h1.1, h1.2];exact ⟨⟨trivial, by simp⟩, fairL_elements fun k hk => h k (by simp [hk])⟩
/-! ### What a normal form is -/
mutual
def nfN (l : List Ky.Rl) (path : List Tx) : Nd -> Prop
 | .mk k _ _ _ ks => k = 1 /\ (Ky.frontB l path = false -> nfL l path ks /\ (ks.map (stepK l path)).Nodup)
def nfL (l : List Ky.Rl) (path : List Tx) : List Nd -> Prop
 | [] => True
 | x :: xs => (∃ r, ruleOf l (path ++ [x.name]) = some r /\ ∃ key, keyR x r.2 = some key) /\ nfN l (path ++ [x.name]) x /\ nfL l path xs
end
theorem nfL_iff {l : List Ky.Rl} {path : List Tx} : ∀ {ks : List Nd}, nfL l path ks ↔ ∀ x ∈ ks, (∃ r, ruleOf l (path ++ [x.name]) = some r /\ ∃ key, keyR x r.2 = some key) /\ nfN l (path ++ [x.name]) x
 | [] => by simp [nfL]
 | x :: xs => by
  unfold nfL;rw [nfL_iff (ks := xs)];simp only [List.mem_cons, forall_eq_or_imp, and_assoc]
structure Kept (l : List Ky.Rl) (path : List Tx) (out : List (Stp × Nd)) : Prop where
 all : ∀ o ∈ out, o.1 = stepK l path o.2 /\ (∃ r, ruleOf l (path ++ [o.2.name]) = some r /\ ∃ key, keyR o.2 r.2 = some key) /\ nfN l (path ++ [o.2.name]) o.2 /\ fairN o.2 = true /\ o.2.kind = 1
 apart : (out.map (·.1)).Nodup
theorem insS_perm (s : Stp) (n : Nd) (out : List (Stp × Nd)) : (insS s n out).Perm ((s, n) :: out) := by
 unfold insS;refine List.perm_middle.trans ?_;rw [List.take_append_drop]
theorem Kept.ins {l : List Ky.Rl} {path : List Tx} {out : List (Stp × Nd)} (h : Kept l path out) {s : Stp} {n : Nd} (hn : (out.any fun o => decide (o.1 = s)) = false)
  (h1 : s = stepK l path n) (h2 : ∃ r, ruleOf l (path ++ [n.name]) = some r /\ ∃ key, keyR n r.2 = some key) (h3 : nfN l (path ++ [n.name]) n) (h4 : fairN n = true) (h5 : n.kind = 1) : Kept l path (insS s n out) := by
 have hp := insS_perm s n out;refine ⟨fun o ho => ?_, ?_⟩
 ·rcases List.mem_cons.1 (hp.mem_iff.1 ho) with rfl | ho
  ·exact ⟨h1, h2, h3, h4, h5⟩
  ·exact h.all o ho
 ·rw [(hp.map _).nodup_iff, List.map_cons, List.nodup_cons];refine ⟨?_, h.apart⟩;intro hm;obtain ⟨o, ho, e⟩ := List.mem_map.1 hm;have := List.any_eq_false.1 hn o ho;exact this (decide_eq_true e)
theorem fair_el {k : Int} {nm tx : Tx} {as_ : List At} {ks : List Nd} (h : fairN (.mk k nm tx as_ ks) = true) (hk : k = 1) : nameR nm = true /\ tx = [] /\ attrsOk [] as_ = true /\ fairL 0 ks = true := by
 unfold fairN at h;rw [if_pos hk] at h;simp only [Bool.and_eq_true, decide_eq_true_eq] at h;exact ⟨h.1.1.1, h.1.1.2, h.1.2, h.2⟩
theorem el_fair {nm : Tx} {as_ : List At} {ks : List Nd} (h1 : nameR nm = true) (h2 : attrsOk [] as_ = true) (h3 : fairL 0 ks = true) : fairN (.mk 1 nm [] as_ ks) = true := by
 unfold fairN;rw [if_pos rfl];simp [h1, h2, h3]
mutual
theorem normN_ok (l : List Ky.Rl) : ∀ (n : Nd) (path : List Tx) (first : Nat) (x : Nd), fairN n = true -> n.kind = 1 -> normN l path first n = .ok x -> nfN l path x /\ fairN x = true /\ x.name = n.name /\ x.kind = 1
 | .mk k nm tx as_ ks, path, first, x, hf, hk, he => by
  obtain ⟨f1, f2, f3, f4⟩ := fair_el hf hk;unfold normN at he
  split at he
  ·rename_i hfr
   obtain rfl : _ = x := Except.ok.inj he;refine ⟨?_, el_fair f1 (attrsOk_norm f3) (contentL_fair ks 0 f4), rfl, rfl⟩;unfold nfN;exact ⟨rfl, fun h => by rw [hfr] at h; simp at h⟩
  ·rename_i hfr
   cases hL : normL l path first (first + 1) [] ks with
   | error e => rw [hL] at he; simp at he
   | ok out =>
    rw [hL] at he;obtain rfl : _ = x := Except.ok.inj he;have hK := normL_ok l ks path first (first + 1) [] out (fairL_all f4) ⟨fun o ho => by simp at ho, by simp⟩ hL;refine ⟨?_, el_fair f1 (attrsOk_norm f3) (fairL_elements fun y hy => ?_), rfl, rfl⟩
    ·unfold nfN;refine ⟨rfl, fun _ => ⟨nfL_iff.2 fun y hy => ?_, ?_⟩⟩
     ·obtain ⟨o, ho, rfl⟩ := List.mem_map.1 hy;exact ⟨(hK.all o ho).2.1, (hK.all o ho).2.2.1⟩
     ·have e : (out.map (·.2)).map (stepK l path) = out.map (·.1) := by
       rw [List.map_map];exact List.map_congr_left fun o ho => (hK.all o ho).1.symm
      rw [e];exact hK.apart
    ·obtain ⟨o, ho, rfl⟩ := List.mem_map.1 hy;exact (hK.all o ho).2.2.2
theorem normL_ok (l : List Ky.Rl) : ∀ (ks : List Nd) (path : List Tx) (first at_ : Nat) (out out' : List (Stp × Nd)), (∀ k ∈ ks, fairN k = true) -> Kept l path out -> normL l path first at_ out ks = .ok out' -> Kept l path out'
 | [], path, first, at_, out, out', _, h, he => by
  unfold normL at he;obtain rfl := Except.ok.inj he;exact h
 | k :: ks, path, first, at_, out, out', hf, h, he => by
  have hf' : ∀ x ∈ ks, fairN x = true := fun x hx => hf x (by simp [hx])
  unfold normL at he
  split at he
  ·simp at he
  ·split at he
   ·exact normL_ok l ks path first at_ out out' hf' h he
   ·rename_i hk
    have hk1 : k.kind = 1 := by simpa using hk
    cases hr : ruleOf l (path ++ [k.name]) with
    | none => rw [hr] at he; simp at he
    | some r =>
     rw [hr] at he;simp only at he
     cases hn : normN l (path ++ [k.name]) at_ k with
     | error e => rw [hn] at he; simp at he
     | ok kid =>
      rw [hn] at he;simp only at he;obtain ⟨n1, n2, n3, n4⟩ := normN_ok l k (path ++ [k.name]) at_ kid (hf k (by simp)) hk1 hn
      cases hkey : keyR kid r.2 with
      | none => rw [hkey] at he; simp at he
      | some key =>
       rw [hkey] at he;simp only at he
       split at he
       ·simp at he
       ·rename_i hany
        refine normL_ok l ks path first _ _ out' hf' (h.ins (Bool.eq_false_iff.2 hany) ?_ ⟨r, by rw [n3]; exact hr, key, hkey⟩ (by rw [n3]; exact n1) n2 n4) he;unfold stepK;rw [n3, hr];simp [hkey]
end
theorem NormR_ok {l : List Ky.Rl} {n x : Nd} (h : NormR l n = .ok x) : Ky.mayB nameR l = true /\ fairN x = true /\ x.kind = 1 /\ nfN l [x.name] x := by
 unfold NormR at h
 split at h
 ·simp at h
 ·rename_i hm
  split at h
  ·simp at h
  ·rename_i hf
   simp only [not_or, Bool.not_eq_false, ne_eq, Decidable.not_not] at hf;have hm' : Ky.mayB nameR l = true := by simpa using hm
   split at h
   ·simp at h
   ·rename_i r l'
    split at h
    ·simp at h
    ·rename_i p ps hp
     split at h
     ·simp at h
     ·rename_i hne
      obtain ⟨n1, n2, n3, n4⟩ := normN_ok _ n _ 0 x hf.1 hf.2 h;have hnm : n.name = p := (by simpa using hne);refine ⟨hm', n2, n4, ?_⟩
      have h1 : ps = [] := by
       unfold Ky.mayB at hm';simp only [Bool.and_eq_true] at hm';have h2 := hm'.2;unfold Ky.mayP at h2;simp only [Bool.and_eq_true] at h2;have h4 := h2.1.2;unfold Ky.placedB at h4
       by_cases hl : r.1.length = 1
       ·rw [hp] at hl
        simpa using hl
       ·rw [if_neg hl] at h4;simp [Ky.hasB] at h4
      rw [n3, hnm, <- h1, <- hp];exact n1
end Go.Proofs.YtdnfnkicmfkkmaaGreatDoor.No
end

section
namespace Go.Proofs.YtdnfnkicmfkkmaaGreatDoor.Vw
open Go.RowKit UtfW Xl Xt Xo No
open Go.Proofs.YtdnfnkicmfkkmaaGreatDoor (Ky.frontB Ky.Rl Ky.join)
structure Q where
 kind : Int
 name : Tx
 text : Tx
 parent : Int
 fin : Nat
 path : Tx
deriving DecidableEq
def esc1 (c : UInt8) : Tx := if c = 92 \/ c = 123 \/ c = 125 \/ c = 44 \/ c = 47 then [92, c] else [c]
def escV (s : Tx) : Tx := s.flatMap esc1
def endS (s : Stp) : Tx := if s.2 = [] then s.1 else s.1 ++ 123 :: Ky.join [44] (s.2.map escV) ++ [125]
def attrRows (at_ : Nat) (path : Tx) : Nat -> List At -> List Q
 | _, [] => []
 | n, a :: l => ⟨5, a.1, a.2, at_, n + 1, path ++ 47 :: 64 :: a.1⟩ :: attrRows at_ path (n + 1) l
mutual
def tabN (l : List Ky.Rl) (names : List Tx) (at_ : Nat) (parent : Nat) (path : Tx) : Nd -> List Q
 | .mk k nm tx as_ ks =>
  let rest := attrRows at_ path (at_ + 1) as_ ++ tabL l names (decide (names ≠ []) && !Ky.frontB l names) (at_ + 1 + as_.length) at_ path 0 ks
  ⟨k, nm, tx, parent, at_ + 1 + rest.length, path⟩ :: rest
def tabL (l : List Ky.Rl) (names : List Tx) (keyed : Bool) (at_ : Nat) (parent : Nat) (path : Tx) (i : Nat) : List Nd -> List Q
 | [] => []
 | x :: xs =>
  let rows := tabN l (if keyed then names ++ [x.name] else []) at_ parent (path ++ 47 :: (if keyed then endS (stepK l names x) else 35 :: Lib.decDigits (i + 1))) x
  rows ++ tabL l names keyed (at_ + rows.length) parent path (i + 1) xs
end
def tabD (l : List Ky.Rl) (x : Nd) : List Q :=
 let rows := tabN l [x.name] 1 0 (47 :: x.name) x
 ⟨6, [], [], -1, rows.length + 1, [47]⟩ :: rows
/-! ### Its spans -/
theorem attrRows_len : ∀ (at_ : Nat) (path : Tx) (n : Nat) (l : List At), (attrRows at_ path n l).length = l.length
 | _, _, _, [] => rfl
 | at_, path, n, a :: l => by simp [attrRows, attrRows_len at_ path (n + 1) l]
structure Spans (a p z : Nat) (rows : List Q) : Prop where
 here : ∀ (i : Nat) (x : Q), rows[i]? = some x -> x.parent = p \/ ∃ (j : Nat) (y : Q), j < i /\ rows[j]? = some y /\ x.parent = ((a + j : Nat) : Int) /\ x.fin <= y.fin /\ y.kind ≠ 5
 fins : ∀ (i : Nat) (x : Q), rows[i]? = some x -> a + i < x.fin /\ x.fin <= z
 within : ∀ (i : Nat) (x : Q), rows[i]? = some x -> ∀ (k : Nat) (y : Q), i < k -> a + k < x.fin -> rows[k]? = some y -> ((a + i : Nat) : Int) <= y.parent
theorem Spans.nil (a p z : Nat) : Spans a p z [] := ⟨fun i x h => by simp at h, fun i x h => by simp at h, fun i x h => by simp at h⟩
theorem Spans.append {a p z : Nat} {r1 r2 : List Q} (h1 : Spans a p (a + r1.length) r1) (h2 : Spans (a + r1.length) p z r2) (hz : a + r1.length <= z) (hp : p < a) : Spans a p z (r1 ++ r2) := by
 refine ⟨fun i x hi => ?_, fun i x hi => ?_, fun i x hi k y hk hlt hy => ?_⟩
 ·rcases Nat.lt_or_ge i r1.length with hl | hl
  ·rw [List.getElem?_append_left hl] at hi;rcases h1.here i x hi with h | ⟨j, y, hj, hy, e, hf, hn⟩
   ·exact .inl h
   ·exact .inr ⟨j, y, hj, by rw [List.getElem?_append_left (by omega)]; exact hy, e, hf, hn⟩
  ·rw [List.getElem?_append_right hl] at hi;rcases h2.here _ x hi with h | ⟨j, y, hj, hy, e, hf, hn⟩
   ·exact .inl h
   ·refine .inr ⟨r1.length + j, y, by omega, ?_, by rw [e]; congr 1; omega, hf, hn⟩;rw [List.getElem?_append_right (by omega)];rw [show r1.length + j - r1.length = j by omega];exact hy
 ·rcases Nat.lt_or_ge i r1.length with hl | hl
  ·rw [List.getElem?_append_left hl] at hi;have := h1.fins i x hi;omega
  ·rw [List.getElem?_append_right hl] at hi;have := h2.fins _ x hi;omega
 ·rcases Nat.lt_or_ge i r1.length with hl | hl
  ·rw [List.getElem?_append_left hl] at hi;have hf := h1.fins i x hi;rw [List.getElem?_append_left (by omega)] at hy;exact h1.within i x hi k y hk hlt hy
  ·rw [List.getElem?_append_right hl] at hi;rw [List.getElem?_append_right (by omega)] at hy;have := h2.within _ x hi (k - r1.length) y (by omega) (by omega) hy;omega
theorem Spans.cons {a p : Nat} {x : Q} {rows : List Q} (hx : x.parent = p) (hf : x.fin = a + 1 + rows.length) (h : Spans (a + 1) a (a + 1 + rows.length) rows) (hp : p < a) (hk5 : x.kind ≠ 5 \/ rows = []) : Spans a p (a + 1 + rows.length) (x :: rows) := by
 refine ⟨fun i y hi => ?_, fun i y hi => ?_, fun i y hi k q hk hlt hq => ?_⟩
 ·cases i with
  | zero => simp at hi; subst hi; exact .inl hx
  | succ i =>
   rw [List.getElem?_cons_succ] at hi;rcases h.here i y hi with e | ⟨j, q, hj, hq, e, hle, hn⟩
   ·refine .inr ⟨0, x, by omega, rfl, by rw [e]; simp, by have := h.fins i y hi; omega, ?_⟩;rcases hk5 with h5 | h5
    ·exact h5
    ·rw [h5] at hi; simp at hi
   ·exact .inr ⟨j + 1, q, by omega, by rw [List.getElem?_cons_succ]; exact hq, by rw [e]; congr 1; omega, hle, hn⟩
 ·cases i with
  | zero => simp at hi; subst hi; omega
  | succ i =>
   rw [List.getElem?_cons_succ] at hi;have := h.fins i y hi;omega
 ·cases k with
  | zero => omega
  | succ k =>
   rw [List.getElem?_cons_succ] at hq
   cases i with
   | zero =>
    rcases h.here k q hq with e | ⟨j, y', hj, hy', e, hle, hn⟩ <;> omega
   | succ i =>
    rw [List.getElem?_cons_succ] at hi;have := h.within i y hi k q (by omega) (by omega) hq;omega
theorem attrRows_spans (p : Nat) (path : Tx) : ∀ (n : Nat) (l : List At), p < n -> Spans n p (n + l.length) (attrRows p path n l)
 | _, [], _ => Spans.nil _ _ _
 | n, a :: l, hp => by
  unfold attrRows
  have h1 : Spans n p (n + 1) [(⟨5, a.1, a.2, p, n + 1, path ++ 47 :: 64 :: a.1⟩ : Q)] := by
   have := Spans.cons (a := n) (p := p) (x := (⟨5, a.1, a.2, p, n + 1, path ++ 47 :: 64 :: a.1⟩ : Q)) (rows := []) rfl (by simp) (Spans.nil _ _ _) hp (.inr rfl)
   simpa using this
  have h2 := attrRows_spans p path (n + 1) l (by omega)
  have h3 : Spans (n + 1) p (n + (a :: l).length) (attrRows p path (n + 1) l) := by
   rw [List.length_cons, show n + (l.length + 1) = n + 1 + l.length by omega];exact h2
  exact Spans.append (r1 := [(⟨5, a.1, a.2, p, n + 1, path ++ 47 :: 64 :: a.1⟩ : Q)]) h1 h3 (by simp) hp
theorem fair_kids {k : Int} {nm tx : Tx} {as_ : List At} {ks : List Nd} (h : fairN (.mk k nm tx as_ ks) = true) : k ≠ 5 /\ ∀ x ∈ ks, fairN x = true := by
 by_cases hk : k = 1
 ·exact ⟨by omega, fairL_all (fair_el h hk).2.2.2⟩
 ·have hs : ks = [] /\ k ≠ 5 := by
   unfold fairN at h;rw [if_neg hk] at h
   split at h
   ·simp only [Bool.and_eq_true, List.isEmpty_iff] at h;exact ⟨h.1.1.1.2, by omega⟩
   ·split at h
    ·simp only [Bool.and_eq_true, List.isEmpty_iff] at h;exact ⟨h.1.1.1.1.2, by omega⟩
    ·split at h
     ·simp only [Bool.and_eq_true, List.isEmpty_iff] at h;exact ⟨h.1.1.1.1.1.2, by omega⟩
     ·simp at h
  exact ⟨hs.2, fun x hx => by rw [hs.1] at hx; simp at hx⟩
mutual
theorem tabN_spans (l : List Ky.Rl) : ∀ (n : Nd) (names : List Tx) (a p : Nat) (path : Tx), fairN n = true -> p < a -> Spans a p (a + (tabN l names a p path n).length) (tabN l names a p path n)
 | .mk k nm tx as_ ks, names, a, p, path, hfair, hp => by
  have hkk := fair_kids hfair;unfold tabN;have h1 := attrRows_spans a path (a + 1) as_ (by omega);have h2 := tabL_spans l ks names (decide (names ≠ []) && !Ky.frontB l names) (a + 1 + as_.length) a path 0 hkk.2 (by omega);have h3 := Spans.append (r1 := attrRows a path (a + 1) as_) (by rw [attrRows_len]; exact h1) (by rw [attrRows_len]; exact h2) (by rw [attrRows_len]; omega) (by omega);simp only [List.length_cons]
  have hl : a + 1 + (attrRows a path (a + 1) as_ ++ tabL l names (decide (names ≠ []) && !Ky.frontB l names) (a + 1 + as_.length) a path 0 ks).length = a + 1 + as_.length + (tabL l names (decide (names ≠ []) && !Ky.frontB l names) (a + 1 + as_.length) a path 0 ks).length := by
   rw [List.length_append, attrRows_len];omega
  rw [<- hl] at h3;have h4 := Spans.cons (x := (⟨k, nm, tx, p, a + 1 + (attrRows a path (a + 1) as_ ++ tabL l names (decide (names ≠ []) && !Ky.frontB l names) (a + 1 + as_.length) a path 0 ks).length, path⟩ : Q)) rfl rfl h3 hp (.inl hkk.1);rw [show ∀ m, a + (m + 1) = a + 1 + m from fun m => by omega];exact h4
theorem tabL_spans (l : List Ky.Rl) : ∀ (ks : List Nd) (names : List Tx) (keyed : Bool) (a p : Nat) (path : Tx) (i : Nat), (∀ x ∈ ks, fairN x = true) -> p < a -> Spans a p (a + (tabL l names keyed a p path i ks).length) (tabL l names keyed a p path i ks)
 | [], _, _, _, _, _, _, _, _ => by unfold tabL; exact Spans.nil _ _ _
 | x :: xs, names, keyed, a, p, path, i, hfair, hp => by
  unfold tabL;have h1 := tabN_spans l x (if keyed then names ++ [x.name] else []) a p (path ++ 47 :: (if keyed then endS (stepK l names x) else 35 :: Lib.decDigits (i + 1))) (hfair x (by simp)) hp;have h2 := tabL_spans l xs names keyed (a + (tabN l (if keyed then names ++ [x.name] else []) a p (path ++ 47 :: (if keyed then endS (stepK l names x) else 35 :: Lib.decDigits (i + 1))) x).length) p path (i + 1) (fun y hy => hfair y (by simp [hy])) (by omega);simp only [List.length_append];rw [<- Nat.add_assoc];exact Spans.append h1 h2 (by omega) hp
end
/-! ### A table's rows by their places -/
def kindAt (t : List Q) (k : Nat) : Int := match t[k]? with | some x => x.kind | none => 0
def parAt (t : List Q) (k : Nat) : Int := match t[k]? with | some x => x.parent | none => -1
def finAt (t : List Q) (k : Nat) : Nat := match t[k]? with | some x => x.fin | none => 0
def textAt (t : List Q) (k : Nat) : Tx := match t[k]? with | some x => x.text | none => []
theorem at_some {t : List Q} {k : Nat} {x : Q} (h : t[k]? = some x) : kindAt t k = x.kind /\ parAt t k = x.parent /\ finAt t k = x.fin /\ textAt t k = x.text := by
 unfold kindAt parAt finAt textAt;rw [h];exact ⟨rfl, rfl, rfl, rfl⟩
structure Tab (t : List Q) : Prop where
 pos : 0 < t.length
 root : parAt t 0 = -1 /\ finAt t 0 = t.length /\ kindAt t 0 = 6
 up : ∀ (i : Nat), 0 < i -> i < t.length -> ∃ j : Nat, parAt t i = (j : Int) /\ j < i /\ finAt t i <= finAt t j /\ i < finAt t i /\ kindAt t j ≠ 5
 within : ∀ (i k : Nat), i < k -> k < finAt t i -> k < t.length -> (i : Int) <= parAt t k
theorem tabD_tab (l : List Ky.Rl) (x : Nd) (hf : fairN x = true) : Tab (tabD l x) := by
 unfold tabD;have h := tabN_spans l x [x.name] 1 0 (47 :: x.name) hf (by omega);generalize tabN l [x.name] 1 0 (47 :: x.name) x = rows at h ⊢;refine ⟨by simp, ⟨rfl, by simp [finAt], rfl⟩, fun i hi hl => ?_, fun i k hk hlt hl => ?_⟩
 ·obtain ⟨i, rfl⟩ : ∃ m, i = m + 1 := ⟨i - 1, by omega⟩;have hil : i < rows.length := by simpa using hl
  obtain ⟨q, hq⟩ : ∃ q, rows[i]? = some q := ⟨_, List.getElem?_eq_getElem hil⟩;have hf := h.fins i q hq;have e0 := at_some (t := (⟨6, [], [], -1, rows.length + 1, [47]⟩ : Q) :: rows) (k := i + 1) (x := q) (by rw [List.getElem?_cons_succ]; exact hq);rcases h.here i q hq with e | ⟨j, y, hj, hy, e, hle, hn⟩
  ·exact ⟨0, by rw [e0.2.1, e], by omega, by rw [e0.2.2.1]; simp [finAt]; omega, by rw [e0.2.2.1]; omega, by simp [kindAt]⟩
  ·have e1 := at_some (t := (⟨6, [], [], -1, rows.length + 1, [47]⟩ : Q) :: rows) (k := 1 + j) (x := y) (by rw [show 1 + j = j + 1 by omega, List.getElem?_cons_succ]; exact hy);exact ⟨1 + j, by rw [e0.2.1, e], by omega, by rw [e0.2.2.1, e1.2.2.1]; exact hle, by rw [e0.2.2.1]; omega, by rw [e1.1]; exact hn⟩
 ·obtain ⟨k, rfl⟩ : ∃ m, k = m + 1 := ⟨k - 1, by omega⟩;have hkl : k < rows.length := by simpa using hl
  obtain ⟨y, hy⟩ : ∃ q, rows[k]? = some q := ⟨_, List.getElem?_eq_getElem hkl⟩;have e0 := at_some (t := (⟨6, [], [], -1, rows.length + 1, [47]⟩ : Q) :: rows) (k := k + 1) (x := y) (by rw [List.getElem?_cons_succ]; exact hy);rw [e0.2.1]
  cases i with
  | zero => rcases h.here k y hy with e | ⟨j, y', hj, hy', e, hle, hn⟩ <;> omega
  | succ i =>
   have hil : i < rows.length := by omega
   obtain ⟨q, hq⟩ : ∃ q, rows[i]? = some q := ⟨_, List.getElem?_eq_getElem hil⟩;have e1 := at_some (t := (⟨6, [], [], -1, rows.length + 1, [47]⟩ : Q) :: rows) (k := i + 1) (x := q) (by rw [List.getElem?_cons_succ]; exact hq);rw [e1.2.2.1] at hlt;have := h.within i q hq k y (by omega) (by omega) hy;omega
end Go.Proofs.YtdnfnkicmfkkmaaGreatDoor.Vw
end

section
namespace Go.Proofs.YtdnfnkicmfkkmaaGreatDoor
open Go.RowKit
def Sized {H : Type} (P : Program) (t : TypeId) (d : DataW H) : Prop := ∀ x ∈ d.weights P t, x <= 140737488351232
theorem sized_each {H : Type} {P : Program} {ts : List TypeId} {ds : List (DataW H)} (h : (DataW.weightsEach P ts ds).all (· <= reachBytes) = true)
  {j : Nat} {t : TypeId} {d : DataW H} (ht : ts[j]? = some t) (hd : ds[j]? = some d) : Sized P t d := by
 intro x hx;have := List.all_eq_true.1 h _ (DataW.weights_mem_each ht hd x hx);exact of_decide_eq_true this
theorem range_get {n j i : Nat} (h : (List.range n)[j]? = some i) : j < n /\ i = j := by
 obtain ⟨h1, h2⟩ := List.getElem?_eq_some_iff.1 h;rw [List.getElem_range] at h2;exact ⟨by simpa using h1, h2.symm⟩
theorem weights_mem_all {H : Type} {P : Program} {e : TypeId} {d : DataW H} {l : List (DataW H)} (hd : d ∈ l) {x : Nat} (hx : x ∈ d.weights P e) : x ∈ DataW.weightsAll P e l := by
 induction l with
 | nil => simp at hd
 | cons d' l ih =>
  simp only [DataW.weightsAll, List.mem_append];rcases List.mem_cons.1 hd with rfl | h
  ·exact .inl hx
  ·exact .inr (ih h)
theorem Sized.elem {H : Type} {P : Program} {t e : TypeId} {elems spare : List (DataW H)} (ht : P.underlying t = some (.slice e)) (h : Sized P t (.slice elems spare)) {d : DataW H} (hd : d ∈ elems) : Sized P e d := by
 intro x hx;refine h x ?_;simp only [DataW.weights, ht];exact List.mem_cons_of_mem _ (List.mem_append_left _ (weights_mem_all hd hx))
theorem Sized.row {H : Type} {P : Program} {t e : TypeId} {elems spare : List (DataW H)} (ht : P.underlying t = some (.slice e)) (h : Sized P t (.slice elems spare)) : (elems.length + spare.length) * P.bytesOf e <= 140737488351232 :=
 h _ (by simp [DataW.weights, ht])
end Go.Proofs.YtdnfnkicmfkkmaaGreatDoor
end

section
namespace Go.Proofs.YtdnfnkicmfkkmaaGreatDoor
open Go.RowKit
open Go.Deep (oneCellFields)
structure Sq {α : Type} (El : World -> List Value -> α -> Prop) (k : Nat) (w : World) (A : Option Addr) (n c : Nat) (l : List α) : Prop where
 len : l.length = n
 le : n <= c
 max : c <= 9223372036854775807
 nil : A = none -> n = 0 /\ c = 0
 cell : 0 < n -> ∃ b off, A = some ⟨b, off, none⟩ /\ b < w.heap.size /\ ∀ i x, l[i]? = some x -> ∃ vs : List Value, vs.length = k /\ El w vs x /\ ∀ j v, vs[j]? = some v -> w.cell? ⟨b, off + i * k + j, none⟩ = some v
section
variable {α : Type} {El : World -> List Value -> α -> Prop} {k : Nat} {w w' : World} {A : Option Addr} {n c : Nat} {l : List α}
theorem Sq.none_ (w : World) : Sq El k w none 0 0 [] := ⟨rfl, Nat.le_refl _, by omega, fun _ => ⟨rfl, rfl⟩, fun h => absurd h (by omega)⟩
theorem Sq.below (h : Sq El k w A n c l) (hE : ∀ vs x, El w vs x -> El w' vs x) (hb : Below w.heap.size w w') : Sq El k w' A n c l :=
 ⟨h.len, h.le, h.max, h.nil, fun hn => by
  obtain ⟨b, off, e, hlt, hc⟩ := h.cell hn;refine ⟨b, off, e, Nat.lt_of_lt_of_le hlt hb.size, fun i x hi => ?_⟩;obtain ⟨vs, h1, h2, h3⟩ := hc i x hi
  exact ⟨vs, h1, hE _ _ h2, fun j v hj => (hb.cell (p := ⟨b, off + i * k + j, none⟩) hlt).trans (h3 j v hj)⟩⟩
theorem Sq.at_ {i : Nat} (h : Sq El k w A n c l) (hi : i < n) : ∃ b off x vs, A = some ⟨b, off, none⟩ /\ b < w.heap.size /\ l[i]? = some x /\ vs.length = k /\ El w vs x /\ ∀ j v, vs[j]? = some v -> w.cell? ⟨b, off + i * k + j, none⟩ = some v := by
 obtain ⟨b, off, e, hb, hc⟩ := h.cell (by omega);have hl : i < l.length := by have := h.len; omega
 obtain ⟨vs, h1, h2, h3⟩ := hc i l[i] (List.getElem?_eq_getElem hl);exact ⟨b, off, l[i], vs, e, hb, List.getElem?_eq_getElem hl, h1, h2, h3⟩
theorem Sq.lt (h : Sq El k w A n c l) : ∀ x, A = some x -> 0 < n -> x.block < w.heap.size := fun x e hn => by
 obtain ⟨b, off, e', hb, _⟩ := h.cell hn;rw [e] at e';injection e' with e';rw [e'];exact hb
theorem sq_of_own {B E : Nat} {v : Value} {xs : List Value} (h : w.ownsRow B E k v n xs) (hk : 0 < k) (hl : l.length = n) (hx : ∀ i x, l[i]? = some x -> ∃ vs : List Value, vs.length = k /\ El w vs x /\ ∀ j u, vs[j]? = some u -> xs[i * k + j]? = some u) :
  ∃ A c, v = .slice A n c /\ Sq El k w A n c l := by
 obtain ⟨hxl, h⟩ := h;rcases h with ⟨rfl, h0⟩ | ⟨g, cap, cur, rfl, hB, hh, hnc, hm, hs, ht⟩
 ·subst h0;have : l = [] := List.eq_nil_of_length_eq_zero hl;subst this;exact ⟨_, _, rfl, Sq.none_ w⟩
 ·have hg : g < w.heap.size := (Array.getElem?_eq_some_iff.1 hh).1;refine ⟨_, _, rfl, hl, hnc, by unfold maxLen at hm; omega, fun h => by simp at h, fun _ => ⟨g, 0, rfl, hg, fun i x hi => ?_⟩⟩;obtain ⟨vs, h1, h2, h3⟩ := hx i x hi;refine ⟨vs, h1, h2, fun j u hu => ?_⟩;have := h3 j u hu;rw [<- ht, List.getElem?_take] at this
  split at this
  ·simp only [World.cell?, hh, Nat.zero_add]
   simpa using this
  ·cases this
end
section
variable {H : Type} {enc : TypeId × Value -> H} {P : Program} {w : World}
theorem Sized.field {t : TypeId} {fs : Array Field} {parts : List (DataW H)} {j : Nat} {f : Field} {d : DataW H} (hs : P.underlying t = some (.struct fs)) (h : Sized P t (.agg parts)) (hf : fs[j]? = some f) (hd : parts[j]? = some d) : Sized P f.type d := by
 intro x hx;refine h x ?_;simp only [DataW.weights, hs];exact DataW.weights_mem_each (j := j) (by simp [hf]) hd x hx
section
open Go.ChangeShapes Go.WideShapes Go.Deep
theorem open_slice_fields' {t e : TypeId} {fs : Array Field} {fuel : Nat} {cs : List Value} {x : DataW H × List MemPlace} (ht : P.underlying t = some (.slice e)) (he : P.underlying e = some (.struct fs))
  (hone : oneCellFields P fs = true) (hC : P.cellsOf e = fs.size) (h : DataW.trod enc P w 0 (fun _ => true) true fuel t cs = some x) :
  (cs = [.slice none 0 0] /\ x = (.nil, [])) ∨
  ∃ (a : Addr) (len cap : Nat) (D : Nat -> DataW H) (Pl : Nat -> List MemPlace), cs = [.slice (some a) len cap] /\ len <= cap /\ cap <= maxLen ∧
   x = (.slice ((List.range len).map D) ((List.range (cap - len)).map fun j => D (len + j)), MemPlace.row a (cap * fs.size) ++ (List.range cap).flatMap Pl) ∧
   ∀ i, i < cap -> ∃ (ys : List (DataW H × List MemPlace)) (n : Nat), D i = .agg (ys.map (·.1)) /\ ys.length = fs.size ∧
    ∀ (j : Nat) (f : Field), fs[j]? = some f -> ∃ (v : Value) (y : DataW H × List MemPlace), w.cell? (a.add (i * fs.size + j)) = some v /\ ys[j]? = some y /\ DataW.trod enc P w 0 (fun _ => true) true n f.type [v] = some y := by
 rcases open_slice ht h with h0 | ⟨a, len, cap, m, n, D, Pl, hcs, hb, hl, hm, hmm, hx, hi⟩
 ·exact .inl h0
 ·simp only [if_true] at hmm;subst hmm;refine .inr ⟨a, len, m, D, Pl, hcs, hl, hm, by rw [hC] at hx; exact hx, fun i him => ?_⟩;obtain ⟨cs', hc, ht'⟩ := hi i him;rw [hC] at hc;obtain ⟨ys, n', hn', hy, hlen, hyl, hf⟩ := DataW.trod_struct he ht';obtain ⟨_, hcl, hat⟩ := World.cells?_some hc;simp only [Prod.mk.injEq] at hy;refine ⟨ys, n', hy.1, hyl, fun j f hj => ?_⟩;obtain ⟨ho, hk⟩ := hone_of hone j f hj;have hjl : j < fs.size := (Array.getElem?_eq_some_iff.1 hj).1;have hcell := hat j hjl;have hv : cs'[j]? = some (cs'[j]'(by omega)) := List.getElem?_eq_getElem (by omega);have h1 := hf j f hj;rw [ho, hk] at h1
  have hone' : (cs'.drop j).take 1 = [cs'[j]'(by omega)] := by
   rw [List.drop_eq_getElem_cons (by omega)];rfl
  rw [hone'] at h1;have hys : ys[j]? = some (ys[j]'(by omega)) := List.getElem?_eq_getElem (by omega);refine ⟨_, _, ?_, hys, h1.trans hys⟩;rw [<- Go.Deep.add_add, hcell, hv]
end
theorem cell_add {a : Addr} {v : Value} {k : Nat} (h : w.cell? (a.add k) = some v) (hs : a.spot = none) : w.cell? ⟨a.block, a.off + k, none⟩ = some v := by
 obtain ⟨b, off, spot⟩ := a;simp only at hs;subst hs;unfold Addr.add at h
 split at h
 ·rename_i h0; subst h0; exact h
 ·exact h
def Fields {H : Type} (enc : TypeId × Value -> H) (P : Program) (w : World) (fs : Array Field) (m : Nat) (vs : List Value) : Prop :=
 vs.length = fs.size /\ ∀ (j : Nat) (f : Field), fs[j]? = some f -> ∃ (v : Value) (y : DataW H × List MemPlace), vs[j]? = some v /\ DataW.trod enc P w 0 (fun _ => true) true m f.type [v] = some y /\ Sized P f.type y.1
theorem sq_of_trod' {α : Type} {El : World -> List Value -> α -> Prop} {t e : TypeId} {fs : Array Field} {fuel : Nat} {v : Value} {d : DataW H} {p : List MemPlace} (ht : P.underlying t = some (.slice e)) (he : P.underlying e = some (.struct fs)) (hone : oneCellFields P fs = true) (hC : P.cellsOf e = fs.size) (hpos : 0 < fs.size)
  (h : DataW.trod enc P w 0 (fun _ => true) true fuel t [v] = some (d, p)) (hz : Sized P t d)
  (each : ∀ m vs, Fields enc P w fs m vs -> ∃ x, El w vs x) : ∃ A n c l, v = .slice A n c /\ Sq El fs.size w A n c l /\ (n = 0 \/ n * P.bytesOf e <= 140737488351232) := by
 rcases open_slice_fields' ht he hone hC h with ⟨hcs, _⟩ | ⟨a, len, cap, D, Pl, hcs, hl, hm, hx, hall⟩
 ·injection hcs with hcs _;exact ⟨_, _, _, [], hcs, Sq.none_ w, .inl rfl⟩
 ·injection hcs with hcs _;injection hx with hx _;subst hx;have hrow := hz.row ht;simp only [List.length_map, List.length_range] at hrow
  have hel : ∀ i, i < len -> ∃ q : α × List Value, q.2.length = fs.size /\ El w q.2 q.1 /\ ∀ j u, q.2[j]? = some u -> w.cell? (a.add (i * fs.size + j)) = some u := fun i hi => by
   obtain ⟨ys, m, hD, hyl, hf⟩ := hall i (by omega);have hzi : Sized P e (D i) := hz.elem ht (List.mem_map.2 ⟨i, by simpa using hi, rfl⟩);rw [hD] at hzi
   have hV : ∀ j, j < fs.size -> ∃ u : Value, w.cell? (a.add (i * fs.size + j)) = some u /\ ∀ f, fs[j]? = some f -> ∃ y : DataW H × List MemPlace, DataW.trod enc P w 0 (fun _ => true) true m f.type [u] = some y /\ Sized P f.type y.1 := fun j hj => by
    obtain ⟨u, y, h1, h2, h3⟩ := hf j fs[j] (by simp [hj]);refine ⟨u, h1, fun f hfj => ?_⟩;have : fs[j] = f := (by simpa [hj] using hfj);subst this;exact ⟨y, h3, hzi.field he hfj (d := y.1) (by rw [List.getElem?_map, h2]; rfl)⟩
   obtain ⟨V, hV⟩ := Deep.choose_lt hV
   obtain ⟨x, hx⟩ := each m ((List.range fs.size).map V) ⟨by simp, fun j f hfj => by
    have hj : j < fs.size := (Array.getElem?_eq_some_iff.1 hfj).1;obtain ⟨y, h1, h2⟩ := (hV j hj).2 f hfj
    exact ⟨V j, y, by simp [hj], h1, h2⟩⟩
   refine ⟨(x, (List.range fs.size).map V), by simp, hx, fun j u hu => ?_⟩;rw [List.getElem?_map, Option.map_eq_some_iff] at hu;obtain ⟨j', hj', rfl⟩ := hu;obtain ⟨hjl, rfl⟩ := range_get hj';exact (hV j' hjl).1
  rcases Nat.eq_zero_or_pos len with h0 | hlpos
  ·subst h0;exact ⟨some a, 0, cap, [], hcs, { len := rfl, le := hl, max := by unfold maxLen at hm; omega, nil := fun h => (by simp at h), cell := fun hn => absurd hn (by omega) }, .inl rfl⟩
  haveI : Inhabited (α × List Value) := ⟨(hel 0 hlpos).choose⟩
  obtain ⟨L, hL⟩ := Deep.choose_lt hel;refine ⟨some a, len, cap, (List.range len).map fun i => (L i).1, hcs, { len := by simp, le := hl, max := by unfold maxLen at hm; omega, nil := fun h => (by simp at h), cell := fun hn => ?_ }, .inr ?_⟩
  ·have h00 : ∃ u, w.cell? (a.add 0) = some u := by
    obtain ⟨h1, _, h3⟩ := hL 0 (by omega);have hu : (L 0).2[0]? = some ((L 0).2[0]'(by omega)) := List.getElem?_eq_getElem (by omega);exact ⟨_, by simpa using h3 0 _ hu⟩
   obtain ⟨u0, hu0⟩ := h00
   have hspot : a.spot = none := by
    obtain ⟨b, off, spot⟩ := a
    simpa [Addr.add] using World.cell?_spot hu0
   have hae : a = ⟨a.block, a.off, none⟩ := by
    obtain ⟨b, off, spot⟩ := a;simp only at hspot;subst hspot;rfl
   refine ⟨a.block, a.off, by rw [<- hae], World.block_lt_of_cell? w ⟨a.block, a.off + 0, none⟩ (cell_add hu0 hspot), fun i x hi => ?_⟩;rw [List.getElem?_map, Option.map_eq_some_iff] at hi;obtain ⟨i', hi', rfl⟩ := hi;obtain ⟨hil, rfl⟩ := range_get hi';obtain ⟨h1, h2, h3⟩ := hL i' hil;refine ⟨(L i').2, h1, h2, fun j v hj => ?_⟩;rw [Nat.add_assoc];exact cell_add (h3 j v hj) hspot
  ·exact Nat.le_trans (Nat.mul_le_mul_right _ (by omega)) hrow
theorem sq_of_trod {α : Type} {El : World -> List Value -> α -> Prop} {t e : TypeId} {fs : Array Field} {a : Option Addr} {n c : Nat} {d : DataW H} {p : List MemPlace} (ht : P.underlying t = some (.slice e)) (he : P.underlying e = some (.struct fs)) (hone : oneCellFields P fs = true) (hC : P.cellsOf e = fs.size) (hpos : 0 < fs.size)
  (each : ∀ m vs, Fields enc P w fs m vs -> ∃ x, El w vs x)
  (h : DataW.Trod enc P w 0 (fun _ => true) true t (.slice a n c) d p) (hz : Sized P t d) : ∃ l, Sq El fs.size w a n c l /\ (n = 0 \/ n * P.bytesOf e <= 140737488351232) := by
 obtain ⟨fuel, hf⟩ := h;obtain ⟨A, n', c', l, hv, h1, h2⟩ := sq_of_trod' ht he hone hC hpos (v := .slice a n c) hf hz each;injection hv with e1 e2 e3;subst e1; subst e2; subst e3
 exact ⟨l, h1, h2⟩
end
end Go.Proofs.YtdnfnkicmfkkmaaGreatDoor
end

section
namespace Go.Proofs.YtdnfnkicmfkkmaaGreatDoor
open Go.RowKit
theorem flat_at_k {k : Nat} : ∀ {L : List (List Value)}, (∀ v ∈ L, v.length = k) -> ∀ {i j : Nat} {v : List Value}, L[i]? = some v -> j < k -> L.flatten[i * k + j]? = v[j]?
 | [], _, i, j, v, h, _ => by simp at h
 | a :: L, hL, 0, j, v, h, hj => by
  simp at h;subst h;have := hL a (List.mem_cons_self ..);rw [List.flatten_cons, Nat.zero_mul, Nat.zero_add, List.getElem?_append_left (by omega)]
 | a :: L, hL, i + 1, j, v, h, hj => by
  simp at h;have ha := hL a (List.mem_cons_self ..);have hm : (i + 1) * k + j = a.length + (i * k + j) := by rw [Nat.succ_mul]; omega
  rw [List.flatten_cons, hm, List.getElem?_append_right (by omega), Nat.add_sub_cancel_left];exact flat_at_k (fun v hv => hL v (List.mem_cons_of_mem _ hv)) h hj
theorem flat_len_k {k : Nat} : ∀ {L : List (List Value)}, (∀ v ∈ L, v.length = k) -> L.flatten.length = L.length * k
 | [], _ => by simp
 | a :: L, hL => by
  rw [List.flatten_cons, List.length_append, flat_len_k fun v hv => hL v (List.mem_cons_of_mem _ hv), hL a (List.mem_cons_self ..), List.length_cons, Nat.succ_mul, Nat.add_comm]
def Reads {α : Type} (El : World -> List Value -> α -> Prop) (k : Nat) (w : World) (xs : List Value) (l : List α) : Prop :=
 ∃ L : List (List Value), xs = L.flatten /\ L.length = l.length /\ (∀ v ∈ L, v.length = k) /\ ∀ (i : Nat) vs x, L[i]? = some vs -> l[i]? = some x -> El w vs x
section
variable {α : Type} {El El' : World -> List Value -> α -> Prop} {k : Nat} {w w' : World} {xs ys : List Value} {l la lb : List α}
theorem Reads.nil (w : World) : Reads El k w [] [] := ⟨[], rfl, rfl, fun v h => (by cases h), fun i vs x h => by simp at h⟩
theorem Reads.len (h : Reads El k w xs l) : xs.length = l.length * k := by
 obtain ⟨L, rfl, h1, h2, _⟩ := h;rw [flat_len_k h2, h1]
theorem Reads.mono (h : Reads El k w xs l) (hE : ∀ vs x, El w vs x -> El' w' vs x) : Reads El' k w' xs l := by
 obtain ⟨L, h0, h1, h2, h3⟩ := h;exact ⟨L, h0, h1, h2, fun i vs x hi hx => hE _ _ (h3 i vs x hi hx)⟩
theorem Reads.append (ha : Reads El k w xs la) (hb : Reads El k w ys lb) : Reads El k w (xs ++ ys) (la ++ lb) := by
 obtain ⟨L, rfl, h1, h2, h3⟩ := ha;obtain ⟨M, rfl, g1, g2, g3⟩ := hb;refine ⟨L ++ M, by simp, by simp [h1, g1], fun v hv => (List.mem_append.1 hv).elim (h2 v) (g2 v), fun i vs x hi hx => ?_⟩;rcases Nat.lt_or_ge i L.length with h | h
 ·rw [List.getElem?_append_left h] at hi;rw [List.getElem?_append_left (by omega)] at hx;exact h3 i vs x hi hx
 ·rw [List.getElem?_append_right h] at hi;rw [List.getElem?_append_right (by omega), <- h1] at hx;exact g3 _ vs x hi hx
theorem Reads.one {vs : List Value} {x : α} (hk : vs.length = k) (h : El w vs x) : Reads El k w vs [x] :=
  ⟨[vs], by simp, rfl, fun v hv => by rw [List.mem_singleton.1 hv]; exact hk, fun i us y hi hy => by
    cases i with
    | zero => simp at hi hy; subst hi; subst hy; exact h
    | succ i => simp at hi⟩
theorem Reads.at_ (h : Reads El k w xs l) {i : Nat} {x : α} (hi : l[i]? = some x) : ∃ vs, vs.length = k /\ El w vs x /\ ∀ j u, vs[j]? = some u -> xs[i * k + j]? = some u := by
 obtain ⟨L, rfl, h1, h2, h3⟩ := h;have hlt : i < L.length := by have := (List.getElem?_eq_some_iff.1 hi).1; omega
 have hL : L[i]? = some L[i] := List.getElem?_eq_getElem hlt;have hlen := h2 L[i] (List.getElem_mem hlt);refine ⟨L[i], hlen, h3 i _ x hL hi, fun j u hu => ?_⟩;have hj : j < k := by have := (List.getElem?_eq_some_iff.1 hu).1; omega
 rw [flat_at_k h2 hL hj, hu]
theorem Reads.all (h : Reads El k w xs l) (h1 : ∀ vs x, El w vs x -> ∀ u ∈ vs, u.oneCell' = true) : ∀ u ∈ xs, u.oneCell' = true := by
 obtain ⟨L, rfl, g1, _, g3⟩ := h;intro u hu;obtain ⟨vs, hvs, huv⟩ := List.mem_flatten.1 hu;obtain ⟨i, hi⟩ := List.mem_iff_getElem?.1 hvs;have hlt : i < l.length := by have := (List.getElem?_eq_some_iff.1 hi).1; omega
 exact h1 vs _ (g3 i vs l[i] hi (List.getElem?_eq_getElem hlt)) u huv
def OwS (El : World -> List Value -> α -> Prop) (k : Nat) (w : World) (B E : Nat) (v : Value) (l : List α) : Prop := ∃ xs, w.ownsRow B E k v l.length xs /\ Reads El k w xs l
theorem OwS.nil (w : World) (B E : Nat) : OwS El k w B E (.slice none 0 0) [] := ⟨[], World.ownsRow_nil w B E k, Reads.nil w⟩
theorem OwS.sq {B E : Nat} {v : Value} (h : OwS El k w B E v l) (hk : 0 < k) : ∃ A c, v = .slice A l.length c /\ Sq El k w A l.length c l := by
 obtain ⟨xs, h1, h2⟩ := h;exact sq_of_own h1 hk rfl fun i x hi => h2.at_ hi
theorem OwS.form {B E : Nat} {v : Value} (h : OwS El k w B E v l) : ∃ A c, v = .slice A l.length c := by
 obtain ⟨xs, ⟨_, h1⟩, _⟩ := h;rcases h1 with ⟨rfl, h0⟩ | ⟨g, cap, cur, rfl, _⟩
 ·exact ⟨_, _, by rw [h0]⟩
 ·exact ⟨_, _, rfl⟩
theorem OwS.sq' {B E n c : Nat} {A : Option Addr} (h : OwS El k w B E (.slice A n c) l) (hk : 0 < k) : Sq El k w A n c l := by
 obtain ⟨A', c', e, h1⟩ := h.sq hk;injection e with e1 e2 e3;subst e1; subst e2; subst e3
 exact h1
theorem OwS.kept {B E : Nat} {v : Value} {row : Option Nat} (h : OwS El k w B E v l) (hg : w.grownBy w' row) (hne : v.ownBlock = none \/ v.ownBlock ≠ row) (hE : ∀ vs x, El w vs x -> El w' vs x) : OwS El k w' B E v l := by
 obtain ⟨xs, h1, h2⟩ := h;exact ⟨xs, h1.kept hg hne, h2.mono hE⟩
theorem OwS.below {B E : Nat} {v : Value} (h : OwS El k w B E v l) (hb : Below w.heap.size w w') (hE : ∀ vs x, El w vs x -> El w' vs x) : OwS El k w' B E v l :=
 h.kept (grown_of_below hb) (by cases hv : v.ownBlock with | none => exact .inl rfl | some b => exact .inr (by simp)) hE
theorem OwS.lt {B E : Nat} {v : Value} (h : OwS El k w B E v l) : ∀ b, v.ownBlock = some b -> B <= b /\ b < w.heap.size := by
 obtain ⟨xs, h1, _⟩ := h;exact World.ownsRow.lt h1
theorem Sq.cells {A : Option Addr} {n c : Nat} (h : Sq El k w A n c l) : ∃ xs, Reads El k w xs l /\ (0 < n -> ∃ b off, A = some ⟨b, off, none⟩ /\ b < w.heap.size /\ (0 < k -> ∀ j u, xs[j]? = some u -> w.cell? ⟨b, off + j, none⟩ = some u)) := by
 rcases Nat.eq_zero_or_pos n with h0 | hn
 ·have : l = [] := List.eq_nil_of_length_eq_zero (by rw [h.len, h0]);subst this;exact ⟨[], Reads.nil w, fun hp => by omega⟩
 ·obtain ⟨b, off, e, hb, hc⟩ := h.cell hn;have hl := h.len
  have hV : ∀ i, i < n -> ∃ vs : List Value, vs.length = k /\ (∀ x, l[i]? = some x -> El w vs x) /\ ∀ j v, vs[j]? = some v -> w.cell? ⟨b, off + i * k + j, none⟩ = some v := fun i hi => by
   obtain ⟨vs, h1, h2, h3⟩ := hc i l[i] (List.getElem?_eq_getElem (by omega));refine ⟨vs, h1, fun x hx => ?_, h3⟩;rw [List.getElem?_eq_getElem (by omega)] at hx;injection hx with hx;rw [<- hx]; exact h2
  obtain ⟨V, hV⟩ := Deep.choose_lt hV;refine ⟨((List.range n).map V).flatten, ⟨_, rfl, by simp [hl], fun v hv => ?_, fun i vs x hi hx => ?_⟩, fun _ => ⟨b, off, e, hb, fun hk j u hu => ?_⟩⟩
  ·obtain ⟨i, hi, rfl⟩ := List.mem_map.1 hv;exact (hV i (by simpa using hi)).1
  ·rw [List.getElem?_map, Option.map_eq_some_iff] at hi;obtain ⟨i', hi', rfl⟩ := hi;obtain ⟨hil, rfl⟩ := range_get hi';exact (hV i' hil).2.1 x hx
  ·have hall : ∀ v ∈ (List.range n).map V, v.length = k := fun v hv => by
    obtain ⟨i, hi, rfl⟩ := List.mem_map.1 hv;exact (hV i (by simpa using hi)).1
   have hj : j < n * k := by
    have := (List.getElem?_eq_some_iff.1 hu).1;rw [flat_len_k hall] at this
    simpa using this
   have hq : j / k < n := (Nat.div_lt_iff_lt_mul hk).2 hj;have hm : j % k < k := Nat.mod_lt _ hk;have hjj : j / k * k + j % k = j := by rw [Nat.mul_comm]; exact Nat.div_add_mod j k
   have hget : ((List.range n).map V)[j / k]? = some (V (j / k)) := by simp [hq]
   have h1 := flat_at_k hall hget hm;rw [hjj, hu] at h1;have h2 := (hV (j / k) hq).2.2 (j % k) u h1.symm;rw [Nat.add_assoc, hjj] at h2;exact h2
end
section
variable {P : Program} {ops : Array Oper} {rest : List Oper} {o : Oper} {a : Act} {Q : Exit -> Act -> World -> Prop}
theorem append_sq {α : Type} {El : World -> List Value -> α -> Prop} {k : Nat} (w : World) (t e : TypeId) (z : Value) (by_ : Nat) (ht : P.underlying t = some (.slice e))
  (hinfo : (P.info? e).map (fun i => (i.zero, i.size, i.bytes)) = some (some z, k, by_)) (hzs : z.cells.size = k) (hk : 0 < k)
  (hgd : o.guard = none) (s x : Operand)
  (ho : o.op = .call { callee := .builtin .append, args := #[s, x], argTypes := #[t, t] })
  (B : Nat) (v : Value) (la : List α) (hs : a.eval s = v) (hown : OwS El k w B e v la)
  (A : Option Addr) (m c : Nat) (lb : List α) (hx : a.eval x = .slice A m c) (hr : Sq El k w A m c lb)
  (h1 : ∀ vs x, El w vs x -> ∀ u ∈ vs, u.oneCell' = true) (hE : ∀ w', w.grownBy w' v.ownBlock -> ∀ vs x, El w vs x -> El w' vs x)
  (N : Nat) (hN : la.length + m = N) (hsz : N * by_ <= 140737488355328) (hsz2 : N <= 140737488355328) (hB : B <= w.heap.size)
  (h : ∀ A' c' w', OwS El k w' B e (.slice A' N c') (la ++ lb) -> w.grownBy w' v.ownBlock -> Below B w w' -> ((Value.slice A' N c').ownBlock = v.ownBlock \/ (Value.slice A' N c').ownBlock = some w.heap.size) -> wpList P ops Q rest (a.put o.dst (.slice A' N c')) w') :
  wpList P ops Q (o :: rest) a w := by
 obtain ⟨xs, hown, hra⟩ := hown;obtain ⟨ys, hrb, hyc⟩ := hr.cells;obtain ⟨i, hi, hz, hsz', hby⟩ := info_parts hinfo;have hbel : ∀ w', w.grownBy w' v.ownBlock -> Below B w w' := fun w' hg => (Below.refl B w).grown hg hB (fun k hk => (World.ownsRow.lt hown k hk).1)
 rcases A with _ | ad
 ·obtain ⟨rfl, rfl⟩ := hr.nil rfl;have hn : lb = [] := List.eq_nil_of_length_eq_zero hr.len;subst hn;refine wpList_append_own_none hgd s x t ho B e i k ht hi v la.length xs hs hown hx ?_;have h2 : OwS El k w B e v la := ⟨xs, hown, hra⟩;obtain ⟨A', c', rfl⟩ := h2.form;have h0 : la.length = N := by omega
  rw [h0] at h2 ⊢;refine h A' c' w ?_ (World.grownBy.refl _ _) (Below.refl _ _) (.inl ?_)
  ·rw [List.append_nil]; exact h2
  ·rw [h0]
 ·refine wpList_append_own_at w hgd s x t ho B e i z k by_ ht hi hz hsz' hby hzs hk v la.length xs hs hown ad m c ys hx (by rw [hrb.len, hr.len]) ?_ (hrb.all h1) (by unfold maxLen; omega) (by rw [hN]; exact hsz) hB ?_
  ·intro j u hu
   have hm : 0 < m := by
    have h1 := (List.getElem?_eq_some_iff.1 hu).1;rw [hrb.len, hr.len] at h1;rcases Nat.eq_zero_or_pos m with h0 | h0
    ·rw [h0] at h1; omega
    ·exact h0
   obtain ⟨b, off, he, _, hc⟩ := hyc hm;injection he with he;subst he;have := hc hk j u hu;unfold Addr.add
   split
   ·rename_i h0; subst h0; simpa using this
   ·exact this
  ·intro v' w' hown' hg _ hob;have h2 : OwS El k w' B e v' (la ++ lb) := ⟨xs ++ ys, by rw [List.length_append, hr.len]; exact hown', (hra.append hrb).mono (hE w' hg)⟩;obtain ⟨A', c', rfl⟩ := h2.form;have h0 : (la ++ lb).length = N := by rw [List.length_append, hr.len]; exact hN
   rw [h0] at h2 hob ⊢;exact h A' c' w' h2 hg (hbel w' hg) hob
end
theorem sq_one {α : Type} {El : World -> List Value -> α -> Prop} {k : Nat} (w : World) (vs : List Value) (x : α) (E : TypeId) (fr : Nat × Nat) (hk : vs.length = k) (h : El (w.alloc (.cells vs.toArray E fr)) vs x) :
  Sq El k (w.alloc (.cells vs.toArray E fr)) (some ⟨w.heap.size, 0, none⟩) 1 1 [x] := by
 have hn : (w.alloc (.cells vs.toArray E fr)).heap[w.heap.size]? = some (.cells vs.toArray E fr) := heap_alloc_new w _;refine ⟨rfl, Nat.le_refl _, by omega, fun h => by simp at h, fun _ => ⟨_, _, rfl, (Array.getElem?_eq_some_iff.1 hn).1, fun i y hi => ?_⟩⟩
 cases i with
 | succ i => simp at hi
 | zero =>
  simp at hi;subst hi;refine ⟨vs, hk, h, fun j v hj => ?_⟩;simp only [World.cell?, hn]
  simpa using hj
end Go.Proofs.YtdnfnkicmfkkmaaGreatDoor
end

section
namespace Go.Proofs.YtdnfnkicmfkkmaaGreatDoor
open Go.RowKit
theorem flat_set_k {k : Nat} : ∀ {L : List (List Value)}, (∀ v ∈ L, v.length = k) -> ∀ {i j : Nat} {v : List Value} {u : Value}, L[i]? = some v -> j < k -> (L.set i (v.set j u)).flatten = L.flatten.set (i * k + j) u
 | [], _, i, j, v, u, h, _ => by simp at h
 | a :: L, hL, 0, j, v, u, h, hj => by
  simp only [List.getElem?_cons_zero, Option.some.injEq] at h;subst h;have ha := hL a (by simp);rw [List.set_cons_zero, List.flatten_cons, List.flatten_cons, Nat.zero_mul, Nat.zero_add, List.set_append_left _ _ (by omega)]
 | a :: L, hL, i + 1, j, v, u, h, hj => by
  have ha := hL a (by simp);rw [List.getElem?_cons_succ] at h;rw [List.set_cons_succ, List.flatten_cons, List.flatten_cons, flat_set_k (fun v hv => hL v (by simp [hv])) h hj, List.set_append_right _ _ (by rw [ha, Nat.succ_mul]; omega), ha]
  congr 2
  rw [Nat.succ_mul];omega
section
variable {α : Type} {El El' : World -> List Value -> α -> Prop} {k : Nat} {w w' : World} {xs : List Value} {l : List α}
theorem Reads.set (h : Reads El k w xs l) {i j : Nat} {x y : α} {u : Value} (hi : l[i]? = some x) (hj : j < k) (hE : ∀ vs x, El w vs x -> El' w' vs x) (hy : ∀ vs : List Value, vs.length = k -> El w vs x -> El' w' (vs.set j u) y) : Reads El' k w' (xs.set (i * k + j) u) (l.set i y) := by
 obtain ⟨L, rfl, h1, h2, h3⟩ := h;have hlt : i < L.length := by have := (List.getElem?_eq_some_iff.1 hi).1; omega
 have hL : L[i]? = some L[i] := List.getElem?_eq_getElem hlt;have hlen := h2 L[i] (List.getElem_mem hlt);refine ⟨L.set i (L[i].set j u), (flat_set_k h2 hL hj).symm, by simp [h1], fun v hv => ?_, fun m vs z hm hz => ?_⟩
 ·rcases List.mem_or_eq_of_mem_set hv with hv | rfl
  ·exact h2 v hv
  ·rw [List.length_set]; exact hlen
 ·by_cases hmi : i = m
  ·subst hmi;rw [List.getElem?_set_self (by omega)] at hm;rw [List.getElem?_set_self (by omega)] at hz;injection hm with hm;injection hz with hz;subst hm hz;exact hy _ hlen (h3 i _ x hL hi)
  ·rw [List.getElem?_set_ne hmi] at hm hz;exact hE _ _ (h3 m vs z hm hz)
theorem OwS.down {B B' E : Nat} {v : Value} (h : OwS El k w B E v l) (hB : B' <= B) : OwS El k w B' E v l := by
 obtain ⟨xs, ⟨h1, h2⟩, h3⟩ := h;refine ⟨xs, ⟨h1, ?_⟩, h3⟩;rcases h2 with h0 | ⟨g, cap, cur, e, hb, r⟩
 ·exact .inl h0
 ·exact .inr ⟨g, cap, cur, e, Nat.le_trans hB hb, r⟩
theorem OwS.elem {B E n c i : Nat} {A : Option Addr} (h : OwS El k w B E (.slice A n c) l) (hi : i < n) (hk : 0 < k) :
  ∃ g x vs, A = some ⟨g, 0, none⟩ /\ B <= g /\ g < w.heap.size /\ l[i]? = some x /\ vs.length = k /\ El w vs x /\ (∀ j u, vs[j]? = some u -> w.cell? ⟨g, i * k + j, none⟩ = some u) /\ (∀ j, w.frozen? ⟨g, j, none⟩ = false) ∧
   ∀ (j : Nat) (u : Value) (y : α), j < k -> (∀ vs x, El w vs x -> El (w.setCell ⟨g, i * k + j, none⟩ u) vs x) -> (∀ vs : List Value, vs.length = k -> El w vs x -> El (w.setCell ⟨g, i * k + j, none⟩ u) (vs.set j u) y) →
    OwS El k (w.setCell ⟨g, i * k + j, none⟩ u) B E (.slice A n c) (l.set i y) /\ w.grownBy (w.setCell ⟨g, i * k + j, none⟩ u) (some g) := by
 obtain ⟨xs, h1, h2⟩ := h
 have hln : l.length = n := by
  rcases h1.2 with ⟨e, h0⟩ | ⟨g, cap, cur, e, _⟩
  ·injection e with _ e _;rw [h0, e]
  ·injection e with _ e _;exact e.symm
 have hil : i < l.length := by omega
 have hx : l[i]? = some l[i] := List.getElem?_eq_getElem hil;obtain ⟨vs, hvs, hel, hcs⟩ := h2.at_ hx;rw [hln] at h1
 obtain ⟨g, cap, cur, e, hB, hg, _⟩ : ∃ g cap cur, Value.slice A n c = .slice (some ⟨g, 0, none⟩) n cap /\ B <= g /\ w.heap[g]? = some (.cells cur E) /\ True := by
  rcases h1.2 with ⟨_, h0⟩ | ⟨g, cap, cur, e, hb, hg, _⟩
  ·omega
  ·exact ⟨g, cap, cur, e, hb, hg, trivial⟩
 injection e with e1 e2 e3;subst e1 e3;refine ⟨g, l[i], vs, rfl, hB, (Array.getElem?_eq_some_iff.1 hg).1, hx, hvs, hel, fun j u hu => ?_, fun j => h1.frozenAt j, fun j u y hj hE hy => ?_⟩
 ·have hjk : j < k := by have := (List.getElem?_eq_some_iff.1 hu).1; omega
  rw [h1.cellAt (i * k + j) (by
   have : (i + 1) * k <= n * k := Nat.mul_le_mul_right k hi;rw [Nat.succ_mul] at this
   omega)]
  exact hcs j u hu
 ·obtain ⟨g1, g2⟩ := h1.stored (i * k + j) u;refine ⟨⟨xs.set (i * k + j) u, ?_, h2.set hx hj hE hy⟩, g2⟩;rw [List.length_set, hln];exact g1
end
end Go.Proofs.YtdnfnkicmfkkmaaGreatDoor
end

section
namespace Go.Proofs.YtdnfnkicmfkkmaaGreatDoor
open Go.RowKit
theorem strOf_size' (l : List UInt8) : (strOf l).size = l.length := by simp [strOf, ByteArray.size]
theorem strOf_data' (l : List UInt8) : (strOf l).data.toList = l := rfl
theorem strOf_add (a b : List UInt8) : strOf a ++ strOf b = strOf (a ++ b) := by
 unfold strOf;apply ByteArray.ext;simp [ByteArray.data_append]
theorem strOf_inj {a b : List UInt8} (h : strOf a = strOf b) : a = b := by
 have := congrArg (fun s : ByteArray => s.data.toList) h;exact this
theorem strOf_empty (l : List UInt8) : (strOf l).toList.isEmpty = l.isEmpty := by
 rw [Lib.toList_data];rfl
theorem str_beq (a b : ByteArray) : (a.toList == b.toList) = decide (a = b) := by
 rw [Lib.toList_data, Lib.toList_data, Bool.eq_iff_iff, beq_iff_eq, decide_eq_true_eq];constructor
 ·intro h;apply ByteArray.ext;exact Array.ext' h
 ·intro h;rw [h]
end Go.Proofs.YtdnfnkicmfkkmaaGreatDoor
end
