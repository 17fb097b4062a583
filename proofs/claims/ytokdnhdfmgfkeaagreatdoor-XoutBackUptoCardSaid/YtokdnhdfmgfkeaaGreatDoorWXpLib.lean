/- What the library's functions on texts give to the printer: Contains, HasSuffix, ToLower, utf.Bad of a text. -/
import Derived.Test.YtokdnhdfmgfkeaaGreatDoorWStrLaws
import Derived.Test.YtokdnhdfmgfkeaaGreatDoorWKyMath
import Derived.Test.YtokdnhdfmgfkeaaGreatDoorWXlPlaces
import Derived.Test.YtokdnhdfmgfkeaaGreatDoorWUtfMath
import Derived.Test.YtokdnhdfmgfkeaaGreatDoorWQxVal
import Derived.Shelf.Strings.Search3
import Derived.Shelf.Strings.Prefix
import Derived.Lib.SlBytesConst
set_option linter.unusedVariables false
set_option linter.unusedSimpArgs false
section
namespace Go.Proofs.YtokdnhdfmgfkeaaGreatDoor.Xt
open Xl
open Go.Proofs.YtokdnhdfmgfkeaaGreatDoor (Ky.trim)
inductive Nd where
 | mk (kind : Int) (name text : Tx) (attrs : List At) (kids : List Nd)
def Nd.kind : Nd -> Int | .mk k _ _ _ _ => k
def Nd.kids : Nd -> List Nd | .mk _ _ _ _ ks => ks
def Nd.attrs : Nd -> List At | .mk _ _ _ as_ _ => as_
def Nd.text : Nd -> Tx | .mk _ _ t _ _ => t
def zero : Nd := .mk 0 [] [] [] []
def textN (s : Tx) : Nd := .mk 2 [] s [] []
structure Fr where
 name : Tx
 attrs : List At
 kids : List Nd
structure St where
 before : List Nd
 root : Nd
 has : Bool
 after : List Nd
 opn : List Fr
 text : Tx
 nodes : Nat
def St.start : St := ⟨[], zero, false, [], [], [], 0⟩
def put (s : St) (n : Nd) : St := match s.opn with
 | f :: F => { s with opn := { f with kids := f.kids ++ [n] } :: F }
 | [] => if n.kind = 1 then { s with root := n, has := true } else if s.has then { s with after := s.after ++ [n] } else { s with before := s.before ++ [n] }
def flush (s : St) : St := if s.text = [] then s else { put s (textN s.text) with text := [] }
def startT (s : St) (t : Tok) : Except Int St :=
 if 32 <= s.opn.length then .error 7
 else if 4096 < s.nodes + (1 + t.attrs.length) then .error 8
 else if s.opn = [] /\ s.has = true then .error 2
 else
  let s2 := flush { s with nodes := s.nodes + (1 + t.attrs.length) }
  .ok { s2 with opn := ⟨t.name, t.attrs, []⟩ :: s2.opn, has := s2.has || decide (s2.opn = []) }
def endT (s : St) : St :=
 let s1 := flush s
 match s1.opn with
 | f :: F => put { s1 with opn := F } (.mk 1 f.name [] f.attrs f.kids)
 | [] => s1
def charsT (s : St) (t : Tok) : Except Int St :=
 if s.opn = [] then (if t.kind = 5 \/ Ky.trim t.text ≠ [] then .error 2 else .ok s)
 else if s.text = [] /\ t.text ≠ [] then (if 4096 < s.nodes + 1 then .error 8 else .ok { s with nodes := s.nodes + 1, text := s.text ++ t.text })
 else .ok { s with text := s.text ++ t.text }
def otherT (s : St) (t : Tok) (k : Int) : Except Int St :=
 if 4096 < s.nodes + 1 then .error 8 else .ok (put (flush { s with nodes := s.nodes + 1 }) (.mk k t.name t.text [] []))
def stepT (s : St) (t : Tok) : Except Int St :=
 if t.kind = 1 then startT s t
 else if t.kind = 2 then (startT s t).map endT
 else if t.kind = 3 then (match s.opn with
  | [] => .error 3
  | f :: _ => if f.name = t.name then .ok (endT s) else .error 3)
 else if t.kind = 6 then otherT s t 3
 else if t.kind = 7 then otherT s t 4
 else charsT s t
def runT : List Tok -> St -> Except (Int × Nat) St
 | [], s => .ok s
 | t :: l, s => match stepT s t with
  | .error e => .error (e, t.at_)
  | .ok s' => runT l s'
structure Doc where
 before : List Nd
 root : Nd
 after : List Nd
def noDoc : Doc := ⟨[], zero, []⟩
def parseT (len : Nat) (l : List Tok) : Int × Nat × Doc := match runT l .start with
 | .error (e, a) => (e, a, noDoc)
 | .ok s => if s.opn ≠ [] \/ s.has = false then (6, len, noDoc) else (0, 0, ⟨s.before, s.root, s.after⟩)
/-! ### The document's way -/
structure Sc where
 opn : List Tx
 root : Bool
 nodes : Nat
 within : Bool
theorem put_opn (s : St) (n : Nd) : (put s n).opn.map (·.name) = s.opn.map (·.name) := by
 unfold put
 split
 ·rename_i f F h
  rw [h];rfl
 ·split
  ·rfl
  ·split <;> rfl
theorem put_text (s : St) (n : Nd) : (put s n).text = s.text := by
 unfold put
 split
 ·rfl
 ·split
  ·rfl
  ·split <;> rfl
theorem put_has {s : St} {n : Nd} (h : s.opn = [] -> n.kind ≠ 1 \/ s.has = true) : (put s n).has = s.has := by
 unfold put
 split
 ·rfl
 ·rename_i h0
  split
  ·rename_i h1
   rcases h h0 with h2 | h2
   ·exact absurd h1 h2
   ·exact h2.symm
  ·split <;> rfl
theorem flush_opn (s : St) : (flush s).opn.map (·.name) = s.opn.map (·.name) := by
 unfold flush
 split
 ·rfl
 ·exact put_opn _ _
theorem flush_text (s : St) : (flush s).text = [] := by
 unfold flush
 split
 ·assumption
 ·rfl
theorem flush_has (s : St) : (flush s).has = s.has := by
 unfold flush
 split
 ·rfl
 ·exact put_has (n := textN s.text) fun _ => .inl (by simp [textN, Nd.kind])
theorem nil_of_names {s s' : St} (h : s.opn.map (·.name) = s'.opn.map (·.name)) : s.opn = [] ↔ s'.opn = [] := by
 rw [<- List.map_eq_nil_iff (f := (·.name)), h, List.map_eq_nil_iff]
end Go.Proofs.YtokdnhdfmgfkeaaGreatDoor.Xt
end

section
namespace Go.Proofs.YtokdnhdfmgfkeaaGreatDoor.Xt
open Xl
/-! ### What is told of trees, plainly -/
mutual
def depthN : Nd -> Nat
 | .mk k _ _ _ ks => if k = 1 then depthL ks + 1 else 0
def depthL : List Nd -> Nat
 | [] => 0
 | x :: xs => max (depthN x) (depthL xs)
end
mutual
def countN : Nd -> Nat
 | .mk _ _ _ as_ ks => 1 + as_.length + countL ks
def countL : List Nd -> Nat
 | [] => 0
 | x :: xs => countN x + countL xs
end
theorem depthL_append : ∀ a b, depthL (a ++ b) = max (depthL a) (depthL b)
 | [], b => by simp [depthL]
 | x :: a, b => by simp only [List.cons_append, depthL, depthL_append a b]; omega
theorem countL_append : ∀ a b, countL (a ++ b) = countL a + countL b
 | [], b => by simp [countL]
 | x :: a, b => by simp only [List.cons_append, countL, countL_append a b]; omega
theorem kid_lt {k : Int} {nm tx : Tx} {as_ : List At} {ks : List Nd} {i : Nat} {x : Nd} (h : ks[i]? = some x) : SizeOf.sizeOf x < SizeOf.sizeOf (Nd.mk k nm tx as_ ks) := by
 have := List.sizeOf_lt_of_mem (List.mem_of_getElem? h);simp;omega
end Go.Proofs.YtokdnhdfmgfkeaaGreatDoor.Xt
end

section
namespace Go.Proofs.YtokdnhdfmgfkeaaGreatDoor.Xo
open Go.RowKit UtfW Qx Xl Xt
def esc1 (value : Bool) (c : UInt8) : Tx :=
 if c = 38 then [38, 97, 109, 112, 59]
 else if c = 60 then [38, 108, 116, 59]
 else if c = 13 then [38, 35, 49, 51, 59]
 else if c = 62 /\ value = false then [38, 103, 116, 59]
 else if c = 34 /\ value = true then [38, 113, 117, 111, 116, 59]
 else if c = 9 /\ value = true then [38, 35, 57, 59]
 else if c = 10 /\ value = true then [38, 35, 49, 48, 59]
 else [c]
def esc (value : Bool) : Tx -> Tx
 | [] => []
 | c :: s => esc1 value c ++ esc value s
def writeA : List At -> Tx
 | [] => []
 | a :: l => (32 :: a.1 ++ [61, 34] ++ esc true a.2 ++ [34]) ++ writeA l
mutual
def writeN : Nd -> Tx
 | .mk k nm tx as_ ks =>
  if k = 1 then 60 :: nm ++ writeA as_ ++ (if ks.isEmpty then [47, 62] else [62] ++ writeL ks ++ ([60, 47] ++ nm ++ [62]))
  else if k = 2 then esc false tx
  else if k = 3 then [60, 33, 45, 45] ++ tx ++ [45, 45, 62]
  else if k = 4 then [60, 63] ++ nm ++ (if tx = [] then [] else 32 :: tx) ++ [63, 62]
  else []
def writeL : List Nd -> Tx
 | [] => []
 | x :: xs => writeN x ++ writeL xs
end
def writeD (d : Doc) : Tx := writeL d.before ++ writeN d.root ++ writeL d.after
/-! ### Which may be -/
def good (s : Tx) : Bool := decide (badW s 0 < 0)
def plainT (s : Tx) : Bool := good s && decide (13 ∉ s)
def attrsOk : List Tx -> List At -> Bool
 | _, [] => true
 | seen, a :: l => nameR a.1 && good a.2 && decide (a.1 ∉ seen) && attrsOk (seen ++ [a.1]) l
def headOk (s : Tx) : Bool := match s with
 | [] => true
 | c :: _ => !Qx.blank c
def xml3 : Tx := [120, 109, 108]
mutual
def fairN : Nd -> Bool
 | .mk k nm tx as_ ks =>
  if k = 1 then nameR nm && decide (tx = []) && attrsOk [] as_ && fairL 0 ks
  else if k = 2 then as_.isEmpty && ks.isEmpty && decide (nm = []) && decide (tx ≠ []) && good tx
  else if k = 3 then as_.isEmpty && ks.isEmpty && decide (nm = []) && plainT tx && (find [45, 45] tx).isNone && decide (tx.getLast? ≠ some 45)
  else if k = 4 then as_.isEmpty && ks.isEmpty && nameR nm && decide (nm.map low ≠ xml3) && plainT tx && (find [63, 62] tx).isNone && headOk tx
  else false
def fairL (was : Int) : List Nd -> Bool
 | [] => true
 | x :: xs => fairN x && !(decide (was = 2) && decide (x.kind = 2)) && fairL x.kind xs
end
def miscOk : List Nd -> Bool
 | [] => true
 | x :: xs => (decide (x.kind = 3) || decide (x.kind = 4)) && fairN x && miscOk xs
def mayD (d : Doc) : Bool := decide (d.root.kind = 1) && fairN d.root && miscOk d.before && miscOk d.after && decide (depthN d.root <= 32) && decide (countN d.root + d.before.length + d.after.length <= 4096) && decide ((writeD d).length <= 65536)
/-! ### What is good is valid -/
theorem good_V {s : Tx} (h : good s = true) : V s := V_of_bad (of_decide_eq_true h)
theorem V_good {s : Tx} (h : V s) : good s = true := by
 unfold good;rw [decide_eq_true_eq];obtain ⟨rs, hr, rfl⟩ := h;have h1 := runesW_E (E rs) rs 0 hr (by rw [List.drop_zero]);have h2 := bad_of_runes (E rs) (E rs).length 0 rs (by omega) h1;rw [h2]
 decide
theorem nameR_runes {nm : Tx} (h : nameR nm = true) : ∃ rs : List Nat, nm = E rs /\ rs ≠ [] /\ (∀ r ∈ rs, Utf.Char (r : Nat) = true) /\ (∀ r ∈ rs, GoesOn (r : Nat) = true) /\ ∀ q, rs.head? = some q -> Begins (q : Nat) = true := by
 unfold nameR at h
 cases hs : runesW nm 0 with
 | none => rw [hs] at h; cases h
 | some rs =>
  rw [hs] at h;obtain ⟨hE, _⟩ := runesW_sound nm nm.length 0 rs (by omega) (by omega) hs;rw [List.drop_zero] at hE
  cases rs with
  | nil => cases h
  | cons r rs =>
   simp only [Bool.and_eq_true, List.all_eq_true] at h;obtain ⟨h1, h2, h3⟩ := h
   have hg : ∀ x ∈ r :: rs, GoesOn (x : Nat) = true := fun x hx => by
    rcases List.mem_cons.1 hx with rfl | hx
    ·exact h2
    ·exact h3 x hx
   refine ⟨r :: rs, hE, by simp, fun x hx => char_of_goesOn (hg x hx), hg, fun q hq => ?_⟩;simp at hq;rw [<- hq];exact h1
end Go.Proofs.YtokdnhdfmgfkeaaGreatDoor.Xo
end

section
namespace Go.Proofs
open Go.Shelf Go.RowKit
shelf_lay Lays.n144 Nm 144 at Tryz as Tryz.lays144
shelf_lay Lays.n100 Nm 100 at Tryz as Tryz.lays100
end Go.Proofs
namespace Go.Proofs.YtokdnhdfmgfkeaaGreatDoor.Xp
open Go.RowKit Go.Shelf UtfW Xl Xo
theorem contains_any (w : World) (hU : Ut w) (s p : Tx) (hs : s.length <= 4000000000) :
  Calls Tryz.prog 48 #[.string (strOf s), .string (strOf p)] w fun e w' => e = .returned (.bool (find p s).isSome) /\ w' = w := by
 obtain ⟨m, hm⟩ := hU.max;refine (Any.strings_Contains Tryz.lays144 (strOf s) (strOf p) m w (by rw [strOf_size']; omega) hm).mono ?_;rintro e w' ⟨rfl, rfl⟩;refine ⟨?_, rfl⟩;have e1 : (strOf s).data.toList = s := by simp [strOf]
 have e2 : (strOf p).data.toList = p := by simp [strOf]
 rw [e1, e2];unfold Lib.contains;rw [index_find]
 cases find p s with
 | none => rfl
 | some n => simp [idxV]
theorem suffix_any (w : World) (s p : Tx) (hs : s.length <= 4000000000) :
  Calls Tryz.prog 49 #[.string (strOf s), .string (strOf p)] w fun e w' => e = .returned (.bool (p.isSuffixOf s)) /\ w' = w := by
 refine (Any.strings_HasSuffix Tryz.lays100 (strOf s) (strOf p) w (by rw [strOf_size']; omega)).mono ?_;rintro e w' ⟨rfl, rfl⟩;have e1 : (strOf s).data.toList = s := by simp [strOf]
 have e2 : (strOf p).data.toList = p := by simp [strOf]
 rw [e1, e2];exact ⟨rfl, rfl⟩
theorem suffix_last (s : Tx) (c : UInt8) : [c].isSuffixOf s = decide (s.getLast? = some c) := by
 rw [Bool.eq_iff_iff, List.isSuffixOf_iff_suffix, decide_eq_true_eq];constructor
 ·rintro ⟨t, rfl⟩;simp
 ·intro h;obtain ⟨l, rfl⟩ := List.getLast?_eq_some_iff.1 h;exact ⟨l, rfl⟩
theorem lower_xml (l : Tx) : Lib.toLowerD l = xml3 ↔ l.map low = xml3 := by
 constructor
 ·intro h;have ha := lower_ascii l _ h (by decide);rw [Lib.toLowerD_ascii l ha] at h;rw [<- h];unfold Lib.toLowerA;exact List.map_congr_left fun b _ => (low_lower b).symm
 ·intro h
  have ha : ∀ b ∈ l, b.toNat < 128 := fun b hb => by
   have hm : low b ∈ xml3 := by rw [<- h]; exact List.mem_map_of_mem hb
   have h2 : ∀ x ∈ xml3, x.toNat < 128 := by decide
   have := h2 _ hm;unfold low at this
   split at this
   ·omega
   ·exact this
  rw [Lib.toLowerD_ascii l ha, <- h];unfold Lib.toLowerA;exact List.map_congr_left fun b _ => low_lower b
structure Uv (w : World) : Prop where
 ut : Ut w
 case_ : Lib.CaseVar 4 Lib.caseA w
theorem Uv.below {w w' : World} (h : Uv w) (hb : Below w.heap.size w w') : Uv w' :=
 ⟨h.ut.below hb, Lib.CaseVar_below h.case_ hb⟩
theorem uv_of {w : World} (h : Un w) : Uv w := ⟨h.ut, h.case_⟩
theorem lowX_any (w : World) (hU : Uv w) (s : Tx) (hs : s.length <= 1000000) :
  Calls Tryz.prog 51 #[.string (strOf s)] w fun e w' => ∃ t, e = .returned (.string (strOf t)) /\ decide (t = xml3) = decide (s.map low = xml3) /\ Below w.heap.size w w' := by
 have hls : (strOf s).data.toList = s := by simp [strOf]
 refine (Any.strings_ToLower_any Tryz.lays159 Tryz.extra159 (strOf s) w (by rw [strOf_size' s]; omega) hU.case_ hU.ut.tabs).mono ?_;rintro e w' ⟨rfl, hb⟩;rw [hls];exact ⟨_, rfl, decide_eq_decide.2 (lower_xml s), hb⟩
theorem bs_convert (w : World) (s : ByteArray) (hs : s.size <= 281474976710656) :
  Bs (Lib.bytesWorld w 5 s) (some ⟨w.heap.size, 0, none⟩) s.size (grownCap w s.size 0 5) s.data.toList /\ Below w.heap.size w (Lib.bytesWorld w 5 s) := by
 have hl : s.data.toList.length = s.size := by rw [Array.length_toList]; rfl
 refine ⟨{ len := by rw [bv_length, hl], le := grownCap_ge _ _ _ _, max := ?_, nil := (fun h => by cases h), cell := fun h0 => ⟨w.heap.size, 0, rfl, by rw [Lib.bytesWorld_size]; omega, ?_⟩ }, ?_⟩
 ·have := grownCap_le_maxLen w s.size 0 5 (by unfold maxLen; omega);unfold maxLen at this;omega
 ·intro j u hu;obtain ⟨x, hx, rfl⟩ := bv_get hu;have hj : j < s.size := by rw [<- hl]; exact (List.getElem?_eq_some_iff.1 hx).1
  rw [Nat.zero_add, Lib.bytesWorld_cell w 5 s j hj, List.getD_eq_getElem?_getD, hx];rfl
 ·exact ⟨rfl, rfl, rfl, by rw [Lib.bytesWorld_size]; omega, fun k hk => Lib.bytesWorld_at_old w 5 s k hk⟩
set_option maxHeartbeats 1000000 in
set_option maxRecDepth 100000 in
theorem good_any (w : World) (hU : Ut w) (s : Tx) (hs : s.length <= 4000000000) :
  Calls Tryz.prog 46 #[.string (strOf s)] w fun e w' => e = .returned (.bool (good s)) /\ Below w.heap.size w w' := by
 have e1 : (strOf s).data.toList = s := by simp [strOf]
 have hsz : (strOf s).size = s.length := strOf_size' s;obtain ⟨hbs, hbl⟩ := bs_convert w (strOf s) (by omega);rw [e1] at hbs;have hcv := Lib.run_convert_string_bytes (P := Tryz.prog) w 9 41 5 (strOf s) Tryz.underlying9 Tryz.underlying41 Tryz.underlying5;have hbc := Hd (utfBad_any _ _ _ s (by omega) (Lib.bytesWorld w 5 (strOf s)) hbs (hU.below hbl));have hbl' := Hd hbl;obtain ⟨R, hR⟩ : ∃ R, badW s 0 = R := ⟨_, rfl⟩;rw [hR] at hbc;have hg : Hid (good s = decide (R < 0)) := Hd (by unfold good; rw [hR]);clear hbs hbl hR
 go_enter Tryz.func46, Tryz.ntmps46
 go_wp2_with fail;refine hbc.out.mono ?_;rintro e w1 ⟨rfl, hb1⟩;have hfin := Hd (hbl'.out.trans (hb1.mono hbl'.out.size));clear hb1 hbc hcv;go_wp2_with fail;go_ret;exact ⟨by rw [hg.out]; rfl, hfin.out⟩
set_option maxHeartbeats 1000000 in
set_option maxRecDepth 100000 in
theorem plain_any (w : World) (hU : Ut w) (s : Tx) (hs : s.length <= 4000000000) :
  Calls Tryz.prog 47 #[.string (strOf s)] w fun e w' => e = .returned (.bool (plainT s)) /\ Below w.heap.size w w' := by
 have hgc := Hd (good_any w hU s hs);obtain ⟨G, hG⟩ : ∃ G, good s = G := ⟨_, rfl⟩;rw [hG] at hgc;have hp : Hid (plainT s = (G && decide (13 ∉ s))) := Hd (by unfold plainT; rw [hG])
 have hf : Hid (decide ((idxV (find [13] s) : Int) < 0) = decide (13 ∉ s)) := Hd (by
  rw [<- byte_find, decide_eq_decide]
  have key : ∀ l : Tx, Lib.indexByte l 13 < 0 ↔ 13 ∉ l := by
   intro l
   induction l with
   | nil => simp [Lib.indexByte]
   | cons a l ih =>
    rw [Lib.indexByte]
    by_cases ha : a = 13
    ·subst ha;simp
    ·have h1 : (a == 13) = false := (by simpa using ha);rw [h1];simp only [Bool.false_eq_true, if_false, List.mem_cons, not_or];rw [<- ih];constructor
     ·intro h;refine ⟨fun e => ha e.symm, ?_⟩
      split at h
      ·rename_i h2
       have : Lib.indexByte l 13 = -1 := (by simpa using h2);omega
      ·omega
     ·rintro ⟨_, h⟩
      split
      ·omega
      ·rename_i h2
       have h3 := Lib.indexByte_ge l 13;have h4 : Lib.indexByte l 13 ≠ -1 := (by simpa using h2);omega
  exact key s)
 clear hG
 cases G with
 | false =>
  go_enter Tryz.func47, Tryz.ntmps47
  go_wp2_with fail;refine hgc.out.mono ?_;rintro e w1 ⟨rfl, hb1⟩;have hfin := Hd hb1;clear hb1 hgc;go_wp2_with fail;go_ret;exact ⟨by rw [hp.out]; rfl, hfin.out⟩
 | true =>
  obtain ⟨I, hI⟩ : ∃ I, idxV (find [13] s) = I := ⟨_, rfl⟩;rw [hI] at hf;have hbc := Hd (fun w1 => byteS_any s 13 w1);rw [hI] at hbc;clear hI
  go_enter Tryz.func47, Tryz.ntmps47
  go_wp2_with fail;refine hgc.out.mono ?_;rintro e w1 ⟨rfl, hb1⟩;have hfin := Hd hb1;clear hb1 hgc;go_wp2_with fail;refine (hbc.out w1).mono ?_;rintro e w2 ⟨rfl, rfl⟩;go_wp2_with fail;go_ret;exact ⟨by rw [hp.out, <- hf.out]; rfl, hfin.out⟩
end Go.Proofs.YtokdnhdfmgfkeaaGreatDoor.Xp
end
