import Derived.Test.YtbikkfomnbmkpaaDoorFwV2
import Derived.Lib.ItoaLen
import Derived.Laws.RangeAny
namespace Fw
open Go Go.RowKit

/-! ### 20. Builders, texts, names: what the functions compute -/
def s_strings_Builder__WriteByte (ds : List D) : List D := [.bool true, .slc ((nth ds 1).toL ++ [[nth ds 2]])]
def p_strings_Builder__WriteByte (ds : List D) : Prop := (nth ds 1).toL.length ≤ 35184372088832
def s_strings_Builder__WriteString (ds : List D) : List D := [I (nth ds 2).toS.size, .bool true, .slc ((nth ds 1).toL ++ bytesD (nth ds 2).toS.data.toList)]
def p_strings_Builder__WriteString (ds : List D) : Prop := (nth ds 1).toL.length ≤ 35184372088832 ∧ (nth ds 2).toS.size ≤ 35184372088832
def s_strings_Builder__Len (ds : List D) : List D := [I (nth ds 1).toL.length, nth ds 0, nth ds 1]
def p_strings_Builder__Len (_ : List D) : Prop := True
/-- One term of an expression's text. -/
def fmtSign (acc : List UInt8) (x : Int) : List UInt8 := if x < 0 then acc ++ [45] else if acc = [] then acc else acc ++ [43]
def fmtBody (x : Int) (nm : List UInt8) : List UInt8 := if nm = [] then Lib.itoa x.natAbs else if x.natAbs = 1 then nm else Lib.itoa x.natAbs ++ [42] ++ nm
def fmtTerm (acc : List UInt8) (x : Int) (nm : List UInt8) : List UInt8 := if x = 0 then acc else fmtSign acc x ++ fmtBody x nm
def fmtLin (c n t f : Int) : List UInt8 :=
  let r := fmtTerm (fmtTerm (fmtTerm (fmtTerm [] n [110]) t [116]) f [102]) c []
  if r = [] then [48] else r
def s_protocol_FormatLinear (ds : List D) : List D := [.str (if few4 ds then ⟨(fmtLin (nthI ds 0) (nthI ds 1) (nthI ds 2) (nthI ds 3)).toArray⟩ else ByteArray.empty)]
def p_protocol_FormatLinear (_ : List D) : Prop := True
theorem fmtBody_len (x : Int) (nm : List UInt8) (hx : small x) : (fmtBody x nm).length ≤ 22 + nm.length := by
  have h := Lib.itoa_length_le x.natAbs (by omega) (by unfold small at hx; omega)
  unfold fmtBody
  split
  · omega
  · split
    · omega
    · simp only [List.length_append, List.length_singleton]; omega
theorem fmtTerm_len (acc : List UInt8) (x : Int) (nm : List UInt8) (hx : small x) : (fmtTerm acc x nm).length ≤ acc.length + 23 + nm.length := by
  have h := fmtBody_len x nm hx
  unfold fmtTerm fmtSign
  split
  · omega
  · rw [List.length_append]
    split
    · simp only [List.length_append, List.length_singleton]; omega
    · split
      · omega
      · simp only [List.length_append, List.length_singleton]; omega
/-- The words that are no names. -/
def reservedS : List UInt8 := [112, 114, 111, 116, 111, 99, 111, 108, 32, 116, 111, 112, 111, 108, 111, 103, 121, 32, 115, 116, 97, 116, 101, 115, 32, 109, 101, 115, 115, 97, 103, 101, 115, 32, 118, 97, 108, 117, 101, 115, 32, 102, 97, 117, 108, 116, 115, 32, 114, 101, 115, 105, 108, 105, 101, 110, 99, 101, 32, 105, 110, 105, 116, 105, 97, 108, 32, 108, 101, 97, 100, 101, 114, 32, 114, 117, 108, 101, 32, 108, 111, 99, 97, 108, 32, 112, 97, 105, 114, 32, 98, 114, 111, 97, 100, 99, 97, 115, 116, 32, 110, 101, 105, 103, 104, 98, 111, 114, 32, 112, 97, 115, 115, 32, 119, 104, 101, 110, 32, 101, 120, 105, 115, 116, 115, 32, 102, 111, 114, 97, 108, 108, 32, 114, 101, 97, 100, 32, 119, 114, 105, 116, 101, 32, 115, 101, 110, 100, 32, 97, 108, 108, 32, 97, 116, 32, 102, 105, 114, 115, 116, 32, 108, 97, 115, 116, 32, 108, 101, 102, 116, 32, 114, 105, 103, 104, 116, 32, 112, 97, 114, 101, 110, 116, 32, 99, 104, 105, 108, 100, 32, 112, 114, 111, 112, 101, 114, 116, 121, 32, 110, 101, 118, 101, 114, 32, 101, 118, 101, 110, 116, 117, 97, 108, 108, 121, 32, 115, 116, 97, 114, 116, 32, 99, 111, 117, 110, 116, 32, 97, 100, 106, 97, 99, 101, 110, 116, 32, 103, 111, 97, 108, 32, 99, 108, 105, 113, 117, 101, 32, 108, 105, 110, 101, 32, 114, 105, 110, 103, 32, 116, 114, 101, 101, 32, 99, 114, 97, 115, 104, 32, 111, 109, 105, 115, 115, 105, 111, 110, 32, 97, 114, 98, 105, 116, 114, 97, 114, 121]
def reservedL : List (List UInt8) := Lib.fields reservedS
def txt (d : D) : List UInt8 := d.toS.data.toList
theorem scmpD_eql (x y : ByteArray) : scmpD .eql x y = decide (x.data.toList = y.data.toList) := by
  simp only [scmpD, ByteArray.toList_eq]
  generalize x.data.toList = a
  generalize y.data.toList = b
  by_cases h : a = b <;> simp [h]
def strs (d : D) : List (List UInt8) := d.toL.map fun r => txt (r.getD 0 default)
def idxS (l : List (List UInt8)) (x : List UInt8) : Int := match l.findIdx? (· == x) with | some i => i | none => -1
def s_slices_Index_string (ds : List D) : List D := [I (idxS (strs (nth ds 0)) (txt (nth ds 1)))]
def p_slices_Index_string (_ : List D) : Prop := True
def s_slices_Contains_string (ds : List D) : List D := [.bool ((strs (nth ds 0)).contains (txt (nth ds 1)))]
def p_slices_Contains_string (_ : List D) : Prop := True
def s_protocol_isReserved (ds : List D) : List D := [.bool (reservedL.contains (txt (nth ds 0)))]
def p_protocol_isReserved (_ : List D) : Prop := True
def lower (b : UInt8) : Bool := decide (97 ≤ b ∧ b ≤ 122)
def inName (b : UInt8) : Bool := lower b || (decide (48 ≤ b ∧ b ≤ 57) || b == 95)
/-- Which names are valid. -/
def validL (l : List UInt8) : Bool := decide (1 ≤ l.length ∧ l.length ≤ 12) && (match l with | [] => false | b :: _ => lower b) && l.all inName && !reservedL.contains l
def s_protocol_ValidName (ds : List D) : List D := [.bool (validL (txt (nth ds 0)))]
def p_protocol_ValidName (_ : List D) : Prop := True
def s_law02_known (_ : List D) : List D := [.bool true]
def p_law02_known (_ : List D) : Prop := True
def s_law02_ProtocolEvaluates (_ : List D) : List D := [.bool true]
def p_law02_ProtocolEvaluates (_ : List D) : Prop := True
def s_law02_ProtocolOrders (_ : List D) : List D := [.bool true]
def p_law02_ProtocolOrders (_ : List D) : Prop := True

/-! ### Equality of data -/
noncomputable def same {α : Type} (x y : α) : Bool := @decide (x = y) (Classical.propDecidable _)
theorem same_iff {α : Type} {x y : α} : same x y = true ↔ x = y := by unfold same; simp
theorem same_self {α : Type} (x : α) : same x x = true := same_iff.2 rfl
theorem same_ne {α : Type} {x y : α} (h : x ≠ y) : same x y = false := by
  cases hh : same x y
  · rfl
  · exact absurd (same_iff.1 hh) h
theorem same_eq {α : Type} {x y : α} (h : x = y) : same x y = true := same_iff.2 h
theorem same_not {α : Type} {x y : α} : same x y = false ↔ x ≠ y := by
  constructor
  · intro h e; rw [same_eq e] at h; cases h
  · exact same_ne
theorem same_comm {α : Type} (x y : α) : same x y = same y x := by
  by_cases h : x = y
  · rw [h]
  · rw [same_ne h, same_ne (Ne.symm h)]
theorem take_step {α : Type} {es fs : List α} {i : Nat} (h1 : i < es.length) (h2 : i < fs.length) (ht : es.take i = fs.take i) (he : es[i] = fs[i]) : es.take (i + 1) = fs.take (i + 1) := by
  rw [List.take_succ_eq_append_getElem h1, List.take_succ_eq_append_getElem h2, ht, he]
theorem take_all {α : Type} {es fs : List α} {i : Nat} (h : es.length = fs.length) (hi : es.length ≤ i) (ht : es.take i = fs.take i) : es = fs := by
  rwa [List.take_of_length_le hi, List.take_of_length_le (by omega)] at ht
theorem ints_same {es fs : List (List D)} (he : ∀ c ∈ es, D.wts [.int .i64] c) (hf : ∀ c ∈ fs, D.wts [.int .i64] c) : ints (.slc es) = ints (.slc fs) ↔ D.slc es = D.slc fs := by
  constructor
  · intro h
    congr 1
    unfold ints at h
    simp only [D.toL_slc] at h
    have hl : es.length = fs.length := by simpa using congrArg List.length h
    apply List.ext_getElem hl
    intro i h1 h2
    obtain ⟨a, _, ha, ⟨x, rfl⟩, rfl⟩ := he es[i] (List.getElem_mem h1)
    obtain ⟨b, _, hb, ⟨y, rfl⟩, rfl⟩ := hf fs[i] (List.getElem_mem h2)
    have := congrArg (·[i]?) h
    simp [h1, h2, ha, hb] at this
    rw [ha, hb, this]
  · intro h; rw [h]
noncomputable def s_slices_Equal_int (ds : List D) : List D := [.bool (same (nth ds 0) (nth ds 1))]
def p_slices_Equal_int (_ : List D) : Prop := True
noncomputable def s_protocol_equalCount (ds : List D) : List D := [.bool (same (ds.take 2) (ds.drop 2))]
def p_protocol_equalCount (_ : List D) : Prop := True
noncomputable def s_slices_EqualFunc_Count (ds : List D) : List D := [.bool (same (nth ds 0) (nth ds 1))]
def p_slices_EqualFunc_Count (_ : List D) : Prop := True
noncomputable def s_protocol_EqualProperty (ds : List D) : List D := [.bool (same (ds.take 6) (ds.drop 6))]
def p_protocol_EqualProperty (_ : List D) : Prop := True
noncomputable def s_ref02_EqualProperty (ds : List D) : List D := [.bool (same (ds.take 6) (ds.drop 6))]
def p_ref02_EqualProperty (_ : List D) : Prop := True
def smallL (n : Nat) (d : D) : Prop := d.toL.length ≤ n
/-- A property within the law's bounds. -/
def littleProperty (ds : List D) : Prop := (nth ds 0).toS.size ≤ 500 ∧ smallL 60 (nth ds 2) ∧ smallL 60 (nth ds 3) ∧ smallL 60 (nth ds 4) ∧ smallL 60 (nth ds 5) ∧ ∀ r ∈ (nth ds 3).toL, smallL 60 (nth r 0)
noncomputable def s_law02_BigProperty (ds : List D) : List D := [.bool (@decide (¬ littleProperty ds) (Classical.propDecidable _))]
def p_law02_BigProperty (_ : List D) : Prop := True
def s_ref02_CopyProperty (ds : List D) : List D := ds
def p_ref02_CopyProperty (ds : List D) : Prop := littleProperty ds
def s_law02_ProtocolEqualsProperty (_ : List D) : List D := [.bool true]
def p_law02_ProtocolEqualsProperty (_ : List D) : Prop := True
theorem same_cons {α : Type} (a b : α) (l m : List α) : same (a :: l) (b :: m) = (same a b && same l m) := by
  rw [Bool.eq_iff_iff, Bool.and_eq_true, same_iff, same_iff, same_iff, List.cons.injEq]
theorem same_nil {α : Type} : same ([] : List α) [] = true := same_self _
theorem same_str (x y : ByteArray) : same (D.str x) (D.str y) = decide (x.data.toList = y.data.toList) := by
  rw [Bool.eq_iff_iff, same_iff, decide_eq_true_eq, D.str.injEq]
  constructor
  · intro h; rw [h]
  · intro h; apply ByteArray.ext; apply Array.toList_inj.1; exact h
theorem same_int (k : IntKind) (x y : Int) : same (D.int k x) (D.int k y) = decide (x = y) := by
  rw [Bool.eq_iff_iff, same_iff, decide_eq_true_eq, D.int.injEq]; simp
theorem same_slc (x y : List (List D)) : same (D.slc x) (D.slc y) = same x y := by
  rw [Bool.eq_iff_iff, same_iff, same_iff, D.slc.injEq]
theorem same_ints {a b : D} (ha : D.wt (.slc [.int .i64]) a) (hb : D.wt (.slc [.int .i64]) b) : decide (ints a = ints b) = same a b := by
  obtain ⟨es, rfl, _, hes⟩ := ha
  obtain ⟨fs, rfl, _, hfs⟩ := hb
  rw [Bool.eq_iff_iff, decide_eq_true_eq, same_iff]
  exact ints_same hes hfs
noncomputable def s_slices_Equal_string (ds : List D) : List D := [.bool (same (nth ds 0) (nth ds 1))]
def p_slices_Equal_string (_ : List D) : Prop := True
noncomputable def s_slices_Equal_Linear (ds : List D) : List D := [.bool (same (nth ds 0) (nth ds 1))]
def p_slices_Equal_Linear (_ : List D) : Prop := True
noncomputable def s_slices_Equal_Threshold (ds : List D) : List D := [.bool (same (nth ds 0) (nth ds 1))]
def p_slices_Equal_Threshold (_ : List D) : Prop := True
noncomputable def s_ref02_sameTexts (ds : List D) : List D := [.bool (same (nth ds 0) (nth ds 1))]
def p_ref02_sameTexts (_ : List D) : Prop := True
noncomputable def s_ref02_sameLinears (ds : List D) : List D := [.bool (same (nth ds 0) (nth ds 1))]
def p_ref02_sameLinears (_ : List D) : Prop := True
noncomputable def s_slices_EqualFunc_Rule (ds : List D) : List D := [.bool (same (nth ds 0) (nth ds 1))]
def p_slices_EqualFunc_Rule (_ : List D) : Prop := True
noncomputable def s_ref02_SameThreshold (ds : List D) : List D := [.bool (same (ds.take 6) (ds.drop 6))]
def p_ref02_SameThreshold (_ : List D) : Prop := True
noncomputable def s_protocol_sameRule (ds : List D) : List D := [.bool (same ((ds.take 18).drop 1) (ds.drop 19))]
def p_protocol_sameRule (_ : List D) : Prop := True
noncomputable def s_ref02_SameButName (ds : List D) : List D := [.bool (same ((ds.take 18).drop 1) (ds.drop 19))]
def p_ref02_SameButName (_ : List D) : Prop := True
noncomputable def s_protocol_equalRule (ds : List D) : List D := [.bool (same (ds.take 18) (ds.drop 18))]
def p_protocol_equalRule (_ : List D) : Prop := True
noncomputable def s_protocol_Equal (ds : List D) : List D := [.bool (same (ds.take 10) (ds.drop 10))]
def p_protocol_Equal (_ : List D) : Prop := True
noncomputable def s_ref02_Equal (ds : List D) : List D := [.bool (same (ds.take 10) (ds.drop 10))]
def p_ref02_Equal (_ : List D) : Prop := True
def bigNames (d : D) : Bool := d.toL.any fun r => decide (500 < (nth r 0).toS.size)
def s_law02_bigNames (ds : List D) : List D := [.bool (bigNames (nth ds 0))]
def p_law02_bigNames (_ : List D) : Prop := True
def over (n : Nat) (d : D) : Bool := decide (n < d.toL.length)
def bigRule (ds : List D) : Bool := decide (500 < (nth ds 0).toS.size) || (over 60 (nth ds 6) || (over 60 (nth ds 7) || (over 60 (nth ds 8) || (over 60 (nth ds 9) || (over 60 (nth ds 12) || (over 60 (nth ds 14) || (over 60 (nth ds 15) || over 60 (nth ds 16))))))))
def s_law02_bigRule (ds : List D) : List D := [.bool (bigRule ds)]
def p_law02_bigRule (_ : List D) : Prop := True
/-- A family outside the laws' bounds. -/
def bigP (ds : List D) : Bool := decide (500 < (nth ds 0).toS.size) || (over 60 (nth ds 2) || (over 60 (nth ds 3) || (over 60 (nth ds 4) || (over 60 (nth ds 6) || (over 60 (nth ds 7) || (over 60 (nth ds 8) || (over 30 (nth ds 9) || ((nth ds 9).toL.any bigRule || (bigNames (nth ds 2) || (bigNames (nth ds 3) || bigNames (nth ds 4)))))))))))
def s_law02_Big (ds : List D) : List D := [.bool (bigP ds)]
def p_law02_Big (_ : List D) : Prop := True
def s_ref02_CopyRule (ds : List D) : List D := ds
def p_ref02_CopyRule (ds : List D) : Prop := bigRule ds = false
def s_ref02_Copy (ds : List D) : List D := ds
def p_ref02_Copy (ds : List D) : Prop := bigP ds = false
def s_law02_ProtocolEquals (_ : List D) : List D := [.bool true]
def p_law02_ProtocolEquals (_ : List D) : Prop := True
end Fw
