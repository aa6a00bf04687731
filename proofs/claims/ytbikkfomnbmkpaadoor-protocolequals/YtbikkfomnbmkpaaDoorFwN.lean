import Derived.Test.YtbikkfomnbmkpaaDoorFwM
namespace Fw
open Go Go.RowKit

theorem cmpL_beq (a b : List Int) : (cmpL a b == 0) = decide (a = b) := by
  by_cases h : a = b
  · simp [h, cmpL_zero.2 rfl]
  · have : ¬ cmpL a b = 0 := fun hh => h (cmpL_zero.1 hh)
    simp [h, this]
/-! ### 18. What the functions compute, on data. 's_NAME' the results, 'p_NAME' what is asked. -/
abbrev I (n : Int) : D := .int .i64 n
@[simp] abbrev nth (ds : List D) (i : Nat) : D := ds.getD i default
@[simp] abbrev nthI (ds : List D) (i : Nat) : Int := (ds.getD i default).toI
def s_protocol_factor (ds : List D) : List D := [.bool (decide (-100 ≤ nthI ds 0 ∧ nthI ds 0 ≤ 100))]
def p_protocol_factor (_ : List D) : Prop := True
def s_ref02_within (ds : List D) : List D := [.bool (decide (nthI ds 1 ≤ nthI ds 0 ∧ nthI ds 0 ≤ nthI ds 2))]
def p_ref02_within (_ : List D) : Prop := True
def small (n : Int) : Prop := -100 ≤ n ∧ n ≤ 100
instance (n : Int) : Decidable (small n) := by unfold small; infer_instance
def fewI (a b c d : Int) : Bool := decide (small a) && (decide (small b) && (decide (small c) && decide (small d)))
def few4 (ds : List D) : Bool := fewI (nthI ds 0) (nthI ds 1) (nthI ds 2) (nthI ds 3)
def s_protocol_bounded (ds : List D) : List D := [.bool (few4 ds)]
def p_protocol_bounded (_ : List D) : Prop := True
def s_ref02_few (ds : List D) : List D := [.bool (few4 ds)]
def p_ref02_few (_ : List D) : Prop := True
def val7 (ds : List D) : Int := arD .add .i64 (arD .add .i64 (arD .add .i64 (nthI ds 0) (arD .mul .i64 (nthI ds 1) (nthI ds 4))) (arD .mul .i64 (nthI ds 2) (nthI ds 5))) (arD .mul .i64 (nthI ds 3) (nthI ds 6))
def s_ref02_value (ds : List D) : List D := [I (val7 ds)]
def p_ref02_value (_ : List D) : Prop := True
def para (n : Int) : Bool := decide (0 ≤ n ∧ n ≤ 1048576)
def eval7 (ds : List D) : List D := if few4 ds then (if para (nthI ds 4) && (para (nthI ds 5) && para (nthI ds 6)) then [I (val7 ds), I 0] else [I 0, I 8]) else [I 0, I 4]
def s_ref02_Evaluate := eval7
def p_ref02_Evaluate (_ : List D) : Prop := True
def s_protocol_Evaluate := eval7
def p_protocol_Evaluate (_ : List D) : Prop := True
def s_cmp_isNaN_int (_ : List D) : List D := [.bool false]
def p_cmp_isNaN_int (_ : List D) : Prop := True
def cmpI (x y : Int) : Int := if x < y then -1 else if y < x then 1 else 0
def s_cmp_Compare_int (ds : List D) : List D := [I (cmpI (nthI ds 0) (nthI ds 1))]
def p_cmp_Compare_int (_ : List D) : Prop := True
def orL : List Int → Int
  | [] => 0
  | x :: l => if x = 0 then orL l else x
def s_cmp_Or_int (ds : List D) : List D := [I (orL (ints (nth ds 0)))]
def p_cmp_Or_int (_ : List D) : Prop := True
def cmp3 (ds : List D) : Int := cmpL [nthI ds 0, nthI ds 2, nthI ds 1] [nthI ds 3, nthI ds 5, nthI ds 4]
def s_protocol_Compare (ds : List D) : List D := [I (cmp3 ds)]
def p_protocol_Compare (_ : List D) : Prop := True
def s_ref02_Compare (ds : List D) : List D := [I (cmp3 ds)]
def p_ref02_Compare (_ : List D) : Prop := True
def s_ref01_CompareInts (ds : List D) : List D := [I (cmpL (ints (nth ds 0)) (ints (nth ds 1)))]
def p_ref01_CompareInts (_ : List D) : Prop := True
def s_ref01_SameInts (ds : List D) : List D := [.bool (decide (ints (nth ds 0) = ints (nth ds 1)))]
def p_ref01_SameInts (_ : List D) : Prop := True
def s_ref01_CopyInts (ds : List D) : List D := [nth ds 0]
def p_ref01_CopyInts (ds : List D) : Prop := (nth ds 0).toL.length ≤ 1000000
end Fw
