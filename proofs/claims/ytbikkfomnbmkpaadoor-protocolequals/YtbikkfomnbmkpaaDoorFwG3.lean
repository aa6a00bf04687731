import Derived.Test.YtbikkfomnbmkpaaDoorFwG2
import Derived.Laws.Tables
namespace Fw
open Go Go.RowKit

theorem buildCells_sound {c : Cx} {places : List (Nat × Nat)} : ∀ (ps : List (Nat × SV)) (vs : List Value) (cells : List SV) (arr : Array Value) {out : List SV}, buildCells places cells ps = some out →
    SVRs c cells arr.toList → SVRs c (ps.map (·.2)) vs → ∃ arr', Instr.fill (fun x => places[x]?) arr ((ps.map (·.1)).zip vs) = some arr' ∧ SVRs c out arr'.toList
  | [], vs, cells, arr, out, h, hc, hv => by
    simp only [buildCells, Option.some.injEq] at h; subst h
    exact ⟨arr, rfl, hc⟩
  | (i, s) :: r, vs, cells, arr, out, h, hc, hv => by
    simp only [buildCells] at h
    split at h
    · rename_i off size hp
      split at h
      · rename_i hcond
        simp only [Bool.and_eq_true, beq_iff_eq, decide_eq_true_eq] at hcond
        obtain ⟨h1, h2, h3⟩ := hcond
        simp only [List.map_cons, SVRs] at hv
        obtain ⟨v, vs', rfl, hv1, hv2⟩ := hv
        have hparts := parts_sound hv1 h1
        have hvs : v.cells.size = size := by have := hparts.length; rw [Array.length_toList] at this; omega
        have hal : arr.size = cells.length := by have := hc.length; rw [Array.length_toList] at this; exact this
        obtain ⟨arr1, e1, l1⟩ := fill_cons (place := fun x => places[x]?) (cells := arr) (i := i) (v := v) (r := (r.map (·.1)).zip vs') hp hvs (by omega)
        have hc1 : SVRs c (cells.take off ++ s.parts ++ cells.drop (off + size)) arr1.toList := by
          rw [l1]
          exact ((hc.take off).append hparts).append (hc.drop _)
        obtain ⟨arr2, e2, l2⟩ := buildCells_sound r vs' _ arr1 h hc1 hv2
        exact ⟨arr2, by simp only [List.map_cons, List.zip_cons_cons]; rw [e1, e2], l2⟩
      · cases h
    · cases h

theorem capK_le {n bytes : Nat} (h : n ≤ capK bytes) : bytes * n ≤ 70368744177664 ∧ n ≤ 70368744177664 := by
  have hb1 : (bytes + 1) * capK bytes ≤ 70368744177664 := Nat.mul_div_le _ _
  have hb2 : (bytes + 1) * n ≤ 70368744177664 := Nat.le_trans (Nat.mul_le_mul_left _ h) hb1
  exact ⟨Nat.le_trans (Nat.mul_le_mul_right _ (Nat.le_succ _)) hb2, Nat.le_trans (Nat.le_mul_of_pos_left _ (Nat.succ_pos _)) hb2⟩
theorem wrap_i64 {x : Int} (h1 : -9223372036854775808 ≤ x) (h2 : x ≤ 9223372036854775807) : IntKind.i64.wrap x = x := by
  simp only [IntKind.wrap, IntKind.signed, IntKind.bits, show (2 : Int) ^ 64 = 18446744073709551616 from rfl, show (2 : Int) ^ (64 - 1) = 9223372036854775808 from rfl, Bool.true_and, decide_eq_true_eq]
  split <;> omega

section
variable {P : Program} {c : Cx} {n : Nat} {σ : Sig} {a : Act} (h : Rel c n σ a) (dst : Option Tmp) (ty : TypeId) (pos : String) (after : Array Edge) (guard : Option (Nat × Bool)) (sigs : Sigs)
include h

theorem good_build (t : TypeId) (ps : Array (Nat × Operand)) : Good P c n σ a ⟨dst, .build t ps, ty, pos, after, guard⟩ (sxOp P sigs σ ⟨dst, .build t ps, ty, pos, after, guard⟩) := by
  simp only [sxOp]
  split
  · rename_i it fs ts hi hu hts
    split
    · rename_i z places hz hp
      split
      · rename_i ha
        split
        · rename_i cells hcells
          have hops := opvs_sound h (ps.toList.map (·.2))
          obtain ⟨arr, hf, hsv⟩ := buildCells_sound _ ((ps.toList.map (·.2)).map a.eval) _ z.cells hcells (zeroSVs_sound (c := c) ha) (by simpa [List.map_map, Function.comp_def] using hops)
          have hparts : (ps.map fun x => (x.1, a.eval x.2)).toList = ((ps.toList.map fun x => (x.1, opv σ.t x.2)).map (·.1)).zip ((ps.toList.map (·.2)).map a.eval) := by
            rw [Array.toList_map]
            generalize ps.toList = l
            induction l with
            | nil => rfl
            | cons x l ih => simp only [List.map_cons, List.zip_cons_cons]; rw [← ih]
          have hb : P.built t (ps.map fun x => (x.1, a.eval x.2)).toList = some arr := by
            rw [hparts]
            unfold Program.built
            simp only [hi, hu, hz, hp]
            simpa using hf
          refine .same h (v := .agg arr) ?_ (by simp only [SVR]; exact ⟨arr, rfl, hsv⟩)
          simp only [execOp, run_build c.w t _ arr hb, Sem.run_bind, Result.andThen_ok, Sem.run_pure]
        · trivial
      · trivial
    · trivial
  · trivial

theorem good_makeSlice (t : TypeId) (x y : Operand) : Good P c n σ a ⟨dst, .makeSlice t x y, ty, pos, after, guard⟩ (sxOp P sigs σ ⟨dst, .makeSlice t x y, ty, pos, after, guard⟩) := by
  simp only [sxOp]
  split
  · rename_i el k e hel hl he
    have hu := elemTy_eq hel
    split
    · rename_i i ts hi hts hty
      split
      · rename_i hcond
        simp only [Bool.and_eq_true, decide_eq_true_eq] at hcond
        obtain ⟨hsz, hz⟩ := hcond
        obtain ⟨z, hz⟩ := Option.isSome_iff_exists.1 hz
        intro hg
        have hx := opv_sound h x
        rw [hl] at hx
        simp only [SVR, E.ty, E.den, VR] at hx
        obtain ⟨_, m, hm, hvx⟩ := hx
        injection hm with _ hm; subst hm
        obtain ⟨_, vy⟩ := ex_sound (opv_sound h y) he
        rw [hty] at vy
        obtain ⟨hvy, _⟩ := vy.int_
        have hg' : 0 ≤ (e.den c.η).toI ∧ (e.den c.η).toI ≤ (capK i.bytes : Int) := by
          simp only [E.den] at hg
          generalize (e.den c.η).toI = q at hg
          simp only [D.toB, D.toI, cmpD, Bool.and_eq_true] at hg
          exact ⟨of_decide_eq_true hg.1, of_decide_eq_true hg.2⟩
        obtain ⟨g1, g2⟩ := hg'
        generalize hcap : (e.den c.η).toI = cap at *
        obtain ⟨hb3, hc46⟩ := capK_le (n := cap.toNat) (bytes := i.bytes) (by omega)
        have hw : IntKind.i64.wrap cap = cap := wrap_i64 (by omega) (by omega)
        obtain ⟨h1, h2, h3⟩ := Rel.newTok h el ((Array.range (cap.toNat * i.size)).map ((if cap.toNat * i.size = 0 then #[] else z.cells)[· % (if cap.toNat * i.size = 0 then #[] else z.cells).size]!)) (cap := cap.toNat) (ts := ts) (by simp [hsz]) (Nat.le_trans hc46 (by decide))
        refine ⟨_, _, ?_, (by rfl), (by rfl), (by rfl), h1, h2, h3⟩
        have t1 : ¬ (cap < 0) := by omega
        have t2 : ¬ ((i.bytes : Int) * cap > 2 ^ 48) := by
          have : (i.bytes : Int) * cap = ((i.bytes * cap.toNat : Nat) : Int) := by rw [Int.natCast_mul, Int.toNat_of_nonneg g1]
          rw [this]; omega
        have t3 : ¬ (cap.toNat * i.bytes > roomBytes) := by
          rw [Nat.mul_comm]; simp only [roomBytes]; omega
        have t4 : IntKind.i64.wrap 0 = 0 := rfl
        have hsize : (Go.sizeOf el).run P c.w = .ok i.size c.w := by simp [Go.sizeOf, run_typeInfo' hi]
        have hzero : (zeroValue el).run P c.w = .ok z c.w := by simp [zeroValue, run_typeInfo' hi, hz]
        simp only [execOp, Instr.makeSlice, hvx, hvy, asInt, asIntOf, Sem.run_bind, Sem.run_pure, Result.andThen_ok, run_underlying hu, run_typeInfo' hi, hw, t4]
        simp [t1, askRoom, t3, hsize, newRow]
        split
        · rename_i hbad
          exfalso
          simp only [show (2 : Int) ^ 48 = 281474976710656 from rfl] at t2
          omega
        · simp [hzero, hsz]
          by_cases h0 : cap.toNat * ts.length = 0 <;> simp [h0]
          all_goals rcases Nat.mul_eq_zero.1 h0 with h' | h' <;> simp [h']
      · trivial
    · trivial
  · trivial
end
end Fw
