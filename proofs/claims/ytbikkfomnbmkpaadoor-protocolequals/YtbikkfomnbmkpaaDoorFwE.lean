import Derived.Test.YtbikkfomnbmkpaaDoorFwD
namespace Fw
open Go Go.RowKit

/-! ### 9. The model's words, run -/
section
variable {P : Program} {w : World}
theorem run_underlying' {t : TypeId} {d : TypeDesc} (h : P.underlying t = some d) : (underlying t).run P w = .ok d w := by
  simp [underlying, h]
theorem run_typeInfo' {t : TypeId} {i : TypeInfo} (h : P.info? t = some i) : (typeInfo t).run P w = .ok i w := by
  simp [typeInfo, h]
theorem run_sizeOf' {t : TypeId} (h : (P.info? t).isSome = true) : (Go.sizeOf t).run P w = .ok (P.cellsOf t) w := by
  obtain ⟨i, hi⟩ := Option.isSome_iff_exists.1 h
  simp [Go.sizeOf, run_typeInfo' hi, Program.cellsOf, hi]
theorem run_isAgg' {t : TypeId} (h : (P.underlying t).isSome = true) : (isAgg t).run P w = .ok (isAggB P t) w := by
  obtain ⟨d, hd⟩ := Option.isSome_iff_exists.1 h
  simp only [isAgg, isAggB, hd, Sem.run_bind, run_underlying' hd, Result.andThen_ok]
  cases d <;> rfl

theorem run_loadCells' (a : Addr) : ∀ (us : List Value) (i : Nat) (acc : Array Value), (∀ (j : Nat) u, us[j]? = some u → w.cell? (a.add (i + j)) = some u) →
    (loadCellsFrom a i us.length acc).run P w = .ok (acc ++ us.toArray) w
  | [], i, acc, _ => by simp [loadCellsFrom]
  | u :: us, i, acc, h => by
    have h0 := h 0 u rfl
    simp only [List.length_cons, loadCellsFrom, Sem.run_bind, run_load, Nat.add_zero] at h0 ⊢
    rw [h0]
    simp only [Result.andThen_ok]
    rw [run_loadCells' a us (i + 1) (acc.push u) fun j u' hu => by have := h (j + 1) u' (by simpa using hu); rwa [show i + 1 + j = i + (j + 1) by omega]]
    simp

theorem add_zero' (a : Addr) : a.add 0 = a := by simp [Addr.add]

/-- Reading a variable whose cells are known. -/
theorem run_loadVar' {t : TypeId} {a : Addr} {us : List Value} (hk : known P t = true) (hu : ∀ (i : Nat) u, us[i]? = some u → w.cell? (a.add i) = some u) :
    (isAggB P t = true → P.cellsOf t ≤ us.length → (loadVar t a).run P w = .ok (.agg (us.take (P.cellsOf t)).toArray) w) ∧
    (∀ u, isAggB P t = false → us[0]? = some u → (loadVar t a).run P w = .ok u w) := by
  simp only [known, Bool.and_eq_true] at hk
  constructor
  · intro hag hlen
    simp only [loadVar, Sem.run_bind, run_isAgg' hk.2, hag, Result.andThen_ok, if_true, run_sizeOf' hk.1, Sem.run_pure, loadCells]
    have := run_loadCells' (P := P) (w := w) a (us.take (P.cellsOf t)) 0 #[] fun j u hj => by
      rw [List.getElem?_take] at hj
      split at hj
      · rw [Nat.zero_add]; exact hu j u hj
      · cases hj
    rw [List.length_take, Nat.min_eq_left hlen] at this
    rw [this]
    simp
  · intro u hag h0
    simp only [loadVar, Sem.run_bind, run_isAgg' hk.2, hag, Result.andThen_ok, Bool.false_eq_true, if_false, run_load]
    have := hu 0 u h0
    rw [add_zero'] at this
    rw [this]
end

theorem setCell_block {w : World} {b off : Nat} {arr : Array Value} {t : TypeId} {fr : Nat × Nat} (h : w.heap[b]? = some (.cells arr t fr)) (v : Value) :
    w.setCell ⟨b, off, none⟩ v = { w with heap := w.heap.setIfInBounds b (.cells (arr.setIfInBounds off v) t fr) } := by
  have hlt := (Array.getElem?_eq_some_iff.1 h).1
  unfold World.setCell
  congr 1
  apply Array.ext_getElem?
  intro i
  rw [Array.getElem?_modify]
  by_cases hi : i = b
  · subst hi
    rw [if_pos rfl, h, Array.getElem?_setIfInBounds_self_of_lt hlt]
    simp
  · rw [if_neg (Ne.symm hi), Array.getElem?_setIfInBounds_ne (Ne.symm hi)]

theorem take_set_succ {α : Type} (l : List α) (m : Nat) (v : α) (h : m < l.length) : (l.set m v).take (m + 1) = l.take m ++ [v] := by
  apply List.ext_getElem?
  intro k
  simp only [List.getElem?_take, List.getElem?_set, List.getElem?_append, List.length_take, Nat.min_eq_left (Nat.le_of_lt h)]
  by_cases h1 : k < m
  · simp [h1, show k < m + 1 by omega, show ¬ m = k by omega]
  · by_cases h2 : k = m
    · subst h2; simp [h]
    · simp [h1, show ¬ k < m + 1 by omega, show ¬ k - m = 0 by omega]
theorem run_storeCells' {P : Program} {b : Nat} {t : TypeId} {fr : Nat × Nat} : ∀ (vs : List Value) (i off : Nat) (w : World) (arr : Array Value), w.heap[b]? = some (.cells arr t fr) → fr.2 ≤ off + i →
    off + i + vs.length ≤ arr.size → (∀ v ∈ vs, v.oneCell' = true) →
    ∃ arr', (storeCells ⟨b, off, none⟩ vs i).run P w = .ok () { w with heap := w.heap.setIfInBounds b (.cells arr' t fr) } ∧
      arr'.toList = arr.toList.take (off + i) ++ vs ++ arr.toList.drop (off + i + vs.length)
  | [], i, off, w, arr, h, _, _, _ => by
    have hlt := (Array.getElem?_eq_some_iff.1 h).1
    refine ⟨arr, ?_, by simp⟩
    simp only [storeCells, Sem.run_pure]
    congr 1
    cases w
    congr 1
    simp only at h ⊢
    symm
    apply Array.ext_getElem?
    intro k
    by_cases hk : k = b
    · subst hk; rw [Array.getElem?_setIfInBounds_self_of_lt hlt, h]
    · rw [Array.getElem?_setIfInBounds_ne (Ne.symm hk)]
  | v :: vs, i, off, w, arr, h, hfr, hl, hv => by
    simp only [List.length_cons] at hl
    have hlt := (Array.getElem?_eq_some_iff.1 h).1
    have hc : w.cell? ((⟨b, off, none⟩ : Addr).add i) = some (arr[off + i]'(by omega)) := by rw [cell_add h]; exact Array.getElem?_eq_getElem _
    have hadd : (⟨b, off, none⟩ : Addr).add i = ⟨b, off + i, none⟩ := by unfold Addr.add; split <;> simp_all
    have hf : w.frozen? ((⟨b, off, none⟩ : Addr).add i) = false := by rw [hadd]; simp only [World.frozen?, h, Bool.and_eq_false_iff, decide_eq_false_iff_not]; exact .inr (by omega)
    have h1 : (w.setCell ((⟨b, off, none⟩ : Addr).add i) v).heap[b]? = some (.cells (arr.setIfInBounds (off + i) v) t fr) := by
      rw [hadd, setCell_block h]; simp [hlt]
    obtain ⟨arr', hr, ha⟩ := run_storeCells' (P := P) vs (i + 1) off (w.setCell ((⟨b, off, none⟩ : Addr).add i) v) _ h1 (by omega) (by simp; omega) fun v' hv' => hv v' (List.mem_cons_of_mem _ hv')
    refine ⟨arr', ?_, ?_⟩
    · simp only [storeCells, Sem.run_bind]
      rw [run_store P w _ v _ (hv v (List.mem_cons_self ..)), hc]
      simp only [hf, Bool.false_eq_true, if_false, Result.andThen_ok]
      rw [hr]
      congr 1
      rw [hadd, setCell_block h]
      simp [Array.setIfInBounds_setIfInBounds]
    · rw [ha]
      simp only [Array.toList_setIfInBounds, List.length_cons]
      rw [show off + (i + 1) = off + i + 1 by omega, take_set_succ _ _ _ (by rw [Array.length_toList]; omega), List.drop_set_of_lt (by omega)]
      simp [show off + i + 1 + vs.length = off + i + (vs.length + 1) by omega]
end Fw
