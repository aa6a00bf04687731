import Derived.Test.YtbikkfomnbmkpaaDoorFwF
import Derived.Great.BuildSlice
import Derived.Laws.AppendOwn
namespace Fw
open Go Go.RowKit

/-! ### 10b. Literals -/
theorem foldl_set {α : Type} : ∀ (l : List α) (k off : Nat) (cs : Array α), off + k + l.length ≤ cs.size →
    ((l.zipIdx k).foldl (fun cs x => cs.setIfInBounds (off + x.2) x.1) cs).toList = cs.toList.take (off + k) ++ l ++ cs.toList.drop (off + k + l.length)
  | [], k, off, cs, h => by simp
  | v :: l, k, off, cs, h => by
    simp only [List.length_cons] at h
    rw [List.zipIdx_cons, List.foldl_cons, foldl_set l (k + 1) off _ (by simp; omega)]
    simp only [Array.toList_setIfInBounds, List.length_cons]
    rw [show off + (k + 1) = off + k + 1 by omega, take_set_succ _ _ _ (by rw [Array.length_toList]; omega), List.drop_set_of_lt (by omega)]
    simp [show off + k + 1 + l.length = off + k + (l.length + 1) by omega]
theorem foldl_setA {α : Type} (l : Array α) (off : Nat) (cs : Array α) (h : off + l.size ≤ cs.size) :
    (l.zipIdx.foldl (fun cs (x : α × Nat) => cs.setIfInBounds (off + x.2) x.1) cs).toList = cs.toList.take off ++ l.toList ++ cs.toList.drop (off + l.size) := by
  have := foldl_set l.toList 0 off cs (by simpa using h)
  rw [← Array.foldl_toList]
  simpa using this
/-- One part put into place. -/
theorem fill_cons {place : Nat → Option (Nat × Nat)} {cells : Array Value} {i off size : Nat} {v : Value} {r : List (Nat × Value)} (hp : place i = some (off, size)) (hs : v.cells.size = size)
    (hl : off + size ≤ cells.size) :
    ∃ cells', Instr.fill place cells ((i, v) :: r) = Instr.fill place cells' r ∧ cells'.toList = cells.toList.take off ++ v.cells.toList ++ cells.toList.drop (off + size) := by
  refine ⟨_, by simp only [Instr.fill, hp]; rw [if_neg (by simp [hs]; omega)], ?_⟩
  have := foldl_setA v.cells off cells (by omega)
  rw [hs] at this
  exact this
theorem fill_rows {sz : Nat} : ∀ (vs : List Value) (k : Nat) (cells : Array Value), (∀ v ∈ vs, v.cells.size = sz) → (k + vs.length) * sz ≤ cells.size →
    ∃ cells', Instr.fill (fun i => some (i * sz, sz)) cells ((vs.zipIdx k).map fun x => (x.2, x.1)) = some cells' ∧
      cells'.toList = cells.toList.take (k * sz) ++ (vs.map fun v => v.cells.toList).flatten ++ cells.toList.drop ((k + vs.length) * sz)
  | [], k, cells, _, _ => ⟨cells, rfl, by simp⟩
  | v :: vs, k, cells, hv, hl => by
    simp only [List.length_cons] at hl
    have h1 : (k + (vs.length + 1)) * sz = k * sz + sz + vs.length * sz := by rw [Nat.add_mul, Nat.add_mul]; omega
    have h2 : (k + 1) * sz = k * sz + sz := by rw [Nat.add_mul]; omega
    obtain ⟨c1, e1, l1⟩ := fill_cons (place := fun i => some (i * sz, sz)) (cells := cells) (i := k) (v := v) (r := (vs.zipIdx (k + 1)).map fun x => (x.2, x.1)) rfl (hv v (List.mem_cons_self ..)) (by omega)
    have hc1 : c1.size = cells.size := by
      have := congrArg List.length l1
      simp only [List.length_append, List.length_take, List.length_drop, Array.length_toList] at this
      have := hv v (List.mem_cons_self ..)
      omega
    have hvs : v.cells.size = sz := hv v (List.mem_cons_self ..)
    have hvl : v.cells.toList.length = sz := by rw [Array.length_toList]; exact hvs
    have hcl : cells.toList.length = cells.size := Array.length_toList
    obtain ⟨c2, e2, l2⟩ := fill_rows vs (k + 1) c1 (fun u hu => hv u (List.mem_cons_of_mem _ hu)) (by rw [hc1]; rw [show k + 1 + vs.length = k + (vs.length + 1) by omega]; omega)
    refine ⟨c2, by simp only [List.zipIdx_cons, List.map_cons]; rw [e1, e2], ?_⟩
    rw [l2, l1, h2]
    simp only [List.map_cons, List.flatten_cons, List.length_cons]
    have e3 : (List.take (k * sz) cells.toList ++ v.cells.toList ++ List.drop (k * sz + sz) cells.toList).take (k * sz + sz) = List.take (k * sz) cells.toList ++ v.cells.toList := by
      rw [List.take_append_of_le_length (by rw [List.length_append, List.length_take]; omega)]
      rw [List.take_of_length_le (by rw [List.length_append, List.length_take]; omega)]
    have e4 : (List.take (k * sz) cells.toList ++ v.cells.toList ++ List.drop (k * sz + sz) cells.toList).drop ((k + 1 + vs.length) * sz) = cells.toList.drop ((k + (vs.length + 1)) * sz) := by
      rw [show (k + 1 + vs.length) * sz = (k * sz + sz) + vs.length * sz by rw [show k + 1 + vs.length = k + (vs.length + 1) by omega]; exact h1, h1]
      have : (List.take (k * sz) cells.toList ++ v.cells.toList).length = k * sz + sz := by rw [List.length_append, List.length_take]; omega
      rw [← List.drop_drop, ← this, List.drop_left, List.drop_drop, this]
    rw [e3, e4]
    simp [List.append_assoc]

section
variable {P : Program} {c : Cx} {n : Nat} {σ : Sig} {a : Act} (h : Rel c n σ a) (dst : Option Tmp) (ty : TypeId) (pos : String) (after : Array Edge) (guard : Option (Nat × Bool)) (sigs : Sigs)
include h

/-- A block of nobody's. -/
theorem Rel.newFree (t : TypeId) (cells : Array Value) :
    let c' : Cx := { c with w := c.w.alloc (.cells cells t) }
    c.le c' ∧ Rel c' n σ a ∧ (∀ i u, cells[i]? = some u → c'.ok c.w.heap.size i ∧ c'.w.cell? ((⟨c.w.heap.size, 0, none⟩ : Addr).add i) = some u) := by
  intro c'
  have hb : Below c.w.heap.size c.w c'.w := (Below.refl _ _).alloc (Nat.le_refl _) _
  obtain ⟨h1, h2⟩ := h.later hb []
  have e : ({ c with w := c'.w, η := c.η ++ [] } : Cx) = c' := by simp [c']
  rw [e] at h1 h2
  have hnew : c'.w.heap[c.w.heap.size]? = some (.cells cells t (0, 0)) := by show (c.w.heap.push _)[_]? = _; rw [Array.getElem?_push, if_pos rfl]
  refine ⟨h1, h2, fun i u hu => ⟨⟨.inr (.inl h.below.size), fun he => ?_⟩, by rw [cell_add hnew]; simpa using hu⟩⟩
  obtain ⟨x, hx, hcov⟩ := he
  have := (h.blockOf hx (CO.covers_block hcov)).2
  omega
end

theorem beqs_map_ty {es : List E} {ts : List Ty} (h : Ty.beqs (es.map E.ty) ts = true) : es.map E.ty = ts := Ty.beqs_eq _ _ h
/-- The parts of a literal: their cells, row by row. -/
theorem litRows_sound {P : Program} {c : Cx} {el : TypeId} {ts : List Ty} : ∀ (k : Nat) (ps : List (Nat × SV)) (vs : List Value) {rows : List (List E)}, litRows P el ts k ps = some rows →
    SVRs c (ps.map (·.2)) vs → ps.length = rows.length ∧ ps.map (·.1) = List.range' k rows.length ∧ E.bdss c.η.length rows = true ∧
      ∃ us : List (List Value), vs.map (fun v => v.cells.toList) = us ∧ us.length = rows.length ∧ ∀ (j : Nat) (r : List E) (u : List Value), rows[j]? = some r → us[j]? = some u → VRs c.ok c.w ts (E.dens c.η r) u
  | k, [], vs, rows, hr, hv => by
    simp only [litRows, Option.some.injEq] at hr; subst hr
    simp only [List.map_nil, SVRs] at hv; subst hv
    exact ⟨rfl, rfl, rfl, [], rfl, rfl, fun j r u h => by simp at h⟩
  | k, (i, s) :: r, vs, rows, hr, hv => by
    simp only [litRows] at hr
    split at hr
    · rename_i hik; subst hik
      split at hr
      · rename_i es rows' hes hrows
        split at hr
        · rename_i hty
          simp only [Option.some.injEq] at hr; subst hr
          simp only [List.map_cons, SVRs] at hv
          obtain ⟨v, vs', rfl, h1, h2⟩ := hv
          obtain ⟨q1, q2, q3, us, q4, q5, q6⟩ := litRows_sound (i + 1) r vs' hrows h2
          have hp : SVRs c (asSC P el s).parts v.cells.toList := parts_sound (asSC_sound P el h1) (by
            have : ∀ l es, exs l = some es → l.all SV.cellable = true := by
              intro l
              induction l with
              | nil => intro es _; rfl
              | cons x l ih =>
                intro es hx
                simp only [exs] at hx
                split at hx
                · rename_i e' es' hx1 hx2
                  simp only [List.all_cons, Bool.and_eq_true]
                  refine ⟨?_, ih _ hx2⟩
                  cases x <;> simp [SV.ex] at hx1 <;> rfl
                · cases hx
            exact this _ _ hes)
          obtain ⟨w1, w2⟩ := exs_sound hp hes
          rw [beqs_map_ty hty] at w2
          refine ⟨by simp [q1], by simp [q2, List.range'_succ], by simp [E.bdss, w1, q3], v.cells.toList :: us, by simp [q4], by simp [q5], fun j r0 u hj hu => ?_⟩
          cases j with
          | zero => simp at hj hu; subst hj hu; exact w2
          | succ j => exact q6 j r0 u (by simpa using hj) (by simpa using hu)
        · cases hr
      · cases hr
    · cases hr
end Fw
