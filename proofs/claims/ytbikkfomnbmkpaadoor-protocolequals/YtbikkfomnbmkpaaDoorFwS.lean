import Derived.Test.YtbikkfomnbmkpaaDoorFwR
namespace Fw
open Go Go.RowKit

inductive Path (C : Ctx) (ops : Array Oper) (ηs : Env) (pos : Nat → Nat) (lab : Nat → Lab) : List Nat → Sig → Sig → Prop where
  | nil {σ σ' : Sig} (h : σ.Eqv σ') : Path C ops ηs pos lab [] σ σ'
  | cons {i : Nat} {l : List Nat} {σ σ1 σ' : Sig} (h : Step1 C ops ηs (pos i) i (lab i) σ σ1) (t : Path C ops ηs pos lab l σ1 σ') : Path C ops ηs pos lab (i :: l) σ σ'

section
variable {C : Ctx} {ops : Array Oper} {ηs : Env} {pos : Nat → Nat} {lab : Nat → Lab}
theorem Step1.eqv {p i : Nat} {lb : Lab} {σ σ' τ : Sig} (h : Step1 C ops ηs p i lb σ σ') (e : σ.Eqv τ) : ∃ τ', Step1 C ops ηs p i lb τ τ' ∧ σ'.Eqv τ' := by
  obtain ⟨o, s, ef, ho, hc, hp⟩ := h
  obtain ⟨h1, h2, h3⟩ := putS_some hp
  obtain ⟨τ', hp'⟩ := putS_mk (n := C.fn.ntmps) τ s (ef.app τ.o) h2
  obtain ⟨h4, _, h5⟩ := putS_some hp'
  exact ⟨τ', ⟨o, s, ef, ho, hc.congr (fun x _ => e.1 x) (fun id _ => by rw [e.2]) (.inl (by rw [e.2])), hp'⟩, fun i => by rw [h3, h5, e.1], by rw [h1, h4, e.2]⟩
theorem Path.eqv {l : List Nat} {σ σ' τ : Sig} (h : Path C ops ηs pos lab l σ σ') (e : σ.Eqv τ) : Path C ops ηs pos lab l τ σ' := by
  induction h generalizing τ with
  | nil h => exact .nil ⟨fun i => by rw [← e.1, h.1], by rw [← e.2, h.2]⟩
  | cons h t ih =>
    obtain ⟨τ', h1, h2⟩ := h.eqv e
    exact .cons h1 (ih h2)
theorem Path.congrFun {pos' : Nat → Nat} {lab' : Nat → Lab} {l : List Nat} {σ σ' : Sig} (h : Path C ops ηs pos lab l σ σ') (e : ∀ i ∈ l, pos i = pos' i ∧ lab i = lab' i) : Path C ops ηs pos' lab' l σ σ' := by
  induction h with
  | nil h => exact .nil h
  | cons h t ih =>
    obtain ⟨e1, e2⟩ := e _ (List.mem_cons_self ..)
    exact .cons (e1 ▸ e2 ▸ h) (ih fun i hi => e i (List.mem_cons_of_mem _ hi))

def Free (ops : Array Oper) (lab : Nat → Lab) (a i : Nat) : Prop := ∀ oa oi, ops[a]? = some oa → ops[i]? = some oi → slotClash ops oa oi = false ∧ (lab a).clash (lab i) = false
theorem bubble {i : Nat} {B : List Nat} {σ' : Sig} : ∀ (A : List Nat) {σ : Sig}, (∀ a ∈ A, Free ops lab a i) → Path C ops ηs pos lab (A ++ i :: B) σ σ' → Path C ops ηs pos lab (i :: (A ++ B)) σ σ'
  | [], σ, _, h => h
  | a :: A, σ, hf, h => by
    cases h with
    | cons h1 t =>
      have t' := bubble A (fun x hx => hf x (List.mem_cons_of_mem _ hx)) t
      cases t' with
      | cons h2 t2 =>
        obtain ⟨oa, _, _, ha, _⟩ := id h1
        obtain ⟨oi, _, _, hi, _⟩ := id h2
        obtain ⟨f1, f2⟩ := hf a (List.mem_cons_self ..) oa oi ha hi
        obtain ⟨τ, τ2, q1, q2, q3⟩ := swap ha hi h1 h2 f1 f2
        exact .cons q1 (.cons q2 (t2.eqv ⟨fun i => (q3.1 i).symm, q3.2.symm⟩))

def left (listed : Array Bool) (n : Nat) : List Nat := (List.range n).filter fun i => !listed.getD i true
theorem range_split {n i : Nat} (h : i < n) : List.range n = List.range i ++ i :: List.range' (i + 1) (n - i - 1) := by
  rw [List.range_eq_range', List.range_eq_range', show n = i + (n - i - 1 + 1) by omega, ← List.range'_append_1, List.range'_succ]
  simp
theorem left_split {listed : Array Bool} {n i : Nat} (h : i < n) (hl : listed.getD i true = false) :
    ∃ A B, left listed n = A ++ i :: B ∧ left (listed.setIfInBounds i true) n = A ++ B ∧ ∀ a ∈ A, a < i ∧ listed.getD a true = false := by
  have hne : ∀ x, x ≠ i → (listed.setIfInBounds i true).getD x true = listed.getD x true := fun x hx => getD_set_ne true (Ne.symm hx)
  have hi : (listed.setIfInBounds i true).getD i true = true := by
    by_cases hs : i < listed.size
    · simp [hs]
    · simp [Array.getD_eq_getD_getElem?]
  refine ⟨(List.range i).filter fun i => !listed.getD i true, (List.range' (i + 1) (n - i - 1)).filter fun i => !listed.getD i true, ?_, ?_, fun a ha => ?_⟩
  · unfold left
    rw [range_split h, List.filter_append, List.filter_cons, if_pos (by rw [hl]; rfl)]
  · unfold left
    rw [range_split h, List.filter_append, List.filter_cons, if_neg (by rw [hi]; simp)]
    congr 1
    · exact List.filter_congr fun x hx => by rw [hne x (by have := List.mem_range.1 hx; omega)]
    · exact List.filter_congr fun x hx => by rw [hne x (by have := (List.mem_range'_1.1 hx).1; omega)]
  · obtain ⟨h1, h2⟩ := List.mem_filter.1 ha
    exact ⟨List.mem_range.1 h1, by simpa using h2⟩

inductive Reach (ops : Array Oper) (a : Nat) : Nat → Prop where
  | here {i : Nat} {o : Oper} {e : Edge} (ho : ops[i]? = some o) (he : e ∈ o.after) (hb : Region.binds .any e = true) (h : e.on = a) : Reach ops a i
  | there {i : Nat} {o : Oper} {e : Edge} (ho : ops[i]? = some o) (he : e ∈ o.after) (hb : Region.binds .any e = true) (h : Reach ops a e.on) : Reach ops a i
/-- What is listed has all before it listed. -/
def Down (ops : Array Oper) (listed : Array Bool) : Prop := ∀ (i : Nat) o, ops[i]? = some o → listed.getD i true = true → ∀ e ∈ o.after, Region.binds .any e = true → listed.getD e.on true = true
theorem Reach.listed {a i : Nat} {listed : Array Bool} (h : Reach ops a i) (hd : Down ops listed) (hp : ∀ o, ops[i]? = some o → ∀ e ∈ o.after, Region.binds .any e = true → listed.getD e.on true = true) : listed.getD a true = true := by
  induction h with
  | here ho he hb h => rw [← h]; exact hp _ ho _ he hb
  | there ho he hb h ih => exact ih fun o ho' e' he' hb' => hd _ _ ho' (hp _ ho _ he hb) e' he' hb'
theorem anyOrder (hedge : ∀ (i : Nat) o, ops[i]? = some o → ∀ e ∈ o.after, Region.binds .any e = true → e.on < i)
    (hfree : ∀ a i, a < i → ∀ oi, ops[i]? = some oi → ¬ Reach ops a i → Free ops lab a i) :
    ∀ (fuel t : Nat) (listed : Array Bool) {σ σ' : Sig}, Down ops listed → (left listed ops.size).length ≤ fuel → Path C ops ηs pos lab (left listed ops.size) σ σ' →
      Path C ops ηs pos lab (Region.linearise.go .any ops fuel t listed []) σ σ' := by
  intro fuel
  induction fuel with
  | zero =>
    intro t listed σ σ' hdown hl h
    have : left listed ops.size = [] := List.length_eq_zero_iff.1 (by omega)
    rw [this] at h
    simpa [Region.linearise.go] using h
  | succ fuel ih =>
    intro t listed σ σ' hdown hl h
    simp only [Region.linearise.go]
    change Path C ops ηs pos lab (match (Region.ready .any ops listed)[t % (Region.ready .any ops listed).length]? with
      | some i => Region.linearise.go .any ops fuel (t / (Region.ready .any ops listed).length) (listed.setIfInBounds i true) [i]
      | none => [].reverse) σ σ'
    cases hi : (Region.ready .any ops listed)[t % (Region.ready .any ops listed).length]? with
    | none =>
      have hnil : Region.ready .any ops listed = [] := by
        cases hr : Region.ready .any ops listed with
        | nil => rfl
        | cons x xs =>
          rw [hr] at hi
          have hlt : t % (x :: xs).length < (x :: xs).length := Nat.mod_lt _ (by simp)
          simp at hi
          simp at hlt
          omega
      have hleft : left listed ops.size = [] := by
        cases hL : left listed ops.size with
        | nil => rfl
        | cons x xs =>
          exfalso
          have hx : x ∈ left listed ops.size := by rw [hL]; simp
          obtain ⟨hx1, hx2⟩ := List.mem_filter.1 hx
          have hxl := List.mem_range.1 hx1
          have hxf : listed.getD x true = false := by simpa using hx2
          have hmin : ∀ y, y < x → listed.getD y true = true := fun y hy => by
            cases hyf : listed.getD y true with
            | true => rfl
            | false =>
              exfalso
              obtain ⟨A, B, e1, _, e3⟩ := left_split hxl hxf
              have hyl : y ∈ left listed ops.size := List.mem_filter.2 ⟨List.mem_range.2 (by omega), by rw [hyf]; rfl⟩
              have hA : A = [] := by
                cases A with
                | nil => rfl
                | cons z A =>
                  rw [e1] at hL
                  simp at hL
                  have := (e3 z (by simp)).1
                  omega
              subst hA
              obtain ⟨A2, B2, f1, _, f3⟩ := left_split (show y < ops.size by omega) hyf
              rw [hL] at f1
              cases A2 with
              | nil => simp at f1; omega
              | cons z A2 =>
                simp at f1
                have := (f3 z (by simp)).1
                omega
          have : x ∈ Region.ready .any ops listed := mem_ready.2 ⟨hxf, ops[x], by simp [hxl], fun e he hb => by
            have h1 := hmin e.on (hedge x _ (by simp [hxl]) e he hb)
            have h2 : e.on < x := hedge x _ (by simp [hxl]) e he hb
            have hlsz : x < listed.size := by
              rcases Nat.lt_or_ge x listed.size with h | h
              · exact h
              · rw [Array.getD_eq_getD_getElem?, Array.getElem?_eq_none (by omega)] at hxf; simp at hxf
            rw [Array.getD_eq_getD_getElem?, Array.getElem?_eq_getElem (by omega)] at h1 ⊢
            simpa using h1⟩
          rw [hnil] at this
          simp at this
      rw [hleft] at h
      exact h
    | some i =>
      simp only []
      rw [linearise_go_acc, List.reverse_singleton, List.singleton_append]
      obtain ⟨h1, oi, hoi, h2⟩ := mem_ready.1 (List.mem_of_getElem? hi)
      have hil : i < ops.size := (Array.getElem?_eq_some_iff.1 hoi).1
      obtain ⟨A, B, e1, e2, e3⟩ := left_split hil h1
      rw [e1] at h hl
      have h2' : ∀ o, ops[i]? = some o → ∀ e ∈ o.after, Region.binds .any e = true → listed.getD e.on true = true := fun o ho e he hb => by
        rw [hoi] at ho; injection ho with ho; subst ho
        have := h2 e he hb
        rw [Array.getD_eq_getD_getElem?] at this ⊢
        cases hla : listed[e.on]? <;> simp_all
      have hp := bubble A (fun a ha => hfree a i (e3 a ha).1 oi hoi fun hre => by
        have := hre.listed hdown h2'
        have h3 := (e3 a ha).2
        rw [h3] at this; cases this) h
      have hdown' : Down ops (listed.setIfInBounds i true) := fun k o ho hk e he hb => by
        by_cases hki : k = i
        · subst hki
          have := h2' o ho e he hb
          by_cases hei : e.on = k
          · rw [hei, Array.getD_eq_getD_getElem?]
            rw [hei] at this
            cases hla : listed[k]? with
            | none => rw [Array.getElem?_eq_none (by simpa using Array.getElem?_eq_none_iff.1 hla)]; rfl
            | some _ => rw [Array.getElem?_setIfInBounds_self_of_lt (Array.getElem?_eq_some_iff.1 hla).1]; rfl
          · rw [getD_set_ne true (Ne.symm hei)]; exact this
        · rw [getD_set_ne true (Ne.symm hki)] at hk
          have := hdown k o ho hk e he hb
          by_cases hei : e.on = i
          · rw [hei, h1] at this; cases this
          · rw [getD_set_ne true (Ne.symm hei)]; exact this
      cases hp with
      | cons hs ht =>
        refine .cons hs (ih _ _ hdown' (by rw [e2]; simp at hl ⊢; omega) (by rw [e2]; exact ht))
end
end Fw
