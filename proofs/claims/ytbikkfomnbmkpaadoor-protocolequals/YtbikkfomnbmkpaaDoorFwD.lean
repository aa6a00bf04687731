import Derived.Test.YtbikkfomnbmkpaaDoorFwC
namespace Fw
open Go Go.RowKit

/-! ### 7. Operands, arguments -/
theorem constSV_sound (c : Cx) (v : Value) : SVR c (constSV v) v := by
  unfold constSV
  split
  · simp only [SVR, E.bd, E.ty, E.den]; exact ⟨trivial, _, rfl, rfl⟩
  · simp only [SVR, E.bd, E.ty, E.den]; exact ⟨trivial, _, rfl, rfl⟩
  · simp only [SVR, E.bd, E.ty, E.den]; exact ⟨trivial, _, rfl, rfl⟩
  · simp only [SVR]
  · simp only [SVR]
  · simp only [SVR]

theorem opv_sound {c : Cx} {n : Nat} {σ : Sig} {a : Act} (h : Rel c n σ a) (x : Operand) : SVR c (opv σ.t x) (a.eval x) := by
  cases x with
  | tmp i => exact h.tmps i
  | const v => exact constSV_sound c v
  | func f => simp only [opv, Act.eval, SVR]; exact ⟨#[], rfl, by simp [SVRs]⟩
  | global g => simp only [opv, SVR]

theorem nilAs_sound {c : Cx} (t : Ty) {s : SV} {v : Value} (h : SVR c s v) : SVR c (nilAs t s) v := by
  unfold nilAs
  split
  · simp only [SVR] at h ⊢
    subst h
    simp only [E.bd, E.bdss, E.ty, E.den, E.denss, VR]
    exact ⟨trivial, [], none, 0, rfl, rfl, Nat.le_refl _, Nat.zero_le _, fun _ => rfl, fun j c hc => by simp at hc⟩
  · exact h
theorem fillNil_sound {c : Cx} : ∀ (ts : List Ty) {ss : List SV} {vs : List Value}, SVRs c ss vs → SVRs c (fillNil ts ss) vs
  | [], _, _, h => by simpa only [fillNil] using h
  | _ :: _, [], _, h => by simpa only [fillNil] using h
  | t :: ts, s :: ss, vs, h => by
    simp only [SVRs] at h
    obtain ⟨v, vs', rfl, h1, h2⟩ := h
    simp only [fillNil, SVRs]
    exact ⟨v, vs', rfl, nilAs_sound t h1, fillNil_sound ts h2⟩
theorem asSC_sound {c : Cx} (P : Program) (t : TypeId) {s : SV} {v : Value} (h : SVR c s v) : SVR c (asSC P t s) v := by
  unfold asSC
  split
  · split
    · exact nilAs_sound _ h
    · exact h
  · split
    · simp only [SVR] at h ⊢
      obtain ⟨us, rfl, h⟩ := h
      exact ⟨us, rfl, fillNil_sound _ h⟩
    · exact h
  · exact h

theorem ex_sound {c : Cx} {s : SV} {v : Value} {e : E} (h : SVR c s v) (he : s.ex = some e) : e.bd c.η.length = true ∧ VR c.ok c.w e.ty (e.den c.η) v := by
  cases s <;> simp [SV.ex] at he <;> subst he <;> simp only [SVR] at h
  · exact h
  · exact ⟨h.1, h.2.1⟩

theorem exs_sound {c : Cx} : ∀ {ss : List SV} {vs : List Value} {es : List E}, SVRs c ss vs → exs ss = some es → E.bds c.η.length es = true ∧ VRs c.ok c.w (es.map E.ty) (E.dens c.η es) vs
  | [], vs, es, h, he => by
    simp only [exs, Option.some.injEq] at he; subst he
    simp only [SVRs] at h; subst h
    exact ⟨rfl, rfl, rfl⟩
  | s :: ss, vs, es, h, he => by
    simp only [SVRs] at h
    obtain ⟨v, vs', rfl, h1, h2⟩ := h
    simp only [exs] at he
    split at he
    · rename_i e es' hse hses
      simp only [Option.some.injEq] at he; subst he
      obtain ⟨a1, a2⟩ := ex_sound h1 hse
      obtain ⟨b1, b2⟩ := exs_sound h2 hses
      exact ⟨by simp [E.bds, a1, b1], _, _, _, _, rfl, rfl, a2, b2⟩
    · cases he

theorem E.dens_append (η : Env) : ∀ (l1 l2 : List E), E.dens η (l1 ++ l2) = E.dens η l1 ++ E.dens η l2
  | [], _ => rfl
  | x :: l1, l2 => by simp [E.dens, E.dens_append η l1 l2]
theorem E.bds_append (m : Nat) : ∀ (l1 l2 : List E), E.bds m (l1 ++ l2) = (E.bds m l1 && E.bds m l2)
  | [], _ => by simp [E.bds]
  | x :: l1, l2 => by simp [E.bds, E.bds_append m l1 l2, Bool.and_assoc]
theorem E.dens_length (η : Env) : ∀ (l : List E), (E.dens η l).length = l.length
  | [] => rfl
  | x :: l => by simp [E.dens, E.dens_length η l]
theorem cell_add {w : World} {b off i : Nat} {arr : Array Value} {t : TypeId} {fr : Nat × Nat} (h : w.heap[b]? = some (.cells arr t fr)) :
    w.cell? ((⟨b, off, none⟩ : Addr).add i) = arr[off + i]? := by
  unfold Addr.add
  split
  · rename_i hi; subst hi
    simp [World.cell?, h]
  · simp [World.cell?, h]

/- What may be read by a callee: the boxes too. -/
mutual
theorem toArg_sound {c : Cx} {n : Nat} {σ : Sig} {a : Act} (hr : Rel c n σ a) : ∀ (s : SV) {v : Value} {k : K} {es : List E}, SVR c s v → toArg σ.o s = some (k, es) →
    E.bds c.η.length es = true ∧ KR c.ok c.w k (E.dens c.η es) v
  | .sc e, v, k, es, h, he => by
    simp only [toArg, Option.some.injEq, Prod.mk.injEq] at he
    obtain ⟨rfl, rfl⟩ := he
    obtain ⟨h1, h2⟩ := ex_sound h rfl
    exact ⟨by simp [E.bds, h1], by simp only [KR]; exact ⟨_, rfl, h2⟩⟩
  | .gro id e, v, k, es, h, he => by
    simp only [toArg, Option.some.injEq, Prod.mk.injEq] at he
    obtain ⟨rfl, rfl⟩ := he
    obtain ⟨h1, h2⟩ := ex_sound h (s := .gro id e) rfl
    exact ⟨by simp [E.bds, h1], by simp only [KR]; exact ⟨_, rfl, h2⟩⟩
  | .agg xs, v, k, es, h, he => by
    simp only [toArg, Option.map_eq_some_iff, Prod.mk.injEq] at he
    obtain ⟨es', he, rfl, rfl⟩ := he
    simp only [SVR] at h
    obtain ⟨us, rfl, h⟩ := h
    obtain ⟨h1, h2⟩ := exs_sound h he
    exact ⟨h1, by simp only [KR]; exact ⟨us, rfl, h2⟩⟩
  | .rp cs, v, k, es, h, he => by
    simp only [toArg, Option.map_eq_some_iff, Prod.mk.injEq] at he
    obtain ⟨es', he, rfl, rfl⟩ := he
    simp only [SVR] at h
    obtain ⟨ad, us, rfl, h, hc⟩ := h
    obtain ⟨h1, h2⟩ := exs_sound h he
    exact ⟨h1, by simp only [KR]; exact ⟨ad, us, rfl, h2, fun i u hu => (hc i u hu).2⟩⟩
  | .ptr id off, v, k, es, h, he => by
    simp only [toArg] at he
    split at he
    · rename_i cs hcs
      simp only [Option.map_eq_some_iff, Prod.mk.injEq] at he
      obtain ⟨es', he, rfl, rfl⟩ := he
      simp only [SVR] at h
      obtain ⟨b, hb, rfl⟩ := h
      have ho := hr.own id _ _ hcs hb
      simp only [ORel] at ho
      obtain ⟨_, arr, hh, hcells⟩ := ho
      have hd := hcells.drop off
      obtain ⟨h1, h2⟩ := exs_sound hd he
      refine ⟨h1, ?_⟩
      simp only [KR]
      refine ⟨_, _, rfl, h2, fun i u hu => ?_⟩
      rw [List.getElem?_drop] at hu
      rw [cell_add hh]; simpa using hu
    · cases he
  | .fn g caps, v, k, es, h, he => by
    simp only [toArg, Option.map_eq_some_iff, Prod.mk.injEq] at he
    obtain ⟨x, he, rfl, rfl⟩ := he
    simp only [SVR] at h
    obtain ⟨us, rfl, h⟩ := h
    obtain ⟨h1, h2⟩ := toArgs_sound hr caps h he
    exact ⟨h1, by simp only [KR]; exact ⟨us, rfl, h2⟩⟩
  | .un, _, _, _, _, he => by simp [toArg] at he
  | .nils, _, _, _, _, he => by simp [toArg] at he
  | .tup _, _, _, _, _, he => by simp [toArg] at he
  | .mayB _, _, _, _, _, he => by simp [toArg] at he
  | .und, _, _, _, _, he => by simp [toArg] at he
  | .pnil, _, _, _, _, he => by simp [toArg] at he
  | .sp _ _, _, _, _, _, he => by simp [toArg] at he
theorem toArgs_sound {c : Cx} {n : Nat} {σ : Sig} {a : Act} (hr : Rel c n σ a) : ∀ (ss : List SV) {vs : List Value} {x : List K × List E}, SVRs c ss vs → toArgs σ.o ss = some x →
    E.bds c.η.length x.2 = true ∧ KRs c.ok c.w x.1 (E.dens c.η x.2) vs
  | [], vs, x, h, he => by
    simp only [toArgs, Option.some.injEq] at he; subst he
    simp only [SVRs] at h; subst h
    exact ⟨by simp [E.bds], by simp only [KRs, E.dens]; exact ⟨trivial, trivial⟩⟩
  | s :: ss, vs, x, h, he => by
    simp only [SVRs] at h
    obtain ⟨v, vs', rfl, h1, h2⟩ := h
    simp only [toArgs] at he
    split at he
    · rename_i k es ks es' hs hss
      simp only [Option.some.injEq] at he; subst he
      obtain ⟨a1, a2⟩ := toArg_sound hr s h1 hs
      obtain ⟨b1, b2⟩ := toArgs_sound hr ss h2 hss
      refine ⟨by simp [E.bds_append, a1, b1], ?_⟩
      simp only [KRs, E.dens_append]
      exact ⟨_, _, _, _, rfl, rfl, a2, b2⟩
    · cases he
end

/-! ### 8. Memory steps -/
theorem Cx.le_refl (c : Cx) : c.le c := ⟨⟨[], by simp⟩, fun _ _ h => h, fun _ x h => ⟨x, h, .inl rfl⟩, fun _ _ h1 h2 => ⟨h1, h2⟩, fun _ _ h1 h2 => ⟨h1, h2⟩⟩

theorem Cx.le_newBox (c : Cx) (o : Obj) : c.le { c with ρ := c.ρ ++ [.blk c.w.heap.size], w := c.w.alloc o } := by
  let c' : Cx := { c with ρ := c.ρ ++ [.blk c.w.heap.size], w := c.w.alloc o }
  have hex : ∀ b o, excl c'.ρ b o → excl c.ρ b o ∨ b = c.w.heap.size := by
    rintro b o ⟨x, hx, hcov⟩
    rcases List.mem_append.1 hx with hx | hx
    · exact .inl ⟨x, hx, hcov⟩
    · simp at hx; subst hx; simp only [CO.covers] at hcov; exact .inr hcov
  have hcell : ∀ (ad : Addr) u, c.w.cell? ad = some u → c'.w.cell? ad = some u ∧ ad.block ≠ c.w.heap.size := fun ad u hu => by
    have hlt := World.block_lt_of_cell? c.w ad hu
    exact ⟨by rw [← hu]; exact World.cell?_alloc_lt _ _ _ hlt, Nat.ne_of_lt hlt⟩
  have happ : ∀ (id : Nat) x, c.ρ[id]? = some x → c'.ρ[id]? = some x := fun id x hx => by
      simp only [c']; rw [List.getElem?_append_left (List.getElem?_eq_some_iff.1 hx).1]; exact hx
  exact ⟨⟨[], by simp⟩, fun id b hx => happ id _ hx, fun id x hx => ⟨x, happ id _ hx, .inl rfl⟩,
    fun ad u h1 h2 => ⟨⟨h1.1, fun he => (hex _ _ he).elim h1.2 (hcell ad u h2).2⟩, (hcell ad u h2).1⟩,
    fun ad u h1 h2 => ⟨fun he => (hex _ _ he).elim h1 (hcell ad u h2).2, (hcell ad u h2).1⟩⟩
theorem Cx.le.trans {a b c : Cx} (h : a.le b) (k : b.le c) : a.le c where
  η := by
    obtain ⟨xs, hx⟩ := h.η
    obtain ⟨ys, hy⟩ := k.η
    exact ⟨xs ++ ys, by rw [hy, hx, List.append_assoc]⟩
  ρ := fun id b hb => k.ρ id b (h.ρ id b hb)
  tk := fun id x hx => by
    obtain ⟨x', h1, h2⟩ := h.tk id x hx
    obtain ⟨x'', h3, h4⟩ := k.tk id x' h1
    refine ⟨x'', h3, ?_⟩
    rcases h2 with rfl | h2 <;> rcases h4 with rfl | h4
    · exact .inl rfl
    · exact .inr h4
    · exact .inr h2
    · exact .inr (Nat.lt_trans h2 h4)
  keeps := h.keeps.trans k.keeps
  raw := fun ad u h1 h2 => by
    obtain ⟨h3, h4⟩ := h.raw ad u h1 h2
    exact k.raw ad u h3 h4
/-- A new box. -/
theorem Rel.newBox' {c : Cx} {n : Nat} {σ : Sig} {a : Act} (h : Rel c n σ a) (t : TypeId) {xs : List SV} {us : List Value} (hx : SVRs { c with ρ := c.ρ ++ [.blk c.w.heap.size], w := c.w.alloc (.cells us.toArray t) } xs us) :
    let c' : Cx := { c with ρ := c.ρ ++ [.blk c.w.heap.size], w := c.w.alloc (.cells us.toArray t) }
    c.le c' ∧ Rel c' n { σ with o := σ.o ++ [.box t xs] } a ∧ SVR c' (.ptr σ.o.length 0) (.pointer (some ⟨c.w.heap.size, 0, none⟩)) := by
  intro c'
  have hex : ∀ b o, excl c'.ρ b o → excl c.ρ b o ∨ b = c.w.heap.size := by
    rintro b o ⟨x, hx, hcov⟩
    rcases List.mem_append.1 hx with hx | hx
    · exact .inl ⟨x, hx, hcov⟩
    · simp at hx; subst hx; simp only [CO.covers] at hcov; exact .inr hcov
  have hcell : ∀ (ad : Addr) u, c.w.cell? ad = some u → c'.w.cell? ad = some u ∧ ad.block ≠ c.w.heap.size := fun ad u hu => by
    have hlt := World.block_lt_of_cell? c.w ad hu
    exact ⟨by rw [← hu]; exact World.cell?_alloc_lt _ _ _ hlt, Nat.ne_of_lt hlt⟩
  have happ : ∀ (id : Nat) x, c.ρ[id]? = some x → c'.ρ[id]? = some x := fun id x hx => by
      simp only [c']; rw [List.getElem?_append_left (List.getElem?_eq_some_iff.1 hx).1]; exact hx
  have hle : c.le c' := ⟨⟨[], by simp [c']⟩, fun id b hx => happ id _ hx, fun id x hx => ⟨x, happ id _ hx, .inl rfl⟩,
    fun ad u h1 h2 => ⟨⟨h1.1, fun he => (hex _ _ he).elim h1.2 (hcell ad u h2).2⟩, (hcell ad u h2).1⟩,
    fun ad u h1 h2 => ⟨fun he => (hex _ _ he).elim h1 (hcell ad u h2).2, (hcell ad u h2).1⟩⟩
  have hb : Kept c.fp c.w0 c'.w := h.below.alloc _
  have hnew : c'.w.heap[c.w.heap.size]? = some (.cells us.toArray t (0, 0)) := by show (c.w.heap.push _)[_]? = _; rw [Array.getElem?_push, if_pos rfl]
  refine ⟨hle, ?_, ?_⟩
  · refine h.le hle rfl (by simp [c', h.olen]) ?_ ?_ hb
    · intro id ob co ho hco
      by_cases hid : id < σ.o.length
      · rw [List.getElem?_append_left hid] at ho
        simp only [c'] at hco
        rw [List.getElem?_append_left (by rw [← h.olen]; exact hid)] at hco
        have h0 := h.own id ob co ho hco
        exact h0.le hle rfl fun b hb => Below.heap_alloc _ _ _ (h.blockOf (List.mem_of_getElem? hco) hb).2
      · have hid' : id = σ.o.length := by
          have := (List.getElem?_eq_some_iff.1 ho).1
          simp at this; omega
        subst hid'
        simp at ho; subst ho
        simp only [c'] at hco
        rw [h.olen] at hco
        simp at hco; subst hco
        simp only [ORel]
        exact ⟨.inl h.below.size, us.toArray, hnew, by simpa using hx⟩
    · intro i j ci cj bi bj hij hi hj hbi hbj
      simp only [c'] at hi hj
      have key : ∀ (i : Nat) ci bi, (c.ρ ++ [CO.blk c.w.heap.size])[i]? = some ci → ci.block? = some bi → (c.ρ[i]? = some ci ∧ bi < c.w.heap.size) ∨ (i = c.ρ.length ∧ bi = c.w.heap.size) := by
        intro i ci bi hi hbi
        by_cases hl : i < c.ρ.length
        · rw [List.getElem?_append_left hl] at hi
          exact .inl ⟨hi, (h.blockOf (List.mem_of_getElem? hi) hbi).2⟩
        · have : i = c.ρ.length := by
            have := (List.getElem?_eq_some_iff.1 hi).1
            simp at this; omega
          subst this
          simp at hi; subst hi
          simp [CO.block?] at hbi
          exact .inr ⟨rfl, hbi.symm⟩
      rcases key i ci bi hi hbi with ⟨h1, h2⟩ | ⟨h1, h2⟩ <;> rcases key j cj bj hj hbj with ⟨h3, h4⟩ | ⟨h3, h4⟩
      · exact h.dist i j ci cj bi bj hij h1 h3 hbi hbj
      · omega
      · omega
      · omega
  · simp only [SVR, c']
    exact ⟨_, by rw [h.olen]; simp, rfl⟩

theorem Rel.newBox {c : Cx} {n : Nat} {σ : Sig} {a : Act} (h : Rel c n σ a) (t : TypeId) {xs : List SV} {us : List Value} (hx : SVRs c xs us) :
    let c' : Cx := { c with ρ := c.ρ ++ [.blk c.w.heap.size], w := c.w.alloc (.cells us.toArray t) }
    c.le c' ∧ Rel c' n { σ with o := σ.o ++ [.box t xs] } a ∧ SVR c' (.ptr σ.o.length 0) (.pointer (some ⟨c.w.heap.size, 0, none⟩)) := h.newBox' t (SVRs.le (Cx.le_newBox c _) _ _ hx)
/-- A new iterator. -/
theorem Rel.newIter {c : Cx} {n : Nat} {σ : Sig} {a : Act} (h : Rel c n σ a) {x p : E} {str : ByteArray} {m : Nat} (hx : x.bd c.η.length = true) (hp : p.bd c.η.length = true) (hxs : x.den c.η = .str str) (hpm : p.den c.η = .int .i64 m) :
    let c' : Cx := { c with ρ := c.ρ ++ [.blk c.w.heap.size], w := c.w.alloc (.stringIter str m) }
    c.le c' ∧ Rel c' n { σ with o := σ.o ++ [.iter x p] } a ∧ SVR c' (.ptr σ.o.length 0) (.pointer (some ⟨c.w.heap.size, 0, none⟩)) := by
  intro c'
  have hex : ∀ b o, excl c'.ρ b o → excl c.ρ b o ∨ b = c.w.heap.size := by
    rintro b o ⟨x, hx, hcov⟩
    rcases List.mem_append.1 hx with hx | hx
    · exact .inl ⟨x, hx, hcov⟩
    · simp at hx; subst hx; simp only [CO.covers] at hcov; exact .inr hcov
  have hcell : ∀ (ad : Addr) u, c.w.cell? ad = some u → c'.w.cell? ad = some u ∧ ad.block ≠ c.w.heap.size := fun ad u hu => by
    have hlt := World.block_lt_of_cell? c.w ad hu
    exact ⟨by rw [← hu]; exact World.cell?_alloc_lt _ _ _ hlt, Nat.ne_of_lt hlt⟩
  have happ : ∀ (id : Nat) x, c.ρ[id]? = some x → c'.ρ[id]? = some x := fun id x hx => by
      simp only [c']; rw [List.getElem?_append_left (List.getElem?_eq_some_iff.1 hx).1]; exact hx
  have hle : c.le c' := ⟨⟨[], by simp [c']⟩, fun id b hx => happ id _ hx, fun id x hx => ⟨x, happ id _ hx, .inl rfl⟩,
    fun ad u h1 h2 => ⟨⟨h1.1, fun he => (hex _ _ he).elim h1.2 (hcell ad u h2).2⟩, (hcell ad u h2).1⟩,
    fun ad u h1 h2 => ⟨fun he => (hex _ _ he).elim h1 (hcell ad u h2).2, (hcell ad u h2).1⟩⟩
  have hb : Kept c.fp c.w0 c'.w := h.below.alloc _
  have hnew : c'.w.heap[c.w.heap.size]? = some (.stringIter str m) := by show (c.w.heap.push _)[_]? = _; rw [Array.getElem?_push, if_pos rfl]
  refine ⟨hle, ?_, ?_⟩
  · refine h.le hle rfl (by simp [c', h.olen]) ?_ ?_ hb
    · intro id ob co ho hco
      by_cases hid : id < σ.o.length
      · rw [List.getElem?_append_left hid] at ho
        simp only [c'] at hco
        rw [List.getElem?_append_left (by rw [← h.olen]; exact hid)] at hco
        have h0 := h.own id ob co ho hco
        exact h0.le hle rfl fun b hb => Below.heap_alloc _ _ _ (h.blockOf (List.mem_of_getElem? hco) hb).2
      · have hid' : id = σ.o.length := by
          have := (List.getElem?_eq_some_iff.1 ho).1
          simp at this; omega
        subst hid'
        simp at ho; subst ho
        simp only [c'] at hco
        rw [h.olen] at hco
        simp at hco; subst hco
        simp only [ORel]
        exact ⟨hx, hp, .inl h.below.size, str, m, hxs, hpm, hnew⟩
    · intro i j ci cj bi bj hij hi hj hbi hbj
      simp only [c'] at hi hj
      have key : ∀ (i : Nat) ci bi, (c.ρ ++ [CO.blk c.w.heap.size])[i]? = some ci → ci.block? = some bi → (c.ρ[i]? = some ci ∧ bi < c.w.heap.size) ∨ (i = c.ρ.length ∧ bi = c.w.heap.size) := by
        intro i ci bi hi hbi
        by_cases hl : i < c.ρ.length
        · rw [List.getElem?_append_left hl] at hi
          exact .inl ⟨hi, (h.blockOf (List.mem_of_getElem? hi) hbi).2⟩
        · have : i = c.ρ.length := by
            have := (List.getElem?_eq_some_iff.1 hi).1
            simp at this; omega
          subst this
          simp at hi; subst hi
          simp [CO.block?] at hbi
          exact .inr ⟨rfl, hbi.symm⟩
      rcases key i ci bi hi hbi with ⟨h1, h2⟩ | ⟨h1, h2⟩ <;> rcases key j cj bj hj hbj with ⟨h3, h4⟩ | ⟨h3, h4⟩
      · exact h.dist i j ci cj bi bj hij h1 h3 hbi hbj
      · omega
      · omega
      · omega
  · simp only [SVR, c']
    exact ⟨_, by rw [h.olen]; simp, rfl⟩

/-- A store into a box. -/
theorem Rel.storeBox {c : Cx} {n : Nat} {σ : Sig} {a : Act} (h : Rel c n σ a) {id b : Nat} {cs : List SV} {t : TypeId} (ho : σ.o[id]? = some (.box t cs)) (hb : c.ρ[id]? = some (.blk b))
    {arr : Array Value} (hh : c.w.heap[b]? = some (.cells arr t (0, 0))) {cs' : List SV} {arr' : Array Value} (w' : World)
    (hw : w' = { c.w with heap := c.w.heap.setIfInBounds b (.cells arr' t (0, 0)) }) (hcs : SVRs c cs' arr'.toList) :
    let c' : Cx := { c with w := w' }
    c.le c' ∧ Rel c' n { σ with o := σ.o.set id (.box t cs') } a := by
  intro c'
  subst hw
  have hblt : b < c.w.heap.size := (Array.getElem?_eq_some_iff.1 hh).1
  have hbase : c.mine b := (h.blockOf (List.mem_of_getElem? hb) (x := .blk b) rfl).1
  have hne : ∀ (k : Nat), k ≠ b → c'.w.heap[k]? = c.w.heap[k]? := fun k hk => by simp only [c']; exact Array.getElem?_setIfInBounds_ne (Ne.symm hk)
  have hself : c'.w.heap[b]? = some (.cells arr' t (0, 0)) := by simp [c', hblt]
  have hexb : ∀ o, excl c.ρ b o := fun o => ⟨_, List.mem_of_getElem? hb, rfl⟩
  have hcell : ∀ (ad : Addr), ad.block ≠ b → c'.w.cell? ad = c.w.cell? ad := fun ad hk => World.cell?_of_block (w := c.w) (hne _ hk)
  have hle : c.le c' := ⟨⟨[], by simp [c']⟩, fun _ _ hx => hx, fun _ x hx => ⟨x, hx, .inl rfl⟩,
    fun ad u h1 h2 => ⟨h1, by rw [hcell ad (fun e => h1.2 (e ▸ hexb _))]; exact h2⟩,
    fun ad u h1 h2 => ⟨h1, by rw [hcell ad (fun e => h1 (e ▸ hexb _))]; exact h2⟩⟩
  refine ⟨hle, h.le hle rfl (by simp [c', h.olen]) ?_ h.dist ?_⟩
  · intro id' ob co ho' hco
    by_cases hid : id' = id
    · subst hid
      rw [List.getElem?_set_self (List.getElem?_eq_some_iff.1 ho).1] at ho'
      injection ho' with ho'; subst ho'
      simp only [c'] at hco
      rw [hb] at hco; injection hco with hco; subst hco
      simp only [ORel]
      exact ⟨hbase, arr', hself, SVRs.le hle _ _ hcs⟩
    · rw [List.getElem?_set_ne (Ne.symm hid)] at ho'
      simp only [c'] at hco
      have h0 := h.own id' ob co ho' hco
      have hbne : ∀ b', co.block? = some b' → b' ≠ b := fun b' hb' => h.dist id' id co (.blk b) b' b hid hco hb hb' rfl
      exact h0.le hle rfl fun b' hb' => hne _ (hbne _ hb')
  · refine h.below.step rfl rfl rfl (by simp [c']) fun k hk hf => hne k (Cx.not_mine hbase hk hf)

/-- An iterator goes on. -/
theorem Rel.setIter {c : Cx} {n : Nat} {σ : Sig} {a : Act} (h : Rel c n σ a) {id b : Nat} {x p p' : E} (ho : σ.o[id]? = some (.iter x p)) (hb : c.ρ[id]? = some (.blk b))
    {str : ByteArray} {m m' : Nat} (hh : c.w.heap[b]? = some (.stringIter str m)) (hx : x.bd c.η.length = true) (hp : p'.bd c.η.length = true) (hxs : x.den c.η = .str str) (hpm : p'.den c.η = .int .i64 m') (w' : World)
    (hw : w' = { c.w with heap := c.w.heap.setIfInBounds b (.stringIter str m') }) :
    let c' : Cx := { c with w := w' }
    c.le c' ∧ Rel c' n { σ with o := σ.o.set id (.iter x p') } a := by
  intro c'
  subst hw
  have hblt : b < c.w.heap.size := (Array.getElem?_eq_some_iff.1 hh).1
  have hbase : c.mine b := (h.blockOf (List.mem_of_getElem? hb) (x := .blk b) rfl).1
  have hne : ∀ (k : Nat), k ≠ b → c'.w.heap[k]? = c.w.heap[k]? := fun k hk => by simp only [c']; exact Array.getElem?_setIfInBounds_ne (Ne.symm hk)
  have hself : c'.w.heap[b]? = some (.stringIter str m') := by simp [c', hblt]
  have hexb : ∀ o, excl c.ρ b o := fun o => ⟨_, List.mem_of_getElem? hb, rfl⟩
  have hcell : ∀ (ad : Addr), ad.block ≠ b → c'.w.cell? ad = c.w.cell? ad := fun ad hk => World.cell?_of_block (w := c.w) (hne _ hk)
  have hle : c.le c' := ⟨⟨[], by simp [c']⟩, fun _ _ hx => hx, fun _ x hx => ⟨x, hx, .inl rfl⟩,
    fun ad u h1 h2 => ⟨h1, by rw [hcell ad (fun e => h1.2 (e ▸ hexb _))]; exact h2⟩,
    fun ad u h1 h2 => ⟨h1, by rw [hcell ad (fun e => h1 (e ▸ hexb _))]; exact h2⟩⟩
  refine ⟨hle, h.le hle rfl (by simp [c', h.olen]) ?_ h.dist ?_⟩
  · intro id' ob co ho' hco
    by_cases hid : id' = id
    · subst hid
      rw [List.getElem?_set_self (List.getElem?_eq_some_iff.1 ho).1] at ho'
      injection ho' with ho'; subst ho'
      simp only [c'] at hco
      rw [hb] at hco; injection hco with hco; subst hco
      simp only [ORel]
      exact ⟨hx, hp, hbase, str, m', hxs, hpm, hself⟩
    · rw [List.getElem?_set_ne (Ne.symm hid)] at ho'
      simp only [c'] at hco
      have h0 := h.own id' ob co ho' hco
      have hbne : ∀ b', co.block? = some b' → b' ≠ b := fun b' hb' => h.dist id' id co (.blk b) b' b hid hco hb hb' rfl
      exact h0.le hle rfl fun b' hb' => hne _ (hbne _ hb')
  · refine h.below.step rfl rfl rfl (by simp [c']) fun k hk hf => hne k (Cx.not_mine hbase hk hf)

/-- A call, or whatever leaves all that was there: the environment may grow. -/
theorem Rel.later {c : Cx} {n : Nat} {σ : Sig} {a : Act} (h : Rel c n σ a) {w' : World} (hw : Below c.w.heap.size c.w w') (xs : Env) :
    let c' : Cx := { c with w := w', η := c.η ++ xs }
    c.le c' ∧ Rel c' n σ a := by
  intro c'
  have hle : c.le c' := ⟨⟨xs, rfl⟩, fun _ _ hx => hx, fun _ x hx => ⟨x, hx, .inl rfl⟩,
    fun ad u h1 h2 => ⟨h1, (hw.cell (World.block_lt_of_cell? c.w ad h2)).trans h2⟩,
    fun ad u h1 h2 => ⟨h1, (hw.cell (World.block_lt_of_cell? c.w ad h2)).trans h2⟩⟩
  refine ⟨hle, h.le hle rfl h.olen ?_ h.dist (h.below.below hw)⟩
  intro id ob co ho hco
  exact (h.own id ob co ho hco).le hle rfl fun b hb => hw.block b (h.blockOf (List.mem_of_getElem? hco) hb).2
end Fw
