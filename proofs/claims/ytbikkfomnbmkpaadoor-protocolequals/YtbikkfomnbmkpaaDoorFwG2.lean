import Derived.Test.YtbikkfomnbmkpaaDoorFwG1
namespace Fw
open Go Go.RowKit

theorem flatten_get {α : Type} {sz : Nat} : ∀ (us : List (List α)), (∀ u ∈ us, u.length = sz) → ∀ (j i : Nat) (u : List α) (x : α), us[j]? = some u → u[i]? = some x → us.flatten[j * sz + i]? = some x
  | [], _, j, i, u, x, h, _ => by simp at h
  | u0 :: us, hl, j, i, u, x, h, hx => by
    have h0 := hl u0 (List.mem_cons_self ..)
    cases j with
    | zero =>
      simp at h; subst h
      have := (List.getElem?_eq_some_iff.1 hx).1
      simp only [List.flatten_cons, Nat.zero_mul, Nat.zero_add]
      rw [List.getElem?_append_left this]; exact hx
    | succ j =>
      simp only [List.flatten_cons]
      rw [show (j + 1) * sz + i = u0.length + (j * sz + i) by rw [h0, Nat.add_mul]; omega, List.getElem?_append_right (by omega), Nat.add_sub_cancel_left]
      exact flatten_get us (fun u hu => hl u (List.mem_cons_of_mem _ hu)) j i u x (by simpa using h) hx
theorem flatten_len {α : Type} {sz : Nat} : ∀ (us : List (List α)), (∀ u ∈ us, u.length = sz) → us.flatten.length = us.length * sz
  | [], _ => by simp
  | u0 :: us, hl => by
    simp only [List.flatten_cons, List.length_append, List.length_cons, hl u0 (List.mem_cons_self ..), flatten_len us (fun u hu => hl u (List.mem_cons_of_mem _ hu)), Nat.add_mul]
    omega
theorem denss_length (η : Env) : ∀ (l : List (List E)), (E.denss η l).length = l.length
  | [] => rfl
  | x :: l => by simp [E.denss, denss_length η l]
theorem denss_get (η : Env) : ∀ (l : List (List E)) (j : Nat) (r : List E), l[j]? = some r → (E.denss η l)[j]? = some (E.dens η r)
  | [], j, r, h => by simp at h
  | x :: l, j, r, h => by
    cases j with
    | zero => simp at h; subst h; simp [E.denss]
    | succ j => simpa [E.denss] using denss_get η l j r (by simpa using h)
/-- A row of rows laid one after the other is a slice. -/
theorem VR.ofRows {ok : Ok} {w : World} {ts : List Ty} {es : List (List D)} {us : List (List Value)} {b cap : Nat} (hl : us.length = es.length) (hcap : es.length ≤ cap) (hmax : cap ≤ maxLen)
    (hv : ∀ (j : Nat) r u, es[j]? = some r → us[j]? = some u → VRs ok w ts r u) (hc : ∀ i u, us.flatten[i]? = some u → ok b i ∧ w.cell? ((⟨b, 0, none⟩ : Addr).add i) = some u) :
    VR ok w (.slc ts) (.slc es) (.slice (some ⟨b, 0, none⟩) es.length cap) := by
  simp only [VR]
  refine ⟨es, _, cap, rfl, rfl, hcap, hmax, (by simp), fun j c hj => ?_⟩
  have hjl : j < us.length := by rw [hl]; exact (List.getElem?_eq_some_iff.1 hj).1
  have hju := List.getElem?_eq_getElem hjl
  refine ⟨_, us[j], rfl, hv j c _ hj hju, fun i u hu => ?_⟩
  have hlens : ∀ u ∈ us, u.length = ts.length := fun u hu => by
    obtain ⟨k, hk⟩ := List.getElem?_of_mem hu
    have hk' : k < es.length := by rw [← hl]; exact (List.getElem?_eq_some_iff.1 hk).1
    exact (hv k _ u (List.getElem?_eq_getElem hk') hk).length.2
  have := hc _ _ (flatten_get us hlens j i us[j] u hju hu)
  have e : (⟨b, 0, none⟩ : Addr).add (j * ts.length + i) = ⟨b, j * ts.length + i, none⟩ := by unfold Addr.add; split <;> simp_all
  rw [e] at this ⊢
  exact this

section
variable {P : Program} {c : Cx} {n : Nat} {σ : Sig} {a : Act} (h : Rel c n σ a) (dst : Option Tmp) (ty : TypeId) (pos : String) (after : Array Edge) (guard : Option (Nat × Bool)) (sigs : Sigs)
include h

/-- A new token. -/
theorem Rel.newTok (t : TypeId) (cells : Array Value) {cap : Nat} {ts : List Ty} (hsz : cells.size = cap * ts.length) :
    let c' : Cx := { c with ρ := c.ρ ++ [.tk (some (c.w.heap.size, 0, cap, ts.length))], w := c.w.alloc (.cells cells t) }
    cap ≤ maxLen → c.le c' ∧ Rel c' n { σ with o := σ.o ++ [.tok t ts.length (.lit ts [])] } a ∧ SVR c' (.gro σ.o.length (.lit ts [])) (.slice (some ⟨c.w.heap.size, 0, none⟩) 0 cap) := by
  intro c' hmax
  have hex : ∀ b o, excl c'.ρ b o → excl c.ρ b o ∨ b = c.w.heap.size := by
    rintro b o ⟨x, hx, hcov⟩
    rcases List.mem_append.1 hx with hx | hx
    · exact .inl ⟨x, hx, hcov⟩
    · simp at hx; subst hx; simp only [CO.covers] at hcov; exact .inr hcov.1
  have hcell : ∀ (ad : Addr) u, c.w.cell? ad = some u → c'.w.cell? ad = some u ∧ ad.block ≠ c.w.heap.size := fun ad u hu => by
    have hlt := World.block_lt_of_cell? c.w ad hu
    exact ⟨by rw [← hu]; exact World.cell?_alloc_lt _ _ _ hlt, Nat.ne_of_lt hlt⟩
  have happ : ∀ (id : Nat) x, c.ρ[id]? = some x → c'.ρ[id]? = some x := fun id x hx => by
      simp only [c']; rw [List.getElem?_append_left (List.getElem?_eq_some_iff.1 hx).1]; exact hx
  have hle : c.le c' := ⟨⟨[], by simp [c']⟩, fun id b hx => happ id _ hx, fun id x hx => ⟨x, happ id _ hx, .inl rfl⟩,
    fun ad u h1 h2 => ⟨⟨h1.1, fun he => (hex _ _ he).elim h1.2 (hcell ad u h2).2⟩, (hcell ad u h2).1⟩,
    fun ad u h1 h2 => ⟨fun he => (hex _ _ he).elim h1 (hcell ad u h2).2, (hcell ad u h2).1⟩⟩
  have hb : Kept c.fp c.w0 c'.w := h.below.alloc _
  have hnew : c'.w.heap[c.w.heap.size]? = some (.cells cells t (0, 0)) := by show (c.w.heap.push _)[_]? = _; rw [Array.getElem?_push, if_pos rfl]
  refine ⟨hle, ?_, ?_⟩
  · refine h.le hle rfl (by simp [c', h.olen]) ?_ ?_ hb
    · intro id ob co ho hco
      by_cases hid : id < σ.o.length
      · rw [List.getElem?_append_left hid] at ho
        simp only [c'] at hco
        rw [List.getElem?_append_left (by rw [← h.olen]; exact hid)] at hco
        exact (h.own id ob co ho hco).le hle rfl fun b hb => Below.heap_alloc _ _ _ (h.blockOf (List.mem_of_getElem? hco) hb).2
      · have hid' : id = σ.o.length := by
          have := (List.getElem?_eq_some_iff.1 ho).1
          simp at this; omega
        subst hid'
        simp at ho; subst ho
        simp only [c'] at hco
        rw [h.olen] at hco
        simp at hco; subst hco
        simp only [ORel, E.bd, E.bdss, E.den, E.denss, D.toL, tkLen]
        exact ⟨trivial, rfl, trivial, .inl h.below.size, Nat.zero_le _, cells, (0, 0), hnew, Nat.zero_le _, hsz⟩
    · intro i j ci cj bi bj hij hi hj hbi hbj
      simp only [c'] at hi hj
      have key : ∀ (i : Nat) ci bi, (c.ρ ++ [CO.tk (some (c.w.heap.size, 0, cap, ts.length))])[i]? = some ci → ci.block? = some bi → (c.ρ[i]? = some ci ∧ bi < c.w.heap.size) ∨ (i = c.ρ.length ∧ bi = c.w.heap.size) := by
        intro i ci bi hi hbi
        by_cases hl : i < c.ρ.length
        · rw [List.getElem?_append_left hl] at hi
          exact .inl ⟨hi, (h.blockOf (List.mem_of_getElem? hi) hbi).2⟩
        · have : i = c.ρ.length := by
            have := (List.getElem?_eq_some_iff.1 hi).1
            simp at this; omega
          subst this
          simp at hi; subst hi
          simp [CO.block?] at hbi
          exact .inr ⟨rfl, hbi.symm⟩
      rcases key i ci bi hi hbi with ⟨h1, h2⟩ | ⟨h1, h2⟩ <;> rcases key j cj bj hj hbj with ⟨h3, h4⟩ | ⟨h3, h4⟩
      · exact h.dist i j ci cj bi bj hij h1 h3 hbi hbj
      · omega
      · omega
      · omega
  · simp only [SVR, E.bd, E.bdss, E.ty, E.den, E.denss, D.toL, VR]
    refine ⟨trivial, ⟨[], _, cap, rfl, rfl, Nat.zero_le _, hmax, by simp, fun j c hj => by simp at hj⟩, some (c.w.heap.size, 0, cap, ts.length), by simp [c', h.olen], Nat.zero_le _, fun _ => by simp [tkVal]⟩

theorem good_buildSlice (t : TypeId) (len : Nat) (ps : Array (Nat × Operand)) : Good P c n σ a ⟨dst, .buildSlice t len ps, ty, pos, after, guard⟩ (sxOp P sigs σ ⟨dst, .buildSlice t len ps, ty, pos, after, guard⟩) := by
  simp only [sxOp]
  split
  · rename_i el hel
    have hu := elemTy_eq hel
    split
    · rename_i i ts hi hts
      split
      · rename_i hcond
        simp only [Bool.and_eq_true, decide_eq_true_eq] at hcond
        obtain ⟨hsz, hz, hsmall, hpos⟩ := hcond
        obtain ⟨z, hz⟩ := Option.isSome_iff_exists.1 hz
        split
        · rename_i h0
          simp only [Bool.and_eq_true, decide_eq_true_eq] at h0
          obtain ⟨rfl, hps⟩ := h0
          have hps : ps = #[] := by simpa using hps
          subst hps
          obtain ⟨h1, h2, h3⟩ := Rel.newTok h el #[] (cap := 0) (ts := ts) (by simp) (Nat.zero_le _)
          refine ⟨_, _, ?_, (by rfl), (by rfl), (by rfl), h1, h2, h3⟩
          simp [execOp, Instr.buildSlice, run_underlying hu, Go.sizeOf, typeInfo, hi, newRow, Instr.fill]
          rw [show (Array.range 0) = #[] by simp [Array.range]]
          simp
        · rename_i h0
          split
          · rename_i rows hrows
            split
            · rename_i hlen
              obtain ⟨q1, q2, q3, us, q4, q5, q6⟩ := litRows_sound 0 _ ((ps.toList.map (·.2)).map a.eval) hrows (by
                have := opvs_sound h (ps.toList.map (·.2))
                simpa [List.map_map, Function.comp_def] using this)
              obtain ⟨vs, hvs⟩ : ∃ vs, vs = (ps.toList.map (·.2)).map a.eval := ⟨_, rfl⟩
              rw [← hvs] at q4
              have hvl : vs.length = rows.length := by rw [← q5, ← q4]; simp
              have hlens : ∀ u ∈ us, u.length = i.size := fun u hu => by
                obtain ⟨k, hk⟩ := List.getElem?_of_mem hu
                have hk' : k < rows.length := by rw [← q5]; exact (List.getElem?_eq_some_iff.1 hk).1
                rw [hsz]; exact (q6 k _ u (List.getElem?_eq_getElem hk') hk).length.2
              have hparts : (ps.toList.map fun x => (x.1, a.eval x.2)) = (vs.zipIdx 0).map fun x => (x.2, x.1) := by
                rw [hvs]
                apply List.ext_getElem?
                intro k
                have hk := congrArg (·[k]?) q2
                simp only [List.map_map, Function.comp_def, List.getElem?_map, List.getElem?_zipIdx] at hk ⊢
                cases hp : ps.toList[k]? with
                | none => simp
                | some p =>
                  have hkl : k < rows.length := by
                    have := (List.getElem?_eq_some_iff.1 hp).1
                    have q1' := q1
                    rw [List.length_map] at q1'
                    omega
                  rw [hp, List.getElem?_range' hkl] at hk
                  simp at hk
                  simp [hk]
              obtain ⟨cells, hf, hcl⟩ := fill_rows (sz := i.size) vs 0 ((Array.range (len * i.size)).map (z.cells[· % z.cells.size]!)) (fun v hv => by
                have : v.cells.toList ∈ us := by rw [← q4]; exact List.mem_map_of_mem hv
                have := hlens _ this
                simpa using this) (by simp [hvl, hlen])
              have hcells : cells.toList = us.flatten := by
                rw [hcl, q4]
                simp [hvl, hlen]
              rw [← hparts] at hf
              obtain ⟨r1, r2, r3⟩ := Rel.newFree h el cells
              have hlpos : 0 < len := by
                rcases Nat.eq_zero_or_pos len with h | h
                · subst h
                  exfalso; apply h0
                  have : ps.toList.length = 0 := by simp at q1; simp [q1, hlen]
                  simpa using this
                · exact h
              have hne : ¬ len * i.size = 0 := fun he => by
                rcases Nat.mul_eq_zero.1 he with h | h <;> omega
              have hmax : len ≤ maxLen := Nat.le_trans (Nat.le_trans (Nat.le_mul_of_pos_right _ (by omega)) hsmall) (by decide)
              refine ⟨.slice (some ⟨c.w.heap.size, 0, none⟩) len len, _, ?_, (by rfl), (by rfl), (by rfl), r1, r2, ?_⟩
              · have := run_buildSlice (P := P) c.w t el len (ps.map fun x => (x.1, a.eval x.2)) cells i z hu hi hz (by omega) hne (by simpa using hf)
                simp only [execOp, this, Sem.run_bind, Result.andThen_ok, Sem.run_pure]
              · simp only [SVR, E.bd, E.ty, E.den]
                refine ⟨q3, ?_⟩
                have hdl : (E.denss c.η rows).length = len := by rw [denss_length, hlen]
                have := VR.ofRows (b := c.w.heap.size) (cap := len) (ts := ts) (es := E.denss c.η rows) (us := us) (ok := ({ c with w := c.w.alloc (.cells cells el) } : Cx).ok) (w := c.w.alloc (.cells cells el)) (by rw [denss_length, q5]) (by omega) hmax
                  (fun j r u hj hu => by
                    have hj' : j < rows.length := by have := (List.getElem?_eq_some_iff.1 hj).1; rwa [denss_length] at this
                    have hr := List.getElem?_eq_getElem hj'
                    rw [denss_get _ _ _ _ hr] at hj
                    injection hj with hj; subst hj
                    exact VRs.keeps r1.keeps _ _ _ (q6 j _ u hr hu))
                  (fun k u hu => by
                    rw [← hcells] at hu
                    exact r3 k u (by simpa using hu))
                rw [hdl] at this
                exact this
            · trivial
          · trivial
      · trivial
    · trivial
  · trivial
end
end Fw
