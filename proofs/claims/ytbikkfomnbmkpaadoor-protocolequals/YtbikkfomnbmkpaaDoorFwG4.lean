import Derived.Test.YtbikkfomnbmkpaaDoorFwG3
namespace Fw
open Go Go.RowKit

/-! ### 10c. Append -/
/-- A token as yet without a row. -/
theorem Rel.pushNone {c : Cx} {n : Nat} {σ : Sig} {a : Act} (h : Rel c n σ a) (t sz : Nat) (ts : List Ty) :
    let c' : Cx := { c with ρ := c.ρ ++ [.tk none] }
    c.le c' ∧ Rel c' n { σ with o := σ.o ++ [.tok t sz (.lit ts [])] } a := by
  intro c'
  have hex : ∀ b o, excl c'.ρ b o → excl c.ρ b o := by
    rintro b o ⟨x, hx, hcov⟩
    rcases List.mem_append.1 hx with hx | hx
    · exact ⟨x, hx, hcov⟩
    · simp at hx; subst hx; simp only [CO.covers] at hcov
  have happ : ∀ (id : Nat) x, c.ρ[id]? = some x → c'.ρ[id]? = some x := fun id x hx => by
      simp only [c']; rw [List.getElem?_append_left (List.getElem?_eq_some_iff.1 hx).1]; exact hx
  have hle : c.le c' := ⟨⟨[], by simp [c']⟩, fun id b hx => happ id _ hx, fun id x hx => ⟨x, happ id _ hx, .inl rfl⟩,
    fun ad u h1 h2 => ⟨⟨h1.1, fun he => h1.2 (hex _ _ he)⟩, h2⟩, fun ad u h1 h2 => ⟨fun he => h1 (hex _ _ he), h2⟩⟩
  refine ⟨hle, h.le hle rfl (by simp [c', h.olen]) ?_ ?_ h.below⟩
  · intro id ob co ho hco
    by_cases hid : id < σ.o.length
    · rw [List.getElem?_append_left hid] at ho
      simp only [c'] at hco
      rw [List.getElem?_append_left (by rw [← h.olen]; exact hid)] at hco
      exact (h.own id ob co ho hco).le hle rfl fun b hb => rfl
    · have hid' : id = σ.o.length := by
        have := (List.getElem?_eq_some_iff.1 ho).1
        simp at this; omega
      subst hid'
      simp at ho; subst ho
      simp only [c'] at hco
      rw [h.olen] at hco
      simp at hco; subst hco
      simp only [ORel, E.bd, E.bdss, E.den, E.denss, D.toL, tkLen]
      exact ⟨trivial, rfl, trivial⟩
  · intro i j ci cj bi bj hij hi hj hbi hbj
    simp only [c'] at hi hj
    have key : ∀ (i : Nat) ci bi, (c.ρ ++ [CO.tk none])[i]? = some ci → ci.block? = some bi → c.ρ[i]? = some ci := by
      intro i ci bi hi hbi
      by_cases hl : i < c.ρ.length
      · rw [List.getElem?_append_left hl] at hi; exact hi
      · have : i = c.ρ.length := by
          have := (List.getElem?_eq_some_iff.1 hi).1
          simp at this; omega
        subst this
        simp at hi; subst hi
        simp [CO.block?] at hbi
    exact h.dist i j ci cj bi bj hij (key i ci bi hi hbi) (key j cj bj hj hbj) hbi hbj

/-- A token's row goes on. -/
theorem Rel.retok {c : Cx} {n : Nat} {σ : Sig} {a : Act} (h : Rel c n σ a) {id : Nat} {x x' : Option (Nat × Nat × Nat × Nat)} {w' : World} {ob' : OB} (hold : c.ρ[id]? = some (.tk x))
    (hx : x' = x ∨ tkLen x < tkLen x')
    (hblk : ∀ b, (CO.tk x').block? = some b → (CO.tk x).block? = some b ∨ c.w.heap.size ≤ b)
    (hcov : ∀ b o, (CO.tk x').covers b o → (CO.tk x).covers b o ∨ c.w.heap.size ≤ b)
    (hmem : ∀ k, k < c.w.heap.size → (CO.tk x).block? ≠ some k → w'.heap[k]? = c.w.heap[k]?)
    (hcell : ∀ (ad : Addr) u, ¬ (CO.tk x).covers ad.block ad.off → c.w.cell? ad = some u → w'.cell? ad = some u)
    (hor : ORel { c with ρ := c.ρ.set id (.tk x'), w := w' } ob' (.tk x')) (hbelow : Kept c.fp c.w0 w') :
    let c' : Cx := { c with ρ := c.ρ.set id (.tk x'), w := w' }
    c.le c' ∧ Rel c' n { σ with o := σ.o.set id ob' } a := by
  intro c'
  have hidl : id < c.ρ.length := (List.getElem?_eq_some_iff.1 hold).1
  have hself : c'.ρ[id]? = some (.tk x') := by simp [c', hidl]
  have hne : ∀ i, i ≠ id → c'.ρ[i]? = c.ρ[i]? := fun i hi => by simp only [c']; exact List.getElem?_set_ne (Ne.symm hi)
  have hmemρ : ∀ y ∈ c'.ρ, y = .tk x' ∨ ∃ i, i ≠ id ∧ c.ρ[i]? = some y := fun y hy => by
    obtain ⟨i, hi⟩ := List.getElem?_of_mem hy
    by_cases he : i = id
    · subst he; rw [hself] at hi; injection hi with hi; exact .inl hi.symm
    · rw [hne i he] at hi; exact .inr ⟨i, he, hi⟩
  have hex : ∀ b o, b < c.w.heap.size → excl c'.ρ b o → excl c.ρ b o := by
    rintro b o hb ⟨y, hy, hc⟩
    rcases hmemρ y hy with rfl | ⟨i, _, hi⟩
    · rcases hcov b o hc with hc | hc
      · exact ⟨_, List.mem_of_getElem? hold, hc⟩
      · omega
    · exact ⟨y, List.mem_of_getElem? hi, hc⟩
  have hnotc : ∀ b o, ¬ excl c.ρ b o → ¬ (CO.tk x).covers b o := fun b o hn hc => hn ⟨_, List.mem_of_getElem? hold, hc⟩
  have hle : c.le c' := ⟨⟨[], by simp [c']⟩, fun i b hi => by
      by_cases he : i = id
      · subst he; rw [hold] at hi; cases hi
      · rw [hne i he]; exact hi, fun i y hi => by
      by_cases he : i = id
      · subst he; rw [hold] at hi; injection hi with hi; injection hi with hi; subst hi; exact ⟨x', hself, hx⟩
      · exact ⟨y, by rw [hne i he]; exact hi, .inl rfl⟩,
    fun ad u h1 h2 => ⟨⟨h1.1, fun he => h1.2 (hex _ _ (World.block_lt_of_cell? c.w ad h2) he)⟩, hcell ad u (hnotc _ _ h1.2) h2⟩,
    fun ad u h1 h2 => ⟨fun he => h1 (hex _ _ (World.block_lt_of_cell? c.w ad h2) he), hcell ad u (hnotc _ _ h1) h2⟩⟩
  refine ⟨hle, h.le hle rfl (by simp [c', h.olen]) ?_ ?_ hbelow⟩
  · intro i ob co ho hco
    by_cases he : i = id
    · subst he
      rw [hself] at hco; injection hco with hco; subst hco
      rw [List.getElem?_set_self (by rw [h.olen]; exact hidl)] at ho
      injection ho with ho; subst ho
      exact hor
    · rw [List.getElem?_set_ne (Ne.symm he)] at ho
      rw [hne i he] at hco
      exact (h.own i ob co ho hco).le hle rfl fun b hb => hmem b (h.blockOf (List.mem_of_getElem? hco) hb).2 fun hb' => h.dist i id co _ b b he hco hold hb hb' rfl
  · intro i j ci cj bi bj hij hi hj hbi hbj
    have key : ∀ (i : Nat) ci bi, c'.ρ[i]? = some ci → ci.block? = some bi → (i = id ∧ ((CO.tk x).block? = some bi ∨ c.w.heap.size ≤ bi)) ∨ (i ≠ id ∧ c.ρ[i]? = some ci ∧ bi < c.w.heap.size) := by
      intro i ci bi hi hbi
      by_cases he : i = id
      · subst he; rw [hself] at hi; injection hi with hi; subst hi
        exact .inl ⟨rfl, hblk _ hbi⟩
      · rw [hne i he] at hi
        exact .inr ⟨he, hi, (h.blockOf (List.mem_of_getElem? hi) hbi).2⟩
    rcases key i ci bi hi hbi with ⟨h1, h2⟩ | ⟨h1, h2, h2'⟩ <;> rcases key j cj bj hj hbj with ⟨h3, h4⟩ | ⟨h3, h4, h4'⟩
    · omega
    · rcases h2 with h2 | h2
      · exact h.dist id j _ cj bi bj (Ne.symm h3) hold h4 h2 hbj
      · omega
    · rcases h4 with h4 | h4
      · exact h.dist i id ci _ bi bj h1 h2 hold hbi h4
      · omega
    · exact h.dist i j ci cj bi bj hij h2 h4 hbi hbj

/-- The cells of a slice, row by row. -/
theorem VR.rows {ok : Ok} {w : World} {ts : List Ty} {d : D} {v : Value} (h : VR ok w (.slc ts) d v) : ∃ (A : Option Addr) (cap : Nat) (us : List (List Value)), v = .slice A d.toL.length cap ∧ d.toL.length ≤ cap ∧ cap ≤ maxLen ∧ (A = none → cap = 0) ∧ us.length = d.toL.length ∧
    (∀ (j : Nat) r u, d.toL[j]? = some r → us[j]? = some u → VRs ok w ts r u) ∧ (∀ u ∈ us, u.length = ts.length) ∧
    (∀ ad, A = some ad → ∀ i u, us.flatten[i]? = some u → ok (ad.add i).block (ad.add i).off ∧ w.cell? (ad.add i) = some u) := by
  simp only [VR] at h
  obtain ⟨es, A, cap, rfl, rfl, h1, h2, h3, h4⟩ := h
  simp only [D.toL]
  have hch : ∀ j : Nat, ∃ vs : List Value, ∀ c, es[j]? = some c → VRs ok w ts c vs ∧ ∃ ad, A = some ad ∧ ∀ i u, vs[i]? = some u → ok (ad.add (j * ts.length + i)).block (ad.add (j * ts.length + i)).off ∧ w.cell? (ad.add (j * ts.length + i)) = some u := fun j => by
    cases hj : es[j]? with
    | none => exact ⟨[], fun c hc => by cases hc⟩
    | some c =>
      obtain ⟨ad, vs, ha, hv, hc⟩ := h4 j c hj
      exact ⟨vs, fun c' hc' => by injection hc' with hc'; subst hc'; exact ⟨hv, ad, ha, hc⟩⟩
  let F : Nat → List Value := fun j => Classical.choose (hch j)
  have hF : ∀ j c, es[j]? = some c → VRs ok w ts c (F j) ∧ ∃ ad, A = some ad ∧ ∀ i u, (F j)[i]? = some u → ok (ad.add (j * ts.length + i)).block (ad.add (j * ts.length + i)).off ∧ w.cell? (ad.add (j * ts.length + i)) = some u := fun j => Classical.choose_spec (hch j)
  have hget : ∀ (j : Nat) u, ((List.range es.length).map F)[j]? = some u → j < es.length ∧ u = F j := fun j u hu => by
    simp only [List.getElem?_map, Option.map_eq_some_iff] at hu
    obtain ⟨k, hk, rfl⟩ := hu
    have hl := (List.getElem?_eq_some_iff.1 hk).1
    simp at hl
    rw [List.getElem?_range hl] at hk
    injection hk with hk; subst hk
    exact ⟨hl, rfl⟩
  have hlens : ∀ u ∈ (List.range es.length).map F, u.length = ts.length := fun u hu => by
    obtain ⟨j, hj⟩ := List.getElem?_of_mem hu
    obtain ⟨hl, rfl⟩ := hget j u hj
    exact (hF j _ (List.getElem?_eq_getElem hl)).1.length.2
  refine ⟨A, cap, (List.range es.length).map F, rfl, h1, h2, h3, by simp, fun j r u hr hu => ?_, hlens, fun ad ha i u hu => ?_⟩
  · obtain ⟨_, rfl⟩ := hget j u hu
    exact (hF j r hr).1
  · have hlt := (List.getElem?_eq_some_iff.1 hu).1
    rw [flatten_len _ hlens] at hlt
    simp at hlt
    have hsz : 0 < ts.length := by
      rcases Nat.eq_zero_or_pos ts.length with h | h
      · rw [h] at hlt; omega
      · exact h
    have hj : i / ts.length < es.length := Nat.div_lt_of_lt_mul (by rw [Nat.mul_comm]; exact hlt)
    have hjF : ((List.range es.length).map F)[i / ts.length]? = some (F (i / ts.length)) := by simp [List.getElem?_range hj]
    obtain ⟨hv, ad', ha', hc⟩ := hF _ _ (List.getElem?_eq_getElem hj)
    rw [ha] at ha'; injection ha' with ha'; subst ha'
    have hmod : i % ts.length < (F (i / ts.length)).length := by rw [hv.length.2]; exact Nat.mod_lt _ hsz
    have hx := List.getElem?_eq_getElem hmod
    have hi : i / ts.length * ts.length + i % ts.length = i := by rw [Nat.mul_comm]; exact Nat.div_add_mod _ _
    have h5 := flatten_get _ hlens _ _ _ _ hjF hx
    rw [hi, hu] at h5; injection h5 with h5
    have h6 := hc _ _ hx
    rw [hi, ← h5] at h6
    exact h6
end Fw
