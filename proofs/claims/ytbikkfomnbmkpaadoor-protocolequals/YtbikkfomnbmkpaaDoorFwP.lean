import Derived.Test.YtbikkfomnbmkpaaDoorFwO
namespace Fw
open Go Go.RowKit

theorem ckToks_length : ∀ (i : Nat) (cks : List CK), (ckToks i cks).length = CK.ngro cks
  | _, [] => rfl
  | i, .un :: r => by simp [ckToks, CK.ngro, ckToks_length i r]
  | i, .pl t :: r => by simp [ckToks, CK.ngro, ckToks_length (i + 1) r]
  | i, .gro tt ts :: r => by simp [ckToks, CK.ngro, ckToks_length (i + 1) r]
  | i, .sp :: r => by simp [ckToks, CK.ngro, ckToks_length (i + 1) r]
theorem K.obs_length (i : Nat) (ids : List Nat) (k : K) : (k.obs i ids).length = k.nobs := by
  cases k <;> simp [K.obs, K.nobs, ckToks_length]
theorem K.obss_length (all : Bool) : ∀ (i : Nat) (ids : List Nat) (ks : List K), (K.obss all i ids ks).length = K.nobss ks
  | _, _, [] => rfl
  | i, ids, k :: ks => by simp [K.obss, K.nobss, K.obs_length, K.obss_length all _ _ ks]
theorem take_range' (k m n : Nat) (h : m ≤ n) : (List.range' k n).take m = List.range' k m := by
  apply List.ext_getElem?
  intro i
  rw [List.getElem?_take]
  by_cases hi : i < m
  · rw [if_pos hi, List.getElem?_range' (by omega), List.getElem?_range' hi]
  · rw [if_neg hi, List.getElem?_eq_none (by simp; omega)]
theorem drop_range'_ (k m n : Nat) : (List.range' k n).drop m = List.range' (k + m) (n - m) := by
  rw [List.drop_range']; simp
theorem range'_get {k n j t : Nat} (h : (List.range' k n)[j]? = some t) : t = k + j ∧ j < n := by
  obtain ⟨h1, h2⟩ := List.getElem?_eq_some_iff.1 h
  simp at h1 h2
  exact ⟨h2.symm, h1⟩
theorem ckRead_ids {o : List OB} {self : Nat} : ∀ (cks : List CK) (cs : List SV) {es : List E} {ids : List Nat}, ckRead o self cks cs = some (es, ids) → ∀ id ∈ ids, id < o.length := by
  intro cks
  induction cks with
  | nil =>
    intro cs es ids h
    cases cs with
    | nil => simp [ckRead] at h; obtain ⟨rfl, rfl⟩ := h; simp
    | cons => simp [ckRead] at h
  | cons ck r ih =>
    intro cs es ids h
    cases cs with
    | nil => cases ck <;> simp [ckRead] at h
    | cons s ss =>
      cases ck with
      | un => simp only [ckRead] at h; exact ih ss h
      | pl t =>
        simp only [ckRead] at h
        split at h
        · rename_i e es' ids' _ h'
          split at h
          · simp only [Option.some.injEq, Prod.mk.injEq] at h
            obtain ⟨rfl, rfl⟩ := h
            exact ih ss h'
          · cases h
        · cases h
      | gro tt ts =>
        cases s with
        | gro id e =>
          simp only [ckRead] at h
          split at h
          · rename_i tt' sz cur es' ids' ho h'
            split at h
            · simp only [Option.some.injEq, Prod.mk.injEq] at h
              obtain ⟨rfl, rfl⟩ := h
              intro id' hid
              rcases List.mem_cons.1 hid with rfl | hid
              · exact (List.getElem?_eq_some_iff.1 ho).1
              · exact ih ss h' id' hid
            · cases h
          · cases h
        | _ => simp [ckRead] at h
      | sp =>
        cases s with
        | sp id e =>
          simp only [ckRead] at h
          split at h
          · rename_i es' ids' h'
            split at h
            · simp only [Option.some.injEq, Prod.mk.injEq] at h
              obtain ⟨rfl, rfl⟩ := h
              exact ih ss h'
            · cases h
          · cases h
        | _ => simp [ckRead] at h
theorem toObj_ids {o : List OB} {bt : Nat} {cks : List CK} {s : SV} {es : List E} {ids : List Nat} (h : toObj o bt cks s = some (es, ids)) : ∀ id ∈ ids, id < o.length := by
  unfold toObj at h
  split at h
  · rename_i id
    split at h
    · rename_i bt' cs ho
      split at h
      case isFalse => cases h
      simp only [Option.map_eq_some_iff, Prod.mk.injEq] at h
      obtain ⟨⟨es0, ids0⟩, hck, rfl, rfl⟩ := h
      intro id' hid
      rcases List.mem_cons.1 hid with rfl | hid
      · exact (List.getElem?_eq_some_iff.1 ho).1
      · exact ckRead_ids _ _ hck id' hid
    · cases h
  · cases h
theorem toArgsO_ids {o : List OB} : ∀ (ss : List SV) {os : List (Option (Nat × List CK))} {r : ArgsO}, toArgsO o os ss = some r → ∀ id ∈ r.ids, id < o.length
  | [], os, r, h => by
    have : toArgsO o os [] = some ⟨[], [], [], []⟩ := by cases os with | nil => rfl | cons x _ => cases x <;> rfl
    rw [this] at h; injection h with h; subst h; simp
  | s :: ss, os, r, h => by
    unfold toArgsO at h
    split at h
    · simp_all
    · rename_i bt cks os' s' ss' heq
      injection heq with h1 h2; subst h1 h2
      split at h
      · rename_i es ids r' ho hr
        simp only [Option.some.injEq] at h; subst h
        intro id hid
        rcases List.mem_append.1 hid with hid | hid
        · exact toObj_ids ho id hid
        · exact toArgsO_ids ss hr id hid
      · cases h
    · rename_i os' s' ss' _ heq
      injection heq with h1 h2; subst h1 h2
      split at h
      · rename_i k es r' ho hr
        simp only [Option.some.injEq] at h; subst h
        intro id hid
        exact toArgsO_ids ss hr id hid
      · cases h

section
variable {c cc : Cx}
theorem toArgsO_sound {o : List OB} (hown : Own c o) (hw : cc.w = c.w) (hok : ∀ b o, c.ok b o → cc.ok b o) (hraw : ∀ b o, ¬ excl c.ρ b o → ¬ excl cc.ρ b o) :
    ∀ (ss : List SV) {os : List (Option (Nat × List CK))} {r : ArgsO} {vs : List Value} (i oid : Nat), toArgsO o os ss = some r → SVRs c ss vs →
      (∀ (j : Nat) s, r.ids[j]? = some s → cc.ρ[oid + j]? = c.ρ[s]?) → (∀ s ∈ r.ids, ∀ co b, c.ρ[s]? = some co → co.block? = some b → cc.mine b) →
      (∀ id ∈ r.refs, ∀ b, c.ρ[id]? = some (.blk b) → ∀ o, ¬ excl cc.ρ b o) → (∀ (j : Nat) e, r.es[j]? = some e → cc.η[i + j]? = some (e.den c.η)) →
      E.bds c.η.length r.es = true ∧ r.es.length = (K.tyss r.ks).length ∧ r.ids.length = K.nobss r.ks ∧ SVRs cc (argSVs i oid r.ks) vs ∧
        ∀ (j : Nat) ob co, (K.obss true i (List.range' oid (K.nobss r.ks)) r.ks)[j]? = some ob → cc.ρ[oid + j]? = some co → ORel cc ob co
  | [], os, r, vs, i, oid, h, hv, hρ, hm, hx, hη => by
    have : toArgsO o os [] = some ⟨[], [], [], []⟩ := by cases os with | nil => rfl | cons x _ => cases x <;> rfl
    rw [this] at h; injection h with h; subst h
    simp only [SVRs] at hv; subst hv
    exact ⟨rfl, rfl, rfl, by simp [argSVs, SVRs], fun j ob co h => by simp [K.obss] at h⟩
  | s :: ss, os, r, vs, i, oid, h, hv, hρ, hm, hx, hη => by
    simp only [SVRs] at hv
    obtain ⟨v, vs', rfl, hv1, hv2⟩ := hv
    unfold toArgsO at h
    split at h
    · simp_all
    · rename_i bt cks os' s' ss' heq
      injection heq with h1 h2; subst h1 h2
      split at h
      · rename_i es ids r' ho hr
        simp only [Option.some.injEq] at h; subst h
        simp only at hρ hm hx hη ⊢
        obtain ⟨q1, q2, q3, q4, q5⟩ := toObj_sound (cc := cc) (tgt := List.range' oid ids.length) (i := i) hown hw hok ho hv1 (by simp)
          (fun j s t h3 h4 => by obtain ⟨rfl, _⟩ := range'_get h4; exact hρ j s (by rw [List.getElem?_append_left (List.getElem?_eq_some_iff.1 h3).1]; exact h3))
          (fun s hs => hm s (List.mem_append_left _ hs)) (fun j e hj => hη j e (by rw [List.getElem?_append_left (List.getElem?_eq_some_iff.1 hj).1]; exact hj))
        obtain ⟨w1, w2, w3, w4, w5⟩ := toArgsO_sound hown hw hok hraw ss (i + (CK.tyss cks).length) (oid + (CK.ngro cks + 1)) hr hv2
          (fun j s hj => by have := hρ (ids.length + j) s (by rw [List.getElem?_append_right (by omega), Nat.add_sub_cancel_left]; exact hj); rwa [q3, ← Nat.add_assoc] at this)
          (fun s hs => hm s (List.mem_append_right _ hs)) hx
          (fun j e hj => by have := hη (es.length + j) e (by rw [List.getElem?_append_right (by omega), Nat.add_sub_cancel_left]; exact hj); rwa [q2, ← Nat.add_assoc] at this)
        refine ⟨by simp [E.bds_append, q1, w1], by simp [K.tyss, K.tys, q2, w2], by simp [K.nobss, K.nobs, q3, w3], ?_, ?_⟩
        · simp only [argSVs, SVRs, argSV, K.tys, K.nobs]
          exact ⟨v, vs', rfl, by rw [q3] at q4; simpa [List.range'_succ] using q4, w4⟩
        · intro j ob co hj hco
          simp only [K.obss, K.nobss, K.nobs, K.tys, if_true, drop_range'_, take_range' _ _ _ (Nat.le_add_right (CK.ngro cks + 1) _), Nat.add_sub_cancel_left] at hj
          by_cases hlt : j < CK.ngro cks + 1
          · rw [List.getElem?_append_left (by rw [K.obs_length]; exact hlt)] at hj
            refine q5 j ob (oid + j) co (by rw [q3]; exact hj) (by rw [q3]; simp [hlt]) hco
          · rw [List.getElem?_append_right (by rw [K.obs_length]; simp [K.nobs]; omega), K.obs_length] at hj
            refine w5 (j - (CK.ngro cks + 1)) ob co hj ?_
            rw [show oid + (CK.ngro cks + 1) + (j - (CK.ngro cks + 1)) = oid + j by omega]; exact hco
      · cases h
    · rename_i os' s' ss' _ heq
      injection heq with h1 h2; subst h1 h2
      split at h
      · rename_i k es r' ho hr
        simp only [Option.some.injEq] at h; subst h
        simp only at hρ hm hx hη ⊢
        obtain ⟨q1, q2, q3, q4⟩ := toArg_move hown hw hok hraw s i oid hv1 ho (fun id hid => hx id (List.mem_append_left _ hid)) (fun j e hj => hη j e (by rw [List.getElem?_append_left (List.getElem?_eq_some_iff.1 hj).1]; exact hj))
        obtain ⟨w1, w2, w3, w4, w5⟩ := toArgsO_sound hown hw hok hraw ss (i + k.tys.length) oid hr hv2 hρ hm (fun id hid => hx id (List.mem_append_right _ hid))
          (fun j e hj => by have := hη (es.length + j) e (by rw [List.getElem?_append_right (by omega), Nat.add_sub_cancel_left]; exact hj); rwa [q2, ← Nat.add_assoc] at this)
        refine ⟨by simp [E.bds_append, q1, w1], by simp [K.tyss, q2, w2], by simp [K.nobss, q3, w3], ?_, ?_⟩
        · simp only [argSVs, SVRs]
          exact ⟨v, vs', rfl, q4, by simpa [q3] using w4⟩
        · intro j ob co hj hco
          have h0 : ∀ l, k.obs i l = [] := fun l => List.length_eq_zero_iff.1 (by rw [K.obs_length, q3])
          simp only [K.obss, K.nobss, q3, Nat.zero_add, List.drop_zero, if_true] at hj
          rw [h0, List.nil_append] at hj
          exact w5 j ob co hj hco
      · cases h

/-- Cells of an object told by other variables, in another setting. -/
theorem ck_move (hw : cc.w = c.w) (hok : ∀ b o, c.ok b o → cc.ok b o) (hmine : ∀ b, c.mine b → b < c.w.heap.size → cc.mine b) {self self' b : Nat} (h1 : c.ρ[self]? = some (.blk b)) (h2 : cc.ρ[self']? = some (.blk b)) :
    ∀ (cks : List CK) (i i' : Nat) (idsA idsB : List Nat) (vs : List Value), SVRs c (ckCells i self idsA cks) vs → idsA.length = CK.ngro cks → idsB.length = CK.ngro cks →
      (∀ (j : Nat) s t, idsA[j]? = some s → idsB[j]? = some t → cc.ρ[t]? = c.ρ[s]?) → (∀ j < (CK.tyss cks).length, ∃ d, c.η[i + j]? = some d ∧ cc.η[i' + j]? = some d) →
      SVRs cc (ckCells i' self' idsB cks) vs ∧
      ((∀ (j : Nat) ob s co, (ckToks i cks)[j]? = some ob → idsA[j]? = some s → c.ρ[s]? = some co → ORel c ob co) → ∀ (j : Nat) ob t co, (ckToks i' cks)[j]? = some ob → idsB[j]? = some t → cc.ρ[t]? = some co → ORel cc ob co) := by
  intro cks
  induction cks with
  | nil =>
    intro i i' idsA idsB vs hv _ _ _ _
    exact ⟨by simpa [ckCells, SVRs] using hv, fun _ j ob t co h => by simp [ckToks] at h⟩
  | cons ck r ih =>
    intro i i' idsA idsB vs hv hA hB hρ hη
    cases ck with
    | un =>
      simp only [ckCells, SVRs] at hv ⊢
      obtain ⟨v, vs', rfl, _, hv⟩ := hv
      obtain ⟨q1, q2⟩ := ih i i' idsA idsB vs' hv hA hB hρ hη
      exact ⟨⟨v, vs', rfl, by simp only [SVR], q1⟩, q2⟩
    | pl t =>
      simp only [ckCells, SVRs] at hv ⊢
      obtain ⟨v, vs', rfl, hv0, hv⟩ := hv
      simp only [CK.tyss, CK.tys, List.singleton_append, List.length_cons] at hη
      obtain ⟨q1, q2⟩ := ih (i + 1) (i' + 1) idsA idsB vs' hv hA hB hρ (fun j hj => by have := hη (j + 1) (by omega); simpa [Nat.add_assoc, Nat.add_comm 1] using this)
      refine ⟨⟨v, vs', rfl, ?_, q1⟩, q2⟩
      obtain ⟨d, e1, e2⟩ := hη 0 (by omega)
      simp only [SVR, E.ty, E.den] at hv0
      have hd : c.η.getD i default = d := by rw [List.getD_eq_getElem?_getD, show c.η[i]? = some d from e1]; rfl
      rw [hd] at hv0
      have hl := (List.getElem?_eq_some_iff.1 e2).1
      simp only [SVR, E.bd, E.ty, E.den]
      rw [List.getD_eq_getElem?_getD, show cc.η[i']? = some d from e2, hw]
      exact ⟨by simpa using hl, VR.keeps (Keeps.weaken hok) _ _ _ hv0.2⟩
    | gro tt ts =>
      cases idsA with
      | nil => simp [CK.ngro] at hA
      | cons sA idsA =>
        cases idsB with
        | nil => simp [CK.ngro] at hB
        | cons sB idsB =>
          simp only [ckCells, SVRs, List.headD_cons, List.tail_cons] at hv ⊢
          obtain ⟨v, vs', rfl, hv0, hv⟩ := hv
          simp only [CK.tyss, CK.tys, List.singleton_append, List.length_cons] at hη
          obtain ⟨q1, q2⟩ := ih (i + 1) (i' + 1) idsA idsB vs' hv (by simpa [CK.ngro] using hA) (by simpa [CK.ngro] using hB) (fun j s t h3 h4 => hρ (j + 1) s t (by simpa using h3) (by simpa using h4))
            (fun j hj => by have := hη (j + 1) (by omega); simpa [Nat.add_assoc, Nat.add_comm 1] using this)
          obtain ⟨d, e1, e2⟩ := hη 0 (by omega)
          have hρ0 := hρ 0 sA sB rfl rfl
          have hd : (E.v i (.slc ts)).den c.η = d := by simp only [E.den]; rw [List.getD_eq_getElem?_getD, show c.η[i]? = some d from e1]; rfl
          have hd' : (E.v i' (.slc ts)).den cc.η = d := by simp only [E.den]; rw [List.getD_eq_getElem?_getD, show cc.η[i']? = some d from e2]; rfl
          have hl := (List.getElem?_eq_some_iff.1 e2).1
          have hbd : (E.v i' (.slc ts)).bd cc.η.length = true := by simp only [E.bd]; simpa using hl
          constructor
          · refine ⟨v, vs', rfl, ?_, q1⟩
            simp only [SVR, E.ty] at hv0 ⊢
            rw [hd] at hv0; rw [hd', hw, hρ0]
            obtain ⟨_, w2, w3⟩ := hv0
            exact ⟨hbd, VR.keeps (Keeps.weaken hok) _ _ _ w2, w3⟩
          · intro hor j ob t co hj ht hco
            cases j with
            | zero =>
              simp [ckToks] at hj ht; subst hj ht
              rw [hρ0] at hco
              have h0 := hor 0 _ sA co rfl rfl hco
              cases co with
              | blk b => simp only [ORel] at h0
              | tk x =>
                simp only [ORel] at h0 ⊢
                rw [hd] at h0; rw [hd']
                refine ⟨hbd, h0.2.1, ?_⟩
                have h3 := h0.2.2
                cases x with
                | none => trivial
                | some x =>
                  obtain ⟨b', len, cap, sz'⟩ := x
                  simp only at h3 ⊢
                  obtain ⟨g1, g2, g3, arr, fr, g4, g5⟩ := h3
                  exact ⟨g1, hmine b' g2 (Array.getElem?_eq_some_iff.1 g4).1, g3, arr, fr, by rw [hw]; exact g4, g5⟩
            | succ j => exact q2 (fun j ob s co h5 h6 h7 => hor (j + 1) ob s co (by simpa [ckToks] using h5) (by simpa using h6) h7) j ob t co (by simpa [ckToks] using hj) (by simpa using ht) hco
    | sp =>
      simp only [ckCells, SVRs] at hv ⊢
      obtain ⟨v, vs', rfl, hv0, hv⟩ := hv
      simp only [CK.tyss, CK.tys, List.singleton_append, List.length_cons] at hη
      obtain ⟨q1, q2⟩ := ih (i + 1) (i' + 1) idsA idsB vs' hv hA hB hρ (fun j hj => by have := hη (j + 1) (by omega); simpa [Nat.add_assoc, Nat.add_comm 1] using this)
      refine ⟨⟨v, vs', rfl, ?_, q1⟩, q2⟩
      obtain ⟨d, e1, e2⟩ := hη 0 (by omega)
      have hl := (List.getElem?_eq_some_iff.1 e2).1
      simp only [SVR, E.bd, E.den] at hv0 ⊢
      obtain ⟨_, b', x, w2, w3, w4⟩ := hv0
      rw [h1] at w2; injection w2 with w2; injection w2 with w2; subst w2
      rw [List.getD_eq_getElem?_getD, show c.η[i]? = some d from e1] at w3
      exact ⟨by simpa using hl, b, x, h2, by rw [List.getD_eq_getElem?_getD, show cc.η[i']? = some d from e2]; exact w3, w4⟩

theorem obss_move (hw : cc.w = c.w) (hok : ∀ b o, c.ok b o → cc.ok b o) (hmine : ∀ b, c.mine b → b < c.w.heap.size → cc.mine b) :
    ∀ (ks : List K) (i i' : Nat) (idsA idsB : List Nat), idsA.length = K.nobss ks → idsB.length = K.nobss ks →
      (∀ (j : Nat) s t, idsA[j]? = some s → idsB[j]? = some t → cc.ρ[t]? = c.ρ[s]?) → (∀ s ∈ idsA, s < c.ρ.length) → (∀ j < (K.otyss ks).length, ∃ d, c.η[i + j]? = some d ∧ cc.η[i' + j]? = some d) →
      (∀ (j : Nat) ob s co, (K.obss false i idsA ks)[j]? = some ob → idsA[j]? = some s → c.ρ[s]? = some co → ORel c ob co) →
      ∀ (j : Nat) ob t co, (K.obss false i' idsB ks)[j]? = some ob → idsB[j]? = some t → cc.ρ[t]? = some co → ORel cc ob co := by
  intro ks
  induction ks with
  | nil => intro i i' idsA idsB _ _ _ _ _ _ j ob t co h; simp [K.obss] at h
  | cons k ks ih =>
    intro i i' idsA idsB hA hB hρ hin hη hor j ob t co hj ht hco
    simp only [K.nobss] at hA hB
    simp only [K.obss, Bool.false_eq_true, if_false] at hj hor
    simp only [K.otyss, List.length_append] at hη
    by_cases hlt : j < k.nobs
    · rw [List.getElem?_append_left (by rw [K.obs_length]; exact hlt)] at hj
      cases k with
      | obj bt cks =>
        have hn : (K.obj bt cks).nobs = CK.ngro cks + 1 := rfl
        rw [hn] at hj hA hB hlt hor
        cases idsA with
        | nil => simp at hA; omega
        | cons sA idsA =>
          cases idsB with
          | nil => simp at hB; omega
          | cons sB idsB =>
            simp only [List.take_succ_cons] at hj hor
            have hρ0 := hρ 0 sA sB rfl rfl
            have hlA : sA < c.ρ.length := hin sA (List.mem_cons_self ..)
            have hcoA := List.getElem?_eq_getElem hlA
            have hbox := hor 0 (.box bt (ckCells i sA (idsA.take (CK.ngro cks)) cks)) sA _ (by rw [List.getElem?_append_left (by rw [K.obs_length]; exact Nat.succ_pos _)]; simp [K.obs]) rfl hcoA
            generalize c.ρ[sA] = coA at hcoA hbox
            cases coA with
            | tk x => simp only [ORel] at hbox
            | blk b =>
              simp only [ORel] at hbox
              obtain ⟨g1, arr, g2, g3⟩ := hbox
              simp only [List.length_cons] at hA hB
              have hb' : cc.ρ[sB]? = some (.blk b) := by rw [hρ0]; exact hcoA
              obtain ⟨m1, m2⟩ := ck_move hw hok hmine hcoA hb' cks i i' (idsA.take (CK.ngro cks)) (idsB.take (CK.ngro cks)) arr.toList g3 (by rw [List.length_take]; omega) (by rw [List.length_take]; omega)
                (fun j s t h3 h4 => by
                  rw [List.getElem?_take] at h3 h4
                  split at h3
                  · rename_i hj'
                    rw [if_pos hj'] at h4
                    exact hρ (j + 1) s t (by simpa using h3) (by simpa using h4)
                  · cases h3)
                (fun j hj => hη j (by simp only [K.otys]; omega))
              cases j with
              | zero =>
                simp [K.obs] at hj ht; subst hj ht
                rw [hb'] at hco; injection hco with hco; subst hco
                simp only [ORel]
                exact ⟨hmine b g1 (Array.getElem?_eq_some_iff.1 g2).1, arr, by rw [hw]; exact g2, m1⟩
              | succ j =>
                refine m2 (fun j ob s co h5 h6 h7 => ?_) j ob t co (by simpa [K.obs] using hj) (by rw [List.getElem?_take, if_pos (by omega)]; simpa using ht) hco
                rw [List.getElem?_take] at h6
                split at h6
                · rename_i hj'
                  refine hor (j + 1) ob s co ?_ (by simpa using h6) h7
                  rw [List.getElem?_append_left (by rw [K.obs_length, hn]; omega)]
                  simpa [K.obs] using h5
                · cases h6
      | _ => simp [K.nobs] at hlt
    · rw [List.getElem?_append_right (by rw [K.obs_length]; omega), K.obs_length] at hj
      have hdr : ∀ (l : List Nat) (j : Nat), (l.drop k.nobs)[j]? = l[k.nobs + j]? := fun l j => List.getElem?_drop
      refine ih (i + k.otys.length) (i' + k.otys.length) (idsA.drop k.nobs) (idsB.drop k.nobs) (by rw [List.length_drop]; omega) (by rw [List.length_drop]; omega)
        (fun j s t h3 h4 => hρ (k.nobs + j) s t (by rw [← hdr]; exact h3) (by rw [← hdr]; exact h4)) (fun s hs => hin s (List.mem_of_mem_drop hs))
        (fun j hj => by have := hη (k.otys.length + j) (by omega); simpa [Nat.add_assoc] using this)
        (fun j ob s co h5 h6 h7 => hor (k.nobs + j) ob s co (by rw [List.getElem?_append_right (by rw [K.obs_length]; omega), K.obs_length, Nat.add_sub_cancel_left]; exact h5) (by rw [← hdr]; exact h6) h7)
        (j - k.nobs) ob t co hj (by rw [hdr, show k.nobs + (j - k.nobs) = j by omega]; exact ht) hco
end
end Fw
