import Derived.Test.YtbikkfomnbmkpaaDoorFwG
namespace Fw
open Go Go.RowKit

/-! ### 13. Returns, calls' results, jumps -/
mutual
theorem KR.weaken {ok ok' : Ok} {w : World} (h : ∀ b o, ok b o → ok' b o) : ∀ (k : K) (ds : List D) (v : Value), KR ok w k ds v → KR ok' w k ds v
  | .one t, _, _, hk => by
    simp only [KR] at hk ⊢
    obtain ⟨d, rfl, hv⟩ := hk
    exact ⟨d, rfl, VR.keeps (Keeps.weaken h) _ _ _ hv⟩
  | .agg ts, _, _, hk => by
    simp only [KR] at hk ⊢
    obtain ⟨us, rfl, hv⟩ := hk
    exact ⟨us, rfl, VRs.keeps (Keeps.weaken h) _ _ _ hv⟩
  | .ref ts, _, _, hk => by
    simp only [KR] at hk ⊢
    obtain ⟨ad, us, rfl, hv, hc⟩ := hk
    exact ⟨ad, us, rfl, VRs.keeps (Keeps.weaken h) _ _ _ hv, hc⟩
  | .clo g cs, _, _, hk => by
    simp only [KR] at hk ⊢
    obtain ⟨us, rfl, hv⟩ := hk
    exact ⟨us, rfl, KRs.weaken h _ _ _ hv⟩
  | .unk, _, _, hk => hk
theorem KRs.weaken {ok ok' : Ok} {w : World} (h : ∀ b o, ok b o → ok' b o) : ∀ (ks : List K) (ds : List D) (vs : List Value), KRs ok w ks ds vs → KRs ok' w ks ds vs
  | [], _, _, hk => by simpa only [KRs] using hk
  | k :: ks, _, _, hk => by
    simp only [KRs] at hk ⊢
    obtain ⟨d1, d2, v, vs', rfl, rfl, h1, h2⟩ := hk
    exact ⟨d1, d2, v, vs', rfl, rfl, KR.weaken h _ _ _ h1, KRs.weaken h _ _ _ h2⟩
end

theorem toRes_sound {c : Cx} : ∀ {rk : List K} {ss : List SV} {vs : List Value} {es : List E}, toRes rk ss = some es → SVRs c ss vs → KRs c.ok c.w rk (E.dens c.η es) vs
  | [], ss, vs, es, he, h => by
    cases ss with
    | nil =>
      simp only [toRes, Option.some.injEq] at he; subst he
      simp only [SVRs] at h; subst h
      simp [KRs, E.dens]
    | cons s ss => simp [toRes] at he
  | .one t :: rk, ss, vs, es, he, h => by
    cases ss with
    | nil => simp [toRes] at he
    | cons s ss =>
      simp only [toRes] at he
      simp only [SVRs] at h
      obtain ⟨v, vs', rfl, h1, h2⟩ := h
      split at he
      · rename_i e es' hs hss
        split at he
        · rename_i hb
          simp only [Option.some.injEq] at he; subst he
          have heq := Ty.beq_eq _ _ hb
          obtain ⟨_, hv⟩ := ex_sound (nilAs_sound t h1) hs
          simp only [KRs, E.dens]
          exact ⟨[e.den c.η], _, v, vs', rfl, rfl, by simp only [KR]; exact ⟨_, rfl, heq ▸ hv⟩, toRes_sound hss h2⟩
        · cases he
      · cases he
  | .agg ts :: rk, ss, vs, es, he, h => by
    cases ss with
    | nil => simp [toRes] at he
    | cons s ss =>
      cases s with
      | agg xs =>
        simp only [toRes] at he
        simp only [SVRs] at h
        obtain ⟨v, vs', rfl, h1, h2⟩ := h
        split at he
        · rename_i es1 es2 hs hss
          split at he
          · rename_i hb
            simp only [Option.some.injEq] at he; subst he
            have heq := Ty.beqs_eq _ _ hb
            simp only [SVR] at h1
            obtain ⟨us, rfl, h1⟩ := h1
            obtain ⟨_, hv⟩ := exs_sound (fillNil_sound ts h1) hs
            simp only [KRs, E.dens_append]
            exact ⟨_, _, _, vs', rfl, rfl, by simp only [KR]; exact ⟨us, rfl, heq ▸ hv⟩, toRes_sound hss h2⟩
          · cases he
        · cases he
      | _ => simp [toRes] at he
  | .unk :: rk, ss, vs, es, he, h => by
    cases ss with
    | nil => simp [toRes] at he
    | cons s ss =>
      simp only [toRes] at he
      simp only [SVRs] at h
      obtain ⟨v, vs', rfl, h1, h2⟩ := h
      simp only [KRs]
      exact ⟨[], _, v, vs', rfl, rfl, by simp only [KR], toRes_sound he h2⟩
  | .obj _ _ :: rk, ss, vs, es, he, h => by cases ss <;> simp [toRes] at he
  | .ref ts :: rk, ss, vs, es, he, h => by simp [toRes] at he
  | .clo g cs :: rk, ss, vs, es, he, h => by simp [toRes] at he

def resF (tmps : Array Value) : ResultVar → Sem Value
  | .tmp t => pure (tmps.getD t undef)
  | .cell ad t => do loadVar t (← asAddr (tmps.getD ad undef))
theorem results_resF (fn : Func) (tmps : Array Value) : results fn tmps = (do let vs ← fn.results.mapM (resF tmps); pure (if h : vs.size = 1 then vs[0] else .tuple vs)) := by
  unfold results
  congr 2
theorem resVals_sound {P : Program} {c : Cx} {n : Nat} {σ : Sig} {a : Act} (h : Rel c n σ a) : ∀ (l : List ResultVar) {ss : List SV}, resVals P σ l = some ss →
    ∃ vs, (l.mapM (resF a.tmps)).run P c.w = .ok vs c.w ∧ SVRs c ss vs
  | [], ss, hs => by
    simp only [resVals, Option.some.injEq] at hs; subst hs
    exact ⟨[], by simp, by simp [SVRs]⟩
  | .tmp t :: l, ss, hs => by
    simp only [resVals, Option.map_eq_some_iff] at hs
    obtain ⟨ss', hs, rfl⟩ := hs
    obtain ⟨vs, h1, h2⟩ := resVals_sound h l hs
    refine ⟨a.tmps.getD t undef :: vs, ?_, by simp only [SVRs]; exact ⟨_, _, rfl, h.tmps t, h2⟩⟩
    simp only [List.mapM_cons, resF, pure_bind, Sem.run_bind, h1, Result.andThen_ok, Sem.run_pure]
  | .cell ad ty :: l, ss, hs => by
    simp only [resVals] at hs
    split at hs
    · cases hs
    rename_i hk
    have hk : Fw.known P ty = true := by simpa using hk
    have ht := h.tmps ad
    split at hs
    · rename_i id off he
      rw [he] at ht
      simp only [SVR] at ht
      obtain ⟨b, hb, hv⟩ := ht
      split at hs
      · rename_i cs hcs
        have ho := h.own id _ _ hcs hb
        simp only [ORel] at ho
        obtain ⟨_, arr, hh, hcells⟩ := ho
        split at hs
        · rename_i s ss' hca hss
          simp only [Option.some.injEq] at hs; subst hs
          obtain ⟨v, hr, hsv⟩ := cellsAt_sound (P := P) (c := c) (ad := ⟨b, off, none⟩) hk (hcells.drop off) (fun i u hu => by
            rw [cell_add hh]; rw [List.getElem?_drop] at hu; simpa using hu) hca
          obtain ⟨vs, h1, h2⟩ := resVals_sound h l hss
          refine ⟨v :: vs, ?_, by simp only [SVRs]; exact ⟨_, _, rfl, hsv, h2⟩⟩
          simp only [List.mapM_cons, resF, Sem.run_bind, hv, asAddr, Sem.run_pure, Result.andThen_ok, hr, h1]
        · cases hs
      · cases hs
    · cases hs
theorem run_results {P : Program} {c : Cx} {n : Nat} {σ : Sig} {a : Act} (h : Rel c n σ a) {fn : Func} {ss : List SV} (hs : resVals P σ fn.results.toList = some ss) :
    ∃ vs, (results fn a.tmps).run P c.w = .ok (packed vs) c.w ∧ SVRs c ss vs := by
  obtain ⟨vs, h1, h2⟩ := resVals_sound h _ hs
  refine ⟨vs, ?_, h2⟩
  rw [results_resF, Array.mapM_eq_mapM_toList]
  simp only [map_eq_pure_bind, bind_assoc, pure_bind, Sem.run_bind]
  rw [h1]
  match vs with
  | [] => rfl
  | [t] => rfl
  | t1 :: t2 :: ts => simp [packed]

/-- What a call hands back, as variables. -/
theorem resSVs_sound {c : Cx} {ok : Ok} (hok : ∀ b o, ok b o → c.ok b o) : ∀ {ks : List K} {ds : List D} {us : List Value} (pre post : Env), KRs ok c.w ks ds us → c.η = pre ++ ds ++ post →
    ds.length = (K.tyss ks).length ∧ SVRs c (resSVs pre.length ks) us
  | [], ds, us, pre, post, h, hη => by
    simp only [KRs] at h
    obtain ⟨rfl, rfl⟩ := h
    simp [K.tyss, resSVs, SVRs]
  | k :: ks, ds, us, pre, post, h, hη => by
    simp only [KRs] at h
    obtain ⟨d1, d2, v, vs', rfl, rfl, h1, h2⟩ := h
    have tl : ∀ (t : Ty) (i : Nat) (d : D) (u : Value), VR ok c.w t d u → i < c.η.length → c.η.getD i default = d → SVR c (.sc (.v i t)) u := fun t i d u hv hi hd => by
      simp only [SVR, E.bd, E.ty, E.den]
      exact ⟨by simpa using hi, by rw [hd]; exact VR.keeps (Keeps.weaken hok) _ _ _ hv⟩
    cases k with
    | one t =>
      simp only [KR] at h1
      obtain ⟨d, rfl, hv⟩ := h1
      obtain ⟨l2, r2⟩ := resSVs_sound hok (ks := ks) (pre ++ [d]) post h2 (by rw [hη]; simp)
      refine ⟨by simp [K.tyss, K.tys, l2, Nat.add_comm], ?_⟩
      simp only [resSVs, SVRs, resSV, K.tys]
      exact ⟨v, vs', rfl, tl t _ d v hv (by rw [hη]; simp) (by rw [hη]; simp), by simpa using r2⟩
    | agg ts =>
      simp only [KR] at h1
      obtain ⟨us, rfl, hv⟩ := h1
      obtain ⟨q1, q2⟩ := hv.length
      obtain ⟨l2, r2⟩ := resSVs_sound hok (ks := ks) (pre ++ d1) post h2 (by rw [hη]; simp)
      refine ⟨by simp [K.tyss, K.tys, l2, q1], ?_⟩
      simp only [resSVs, SVRs, resSV, K.tys]
      refine ⟨_, vs', rfl, ?_, by simpa [q1] using r2⟩
      simp only [SVR]
      refine ⟨us, rfl, .of_get (by simp [q2]) fun j s u hs hu => ?_⟩
      simp only [List.getElem?_mapIdx, Option.map_eq_some_iff] at hs
      obtain ⟨t, ht, rfl⟩ := hs
      obtain ⟨u', hu', hvr⟩ := hv.get ht
      rw [hu] at hu'; injection hu' with hu'; subst hu'
      have hj : j < d1.length := by rw [q1]; exact (List.getElem?_eq_some_iff.1 ht).1
      refine tl t _ _ u hvr (by rw [hη]; simp; omega) ?_
      rw [hη]
      simp [List.getElem?_append, hj, show ¬ (pre.length + j < pre.length) by omega]
    | ref ts =>
      simp only [KR] at h1
      obtain ⟨ad, us, rfl, hv, _⟩ := h1
      obtain ⟨q1, q2⟩ := hv.length
      obtain ⟨l2, r2⟩ := resSVs_sound hok (ks := ks) (pre ++ d1) post h2 (by rw [hη]; simp)
      refine ⟨by simp [K.tyss, K.tys, l2, q1], ?_⟩
      simp only [resSVs, SVRs, resSV, K.tys]
      exact ⟨_, vs', rfl, by simp only [SVR], by simpa [q1] using r2⟩
    | obj t cks => simp only [KR] at h1
    | unk =>
      simp only [KR] at h1
      subst h1
      obtain ⟨l2, r2⟩ := resSVs_sound hok (ks := ks) pre post h2 (by rw [hη]; simp)
      refine ⟨by simp [K.tyss, K.tys, l2], ?_⟩
      simp only [resSVs, SVRs, resSV, K.tys]
      exact ⟨v, vs', rfl, by simp only [SVR], by simpa using r2⟩
    | clo g cs =>
      simp only [KR] at h1
      obtain ⟨us, rfl, hv⟩ := h1
      obtain ⟨l1, _⟩ := resSVs_sound hok (ks := cs) pre (d2 ++ post) hv (by rw [hη]; simp)
      obtain ⟨l2, r2⟩ := resSVs_sound hok (ks := ks) (pre ++ d1) post h2 (by rw [hη]; simp)
      refine ⟨by simp [K.tyss, K.tys, l2, l1], ?_⟩
      simp only [resSVs, SVRs, resSV, K.tys]
      exact ⟨_, vs', rfl, by simp only [SVR], by simpa [l1] using r2⟩
theorem resPacked_sound {c : Cx} {i : Nat} {ks : List K} {us : List Value} (h : SVRs c (resSVs i ks) us) : SVR c (resPacked i ks) (packed us) := by
  unfold resPacked
  have hl := h.length
  split
  · rename_i s hs
    rw [hs] at h
    simp only [SVRs] at h
    obtain ⟨v, vs', rfl, h1, rfl⟩ := h
    exact h1
  · rename_i ss hss
    have : packed us = .tuple us.toArray := by
      match us, hl with
      | [], _ => rfl
      | [u], hl =>
        cases hr : resSVs i ks with
        | nil => rw [hr] at hl; simp at hl
        | cons s r =>
          cases r with
          | nil => exact absurd hr (hss s)
          | cons _ _ => rw [hr] at hl; simp at hl
      | _ :: _ :: _, _ => rfl
    rw [this]
    simp only [SVR]
    exact ⟨_, rfl, by simpa using h⟩

/-- The state that a jump comes to. -/
structure J (c c' : Cx) (m : Nat) : Prop where
  ok : ∀ b o, c.ok b o → c'.ok b o
  w : c'.w = c.w
  w0 : c'.b0 = c.b0
  ρ : ∀ (id : Nat) x, id < m → c.ρ[id]? = some x → c'.ρ[id]? = some x
  new : ∀ id : Nat, c.ρ.length ≤ id → id < m → c'.ρ[id]? = some (.tk none)
  ex : ∀ b o, excl c'.ρ b o → excl c.ρ b o
  len : c'.ρ.length = m

mutual
theorem _root_.Fw.Ty.beq_refl : ∀ t : Ty, t.beq t = true
  | .bool | .int _ | .str => by simp [Ty.beq]
  | .slc ts => by simp [Ty.beq, Ty.beqs_refl ts]
theorem _root_.Fw.Ty.beqs_refl : ∀ ts : List Ty, Ty.beqs ts ts = true
  | [] => rfl
  | t :: ts => by simp [Ty.beqs, Ty.beq_refl t, Ty.beqs_refl ts]
end
mutual
theorem readSV_sound {c c' : Cx} {m : Nat} (hJ : J c c' m) :
    ∀ (s tm : SV) {v : Value} {r : List (Nat × E)}, readSV m c.ρ.length s tm = some r → SVR c s v → (∀ p ∈ r, p.1 < c'.η.length ∧ c'.η.getD p.1 default = p.2.den c.η) → SVR c' tm v := by
  intro s tm v r hr h hp
  have hvar : ∀ (i : Nat) (t : Ty) (e : E) (v : Value), e.ty.beq t = true → (i, e) ∈ r → VR c.ok c.w e.ty (e.den c.η) v → (E.v i t).bd c'.η.length = true ∧ VR c'.ok c'.w (E.v i t).ty ((E.v i t).den c'.η) v := fun i t e v hb hm hv => by
    obtain ⟨h1, h2⟩ := hp _ hm
    simp only [E.bd, E.ty, E.den]
    refine ⟨by simpa using h1, ?_⟩
    rw [h2, ← Ty.beq_eq _ _ hb, hJ.w]
    exact VR.keeps (Keeps.weaken hJ.ok) _ _ _ hv
  unfold readSV at hr
  split at hr
  · simp only [SVR]
  · simpa only [SVR] using h
  · rename_i s i t
    split at hr
    · rename_i e he
      split at hr
      · rename_i hb
        simp only [Option.some.injEq] at hr; subst hr
        simp only [SVR]
        exact hvar i t e v hb (List.mem_cons_self ..) (ex_sound (nilAs_sound t h) he).2
      · cases hr
    · cases hr
  · split at hr
    · rename_i x y hxy; subst hxy
      simp only [SVR, E.bd, E.ty, E.den] at h ⊢
      exact ⟨trivial, by obtain ⟨b, h1, h2⟩ := h.2; exact ⟨b, h1, h2⟩⟩
    · cases hr
  · split at hr
    · rename_i hxy; obtain ⟨rfl, rfl⟩ := hxy
      simp only [SVR, E.bd, E.ty, E.den] at h ⊢
      exact ⟨trivial, by obtain ⟨b, h1, h2⟩ := h.2; exact ⟨b, h1, h2⟩⟩
    · cases hr
  · rename_i ts ss
    simp only [SVR] at h ⊢
    obtain ⟨us, rfl, h⟩ := h
    exact ⟨us, rfl, readSVs_sound hJ ss ts hr h hp⟩
  · rename_i ts ss
    simp only [SVR] at h ⊢
    obtain ⟨ad, us, rfl, h, hc⟩ := h
    exact ⟨ad, us, rfl, readSVs_sound hJ ss ts hr h hp, fun i u hu => ⟨fun he => (hc i u hu).1 (hJ.ex _ _ he), by rw [hJ.w]; exact (hc i u hu).2⟩⟩
  · split at hr
    · rename_i hid; obtain ⟨rfl, rfl, hm⟩ := hid
      simp only [SVR] at h ⊢
      obtain ⟨b, hb, rfl⟩ := h
      exact ⟨b, hJ.ρ _ _ hm hb, rfl⟩
    · cases hr
  · rename_i g ts g' ss
    split at hr
    · rename_i hg; subst hg
      simp only [SVR] at h ⊢
      obtain ⟨us, rfl, h⟩ := h
      exact ⟨us, rfl, readSVs_sound hJ ss ts hr h hp⟩
    · cases hr
  · rename_i id i t id' e
    split at hr
    · rename_i hc
      simp only [Bool.and_eq_true, decide_eq_true_eq] at hc
      obtain ⟨rfl, hm, hb⟩ := hc
      simp only [Option.some.injEq] at hr; subst hr
      simp only [SVR] at h ⊢
      obtain ⟨h1, h2, x, hx, hv⟩ := h
      obtain ⟨q1, q2⟩ := hvar i t e v hb (List.mem_cons_self ..) h2
      have hd : (E.v i t).den c'.η = e.den c.η := by simp only [E.den]; exact (hp _ (List.mem_cons_self ..)).2
      rw [hd] at q2 ⊢
      exact ⟨q1, q2, x, hJ.ρ _ _ hm hx, hv⟩
    · cases hr
  · rename_i id i id' e
    split at hr
    · rename_i hc
      simp only [Bool.and_eq_true, decide_eq_true_eq] at hc
      obtain ⟨rfl, hm, hb⟩ := hc
      simp only [Option.some.injEq] at hr; subst hr
      simp only [SVR] at h ⊢
      obtain ⟨_, b, x, h1, h2, h3⟩ := h
      obtain ⟨q1, q2⟩ := hp _ (List.mem_cons_self ..)
      refine ⟨by simp only [E.bd]; simpa using q1, b, x, hJ.ρ _ _ hm h1, by simp only [E.den]; rw [q2]; exact h2, h3⟩
    · cases hr
  · rename_i id i us
    split at hr
    · rename_i hc
      simp only [Bool.and_eq_true, decide_eq_true_eq] at hc
      simp only [Option.some.injEq] at hr; subst hr
      simp only [SVR] at h ⊢
      subst h
      obtain ⟨q1, q2⟩ := hvar i (.slc us) (.lit us []) (.slice none 0 0) (by have : ∀ ts, Ty.beqs ts ts = true := Ty.beqs_refl; simp [E.ty, Ty.beq, this]) (List.mem_cons_self ..) (by
        simp only [E.ty, E.den, E.denss, VR]
        exact ⟨[], none, 0, rfl, rfl, Nat.le_refl _, Nat.zero_le _, fun _ => rfl, fun j c hc => by simp at hc⟩)
      have hd : (E.v i (.slc us)).den c'.η = .slc [] := by simp only [E.den]; rw [(hp _ (List.mem_cons_self ..)).2]; simp [E.den, E.denss]
      rw [hd] at q2 ⊢
      exact ⟨q1, q2, none, hJ.new _ hc.1 hc.2, Nat.le_refl _, fun _ => rfl⟩
    · cases hr
  · cases hr
termination_by s => sizeOf s
theorem readSVs_sound {c c' : Cx} {m : Nat} (hJ : J c c' m) :
    ∀ (ss tms : List SV) {vs : List Value} {r : List (Nat × E)}, readSVs m c.ρ.length ss tms = some r → SVRs c ss vs → (∀ p ∈ r, p.1 < c'.η.length ∧ c'.η.getD p.1 default = p.2.den c.η) → SVRs c' tms vs := by
  intro ss tms vs r hr h hp
  unfold readSVs at hr
  split at hr
  · simpa only [SVRs] using h
  · rename_i tm tms s ss
    split at hr
    · rename_i r1 r2 h1 h2
      simp only [Option.some.injEq] at hr; subst hr
      simp only [SVRs] at h ⊢
      obtain ⟨v, vs', rfl, hv, hvs⟩ := h
      exact ⟨v, vs', rfl, readSV_sound hJ s tm h1 hv (fun p hp' => hp p (List.mem_append_left _ hp')), readSVs_sound hJ ss tms h2 hvs (fun p hp' => hp p (List.mem_append_right _ hp'))⟩
    · cases hr
  · cases hr
termination_by ss => sizeOf ss
end
end Fw
