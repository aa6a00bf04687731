import Derived.Test.YtbikkfomnbmkpaaDoorFwK
namespace Fw
open Go Go.RowKit

@[simp] theorem D.toI_int (k : IntKind) (n : Int) : (D.int k n).toI = n := rfl
@[simp] theorem D.toB_bool (b : Bool) : (D.bool b).toB = b := rfl
@[simp] theorem D.toS_str (b : ByteArray) : (D.str b).toS = b := rfl
@[simp] theorem D.toL_slc (b : List (List D)) : (D.slc b).toL = b := rfl
/-! ### 17. Laws on what a tree comes to -/
section
variable {C : Nat → List K → List D → List K → List D → Prop} {B : Nat → T}
theorem EvN.mono {h h' : Nat} {t : T} {η : Env} {rs : List D} (hh : EvN C B h t η rs) (hle : h ≤ h') : EvN C B h' t η rs := by
  induction hh generalizing h' with
  | ret hr => exact .ret hr
  | iteT hc ht ih => cases h' with
    | zero => omega
    | succ h' => exact .iteT hc (ih (by omega))
  | iteF hc ht ih => cases h' with
    | zero => omega
    | succ h' => exact .iteF hc (ih (by omega))
  | guard hc ht ih => cases h' with
    | zero => omega
    | succ h' => exact .guard hc (ih (by omega))
  | may ht he ih1 ih2 => cases h' with
    | zero => omega
    | succ h' => exact .may (fun hc => ih1 hc (by omega)) (ih2 (by omega))
  | call hc hl ht ih => cases h' with
    | zero => omega
    | succ h' => exact .call hc hl (ih (by omega))
  | jump ht ih => cases h' with
    | zero => omega
    | succ h' => exact .jump (ih (by omega))
theorem Ev.ret {xs : List E} {η : Env} {rs : List D} (h : E.dens η xs = rs) : Ev C B (.ret xs) η rs := ⟨0, .ret h⟩
theorem Ev.ite {c : E} {t e : T} {η : Env} {rs : List D} (h1 : (c.den η).toB = true → Ev C B t η rs) (h2 : (c.den η).toB = false → Ev C B e η rs) : Ev C B (.ite c t e) η rs := by
  cases hc : (c.den η).toB with
  | true => obtain ⟨h, hh⟩ := h1 hc; exact ⟨_, .iteT hc hh⟩
  | false => obtain ⟨h, hh⟩ := h2 hc; exact ⟨_, .iteF hc hh⟩
theorem Ev.guard {c : E} {t : T} {η : Env} {rs : List D} (hc : (c.den η).toB = true) (ht : Ev C B t η rs) : Ev C B (.guard c t) η rs := by
  obtain ⟨h, hh⟩ := ht; exact ⟨_, .guard hc hh⟩
theorem Ev.may {c : E} {t e : T} {η : Env} {rs : List D} (h1 : (c.den η).toB = true → Ev C B t η rs) (h2 : Ev C B e η rs) : Ev C B (.may c t e) η rs := by
  obtain ⟨h, hh⟩ := h2
  cases hc : (c.den η).toB with
  | true =>
    obtain ⟨h', hh'⟩ := h1 hc
    exact ⟨max h h' + 1, .may (fun _ => hh'.mono (Nat.le_max_right ..)) (hh.mono (Nat.le_max_left ..))⟩
  | false => exact ⟨h + 1, .may (fun h' => by rw [hc] at h'; cases h') hh⟩
theorem Ev.call {g : Nat} {ks rk : List K} {as : List E} {t : T} {η : Env} {xs rs : List D} (hc : C g ks (E.dens η as) rk xs) (hl : xs.length = (K.rts ks rk).length) (ht : Ev C B t (η ++ xs) rs) : Ev C B (.call g ks as rk t) η rs := by
  obtain ⟨h, hh⟩ := ht; exact ⟨_, .call hc hl hh⟩
theorem Ev.jump {l : Nat} {as : List E} {η : Env} {rs : List D} (ht : Ev C B (B l) (E.dens η as) rs) : Ev C B (.jump l as) η rs := by
  obtain ⟨h, hh⟩ := ht; exact ⟨_, .jump hh⟩
theorem Ev.ite_iff {c : E} {t e : T} {η : Env} {rs : List D} : Ev C B (.ite c t e) η rs ↔ if (c.den η).toB then Ev C B t η rs else Ev C B e η rs := by
  constructor
  · rintro ⟨h, hh⟩
    cases hh with
    | iteT hc ht => rw [if_pos hc]; exact ⟨_, ht⟩
    | iteF hc ht => rw [if_neg (by rw [hc]; simp)]; exact ⟨_, ht⟩
  · intro h
    exact .ite (fun hc => by rwa [if_pos hc] at h) (fun hc => by rwa [if_neg (by rw [hc]; simp)] at h)
theorem Ev.guard_iff {c : E} {t : T} {η : Env} {rs : List D} : Ev C B (.guard c t) η rs ↔ (c.den η).toB = true ∧ Ev C B t η rs := by
  constructor
  · rintro ⟨h, hh⟩
    cases hh with
    | guard hc ht => exact ⟨hc, _, ht⟩
  · exact fun h => .guard h.1 h.2
theorem Ev.ret_iff {xs : List E} {η : Env} {rs : List D} : Ev C B (.ret xs) η rs ↔ E.dens η xs = rs := by
  constructor
  · rintro ⟨h, hh⟩
    cases hh with
    | ret hr => exact hr
  · exact .ret
theorem Ev.jump_iff {l : Nat} {as : List E} {η : Env} {rs : List D} : Ev C B (.jump l as) η rs ↔ Ev C B (B l) (E.dens η as) rs := by
  constructor
  · rintro ⟨h, hh⟩
    cases hh with
    | jump ht => exact ⟨_, ht⟩
  · exact .jump
theorem Ev.may_iff {c : E} {t e : T} {η : Env} {rs : List D} : Ev C B (.may c t e) η rs ↔ ((c.den η).toB = true → Ev C B t η rs) ∧ Ev C B e η rs := by
  constructor
  · rintro ⟨h, hh⟩
    cases hh with
    | may ht he => exact ⟨fun hc => ⟨_, ht hc⟩, _, he⟩
  · exact fun h => .may h.1 h.2
end
/-- Calls by a function of the data, where a condition on the data holds. -/
def ByS (Pre : Nat → List K → List D → List K → Prop) (S : Nat → List D → List D) (g : Nat) (ks : List K) (ds : List D) (rk : List K) (xs : List D) : Prop := Pre g ks ds rk ∧ xs = S g ds
theorem Ev.call_iff {Pre : Nat → List K → List D → List K → Prop} {S : Nat → List D → List D} {B : Nat → T} {g : Nat} {ks rk : List K} {as : List E} {t : T} {η : Env} {rs : List D} :
    Ev (ByS Pre S) B (.call g ks as rk t) η rs ↔ Pre g ks (E.dens η as) rk ∧ (S g (E.dens η as)).length = (K.rts ks rk).length ∧ Ev (ByS Pre S) B t (η ++ S g (E.dens η as)) rs := by
  constructor
  · rintro ⟨h, hh⟩
    cases hh with
    | call hc hl ht =>
      obtain ⟨h1, rfl⟩ := hc
      exact ⟨h1, hl, _, ht⟩
  · rintro ⟨h1, h2, h3⟩
    exact .call ⟨h1, rfl⟩ h2 h3
theorem EvN.monoC {C C' : Nat → List K → List D → List K → List D → Prop} {B : Nat → T} (hC : ∀ g ks ds rk xs, C g ks ds rk xs → C' g ks ds rk xs) {h : Nat} {t : T} {η : Env} {rs : List D} (hh : EvN C B h t η rs) : EvN C' B h t η rs := by
  induction hh with
  | ret hr => exact .ret hr
  | iteT hc ht ih => exact .iteT hc ih
  | iteF hc ht ih => exact .iteF hc ih
  | guard hc ht ih => exact .guard hc ih
  | may ht he ih1 ih2 => exact .may ih1 ih2
  | call hc hl ht ih => exact .call (hC _ _ _ _ _ hc) hl ih
  | jump ht ih => exact .jump ih
theorem Ev.monoC {C C' : Nat → List K → List D → List K → List D → Prop} {B : Nat → T} (hC : ∀ g ks ds rk xs, C g ks ds rk xs → C' g ks ds rk xs) {t : T} {η : Env} {rs : List D} (hh : Ev C B t η rs) : Ev C' B t η rs :=
  let ⟨h, hh⟩ := hh; ⟨h, hh.monoC hC⟩

/-! Data of a type. -/
mutual
def D.wt : Ty → D → Prop
  | .bool, d => ∃ b, d = .bool b
  | .int k, d => ∃ n, d = .int k n
  | .str, d => ∃ s, d = .str s
  | .slc ts, d => ∃ es, d = .slc es ∧ es.length ≤ maxLen ∧ ∀ c ∈ es, D.wts ts c
def D.wts : List Ty → List D → Prop
  | [], ds => ds = []
  | t :: ts, ds => ∃ d ds', ds = d :: ds' ∧ D.wt t d ∧ D.wts ts ds'
end
mutual
theorem VR.wt {ok : Ok} {w : World} : ∀ (t : Ty) (d : D) (v : Value), VR ok w t d v → D.wt t d
  | .bool, _, _, h => by simp only [VR] at h; obtain ⟨b, rfl, _⟩ := h; exact ⟨b, rfl⟩
  | .int k, _, _, h => by simp only [VR] at h; obtain ⟨b, rfl, _⟩ := h; simp only [D.wt]; exact ⟨b, rfl⟩
  | .str, _, _, h => by simp only [VR] at h; obtain ⟨b, rfl, _⟩ := h; exact ⟨b, rfl⟩
  | .slc ts, d, v, h => by
    simp only [VR] at h
    obtain ⟨es, A, cap, rfl, _, h1, h2, _, h4⟩ := h
    simp only [D.wt]
    refine ⟨es, rfl, Nat.le_trans h1 h2, fun c hc => ?_⟩
    obtain ⟨j, hj⟩ := List.getElem?_of_mem hc
    obtain ⟨ad, vs, _, hv, _⟩ := h4 j c hj
    exact VRs.wt ts c vs hv
theorem VRs.wt {ok : Ok} {w : World} : ∀ (ts : List Ty) (ds : List D) (vs : List Value), VRs ok w ts ds vs → D.wts ts ds
  | [], _, _, h => by simp only [VRs] at h; simp only [D.wts]; exact h.1
  | t :: ts, _, _, h => by
    simp only [VRs] at h
    obtain ⟨d, ds', v, vs', rfl, _, h1, h2⟩ := h
    simp only [D.wts]
    exact ⟨d, ds', rfl, VR.wt t d v h1, VRs.wt ts ds' vs' h2⟩
end
theorem D.wts_append : ∀ {ts us : List Ty} {ds es : List D}, D.wts ts ds → D.wts us es → D.wts (ts ++ us) (ds ++ es)
  | [], us, ds, es, h, h' => by simp only [D.wts] at h; subst h; simpa using h'
  | t :: ts, us, ds, es, h, h' => by
    simp only [D.wts] at h
    obtain ⟨d, ds', rfl, h1, h2⟩ := h
    simp only [List.cons_append, D.wts]
    exact ⟨d, _, rfl, h1, D.wts_append h2 h'⟩
mutual
theorem KR.wt {ok : Ok} {w : World} : ∀ (k : K) (ds : List D) (v : Value), KR ok w k ds v → D.wts k.tys ds
  | .one t, ds, v, h => by
    simp only [KR] at h
    obtain ⟨d, rfl, hv⟩ := h
    simp only [K.tys, D.wts]
    exact ⟨d, [], rfl, VR.wt t d v hv, rfl⟩
  | .agg ts, ds, v, h => by
    simp only [KR] at h
    obtain ⟨us, _, hv⟩ := h
    exact VRs.wt ts ds _ hv
  | .ref ts, ds, v, h => by
    simp only [KR] at h
    obtain ⟨a, us, _, hv, _⟩ := h
    exact VRs.wt ts ds _ hv
  | .clo g cs, ds, v, h => by
    simp only [KR] at h
    obtain ⟨us, _, hv⟩ := h
    exact KRs.wt cs ds _ hv
  | .obj _ cks, ds, v, h => by simp only [KR] at h
  | .unk, ds, v, h => by simp only [KR] at h; simp only [K.tys, D.wts]; exact h
theorem KRs.wt {ok : Ok} {w : World} : ∀ (ks : List K) (ds : List D) (vs : List Value), KRs ok w ks ds vs → D.wts (K.tyss ks) ds
  | [], ds, vs, h => by simp only [KRs] at h; simp only [K.tyss, D.wts]; exact h.1
  | k :: ks, ds, vs, h => by
    simp only [KRs] at h
    obtain ⟨d1, d2, v, vs', rfl, _, h1, h2⟩ := h
    simp only [K.tyss]
    exact D.wts_append (KR.wt k d1 v h1) (KRs.wt ks d2 vs' h2)
end
/-- Data may be taken to be of their types. -/
theorem ckCells_wt {c : Cx} {self : Nat} : ∀ (cks : List CK) (i : Nat) (ids : List Nat) (vs : List Value) (ds : List D), SVRs c (ckCells i self ids cks) vs → (∀ j d, ds[j]? = some d → c.η[i + j]? = some d) → ds.length = (CK.tyss cks).length → D.wts (CK.tyss cks) ds
  | [], i, ids, vs, ds, _, _, hl => by
    have : ds = [] := List.length_eq_zero_iff.1 hl
    subst this; simp [CK.tyss, D.wts]
  | .un :: r, i, ids, vs, ds, h, hη, hl => by
    simp only [ckCells, SVRs] at h
    obtain ⟨v, vs', rfl, _, h⟩ := h
    exact ckCells_wt r i ids vs' ds h hη hl
  | .pl t :: r, i, ids, vs, ds, h, hη, hl => by
    simp only [ckCells, SVRs] at h
    obtain ⟨v, vs', rfl, h0, h⟩ := h
    cases ds with
    | nil => simp [CK.tyss, CK.tys] at hl
    | cons d ds =>
      have hd := hη 0 d rfl
      rw [Nat.add_zero] at hd
      simp only [SVR, E.ty, E.den, List.getD_eq_getElem?_getD, hd, Option.getD_some] at h0
      simp only [CK.tyss, CK.tys, List.singleton_append, D.wts]
      exact ⟨d, ds, rfl, VR.wt _ _ _ h0.2, ckCells_wt r (i + 1) ids vs' ds h (fun j d' hj => by have := hη (j + 1) d' (by simpa using hj); rwa [show i + (j + 1) = i + 1 + j by omega] at this) (by simpa [CK.tyss, CK.tys] using hl)⟩
  | .gro tt ts :: r, i, ids, vs, ds, h, hη, hl => by
    simp only [ckCells, SVRs] at h
    obtain ⟨v, vs', rfl, h0, h⟩ := h
    cases ds with
    | nil => simp [CK.tyss, CK.tys] at hl
    | cons d ds =>
      have hd := hη 0 d rfl
      rw [Nat.add_zero] at hd
      simp only [SVR, E.ty, E.den, List.getD_eq_getElem?_getD, hd, Option.getD_some] at h0
      simp only [CK.tyss, CK.tys, List.singleton_append]
      exact ⟨d, ds, rfl, VR.wt _ _ _ h0.2.1, ckCells_wt r (i + 1) ids.tail vs' ds h (fun j d' hj => by have := hη (j + 1) d' (by simpa using hj); rwa [show i + (j + 1) = i + 1 + j by omega] at this) (by simpa [CK.tyss, CK.tys] using hl)⟩
  | .sp :: r, i, ids, vs, ds, h, hη, hl => by
    simp only [ckCells, SVRs] at h
    obtain ⟨v, vs', rfl, h0, h⟩ := h
    cases ds with
    | nil => simp [CK.tyss, CK.tys] at hl
    | cons d ds =>
      have hd := hη 0 d rfl
      rw [Nat.add_zero] at hd
      simp only [SVR, E.den, List.getD_eq_getElem?_getD, hd, Option.getD_some] at h0
      obtain ⟨_, b, x, _, hx, _⟩ := h0
      simp only [CK.tyss, CK.tys, List.singleton_append]
      exact ⟨d, ds, rfl, ⟨x, hx⟩, ckCells_wt r (i + 1) ids vs' ds h (fun j d' hj => by have := hη (j + 1) d' (by simpa using hj); rwa [show i + (j + 1) = i + 1 + j by omega] at this) (by simpa [CK.tyss, CK.tys] using hl)⟩
theorem wts_get : ∀ {ts : List Ty} {ds : List D}, ds.length = ts.length → (∀ (j : Nat) t d, ts[j]? = some t → ds[j]? = some d → D.wt t d) → D.wts ts ds
  | [], ds, hl, _ => by simp only [D.wts]; exact List.length_eq_zero_iff.1 hl
  | t :: ts, [], hl, _ => by simp at hl
  | t :: ts, d :: ds, hl, h => by
    simp only [D.wts]
    exact ⟨d, ds, rfl, h 0 t d rfl rfl, wts_get (by simpa using hl) fun j t' d' h1 h2 => h (j + 1) t' d' (by simpa using h1) (by simpa using h2)⟩
theorem manyW {c : Cx} (ts : List Ty) (i : Nat) (us : List Value) (ds : List D) (h : SVRs c (ts.mapIdx fun j t => .sc (.v (i + j) t)) us) (hη : ∀ (j : Nat) d, ds[j]? = some d → c.η[i + j]? = some d) (hl : ds.length = ts.length) : D.wts ts ds :=
  wts_get hl fun j t d ht hd => by
    obtain ⟨v, _, hv⟩ := h.get (i := j) (s := .sc (.v (i + j) t)) (by simp [ht])
    simp only [SVR, E.ty, E.den, List.getD_eq_getElem?_getD, hη j d hd, Option.getD_some] at hv
    exact VR.wt _ _ _ hv.2
def K.noClo : K → Bool
  | .clo _ _ => false
  | _ => true
theorem argSV_wt {c : Cx} : ∀ (k : K) (i o : Nat) (v : Value) (ds : List D), k.noClo = true → SVR c (argSV i o k) v → (∀ (j : Nat) d, ds[j]? = some d → c.η[i + j]? = some d) → ds.length = k.tys.length →
    (∀ (j : Nat) ob co, (k.obs i (List.range' o k.nobs))[j]? = some ob → c.ρ[o + j]? = some co → ORel c ob co) → D.wts k.tys ds
  | .one t, i, o, v, ds, _, h, hη, hl, _ => by
    match ds, hl with
    | [d], _ =>
      have hd := hη 0 d rfl
      rw [Nat.add_zero] at hd
      simp only [argSV, SVR, E.ty, E.den, List.getD_eq_getElem?_getD, hd, Option.getD_some] at h
      simp only [K.tys, D.wts]
      exact ⟨d, [], rfl, VR.wt _ _ _ h.2, rfl⟩
  | .agg ts, i, o, v, ds, _, h, hη, hl, _ => by
    simp only [argSV, SVR] at h
    obtain ⟨us, rfl, h⟩ := h
    exact manyW ts i _ ds h hη hl
  | .ref ts, i, o, v, ds, _, h, hη, hl, _ => by
    simp only [argSV, SVR] at h
    obtain ⟨ad, us, rfl, h, _⟩ := h
    exact manyW ts i _ ds h hη hl
  | .clo g cs, i, o, v, ds, h0, h, hη, hl, _ => by simp [K.noClo] at h0
  | .unk, i, o, v, ds, _, h, hη, hl, _ => by simp only [K.tys, D.wts]; exact List.length_eq_zero_iff.1 hl
  | .obj bt cks, i, o, v, ds, _, h, hη, hl, hor => by
    simp only [argSV, SVR] at h
    obtain ⟨b, hb, rfl⟩ := h
    have h0 := hor 0 (.box bt (ckCells i ((List.range' o (K.obj bt cks).nobs).headD 0) (List.range' o (K.obj bt cks).nobs).tail cks)) (.blk b) (by simp only [K.obs, List.getElem?_cons_zero]) hb
    simp only [ORel] at h0
    obtain ⟨_, arr, _, h0⟩ := h0
    exact ckCells_wt cks i _ _ ds h0 hη hl
theorem argSVs_wt {c : Cx} : ∀ (ks : List K) (i o : Nat) (vs : List Value) (ds : List D), ks.all K.noClo = true → SVRs c (argSVs i o ks) vs → (∀ (j : Nat) d, ds[j]? = some d → c.η[i + j]? = some d) → ds.length = (K.tyss ks).length →
    (∀ (j : Nat) ob co, (K.obss true i (List.range' o (K.nobss ks)) ks)[j]? = some ob → c.ρ[o + j]? = some co → ORel c ob co) → D.wts (K.tyss ks) ds
  | [], i, o, vs, ds, _, _, _, hl, _ => by
    have : ds = [] := List.length_eq_zero_iff.1 hl
    subst this; simp [K.tyss, D.wts]
  | k :: ks, i, o, vs, ds, h0, h, hη, hl, hor => by
    simp only [argSVs, SVRs] at h
    obtain ⟨v, vs', rfl, h1, h2⟩ := h
    simp only [List.all_cons, Bool.and_eq_true] at h0
    simp only [K.tyss, List.length_append] at hl
    have hsplit : ds = ds.take k.tys.length ++ ds.drop k.tys.length := (List.take_append_drop _ _).symm
    simp only [K.obss, K.nobss, if_true, drop_range'_, take_range' _ _ _ (Nat.le_add_right k.nobs _), Nat.add_sub_cancel_left] at hor
    rw [hsplit]
    simp only [K.tyss]
    refine D.wts_append (argSV_wt k i o v _ h0.1 h1 (fun j d hj => ?_) (by rw [List.length_take]; omega) (fun j ob co hj hco => ?_)) (argSVs_wt ks (i + k.tys.length) (o + k.nobs) vs' _ h0.2 h2 (fun j d hj => ?_) (by rw [List.length_drop]; omega) (fun j ob co hj hco => ?_))
    · rw [List.getElem?_take] at hj
      split at hj
      · exact hη j d hj
      · cases hj
    · exact hor j ob co (by rw [List.getElem?_append_left (List.getElem?_eq_some_iff.1 hj).1]; exact hj) hco
    · rw [List.getElem?_drop] at hj
      have := hη _ d hj
      rwa [← Nat.add_assoc] at this
    · refine hor (k.nobs + j) ob co (by rw [List.getElem?_append_right (by rw [K.obs_length]; omega), K.obs_length, Nat.add_sub_cancel_left]; exact hj) (by rw [← Nat.add_assoc]; exact hco)
theorem Corr.of_wt {P : Program} {L : Lay} {f : Nat} {ks rk : List K} {ds rs : List D} (hc : K.nobss ks ≠ 0 → ks.all K.noClo = true) (h : D.wts (K.tyss ks) ds → Corr P L f ks ds rk rs) : Corr P L f ks ds rk rs :=
  ⟨fun hno ok w vs hL hk => (h (KRs.wt _ _ _ hk)).1 hno ok w vs hL hk,
   fun hno c vs hη hl hw hL hown hsv => (h (argSVs_wt ks 0 0 vs ds (hc hno) hsv (fun j d hj => by rw [hη, Nat.zero_add]; exact hj) hl (fun j ob co hj hco => hown.own j ob co hj (by rwa [Nat.zero_add] at hco)))).2 hno c vs hη hl hw hL hown hsv⟩
theorem wrap64 {x : Int} (h1 : -9223372036854775808 ≤ x) (h2 : x ≤ 9223372036854775807) : IntKind.i64.wrap x = x := wrap_i64 h1 h2
/-- The numbers of a list of them. -/
def ints (d : D) : List Int := d.toL.map fun r => (r.getD 0 default).toI
def cmpL : List Int → List Int → Int
  | [], [] => 0
  | [], _ :: _ => -1
  | _ :: _, [] => 1
  | x :: xs, y :: ys => if x < y then -1 else if y < x then 1 else cmpL xs ys
theorem cmpL_zero : ∀ {a b : List Int}, cmpL a b = 0 ↔ a = b
  | [], [] => by simp [cmpL]
  | [], _ :: _ => by simp [cmpL]
  | _ :: _, [] => by simp [cmpL]
  | x :: xs, y :: ys => by
    simp only [cmpL, List.cons.injEq]
    split
    · constructor
      · intro h; cases h
      · intro h; omega
    · split
      · constructor
        · intro h; cases h
        · intro h; omega
      · rw [cmpL_zero]; constructor
        · intro h; exact ⟨by omega, h⟩
        · exact fun h => h.2
theorem ints_get {es : List (List D)} {i : Nat} (h : i < es.length) : (ints (.slc es))[i]? = some ((es[i][0]?.getD default).toI) := by
  simp [ints, h]
theorem cell_int {es : List (List D)} (hw : ∀ c ∈ es, D.wts [.int .i64] c) {i : Nat} (h : i < es.length) : es[i][0]?.getD default = .int .i64 (es[i][0]?.getD default).toI := by
  obtain ⟨d, _, h1, ⟨n, h2⟩, h3⟩ := hw es[i] (List.getElem_mem h)
  rw [h1, h2]; rfl
theorem ints_len (es : List (List D)) : (ints (.slc es)).length = es.length := by simp [ints]
theorem drop_cons {α : Type} {l : List α} {i : Nat} {x : α} (h : l[i]? = some x) : l.drop i = x :: l.drop (i + 1) := by
  obtain ⟨h1, h2⟩ := List.getElem?_eq_some_iff.1 h
  rw [← h2]; exact List.drop_eq_getElem_cons h1
theorem ints_nil {es : List (List D)} {i : Nat} (h : es.length ≤ i) : (ints (.slc es)).drop i = [] := by simp [ints_len, h]
end Fw
