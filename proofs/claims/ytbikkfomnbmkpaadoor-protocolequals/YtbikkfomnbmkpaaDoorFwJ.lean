import Derived.Test.YtbikkfomnbmkpaaDoorFwL
namespace Fw
open Go Go.RowKit

/-! ### 15. From a tree to a contract -/
mutual
theorem argSV_kr {c : Cx} (hok : ∀ b o, c.ok0 b o → c.ok b o) (hex : ∀ b o, ¬ excl c.ρ b o) : ∀ (k : K) (o : Nat) (d1 : List D) (v : Value) (pre post : Env), KR c.ok0 c.w k d1 v → c.η = pre ++ d1 ++ post → d1.length = k.tys.length ∧ SVR c (argSV pre.length o k) v
  | .one t, o, d1, v, pre, post, h, hη => by
    simp only [KR] at h
    obtain ⟨d, rfl, hv⟩ := h
    refine ⟨rfl, ?_⟩
    simp only [argSV, SVR, E.bd, E.ty, E.den]
    refine ⟨by rw [hη]; simp, ?_⟩
    rw [hη]
    simpa using VR.keeps (Keeps.weaken hok) _ _ _ hv
  | .agg ts, o, d1, v, pre, post, h, hη => by
    simp only [KR] at h
    obtain ⟨us, rfl, hv⟩ := h
    refine ⟨hv.length.1, ?_⟩
    simp only [argSV, SVR]
    exact ⟨us, rfl, argMany hok ts d1 us.toList pre post hv hη⟩
  | .ref ts, o, d1, v, pre, post, h, hη => by
    simp only [KR] at h
    obtain ⟨ad, us, rfl, hv, hc⟩ := h
    refine ⟨hv.length.1, ?_⟩
    simp only [argSV, SVR]
    exact ⟨ad, us, rfl, argMany hok ts d1 us pre post hv hη, fun i u hu => ⟨hex _ _, hc i u hu⟩⟩
  | .clo g cs, o, d1, v, pre, post, h, hη => by
    simp only [KR] at h
    obtain ⟨us, rfl, hv⟩ := h
    obtain ⟨l1, r1⟩ := argSVs_kr hok hex cs o d1 us.toList pre post hv hη
    refine ⟨l1, ?_⟩
    simp only [argSV, SVR]
    exact ⟨us, rfl, r1⟩
  | .obj _ cks, o, d1, v, pre, post, h, hη => by simp only [KR] at h
  | .unk, o, d1, v, pre, post, h, hη => by simp only [KR] at h; subst h; exact ⟨rfl, by simp only [argSV, SVR]⟩
theorem argSVs_kr {c : Cx} (hok : ∀ b o, c.ok0 b o → c.ok b o) (hex : ∀ b o, ¬ excl c.ρ b o) : ∀ (ks : List K) (o : Nat) (ds : List D) (us : List Value) (pre post : Env), KRs c.ok0 c.w ks ds us → c.η = pre ++ ds ++ post →
    ds.length = (K.tyss ks).length ∧ SVRs c (argSVs pre.length o ks) us
  | [], o, ds, us, pre, post, h, hη => by
    simp only [KRs] at h
    obtain ⟨rfl, rfl⟩ := h
    simp [K.tyss, argSVs, SVRs]
  | k :: ks, o, ds, us, pre, post, h, hη => by
    simp only [KRs] at h
    obtain ⟨d1, d2, v, vs', rfl, rfl, h1, h2⟩ := h
    obtain ⟨q1, q2⟩ := argSV_kr hok hex k o d1 v pre (d2 ++ post) h1 (by rw [hη]; simp)
    obtain ⟨w1, w2⟩ := argSVs_kr hok hex ks (o + k.nobs) d2 vs' (pre ++ d1) post h2 (by rw [hη]; simp)
    refine ⟨by simp [K.tyss, q1, w1], ?_⟩
    simp only [argSVs, SVRs]
    exact ⟨v, vs', rfl, q2, by simpa [q1] using w2⟩
theorem argMany {c : Cx} (hok : ∀ b o, c.ok0 b o → c.ok b o) (ts : List Ty) (d1 : List D) (us : List Value) (pre post : Env) (hv : VRs c.ok0 c.w ts d1 us) (hη : c.η = pre ++ d1 ++ post) :
    SVRs c (ts.mapIdx fun j t => .sc (.v (pre.length + j) t)) us := by
  obtain ⟨q1, q2⟩ := hv.length
  refine .of_get (by simp [q2]) fun j s u hs hu => ?_
  simp only [List.getElem?_mapIdx, Option.map_eq_some_iff] at hs
  obtain ⟨t, ht, rfl⟩ := hs
  obtain ⟨u', hu', hvr⟩ := hv.get ht
  rw [hu] at hu'; injection hu' with hu'; subst hu'
  have hj : j < d1.length := by rw [q1]; exact (List.getElem?_eq_some_iff.1 ht).1
  simp only [SVR, E.bd, E.ty, E.den]
  refine ⟨by rw [hη]; simp; omega, ?_⟩
  rw [hη]
  have : (pre ++ d1 ++ post).getD (pre.length + j) default = d1.getD j default := by
    simp [List.getElem?_append, hj, show ¬ (pre.length + j < pre.length) by omega]
  rw [this]
  exact VR.keeps (Keeps.weaken hok) _ _ _ hvr
end

/-- The state at entry. -/
def entry (ks : List K) : Sig := { t := (argSVs 0 0 ks).mapIdx fun i s => (i, s), o := inObs ks }
theorem look_zip : ∀ (l : List SV) (k i : Nat), look (l.mapIdx fun i s => (k + i, s)) i = if k ≤ i then (l[i - k]?).getD .un else .un
  | [], k, i => by simp [look]
  | s :: l, k, i => by
    simp only [List.mapIdx_cons, look, Nat.add_zero]
    have := look_zip l (k + 1) i
    rw [show (List.mapIdx (fun i s => (k + (i + 1), s)) l) = (List.mapIdx (fun i s => (k + 1 + i, s)) l) by congr 1; funext i s; rw [Nat.add_right_comm, Nat.add_assoc]]
    rw [this]
    by_cases h1 : i = k
    · subst h1; simp
    · rw [if_neg h1]
      by_cases h2 : k ≤ i
      · rw [if_pos (show k + 1 ≤ i by omega), if_pos h2, show i - k = (i - (k + 1)) + 1 by omega, List.getElem?_cons_succ]
      · rw [if_neg (by omega), if_neg h2]

theorem argSVs_length : ∀ (ks : List K) (i o : Nat), (argSVs i o ks).length = ks.length
  | [], _, _ => rfl
  | k :: ks, i, o => by simp [argSVs, argSVs_length ks]
theorem entry_run {C : Ctx} {f : Nat} {B : Nat → T} (hC : C.Ok f B) {n : Nat} {t : T} (ht : sx C n false [.code []] (entry C.ks) (K.tyss C.ks).length = some t)
    (hn : C.ks.length ≤ C.fn.ntmps) {rs : List D} {c : Cx} {vs : List Value} (hev : Ev (Corr C.P C.L) B t c.η rs) (hds : c.η.length = (K.tyss C.ks).length) (hw : c.b0.w = c.w) (hL : LOk C.L c.b0) (hown : Own c (inObs C.ks))
    (hsv : SVRs c (argSVs 0 0 C.ks) vs) : Calls C.P f vs.toArray c.w fun e w' => ∃ us, e = .returned (packed us) ∧ Post C c rs us w' := by
  intro cs
  obtain ⟨hh, hev⟩ := hev
  let b : Frame := { (default : Frame) with fn := f, kind := .normal }
  have henter : Frame.enter C.P f vs.toArray .normal =
      b.at { tmps := vs.toArray ++ Array.replicate (C.fn.ntmps - vs.toArray.size) undef, defers := [] } [.code C.c0] := by
    simp [Frame.enter, Frame.at, hC.hf, hC.hb, b]
  have hlen : vs.length = C.ks.length := by rw [hsv.length, argSVs_length]
  have hr : Rel c C.fn.ntmps (entry C.ks) { tmps := vs.toArray ++ Array.replicate (C.fn.ntmps - vs.toArray.size) undef, defers := [] } := {
    defers := rfl
    size := by simp; omega
    tmps := fun i => by
      have hz := look_zip (argSVs 0 0 C.ks) 0 i
      simp only [Nat.zero_add, Nat.zero_le, if_true, Nat.sub_zero] at hz
      simp only [entry, hz]
      cases hi : (argSVs 0 0 C.ks)[i]? with
      | none => simp only [Option.getD_none, SVR]
      | some s =>
        obtain ⟨v, hv, hs⟩ := hsv.get hi
        simp only [Option.getD_some]
        have hlt := (List.getElem?_eq_some_iff.1 hv).1
        have : (vs.toArray ++ Array.replicate (C.fn.ntmps - vs.toArray.size) undef).getD i undef = v := by
          rw [Array.getD_eq_getD_getElem?, Array.getElem?_append_left (by simpa using hlt)]
          simp [hv]
        rw [this]; exact hs
    olen := hown.olen
    own := hown.own
    dist := hown.dist
    below := by show Kept c.fp c.b0.w c.w; rw [hw]; exact Kept.refl _ _ }
  have hl0 : c.ρ.length = K.nobss C.ks := by rw [← hown.olen, inObs, K.obss_length]
  obtain ⟨us, w', fr, h1, h3, h4, h5⟩ := sx_sound hC hL hl0 hh n false _ _ _ t ht c _ b [.code C.c0] cs hev rfl ⟨rfl, LeM.refl c⟩ hds.symm hr (.cons (by simp [SI.den, sub]) .nil) rfl rfl
  rw [henter]
  exact ⟨.returned (packed us), w', fr, ⟨us, rfl, h1⟩, h3, h4, h5⟩

theorem correct_of_tree {C : Ctx} {f : Nat} {B : Nat → T} (hC : C.Ok f B) {n : Nat} {t : T} (ht : sx C n false [.code []] (entry C.ks) (K.tyss C.ks).length = some t)
    (hn : C.ks.length ≤ C.fn.ntmps) {ds rs : List D} (hev : Ev (Corr C.P C.L) B t ds rs) : Corr C.P C.L f C.ks ds C.rk rs := by
  constructor
  · intro hno ok w vs hL hk
    let c : Cx := ⟨ok, ⟨w, fun _ => False⟩, ds, [], w⟩
    obtain ⟨l1, hsv⟩ := argSVs_kr (c := c) (fun b o h => ⟨.inl h, by simp [excl, c]⟩) (by simp [excl, c]) C.ks 0 ds vs [] [] hk (by simp [c])
    have ho : inObs C.ks = [] := List.length_eq_zero_iff.1 (by rw [inObs, K.obss_length, hno])
    refine (entry_run hC ht hn (c := c) (rs := rs) hev l1 rfl ⟨hL, fun _ h => h.elim⟩ ⟨by rw [ho]; rfl, fun id ob co h => by rw [ho] at h; simp at h, fun i j ci cj bi bj _ h => by simp [c] at h⟩ hsv).mono ?_
    rintro e w' ⟨us, rfl, ρ', rs1, rs2, hrs, hl1, hl2, hkr, how, hle, hkept⟩
    have hρ : ρ' = [] := List.length_eq_zero_iff.1 (by have := how.olen; rw [K.obss_length, hno] at this; exact this.symm)
    refine ⟨⟨us, rfl, ?_⟩, hkept.toBelow⟩
    have hot : ∀ ks : List K, K.nobss ks = 0 → K.otyss ks = [] := fun ks => by
      induction ks with
      | nil => intro _; rfl
      | cons k ks ih =>
        intro h
        simp only [K.nobss] at h
        cases k <;> simp only [K.nobs] at h <;> first | omega | simp [K.otyss, K.otys, ih (by omega)]
    have hrs2 : rs2 = [] := List.length_eq_zero_iff.1 (by rw [hl2, hot _ hno]; rfl)
    subst hrs2 hρ
    rw [List.append_nil] at hrs
    subst hrs
    refine KRs.weaken (fun b o h => ?_) _ _ _ hkr
    rcases h.1 with h | h | h
    · exact .inl h
    · exact .inr h
    · exact h.elim
  · intro hno c vs hη hds hw hL hown hsv
    refine (entry_run hC ht hn (c := c) (rs := rs) (by rw [hη]; exact hev) (by rw [hη]; exact hds) hw hL hown hsv).mono ?_
    rintro e w' ⟨us, rfl, ρ', rs1, rs2, hrs, hl1, hl2, hkr, how, hle, hkept⟩
    refine ⟨us, ρ', rs1, rs2, rfl, hrs, hl1, hkr, how, hle, ?_⟩
    have : c.w0 = c.w := hw
    rw [this] at hkept
    exact hkept
end Fw
