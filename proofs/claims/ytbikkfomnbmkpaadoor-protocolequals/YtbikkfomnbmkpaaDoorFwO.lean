import Derived.Test.YtbikkfomnbmkpaaDoorFwI
namespace Fw
open Go Go.RowKit

/-! ### 13a. Objects: blocks that a callee may write -/
mutual
/-- What a call's arguments are known to be: variables in order, objects from number o on. -/
def argSV (i o : Nat) : K → SV
  | .one t => .sc (.v i t)
  | .agg ts => .agg (ts.mapIdx fun j t => .sc (.v (i + j) t))
  | .ref ts => .rp (ts.mapIdx fun j t => .sc (.v (i + j) t))
  | .clo g cs => .fn g (argSVs i o cs)
  | .obj _ _ => .ptr o 0
  | .unk => .un
def argSVs (i o : Nat) : List K → List SV
  | [] => []
  | k :: ks => argSV i o k :: argSVs (i + k.tys.length) (o + k.nobs) ks
end
def inObs (ks : List K) : List OB := K.obss true 0 (List.range' 0 (K.nobss ks)) ks
/-- A contract of a function that writes objects. The results: 'rs1'; what the objects hold in the end: 'rs2'. -/
def CorrectO (P : Program) (L : Lay) (f : Nat) (ks : List K) (ds : List D) (rk : List K) (rs : List D) : Prop :=
  ∀ (c : Cx) (vs : List Value), c.η = ds → ds.length = (K.tyss ks).length → c.b0.w = c.w → LOk L c.b0 → Own c (inObs ks) → SVRs c (argSVs 0 0 ks) vs →
    Calls P f vs.toArray c.w fun e w' => ∃ us ρ' rs1 rs2, e = .returned (packed us) ∧ rs = rs1 ++ rs2 ∧ rs1.length = (K.tyss rk).length ∧
      KRs (Cx.ok ⟨c.ok0, c.b0, rs, ρ', w'⟩) w' rk rs1 us ∧ Own ⟨c.ok0, c.b0, rs, ρ', w'⟩ (K.obss false rs1.length (List.range' 0 (K.nobss ks)) ks) ∧
      LeM c ⟨c.ok0, c.b0, rs, ρ', w'⟩ ∧ Kept c.fp c.w w'
/-- What a call comes to. -/
def Corr (P : Program) (L : Lay) (g : Nat) (ks : List K) (ds : List D) (rk : List K) (xs : List D) : Prop :=
  (K.nobss ks = 0 → CorrectAt P L g ks ds rk xs) ∧ (K.nobss ks ≠ 0 → CorrectO P L g ks ds rk xs)

theorem dens_get (η : Env) : ∀ (l : List E) (j : Nat) (e : E), l[j]? = some e → (E.dens η l)[j]? = some (e.den η)
  | [], j, e, h => by simp at h
  | x :: l, j, e, h => by
    cases j with
    | zero => simp at h; subst h; simp [E.dens]
    | succ j => simpa [E.dens] using dens_get η l j e (by simpa using h)

section
variable {c cc : Cx}
theorem sc_move (hw : cc.w = c.w) (hok : ∀ b o, c.ok b o → cc.ok b o) {i : Nat} {t : Ty} {e : E} {v : Value} (hi : cc.η[i]? = some (e.den c.η)) (ht : e.ty = t) (hv : VR c.ok c.w e.ty (e.den c.η) v) : SVR cc (.sc (.v i t)) v := by
  subst ht
  have hl := (List.getElem?_eq_some_iff.1 hi).1
  simp only [SVR, E.bd, E.ty, E.den]
  refine ⟨by simpa using hl, ?_⟩
  rw [List.getD_eq_getElem?_getD, hi, hw]
  exact VR.keeps (Keeps.weaken hok) _ _ _ hv
theorem ckRead_sound {o : List OB} (hown : Own c o) (hw : cc.w = c.w) (hok : ∀ b o, c.ok b o → cc.ok b o) {self self' b : Nat} (h1 : c.ρ[self]? = some (.blk b)) (h2 : cc.ρ[self']? = some (.blk b)) :
    ∀ (cks : List CK) (cs : List SV) (es : List E) (src tgt : List Nat) (vs : List Value) (i : Nat), ckRead o self cks cs = some (es, src) → SVRs c cs vs → tgt.length = src.length →
      (∀ (j : Nat) s t, src[j]? = some s → tgt[j]? = some t → cc.ρ[t]? = c.ρ[s]?) → (∀ s ∈ src, ∀ co b, c.ρ[s]? = some co → co.block? = some b → cc.mine b) →
      (∀ (j : Nat) e, es[j]? = some e → cc.η[i + j]? = some (e.den c.η)) →
      E.bds c.η.length es = true ∧ es.length = (CK.tyss cks).length ∧ src.length = CK.ngro cks ∧ SVRs cc (ckCells i self' tgt cks) vs ∧
        ∀ (j : Nat) ob t co, (ckToks i cks)[j]? = some ob → tgt[j]? = some t → cc.ρ[t]? = some co → ORel cc ob co := by
  intro cks
  induction cks with
  | nil =>
    intro cs es src tgt vs i hr hv htl hρ hm hη
    cases cs with
    | nil =>
      simp only [ckRead, Option.some.injEq, Prod.mk.injEq] at hr
      obtain ⟨rfl, rfl⟩ := hr
      simp only [SVRs] at hv
      exact ⟨rfl, rfl, rfl, by simp [ckCells, SVRs, hv], fun j ob t co h => by simp [ckToks] at h⟩
    | cons => simp [ckRead] at hr
  | cons ck r ih =>
    intro cs es src tgt vs i hr hv htl hρ hm hη
    cases cs with
    | nil => cases ck <;> simp [ckRead] at hr
    | cons s ss =>
      simp only [SVRs] at hv
      obtain ⟨v, vs', rfl, hv1, hv2⟩ := hv
      cases ck with
      | un =>
        simp only [ckRead] at hr
        obtain ⟨q1, q2, q3, q4, q5⟩ := ih ss es src tgt vs' i hr hv2 htl hρ hm hη
        refine ⟨q1, by simpa [CK.tyss, CK.tys] using q2, by simpa [CK.ngro] using q3, ?_, by simpa [ckToks] using q5⟩
        simp only [ckCells, SVRs]
        exact ⟨v, vs', rfl, by simp only [SVR], q4⟩
      | pl t =>
        simp only [ckRead] at hr
        split at hr
        · rename_i e es' src' he hr'
          split at hr
          · rename_i hty
            simp only [Option.some.injEq, Prod.mk.injEq] at hr
            obtain ⟨rfl, rfl⟩ := hr
            obtain ⟨q1, q2, q3, q4, q5⟩ := ih ss es' src' tgt vs' (i + 1) hr' hv2 htl hρ hm (fun j e' he' => by have := hη (j + 1) e' (by simpa using he'); rwa [show i + (j + 1) = i + 1 + j by omega] at this)
            obtain ⟨w1, w2⟩ := ex_sound (nilAs_sound t hv1) he
            refine ⟨by simp [E.bds, w1, q1], by simp [CK.tyss, CK.tys, q2], by simpa [CK.ngro] using q3, ?_, by simpa [ckToks] using q5⟩
            simp only [ckCells, SVRs]
            exact ⟨v, vs', rfl, sc_move hw hok (by have := hη 0 e rfl; simpa using this) (Ty.beq_eq _ _ hty) w2, q4⟩
          · cases hr
        · cases hr
      | gro tt ts =>
        cases s with
        | gro id e =>
          simp only [ckRead] at hr
          split at hr
          · rename_i tt' sz cur es' src' ho hr'
            split at hr
            · rename_i hc
              simp only [Bool.and_eq_true, decide_eq_true_eq] at hc
              obtain ⟨c1, c2, c3⟩ := hc
              obtain ⟨c3, rfl⟩ := c3
              have c1 := E.beq_eq _ _ c1
              have c2 := Ty.beq_eq _ _ c2
              subst c1
              simp only [Option.some.injEq, Prod.mk.injEq] at hr
              obtain ⟨rfl, rfl⟩ := hr
              cases tgt with
              | nil => simp at htl
              | cons t0 tgt =>
                obtain ⟨q1, q2, q3, q4, q5⟩ := ih ss es' src' tgt vs' (i + 1) hr' hv2 (by simpa using htl) (fun j s t h3 h4 => hρ (j + 1) s t (by simpa using h3) (by simpa using h4)) (fun s hs => hm s (List.mem_cons_of_mem _ hs))
                  (fun j e' he' => by have := hη (j + 1) e' (by simpa using he'); rwa [show i + (j + 1) = i + 1 + j by omega] at this)
                simp only [SVR] at hv1
                obtain ⟨w1, w2, x, w3, w4, w5⟩ := hv1
                have hi := hη 0 e rfl
                rw [Nat.add_zero] at hi
                have hρ0 := hρ 0 id t0 rfl rfl
                have hsc := sc_move hw hok hi c2 w2
                simp only [SVR, E.ty] at hsc
                have hden : (E.v i (.slc ts)).den cc.η = e.den c.η := by simp only [E.den]; rw [List.getD_eq_getElem?_getD, hi]; rfl
                refine ⟨by simp [E.bds, w1, q1], by simp [CK.tyss, CK.tys, q2], by simp [CK.ngro, q3], ?_, ?_⟩
                · simp only [ckCells, SVRs, List.headD_cons, List.tail_cons]
                  refine ⟨v, vs', rfl, ?_, q4⟩
                  simp only [SVR, E.ty]
                  rw [hden]
                  exact ⟨hsc.1, by rw [hden] at hsc; exact hsc.2, x, by rw [hρ0]; exact w3, w4, w5⟩
                · intro j ob t co hj ht hco
                  cases j with
                  | zero =>
                    simp [ckToks] at hj ht; subst hj ht
                    rw [hρ0, w3] at hco; injection hco with hco; subst hco
                    have h0 := hown.own id _ _ ho w3
                    simp only [ORel] at h0 ⊢
                    rw [hden]
                    refine ⟨hsc.1, h0.2.1, ?_⟩
                    have h3 := h0.2.2
                    cases x with
                    | none => trivial
                    | some x =>
                      obtain ⟨b', len, cap, sz'⟩ := x
                      simp only at h3 ⊢
                      obtain ⟨g1, g2, g3, g4⟩ := h3
                      exact ⟨g1.trans c3, hm id (List.mem_cons_self ..) _ b' w3 rfl, g3, by rw [hw, ← c3]; exact g4⟩
                  | succ j => exact q5 j ob t co (by simpa [ckToks] using hj) (by simpa using ht) hco
            · cases hr
          · cases hr
        | _ => simp [ckRead] at hr
      | sp =>
        cases s with
        | sp id e =>
          simp only [ckRead] at hr
          split at hr
          · rename_i es' src' hr'
            split at hr
            · rename_i hc
              simp only [Bool.and_eq_true, decide_eq_true_eq] at hc
              obtain ⟨rfl, c2⟩ := hc
              have c2 := Ty.beq_eq _ _ c2
              simp only [Option.some.injEq, Prod.mk.injEq] at hr
              obtain ⟨rfl, rfl⟩ := hr
              obtain ⟨q1, q2, q3, q4, q5⟩ := ih ss es' src' tgt vs' (i + 1) hr' hv2 htl hρ hm (fun j e' he' => by have := hη (j + 1) e' (by simpa using he'); rwa [show i + (j + 1) = i + 1 + j by omega] at this)
              simp only [SVR] at hv1
              obtain ⟨w1, b', x, w2, w3, w4⟩ := hv1
              rw [h1] at w2; injection w2 with w2; injection w2 with w2; subst w2
              have hi := hη 0 e rfl
              rw [Nat.add_zero] at hi
              have hl := (List.getElem?_eq_some_iff.1 hi).1
              refine ⟨by simp [E.bds, w1, q1], by simp [CK.tyss, CK.tys, q2], by simpa [CK.ngro] using q3, ?_, by simpa [ckToks] using q5⟩
              simp only [ckCells, SVRs]
              refine ⟨v, vs', rfl, ?_, q4⟩
              simp only [SVR, E.bd, E.den]
              exact ⟨by simpa using hl, b, x, h2, by rw [List.getD_eq_getElem?_getD, hi]; exact w3, w4⟩
            · cases hr
          · cases hr
        | _ => simp [ckRead] at hr

/-- An object in another setting. -/
theorem toObj_sound {o : List OB} (hown : Own c o) (hw : cc.w = c.w) (hok : ∀ b o, c.ok b o → cc.ok b o) {bt : Nat} {cks : List CK} {s : SV} {es : List E} {src tgt : List Nat} {v : Value} {i : Nat}
    (hr : toObj o bt cks s = some (es, src)) (hv : SVR c s v) (htl : tgt.length = src.length) (hρ : ∀ (j : Nat) s t, src[j]? = some s → tgt[j]? = some t → cc.ρ[t]? = c.ρ[s]?)
    (hm : ∀ s ∈ src, ∀ co b, c.ρ[s]? = some co → co.block? = some b → cc.mine b) (hη : ∀ (j : Nat) e, es[j]? = some e → cc.η[i + j]? = some (e.den c.η)) :
    E.bds c.η.length es = true ∧ es.length = (CK.tyss cks).length ∧ src.length = CK.ngro cks + 1 ∧ SVR cc (.ptr (tgt.headD 0) 0) v ∧
      ∀ (j : Nat) ob t co, (K.obs i tgt (.obj bt cks))[j]? = some ob → tgt[j]? = some t → cc.ρ[t]? = some co → ORel cc ob co := by
  unfold toObj at hr
  split at hr
  · rename_i id
    split at hr
    · rename_i bt' cs ho
      split at hr
      case isFalse => cases hr
      rename_i hbt; subst hbt
      simp only [Option.map_eq_some_iff, Prod.mk.injEq] at hr
      obtain ⟨⟨es0, ids0⟩, hck, rfl, rfl⟩ := hr
      cases tgt with
      | nil => simp at htl
      | cons t0 tgt =>
        simp only [SVR] at hv
        obtain ⟨b, hb, rfl⟩ := hv
        have h0 := hown.own id _ _ ho hb
        simp only [ORel] at h0
        obtain ⟨g1, arr, g2, g3⟩ := h0
        have hb' : cc.ρ[t0]? = some (.blk b) := by rw [hρ 0 id t0 rfl rfl]; exact hb
        obtain ⟨q1, q2, q3, q4, q5⟩ := ckRead_sound hown hw hok hb hb' cks cs es0 ids0 tgt arr.toList i hck g3 (by simpa using htl) (fun j s t h3 h4 => hρ (j + 1) s t (by simpa using h3) (by simpa using h4)) (fun s hs => hm s (List.mem_cons_of_mem _ hs)) hη
        refine ⟨q1, q2, by simp [q3], by simp only [List.headD_cons, SVR]; exact ⟨b, hb', rfl⟩, fun j ob t co hj ht hco => ?_⟩
        cases j with
        | zero =>
          simp [K.obs] at hj ht; subst hj ht
          rw [hb'] at hco; injection hco with hco; subst hco
          simp only [ORel]
          exact ⟨hm id (List.mem_cons_self ..) _ b hb rfl, arr, by rw [hw]; exact g2, q4⟩
        | succ j => exact q5 j ob t co (by simpa [K.obs] using hj) (by simpa using ht) hco
    · cases hr
  · cases hr

theorem many {us : List Value} (i : Nat) (es : List E) (hw : cc.w = c.w) (hok : ∀ b o, c.ok b o → cc.ok b o) (hv : VRs c.ok c.w (es.map E.ty) (E.dens c.η es) us) (hη : ∀ (j : Nat) e, es[j]? = some e → cc.η[i + j]? = some (e.den c.η)) :
    SVRs cc ((es.map E.ty).mapIdx fun j t => .sc (.v (i + j) t)) us := by
  obtain ⟨q1, q2⟩ := hv.length
  refine .of_get (by simp at q2; simp [q2]) fun j s u hs hu => ?_
  simp only [List.getElem?_mapIdx, Option.map_eq_some_iff, List.getElem?_map] at hs
  obtain ⟨t, ⟨e, he, rfl⟩, rfl⟩ := hs
  obtain ⟨u', hu', hvr⟩ := hv.get (i := j) (t := e.ty) (by simp [he])
  rw [hu] at hu'; injection hu' with hu'; subst hu'
  have hd := dens_get c.η es j e he
  rw [List.getD_eq_getElem?_getD, hd] at hvr
  exact sc_move hw hok (hη j e he) rfl hvr
mutual
/-- An argument that is only read, in another setting. -/
theorem toArg_move {o : List OB} (hown : Own c o) (hw : cc.w = c.w) (hok : ∀ b o, c.ok b o → cc.ok b o) (hraw : ∀ b o, ¬ excl c.ρ b o → ¬ excl cc.ρ b o) :
    ∀ (s : SV) {k : K} {es : List E} {v : Value} (i oid : Nat), SVR c s v → toArg o s = some (k, es) → (∀ id ∈ s.refs, ∀ b, c.ρ[id]? = some (.blk b) → ∀ o, ¬ excl cc.ρ b o) →
      (∀ (j : Nat) e, es[j]? = some e → cc.η[i + j]? = some (e.den c.η)) → E.bds c.η.length es = true ∧ es.length = k.tys.length ∧ k.nobs = 0 ∧ SVR cc (argSV i oid k) v
  | .sc e, k, es, v, i, oid, h, he, hx, hη => by
    simp only [toArg, Option.some.injEq, Prod.mk.injEq] at he
    obtain ⟨rfl, rfl⟩ := he
    obtain ⟨h1, h2⟩ := ex_sound h rfl
    exact ⟨by simp [E.bds, h1], rfl, rfl, sc_move hw hok (by simpa using hη 0 e rfl) rfl h2⟩
  | .gro id e, k, es, v, i, oid, h, he, hx, hη => by
    simp only [toArg, Option.some.injEq, Prod.mk.injEq] at he
    obtain ⟨rfl, rfl⟩ := he
    obtain ⟨h1, h2⟩ := ex_sound h (s := .gro id e) rfl
    exact ⟨by simp [E.bds, h1], rfl, rfl, sc_move hw hok (by simpa using hη 0 e rfl) rfl h2⟩
  | .agg xs, k, es, v, i, oid, h, he, hx, hη => by
    simp only [toArg, Option.map_eq_some_iff, Prod.mk.injEq] at he
    obtain ⟨es', he, rfl, rfl⟩ := he
    simp only [SVR] at h
    obtain ⟨us, rfl, h⟩ := h
    obtain ⟨h1, h2⟩ := exs_sound h he
    refine ⟨h1, by simp [K.tys], rfl, ?_⟩
    simp only [argSV, SVR]
    exact ⟨us, rfl, many i es' hw hok h2 hη⟩
  | .rp cs, k, es, v, i, oid, h, he, hx, hη => by
    simp only [toArg, Option.map_eq_some_iff, Prod.mk.injEq] at he
    obtain ⟨es', he, rfl, rfl⟩ := he
    simp only [SVR] at h
    obtain ⟨ad, us, rfl, h, hc⟩ := h
    obtain ⟨h1, h2⟩ := exs_sound h he
    refine ⟨h1, by simp [K.tys], rfl, ?_⟩
    simp only [argSV, SVR]
    exact ⟨ad, us, rfl, many i es' hw hok h2 hη, fun i u hu => ⟨hraw _ _ (hc i u hu).1, by rw [hw]; exact (hc i u hu).2⟩⟩
  | .ptr id off, k, es, v, i, oid, h, he, hx, hη => by
    simp only [toArg] at he
    split at he
    · rename_i cs hcs
      simp only [Option.map_eq_some_iff, Prod.mk.injEq] at he
      obtain ⟨es', he, rfl, rfl⟩ := he
      simp only [SVR] at h
      obtain ⟨b, hb, rfl⟩ := h
      have ho := hown.own id _ _ hcs hb
      simp only [ORel] at ho
      obtain ⟨_, arr, hh, hcells⟩ := ho
      have hd := hcells.drop off
      obtain ⟨h1, h2⟩ := exs_sound hd he
      refine ⟨h1, by simp [K.tys], rfl, ?_⟩
      simp only [argSV, SVR]
      refine ⟨_, _, rfl, many i es' hw hok h2 hη, fun i u hu => ?_⟩
      rw [List.getElem?_drop] at hu
      refine ⟨?_, by rw [hw, cell_add hh]; simpa using hu⟩
      have hblk : ((⟨b, off, none⟩ : Addr).add i).block = b := by unfold Addr.add; split <;> rfl
      rw [hblk]
      exact hx id (by simp [SV.refs]) b hb _
    · cases he
  | .fn g caps, k, es, v, i, oid, h, he, hx, hη => by
    simp only [toArg, Option.map_eq_some_iff, Prod.mk.injEq] at he
    obtain ⟨x, he, rfl, rfl⟩ := he
    simp only [SVR] at h
    obtain ⟨us, rfl, h⟩ := h
    obtain ⟨h1, h2, h3, h4⟩ := toArgs_move hown hw hok hraw caps i oid h he (fun id hid => hx id (by simpa [SV.refs] using hid)) hη
    refine ⟨h1, by simpa [K.tys] using h2, rfl, ?_⟩
    simp only [argSV, SVR]
    exact ⟨us, rfl, h4⟩
  | .un, _, _, _, _, _, _, he, _, _ => by simp [toArg] at he
  | .nils, _, _, _, _, _, _, he, _, _ => by simp [toArg] at he
  | .tup _, _, _, _, _, _, _, he, _, _ => by simp [toArg] at he
  | .mayB _, _, _, _, _, _, _, he, _, _ => by simp [toArg] at he
  | .und, _, _, _, _, _, _, he, _, _ => by simp [toArg] at he
  | .pnil, _, _, _, _, _, _, he, _, _ => by simp [toArg] at he
  | .sp _ _, _, _, _, _, _, _, he, _, _ => by simp [toArg] at he
theorem toArgs_move {o : List OB} (hown : Own c o) (hw : cc.w = c.w) (hok : ∀ b o, c.ok b o → cc.ok b o) (hraw : ∀ b o, ¬ excl c.ρ b o → ¬ excl cc.ρ b o) :
    ∀ (ss : List SV) {x : List K × List E} {vs : List Value} (i oid : Nat), SVRs c ss vs → toArgs o ss = some x → (∀ id ∈ SV.refss ss, ∀ b, c.ρ[id]? = some (.blk b) → ∀ o, ¬ excl cc.ρ b o) →
      (∀ (j : Nat) e, x.2[j]? = some e → cc.η[i + j]? = some (e.den c.η)) → E.bds c.η.length x.2 = true ∧ x.2.length = (K.tyss x.1).length ∧ K.nobss x.1 = 0 ∧ SVRs cc (argSVs i oid x.1) vs
  | [], x, vs, i, oid, h, he, hx, hη => by
    simp only [toArgs, Option.some.injEq] at he; subst he
    simp only [SVRs] at h; subst h
    exact ⟨rfl, rfl, rfl, by simp [argSVs, SVRs]⟩
  | s :: ss, x, vs, i, oid, h, he, hx, hη => by
    simp only [SVRs] at h
    obtain ⟨v, vs', rfl, h1, h2⟩ := h
    simp only [toArgs] at he
    split at he
    · rename_i k es ks es' hs hss
      simp only [Option.some.injEq] at he; subst he
      obtain ⟨a1, a2, a3, a4⟩ := toArg_move hown hw hok hraw s i oid h1 hs (fun id hid => hx id (by simp [SV.refss, hid])) (fun j e hj => hη j e (by simp only; rw [List.getElem?_append_left (List.getElem?_eq_some_iff.1 hj).1]; exact hj))
      obtain ⟨b1, b2, b3, b4⟩ := toArgs_move hown hw hok hraw ss (i + k.tys.length) (oid + k.nobs) h2 hss (fun id hid => hx id (by simp [SV.refss, hid]))
        (fun j e hj => by have := hη (es.length + j) e (by simp only; rw [List.getElem?_append_right (by omega), Nat.add_sub_cancel_left]; exact hj); rwa [a2, ← Nat.add_assoc] at this)
      refine ⟨by simp [E.bds_append, a1, b1], by simp [K.tyss, a2, b2], by simp [K.nobss, a3, b3], ?_⟩
      simp only [argSVs, SVRs]
      exact ⟨v, vs', rfl, a4, b4⟩
    · cases he
end
end
end Fw
