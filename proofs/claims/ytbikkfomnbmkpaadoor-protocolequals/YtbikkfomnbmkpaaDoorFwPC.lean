import Derived.Test.YtbikkfomnbmkpaaDoorFwP
namespace Fw
open Go Go.RowKit

theorem nodupB_spec : ∀ {l : List Nat}, nodupB l = true → l.Nodup
  | [], _ => List.nodup_nil
  | x :: l, h => by
    simp only [nodupB, Bool.and_eq_true, Bool.not_eq_true', List.contains_eq_mem, decide_eq_false_iff_not] at h
    exact List.nodup_cons.2 ⟨h.1, nodupB_spec h.2⟩
theorem setAll_length {α : Type} : ∀ (ids : List Nat) (o bs : List α), (setAll o ids bs).length = o.length
  | [], o, bs => by simp [setAll]
  | id :: ids, o, [] => by simp [setAll]
  | id :: ids, o, b :: bs => by simp [setAll, setAll_length ids]
theorem setAll_out {α : Type} : ∀ (ids : List Nat) (o bs : List α) (i : Nat), i ∉ ids → (setAll o ids bs)[i]? = o[i]?
  | [], o, bs, i, _ => by simp [setAll]
  | id :: ids, o, [], i, _ => by simp [setAll]
  | id :: ids, o, b :: bs, i, h => by
    simp only [List.mem_cons, not_or] at h
    simp only [setAll]
    rw [setAll_out ids _ bs i h.2, List.getElem?_set_ne (Ne.symm h.1)]
theorem setAll_in {α : Type} : ∀ (ids : List Nat) (o bs : List α) (j : Nat) (i : Nat) (b : α), ids.Nodup → (∀ i ∈ ids, i < o.length) → ids[j]? = some i → bs[j]? = some b → (setAll o ids bs)[i]? = some b
  | [], o, bs, j, i, b, _, _, h, _ => by simp at h
  | id :: ids, o, [], j, i, b, _, _, _, h => by simp at h
  | id :: ids, o, b0 :: bs, j, i, b, hn, hl, h, hb => by
    rw [List.nodup_cons] at hn
    simp only [setAll]
    cases j with
    | zero =>
      simp at h hb; subst h hb
      rw [setAll_out ids _ bs id hn.1]
      simp [hl id (List.mem_cons_self ..)]
    | succ j => exact setAll_in ids _ bs j i b hn.2 (fun i hi => by rw [List.length_set]; exact hl i (List.mem_cons_of_mem _ hi)) (by simpa using h) (by simpa using hb)

theorem Own.blockOf {c : Cx} {os : List OB} (h : Own c os) {i : Nat} {x : CO} (hi : c.ρ[i]? = some x) {b : Nat} (hb : x.block? = some b) : c.mine b ∧ b < c.w.heap.size := by
  have hlt : i < c.ρ.length := (List.getElem?_eq_some_iff.1 hi).1
  exact (h.own i _ _ (List.getElem?_eq_getElem (by rw [h.olen]; exact hlt)) hi).block hb

/-- A call that writes objects, as the caller sees it. -/
theorem callO_sound {P : Program} {L : Lay} {c : Cx} {n : Nat} {σ : Sig} {a : Act} (h : Rel c n σ a) (hL : LOk L c.b0) {g : Nat} {os : List (Option (Nat × List CK))} {ss : List SV} {ks rk : List K} {as : List E} {ids refs : List Nat} {xs : List D} {args : Array Value}
    (hr : toArgsO σ.o os ss = some ⟨ks, as, ids, refs⟩) (hss : SVRs c ss args.toList) (hnd : nodupB ids = true) (hrf : ∀ i ∈ ids, i ∉ refs) (hcor : CorrectO P L g ks (E.dens c.η as) rk xs) (hxl : xs.length = (K.rts ks rk).length) {ys pre post : Env} (hpos : c.η ++ ys = pre ++ xs ++ post) :
    Calls P g args c.w fun e w' => ∃ us c', e = .returned (packed us) ∧ c'.w = w' ∧ c'.η = c.η ++ ys ∧ c'.ok0 = c.ok0 ∧ c'.b0 = c.b0 ∧ c.le c' ∧
      Rel c' n { σ with o := setAll σ.o ids (K.obss false (pre.length + (K.tyss rk).length) ids ks) } a ∧ SVRs c' (resSVs pre.length rk) us := by
  have hnd := nodupB_spec hnd
  have hval : ∀ id ∈ ids, id < c.ρ.length := fun id hid => by rw [← h.olen]; exact toArgsO_ids ss hr id hid
  let fp : Nat → Prop := fun b => ∃ id ∈ ids, ∃ co, c.ρ[id]? = some co ∧ co.block? = some b
  let cc : Cx := ⟨c.ok, ⟨c.w, fp⟩, E.dens c.η as, ids.map (fun id => c.ρ.getD id (.tk none)), c.w⟩
  have hccρ : ∀ (j : Nat) id, ids[j]? = some id → cc.ρ[j]? = c.ρ[id]? := fun j id hj => by
    have hl := hval id (List.mem_of_getElem? hj)
    simp [cc, hj, hl]
  have hccmem : ∀ co ∈ cc.ρ, ∃ id ∈ ids, c.ρ[id]? = some co := fun co hco => by
    obtain ⟨j, hj⟩ := List.getElem?_of_mem hco
    have hl := (List.getElem?_eq_some_iff.1 hj).1
    simp [cc] at hl
    have hid := List.getElem?_eq_getElem hl
    exact ⟨_, List.mem_of_getElem? hid, by rw [← hccρ j _ hid]; exact hj⟩
  have hexcc : ∀ b o, excl cc.ρ b o → excl c.ρ b o := fun b o ⟨co, hco, hcov⟩ => by
    obtain ⟨id, _, hid⟩ := hccmem co hco
    exact ⟨co, List.mem_of_getElem? hid, hcov⟩
  have hfpb : ∀ b, fp b → c.mine b ∧ b < c.w.heap.size := fun b ⟨id, _, co, hco, hb⟩ => h.blockOf (List.mem_of_getElem? hco) hb
  have hfpd : ∀ b, fp b → ∀ id, id ∉ ids → ∀ co, c.ρ[id]? = some co → co.block? ≠ some b := fun b ⟨id', hid', co', hco', hb'⟩ id hid co hco hb =>
    h.dist id id' co co' b b (fun e => hid (e ▸ hid')) hco hco' hb hb' rfl
  obtain ⟨s1, s2, s3, s4, s5⟩ := toArgsO_sound (cc := cc) h.toOwn rfl (fun b o ho => ⟨.inl ho, fun he => ho.2 (hexcc b o he)⟩) (fun b o hn he => hn (hexcc b o he)) ss 0 0 hr hss
    (fun j s hj => by rw [Nat.zero_add]; exact hccρ j s hj) (fun s hs co b hco hb => .inr ⟨s, hs, co, hco, hb⟩)
    (fun id hid b hb o ⟨co, hco, hcov⟩ => by
      obtain ⟨id', hid', hco'⟩ := hccmem co hco
      exact h.dist id id' _ co b b (fun e => hrf id' hid' (e ▸ hid)) hb hco' rfl (CO.covers_block hcov) rfl)
    (fun j e hj => by rw [Nat.zero_add]; exact dens_get c.η as j e hj)
  simp only at s1 s2 s3 s4 s5
  have hccd : ∀ (i j : Nat) (ci cj : CO) (bi bj : Nat), i ≠ j → cc.ρ[i]? = some ci → cc.ρ[j]? = some cj → ci.block? = some bi → cj.block? = some bj → bi ≠ bj := fun i j ci cj bi bj hij hi hj hbi hbj => by
    have hli : i < ids.length := by have := (List.getElem?_eq_some_iff.1 hi).1; simpa [cc] using this
    have hlj : j < ids.length := by have := (List.getElem?_eq_some_iff.1 hj).1; simpa [cc] using this
    have hxi := List.getElem?_eq_getElem hli
    have hxj := List.getElem?_eq_getElem hlj
    rw [hccρ i _ hxi] at hi
    rw [hccρ j _ hxj] at hj
    exact h.dist _ _ ci cj bi bj (fun e => hij ((List.getElem_inj hnd).1 e)) hi hj hbi hbj
  have hown : Own cc (inObs ks) := ⟨by simp [inObs, K.obss_length, cc, s3], fun id ob co ho hco => s5 id ob co ho (by rw [Nat.zero_add]; exact hco), hccd⟩
  have hLc : LOk L cc.b0 := ⟨h.lay hL, fun k hk hG => by
    have hlt := L.lt _ hL.1 k hG
    rcases (hfpb k hk).1 with h' | h'
    · exact absurd hlt (Nat.not_lt.2 h')
    · exact hL.2 k h' hG⟩
  have hargs : args = args.toList.toArray := by simp
  rw [hargs]
  refine (hcor cc args.toList rfl (by rw [E.dens_length]; exact s2) rfl hLc hown s4).mono ?_
  rintro e w' ⟨us, ρ', rs1, rs2, rfl, hrs, hl1, hk, how, hle, hkept⟩
  let c1 : Cx := ⟨cc.ok0, cc.b0, xs, ρ', w'⟩
  let c2 : Cx := ⟨c.ok0, c.b0, c.η ++ ys, setAll c.ρ ids ρ', w'⟩
  have hρl : ρ'.length = ids.length := by have := how.olen; rw [K.obss_length] at this; rw [s3]; exact this.symm
  have hin : ∀ (j : Nat) id x, ids[j]? = some id → ρ'[j]? = some x → c2.ρ[id]? = some x := fun j id x hj hx => setAll_in ids _ _ j id x hnd hval hj hx
  have hout : ∀ id, id ∉ ids → c2.ρ[id]? = c.ρ[id]? := fun id hid => setAll_out ids _ _ id hid
  have hmem : ∀ (id : Nat) x, c2.ρ[id]? = some x → (∃ j, ids[j]? = some id ∧ ρ'[j]? = some x) ∨ (id ∉ ids ∧ c.ρ[id]? = some x) := fun id x hx => by
    by_cases hid : id ∈ ids
    · obtain ⟨j, hj⟩ := List.getElem?_of_mem hid
      have hjl : j < ρ'.length := by rw [hρl]; exact (List.getElem?_eq_some_iff.1 hj).1
      have hy := List.getElem?_eq_getElem hjl
      have := hin j id _ hj hy
      rw [hx] at this; injection this with this
      exact .inl ⟨j, hj, by rw [this]; exact hy⟩
    · exact .inr ⟨hid, by rw [← hout id hid]; exact hx⟩
  have hex2 : ∀ b o, excl c2.ρ b o → excl ρ' b o ∨ ∃ id co, id ∉ ids ∧ c.ρ[id]? = some co ∧ co.covers b o := fun b o ⟨co, hco, hcov⟩ => by
    obtain ⟨id, hid⟩ := List.getElem?_of_mem hco
    rcases hmem id co hid with ⟨j, _, hj⟩ | ⟨h1, h2⟩
    · exact .inl ⟨co, List.mem_of_getElem? hj, hcov⟩
    · exact .inr ⟨id, co, h1, h2, hcov⟩
  have hmine1 : ∀ b, c1.mine b → c2.mine b := fun b hb => by
    rcases hb with hb | hb
    · exact .inl (Nat.le_trans h.below.size hb)
    · exact (hfpb b hb).1
  have hok12 : ∀ b o, c1.ok b o → c2.ok b o := fun b o ⟨h1, h2⟩ => by
    refine ⟨?_, fun he => ?_⟩
    · rcases h1 with h1 | h1
      · exact h1.1
      · exact .inr (hmine1 b h1)
    · rcases hex2 b o he with he | ⟨id, co, hid, hco, hcov⟩
      · exact h2 he
      · have hbl := CO.covers_block hcov
        rcases h1 with h1 | h1 | h1
        · exact h1.2 ⟨co, List.mem_of_getElem? hco, hcov⟩
        · have := (h.blockOf (List.mem_of_getElem? hco) hbl).2
          exact absurd this (Nat.not_lt.2 h1)
        · exact hfpd b h1 id hid co hco hbl
  have hraw : ∀ ad : Addr, ∀ u, ¬ excl c.ρ ad.block ad.off → c.w.cell? ad = some u → ¬ excl c2.ρ ad.block ad.off ∧ c2.w.cell? ad = some u := fun ad u h1 h2 => by
    obtain ⟨h3, h4⟩ := hle.raw ad u (fun he => h1 (hexcc _ _ he)) h2
    refine ⟨fun he => ?_, h4⟩
    rcases hex2 _ _ he with he | ⟨id, co, hid, hco, hcov⟩
    · exact h3 he
    · exact h1 ⟨co, List.mem_of_getElem? hco, hcov⟩
  have hc12 : c.le c2 := {
    η := ⟨ys, rfl⟩
    ρ := fun id b hb => by
      by_cases hid : id ∈ ids
      · obtain ⟨j, hj⟩ := List.getElem?_of_mem hid
        exact hin j id _ hj (hle.ρ j b (by rw [hccρ j id hj]; exact hb))
      · rw [hout id hid]; exact hb
    tk := fun id x hx => by
      by_cases hid : id ∈ ids
      · obtain ⟨j, hj⟩ := List.getElem?_of_mem hid
        obtain ⟨x', h1, h2⟩ := hle.tk j x (by rw [hccρ j id hj]; exact hx)
        exact ⟨x', hin j id _ hj h1, h2⟩
      · exact ⟨x, by rw [hout id hid]; exact hx, .inl rfl⟩
    keeps := fun ad u h1 h2 => by
      obtain ⟨h3, h4⟩ := hle.keeps ad u ⟨.inl h1, fun he => h1.2 (hexcc _ _ he)⟩ h2
      exact ⟨hok12 _ _ h3, h4⟩
    raw := hraw }
  have how1 : ∀ (j : Nat) x, ρ'[j]? = some x → ∀ b, x.block? = some b → c1.mine b ∧ b < w'.heap.size := fun j x hx b hb => how.blockOf hx hb
  have hrel : Rel c2 n { σ with o := setAll σ.o ids (K.obss false (pre.length + (K.tyss rk).length) ids ks) } a := by
    refine { defers := h.defers, size := h.size, tmps := fun i => SVR.le hc12 _ _ (h.tmps i), olen := by simp [c2, setAll_length, h.olen], own := ?_, dist := ?_, below := ?_ }
    · intro id ob co ho hco
      rcases hmem id co hco with ⟨j, hj, hx⟩ | ⟨hid, hx⟩
      · have hjl : j < ids.length := (List.getElem?_eq_some_iff.1 hj).1
        have hjo : j < (K.obss false (pre.length + (K.tyss rk).length) ids ks).length := by rw [K.obss_length, ← s3]; exact hjl
        have hob := List.getElem?_eq_getElem hjo
        have := setAll_in ids σ.o _ j id _ hnd (fun i hi => by rw [h.olen]; exact hval i hi) hj hob
        simp only at ho
        rw [this] at ho; injection ho with ho
        refine obss_move (c := c1) (cc := c2) rfl hok12 (fun b hb _ => hmine1 b hb) ks rs1.length (pre.length + (K.tyss rk).length) (List.range' 0 (K.nobss ks)) ids (by simp) s3
          (fun j s t h3 h4 => by
            obtain ⟨rfl, hj'⟩ := range'_get h3
            rw [Nat.zero_add]
            have hy := List.getElem?_eq_getElem (show j < ρ'.length by omega)
            rw [hin j t _ h4 hy]; exact hy.symm)
          (fun s hs => by simp at hs; show s < ρ'.length; omega) (fun j hj' => ?_)
          (fun j ob s co h3 h4 h5 => by obtain ⟨rfl, _⟩ := range'_get h4; rw [Nat.zero_add] at h5; exact how.own j ob co h3 h5) j ob id co (by rw [hob, ho]) hj (by simpa using hco)
        have hlt : rs1.length + j < xs.length := by rw [hxl]; simp only [K.rts, List.length_append]; omega
        refine ⟨_, List.getElem?_eq_getElem hlt, ?_⟩
        show (c.η ++ ys)[pre.length + (K.tyss rk).length + j]? = _
        rw [hpos, List.getElem?_append_left (by rw [List.length_append]; omega), List.getElem?_append_right (by omega), ← hl1, Nat.add_assoc, Nat.add_sub_cancel_left]
        exact List.getElem?_eq_getElem hlt
      · simp only at ho
        rw [setAll_out ids _ _ id hid] at ho
        refine (h.own id ob co ho hx).le hc12 rfl fun b hb => ?_
        have hb2 := (h.blockOf (List.mem_of_getElem? hx) hb).2
        exact hkept.block b hb2 fun hf => hfpd b hf id hid co hx hb
    · intro i j ci cj bi bj hij hi hj hbi hbj
      rcases hmem i ci hi with ⟨i', hi', hxi⟩ | ⟨hid, hxi⟩ <;> rcases hmem j cj hj with ⟨j', hj', hxj⟩ | ⟨hjd, hxj⟩
      · exact how.dist i' j' ci cj bi bj (fun e => hij (by subst e; rw [hi'] at hj'; injection hj')) hxi hxj hbi hbj
      · rintro rfl
        have hb2 := (h.blockOf (List.mem_of_getElem? hxj) hbj).2
        rcases (how1 i' ci hxi _ hbi).1 with h' | h'
        · exact absurd hb2 (Nat.not_lt.2 h')
        · exact hfpd _ h' j hjd cj hxj hbj
      · rintro rfl
        have hb2 := (h.blockOf (List.mem_of_getElem? hxi) hbi).2
        rcases (how1 j' cj hxj _ hbj).1 with h' | h'
        · exact absurd hb2 (Nat.not_lt.2 h')
        · exact hfpd _ h' i hid ci hxi hbi
      · exact h.dist i j ci cj bi bj hij hxi hxj hbi hbj
    · refine h.below.step hkept.os hkept.tape hkept.output hkept.size fun k hk hf => hkept.block k (Nat.lt_of_lt_of_le hk h.below.size) fun hfk => ?_
      exact Cx.not_mine (hfpb k hfk).1 hk hf rfl
  obtain ⟨_, m2⟩ := resSVs_sound (c := c2) (ok := c1.ok) hok12 pre (rs2 ++ post) hk (by show c.η ++ ys = _; rw [hpos, hrs]; simp)
  exact ⟨us, c2, rfl, rfl, rfl, rfl, rfl, hc12, hrel, m2⟩

theorem objEnd_skip {c cc : Cx} {o : List OB} {k0 : K} {ks : List K} {k i : Nat} {es : List E} (h0 : k0.nobs = 0) (h1 : k0.otys = [])
    (h : E.bds c.η.length es = true ∧ es.length = (K.otyss ks).length ∧ (K.nobss ks ≠ 0 → k + K.nobss ks ≤ o.length) ∧ ∀ (j : Nat) ob co, (K.obss false i (List.range' k (K.nobss ks)) ks)[j]? = some ob → cc.ρ[k + j]? = some co → ORel cc ob co) :
    E.bds c.η.length es = true ∧ es.length = (K.otyss (k0 :: ks)).length ∧ (K.nobss (k0 :: ks) ≠ 0 → k + K.nobss (k0 :: ks) ≤ o.length) ∧ ∀ (j : Nat) ob co, (K.obss false i (List.range' k (K.nobss (k0 :: ks))) (k0 :: ks))[j]? = some ob → cc.ρ[k + j]? = some co → ORel cc ob co := by
  have h2 : ∀ l, k0.obs i l = [] := fun l => List.length_eq_zero_iff.1 (by rw [K.obs_length, h0])
  simpa [K.otyss, K.nobss, K.obss, h0, h1, h2] using h
/-- What the objects hold in the end, in the setting that is left. -/
theorem objEnd_sound {c cc : Cx} {o : List OB} (hown : Own c o) (hw : cc.w = c.w) (hok : ∀ b o, c.ok b o → cc.ok b o) (hmine : ∀ b, c.mine b → cc.mine b) :
    ∀ (ks : List K) (k i : Nat) {es : List E}, objEnd o k ks = some es → (∀ t, k ≤ t → t < k + K.nobss ks → cc.ρ[t]? = c.ρ[t]?) → (∀ (j : Nat) e, es[j]? = some e → cc.η[i + j]? = some (e.den c.η)) →
      E.bds c.η.length es = true ∧ es.length = (K.otyss ks).length ∧ (K.nobss ks ≠ 0 → k + K.nobss ks ≤ o.length) ∧
        ∀ (j : Nat) ob co, (K.obss false i (List.range' k (K.nobss ks)) ks)[j]? = some ob → cc.ρ[k + j]? = some co → ORel cc ob co
  | [], k, i, es, h, _, _ => by
    simp only [objEnd, Option.some.injEq] at h; subst h
    exact ⟨rfl, rfl, fun h => absurd rfl h, fun j ob co h => by simp [K.obss] at h⟩
  | .obj bt cks :: ks, k, i, es, h, hρ, hη => by
    simp only [objEnd] at h
    split at h
    · rename_i es1 ids es2 h1 h2
      split at h
      · rename_i hids
        subst hids
        simp only [Option.some.injEq] at h; subst h
        have hn : K.nobss (.obj bt cks :: ks) = CK.ngro cks + 1 + K.nobss ks := rfl
        rw [hn] at hρ ⊢
        have hids := toObj_ids h1
        have hlast : k + CK.ngro cks < o.length := hids _ (by simp)
        -- the object's address
        have hv : ∃ v, SVR c (.ptr k 0) v := by
          have hkl : k < o.length := by omega
          have hob := List.getElem?_eq_getElem hkl
          have hkr : k < c.ρ.length := by rw [← hown.olen]; exact hkl
          have hco := List.getElem?_eq_getElem hkr
          have h0 := hown.own k _ _ hob hco
          have : ∃ bt cs, o[k] = .box bt cs := by
            unfold toObj at h1
            split at h1
            · rename_i id heq
              injection heq with e1 _; subst e1
              split at h1
              · rename_i bt' cs hcs
                rw [hob] at hcs; injection hcs with hcs
                exact ⟨bt', cs, hcs⟩
              · cases h1
            · cases h1
          obtain ⟨bt', cs, hcs⟩ := this
          rw [hcs] at h0
          cases hc : c.ρ[k] with
          | blk b => rw [hc] at hco; exact ⟨_, by simp only [SVR]; exact ⟨b, hco, rfl⟩⟩
          | tk x => rw [hc] at h0; simp only [ORel] at h0
        obtain ⟨v, hv⟩ := hv
        obtain ⟨q1, q2, q3, q4, q5⟩ := toObj_sound (cc := cc) (tgt := List.range' k (CK.ngro cks + 1)) (i := i) hown hw hok h1 hv rfl
          (fun j s t h3 h4 => by
            obtain ⟨rfl, h5⟩ := range'_get h3
            obtain ⟨rfl, _⟩ := range'_get h4
            exact hρ _ (by omega) (by omega))
          (fun s _ co b hco hb => hmine b (hown.blockOf hco hb).1) (fun j e hj => hη j e (by rw [List.getElem?_append_left (List.getElem?_eq_some_iff.1 hj).1]; exact hj))
        obtain ⟨w1, w2, w3, w4⟩ := objEnd_sound hown hw hok hmine ks (k + (CK.ngro cks + 1)) (i + (CK.tyss cks).length) h2 (fun t h3 h4 => hρ t (by omega) (by omega))
          (fun j e hj => by have := hη (es1.length + j) e (by rw [List.getElem?_append_right (by omega), Nat.add_sub_cancel_left]; exact hj); rwa [q2, ← Nat.add_assoc] at this)
        refine ⟨by simp [E.bds_append, q1, w1], by simp [K.otyss, K.otys, q2, w2], fun _ => ?_, fun j ob co hj hco => ?_⟩
        · by_cases h0 : K.nobss ks = 0
          · omega
          · have := w3 h0; omega
        · simp only [K.obss, K.nobs, K.otys, Bool.false_eq_true, if_false, drop_range'_, take_range' _ _ _ (Nat.le_add_right (CK.ngro cks + 1) _), Nat.add_sub_cancel_left] at hj
          by_cases hlt : j < CK.ngro cks + 1
          · rw [List.getElem?_append_left (by rw [K.obs_length]; exact hlt)] at hj
            exact q5 j ob (k + j) co hj (by simp [hlt]) hco
          · rw [List.getElem?_append_right (by rw [K.obs_length]; simp [K.nobs]; omega), K.obs_length] at hj
            refine w4 (j - (CK.ngro cks + 1)) ob co hj ?_
            rw [show k + (CK.ngro cks + 1) + (j - (CK.ngro cks + 1)) = k + j by omega]; exact hco
      · cases h
    · cases h
  | .unk :: ks, k, i, es, h, hρ, hη => objEnd_skip (k0 := .unk) rfl rfl (objEnd_sound hown hw hok hmine ks k i h (by simpa [K.nobss, K.nobs] using hρ) hη)
  | .one t :: ks, k, i, es, h, hρ, hη => objEnd_skip (k0 := .one t) rfl rfl (objEnd_sound hown hw hok hmine ks k i h (by simpa [K.nobss, K.nobs] using hρ) hη)
  | .agg t :: ks, k, i, es, h, hρ, hη => objEnd_skip (k0 := .agg t) rfl rfl (objEnd_sound hown hw hok hmine ks k i h (by simpa [K.nobss, K.nobs] using hρ) hη)
  | .ref t :: ks, k, i, es, h, hρ, hη => objEnd_skip (k0 := .ref t) rfl rfl (objEnd_sound hown hw hok hmine ks k i h (by simpa [K.nobss, K.nobs] using hρ) hη)
  | .clo g t :: ks, k, i, es, h, hρ, hη => objEnd_skip (k0 := .clo g t) rfl rfl (objEnd_sound hown hw hok hmine ks k i h (by simpa [K.nobss, K.nobs] using hρ) hη)
end Fw
