import Derived.Test.YtbikkfomnbmkpaaDoorFwH
namespace Fw
open Go Go.RowKit

theorem readOBs_sound {c c' : Cx} {m : Nat} (hJ : J c c' m) :
    ∀ (os ts : List OB) {r : List (Nat × E)} (k : Nat), readOBs m c.ρ.length os ts = some r → k + ts.length ≤ m → (os.length = c.ρ.length - k) → (∀ p ∈ r, p.1 < c'.η.length ∧ c'.η.getD p.1 default = p.2.den c.η) →
      (∀ (i : Nat) (ob : OB) (co : CO), os[i]? = some ob → c.ρ[k + i]? = some co → ORel c ob co) →
      ∀ (i : Nat) (ob : OB) (co : CO), ts[i]? = some ob → c'.ρ[k + i]? = some co → ORel c' ob co
  | os, [], _, _, _, _, _, _, _ => fun i ob co h => by simp at h
  | [], t :: ts, r, k, hr, hk, hl, hp, ho => by
    have hkm : k < m := by simp at hk; omega
    have hkl : c.ρ.length ≤ k := by simp at hl; omega
    cases t with
    | box bt tm => simp [readOBs] at hr
    | iter x p => simp [readOBs] at hr
    | tok tt sz e =>
      unfold readOBs at hr
      split at hr
      · simp_all
      · simp_all
      · simp_all
      · simp_all
      · rename_i tt' sz' i us rt heq
        simp only [List.cons.injEq, OB.tok.injEq] at heq
        obtain ⟨⟨rfl, rfl, rfl⟩, rfl⟩ := heq
        simp only [Option.map_eq_some_iff] at hr
        obtain ⟨r2, h2, rfl⟩ := hr
        intro j ob co hj hc
        cases j with
        | zero =>
          simp only [List.getElem?_cons_zero, Option.some.injEq] at hj; subst hj
          rw [Nat.add_zero, hJ.new k hkl hkm] at hc
          injection hc with hc; subst hc
          obtain ⟨h3, h4⟩ := hp _ (List.mem_cons_self ..)
          simp only [ORel, E.bd, E.den, tkLen]
          refine ⟨by simpa using h3, ?_, trivial⟩
          rw [h4]; simp [E.den, E.denss, D.toL]
        | succ j =>
          exact readOBs_sound hJ [] ts (k + 1) h2 (by simp at hk; omega) (by simp; omega) (fun p hp' => hp p (List.mem_cons_of_mem _ hp')) (fun i ob co hi => by simp at hi) j ob co (by simpa using hj) (by rwa [show k + 1 + j = k + (j + 1) by omega])
      · cases hr
  | o :: os, t :: ts, r, k, hr, hk, hl, hp, ho => by
    have hkm : k < m := by simp at hk; omega
    simp only [List.length_cons] at hl
    have hkl : k < c.ρ.length := by omega
    have step : ∀ (r1 r2 : List (Nat × E)), readOBs m c.ρ.length os ts = some r2 → (∀ p ∈ r2, p.1 < c'.η.length ∧ c'.η.getD p.1 default = p.2.den c.η) →
        (∀ co, c.ρ[k]? = some co → ORel c' t co) →
        ∀ (i : Nat) (ob : OB) (co : CO), (t :: ts)[i]? = some ob → c'.ρ[k + i]? = some co → ORel c' ob co := by
      intro r1 r2 h2 hp2 h0 i ob co hi hc
      cases i with
      | zero =>
        simp at hi; subst hi
        have hco := List.getElem?_eq_getElem hkl
        rw [Nat.add_zero, hJ.ρ k _ hkm hco] at hc
        injection hc with hc; subst hc
        exact h0 _ hco
      | succ i =>
        exact readOBs_sound hJ os ts (k + 1) h2 (by simp at hk; omega) (by omega) hp2 (fun i ob co hi hc => ho (i + 1) ob co (by simpa using hi) (by rwa [show k + (i + 1) = k + 1 + i by omega])) i ob co (by simpa using hi) (by rwa [show k + 1 + i = k + (i + 1) by omega])
    unfold readOBs at hr
    split at hr
    · simp_all
    · rename_i bt cs r' bt' tm rt h1 h2
      simp only [List.cons.injEq] at h1 h2
      obtain ⟨rfl, rfl⟩ := h1
      obtain ⟨rfl, rfl⟩ := h2
      split at hr
      · rename_i r1 r2 h1 h2
        split at hr
        · rename_i hbt; subst hbt
          simp only [Option.some.injEq] at hr; subst hr
          refine step r1 r2 h2 (fun p hp' => hp p (List.mem_append_right _ hp')) fun co hco => ?_
          have h0 := ho 0 _ co rfl (by rw [Nat.add_zero]; exact hco)
          cases co with
          | blk b =>
            simp only [ORel] at h0 ⊢
            obtain ⟨a1, arr, a3, a4⟩ := h0
            exact ⟨by rw [Cx.mine, hJ.w0]; exact a1, arr, by rw [hJ.w]; exact a3, readSVs_sound hJ cs tm h1 a4 fun p hp' => hp p (List.mem_append_left _ hp')⟩
          | tk x => simp only [ORel] at h0
        · cases hr
      · cases hr
    · rename_i e p r' i j rt h1 h2
      simp only [List.cons.injEq] at h1 h2
      obtain ⟨rfl, rfl⟩ := h1
      obtain ⟨rfl, rfl⟩ := h2
      split at hr
      · rename_i hc
        simp only [Option.map_eq_some_iff] at hr
        obtain ⟨r2, h2, rfl⟩ := hr
        refine step [] r2 h2 (fun p hp' => hp p (List.mem_cons_of_mem _ (List.mem_cons_of_mem _ hp'))) fun co hco => ?_
        have h0 := ho 0 _ co rfl (by rw [Nat.add_zero]; exact hco)
        obtain ⟨h3, h4⟩ := hp _ (List.mem_cons_self ..)
        obtain ⟨h5, h6⟩ := hp _ (List.mem_cons_of_mem _ (List.mem_cons_self ..))
        cases co with
        | blk b =>
          simp only [ORel, E.bd, E.den] at h0 ⊢
          rw [h4, h6]
          obtain ⟨_, _, a3, str, n, a4, a5, a6⟩ := h0
          exact ⟨by simpa using h3, by simpa using h5, by rw [Cx.mine, hJ.w0]; exact a3, str, n, a4, a5, by rw [hJ.w]; exact a6⟩
        | tk x => simp only [ORel] at h0
      · cases hr
    · rename_i tt sz e r' tt' sz' i t' rt h1 h2
      simp only [List.cons.injEq] at h1 h2
      obtain ⟨rfl, rfl⟩ := h1
      obtain ⟨rfl, rfl⟩ := h2
      split at hr
      · rename_i hc
        simp only [Bool.and_eq_true, decide_eq_true_eq] at hc
        obtain ⟨⟨rfl, rfl⟩, _⟩ := hc
        simp only [Option.map_eq_some_iff] at hr
        obtain ⟨r2, h2, rfl⟩ := hr
        refine step [] r2 h2 (fun p hp' => hp p (List.mem_cons_of_mem _ hp')) fun co hco => ?_
        have h0 := ho 0 _ co rfl (by rw [Nat.add_zero]; exact hco)
        obtain ⟨h3, h4⟩ := hp _ (List.mem_cons_self ..)
        cases co with
        | blk b => simp only [ORel] at h0
        | tk x =>
          simp only [ORel, E.bd, E.den] at h0 ⊢
          rw [h4]
          obtain ⟨_, a2, a3⟩ := h0
          refine ⟨by simpa using h3, a2, ?_⟩
          cases x with
          | none => trivial
          | some x =>
            obtain ⟨b, len, cap, sz2⟩ := x
            simp only at a3 ⊢
            rw [hJ.w, Cx.mine, hJ.w0]; exact a3
      · cases hr
    · simp_all
    · cases hr

theorem readTs_sound {c c' : Cx} {m : Nat} (hJ : J c c' m) (t : List (Nat × SV)) (tmps : Array Value) (ht : ∀ i, SVR c (look t i) (tmps.getD i undef)) :
    ∀ (l : List (Nat × SV)) {r : List (Nat × E)}, readTs m c.ρ.length t l = some r → (∀ p ∈ r, p.1 < c'.η.length ∧ c'.η.getD p.1 default = p.2.den c.η) → ∀ i, SVR c' (look l i) (tmps.getD i undef)
  | [], _, _, _, i => by simp only [look, SVR]
  | (j, tm) :: l, r, hr, hp, i => by
    simp only [readTs] at hr
    split at hr
    · rename_i r1 r2 h1 h2
      simp only [Option.some.injEq] at hr; subst hr
      simp only [look]
      split
      · rename_i hij; subst hij
        exact readSV_sound hJ _ tm h1 (ht i) fun p hp' => hp p (List.mem_append_left _ hp')
      · exact readTs_sound hJ t tmps ht l h2 (fun p hp' => hp p (List.mem_append_right _ hp')) i
    · cases hr

theorem dens_map (η : Env) : ∀ l : List E, E.dens η l = l.map (E.den η)
  | [] => rfl
  | x :: l => by simp [E.dens, dens_map η l]

theorem single_sound : ∀ (z acc : List (Nat × E)) {out : List (Nat × E)}, single acc z = some out →
    (∀ i q, acc.find? (·.1 = i) = some q → out.find? (·.1 = i) = some q) ∧ (∀ p ∈ z, ∃ q, out.find? (·.1 = p.1) = some q ∧ q.2 = p.2)
  | [], acc, out, h => by
    simp only [single, Option.some.injEq] at h; subst h
    exact ⟨fun _ _ h => h, fun p hp => by simp at hp⟩
  | (i, e) :: z, acc, out, h => by
    simp only [single] at h
    split at h
    · rename_i j e' hf
      split at h
      · rename_i hb
        obtain ⟨h1, h2⟩ := single_sound z acc h
        refine ⟨h1, fun p hp => ?_⟩
        rcases List.mem_cons.1 hp with rfl | hp
        · exact ⟨_, h1 _ _ hf, (E.beq_eq _ _ hb).symm⟩
        · exact h2 p hp
      · cases h
    · rename_i hf
      obtain ⟨h1, h2⟩ := single_sound z ((i, e) :: acc) h
      refine ⟨fun k q hk => h1 k q ?_, fun p hp => ?_⟩
      · rw [List.find?_cons]
        by_cases hik : i = k
        · subst hik; rw [hf] at hk; cases hk
        · simp [hik]; simpa using hk
      · rcases List.mem_cons.1 hp with rfl | hp
        · exact ⟨_, h1 _ (i, e) (by simp), rfl⟩
        · exact h2 p hp
theorem argList_sound {z : List (Nat × E)} : ∀ (ts : List Ty) (k : Nat) {es : List E}, argList z k ts = some es → es.length = ts.length ∧ ∀ j < ts.length, ∃ q, z.find? (·.1 = k + j) = some q ∧ es[j]? = some q.2
  | [], k, es, h => by
    simp only [argList, Option.some.injEq] at h; subst h
    exact ⟨rfl, fun j hj => by simp at hj⟩
  | t :: ts, k, es, h => by
    simp only [argList] at h
    split at h
    · rename_i j e es' hf hes
      split at h
      · simp only [Option.some.injEq] at h; subst h
        obtain ⟨h1, h2⟩ := argList_sound ts (k + 1) hes
        refine ⟨by simp [h1], fun j hj => ?_⟩
        cases j with
        | zero => exact ⟨_, hf, rfl⟩
        | succ j =>
          obtain ⟨q, h3, h4⟩ := h2 j (by simpa using hj)
          exact ⟨q, by rw [show k + (j + 1) = k + 1 + j by omega]; exact h3, by simpa using h4⟩
      · cases h
    · cases h

theorem jump_sound {c : Cx} {n : Nat} {σ : Sig} {a : Act} {b : Blk} {as : List E} (h : Rel c n σ a) (hj : jumpArgs σ b = some as) :
    as.length = b.tys.length ∧ ∃ c', c'.η = E.dens c.η as ∧ c'.w = c.w ∧ c'.ok0 = c.ok0 ∧ c'.b0 = c.b0 ∧ (∀ c0, LeM c0 c → c0.ρ.length ≤ b.σ.o.length → LeM c0 c') ∧ Rel c' n b.σ a := by
  unfold jumpArgs at hj
  split at hj
  · rename_i x y hx hy
    split at hj
    · rename_i z hz
      split at hj
      · rename_i hall
        obtain ⟨hlen, hargs⟩ := argList_sound _ _ hj
        obtain ⟨_, hs⟩ := single_sound _ _ hz
        refine ⟨hlen, ?_⟩
        let c' : Cx := { c with η := E.dens c.η as, ρ := c.ρ.take b.σ.o.length ++ List.replicate (b.σ.o.length - c.ρ.length) (.tk none) }
        have hηl : c'.η.length = b.tys.length := by simp [c', E.dens_length, hlen]
        have hp : ∀ p ∈ x ++ y, p.1 < c'.η.length ∧ c'.η.getD p.1 default = p.2.den c.η := by
          intro p hp
          obtain ⟨q, hq, hq2⟩ := hs p hp
          have hqm := List.mem_of_find?_eq_some hq
          have hq1 : q.1 = p.1 := by simpa using List.find?_some hq
          have hlt : p.1 < b.tys.length := by rw [← hq1]; simpa using List.all_eq_true.1 hall q hqm
          refine ⟨by rw [hηl]; exact hlt, ?_⟩
          obtain ⟨q', hq', he⟩ := hargs p.1 hlt
          rw [Nat.zero_add, hq] at hq'
          injection hq' with hq'; subst hq'
          simp only [c', dens_map, List.getD_eq_getElem?_getD, List.getElem?_map, he, Option.map_some, Option.getD_some, hq2]
        have hJ : J c c' b.σ.o.length := by
          have hex : ∀ b' o, excl c'.ρ b' o → excl c.ρ b' o := fun b' o ⟨z, hz, hcov⟩ => by
            rcases List.mem_append.1 hz with hz | hz
            · exact ⟨z, List.mem_of_mem_take hz, hcov⟩
            · rw [(List.mem_replicate.1 hz).2] at hcov; simp only [CO.covers] at hcov
          refine ⟨fun b' o ⟨h1, h2⟩ => ⟨h1, fun he => h2 (hex _ _ he)⟩, rfl, rfl, fun id q hid hq => ?_, fun id h1 h2 => ?_, hex, ?_⟩
          · have hl := (List.getElem?_eq_some_iff.1 hq).1
            simp only [c']
            rw [List.getElem?_append_left (by rw [List.length_take]; omega), List.getElem?_take_of_lt hid]; exact hq
          · simp only [c']
            rw [List.getElem?_append_right (by rw [List.length_take]; omega), List.length_take, List.getElem?_replicate, if_pos (by omega)]
          · simp only [c', List.length_append, List.length_take, List.length_replicate]; omega
        rw [h.olen] at hx hy
        refine ⟨c', rfl, rfl, rfl, rfl, fun c0 hle hl => ?_, ?_⟩
        · exact {
            ρ := fun id b' hb => hJ.ρ id _ (Nat.lt_of_lt_of_le (List.getElem?_eq_some_iff.1 hb).1 hl) (hle.ρ id b' hb)
            tk := fun id q hq => by
              obtain ⟨q', h1, h2⟩ := hle.tk id q hq
              exact ⟨q', hJ.ρ id _ (Nat.lt_of_lt_of_le (List.getElem?_eq_some_iff.1 hq).1 hl) h1, h2⟩
            keeps := fun ad u h1 h2 => by
              obtain ⟨h3, h4⟩ := hle.keeps ad u h1 h2
              exact ⟨hJ.ok _ _ h3, h4⟩
            raw := fun ad u h1 h2 => by
              obtain ⟨h3, h4⟩ := hle.raw ad u h1 h2
              exact ⟨fun he => h3 (hJ.ex _ _ he), h4⟩ }
        exact {
          defers := h.defers
          size := h.size
          tmps := readTs_sound hJ σ.t a.tmps h.tmps b.σ.t hx (fun p hp' => hp p (List.mem_append_left _ hp'))
          olen := hJ.len.symm
          own := fun id ob co hi hc => readOBs_sound hJ σ.o b.σ.o 0 hy (by omega) (by rw [h.olen]; omega) (fun p hp' => hp p (List.mem_append_right _ hp'))
            (fun i ob co hi hc => h.own i ob co hi (by rwa [Nat.zero_add] at hc)) id ob co hi (by rwa [Nat.zero_add])
          dist := fun i j ci cj bi bj hij hi hj hbi hbj => by
            have e : ∀ (i : Nat) ci bi, c'.ρ[i]? = some ci → ci.block? = some bi → c.ρ[i]? = some ci := fun i ci bi hi hbi => by
              simp only [c', List.getElem?_append] at hi
              split at hi
              · rw [List.getElem?_take] at hi
                split at hi
                · exact hi
                · cases hi
              · rw [List.getElem?_replicate] at hi
                split at hi
                · injection hi with hi; subst hi; simp [CO.block?] at hbi
                · cases hi
            exact h.dist i j ci cj bi bj hij (e _ _ _ hi hbi) (e _ _ _ hj hbj) hbi hbj
          below := h.below }
      · cases hj
    · cases hj
  · cases hj

end Fw
