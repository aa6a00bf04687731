import Derived.Test.YtbikkfomnbmkpaaDoorFwS
namespace Fw
open Go Go.RowKit

theorem boolE_sound {c : Cx} {s : SV} {v : Value} {e : E} (hs : SVR c s v) (he : boolE s = some e) : v = .bool (e.den c.η).toB := by
  unfold boolE at he
  split at he
  · rename_i e' hx
    split at he
    · rename_i hty
      simp only [Option.some.injEq] at he; subst he
      obtain ⟨_, hv⟩ := ex_sound hs hx
      rw [hty] at hv
      exact hv.bool_.1
    · cases he
  · cases he

theorem putS_sound {c : Cx} {n : Nat} {σ σ' : Sig} {a : Act} {o : List OB} {dst : Option Nat} {s : SV} {v : Value} (h : Rel c n { σ with o := o } a) (hs : SVR c s v)
    (hp : putS n σ dst s o = some σ') : Rel c n σ' (a.put dst v) := by
  cases dst with
  | none =>
    simp only [putS, Option.some.injEq] at hp; subst hp
    exact h
  | some d =>
    simp only [putS] at hp
    split at hp
    · rename_i hd
      simp only [Option.some.injEq] at hp; subst hp
      exact h.put hd hs
    · cases hp

theorem wanted_of {ops : Array Oper} {c : Cx} {n : Nat} {σ : Sig} {a : Act} (hr : Rel c n σ a) {o : Oper} {j : Nat} {b : Bool} {d : Nat} (hg : o.guard = some (j, b)) (hd : (ops[j]?).bind (·.dst) = some d) (hdn : d < n) :
    (∀ x, look σ.t d = .sc (.b x) → Region.wanted o (yielded ops a.tmps) = (x == b)) ∧ (look σ.t d = .und → Region.wanted o (yielded ops a.tmps) = false) := by
  have hdn' : d < a.tmps.size := by rw [hr.size]; exact hdn
  have hget : a.tmps[d]? = some (a.tmps.getD d undef) := by rw [Array.getD_eq_getD_getElem?, Array.getElem?_eq_getElem hdn']; rfl
  have ht := hr.tmps d
  refine ⟨fun x hx => ?_, fun hx => ?_⟩
  · rw [hx] at ht
    simp only [SVR, E.ty, E.den] at ht
    have hv := ht.2.bool_.1
    simp only [D.toB] at hv
    simp only [Region.wanted, hg, yielded, hd, Option.bind_some, hget, hv]
    cases x <;> cases b <;> rfl
  · rw [hx] at ht
    simp only [SVR] at ht
    rw [ht] at hget
    simp only [Region.wanted, hg, yielded, hd, Option.bind_some, hget]
    rfl

/-- One operation, wherever it comes up. -/
theorem step1_run {C : Ctx} {ops : Array Oper} {ηs : Env} {p i : Nat} {lb : Lab} {σ σ' : Sig} (h : Step1 C ops ηs p i lb σ σ') {c : Cx} {a : Act} {b : Frame} {its : List Item} {cs : List Frame} {is : List Nat}
    (hr : Rel c C.fn.ntmps σ a) (hη : c.η = ηs) (hL : LOk C.L c.b0) :
    ∃ c' a', Steps C.P (lone (b.at a (.inRegion ops (i :: is) :: its)) cs c.w) (lone (b.at a' (.inRegion ops is :: its)) cs c'.w) ∧ c'.η = ηs ∧ c'.ok0 = c.ok0 ∧ c'.b0 = c.b0 ∧ LeM c c' ∧ Rel c' C.fn.ntmps σ' a' := by
  obtain ⟨o, s, e, ho, hc, hp⟩ := h
  rcases hc with ⟨hw, hl, s0, hy, hf⟩ | ⟨⟨j, q, d, h1, h2, h3, h4⟩, hl, rfl, rfl⟩
  · have hwant : Region.wanted o (yielded ops a.tmps) = true := by
      rcases hw with hw | ⟨j, b, d, h1, h2, h3, h4⟩
      · simp [Region.wanted, hw]
      · rw [(wanted_of hr h1 h2 h3).1 b h4]; simp
    have hgood := sxOp_good (P := C.P) hr C.sigs o
    have fin : ∀ c' v, c'.η = ηs → Rel c' C.fn.ntmps { σ with o := e.app σ.o } a → SVR c' s0 v → Rel c' C.fn.ntmps σ' (a.put o.dst v) := fun c' v hη' hr' hs' => by
      refine putS_sound hr' ?_ hp
      unfold Fix at hf
      split at hf
      · obtain ⟨q, x, q1, q2, rfl⟩ := hf
        have := boolE_sound hs' q1
        rw [hη', q2] at this
        rw [this]
        simp only [SVR, E.bd, E.ty, E.den]
        exact ⟨trivial, _, rfl, rfl⟩
      · rw [hf]; exact hs'
    generalize hR : sxOp C.P C.sigs σ o = r at hy hgood
    cases hy with
    | val =>
      obtain ⟨v, c', hrun, g1, g2, g3, g4, g5, g6⟩ := hgood
      exact ⟨c', _, .one (step_val ho hwant hrun), g1.trans hη, g2, g3, g4.m, fin c' v (g1.trans hη) g5 g6⟩
    | skip =>
      obtain ⟨c', hrun, g1, g2, g3, g4, g5⟩ := hgood
      exact ⟨c', _, .one (step_skipv ho hwant hrun), g1.trans hη, g2, g3, g4.m, fin c' undef (g1.trans hη) g5 (by simp only [SVR])⟩
    | guard hq =>
      obtain ⟨v, c', hrun, g1, g2, g3, g4, g5, g6⟩ := hgood (by rw [hη]; exact hq)
      exact ⟨c', _, .one (step_val ho hwant hrun), g1.trans hη, g2, g3, g4.m, fin c' v (g1.trans hη) g5 g6⟩
    | callO hcor hxl hx =>
      rename_i g ks rk as ids xs
      obtain ⟨args, hrun, os, ss, refs, hta, hss, hnd, hrf⟩ := hgood
      obtain ⟨pre, post, hpp, hpl⟩ := hx
      have hcall := callO_sound hr hL hta hss hnd hrf (by rw [hη]; exact hcor) hxl (ys := []) (pre := pre) (post := post) (by rw [List.append_nil, hη]; exact hpp)
      obtain ⟨v, w', ⟨us, c', rfl, g0, g1, g2, g3, g4, g5, g6⟩, hsteps⟩ := steps_call (P := C.P) (b := b) (a := a) (k := its) (cs := cs) (rest := is) ho hwant hrun
        (R := fun v w' => ∃ us c', v = packed us ∧ c'.w = w' ∧ c'.η = c.η ++ [] ∧ c'.ok0 = c.ok0 ∧ c'.b0 = c.b0 ∧ c.le c' ∧
          Rel c' C.fn.ntmps { σ with o := setAll σ.o ids (K.obss false (pre.length + (K.tyss rk).length) ids ks) } a ∧ SVRs c' (resSVs pre.length rk) us)
        (hcall.mono fun e w' ⟨us, c', he, hk⟩ => ⟨_, he, us, c', rfl, hk⟩)
      have hsv := resPacked_sound g6
      rw [hpl] at hsv g5
      rw [List.append_nil] at g1
      subst g0
      exact ⟨c', _, hsteps, g1.trans hη, g2, g3, g4.m, fin _ _ (g1.trans hη) g5 hsv⟩
    | call hcor hx =>
      rename_i g ks rk as xs
      obtain ⟨args, hrun, hkrs⟩ := hgood
      obtain ⟨pre, post, hpp, hpl⟩ := hx
      have hcall := hcor c.ok c.w args.toList (hr.lay hL) (by rw [← hη]; exact hkrs)
      obtain ⟨v, w', ⟨⟨us, rfl, hus⟩, hbl⟩, hsteps⟩ := steps_call (P := C.P) (b := b) (a := a) (k := its) (cs := cs) (rest := is) ho hwant hrun
        (R := fun v w' => (∃ us, v = packed us ∧ KRs (okNew c.ok c.w) w' rk xs us) ∧ Below c.w.heap.size c.w w')
        (by simpa using hcall.mono fun e w' ⟨⟨us, he, hk⟩, hb⟩ => ⟨_, he, ⟨us, rfl, hk⟩, hb⟩)
      obtain ⟨l1, l2⟩ := hr.later hbl []
      simp only [List.append_nil] at l1 l2
      have hokn : ∀ b' o', okNew c.ok c.w b' o' → (⟨c.ok0, c.b0, c.η, c.ρ, w'⟩ : Cx).ok b' o' := by
        rintro b' o' (h1 | h1)
        · exact h1
        · refine ⟨.inr (.inl (Nat.le_trans hr.below.size h1)), fun he => ?_⟩
          have := (hr.excl_block he).2
          omega
      obtain ⟨m1, m2⟩ := resSVs_sound (c := ⟨c.ok0, c.b0, c.η, c.ρ, w'⟩) hokn pre post hus (by rw [← hpp]; exact hη)
      have hsv := resPacked_sound m2
      rw [hpl] at hsv
      exact ⟨⟨c.ok0, c.b0, c.η, c.ρ, w'⟩, _, hsteps, hη, rfl, rfl, l1.m, fin _ _ hη l2 hsv⟩
  · refine ⟨c, _, .one (step_pass ho ?_), hη, rfl, rfl, LeM.refl c, putS_sound (σ := σ) (o := σ.o) hr (by simp only [SVR]) hp⟩
    obtain ⟨w1, w2⟩ := wanted_of hr h1 h2 h3
    rcases h4 with h4 | ⟨x, hx, h4⟩
    · exact w2 h4
    · rw [w1 x h4]; simpa using hx

theorem path_run {C : Ctx} {ops : Array Oper} {ηs : Env} {pos : Nat → Nat} {lab : Nat → Lab} {l : List Nat} {σ σ' : Sig} (h : Path C ops ηs pos lab l σ σ') : ∀ {c : Cx} {a : Act} {b : Frame} {its : List Item} {cs : List Frame},
    Rel c C.fn.ntmps σ a → c.η = ηs → LOk C.L c.b0 →
    ∃ c' a', Steps C.P (lone (b.at a (.inRegion ops l :: its)) cs c.w) (lone (b.at a' its) cs c'.w) ∧ c'.η = ηs ∧ c'.ok0 = c.ok0 ∧ c'.b0 = c.b0 ∧ LeM c c' ∧ Rel c' C.fn.ntmps σ' a' := by
  induction h with
  | nil h =>
    intro c a b its cs hr hη hL
    exact ⟨c, a, .one step_region_end, hη, rfl, rfl, LeM.refl c, hr.eqv h⟩
  | cons h t ih =>
    intro c a b its cs hr hη hL
    obtain ⟨c1, a1, s1, e1, e2, e3, m1, r1⟩ := step1_run (b := b) (its := its) (cs := cs) h hr hη hL
    obtain ⟨c2, a2, s2, f1, f2, f3, m2, r2⟩ := ih (b := b) (its := its) (cs := cs) r1 e1 (e3 ▸ hL)
    exact ⟨c2, a2, Steps.trans s1 s2, f1, f2.trans e2, f3.trans e3, m1.trans m2, r2⟩

/-- A longer environment. -/
theorem Rel.ext {c : Cx} {n : Nat} {σ : Sig} {a : Act} (h : Rel c n σ a) (xs : Env) : Rel { c with η := c.η ++ xs } n σ a := by
  obtain ⟨_, h2⟩ := h.later (Below.refl _ c.w) xs
  exact h2

theorem sxD_sound {C : Ctx} {ops : Array Oper} {kont : Sig → Nat → List Lab → Option T} {B : Nat → T} {rs : List D} : ∀ (is : List Nat) (σ : Sig) (nv : Nat) (labs : List Lab) (t : T), is.Nodup →
    sxD C ops kont is σ nv labs = some t → ∀ (h : Nat) (η : Env), EvN (Corr C.P C.L) B h t η rs → nv = η.length →
    ∃ (ηs : Env) (pos : Nat → Nat) (lab : Nat → Lab) (σ' : Sig) (t' : T) (h' : Nat), (∃ xs, ηs = η ++ xs) ∧ Path C ops ηs pos lab is σ σ' ∧ kont σ' ηs.length (labs ++ is.map lab) = some t' ∧ EvN (Corr C.P C.L) B h' t' ηs rs ∧ h' ≤ h
  | [], σ, nv, labs, t, _, hs, h, η, hev, hn => by
    simp only [sxD] at hs
    subst hn
    exact ⟨η, fun _ => 0, fun _ => ⟨[], [], []⟩, σ, t, h, ⟨[], by simp⟩, .nil ⟨fun _ => rfl, rfl⟩, by simpa using hs, hev, Nat.le_refl _⟩
  | i :: is, σ, nv, labs, t, hnd, hs, h, η, hev, hn => by
    rw [List.nodup_cons] at hnd
    simp only [sxD] at hs
    split at hs
    · cases hs
    rename_i o ho
    -- once the operation has been seen
    have cont : ∀ (σ1 : Sig) (nv1 : Nat) (lab1 : Lab) (η1 : Env) (t1 : T) (h1 : Nat), sxD C ops kont is σ1 nv1 (labs ++ [lab1]) = some t1 → EvN (Corr C.P C.L) B h1 t1 η1 rs → nv1 = η1.length → h1 ≤ h → (∃ xs, η1 = η ++ xs) →
        (∀ ηs, (∃ xs, ηs = η1 ++ xs) → Step1 C ops ηs nv i lab1 σ σ1) →
        ∃ (ηs : Env) (pos : Nat → Nat) (lab : Nat → Lab) (σ' : Sig) (t' : T) (h' : Nat), (∃ xs, ηs = η ++ xs) ∧ Path C ops ηs pos lab (i :: is) σ σ' ∧ kont σ' ηs.length (labs ++ (i :: is).map lab) = some t' ∧ EvN (Corr C.P C.L) B h' t' ηs rs ∧ h' ≤ h := by
      intro σ1 nv1 lab1 η1 t1 h1 hs1 hev1 hn1 hle hpre hstep
      obtain ⟨ηs, pos, lab, σ', t', h', ⟨xs, hxs⟩, hpath, hk, hev', hle'⟩ := sxD_sound is σ1 nv1 _ t1 hnd.2 hs1 h1 η1 hev1 hn1
      obtain ⟨ys, hys⟩ := hpre
      refine ⟨ηs, fun k => if k = i then nv else pos k, fun k => if k = i then lab1 else lab k, σ', t', h', ⟨ys ++ xs, by rw [hxs, hys]; simp⟩, ?_, ?_, hev', Nat.le_trans hle' hle⟩
      · refine .cons (σ1 := σ1) ?_ (hpath.congrFun fun k hk => ?_)
        · simp only [if_true]
          exact hstep ηs ⟨xs, hxs⟩
        · have : k ≠ i := fun e => hnd.1 (e ▸ hk)
          simp [this]
      · have : is.map (fun k => if k = i then lab1 else lab k) = is.map lab := List.map_congr_left fun k hk => by
          have : k ≠ i := fun e => hnd.1 (e ▸ hk)
          simp [this]
        simp only [List.map_cons, if_true, this]
        rw [List.append_assoc] at hk
        exact hk
    -- the result put away
    have go : ∀ (s : SV) (e : Eff) (nv1 : Nat) (lab1 : Lab) (η1 : Env) (t1 : T) (h1 : Nat), sxPut C ops (fun σ' nv' lab => sxD C ops kont is σ' nv' (labs ++ [lab])) σ i o s e nv1 lab1 = some t1 → EvN (Corr C.P C.L) B h1 t1 η1 rs → nv1 = η1.length → h1 ≤ h → (∃ xs, η1 = η ++ xs) →
        (∀ ηs, (∃ xs, ηs = η1 ++ xs) → ∀ s', Fix ops ηs i s s' → Core C ops ηs nv i o lab1 σ s' e) →
        ∃ (ηs : Env) (pos : Nat → Nat) (lab : Nat → Lab) (σ' : Sig) (t' : T) (h' : Nat), (∃ xs, ηs = η ++ xs) ∧ Path C ops ηs pos lab (i :: is) σ σ' ∧ kont σ' ηs.length (labs ++ (i :: is).map lab) = some t' ∧ EvN (Corr C.P C.L) B h' t' ηs rs ∧ h' ≤ h := by
      intro s e nv1 lab1 η1 t1 h1 hs1 hev1 hn1 hle hpre hcore
      unfold sxPut at hs1
      split at hs1
      · rename_i hig
        split at hs1
        · rename_i q hq
          split at hs1
          · rename_i hbd
            split at hs1
            · rename_i σt σf hpt hpf
              have hst : ∀ x σx, putS C.fn.ntmps σ o.dst (.sc (.b x)) (e.app σ.o) = some σx → (q.den η1).toB = x → ∀ ηs, (∃ xs, ηs = η1 ++ xs) → Step1 C ops ηs nv i lab1 σ σx := fun x σx hpx hqx ηs hη => by
                refine ⟨o, _, e, ho, hcore ηs hη (.sc (.b x)) ?_, hpx⟩
                unfold Fix
                rw [if_pos hig]
                obtain ⟨xs, hxs⟩ := hη
                exact ⟨q, x, hq, by rw [hxs, E.den_ext _ _ q (by rw [← hn1]; exact hbd)]; exact hqx, rfl⟩
              split at hs1
              · exact cont _ _ _ η1 _ h1 hs1 hev1 hn1 hle hpre (hst true _ hpt rfl)
              · exact cont _ _ _ η1 _ h1 hs1 hev1 hn1 hle hpre (hst false _ hpf rfl)
              · split at hs1
                · rename_i tt tf ht1 ht2
                  simp only [Option.some.injEq] at hs1; subst hs1
                  cases hev1 with
                  | iteT hc ht => exact cont _ _ _ η1 _ _ ht1 ht hn1 (by omega) hpre (hst true _ hpt hc)
                  | iteF hc ht => exact cont _ _ _ η1 _ _ ht2 ht hn1 (by omega) hpre (hst false _ hpf hc)
                · cases hs1
            · cases hs1
          · cases hs1
        · cases hs1
      · rename_i hig
        split at hs1
        · rename_i σ1 hp1
          exact cont _ _ _ η1 _ h1 hs1 hev1 hn1 hle hpre fun ηs hη => ⟨o, _, e, ho, hcore ηs hη s (by unfold Fix; rw [if_neg hig]), hp1⟩
        · cases hs1
    -- the operation is performed
    have perform : Wants ops C.fn.ntmps σ o → sxPerf C ops (fun σ' nv' lab => sxD C ops kont is σ' nv' (labs ++ [lab])) σ nv i o = some t →
        ∃ (ηs : Env) (pos : Nat → Nat) (lab : Nat → Lab) (σ' : Sig) (t' : T) (h' : Nat), (∃ xs, ηs = η ++ xs) ∧ Path C ops ηs pos lab (i :: is) σ σ' ∧ kont σ' ηs.length (labs ++ (i :: is).map lab) = some t' ∧ EvN (Corr C.P C.L) B h' t' ηs rs ∧ h' ≤ h := by
      intro hw hs1
      unfold sxPerf at hs1
      split at hs1
      · cases hs1
      · rename_i s e hop
        exact go _ _ _ _ η _ h hs1 hev hn (Nat.le_refl _) ⟨[], by simp⟩ fun ηs _ s' hf => .inl ⟨hw, rfl, s, by rw [hop]; exact .val, hf⟩
      · rename_i e hop
        exact go _ _ _ _ η _ h hs1 hev hn (Nat.le_refl _) ⟨[], by simp⟩ fun ηs _ s' hf => .inl ⟨hw, rfl, .un, by rw [hop]; exact .skip, hf⟩
      · cases hs1
      · cases hs1
      · rename_i g ks as rk ids hop
        split at hs1
        · rename_i hbd
          simp only [Bool.and_eq_true, bne_iff_ne, ne_eq] at hbd
          obtain ⟨hbd, hno⟩ := hbd
          simp only [Option.map_eq_some_iff] at hs1
          obtain ⟨t1, hs1, rfl⟩ := hs1
          cases hev with
          | call hcor hlen hev1 =>
            rename_i h1 xs
            refine go _ _ _ _ (η ++ xs) _ _ hs1 hev1 (by rw [List.length_append, hlen, hn]) (by omega) ⟨xs, rfl⟩ fun ηs hη s' hf => .inl ⟨hw, rfl, resPacked nv rk, ?_, hf⟩
            rw [hop]
            obtain ⟨ys, hys⟩ := hη
            refine .callO (xs := xs) ?_ hlen ⟨η, ys, hys, hn.symm⟩
            have hbd' : E.bds η.length as = true := by rw [← hn]; exact hbd
            rw [hys, List.append_assoc, E.dens_ext _ _ as hbd']
            exact hcor.2 hno
        · cases hs1
      · rename_i q s e hop
        split at hs1
        · rename_i hbd
          simp only [Option.map_eq_some_iff] at hs1
          obtain ⟨t1, hs1, rfl⟩ := hs1
          cases hev with
          | guard hq hev1 =>
            refine go _ _ _ _ η _ _ hs1 hev1 hn (by omega) ⟨[], by simp⟩ fun ηs hη s' hf => .inl ⟨hw, rfl, s, ?_, hf⟩
            rw [hop]
            obtain ⟨xs, hxs⟩ := hη
            exact .guard (by rw [hxs, E.den_ext _ _ q (by rw [← hn]; exact hbd)]; exact hq)
        · cases hs1
      · rename_i g ks as rk hop
        split at hs1
        · rename_i hbd
          simp only [Bool.and_eq_true, beq_iff_eq] at hbd
          obtain ⟨hbd, hno⟩ := hbd
          simp only [Option.map_eq_some_iff] at hs1
          obtain ⟨t1, hs1, rfl⟩ := hs1
          cases hev with
          | call hcor hlen hev1 =>
            rename_i h1 xs
            refine go _ _ _ _ (η ++ xs) _ _ hs1 hev1 (by rw [List.length_append, hlen, hn]) (by omega) ⟨xs, rfl⟩ fun ηs hη s' hf => .inl ⟨hw, rfl, resPacked nv rk, ?_, hf⟩
            rw [hop]
            obtain ⟨ys, hys⟩ := hη
            refine .call (xs := xs) ?_ ⟨η, ys, hys, hn.symm⟩
            have hbd' : E.bds η.length as = true := by rw [← hn]; exact hbd
            rw [hys, List.append_assoc, E.dens_ext _ _ as hbd']
            exact hcor.1 hno
        · cases hs1
    have pass : Passes ops C.fn.ntmps σ o → sxPass C (fun σ' nv' lab => sxD C ops kont is σ' nv' (labs ++ [lab])) σ nv o = some t →
        ∃ (ηs : Env) (pos : Nat → Nat) (lab : Nat → Lab) (σ' : Sig) (t' : T) (h' : Nat), (∃ xs, ηs = η ++ xs) ∧ Path C ops ηs pos lab (i :: is) σ σ' ∧ kont σ' ηs.length (labs ++ (i :: is).map lab) = some t' ∧ EvN (Corr C.P C.L) B h' t' ηs rs ∧ h' ≤ h := by
      intro hw hs1
      unfold sxPass at hs1
      split at hs1
      · rename_i σ1 hp1
        exact cont _ _ _ η _ h hs1 hev hn (Nat.le_refl _) ⟨[], by simp⟩ fun ηs _ => ⟨o, .und, .keep, ho, .inr ⟨hw, rfl, rfl, rfl⟩, hp1⟩
      · cases hs1
    split at hs
    · rename_i hg
      exact perform (.inl hg) hs
    · rename_i j b hg
      split at hs
      · rename_i d hd
        split at hs
        · cases hs
        · rename_i hdn
          have hdn : d < C.fn.ntmps := Nat.lt_of_not_le hdn
          split at hs
          · rename_i x hx
            split at hs
            · rename_i hxb; subst hxb
              exact perform (.inr ⟨j, x, d, hg, hd, hdn, hx⟩) hs
            · rename_i hxb
              exact pass ⟨j, b, d, hg, hd, hdn, .inr ⟨x, hxb, hx⟩⟩ hs
          · rename_i hx
            exact pass ⟨j, b, d, hg, hd, hdn, .inl hx⟩ hs
          · cases hs
      · cases hs
end Fw
