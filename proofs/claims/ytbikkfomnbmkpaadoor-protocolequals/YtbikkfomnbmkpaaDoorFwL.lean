import Derived.Test.YtbikkfomnbmkpaaDoorFwT
namespace Fw
open Go Go.RowKit

/-! ### 14. The tree is right -/
/-- What a function leaves: results, and what its objects hold. -/
def Post (C : Ctx) (c0 : Cx) (rs : List D) (us : List Value) (w' : World) : Prop :=
  ∃ ρ' rs1 rs2, rs = rs1 ++ rs2 ∧ rs1.length = (K.tyss C.rk).length ∧ rs2.length = (K.otyss C.ks).length ∧ KRs (Cx.ok ⟨c0.ok0, c0.b0, rs, ρ', w'⟩) w' C.rk rs1 us ∧
    Own ⟨c0.ok0, c0.b0, rs, ρ', w'⟩ (K.obss false rs1.length (List.range' 0 (K.nobss C.ks)) C.ks) ∧ LeM c0 ⟨c0.ok0, c0.b0, rs, ρ', w'⟩ ∧ Kept c0.fp c0.w0 w'
def Fin (C : Ctx) (f : Nat) (c0 : Cx) (rs : List D) (b : Frame) (a : Act) (its : List Item) (cs : List Frame) (w : World) : Prop :=
  ∃ us w' fr, Post C c0 rs us w' ∧ Steps C.P (lone (b.at a its) cs w) (lone fr cs w') ∧ fr.fn = f ∧ fr.leaving C.P w' (.returned (packed us))
theorem Fin.head {C : Ctx} {f : Nat} {c0 : Cx} {rs : List D} {b : Frame} {a a' : Act} {its its' : List Item} {cs : List Frame} {w w' : World}
    (hs : step C.P (lone (b.at a its) cs w) = .next (lone (b.at a' its') cs w')) (h : Fin C f c0 rs b a' its' cs w') : Fin C f c0 rs b a its cs w := by
  obtain ⟨us, w2, fr, h1, h3, h4, h5⟩ := h
  exact ⟨us, w2, fr, h1, .head hs h3, h4, h5⟩
theorem Fin.steps {C : Ctx} {f : Nat} {c0 : Cx} {rs : List D} {b : Frame} {a a' : Act} {its its' : List Item} {cs : List Frame} {w w' : World}
    (hs : Steps C.P (lone (b.at a its) cs w) (lone (b.at a' its') cs w')) (h : Fin C f c0 rs b a' its' cs w') : Fin C f c0 rs b a its cs w := by
  obtain ⟨us, w2, fr, h1, h3, h4, h5⟩ := h
  exact ⟨us, w2, fr, h1, Steps.trans hs h3, h4, h5⟩

structure Ctx.Ok (C : Ctx) (f : Nat) (B : Nat → T) : Prop where
  hf : C.P.funcs[f]? = some C.fn
  hb : C.fn.body = some C.c0
  mixed : C.P.follows .mixedOrders = true
  blks : ∀ (l : Nat) (b : Blk), C.blks[l]? = some b → ∃ n, sx C n true b.st b.σ b.tys.length = some (B l)

mutual
theorem KR.dlen {ok : Ok} {w : World} : ∀ (k : K) {ds : List D} {v : Value}, KR ok w k ds v → ds.length = k.tys.length
  | .one t, ds, v, h => by simp only [KR] at h; obtain ⟨d, rfl, _⟩ := h; rfl
  | .agg ts, ds, v, h => by simp only [KR] at h; obtain ⟨us, _, h⟩ := h; exact h.length.1
  | .ref ts, ds, v, h => by simp only [KR] at h; obtain ⟨a, us, _, h, _⟩ := h; exact h.length.1
  | .clo g cs, ds, v, h => by simp only [KR] at h; obtain ⟨us, _, h⟩ := h; exact KRs.dlen_ cs h
  | .obj _ cks, ds, v, h => by simp only [KR] at h
  | .unk, ds, v, h => by simp only [KR] at h; subst h; rfl
theorem KRs.dlen_ {ok : Ok} {w : World} : ∀ (ks : List K) {ds : List D} {vs : List Value}, KRs ok w ks ds vs → ds.length = (K.tyss ks).length
  | [], ds, vs, h => by simp only [KRs] at h; simp [h.1, K.tyss]
  | k :: ks, ds, vs, h => by
    simp only [KRs] at h
    obtain ⟨d1, d2, v, vs', rfl, rfl, h1, h2⟩ := h
    simp [K.tyss, KR.dlen k h1, KRs.dlen_ ks h2]
end
theorem KRs.dlen {ok : Ok} {w : World} {ks : List K} {ds : List D} {vs : List Value} (h : KRs ok w ks ds vs) : ds.length = (K.tyss ks).length := KRs.dlen_ ks h
theorem ret_fin {C : Ctx} {f : Nat} {B : Nat → T} (hC : C.Ok f B) {c0 c : Cx} {σ : Sig} {a : Act} {b : Frame} {its : List Item} {cs : List Frame} {t : T} {m : Machine}
    (hr : Rel c C.fn.ntmps σ a) (he : retT C σ = some t) (hbk : b.kind = .normal) (hbf : b.fn = f) (hok0 : c.ok0 = c0.ok0) (hw0 : c.b0 = c0.b0 ∧ LeM c0 c) (hl0 : c0.ρ.length = K.nobss C.ks)
    (hstep : step C.P m = .next (lone { b.at a its with mode := .returning } cs c.w)) :
    ∃ es, t = .ret es ∧ ∃ us w' fr, Post C c0 (E.dens c.η es) us w' ∧ Steps C.P m (lone fr cs w') ∧ fr.fn = f ∧ fr.leaving C.P w' (.returned (packed us)) := by
  unfold retT at he
  split at he
  · rename_i ss hss
    split at he
    · rename_i es es' hes hes'
      simp only [Option.some.injEq] at he; subst he
      obtain ⟨vs, hrun, hsv⟩ := run_results (P := C.P) hr hss
      have hk := toRes_sound hes hsv
      obtain ⟨hb0, hle⟩ := hw0
      let cc : Cx := ⟨c0.ok0, c0.b0, E.dens c.η (es ++ es'), c.ρ.take (K.nobss C.ks), c.w⟩
      have hex : ∀ b o, excl cc.ρ b o → excl c.ρ b o := fun b o ⟨co, hco, hcov⟩ => ⟨co, List.mem_of_mem_take hco, hcov⟩
      have hok : ∀ b o, c.ok b o → cc.ok b o := fun b o ⟨h1, h2⟩ => ⟨by simp only [cc, Cx.mine, ← hok0, ← hb0]; exact h1, fun he => h2 (hex b o he)⟩
      have hlen : K.nobss C.ks ≤ c.ρ.length := by rw [← hl0]; exact hle.len
      have hlt : ∀ t, t < K.nobss C.ks → cc.ρ[t]? = c.ρ[t]? := fun t ht => List.getElem?_take_of_lt ht
      obtain ⟨q1, q2, q3, q4⟩ := objEnd_sound (cc := cc) hr.toOwn rfl hok (fun b hb => by simp only [cc, Cx.mine, ← hb0]; exact hb) C.ks 0 es.length hes' (fun t _ ht => hlt t (by omega))
        (fun j e hj => dens_get c.η _ _ e (by rw [List.getElem?_append_right (by omega), Nat.add_sub_cancel_left]; exact hj))
      have hesl : (E.dens c.η es).length = (K.tyss C.rk).length := hk.dlen
      refine ⟨_, rfl, vs, c.w, { b.at a its with mode := .returning }, ⟨cc.ρ, E.dens c.η es, E.dens c.η es', E.dens_append .., hesl, by rw [E.dens_length]; exact q2, KRs.weaken hok _ _ _ hk, ⟨?_, ?_, ?_⟩, ?_, ?_⟩, .one hstep, by simp [Frame.at, hbf], ?_⟩
      · simp only [K.obss_length, cc, List.length_take]; omega
      · rw [E.dens_length]
        exact fun id ob co ho hco => q4 id ob co ho (by rw [Nat.zero_add]; exact hco)
      · intro i j ci cj bi bj hij hi hj hbi hbj
        have g : ∀ (i : Nat) ci, cc.ρ[i]? = some ci → c.ρ[i]? = some ci := fun i ci hi => by
          simp only [cc, List.getElem?_take] at hi
          split at hi
          · exact hi
          · cases hi
        exact hr.dist i j ci cj bi bj hij (g i ci hi) (g j cj hj) hbi hbj
      · have hi : ∀ (id : Nat) x, c0.ρ[id]? = some x → id < K.nobss C.ks := fun id x hx => by rw [← hl0]; exact (List.getElem?_eq_some_iff.1 hx).1
        exact {
          ρ := fun id b hb => by show cc.ρ[id]? = _; rw [hlt id (hi id _ hb)]; exact hle.ρ id b hb
          tk := fun id x hx => by
            obtain ⟨x', h1, h2⟩ := hle.tk id x hx
            exact ⟨x', by show cc.ρ[id]? = _; rw [hlt id (hi id _ hx)]; exact h1, h2⟩
          keeps := fun ad u h1 h2 => by
            obtain ⟨h3, h4⟩ := hle.keeps ad u h1 h2
            exact ⟨hok _ _ h3, h4⟩
          raw := fun ad u h1 h2 => by
            obtain ⟨h3, h4⟩ := hle.raw ad u h1 h2
            exact ⟨fun he => h3 (hex _ _ he), h4⟩ }
      · have := hr.below
        simp only [Cx.fp, Cx.w0, hb0] at this ⊢
        exact this
      · exact ⟨rfl, hr.defers, hbk, C.fn, by simpa [Frame.at, hbf] using hC.hf, hrun⟩
    · cases he
  · cases he

theorem reach_spec {ops : Array Oper} {a : Nat} : ∀ (n : Nat) {i : Nat} {o : Oper}, ops[i]? = some o → reach ops n o a = true → Reach ops a i
  | 0, i, o, _, h => by simp [reach] at h
  | n + 1, i, o, ho, h => by
    simp only [reach, Bool.or_eq_true] at h
    rcases h with h | h
    · unfold bound at h
      rw [← Array.any_toList, List.any_eq_true] at h
      obtain ⟨e, he, h6⟩ := h
      simp only [Bool.and_eq_true, beq_iff_eq] at h6
      exact .here ho (by simpa using he) h6.1 h6.2
    · rw [← Array.any_toList, List.any_eq_true] at h
      obtain ⟨e, he, h6⟩ := h
      simp only [Bool.and_eq_true] at h6
      obtain ⟨hb, h7⟩ := h6
      split at h7
      · rename_i o' ho'
        exact .there ho (by simpa using he) hb (reach_spec n ho' h7)
      · cases h7
theorem okDraw_spec {ops : Array Oper} {lab : Nat → Lab} (h : okDraw ops ((List.range ops.size).map lab) = true) :
    (∀ (i : Nat) o, ops[i]? = some o → ∀ e ∈ o.after, Region.binds .any e = true → e.on < i) ∧
    (∀ a i, a < i → ∀ oi, ops[i]? = some oi → ¬ Reach ops a i → Free ops lab a i) := by
  simp only [okDraw, Bool.and_eq_true] at h
  obtain ⟨h1, _, h3⟩ := h
  constructor
  · intro i o ho e he hb
    simp only [edgesOk, List.all_eq_true] at h1
    have := h1 (o, i) (by rw [List.mem_zipIdx_iff_getElem?]; simpa using ho)
    simp only [Array.all_eq_true_iff_forall_mem, Bool.or_eq_true, Bool.not_eq_true', decide_eq_true_eq] at this
    rcases this e he with h | h
    · rw [hb] at h; cases h
    · exact h
  · intro a i hai oi hoi hno oa oi' hoa hoi'
    rw [hoi] at hoi'; injection hoi' with hoi'; subst hoi'
    have hil : i < ops.size := (Array.getElem?_eq_some_iff.1 hoi).1
    have hget : ∀ k o, ops[k]? = some o → (ops.toList.zip ((List.range ops.size).map lab))[k]? = some (o, lab k) := fun k o ho => by
      have hk : k < ops.size := (Array.getElem?_eq_some_iff.1 ho).1
      rw [List.getElem?_zip_eq_some]
      exact ⟨by simpa using ho, by simp [List.getElem?_range hk]⟩
    simp only [List.all_eq_true] at h3
    have h4 := h3 ((oi, lab i), i) (by rw [List.mem_zipIdx_iff_getElem?]; exact hget i oi hoi)
    simp only at h4
    have h5 := h4 ((oa, lab a), a) (by
      rw [List.mem_iff_getElem?]
      refine ⟨a, ?_⟩
      rw [List.getElem?_take, if_pos hai, List.getElem?_zipIdx, hget a oa hoa]
      simp)
    simp only [Bool.or_eq_true, Bool.not_eq_true', Bool.or_eq_false_iff] at h5
    rcases h5 with h5 | h5
    · exact h5
    · exfalso
      exact hno (reach_spec 3 hoi h5)
theorem down_none (ops : Array Oper) : Down ops (Array.replicate ops.size false) := fun i o ho hl => by
  have := (Array.getElem?_eq_some_iff.1 ho).1
  simp [this] at hl
theorem left_all (n : Nat) : left (Array.replicate n false) n = List.range n := by
  unfold left
  apply List.filter_eq_self.2
  intro i hi
  have := List.mem_range.1 hi
  simp [this]

theorem sx_sound {C : Ctx} {f : Nat} {B : Nat → T} (hC : C.Ok f B) {c0 : Cx} (hL : LOk C.L c0.b0) (hl0 : c0.ρ.length = K.nobss C.ks) {rs : List D} : ∀ (hh n : Nat) (first : Bool) (st : List SI) (σ : Sig) (nv : Nat) (t : T), sx C n first st σ nv = some t →
    ∀ (c : Cx) (a : Act) (b : Frame) (its : List Item) (cs : List Frame), EvN (Corr C.P C.L) B hh t c.η rs → c.ok0 = c0.ok0 → (c.b0 = c0.b0 ∧ LeM c0 c) → nv = c.η.length → Rel c C.fn.ntmps σ a → Stk C.c0 st its → b.kind = .normal → b.fn = f →
      Fin C f c0 rs b a its cs c.w := by
  intro hh
  induction hh using Nat.strongRecOn with
  | _ hh IH =>
  intro n
  induction n with
  | zero => intro first st σ nv t hsx; simp [sx] at hsx
  | succ n ih =>
    intro first st σ nv t hsx c a b its cs hev hok0 hw0 hnv hr hstk hbk hbf
    -- a branch on a Bool that is told by an expression
    have branch : ∀ (e : E) (t1 t2 : T), t = .ite e t1 t2 →
        ((e.den c.η).toB = true → ∀ h', h' < hh → EvN (Corr C.P C.L) B h' t1 c.η rs → Fin C f c0 rs b a its cs c.w) →
        ((e.den c.η).toB = false → ∀ h', h' < hh → EvN (Corr C.P C.L) B h' t2 c.η rs → Fin C f c0 rs b a its cs c.w) → Fin C f c0 rs b a its cs c.w := by
      intro e t1 t2 ht h1 h2
      subst ht
      cases hev with
      | iteT hc ht => exact h1 hc _ (Nat.lt_succ_self _) ht
      | iteF hc ht => exact h2 hc _ (Nat.lt_succ_self _) ht
    cases hstk with
    | nil =>
      simp only [sx] at hsx
      obtain ⟨es, rfl, hfin⟩ := ret_fin hC hr hsx hbk hbf hok0 hw0 hl0 step_end
      cases hev with
      | ret hrs =>
        subst hrs
        exact hfin
    | cons hs ht =>
      rename_i s it ss its
      cases s with
      | inBlock id =>
        simp only [SI.den, Option.some.injEq] at hs; subst hs
        simp only [sx] at hsx
        exact .head step_inBlock (ih _ _ _ _ _ hsx c a b _ cs hev hok0 hw0 hnv hr ht hbk hbf)
      | inLoop p =>
        simp only [SI.den] at hs
        split at hs
        · rename_i cd hsub
          simp only [Option.some.injEq] at hs; subst hs
          simp only [sx] at hsx
          refine .head step_inLoop (ih _ _ _ _ _ hsx c a b _ cs hev hok0 hw0 hnv hr (.cons ?_ (.cons ?_ ht)) hbk hbf)
          · simp [SI.den, sub, hsub, child]
          · simp [SI.den, hsub]
        · cases hs
      | code p =>
        simp only [SI.den, Option.map_eq_some_iff] at hs
        obtain ⟨cd, hsub, rfl⟩ := hs
        simp only [sx, hsub] at hsx
        cases cd with
        | skip =>
          simp only at hsx
          exact .head step_skip (ih _ _ _ _ _ hsx c a b _ cs hev hok0 hw0 hnv hr ht hbk hbf)
        | seq x y =>
          simp only at hsx
          refine .head step_seq (ih _ _ _ _ _ hsx c a b _ cs hev hok0 hw0 hnv hr (.cons ?_ (.cons ?_ ht)) hbk hbf)
          · simp [SI.den, sub, hsub, child]
          · simp [SI.den, sub, hsub, child]
        | cond q x y =>
          simp only at hsx
          have hq := opv_sound hr q
          have go1 : a.eval q = .bool true → ∀ t' h', h' ≤ hh → sx C n false (.code (0 :: p) :: ss) σ nv = some t' → EvN (Corr C.P C.L) B h' t' c.η rs → (h' = hh ∨ h' < hh) → Fin C f c0 rs b a (.code (.cond q x y) :: its) cs c.w := by
            intro hv t' h' _ hsx' hev' hlt
            refine .head (step_cond hv) ?_
            have hst : Stk C.c0 (.code (0 :: p) :: ss) (.code x :: its) := .cons (by simp [SI.den, sub, hsub, child]) ht
            rcases hlt with rfl | hlt
            · exact ih _ _ _ _ _ hsx' c a b _ cs hev' hok0 hw0 hnv hr hst hbk hbf
            · exact IH h' hlt n _ _ _ _ _ hsx' c a b _ cs hev' hok0 hw0 hnv hr hst hbk hbf
          have go2 : a.eval q = .bool false → ∀ t' h', h' ≤ hh → sx C n false (.code (1 :: p) :: ss) σ nv = some t' → EvN (Corr C.P C.L) B h' t' c.η rs → (h' = hh ∨ h' < hh) → Fin C f c0 rs b a (.code (.cond q x y) :: its) cs c.w := by
            intro hv t' h' _ hsx' hev' hlt
            refine .head (step_cond hv) ?_
            have hst : Stk C.c0 (.code (1 :: p) :: ss) (.code y :: its) := .cons (by simp [SI.den, sub, hsub, child]) ht
            rcases hlt with rfl | hlt
            · exact ih _ _ _ _ _ hsx' c a b _ cs hev' hok0 hw0 hnv hr hst hbk hbf
            · exact IH h' hlt n _ _ _ _ _ hsx' c a b _ cs hev' hok0 hw0 hnv hr hst hbk hbf
          split at hsx
          · rename_i heq
            rw [heq] at hq
            simp only [SVR, E.ty, E.den] at hq
            exact go1 hq.2.bool_.1 t hh (Nat.le_refl _) hsx hev (.inl rfl)
          · rename_i heq
            rw [heq] at hq
            simp only [SVR, E.ty, E.den] at hq
            exact go2 hq.2.bool_.1 t hh (Nat.le_refl _) hsx hev (.inl rfl)
          · rename_i e heq
            rw [heq] at hq
            simp only [SVR] at hq
            obtain ⟨_, x, hx, himp⟩ := hq
            split at hsx
            · rename_i t1 t2 hs1 hs2
              simp only [Option.some.injEq] at hsx; subst hsx
              cases hev with
              | may ht' he' =>
                cases x with
                | true => exact go1 hx t1 _ (Nat.le_of_lt (Nat.lt_succ_self _)) hs1 (ht' (himp rfl)) (.inr (Nat.lt_succ_self _))
                | false => exact go2 hx t2 _ (Nat.le_of_lt (Nat.lt_succ_self _)) hs2 he' (.inr (Nat.lt_succ_self _))
            · cases hsx
          · split at hsx
            · rename_i e t1 t2 hbe hs1 hs2
              simp only [Option.some.injEq] at hsx
              have hv := boolE_sound hq hbe
              refine branch e t1 t2 hsx.symm (fun hb h' hlt hev' => go1 (by rw [hv, hb]) t1 h' (Nat.le_of_lt hlt) hs1 hev' (.inr hlt)) (fun hb h' hlt hev' => go2 (by rw [hv, hb]) t2 h' (Nat.le_of_lt hlt) hs2 hev' (.inr hlt))
            · cases hsx
        | block id x =>
          simp only at hsx
          refine .head step_block (ih _ _ _ _ _ hsx c a b _ cs hev hok0 hw0 hnv hr (.cons ?_ (.cons ?_ ht)) hbk hbf)
          · simp [SI.den, sub, hsub, child]
          · simp [SI.den]
        | loop x =>
          simp only at hsx
          refine .head step_loop (ih _ _ _ _ _ hsx c a b _ cs hev hok0 hw0 hnv hr (.cons ?_ (.cons ?_ ht)) hbk hbf)
          · simp [SI.den, sub, hsub, child]
          · simp [SI.den, hsub]
        | exit id =>
          simp only at hsx
          split at hsx
          · rename_i k' hk'
            obtain ⟨its', h1, h2⟩ := ht.exit hk'
            refine .head (step_exit ?_) (ih _ _ _ _ _ hsx c a b _ cs hev hok0 hw0 hnv hr h2 hbk hbf)
            exact h1
          · cases hsx
        | ret =>
          obtain ⟨es, rfl, hfin⟩ := ret_fin hC hr hsx hbk hbf hok0 hw0 hl0 (step_ret (k := its))
          cases hev with
          | ret hrs =>
            subst hrs
            exact hfin
        | region id ops draw =>
          simp only at hsx
          split at hsx
          · rename_i l _
            split at hsx
            · rename_i bl hbl
              split at hsx
              · rename_i hst
                simp only [Option.map_eq_some_iff] at hsx
                obtain ⟨as, has, rfl⟩ := hsx
                cases hev with
                | jump hev' =>
                  rename_i h'
                  simp only [Bool.and_eq_true, decide_eq_true_eq] at hst
                  obtain ⟨hst, hnb⟩ := hst
                  obtain ⟨q1, c', q2, q3, q4, q5, qm, q6⟩ := jump_sound hr has
                  obtain ⟨n', hn'⟩ := hC.blks l bl hbl
                  have := IH h' (Nat.lt_succ_self _) n' true bl.st bl.σ bl.tys.length (B l) hn' c' a b (.code (.region id ops draw) :: its) cs (by rw [q2]; exact hev') (q4.trans hok0) ⟨q5.trans hw0.1, qm c0 hw0.2 (by rw [hl0]; exact Nat.le_of_ble_eq_true hnb)⟩ (by rw [q2, E.dens_length]; exact q1.symm) q6
                    (by rw [hst]; exact .cons (by simp [SI.den, hsub]) ht) hbk hbf
                  rw [q3] at this
                  exact this
              · cases hsx
            · cases hsx
          · split at hsx
            · rename_i hd
              subst hd
              obtain ⟨ηs, pos, lab, σ', t', h', hpre, hpath, hk, hev', hle⟩ := sxD_sound _ _ _ _ _ List.nodup_range hsx hh c.η hev hnv
              simp only [List.nil_append] at hk
              split at hk
              · rename_i hokd
                obtain ⟨xs, hxs⟩ := hpre
                obtain ⟨f1, f2⟩ := okDraw_spec hokd
                have hany := anyOrder f1 f2 ops.size (c.w.tape c.w.drawn (.order b.fn id)) (Array.replicate ops.size false) (down_none ops) (by rw [left_all]; simp) (by rw [left_all]; exact hpath)
                obtain ⟨hlx, hr2⟩ := hr.later (w' := { c.w with drawn := c.w.drawn + 1 }) ⟨rfl, rfl, rfl, Nat.le_refl _, fun _ _ => rfl⟩ xs
                obtain ⟨c2, a2, s2, e1, e2, e3, em, r2⟩ := path_run (b := b) (its := its) (cs := cs) hany hr2 hxs.symm (by show LOk C.L c.b0; rw [hw0.1]; exact hL)
                refine .head step_region_draw ?_
                simp only [Region.schedule, hC.mixed, Bool.true_or, if_true, Region.linearise]
                refine .steps s2 ?_
                rcases Nat.lt_or_eq_of_le hle with hlt | heq
                · exact IH h' hlt n _ _ _ _ _ hk c2 a2 b _ cs (by rw [e1]; exact hev') (e2.trans hok0) ⟨e3.trans hw0.1, (hw0.2.trans hlx.m).trans em⟩ (by rw [e1]) r2 ht hbk hbf
                · subst heq
                  exact ih _ _ _ _ _ hk c2 a2 b _ cs (by rw [e1]; exact hev') (e2.trans hok0) ⟨e3.trans hw0.1, (hw0.2.trans hlx.m).trans em⟩ (by rw [e1]) r2 ht hbk hbf
              · cases hk
            · rename_i hd
              have hd : draw = false := by simpa using hd
              subst hd
              refine .head step_region (ih _ _ _ _ _ hsx c a b _ cs hev hok0 hw0 hnv hr (.cons ?_ ht) hbk hbf)
              simp [SI.den, hsub]
        | rangeFunc => simp at hsx
        | scope => simp at hsx
        | label => simp at hsx
        | goto => simp at hsx
        | refuse =>
          simp only [Option.some.injEq] at hsx; subst hsx
          cases hev
      | reg p is =>
        simp only [SI.den] at hs
        split at hs
        · rename_i id ops draw hsub
          simp only [Option.some.injEq] at hs; subst hs
          cases is with
          | nil =>
            simp only [sx] at hsx
            exact .head step_region_end (ih _ _ _ _ _ hsx c a b _ cs hev hok0 hw0 hnv hr ht hbk hbf)
          | cons i is =>
            simp only [sx, hsub] at hsx
            split at hsx
            · cases hsx
            · rename_i o ho
              have hst : Stk C.c0 (.reg p is :: ss) (.inRegion ops is :: its) := .cons (by simp [SI.den, hsub]) ht
              -- the operation is performed
              have perform : Region.wanted o (yielded ops a.tmps) = true → ∀ t', (match sxOp C.P C.sigs σ o with
                    | .bad => some .dead
                    | .val s e => match putS C.fn.ntmps σ o.dst s (e.app σ.o) with
                      | some σ' => sx C n false (.reg p is :: ss) σ' nv
                      | none => none
                    | .valN s bs => match putS C.fn.ntmps σ o.dst s (σ.o ++ bs) with
                      | some σ' => sx C n false (.reg p is :: ss) σ' nv
                      | none => none
                    | .skip e => match putS C.fn.ntmps σ o.dst .un (e.app σ.o) with
                      | some σ' => sx C n false (.reg p is :: ss) σ' nv
                      | none => none
                    | .guard q s e => match putS C.fn.ntmps σ o.dst s (e.app σ.o) with
                      | some σ' => (sx C n false (.reg p is :: ss) σ' nv).map (.guard q)
                      | none => none
                    | .alt q s e s' e' => match putS C.fn.ntmps σ o.dst s (e.app σ.o), putS C.fn.ntmps σ o.dst s' (e'.app σ.o) with
                      | some σ1, some σ2 => match sx C n false (.reg p is :: ss) σ1 nv, sx C n false (.reg p is :: ss) σ2 nv with
                        | some t, some f => some (.ite q t f)
                        | _, _ => none
                      | _, _ => none
                    | .call g ks as rk => if K.nobss ks != 0 then none else match putS C.fn.ntmps σ o.dst (resPacked nv rk) σ.o with
                      | some σ' => (sx C n false (.reg p is :: ss) σ' (nv + (K.rts ks rk).length)).map (.call g ks as rk)
                      | none => none
                    | .callO g ks as rk ids => if K.nobss ks == 0 then none else match putS C.fn.ntmps σ o.dst (resPacked nv rk) (setAll σ.o ids (K.obss false (nv + (K.tyss rk).length) ids ks)) with
                      | some σ' => (sx C n false (.reg p is :: ss) σ' (nv + (K.rts ks rk).length)).map (.call g ks as rk)
                      | none => none) = some t' → EvN (Corr C.P C.L) B hh t' c.η rs → Fin C f c0 rs b a (.inRegion ops (i :: is) :: its) cs c.w := by
                intro hw t' hsx' hev'
                have hgood := sxOp_good (P := C.P) hr C.sigs o
                split at hsx'
                · simp only [Option.some.injEq] at hsx'; subst hsx'
                  cases hev'
                · rename_i s ob hop
                  rw [hop] at hgood
                  obtain ⟨v, c', hrun, g1, g2, g3, g4, g5, g6⟩ := hgood
                  split at hsx'
                  · rename_i σ' hput
                    refine .head (step_val ho hw hrun) (ih _ _ _ _ _ hsx' c' _ b _ cs (by rw [g1]; exact hev') (g2.trans hok0) ⟨g3.trans hw0.1, hw0.2.trans g4.m⟩ (by rw [g1]; exact hnv) (putS_sound g5 g6 hput) hst hbk hbf)
                  · cases hsx'
                · rename_i s bs hop
                  rw [hop] at hgood
                  obtain ⟨v, c', hrun, g1, g2, g3, g4, g5, g6⟩ := hgood
                  split at hsx'
                  · rename_i σ' hput
                    refine .head (step_val ho hw hrun) (ih _ _ _ _ _ hsx' c' _ b _ cs (by rw [g1]; exact hev') (g2.trans hok0) ⟨g3.trans hw0.1, hw0.2.trans g4.m⟩ (by rw [g1]; exact hnv) (putS_sound g5 g6 hput) hst hbk hbf)
                  · cases hsx'
                · rename_i ob hop
                  rw [hop] at hgood
                  obtain ⟨c', hrun, g1, g2, g3, g4, g5⟩ := hgood
                  split at hsx'
                  · rename_i σ' hput
                    refine .head (step_skipv ho hw hrun) (ih _ _ _ _ _ hsx' c' _ b _ cs (by rw [g1]; exact hev') (g2.trans hok0) ⟨g3.trans hw0.1, hw0.2.trans g4.m⟩ (by rw [g1]; exact hnv) (putS_sound g5 (by simp only [SVR]) hput) hst hbk hbf)
                  · cases hsx'
                · rename_i q s e hop
                  rw [hop] at hgood
                  split at hsx'
                  · rename_i σ' hput
                    simp only [Option.map_eq_some_iff] at hsx'
                    obtain ⟨t1, hs1, rfl⟩ := hsx'
                    cases hev' with
                    | guard hq hev1 =>
                      obtain ⟨v, c', hrun, g1, g2, g3, g4, g5, g6⟩ := hgood hq
                      exact .head (step_val ho hw hrun) (IH _ (Nat.lt_succ_self _) n _ _ _ _ _ hs1 c' _ b _ cs (by rw [g1]; exact hev1) (g2.trans hok0) ⟨g3.trans hw0.1, hw0.2.trans g4.m⟩ (by rw [g1]; exact hnv) (putS_sound g5 g6 hput) hst hbk hbf)
                  · cases hsx'
                · rename_i q s e s' e' hop
                  rw [hop] at hgood
                  obtain ⟨hg1, hg2⟩ := hgood
                  split at hsx'
                  · rename_i σ1 σ2 hput1 hput2
                    split at hsx'
                    · rename_i t1 t2 hs1 hs2
                      simp only [Option.some.injEq] at hsx'
                      subst hsx'
                      cases hev' with
                      | iteT hq hev1 =>
                        obtain ⟨v, c', hrun, g1, g2, g3, g4, g5, g6⟩ := hg1 hq
                        exact .head (step_val ho hw hrun) (IH _ (Nat.lt_succ_self _) n _ _ _ _ _ hs1 c' _ b _ cs (by rw [g1]; exact hev1) (g2.trans hok0) ⟨g3.trans hw0.1, hw0.2.trans g4.m⟩ (by rw [g1]; exact hnv) (putS_sound g5 g6 hput1) hst hbk hbf)
                      | iteF hq hev1 =>
                        obtain ⟨v, c', hrun, g1, g2, g3, g4, g5, g6⟩ := hg2 hq
                        exact .head (step_val ho hw hrun) (IH _ (Nat.lt_succ_self _) n _ _ _ _ _ hs2 c' _ b _ cs (by rw [g1]; exact hev1) (g2.trans hok0) ⟨g3.trans hw0.1, hw0.2.trans g4.m⟩ (by rw [g1]; exact hnv) (putS_sound g5 g6 hput2) hst hbk hbf)
                    · cases hsx'
                  · cases hsx'
                · rename_i g ks as rk hop
                  rw [hop] at hgood
                  obtain ⟨args, hrun, hkrs⟩ := hgood
                  split at hsx'
                  · cases hsx'
                  rename_i hno
                  have hno : K.nobss ks = 0 := by simpa using hno
                  split at hsx'
                  · rename_i σ' hput
                    simp only [Option.map_eq_some_iff] at hsx'
                    obtain ⟨t1, hs1, rfl⟩ := hsx'
                    cases hev' with
                    | call hcor hlen hev1 =>
                      rename_i h' xs
                      have hcall := hcor.1 hno c.ok c.w args.toList (hr.lay (by rw [hw0.1]; exact hL)) hkrs
                      obtain ⟨v, w', ⟨⟨us, rfl, hus⟩, hbl⟩, hsteps⟩ := steps_call (P := C.P) (b := b) (a := a) (k := its) (cs := cs) (rest := is) ho hw hrun
                        (R := fun v w' => (∃ us, v = packed us ∧ KRs (okNew c.ok c.w) w' rk xs us) ∧ Below c.w.heap.size c.w w')
                        (by simpa using hcall.mono fun e w' ⟨⟨us, he, hk⟩, hb⟩ => ⟨_, he, ⟨us, rfl, hk⟩, hb⟩)
                      obtain ⟨l1, l2⟩ := hr.later hbl xs
                      have hokn : ∀ b' o', okNew c.ok c.w b' o' → (⟨c.ok0, c.b0, c.η ++ xs, c.ρ, w'⟩ : Cx).ok b' o' := by
                        rintro b' o' (h1 | h1)
                        · exact h1
                        · refine ⟨.inr (.inl (Nat.le_trans hr.below.size h1)), fun he => ?_⟩
                          have := (hr.excl_block he).2
                          omega
                      obtain ⟨m1, m2⟩ := resSVs_sound (c := ⟨c.ok0, c.b0, c.η ++ xs, c.ρ, w'⟩) hokn c.η [] hus (by simp)
                      have hsv := resPacked_sound m2
                      subst hnv
                      exact .steps hsteps (IH _ (Nat.lt_succ_self _) n _ _ _ _ _ hs1 ⟨c.ok0, c.b0, c.η ++ xs, c.ρ, w'⟩ _ b _ cs hev1 hok0 ⟨hw0.1, hw0.2.trans l1.m⟩ (by simp [hlen]) (putS_sound l2 hsv hput) hst hbk hbf)
                  · cases hsx'
                · rename_i g ks as rk ids hop
                  rw [hop] at hgood
                  obtain ⟨args, hrun, os, ss, refs, hta, hss, hnd, hrf⟩ := hgood
                  split at hsx'
                  · cases hsx'
                  rename_i hno
                  have hno : K.nobss ks ≠ 0 := by simpa using hno
                  split at hsx'
                  · rename_i σ' hput
                    simp only [Option.map_eq_some_iff] at hsx'
                    obtain ⟨t1, hs1, rfl⟩ := hsx'
                    cases hev' with
                    | call hcor hlen hev1 =>
                      rename_i h' xs
                      have hcall := callO_sound hr (by rw [hw0.1]; exact hL) hta hss hnd hrf (hcor.2 hno) hlen (ys := xs) (pre := c.η) (post := []) (by simp)
                      obtain ⟨v, w', ⟨us, c', rfl, g0, g1, g2, g3, g4, g5, g6⟩, hsteps⟩ := steps_call (P := C.P) (b := b) (a := a) (k := its) (cs := cs) (rest := is) ho hw hrun
                        (R := fun v w' => ∃ us c', v = packed us ∧ c'.w = w' ∧ c'.η = c.η ++ xs ∧ c'.ok0 = c.ok0 ∧ c'.b0 = c.b0 ∧ c.le c' ∧
                          Rel c' C.fn.ntmps { σ with o := setAll σ.o ids (K.obss false (c.η.length + (K.tyss rk).length) ids ks) } a ∧ SVRs c' (resSVs c.η.length rk) us)
                        (hcall.mono fun e w' ⟨us, c', he, hk⟩ => ⟨_, he, us, c', rfl, hk⟩)
                      have hsv := resPacked_sound g6
                      subst hnv g0
                      exact .steps hsteps (IH _ (Nat.lt_succ_self _) n _ _ _ _ _ hs1 c' _ b _ cs (by rw [g1]; exact hev1) (g2.trans hok0) ⟨g3.trans hw0.1, hw0.2.trans g4.m⟩ (by rw [g1, List.length_append, hlen]) (putS_sound g5 hsv hput) hst hbk hbf)
                  · cases hsx'
              split at hsx
              · rename_i hg
                exact perform (by simp [Region.wanted, hg]) t hsx hev
              · rename_i j bb hg
                split at hsx
                · rename_i d hd
                  split at hsx
                  · cases hsx
                  · rename_i hdn
                    have hdn : d < a.tmps.size := by rw [hr.size]; exact Nat.lt_of_not_le hdn
                    have hyield : ∀ x, a.tmps.getD d undef = .bool x → yielded ops a.tmps j = some x := fun x hx => by
                      unfold yielded
                      rw [hd]
                      have : a.tmps[d]? = some (.bool x) := by
                        rw [Array.getD_eq_getD_getElem?] at hx
                        rw [Array.getElem?_eq_getElem hdn] at hx ⊢
                        simpa using hx
                      simp [this]
                    have htd := hr.tmps d
                    split at hsx
                    · rename_i x heq
                      rw [heq] at htd
                      simp only [SVR, E.ty, E.den] at htd
                      have hy := hyield x htd.2.bool_.1
                      split at hsx
                      · rename_i hxb
                        exact perform (by simp [Region.wanted, hg, hy, hxb]) t hsx hev
                      · rename_i hxb
                        split at hsx
                        · rename_i σ' hput
                          refine .head (step_pass ho (by simp [Region.wanted, hg, hy, hxb])) (ih _ _ _ _ _ hsx c _ b _ cs hev hok0 hw0 hnv (putS_sound hr (by simp only [SVR]) hput) hst hbk hbf)
                        · cases hsx
                    · rename_i heq
                      rw [heq] at htd
                      simp only [SVR] at htd
                      have hy : yielded ops a.tmps j = none := by
                        have hget : a.tmps[d]? = some undef := by
                          rw [← htd, Array.getD_eq_getD_getElem?, Array.getElem?_eq_getElem hdn]; rfl
                        simp only [yielded, hd, Option.bind_some, hget]; rfl
                      split at hsx
                      · rename_i σ' hput
                        refine .head (step_pass ho (by simp [Region.wanted, hg, hy])) (ih _ _ _ _ _ hsx c _ b _ cs hev hok0 hw0 hnv (putS_sound hr (by simp only [SVR]) hput) hst hbk hbf)
                      · cases hsx
                    · split at hsx
                      · rename_i e t1 t2 hbe hs1 hs2
                        simp only [Option.some.injEq] at hsx
                        have hv := boolE_sound htd hbe
                        have hst0 : Stk C.c0 (.reg p (i :: is) :: ss) (.inRegion ops (i :: is) :: its) := .cons (by simp [SI.den, hsub]) ht
                        have refine_ : ∀ x, (e.den c.η).toB = x → Rel c C.fn.ntmps { σ with t := (d, .sc (.b x)) :: σ.t } a := fun x hx =>
                          hr.withTmp d (by rw [hv, hx]; simp only [SVR, E.bd, E.ty, E.den]; exact ⟨trivial, _, rfl, rfl⟩)
                        exact branch e t1 t2 hsx.symm (fun hb h' hlt hev' => IH h' hlt n _ _ _ _ _ hs1 c a b _ cs hev' hok0 hw0 hnv (refine_ true hb) hst0 hbk hbf)
                          (fun hb h' hlt hev' => IH h' hlt n _ _ _ _ _ hs2 c a b _ cs hev' hok0 hw0 hnv (refine_ false hb) hst0 hbk hbf)
                      · cases hsx
                · cases hsx
        · cases hs
end Fw
