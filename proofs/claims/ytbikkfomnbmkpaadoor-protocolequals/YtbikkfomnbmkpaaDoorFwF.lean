import Derived.Test.YtbikkfomnbmkpaaDoorFwE
import Derived.Laws.StructEq
namespace Fw
open Go Go.RowKit

/-! ### 10. One operation is right -/
def GoodV (P : Program) (c : Cx) (n : Nat) (σ : Sig) (a : Act) (o : Oper) (s : SV) (e : Eff) : Prop :=
  ∃ v c', (execOp a.eval o).run P c.w = .ok (.value v) c'.w ∧ c'.η = c.η ∧ c'.ok0 = c.ok0 ∧ c'.b0 = c.b0 ∧ c.le c' ∧ Rel c' n { σ with o := e.app σ.o } a ∧ SVR c' s v
def Good (P : Program) (c : Cx) (n : Nat) (σ : Sig) (a : Act) (o : Oper) : OR → Prop
  | .bad => True
  | .val s e => GoodV P c n σ a o s e
  | .skip e => ∃ c', (execOp a.eval o).run P c.w = .ok .skip c'.w ∧ c'.η = c.η ∧ c'.ok0 = c.ok0 ∧ c'.b0 = c.b0 ∧ c.le c' ∧ Rel c' n { σ with o := e.app σ.o } a
  | .guard q s e => (q.den c.η).toB = true → GoodV P c n σ a o s e
  | .alt q s e s' e' => ((q.den c.η).toB = true → GoodV P c n σ a o s e) ∧ ((q.den c.η).toB = false → GoodV P c n σ a o s' e')
  | .valN s bs => ∃ v c', (execOp a.eval o).run P c.w = .ok (.value v) c'.w ∧ c'.η = c.η ∧ c'.ok0 = c.ok0 ∧ c'.b0 = c.b0 ∧ c.le c' ∧ Rel c' n { σ with o := σ.o ++ bs } a ∧ SVR c' s v
  | .callO g ks as _ ids => ∃ args, (execOp a.eval o).run P c.w = .ok (.enter g args) c.w ∧ ∃ os ss refs, toArgsO σ.o os ss = some ⟨ks, as, ids, refs⟩ ∧ SVRs c ss args.toList ∧ nodupB ids = true ∧ ∀ i ∈ ids, i ∉ refs
  | .call g ks as _ => ∃ args, (execOp a.eval o).run P c.w = .ok (.enter g args) c.w ∧ KRs c.ok c.w ks (E.dens c.η as) args.toList

theorem GoodV.same {P : Program} {c : Cx} {n : Nat} {σ : Sig} {a : Act} {o : Oper} (h : Rel c n σ a) {s : SV} {v : Value}
    (hr : (execOp a.eval o).run P c.w = .ok (.value v) c.w) (hs : SVR c s v) : GoodV P c n σ a o s .keep :=
  ⟨v, c, hr, rfl, rfl, rfl, Cx.le_refl c, h, hs⟩

theorem zeroE_sound {c : Cx} : ∀ {t : Ty} {v : Value}, isZero t v = true → SVR c (.sc (zeroE t)) v
  | .bool, v, h => by
    have : v = .bool false := by
      unfold isZero at h
      split at h <;> simp_all
    subst this
    simp only [zeroE, SVR, E.bd, E.ty, E.den]; exact ⟨trivial, _, rfl, rfl⟩
  | .int k, v, h => by
    have : v = .int k 0 := by
      unfold isZero at h
      split at h <;> simp_all
    subst this
    simp only [zeroE, SVR, E.bd, E.ty, E.den]; exact ⟨trivial, _, rfl, rfl⟩
  | .str, v, h => by
    have : v = .string ByteArray.empty := by
      unfold isZero at h
      split at h <;> simp_all
    subst this
    simp only [zeroE, SVR, E.bd, E.ty, E.den]; exact ⟨trivial, _, rfl, rfl⟩
  | .slc ts, v, h => by
    have : v = .slice none 0 0 := by
      unfold isZero at h
      split at h <;> simp_all
    subst this
    simp only [zeroE, SVR, E.bd, E.bdss, E.ty, E.den, E.denss, VR]
    exact ⟨trivial, [], none, 0, rfl, rfl, Nat.le_refl _, Nat.zero_le _, fun _ => rfl, fun j c hc => by simp at hc⟩
theorem zeroEs_sound {c : Cx} : ∀ {ts : List Ty} {vs : List Value}, areZero ts vs = true → SVRs c (ts.map fun t => .sc (zeroE t)) vs
  | [], vs, h => by cases vs <;> simp [areZero] at h; simp [SVRs]
  | t :: ts, vs, h => by
    cases vs with
    | nil => simp [areZero] at h
    | cons v vs =>
      simp only [areZero, Bool.and_eq_true] at h
      simp only [List.map_cons, SVRs]
      exact ⟨v, vs, rfl, zeroE_sound h.1, zeroEs_sound h.2⟩


theorem zeroSV_sound {c : Cx} : ∀ {t : Ty} {v : Value}, isZero t v = true → SVR c (zeroSV t) v
  | .slc ts, v, h => by
    have : v = .slice none 0 0 := by
      unfold isZero at h
      split at h <;> simp_all
    subst this
    simp only [zeroSV, SVR]
  | .bool, v, h | .int _, v, h | .str, v, h => zeroE_sound h
theorem zeroSVs_sound {c : Cx} : ∀ {ts : List Ty} {vs : List Value}, areZero ts vs = true → SVRs c (ts.map zeroSV) vs
  | [], vs, h => by cases vs <;> simp [areZero] at h; simp [SVRs]
  | t :: ts, vs, h => by
    cases vs with
    | nil => simp [areZero] at h
    | cons v vs =>
      simp only [areZero, Bool.and_eq_true] at h
      simp only [List.map_cons, SVRs]
      exact ⟨v, vs, rfl, zeroSV_sound h.1, zeroSVs_sound h.2⟩
theorem run_part {P : Program} {c : Cx} {t : TypeId} {xs : List SV} {us : Array Value} (hk : Fw.known P t = true) (hxs : SVRs c xs us.toList) (off : Nat) :
    (isAggB P t = true → off + P.cellsOf t ≤ xs.length → ∃ v, (part t us off).run P c.w = .ok v c.w ∧ SVR c (.agg ((xs.drop off).take (P.cellsOf t))) v) ∧
    (∀ s, isAggB P t = false → xs[off]? = some s → ∃ v, (part t us off).run P c.w = .ok v c.w ∧ SVR c s v) := by
  simp only [Fw.known, Bool.and_eq_true] at hk
  constructor
  · intro hag hl
    refine ⟨.agg (us.extract off (off + P.cellsOf t)), by simp only [part, Sem.run_bind, run_isAgg' hk.2, hag, Result.andThen_ok, if_true, run_sizeOf' hk.1, Sem.run_pure], ?_⟩
    simp only [SVR]
    refine ⟨_, rfl, ?_⟩
    have := (hxs.drop off).take (P.cellsOf t)
    rw [Array.toList_extract, List.extract_eq_take_drop]
    simpa using this
  · intro s hag hs
    obtain ⟨v, hv, hr⟩ := hxs.get hs
    refine ⟨v, ?_, hr⟩
    simp only [part, Sem.run_bind, run_isAgg' hk.2, hag, Result.andThen_ok, Bool.false_eq_true, if_false]
    rw [show us[off]? = some v by simpa using hv]
    rfl


theorem run_equalIn_nil {P : Program} (w : World) (d : Nat) {t el : TypeId} (ht : P.underlying t = some (.slice el)) (A : Option Addr) (l cap : Nat) :
    (Op.equalIn (d + 1) t (.slice A l cap) (.slice none 0 0)).run P w = .ok A.isNone w := by
  cases A <;> simp [Op.equalIn, run_underlying ht]
theorem run_equal_nil {P : Program} (w : World) {t el : TypeId} (ht : P.underlying t = some (.slice el)) (A : Option Addr) (l cap : Nat) :
    (Op.equal t (.slice A l cap) (.slice none 0 0)).run P w = .ok A.isNone w := run_equalIn_nil w 9999 ht A l cap
theorem run_equalIn_pnil {P : Program} (w : World) (d : Nat) {t el : TypeId} (ht : P.underlying t = some (.pointer el)) (A : Option Addr) :
    (Op.equalIn (d + 1) t (.pointer A) (.pointer none)).run P w = .ok A.isNone w := by
  cases A <;> simp [Op.equalIn, run_underlying ht]
theorem run_equal_pnil {P : Program} (w : World) {t el : TypeId} (ht : P.underlying t = some (.pointer el)) (A : Option Addr) :
    (Op.equal t (.pointer A) (.pointer none)).run P w = .ok A.isNone w := run_equalIn_pnil w 9999 ht A
/-- What is compared, as expressions. -/
theorem exs_sc {c : Cx} : ∀ {xs : List SV} {us : List Value} {es : List E}, exs xs = some es → SVRs c xs us → SVRs c (es.map .sc) us
  | [], us, es, he, h => by
    simp only [exs, Option.some.injEq] at he; subst he; exact h
  | s :: ss, us, es, he, h => by
    simp only [exs] at he
    split at he
    · rename_i e es' h1 h2
      simp only [Option.some.injEq] at he; subst he
      simp only [SVRs] at h
      obtain ⟨v, vs', rfl, h3, h4⟩ := h
      simp only [List.map_cons, SVRs]
      exact ⟨v, vs', rfl, by simp only [SVR]; exact ex_sound h3 h1, exs_sc h2 h4⟩
    · cases he
/-- A value of a type, as expressions of its cells. -/
def Of (P : Program) (c : Cx) (t : TypeId) (es : List E) (v : Value) : Prop :=
  (isAggB P t = true ∧ ∃ us, v = .agg us ∧ SVRs c (es.map .sc) us.toList) ∨ (isAggB P t = false ∧ ∃ e, es = [e] ∧ SVR c (.sc e) v)
def EqOk (P : Program) (c : Cx) (d : Nat) (t : TypeId) (q : E) (v u : Value) : Prop :=
  q.bd c.η.length = true ∧ q.ty = .bool ∧ ∃ b, q.den c.η = .bool b ∧ (Op.equalIn d t v u).run P c.w = .ok b c.w
theorem Of.part {P : Program} {c : Cx} {t : TypeId} {es : List E} {us : Array Value} {off : Nat} (hk : Fw.known P t = true) (hxs : SVRs c (es.map .sc) us.toList) {es' : List E}
    (he : (isAggB P t = true ∧ off + P.cellsOf t ≤ es.length ∧ es' = (es.drop off).take (P.cellsOf t)) ∨ (isAggB P t = false ∧ ∃ e, es[off]? = some e ∧ es' = [e])) :
    ∃ v, (Go.part t us off).run P c.w = .ok v c.w ∧ Of P c t es' v := by
  obtain ⟨r1, r2⟩ := run_part hk hxs off
  rcases he with ⟨h1, h2, rfl⟩ | ⟨h1, e, h2, rfl⟩
  · obtain ⟨v, hv, hs⟩ := r1 h1 (by simpa using h2)
    refine ⟨v, hv, .inl ⟨h1, ?_⟩⟩
    simp only [SVR] at hs
    simpa [List.map_take, List.map_drop] using hs
  · obtain ⟨v, hv, hs⟩ := r2 (.sc e) h1 (by simp [h2])
    exact ⟨v, hv, .inr ⟨h1, e, rfl, hs⟩⟩
theorem eqFs_sound {P : Program} {c : Cx} {d : Nat} {g : TypeId → List E → List E → Option E}
    (hg : ∀ t es fs q v u, g t es fs = some q → Of P c t es v → Of P c t fs u → EqOk P c d t q v u) {es fs : List E} {us vs : Array Value} (hu : SVRs c (es.map .sc) us.toList) (hv : SVRs c (fs.map .sc) vs.toList) :
    ∀ (l : List Field) (q : E), eqFs P g es fs l = some q → q.bd c.η.length = true ∧ q.ty = .bool ∧ ∃ b, q.den c.η = .bool b ∧ (Op.eqFields d us vs l).run P c.w = .ok b c.w
  | [], q, h => by
    simp only [eqFs, Option.some.injEq] at h; subst h
    exact ⟨rfl, rfl, true, rfl, by simp [Op.eqFields]⟩
  | fd :: r, q, h => by
    simp only [eqFs] at h
    split at h
    · cases h
    rename_i hk
    simp only [Bool.or_eq_true, decide_eq_true_eq, Bool.not_eq_true', not_or, Bool.not_eq_false] at hk
    obtain ⟨hn, hk⟩ := hk
    split at h
    · rename_i x y hx hy
      simp only [Option.some.injEq] at h; subst h
      obtain ⟨b1, b2, b, b3, b4⟩ := eqFs_sound hg hu hv r y hy
      have : ∃ es' fs', g fd.type es' fs' = some x ∧ (∃ v, (Go.part fd.type us fd.offset).run P c.w = .ok v c.w ∧ Of P c fd.type es' v) ∧ (∃ v, (Go.part fd.type vs fd.offset).run P c.w = .ok v c.w ∧ Of P c fd.type fs' v) := by
        split at hx
        · rename_i hag
          split at hx
          · rename_i hl
            simp only [Bool.and_eq_true, decide_eq_true_eq] at hl
            exact ⟨_, _, hx, Of.part hk hu (.inl ⟨hag, hl.1, rfl⟩), Of.part hk hv (.inl ⟨hag, hl.2, rfl⟩)⟩
          · cases hx
        · rename_i hag
          have hag : isAggB P fd.type = false := by simpa using hag
          split at hx
          · rename_i e f h1 h2
            exact ⟨_, _, hx, Of.part hk hu (.inr ⟨hag, e, h1, rfl⟩), Of.part hk hv (.inr ⟨hag, f, h2, rfl⟩)⟩
          · cases hx
      obtain ⟨es', fs', h1, ⟨v, h2, h3⟩, u, h4, h5⟩ := this
      obtain ⟨c1, c2, b', c3, c4⟩ := hg _ _ _ _ _ _ h1 h3 h5
      refine ⟨by simp [E.bd, b1, c1], rfl, b' && b, by simp [E.den, b3, c3, D.toB], ?_⟩
      simp only [Op.eqFields, if_pos hn, Sem.run_bind, h2, h4, c4, Result.andThen_ok]
      cases b' <;> simp [b4]
    · cases h
theorem eqT_sound {P : Program} {c : Cx} : ∀ (n d : Nat), n ≤ d → ∀ t es fs q v u, eqT P n t es fs = some q → Of P c t es v → Of P c t fs u → EqOk P c d t q v u
  | 0, _, _, t, es, fs, q, v, u, h, _, _ => by simp [eqT] at h
  | n + 1, 0, hd, _, _, _, _, _, _, _, _, _ => by omega
  | n + 1, d + 1, hd, t, es, fs, q, v, u, h, hv, hu => by
    simp only [eqT] at h
    have sc : isAggB P t = false → ∀ e, es = [e] → SVR c (.sc e) v := fun hag e he => by
      rcases hv with ⟨h1, _⟩ | ⟨_, e', h1, h2⟩
      · rw [hag] at h1; cases h1
      · subst he; injection h1 with h1 _; subst h1; exact h2
    have sc' : isAggB P t = false → ∀ f, fs = [f] → SVR c (.sc f) u := fun hag e he => by
      rcases hu with ⟨h1, _⟩ | ⟨_, e', h1, h2⟩
      · rw [hag] at h1; cases h1
      · subst he; injection h1 with h1 _; subst h1; exact h2
    split at h
    · rename_i ht
      have hag : isAggB P t = false := by simp [isAggB, ht]
      have h1 := sc hag _ rfl
      have h2 := sc' hag _ rfl
      split at h
      · rename_i e f he hf
        simp only [Option.some.injEq] at h; subst h
        simp only [SVR, he, hf] at h1 h2
        obtain ⟨x, hx, rfl⟩ := h1.2
        obtain ⟨y, hy, rfl⟩ := h2.2
        exact ⟨by simp [E.bd, h1.1, h2.1], rfl, x == y, by simp [E.den, hx, hy, D.toB], by simp [Op.equalIn, run_underlying ht]⟩
      · cases h
    · rename_i ht
      have hag : isAggB P t = false := by simp [isAggB, ht]
      have h1 := sc hag _ rfl
      have h2 := sc' hag _ rfl
      split at h
      · rename_i k k' he hf
        split at h
        · rename_i hkk; subst hkk
          simp only [Option.some.injEq] at h; subst h
          simp only [SVR, he, hf] at h1 h2
          obtain ⟨x, hx, rfl⟩ := h1.2
          obtain ⟨y, hy, rfl⟩ := h2.2
          exact ⟨by simp [E.bd, h1.1, h2.1], rfl, x == y, by simp [E.den, hx, hy, D.toI, cmpD], by simp [Op.equalIn, run_underlying ht]⟩
        · cases h
      · cases h
    · rename_i ht
      have hag : isAggB P t = false := by simp [isAggB, ht]
      have h1 := sc hag _ rfl
      have h2 := sc' hag _ rfl
      split at h
      · rename_i he hf
        simp only [Option.some.injEq] at h; subst h
        simp only [SVR, he, hf] at h1 h2
        obtain ⟨x, hx, rfl⟩ := h1.2
        obtain ⟨y, hy, rfl⟩ := h2.2
        exact ⟨by simp [E.bd, h1.1, h2.1], rfl, x.toList == y.toList, by simp [E.den, hx, hy, D.toS, scmpD], by simp [Op.equalIn, run_underlying ht, beq_toListBytes]⟩
      · cases h
    · rename_i ht
      have hag : isAggB P t = true := by simp [isAggB, ht]
      split at h
      · cases h
      rename_i hst
      have hst : P.stoodInHeld t = false := by simpa using hst
      rcases hv with ⟨_, us, rfl, hus⟩ | ⟨h1, _⟩
      · rcases hu with ⟨_, vs, rfl, hvs⟩ | ⟨h1, _⟩
        · obtain ⟨b1, b2, b, b3, b4⟩ := eqFs_sound (d := d) (fun t es fs q v u h h1 h2 => eqT_sound n d (by omega) t es fs q v u h h1 h2) hus hvs _ _ h
          refine ⟨b1, b2, b, b3, ?_⟩
          rw [run_equalIn_struct c.w d t us vs (by simp [Program.fieldsOf, ht]) hst]
          exact b4
        · rw [hag] at h1; cases h1
      · rw [hag] at h1; cases h1
    · cases h

theorem parts_sound {c : Cx} {s : SV} {v : Value} (h : SVR c s v) (hc : s.parts.all SV.cellable = true) : SVRs c s.parts v.cells.toList := by
  cases s with
  | agg xs =>
    simp only [SVR] at h
    obtain ⟨us, rfl, h⟩ := h
    exact h
  | un => simp [SV.parts, SV.cellable] at hc
  | tup xs => simp [SV.parts, SV.cellable] at hc
  | mayB e => simp [SV.parts, SV.cellable] at hc
  | und => simp [SV.parts, SV.cellable] at hc
  | _ => rw [(h.cellable rfl).2]; simp only [SV.parts, SVRs]; exact ⟨_, [], rfl, h, rfl⟩

theorem elemTy_eq {P : Program} {t el : TypeId} (he : elemTy P t = some el) : P.underlying t = some (.slice el) := by
  unfold elemTy at he
  split at he
  · simp only [Option.some.injEq] at he; subst he; assumption
  · cases he


theorem idx_guard {η : Env} {e ei : E} {k : IntKind} (h : ((E.and (.cmp .geq ei (.n k 0)) (.cmp .lss ei (.len e))).den η).toB = true) :
    0 ≤ (ei.den η).toI ∧ (ei.den η).toI < ((e.den η).toL.length : Int) := by
  simp only [E.den] at h
  generalize (ei.den η).toI = x at h ⊢
  simp only [D.toB, D.toI, cmpD, Bool.and_eq_true] at h
  exact ⟨of_decide_eq_true h.1, of_decide_eq_true h.2⟩
theorem idx_guardS {η : Env} {e ei : E} {k : IntKind} (h : ((E.and (.cmp .geq ei (.n k 0)) (.cmp .lss ei (.slen e))).den η).toB = true) :
    0 ≤ (ei.den η).toI ∧ (ei.den η).toI < ((e.den η).toS.size : Int) := by
  simp only [E.den] at h
  generalize (ei.den η).toI = x at h ⊢
  simp only [D.toB, D.toI, cmpD, Bool.and_eq_true] at h
  exact ⟨of_decide_eq_true h.1, of_decide_eq_true h.2⟩

section
variable {P : Program} {c : Cx} {n : Nat} {σ : Sig} {a : Act} (h : Rel c n σ a) (dst : Option Tmp) (ty : TypeId) (pos : String) (after : Array Edge) (guard : Option (Nat × Bool)) (sigs : Sigs)
include h

theorem good_move (x : Operand) : Good P c n σ a ⟨dst, .move x, ty, pos, after, guard⟩ (sxOp P sigs σ ⟨dst, .move x, ty, pos, after, guard⟩) := by
  simp only [sxOp]
  exact .same h (v := a.eval x) (by simp [execOp]) (opv_sound h x)
theorem good_assign (x : Operand) : Good P c n σ a ⟨dst, .assign x, ty, pos, after, guard⟩ (sxOp P sigs σ ⟨dst, .assign x, ty, pos, after, guard⟩) := by
  simp only [sxOp]
  exact .same h (v := a.eval x) (by simp [execOp]) (opv_sound h x)

theorem good_pick (x y z : Operand) : Good P c n σ a ⟨dst, .pick x y z, ty, pos, after, guard⟩ (sxOp P sigs σ ⟨dst, .pick x y z, ty, pos, after, guard⟩) := by
  simp only [sxOp]
  have hc := opv_sound h x
  have key : ∀ b, a.eval x = .bool b → (execOp a.eval ⟨dst, .pick x y z, ty, pos, after, guard⟩).run P c.w = .ok (.value (if b then a.eval y else a.eval z)) c.w := fun b hb => by
    simp only [execOp, hb, asBool, Sem.run_bind, Sem.run_pure, Result.andThen_ok]
  split
  · rename_i he; rw [he] at hc
    simp only [SVR, E.ty, E.den] at hc
    have hb := hc.2.bool_.1
    exact .same h (key true hb) (opv_sound h y)
  · rename_i he; rw [he] at hc
    simp only [SVR, E.ty, E.den] at hc
    have hb := hc.2.bool_.1
    exact .same h (key false hb) (opv_sound h z)
  · rename_i e _ _ he; rw [he] at hc
    split
    · rename_i hty hy hz
      split
      · rename_i hbeq
        obtain ⟨b1, v1⟩ := ex_sound (asSC_sound P ty (opv_sound h y)) hy
        obtain ⟨b2, v2⟩ := ex_sound (asSC_sound P ty (opv_sound h z)) hz
        have heq := Ty.beq_eq _ _ hbeq
        simp only [SVR] at hc
        obtain ⟨b0, v0⟩ := hc
        rw [hty] at v0
        obtain ⟨hb, hd⟩ := v0.bool_
        refine .same h (key _ hb) ?_
        simp only [SVR, E.bd, b0, b1, b2, Bool.and_true, E.ty, E.den]
        refine ⟨trivial, ?_⟩
        cases (e.den c.η).toB with
        | true => simpa using v1
        | false => rw [heq]; simpa using v2
      · trivial
    · trivial
  · trivial

theorem good_box (t : TypeId) (x : Operand) : Good P c n σ a ⟨dst, .box t x, ty, pos, after, guard⟩ (sxOp P sigs σ ⟨dst, .box t x, ty, pos, after, guard⟩) := by
  simp only [sxOp]
  have hx := opv_sound h x
  split
  · rename_i hc
    obtain ⟨h1, h2, h3⟩ := h.newBox t (parts_sound hx hc)
    refine ⟨_, _, ?_, (by rfl), (by rfl), (by rfl), h1, h2, h3⟩
    simp [execOp, Instr.box, newVar, newRow]
  · trivial

omit h in
theorem cellsAt_sound {t : TypeId} {cs : List SV} {us : List Value} {ad : Addr} {s : SV} (hk : Fw.known P t = true) (hcs : SVRs c cs us)
    (hu : ∀ (i : Nat) u, us[i]? = some u → c.w.cell? (ad.add i) = some u) (he : cellsAt P t cs = some s) :
    ∃ v, (loadVar t ad).run P c.w = .ok v c.w ∧ SVR c s v := by
  obtain ⟨r1, r2⟩ := run_loadVar' (P := P) (w := c.w) hk hu
  unfold cellsAt at he
  split at he
  · rename_i hag
    split at he
    · rename_i hl
      simp only [Option.some.injEq] at he
      subst he
      refine ⟨_, r1 hag (by rw [hcs.length]; exact hl), ?_⟩
      simp only [SVR]
      exact ⟨_, rfl, by simpa using hcs.take _⟩
    · cases he
  · rename_i hag
    cases cs with
    | nil => cases he
    | cons c0 cs =>
      simp only [List.head?_cons, Option.some.injEq] at he
      subst he
      simp only [SVRs] at hcs
      obtain ⟨v, vs', rfl, h1, _⟩ := hcs
      exact ⟨v, r2 v (by simpa using hag) rfl, h1⟩

theorem good_load (t : TypeId) (x : Operand) : Good P c n σ a ⟨dst, .load t x, ty, pos, after, guard⟩ (sxOp P sigs σ ⟨dst, .load t x, ty, pos, after, guard⟩) := by
  simp only [sxOp]
  have hx := opv_sound h x
  split
  · trivial
  rename_i hk
  have hk : Fw.known P t = true := by simpa using hk
  split
  · rename_i id off he
    rw [he] at hx
    simp only [SVR] at hx
    obtain ⟨b, hb, hv⟩ := hx
    split
    · rename_i cs hcs
      have ho := h.own id _ _ hcs hb
      simp only [ORel] at ho
      obtain ⟨_, arr, hh, hcells⟩ := ho
      split
      · rename_i s hca
        obtain ⟨v, hr, hs⟩ := cellsAt_sound (ad := ⟨b, off, none⟩) hk (hcells.drop off) (fun i u hu => by
          rw [cell_add hh]; rw [List.getElem?_drop] at hu; simpa using hu) hca
        refine .same h (v := v) ?_ hs
        simp [execOp, Instr.loadAt, Instr.sureAddr, hv, hr]
      · trivial
    · trivial
  · rename_i cs he
    rw [he] at hx
    simp only [SVR] at hx
    obtain ⟨ad, us, hv, hcs, hu⟩ := hx
    split
    · rename_i s hca
      obtain ⟨v, hr, hs⟩ := cellsAt_sound (ad := ad) hk hcs (fun i u hi => (hu i u hi).2) hca
      refine .same h (v := v) ?_ hs
      simp [execOp, Instr.loadAt, Instr.sureAddr, hv, hr]
    · trivial
  · trivial

theorem good_store (t : TypeId) (x y : Operand) : Good P c n σ a ⟨dst, .store t x y, ty, pos, after, guard⟩ (sxOp P sigs σ ⟨dst, .store t x y, ty, pos, after, guard⟩) := by
  simp only [sxOp]
  have hx := opv_sound h x
  have hy := opv_sound h y
  split
  · trivial
  rename_i hk
  have hk : (P.info? t).isSome = true := by cases hi : P.info? t <;> simp_all
  split
  · rename_i id off he
    rw [he] at hx
    simp only [SVR] at hx
    obtain ⟨b, hb, hv⟩ := hx
    split
    · rename_i bt cs hcs
      have ho := h.own id _ _ hcs hb
      simp only [ORel] at ho
      obtain ⟨_, arr, hh, hcells⟩ := ho
      have key : ∀ (ys : List SV) (us : List Value), SVRs c ys us → (a.eval y).cells = us.toArray →
          (ys.all SV.cellable && ys.length == P.cellsOf t && decide (off + ys.length ≤ cs.length)) = true →
          Good P c n σ a ⟨dst, .store t x y, ty, pos, after, guard⟩ (.skip (.set id (.box bt (cs.take off ++ ys ++ cs.drop (off + ys.length))))) := by
        intro ys us hys hus hcond
        simp only [Bool.and_eq_true, beq_iff_eq, decide_eq_true_eq] at hcond
        obtain ⟨⟨c1, c2⟩, c3⟩ := hcond
        have hul := hys.length
        have hone : ∀ v ∈ us, v.oneCell' = true := fun v hv' => by
          obtain ⟨i, hi⟩ := List.getElem?_of_mem hv'
          obtain ⟨s, hs, hsv⟩ := hys.get' hi
          exact (hsv.cellable (List.all_eq_true.1 c1 s (List.mem_of_getElem? hs))).1
        obtain ⟨arr', hr, ha⟩ := run_storeCells' (P := P) us 0 off c.w arr hh (by simp) (by have := hcells.length; rw [Array.length_toList] at this; omega) hone
        obtain ⟨h1, h2⟩ := h.storeBox hcs hb hh (cs' := cs.take off ++ ys ++ cs.drop (off + ys.length)) (arr' := arr') _ rfl
          (by rw [ha, Nat.add_zero, hul]; exact ((hcells.take off).append hys).append (hcells.drop _))
        refine ⟨_, ?_, (by rfl), (by rfl), (by rfl), h1, h2⟩
        simp only [execOp, Instr.storeAt, Instr.sureAddr, hv, storeVar, Sem.run_bind, Sem.run_pure, Result.andThen_ok, run_sizeOf' hk, hus]
        rw [if_neg (by simp; omega)]
        simp only [hr, Result.andThen_ok]
      split
      · rename_i hcond
        have hc1 : (opv σ.t y).parts.all SV.cellable = true := by
          simp only [Bool.and_eq_true] at hcond; exact hcond.1.1
        exact key _ _ (parts_sound hy hc1) (by simp) hcond
      · trivial
    · trivial
  · trivial

theorem good_nilCheck (x : Operand) : Good P c n σ a ⟨dst, .nilCheck x, ty, pos, after, guard⟩ (sxOp P sigs σ ⟨dst, .nilCheck x, ty, pos, after, guard⟩) := by
  simp only [sxOp]
  have hx := opv_sound h x
  split
  · rename_i id off he
    rw [he] at hx
    have hx' := hx
    simp only [SVR] at hx
    obtain ⟨b, hb, hv⟩ := hx
    refine .same h (v := a.eval x) ?_ hx'
    simp [execOp, hv]
  · rename_i cs he
    rw [he] at hx
    have hx' := hx
    simp only [SVR] at hx
    obtain ⟨ad, us, hv, _⟩ := hx
    refine .same h (v := a.eval x) ?_ hx'
    simp [execOp, hv]
  · trivial

theorem good_fieldAddr (s : TypeId) (x : Operand) (f : Nat) : Good P c n σ a ⟨dst, .fieldAddr s x f, ty, pos, after, guard⟩ (sxOp P sigs σ ⟨dst, .fieldAddr s x f, ty, pos, after, guard⟩) := by
  simp only [sxOp]
  have hx := opv_sound h x
  split
  · rename_i fd hfd
    split
    · trivial
    rename_i hk
    simp only [Bool.or_eq_true, decide_eq_true_eq, Option.isNone_iff_eq_none, not_or] at hk
    obtain ⟨hk0, hk1⟩ := hk
    have hk1 : (P.info? fd.type).isSome = true := by cases hi : P.info? fd.type <;> simp_all
    obtain ⟨fs, hu, hf⟩ : ∃ fs, P.underlying s = some (.struct fs) ∧ fs[f]? = some fd := by
      unfold fieldOf at hfd
      split at hfd
      · exact ⟨_, by assumption, hfd⟩
      · cases hfd
    have key : ∀ ad, a.eval x = .pointer (some ad) → (execOp a.eval ⟨dst, .fieldAddr s x f, ty, pos, after, guard⟩).run P c.w = .ok (.value (.pointer (some (ad.add fd.offset)))) c.w := fun ad hv => by
      simp [execOp, Instr.fieldAt, run_underlying' hu, hf, Instr.sureAddr, hv, fieldPlace, run_sizeOf' hk1, hk0]
    split
    · rename_i id off he
      rw [he] at hx
      simp only [SVR] at hx
      obtain ⟨b, hb, hv⟩ := hx
      refine .same h (key _ hv) ?_
      simp only [SVR]
      refine ⟨b, hb, ?_⟩
      unfold Addr.add
      split <;> simp_all
    · rename_i cs he
      rw [he] at hx
      simp only [SVR] at hx
      obtain ⟨ad, us, hv, hcs, hu⟩ := hx
      refine .same h (key _ hv) ?_
      simp only [SVR]
      refine ⟨_, us.drop fd.offset, rfl, hcs.drop _, fun i u hi => ?_⟩
      rw [List.getElem?_drop] at hi
      have := hu _ _ hi
      have e : (ad.add fd.offset).add i = ad.add (fd.offset + i) := by
        unfold Addr.add
        by_cases h1 : fd.offset = 0 <;> by_cases h2 : i = 0 <;> simp [h1, h2, Nat.add_assoc]
      rw [e]; exact this
    · trivial
  · trivial

theorem good_field (s : TypeId) (x : Operand) (f : Nat) : Good P c n σ a ⟨dst, .field s x f, ty, pos, after, guard⟩ (sxOp P sigs σ ⟨dst, .field s x f, ty, pos, after, guard⟩) := by
  simp only [sxOp]
  have hx := opv_sound h x
  split
  · rename_i fd hfd
    split
    · trivial
    rename_i hk
    have hk : Fw.known P fd.type = true := by simpa using hk
    obtain ⟨fs, hu, hf⟩ : ∃ fs, P.underlying s = some (.struct fs) ∧ fs[f]? = some fd := by
      unfold fieldOf at hfd
      split at hfd
      · exact ⟨_, by assumption, hfd⟩
      · cases hfd
    split
    · rename_i xs he
      rw [he] at hx
      simp only [SVR] at hx
      obtain ⟨us, hv, hxs⟩ := hx
      obtain ⟨r1, r2⟩ := run_part hk hxs fd.offset
      have key : ∀ v, (part fd.type us fd.offset).run P c.w = .ok v c.w → (execOp a.eval ⟨dst, .field s x f, ty, pos, after, guard⟩).run P c.w = .ok (.value v) c.w := fun v hr => by
        simp [execOp, Instr.field, run_underlying' hu, hf, hv, asAgg, hr]
      split
      · rename_i hag
        split
        · rename_i hl
          obtain ⟨v, hr, hs⟩ := r1 hag hl
          exact .same h (key v hr) hs
        · trivial
      · rename_i hag
        split
        · rename_i s' hs'
          obtain ⟨v, hr, hs⟩ := r2 s' (by simpa using hag) hs'
          exact .same h (key v hr) hs
        · trivial
    · trivial
  · trivial

theorem good_indexAddr (t : TypeId) (x i : Operand) : Good P c n σ a ⟨dst, .indexAddr t x i, ty, pos, after, guard⟩ (sxOp P sigs σ ⟨dst, .indexAddr t x i, ty, pos, after, guard⟩) := by
  simp only [sxOp]
  split
  · rename_i el e ei hel hx hi
    split
    · rename_i ts k hte hti
      split
      · rename_i hk
        simp only [Bool.and_eq_true, decide_eq_true_eq] at hk
        obtain ⟨hk1, hk2⟩ := hk
        obtain ⟨bx, vx⟩ := ex_sound (asSC_sound P t (opv_sound h x)) hx
        obtain ⟨bi, vi⟩ := ex_sound (opv_sound h i) hi
        rw [hte] at vx
        rw [hti] at vi
        obtain ⟨hvi, hdi⟩ := vi.int_
        simp only [VR] at vx
        obtain ⟨es, A, cap, hes, hvx, hlen, hcap, hnil, hel'⟩ := vx
        intro hg
        obtain ⟨g1, g2⟩ := idx_guard hg
        rw [hes] at g2; simp only [D.toL] at g2
        have hlt : (ei.den c.η).toI.toNat < es.length := by omega
        obtain ⟨ad, vs, rfl, hvs, hcell⟩ := hel' _ _ (List.getElem?_eq_getElem hlt)
        refine .same h (v := .pointer (some (ad.add ((ei.den c.η).toI.toNat * ts.length)))) ?_ ?_
        · simp only [execOp, Instr.indexAt, hvi, hvx, asIntOf, Sem.run_bind, Sem.run_pure, Result.andThen_ok, run_underlying' (elemTy_eq hel)]
          rw [if_pos ⟨by omega, by omega⟩]
          simp only [run_sizeOf' hk2, Sem.run_bind, Result.andThen_ok, Sem.run_pure, hk1]
        · simp only [SVR]
          refine ⟨_, vs, rfl, ?_, ?_⟩
          · refine .of_get (by simp [hvs.length]) fun j s v hs hv => ?_
            simp only [List.getElem?_mapIdx, Option.map_eq_some_iff] at hs
            obtain ⟨tj, htj, rfl⟩ := hs
            obtain ⟨u, hu, hvr⟩ := hvs.get htj
            rw [hu] at hv; injection hv with hv; subst hv
            simp only [SVR, E.bd, bx, bi, Bool.and_self, E.ty, E.den, hes, D.toL]
            refine ⟨trivial, ?_⟩
            rw [show es.getD (ei.den c.η).toI.toNat [] = es[(ei.den c.η).toI.toNat] by simp [List.getD_eq_getElem?_getD, List.getElem?_eq_getElem hlt]]
            exact hvr
          · intro j u hu
            obtain ⟨h1, h2⟩ := hcell j u hu
            have e : (ad.add ((ei.den c.η).toI.toNat * ts.length)).add j = ad.add ((ei.den c.η).toI.toNat * ts.length + j) := by
              unfold Addr.add
              by_cases q1 : (ei.den c.η).toI.toNat * ts.length = 0 <;> by_cases q2 : j = 0 <;> simp [q1, q2, Nat.add_assoc]
            rw [e]
            exact ⟨h1.2, h2⟩
      · trivial
    · trivial
  · trivial

theorem good_index (t : TypeId) (x i : Operand) : Good P c n σ a ⟨dst, .index t x i, ty, pos, after, guard⟩ (sxOp P sigs σ ⟨dst, .index t x i, ty, pos, after, guard⟩) := by
  simp only [sxOp]
  split
  · rename_i e ei hu hx hi
    split
    · rename_i k hte hti
      obtain ⟨bx, vx⟩ := ex_sound (opv_sound h x) hx
      obtain ⟨bi, vi⟩ := ex_sound (opv_sound h i) hi
      rw [hte] at vx
      rw [hti] at vi
      obtain ⟨hvi, hdi⟩ := vi.int_
      obtain ⟨hvx, hdx⟩ := vx.str_
      intro hg
      obtain ⟨g1, g2⟩ := idx_guardS hg
      have hlt : (ei.den c.η).toI.toNat < (e.den c.η).toS.size := by omega
      refine .same h (v := .int .u8 (byteD (e.den c.η).toS (ei.den c.η).toI)) ?_ ?_
      · simp only [execOp, Instr.index, hvi, hvx, asIntOf, Sem.run_bind, Sem.run_pure, Result.andThen_ok, run_underlying' hu]
        rw [if_pos (by omega)]
        have : ((e.den c.η).toS)[(ei.den c.η).toI.toNat]? = some ((e.den c.η).toS[(ei.den c.η).toI.toNat]'hlt) := by simp [hlt]
        simp only [byteD, this, Option.map_some, Option.getD_some, Sem.run_pure, Result.andThen_ok]
      · simp only [SVR, E.bd, bx, bi, Bool.and_self, E.ty, E.den]
        exact ⟨trivial, _, rfl, rfl⟩
    · trivial
  · trivial

theorem good_unOp (op : UnOp) (t : TypeId) (x : Operand) : Good P c n σ a ⟨dst, .unOp op t x, ty, pos, after, guard⟩ (sxOp P sigs σ ⟨dst, .unOp op t x, ty, pos, after, guard⟩) := by
  simp only [sxOp]
  split
  · rename_i e hx
    obtain ⟨bx, vx⟩ := ex_sound (opv_sound h x) hx
    split
    · rename_i hte
      rw [hte] at vx
      obtain ⟨hvx, hdx⟩ := vx.bool_
      refine .same h (v := .bool (!(e.den c.η).toB)) (by simp [execOp, Op.unary, hvx]) ?_
      simp only [SVR, E.bd, bx, E.ty, E.den]
      exact ⟨trivial, _, rfl, rfl⟩
    · rename_i k hte
      rw [hte] at vx
      obtain ⟨hvx, hdx⟩ := vx.int_
      refine .same h (v := .int k (k.wrap (0 - (e.den c.η).toI))) (by simp [execOp, Op.unary, hvx, Op.intArith]) ?_
      simp only [SVR, E.bd, bx, E.ty, E.den]
      exact ⟨trivial, _, rfl, rfl⟩
    · trivial
  · trivial

theorem good_convert (s t : TypeId) (x : Operand) : Good P c n σ a ⟨dst, .convert s t x, ty, pos, after, guard⟩ (sxOp P sigs σ ⟨dst, .convert s t x, ty, pos, after, guard⟩) := by
  simp only [sxOp]
  split
  · rename_i d k e hs ht hx
    obtain ⟨bx, vx⟩ := ex_sound (opv_sound h x) hx
    split
    · rename_i k' hte
      rw [hte] at vx
      obtain ⟨hvx, hdx⟩ := vx.int_
      refine .same h (v := .int k (k.wrap (e.den c.η).toI)) ?_ ?_
      · simp only [execOp, convert, Sem.run_bind, run_underlying' hs, run_underlying' ht, Result.andThen_ok, hvx, Conv.intToInt, Sem.run_pure]
      · simp only [SVR, E.bd, bx, E.ty, E.den]
        exact ⟨trivial, _, rfl, rfl⟩
    · trivial
  · trivial

theorem good_extract (x : Operand) (i : Nat) : Good P c n σ a ⟨dst, .extract x i, ty, pos, after, guard⟩ (sxOp P sigs σ ⟨dst, .extract x i, ty, pos, after, guard⟩) := by
  simp only [sxOp]
  have hx := opv_sound h x
  split
  · rename_i xs he
    rw [he] at hx
    simp only [SVR] at hx
    obtain ⟨us, hv, hxs⟩ := hx
    split
    · rename_i s hs
      obtain ⟨v, hv', hr⟩ := hxs.get hs
      refine .same h (v := v) ?_ hr
      have : us[i]? = some v := by simpa using hv'
      simp [execOp, Instr.extract, hv, this]
    · trivial
  · trivial

omit h in
theorem opvs_sound (h : Rel c n σ a) : ∀ (l : List Operand), SVRs c (l.map (opv σ.t)) (l.map a.eval)
  | [] => by simp [SVRs]
  | x :: l => by simp only [List.map_cons, SVRs]; exact ⟨_, _, rfl, opv_sound h x, opvs_sound h l⟩

theorem good_makeFunc (fn : Fn) (first captured : Array Operand) : Good P c n σ a ⟨dst, .makeFunc fn first captured, ty, pos, after, guard⟩ (sxOp P sigs σ ⟨dst, .makeFunc fn first captured, ty, pos, after, guard⟩) := by
  cases fn with
  | func g =>
    simp only [sxOp]
    split
    · rename_i hf
      have hf : first = #[] := by simpa using hf
      subst hf
      refine .same h (v := .func (.func g) #[] (captured.map a.eval)) (by simp [execOp, Instr.makeFunc]) ?_
      simp only [SVR]
      exact ⟨_, rfl, by simpa using opvs_sound h captured.toList⟩
    · trivial
  | _ => trivial

theorem good_binOp (op : BinOp) (xT : TypeId) (x y : Operand) (yT : TypeId) : Good P c n σ a ⟨dst, .binOp op xT x y yT, ty, pos, after, guard⟩ (sxOp P sigs σ ⟨dst, .binOp op xT x y yT, ty, pos, after, guard⟩) := by
  simp only [sxOp]
  split
  · rename_i e f hx hy
    obtain ⟨bx, vx⟩ := ex_sound (opv_sound h x) hx
    obtain ⟨by', vy⟩ := ex_sound (opv_sound h y) hy
    split
    · rename_i k k' hte htf
      split
      · rename_i hkk; subst hkk
        rw [hte] at vx
        rw [htf] at vy
        obtain ⟨hvx, hdx⟩ := vx.int_
        obtain ⟨hvy, hdy⟩ := vy.int_
        have hg : ∀ (op : BinOp) (q : Operand) (q' : Operand), (eqGuard op xT q q' (.int k (e.den c.η).toI) (.int k (f.den c.η).toI)).run P c.w = .ok () c.w := fun op q q' => by
          unfold eqGuard; cases op <;> simp
        have har : ∀ op : BinOp, op = .add ∨ op = .sub ∨ op = .mul → Good P c n σ a ⟨dst, .binOp op xT x y yT, ty, pos, after, guard⟩ (.val (.sc (.ar op k e f)) Eff.keep) := fun op hop => by
          refine .same h (v := .int k (arD op k (e.den c.η).toI (f.den c.η).toI)) ?_ (by simp only [SVR, E.bd, bx, by', Bool.and_self, E.ty, E.den]; exact ⟨trivial, _, rfl, rfl⟩)
          simp only [execOp, Sem.run_bind, hvx, hvy, hg, Result.andThen_ok]
          rcases hop with rfl | rfl | rfl <;> simp [binOp, Op.intArith, arD]
        have hdv : ∀ op : BinOp, op = .quo ∨ op = .rem → Good P c n σ a ⟨dst, .binOp op xT x y yT, ty, pos, after, guard⟩ (.guard (.cmp .neq f (.n k 0)) (.sc (.ar op k e f)) Eff.keep) := fun op hop => by
          intro hgd
          have hne : (f.den c.η).toI ≠ 0 := by
            simp only [E.den] at hgd
            generalize (f.den c.η).toI = z at hgd
            simpa [D.toB, cmpD, D.toI] using hgd
          refine .same h (v := .int k (arD op k (e.den c.η).toI (f.den c.η).toI)) ?_ (by simp only [SVR, E.bd, bx, by', Bool.and_self, E.ty, E.den]; exact ⟨trivial, _, rfl, rfl⟩)
          simp only [execOp, Sem.run_bind, hvx, hvy, hg, Result.andThen_ok]
          rcases hop with rfl | rfl <;> simp [binOp, Op.intDiv, arD, hne]
        have hcm : ∀ op : BinOp, op = .eql ∨ op = .neq ∨ op = .lss ∨ op = .leq ∨ op = .gtr ∨ op = .geq → Good P c n σ a ⟨dst, .binOp op xT x y yT, ty, pos, after, guard⟩ (.val (.sc (.cmp op e f)) Eff.keep) := fun op hop => by
          refine .same h (v := .bool (cmpD op (e.den c.η).toI (f.den c.η).toI)) ?_ (by simp only [SVR, E.bd, bx, by', Bool.and_self, E.ty, E.den]; exact ⟨trivial, _, rfl, rfl⟩)
          simp only [execOp, Sem.run_bind, hvx, hvy, hg, Result.andThen_ok]
          rcases hop with rfl | rfl | rfl | rfl | rfl | rfl <;> simp [binOp, Op.intCmp, cmpD]
        cases op <;> first | exact har _ (by simp) | exact hdv _ (by simp) | exact hcm _ (by simp) | trivial
      · trivial
    · rename_i hte htf
      rw [hte] at vx
      rw [htf] at vy
      obtain ⟨hvx, hdx⟩ := vx.str_
      obtain ⟨hvy, hdy⟩ := vy.str_
      have hg : ∀ (op : BinOp) (q : Operand) (q' : Operand), (eqGuard op xT q q' (.string (e.den c.η).toS) (.string (f.den c.η).toS)).run P c.w = .ok () c.w := fun op q q' => by
        unfold eqGuard; cases op <;> simp
      have hcm : ∀ op : BinOp, op = .eql ∨ op = .neq ∨ op = .lss ∨ op = .leq ∨ op = .gtr ∨ op = .geq → Good P c n σ a ⟨dst, .binOp op xT x y yT, ty, pos, after, guard⟩ (.val (.sc (.scmp op e f)) Eff.keep) := fun op hop => by
        refine .same h (v := .bool (scmpD op (e.den c.η).toS (f.den c.η).toS)) ?_ (by simp only [SVR, E.bd, bx, by', Bool.and_self, E.ty, E.den]; exact ⟨trivial, _, rfl, rfl⟩)
        simp only [execOp, Sem.run_bind, hvx, hvy, hg, Result.andThen_ok]
        rcases hop with rfl | rfl | rfl | rfl | rfl | rfl <;> simp [binOp, Op.stringOp, scmpD]
      have hca : Good P c n σ a ⟨dst, .binOp .add xT x y yT, ty, pos, after, guard⟩ (.guard (.catOk e f) (.sc (.cat e f)) .keep) := by
        intro hgd
        have hne : (((e.den c.η).toS.size + (f.den c.η).toS.size : Nat) : Int) ≤ 9223372036854775807 := by
          simp only [E.den, D.toB, decide_eq_true_eq] at hgd; exact hgd
        refine .same h (v := .string ((e.den c.η).toS ++ (f.den c.η).toS)) ?_ (by simp only [SVR, E.bd, bx, by', Bool.and_self, E.ty, E.den]; exact ⟨trivial, _, rfl, rfl⟩)
        simp only [execOp, Sem.run_bind, hvx, hvy, hg, Result.andThen_ok, binOp, Op.stringOp]
        rw [if_neg (by simp only [IntKind.max, IntKind.signed, IntKind.bits]; omega)]
        rfl
      cases op <;> first | exact hca | exact hcm _ (by simp) | trivial
    · rename_i hte htf
      rw [hte] at vx
      rw [htf] at vy
      obtain ⟨hvx, hdx⟩ := vx.bool_
      obtain ⟨hvy, hdy⟩ := vy.bool_
      have hg : ∀ (op : BinOp) (q : Operand) (q' : Operand), (eqGuard op xT q q' (.bool (e.den c.η).toB) (.bool (f.den c.η).toB)).run P c.w = .ok () c.w := fun op q q' => by
        unfold eqGuard; cases op <;> simp
      split
      · rename_i hu
        refine .same h (v := .bool (((e.den c.η).toB == (f.den c.η).toB) != false)) ?_ (by simp only [SVR, E.bd, bx, by', Bool.and_self, E.ty, E.den]; exact ⟨trivial, _, rfl, rfl⟩)
        simp only [execOp, Sem.run_bind, hvx, hvy, hg, Result.andThen_ok, binOp, run_equal_bool c.w xT _ _ hu]
        simp
      · rename_i hu
        refine .same h (v := .bool (((e.den c.η).toB == (f.den c.η).toB) != true)) ?_ (by simp only [SVR, E.bd, bx, by', Bool.and_self, E.ty, E.den]; exact ⟨trivial, _, rfl, rfl⟩)
        simp only [execOp, Sem.run_bind, hvx, hvy, hg, Result.andThen_ok, binOp, run_equal_bool c.w xT _ _ hu]
        simp
      · trivial
    · trivial
  · rename_i e hx hy
    split
    · rename_i ts hny hte hu
      obtain ⟨bx, vx⟩ := ex_sound (opv_sound h x) hx
      have vy := opv_sound h y
      rw [hny] at vy
      simp only [SVR] at vy
      rw [hte] at vx
      simp only [VR] at vx
      obtain ⟨es, A, cap, hes, hvx, hlen, hcap, hnil, _⟩ := vx
      refine .same h (v := .bool A.isNone) ?_ ?_
      · simp only [execOp, Sem.run_bind, hvx, vy]
        have : (eqGuard .eql xT x y (.slice A es.length cap) (.slice none 0 0)).run P c.w = .ok () c.w := by unfold eqGuard; simp
        simp only [this, Result.andThen_ok, binOp, Sem.run_bind, run_equal_nil c.w hu A es.length cap, Sem.run_pure]
      · simp only [SVR]
        refine ⟨by simp [E.bd, bx], _, rfl, fun hA => ?_⟩
        have hA : A = none := by cases A <;> simp_all
        have := hnil hA
        simp only [E.den, hes, D.toL, D.toI, cmpD, D.toB, beq_iff_eq]
        omega
    · trivial
  · split
    · rename_i id e hx hy
      have vx := opv_sound h x
      rw [hx] at vx
      have vy := opv_sound h y
      rw [hy] at vy
      simp only [SVR] at vx vy
      obtain ⟨hb, b, z, hρ, hz, hvx⟩ := vx
      have hg : ∀ (op : BinOp) (q q' : Operand) (u u' : Option Addr), (eqGuard op xT q q' (.pointer u) (.pointer u')).run P c.w = .ok () c.w := fun op q q' u u' => by
        unfold eqGuard; cases op <;> simp
      split
      · rename_i hu
        have heq : (Op.equal xT (.pointer (if z = true then some ⟨b, 0, none⟩ else none)) (.pointer none)).run P c.w = .ok (!z) c.w := by
          rw [run_equal_pnil c.w hu]; cases z <;> rfl
        refine .same h (v := .bool (!z)) ?_ (by simp only [SVR, E.bd, hb, E.ty, E.den, hz, D.toB]; exact ⟨trivial, _, rfl, rfl⟩)
        simp only [execOp, Sem.run_bind, hvx, vy, hg, Result.andThen_ok, binOp, heq, Sem.run_pure]
      · trivial
    · rename_i hx hy
      split
      · rename_i hu
        have vx := opv_sound h x
        rw [hx] at vx
        have vy := opv_sound h y
        rw [hy] at vy
        simp only [SVR] at vx vy
        refine .same h (v := .bool true) ?_ (by simp only [SVR, E.bd, E.ty, E.den]; exact ⟨trivial, _, rfl, rfl⟩)
        simp only [execOp, Sem.run_bind, vx, vy]
        have : (eqGuard .eql xT x y (.slice none 0 0) (.slice none 0 0)).run P c.w = .ok () c.w := by unfold eqGuard; simp
        simp only [this, Result.andThen_ok, binOp, Sem.run_bind, run_equal_nil c.w hu none 0 0, Sem.run_pure, Option.isNone_none]
      · trivial
    · rename_i xs ys hx hy
      split
      · rename_i es fs hes hfs
        split
        · rename_i fields q ht hq
          have vx := opv_sound h x
          rw [hx] at vx
          have vy := opv_sound h y
          rw [hy] at vy
          simp only [SVR] at vx vy
          obtain ⟨us, hvx, hus⟩ := vx
          obtain ⟨vs, hvy, hvs⟩ := vy
          have hag : isAggB P xT = true := by simp [isAggB, ht]
          split
          · trivial
          rename_i hgt
          have hgt : P.eqGuardType P.depth xT = false := by simpa using hgt
          obtain ⟨b1, b2, b, b3, b4⟩ := eqT_sound 8 10000 (by omega) xT es fs q (.agg us) (.agg vs) hq (.inl ⟨hag, us, rfl, exs_sc hes hus⟩) (.inl ⟨hag, vs, rfl, exs_sc hfs hvs⟩)
          split
          · refine .same h (v := .bool b) ?_ (by simp only [SVR, b2]; exact ⟨b1, b, b3, rfl⟩)
            simp only [execOp, Sem.run_bind, hvx, hvy, run_eqGuard_agg c.w _ xT x y us vs hgt, Result.andThen_ok, run_eql_struct, b4]
            simp
          · refine .same h (v := .bool (!b)) ?_ (by simp only [SVR, E.ty, E.bd, E.den, b3]; exact ⟨b1, _, rfl, rfl⟩)
            simp only [execOp, Sem.run_bind, hvx, hvy, run_eqGuard_agg c.w _ xT x y us vs hgt, Result.andThen_ok, run_neq_struct, b4]
            simp
          · trivial
        · trivial
      · trivial
    · trivial

theorem good_range (t : TypeId) (x : Operand) : Good P c n σ a ⟨dst, .range t x, ty, pos, after, guard⟩ (sxOp P sigs σ ⟨dst, .range t x, ty, pos, after, guard⟩) := by
  simp only [sxOp]
  split
  · rename_i e hu hx
    split
    · rename_i hte
      obtain ⟨bx, vx⟩ := ex_sound (opv_sound h x) hx
      rw [hte] at vx
      obtain ⟨hvx, hdx⟩ := vx.str_
      obtain ⟨h1, h2, h3⟩ := h.newIter (x := e) (p := .n .i64 0) (m := 0) bx rfl hdx rfl
      refine ⟨_, _, ?_, (by rfl), (by rfl), (by rfl), h1, h2, h3⟩
      simp [execOp, Instr.range, run_underlying' hu, hvx, newObj, Sem.run]
    · trivial
  · trivial

theorem good_next (x : Operand) (b : Bool) : Good P c n σ a ⟨dst, .next x b, ty, pos, after, guard⟩ (sxOp P sigs σ ⟨dst, .next x b, ty, pos, after, guard⟩) := by
  cases b with
  | false => simp only [sxOp]; trivial
  | true =>
    simp only [sxOp]
    have hx := opv_sound h x
    split
    · rename_i id hv
      rw [hv] at hx
      simp only [SVR] at hx
      obtain ⟨b, hb, hvx⟩ := hx
      split
      · rename_i e p ho
        split
        · trivial
        rename_i hpt
        have hpt : p.ty = .int .i64 := Ty.beq_eq _ _ (by simpa using hpt)
        have h0 := h.own id _ _ ho hb
        simp only [ORel] at h0
        obtain ⟨b1, b2, b3, str, m, hxs, hpm, hh⟩ := h0
        have hget : (getObj b).run P c.w = .ok (.stringIter str m) c.w := by simp [getObj, hh, Sem.run]
        have hden : (((E.cmp .lss p (.slen e)).den c.η).toB) = decide (m < str.size) := by
          simp only [E.den, hxs, hpm, D.toI, D.toS, D.toB, cmpD]
          simp
        refine ⟨fun hq => ?_, fun hq => ?_⟩
        · rw [hden] at hq
          have hlt : m < str.size := by simpa using hq
          obtain ⟨h1, h2⟩ := h.setIter ho hb hh (p' := .rnext e p) (m' := m + (Utf8.decode str m).2) b1 (by simp [E.bd, b1, b2]) hxs (by simp [E.den, hxs, hpm, D.toS, D.toI]) _ rfl
          refine ⟨.tuple #[.bool true, goInt m, .int .i32 (Utf8.decode str m).1], _, ?_, (by rfl), (by rfl), (by rfl), h1, h2, ?_⟩
          · simp [execOp, Instr.next, hvx, hget, hlt, setObj, Sem.run, hh]
          · simp only [SVR]
            refine ⟨_, rfl, ?_⟩
            simp only [SVRs, SVR, E.bd, E.ty, E.den, hxs, hpm, hpt, D.toS, D.toI, b1, b2, VR]
            refine ⟨_, _, rfl, ⟨trivial, _, rfl, rfl⟩, _, _, rfl, ⟨trivial, _, rfl, rfl⟩, _, _, rfl, ⟨by simp, _, rfl, by simp⟩, rfl⟩
        · rw [hden] at hq
          have hlt : ¬ m < str.size := by simpa using hq
          refine .same h (v := .tuple #[.bool false]) ?_ ?_
          · simp [execOp, Instr.next, hvx, hget, hlt]
          · simp only [SVR, SVRs, E.bd, E.ty, E.den, VR]
            exact ⟨_, rfl, _, _, rfl, ⟨trivial, _, rfl, rfl⟩, rfl⟩
      · trivial
    · trivial
end
end Fw
