import Derived.Test.YtbikkfomnbmkpaaDoorFwG5
namespace Fw
open Go Go.RowKit

theorem den_iteT {η : Env} {q x y : E} (h : (q.den η).toB = true) : (E.ite q x y).den η = x.den η := by
  simp only [E.den]; exact if_pos h
theorem den_iteF {η : Env} {q x y : E} (h : (q.den η).toB = false) : (E.ite q x y).den η = y.den η := by
  simp only [E.den]; exact if_neg (by rw [h]; simp)
theorem den_gtr (η : Env) (f e : E) : (E.ite (.cmp .gtr f e) f e).den η = if (f.den η).toI > (e.den η).toI then f.den η else e.den η := by
  by_cases h : (f.den η).toI > (e.den η).toI
  · rw [if_pos h]; exact den_iteT (by simp only [E.den, cmpD, D.toB]; exact decide_eq_true h)
  · rw [if_neg h]; exact den_iteF (by simp only [E.den, cmpD, D.toB]; exact decide_eq_false h)
theorem den_lss (η : Env) (f e : E) : (E.ite (.cmp .lss f e) f e).den η = if (f.den η).toI < (e.den η).toI then f.den η else e.den η := by
  by_cases h : (f.den η).toI < (e.den η).toI
  · rw [if_pos h]; exact den_iteT (by simp only [E.den, cmpD, D.toB]; exact decide_eq_true h)
  · rw [if_neg h]; exact den_iteF (by simp only [E.den, cmpD, D.toB]; exact decide_eq_false h)

section
variable {P : Program} {c : Cx} {n : Nat} {σ : Sig} {a : Act} (h : Rel c n σ a) (dst : Option Tmp) (ty : TypeId) (pos : String) (after : Array Edge) (guard : Option (Nat × Bool)) (sigs : Sigs)
include h

omit h in
theorem callable_spec {g : Nat} (hcb : callable P g = true) : ∃ fn, P.funcs[g]? = some fn ∧ (fn.name == "runtime.NumGoroutine") = false ∧ fn.body.isNone = false := by
  unfold callable at hcb
  split at hcb
  · rename_i fn hfn
    simp only [Bool.and_eq_true, bne, Bool.not_eq_true'] at hcb
    refine ⟨fn, hfn, hcb.1, ?_⟩
    cases hb : fn.body <;> simp_all
  · cases hcb
theorem callArgs_sound (argTypes : Array TypeId) : ∀ (l : List Operand) (k : Nat), SVRs c ((l.zipIdx k).map fun x => asSC P (argTypes.getD x.2 0) (opv σ.t x.1)) (l.map a.eval)
  | [], _ => by simp [SVRs]
  | x :: l, k => by
    simp only [List.zipIdx_cons, List.map_cons, SVRs]
    exact ⟨_, _, rfl, asSC_sound P _ (opv_sound h x), callArgs_sound argTypes l (k + 1)⟩

omit h in
theorem zeroCK_sound {self : Nat} : ∀ (cks : List CK) (vs : List Value) {k : Nat} {cs : List SV} {os : List OB} {c : Cx} {σ : Sig}, zeroCK self k cks vs = some (cs, os) → Rel c n σ a → σ.o.length = k →
    ∃ c1 : Cx, c1.w = c.w ∧ c1.η = c.η ∧ c1.ok0 = c.ok0 ∧ c1.b0 = c.b0 ∧ c.le c1 ∧ Rel c1 n { σ with o := σ.o ++ os } a ∧ os.length = CK.ngro cks ∧
      ∀ c2 : Cx, c1.le c2 → (∃ b, c2.ρ[self]? = some (.blk b)) → SVRs c2 cs vs := by
  intro cks
  induction cks with
  | nil =>
    intro vs k cs os c σ hz hr hk
    cases vs with
    | nil =>
      simp only [zeroCK, Option.some.injEq, Prod.mk.injEq] at hz
      obtain ⟨rfl, rfl⟩ := hz
      exact ⟨c, rfl, rfl, rfl, rfl, Cx.le_refl c, by simpa using hr, rfl, fun _ _ _ => by simp [SVRs]⟩
    | cons v vs => simp [zeroCK] at hz
  | cons ck r ih =>
    intro vs k cs os c σ hz hr hk
    subst hk
    unfold zeroCK at hz
    split at hz
    · cases ‹ck :: r = []›
    · rename_i t r' v vs' heq
      injection heq with h1 h2
      subst h1 h2
      split at hz
      · rename_i cs' os' hz'
        split at hz
        · rename_i hzero
          simp only [Option.some.injEq, Prod.mk.injEq] at hz
          obtain ⟨rfl, rfl⟩ := hz
          obtain ⟨c1, a1, a2, a3, a4, a5, a6, a7, a8⟩ := ih vs' hz' hr rfl
          refine ⟨c1, a1, a2, a3, a4, a5, a6, by simpa [CK.ngro] using a7, fun c2 h1 h2 => ?_⟩
          simp only [SVRs]
          exact ⟨v, vs', rfl, zeroSV_sound hzero, a8 c2 h1 h2⟩
        · cases hz
      · cases hz
    · rename_i tt ts r' vs' heq
      injection heq with h1 h2
      subst h1 h2
      split at hz
      · rename_i cs' os' hz'
        simp only [Option.some.injEq, Prod.mk.injEq] at hz
        obtain ⟨rfl, rfl⟩ := hz
        obtain ⟨q1, q2⟩ := hr.pushNone tt ts.length ts
        obtain ⟨c1, a1, a2, a3, a4, a5, a6, a7, a8⟩ := ih vs' hz' q2 (by simp)
        refine ⟨c1, a1, a2, a3, a4, q1.trans a5, by simpa using a6, by simpa [CK.ngro] using a7, fun c2 h1 h2 => ?_⟩
        simp only [SVRs]
        refine ⟨_, vs', rfl, ?_, a8 c2 h1 h2⟩
        have hg : SVR { c with ρ := c.ρ ++ [.tk none] } (.gro σ.o.length (.lit ts [])) (.slice none 0 0) := by
          simp only [SVR, E.bd, E.bdss, E.ty, E.den, E.denss, VR]
          exact ⟨trivial, ⟨[], none, 0, rfl, rfl, Nat.le_refl _, Nat.zero_le _, fun _ => rfl, fun j c hc => by simp at hc⟩, none, by rw [hr.olen]; simp, Nat.le_refl _, fun _ => rfl⟩
        exact SVR.le (a5.trans h1) _ _ hg
      · cases hz
    · rename_i r' vs' heq
      injection heq with h1 h2
      subst h1 h2
      split at hz
      · rename_i cs' os' hz'
        simp only [Option.some.injEq, Prod.mk.injEq] at hz
        obtain ⟨rfl, rfl⟩ := hz
        obtain ⟨c1, a1, a2, a3, a4, a5, a6, a7, a8⟩ := ih vs' hz' hr rfl
        refine ⟨c1, a1, a2, a3, a4, a5, a6, by simpa [CK.ngro] using a7, fun c2 h1 h2 => ?_⟩
        simp only [SVRs]
        refine ⟨_, vs', rfl, ?_, a8 c2 h1 h2⟩
        obtain ⟨b, hb⟩ := h2
        simp only [SVR, E.bd, E.den]
        exact ⟨trivial, b, false, hb, rfl, rfl⟩
      · cases hz
    · cases hz

theorem good_alloc (t : TypeId) : Good P c n σ a ⟨dst, .alloc t, ty, pos, after, guard⟩ (sxOp P sigs σ ⟨dst, .alloc t, ty, pos, after, guard⟩) := by
  simp only [sxOp]
  split
  · split
    · rename_i z cks hz hck
      split
      · rename_i cs os hzc
        obtain ⟨i, hi, hz⟩ := Option.bind_eq_some_iff.1 hz
        obtain ⟨c1, a1, a2, a3, a4, a5, a6, a7, a8⟩ := zeroCK_sound _ _ hzc h rfl
        have hl : c1.ρ.length = σ.o.length + CK.ngro cks := by rw [← a6.olen]; simp [a7]
        let c2 : Cx := { c1 with ρ := c1.ρ ++ [.blk c1.w.heap.size], w := c1.w.alloc (.cells z.cells.toList.toArray t) }
        obtain ⟨h1, h2, h3⟩ := a6.newBox' t (xs := cs) (us := z.cells.toList) (a8 c2 (Cx.le_newBox c1 _) ⟨c1.w.heap.size, by simp [c2, ← hl]⟩)
        refine ⟨.pointer (some ⟨c1.w.heap.size, 0, none⟩), c2, ?_, a2, a3, a4, a5.trans h1, by simpa using h2, by simpa [a7] using h3⟩
        simp [c2, execOp, Instr.alloc, zeroValue, run_typeInfo' hi, hz, newVar, newRow, a1]
      · trivial
    · trivial
  · split
    · rename_i z ts hz hts
      split
      · rename_i ha
        obtain ⟨i, hi, hz⟩ := Option.bind_eq_some_iff.1 hz
        obtain ⟨h1, h2, h3⟩ := h.newBox t (zeroSVs_sound (c := c) ha)
        refine ⟨_, _, ?_, (by rfl), (by rfl), (by rfl), h1, h2, h3⟩
        simp [execOp, Instr.alloc, zeroValue, run_typeInfo' hi, hz, newVar, newRow]
      · trivial
    · trivial

theorem good_call (cl : Call) : Good P c n σ a ⟨dst, .call cl, ty, pos, after, guard⟩ (sxOp P sigs σ ⟨dst, .call cl, ty, pos, after, guard⟩) := by
  simp only [sxOp]
  split
  · rename_i f hcal
    have hf := opv_sound h f
    split
    · rename_i g caps he
      rw [he] at hf
      simp only [SVR] at hf
      obtain ⟨us, hv, hcaps⟩ := hf
      split
      · rename_i hcb
        split
        · rename_i os hos
          split
          · rename_i r g' rk hta hsig
            split
            · rename_i hcond
              simp only [Bool.and_eq_true] at hcond
              refine ⟨(cl.args.map a.eval) ++ us, ?_, os, _, r.refs, hta, by simpa using (callArgs_sound (P := P) h cl.argTypes cl.args.toList 0).append hcaps, hcond.1, fun i hi => by simpa using List.all_eq_true.1 hcond.2 i hi⟩
              obtain ⟨fn, hfn, hname, hbody⟩ := callable_spec hcb
              simp only [execOp, resolve, hcal, hv, Deferred.ofValue, Sem.run_bind, Sem.run_pure, Result.andThen_ok, invoke, callFunc, run_program, hfn, hname, Bool.false_eq_true, if_false, hbody]
              simp
            · trivial
          · trivial
        split
        · rename_i ks es g' rk hta hsig
          obtain ⟨_, hk⟩ := toArgs_sound h _ ((callArgs_sound (P := P) h cl.argTypes cl.args.toList 0).append hcaps) hta
          refine ⟨(cl.args.map a.eval) ++ us, ?_, by simpa using hk⟩
          obtain ⟨fn, hfn, hname, hbody⟩ := callable_spec hcb
          simp only [execOp, resolve, hcal, hv, Deferred.ofValue, Sem.run_bind, Sem.run_pure, Result.andThen_ok, invoke, callFunc, run_program, hfn, hname, Bool.false_eq_true, if_false, hbody]
          simp
        · trivial
      · trivial
    · trivial
  · rename_i hcal
    split
    · rename_i x t hargs ht
      split
      · rename_i e u hx hu
        obtain ⟨bx, vx⟩ := ex_sound (asSC_sound P t (opv_sound h x)) hx
        have hargs' : cl.args = #[x] := by
          apply Array.ext'; simpa using hargs
        split
        · rename_i hte
          rw [hte] at vx
          obtain ⟨hvx, hdx⟩ := vx.str_
          refine .same h (v := .int .i64 (e.den c.η).toS.size) ?_ (by simp only [SVR, E.bd, bx, E.ty, E.den]; exact ⟨trivial, _, rfl, rfl⟩)
          simp only [execOp, resolve, hcal, Sem.run_bind, Sem.run_pure, Result.andThen_ok, invoke, builtin, Builtin.len_, hargs', ht]
          simp only [List.map_toArray, List.map_cons, List.map_nil, hvx]
          simp [run_underlying' hu, goInt]
        · rename_i ts el hte
          rw [hte] at vx
          simp only [VR] at vx
          obtain ⟨es, A, cap, hes, hvx, _⟩ := vx
          refine .same h (v := .int .i64 (e.den c.η).toL.length) ?_ (by simp only [SVR, E.bd, bx, E.ty, E.den]; exact ⟨trivial, _, rfl, rfl⟩)
          simp only [execOp, resolve, hcal, Sem.run_bind, Sem.run_pure, Result.andThen_ok, invoke, builtin, Builtin.len_, hargs', ht]
          simp only [List.map_toArray, List.map_cons, List.map_nil, hvx]
          simp [run_underlying' hu, goInt, hes, D.toL]
        · trivial
      · trivial
    · trivial
  · rename_i hcal
    split
    · rename_i x y hargs
      split
      · rename_i e f hx hy
        obtain ⟨bx, vx⟩ := ex_sound (opv_sound h x) hx
        obtain ⟨by', vy⟩ := ex_sound (opv_sound h y) hy
        have hargs' : cl.args = #[x, y] := by
          apply Array.ext'; simpa using hargs
        split
        · rename_i k k' hte htf
          split
          · rename_i hkk; subst hkk
            rw [hte] at vx
            rw [htf] at vy
            obtain ⟨hvx, hdx⟩ := vx.int_
            obtain ⟨hvy, hdy⟩ := vy.int_
            refine .same h (v := .int k (if (f.den c.η).toI > (e.den c.η).toI then (f.den c.η).toI else (e.den c.η).toI)) ?_ ?_
            · simp only [execOp, resolve, hcal, Sem.run_bind, Sem.run_pure, Result.andThen_ok, invoke, builtin, Builtin.max_, hargs']
              simp [hvx, hvy, Builtin.max2]
            · simp only [SVR, E.bd, bx, by', Bool.and_self, E.ty, htf]
              refine ⟨trivial, ?_⟩
              rw [den_gtr]
              by_cases hgt : (f.den c.η).toI > (e.den c.η).toI
              · rw [if_pos hgt, if_pos hgt, hdy]; exact ⟨_, rfl, rfl⟩
              · rw [if_neg hgt, if_neg hgt, hdx]; exact ⟨_, rfl, rfl⟩
          · trivial
        · trivial
      · trivial
    · trivial
  · rename_i hcal
    split
    · rename_i x y hargs
      split
      · rename_i e f hx hy
        obtain ⟨bx, vx⟩ := ex_sound (opv_sound h x) hx
        obtain ⟨by', vy⟩ := ex_sound (opv_sound h y) hy
        have hargs' : cl.args = #[x, y] := by
          apply Array.ext'; simpa using hargs
        split
        · rename_i k k' hte htf
          split
          · rename_i hkk; subst hkk
            rw [hte] at vx
            rw [htf] at vy
            obtain ⟨hvx, hdx⟩ := vx.int_
            obtain ⟨hvy, hdy⟩ := vy.int_
            refine .same h (v := .int k (if (f.den c.η).toI < (e.den c.η).toI then (f.den c.η).toI else (e.den c.η).toI)) ?_ ?_
            · simp only [execOp, resolve, hcal, Sem.run_bind, Sem.run_pure, Result.andThen_ok, invoke, builtin, Builtin.min_, hargs']
              simp [hvx, hvy, Builtin.min2]
            · simp only [SVR, E.bd, bx, by', Bool.and_self, E.ty, htf]
              refine ⟨trivial, ?_⟩
              rw [den_lss]
              by_cases hgt : (f.den c.η).toI < (e.den c.η).toI
              · rw [if_pos hgt, if_pos hgt, hdy]; exact ⟨_, rfl, rfl⟩
              · rw [if_neg hgt, if_neg hgt, hdx]; exact ⟨_, rfl, rfl⟩
          · trivial
        · trivial
      · trivial
    · trivial
  · rename_i hcal
    split
    · rename_i x y t u hargs hats
      have hargs' : cl.args = #[x, y] := by
        apply Array.ext'; simpa using hargs
      have hats' : cl.argTypes = #[t, u] := by
        apply Array.ext'; simpa using hats
      have hap := sxAppend_good (P := P) h (t := t) (u := u) (ty := ty) (opv_sound h x) (opv_sound h y)
      revert hap
      generalize sxAppend P σ.o t u (opv σ.t x) (opv σ.t y) = r
      intro hap
      cases r with
      | bad => trivial
      | guard q s e =>
        intro hq
        obtain ⟨v, c', h1, h2⟩ := hap hq
        refine ⟨v, c', ?_, h2⟩
        simp only [execOp, resolve, hcal, Sem.run_bind, Sem.run_pure, Result.andThen_ok, invoke, builtin, hargs', hats']
        simp [h1]
      | val _ _ => exact hap.elim
      | skip _ => exact hap.elim
      | alt _ _ _ _ _ => exact hap.elim
      | valN _ _ => exact hap.elim
      | callO _ _ _ _ _ => exact hap.elim
      | call _ _ _ _ => exact hap.elim
    · trivial
  · trivial

omit h in
theorem run_sliceBound {P : Program} {w : World} {k : IntKind} {i : Int} {y : Nat} {code : BoundsCode} (h0 : 0 ≤ i) (h1 : i ≤ y) : (Instr.sliceBound (.int k i) y code).run P w = .ok i.toNat w := by
  simp [Instr.sliceBound, asIntOf, h0, h1]
omit h in
theorem sliceG_ {η : Env} {z l h : E} (hg : ((sliceG z l h).den η).toB = true) : 0 ≤ (l.den η).toI ∧ (l.den η).toI ≤ (h.den η).toI ∧ (h.den η).toI ≤ (z.den η).toI := by
  simp only [sliceG, E.den] at hg
  generalize (l.den η).toI = p at hg ⊢
  generalize (h.den η).toI = q at hg ⊢
  generalize (z.den η).toI = r at hg ⊢
  simp only [D.toB, D.toI, cmpD, Bool.and_eq_true] at hg
  exact ⟨of_decide_eq_true hg.1, of_decide_eq_true hg.2.1, of_decide_eq_true hg.2.2⟩
/-- An operand that may be left out. -/
theorem optInt (lo : Option Operand) {l d : E} (hd : d.bd c.η.length = true) (hl : (match lo with | none => some d | some z => (opv σ.t z).ex) = some l) (hty : l.ty = .int .i64) :
    l.bd c.η.length = true ∧ ((lo = none ∧ l = d) ∨ ∃ z, lo = some z ∧ a.eval z = .int .i64 (l.den c.η).toI) := by
  cases lo with
  | none => simp only [Option.some.injEq] at hl; subst hl; exact ⟨hd, .inl ⟨rfl, rfl⟩⟩
  | some z =>
    simp only at hl
    obtain ⟨b1, v1⟩ := ex_sound (opv_sound h z) hl
    rw [hty] at v1
    exact ⟨b1, .inr ⟨z, rfl, v1.int_.1⟩⟩
theorem bounds_run (lo hi : Option Operand) {l hh d : E} {len cap : Nat} {isS : Bool} (hd : (d.den c.η).toI = len) (hlc : len ≤ cap)
    (h1 : (lo = none ∧ l = .n .i64 0) ∨ ∃ z, lo = some z ∧ a.eval z = .int .i64 (l.den c.η).toI) (h2 : (hi = none ∧ hh = d) ∨ ∃ z, hi = some z ∧ a.eval z = .int .i64 (hh.den c.η).toI)
    (g1 : 0 ≤ (l.den c.η).toI) (g2 : (l.den c.η).toI ≤ (hh.den c.η).toI) (g3 : (hh.den c.η).toI ≤ len) :
    (Instr.sliceBounds isS len cap (lo.map a.eval) (hi.map a.eval) none).run P c.w = .ok ((l.den c.η).toI.toNat, (hh.den c.η).toI.toNat, cap) c.w := by
  have _ := h
  have e1 : ((l.den c.η).toI ≤ ((hh.den c.η).toI.toNat : Nat)) := by omega
  have e2 : (hh.den c.η).toI ≤ (cap : Nat) := by omega
  have e3 : 0 ≤ (hh.den c.η).toI := by omega
  have e4 : ((hh.den c.η).toI.toNat : Int) = (hh.den c.η).toI := Int.toNat_of_nonneg e3
  rcases h1 with ⟨rfl, rfl⟩ | ⟨z, rfl, hz⟩ <;> rcases h2 with ⟨rfl, rfl⟩ | ⟨z', rfl, hz'⟩
  · rw [show ((E.n .i64 0).den c.η).toI = 0 from rfl]
    simp [Instr.sliceBounds, hd]
  · rw [show ((E.n .i64 0).den c.η).toI = 0 from rfl]
    simp [Instr.sliceBounds, hz', run_sliceBound e3 e2]
  · simp [Instr.sliceBounds, hz, hd, run_sliceBound (P := P) (w := c.w) (k := .i64) g1 (show (l.den c.η).toI ≤ (len : Nat) by omega)]
  · simp [Instr.sliceBounds, hz, hz', run_sliceBound e3 e2, run_sliceBound g1 e1]

theorem good_slice (t : TypeId) (x : Operand) (lo hi mx : Option Operand) : Good P c n σ a ⟨dst, .slice t x lo hi mx, ty, pos, after, guard⟩ (sxOp P sigs σ ⟨dst, .slice t x lo hi mx, ty, pos, after, guard⟩) := by
  simp only [sxOp]
  split
  · trivial
  rename_i hmx
  have hmx : mx = none := by cases mx <;> simp_all
  subst hmx
  split
  · rename_i u e hu hx
    obtain ⟨bx, vx⟩ := ex_sound (asSC_sound P t (opv_sound h x)) hx
    split
    · rename_i hte
      rw [hte] at vx
      obtain ⟨hvx, hdx⟩ := vx.str_
      split
      · rename_i l hh hl hhi
        split
        · rename_i hlt hht
          intro hg
          obtain ⟨g1, g2, g3⟩ := sliceG_ hg
          have hz : ((E.slen e).den c.η).toI = ((e.den c.η).toS.size : Nat) := by simp only [E.den, D.toI]
          rw [hz] at g3
          obtain ⟨q1, q2⟩ := optInt h hi (by simpa [E.bd] using bx) hhi hht
          obtain ⟨q3, q4⟩ := optInt h lo rfl hl hlt
          have hb := bounds_run h (P := P) lo hi (isS := false) hz (Nat.le_refl _) q4 q2 g1 g2 g3
          refine .same h (v := .string ((e.den c.η).toS.extract (l.den c.η).toI.toNat (hh.den c.η).toI.toNat)) ?_ (by simp only [SVR, E.bd, bx, q1, q3, Bool.and_self, E.ty, E.den]; exact ⟨trivial, _, rfl, rfl⟩)
          simp [execOp, Instr.sliceAt, Instr.slice, hvx, run_underlying' hu, hb]
        · trivial
      · trivial
    · rename_i el ts hte
      rw [hte] at vx
      obtain ⟨A, cap, us, hvx, hv1, hv2, hv3, hul, hur, huls, huc⟩ := vx.rows
      split
      · rename_i l hh hl hhi
        split
        · rename_i hlt hht
          split
          · rename_i hcond
            simp only [Bool.and_eq_true, decide_eq_true_eq] at hcond
            obtain ⟨hc1, hc2⟩ := hcond
            intro hg
            obtain ⟨g1, g2, g3⟩ := sliceG_ hg
            have hz : ((E.len e).den c.η).toI = ((e.den c.η).toL.length : Nat) := by simp only [E.den, D.toI]
            rw [hz] at g3
            obtain ⟨q1, q2⟩ := optInt h hi (by simpa [E.bd] using bx) hhi hht
            obtain ⟨q3, q4⟩ := optInt h lo rfl hl hlt
            have hb := bounds_run h (P := P) lo hi (isS := true) hz hv1 q4 q2 g1 g2 g3
            have hsz : (Go.sizeOf el).run P c.w = .ok ts.length c.w := by rw [run_sizeOf' hc1, hc2]
            refine .same h (v := .slice (if cap = (l.den c.η).toI.toNat then A else A.map (·.add ((l.den c.η).toI.toNat * ts.length))) ((hh.den c.η).toI.toNat - (l.den c.η).toI.toNat) (cap - (l.den c.η).toI.toNat)) ?_ ?_
            · simp [execOp, Instr.sliceAt, Instr.slice, hvx, run_underlying' hu, hb, hsz]
            · simp only [SVR, E.bd, bx, q1, q3, Bool.and_self, E.ty, hte, E.den]
              refine ⟨trivial, ?_⟩
              generalize hp : (l.den c.η).toI = p at *
              generalize hq : (hh.den c.η).toI = q at *
              have hlen : (((e.den c.η).toL.take q.toNat).drop p.toNat).length = q.toNat - p.toNat := by
                rw [List.length_drop, List.length_take]; omega
              simp only [VR]
              refine ⟨_, _, _, rfl, by rw [hlen], by rw [hlen]; omega, by omega, fun hA => ?_, fun j r hj => ?_⟩
              · split at hA
                · omega
                · cases A with
                  | none => have := hv3 rfl; omega
                  | some _ => simp at hA
              · have hjl := (List.getElem?_eq_some_iff.1 hj).1
                rw [hlen] at hjl
                rw [List.getElem?_drop, List.getElem?_take, if_pos (by omega)] at hj
                have hjl2 := (List.getElem?_eq_some_iff.1 hj).1
                cases A with
                | none => have := hv3 rfl; omega
                | some ad =>
                  rw [if_neg (by omega)]
                  have hu' : us[p.toNat + j]? = some (us[p.toNat + j]'(by omega)) := List.getElem?_eq_getElem _
                  refine ⟨ad.add (p.toNat * ts.length), us[p.toNat + j]'(by omega), rfl, hur _ r _ hj hu', fun i u hi => ?_⟩
                  have := huc ad rfl _ _ (flatten_get us huls _ _ _ _ hu' hi)
                  have e : (ad.add (p.toNat * ts.length)).add (j * ts.length + i) = ad.add ((p.toNat + j) * ts.length + i) := by
                    rw [Nat.add_mul]
                    unfold Addr.add
                    by_cases q1 : p.toNat * ts.length = 0 <;> by_cases q2 : j * ts.length + i = 0
                    · simp [q1]
                    · simp [q1]
                    · rw [if_neg q1, if_pos q2]; simp [q1, show j * ts.length = 0 by omega, show i = 0 by omega]
                    · rw [if_neg q1, if_neg q2, if_neg (by omega)]; simp [Nat.add_assoc]
                  rw [e]; exact this
          · trivial
        · trivial
      · trivial
    · trivial
  · trivial

theorem sxOp_good (o : Oper) : Good P c n σ a o (sxOp P sigs σ o) := by
  obtain ⟨dst, op, ty, pos, after, guard⟩ := o
  cases op with
  | move x => exact good_move h ..
  | assign x => exact good_assign h ..
  | pick x y z => exact good_pick h ..
  | alloc t => exact good_alloc h ..
  | box t x => exact good_box h ..
  | load t x => exact good_load h ..
  | store t x y => exact good_store h ..
  | nilCheck x => exact good_nilCheck h ..
  | binOp op t x y t' => exact good_binOp h ..
  | unOp op t x => exact good_unOp h ..
  | convert s t x => exact good_convert h ..
  | makeFunc f x y => exact good_makeFunc h ..
  | fieldAddr s x f => exact good_fieldAddr h ..
  | field s x f => exact good_field h ..
  | indexAddr t x i => exact good_indexAddr h ..
  | index t x i => exact good_index h ..
  | extract x i => exact good_extract h ..
  | call cl => exact good_call h ..
  | build t ps => exact good_build h ..
  | buildSlice t k ps => exact good_buildSlice h ..
  | makeSlice t x y => exact good_makeSlice h ..
  | slice t x lo hi mx => exact good_slice h ..
  | range t x => exact good_range h ..
  | next x b => exact good_next h ..
  | _ => trivial
end

/-! ### 11. Control -/
def SI.den (c0 : Code) : SI → Option Item
  | .code p => (Fw.sub c0 p).map .code
  | .inBlock id => some (.inBlock id)
  | .inLoop p => match Fw.sub c0 p with
    | some (.loop c) => some (.inLoop c)
    | _ => none
  | .reg p is => match Fw.sub c0 p with
    | some (.region _ ops _) => some (.inRegion ops is)
    | _ => none
/-- The stack of places stands for the machine's. -/
inductive Stk (c0 : Code) : List SI → List Item → Prop where
  | nil : Stk c0 [] []
  | cons {s : SI} {it : Item} {ss : List SI} {its : List Item} (h : s.den c0 = some it) (t : Stk c0 ss its) : Stk c0 (s :: ss) (it :: its)

theorem Stk.exit {c0 : Code} {id : Nat} : ∀ {ss : List SI} {its : List Item} {ss' : List SI}, Stk c0 ss its → exitSI id ss = some ss' → ∃ its', exitTo id its = some its' ∧ Stk c0 ss' its'
  | _, _, _, .nil, h => by simp [exitSI] at h
  | _, _, ss', .cons (s := s) (ss := ss) hs ht, h => by
    cases s with
    | inBlock id' =>
      simp only [SI.den, Option.some.injEq] at hs; subst hs
      simp only [exitSI] at h
      simp only [exitTo]
      split at h
      · rename_i hid
        simp only [Option.some.injEq] at h; subst h
        exact ⟨_, by rw [if_pos hid], ht⟩
      · rename_i hid
        obtain ⟨its', h1, h2⟩ := ht.exit h
        exact ⟨its', by rw [if_neg hid]; exact h1, h2⟩
    | code p =>
      simp only [SI.den, Option.map_eq_some_iff] at hs
      obtain ⟨x, _, rfl⟩ := hs
      simp only [exitSI] at h
      obtain ⟨its', h1, h2⟩ := ht.exit h
      exact ⟨its', by simpa [exitTo] using h1, h2⟩
    | inLoop p =>
      simp only [SI.den] at hs
      split at hs
      · simp only [Option.some.injEq] at hs; subst hs
        simp only [exitSI] at h
        obtain ⟨its', h1, h2⟩ := ht.exit h
        exact ⟨its', by simpa [exitTo] using h1, h2⟩
      · cases hs
    | reg p is =>
      simp only [SI.den] at hs
      split at hs
      · simp only [Option.some.injEq] at hs; subst hs
        simp only [exitSI] at h
        obtain ⟨its', h1, h2⟩ := ht.exit h
        exact ⟨its', by simpa [exitTo] using h1, h2⟩
      · cases hs

/-! ### 12. Steps of one operation -/
section
variable {P : Program} {b : Frame} {a : Act} {k : List Item} {cs : List Frame} {w w' : World} {ops : Array Oper} {i : Nat} {rest : List Nat} {o : Oper}
theorem step_val (ho : ops[i]? = some o) (hw : Region.wanted o (yielded ops a.tmps) = true) {v : Value} (hr : (execOp a.eval o).run P w = .ok (.value v) w') :
    step P (lone (b.at a (.inRegion ops (i :: rest) :: k)) cs w) = .next (lone (b.at (a.put o.dst v) (.inRegion ops rest :: k)) cs w') := by
  have hg := stepG_op (P := P) (b := b) (k := k) (cs := cs) (w := w) (rest := rest) ho hw
  have hfin : (b.at a (.inRegion ops (i :: rest) :: k)).finish v = b.at (a.put o.dst v) (.inRegion ops rest :: k) := by rw [Frame.finish_at, ho]; rfl
  refine step_lone_go ?_
  rw [hg, ← hfin]; simp [stepG.apply, hr]
theorem step_skipv (ho : ops[i]? = some o) (hw : Region.wanted o (yielded ops a.tmps) = true) (hr : (execOp a.eval o).run P w = .ok .skip w') :
    step P (lone (b.at a (.inRegion ops (i :: rest) :: k)) cs w) = .next (lone (b.at (a.put o.dst undef) (.inRegion ops rest :: k)) cs w') := by
  have hg := stepG_op (P := P) (b := b) (k := k) (cs := cs) (w := w) (rest := rest) ho hw
  have hfin : (b.at a (.inRegion ops (i :: rest) :: k)).finish undef = b.at (a.put o.dst undef) (.inRegion ops rest :: k) := by rw [Frame.finish_at, ho]; rfl
  refine step_lone_go ?_
  rw [hg, ← hfin]; simp [stepG.apply, hr]
theorem step_pass (ho : ops[i]? = some o) (hw : Region.wanted o (yielded ops a.tmps) = false) :
    step P (lone (b.at a (.inRegion ops (i :: rest) :: k)) cs w) = .next (lone (b.at (a.put o.dst undef) (.inRegion ops rest :: k)) cs w) := by
  have hs := step_op_skip (P := P) (b := b) (a := a) (k := k) (cs := cs) (w := w) (ops := ops) (i := i) (rest := rest) (by simp [ho]; simpa using hw)
  simpa only [ho, Option.bind_some] using hs
theorem steps_call (ho : ops[i]? = some o) (hw : Region.wanted o (yielded ops a.tmps) = true) {f : FuncId} {args : Array Value} (hr : (execOp a.eval o).run P w = .ok (.enter f args) w)
    {R : Value → World → Prop} (hc : Calls P f args w fun e w' => ∃ v, e = .returned v ∧ R v w') :
    ∃ v w', R v w' ∧ Steps P (lone (b.at a (.inRegion ops (i :: rest) :: k)) cs w) (lone (b.at (a.put o.dst v) (.inRegion ops rest :: k)) cs w') := by
  have hg := stepG_op (P := P) (b := b) (k := k) (cs := cs) (w := w) (rest := rest) ho hw
  obtain ⟨e, w'', fr, ⟨v, rfl, hR⟩, hsteps, _, hleave⟩ := hc (b.at a (.inRegion ops (i :: rest) :: k) :: cs)
  have henter : step P (lone (b.at a (.inRegion ops (i :: rest) :: k)) cs w) =
      .next (lone (Frame.enter P f args .normal) (b.at a (.inRegion ops (i :: rest) :: k) :: cs) w) :=
    step_lone_go (by rw [hg]; simp [stepG.apply, hr, Frame.at])
  have hfin : (b.at a (.inRegion ops (i :: rest) :: k)).finish v = b.at (a.put o.dst v) (.inRegion ops rest :: k) := by rw [Frame.finish_at, ho]; rfl
  refine ⟨v, w'', hR, .head henter (Steps.trans hsteps (.one ?_))⟩
  rw [← hfin]; exact step_leave_returned hleave
end
end Fw
