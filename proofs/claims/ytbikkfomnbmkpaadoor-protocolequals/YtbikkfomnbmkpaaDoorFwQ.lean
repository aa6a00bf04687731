import Derived.Test.YtbikkfomnbmkpaaDoorFwPC
namespace Fw
open Go Go.RowKit

/-! ### 13b. Regions whose order is drawn -/
theorem opv_congr {t t' : List (Nat × SV)} {o : Oper} (ht : ∀ x ∈ slotsOf o, look t x = look t' x) : ∀ x ∈ o.op.operands.toList, opv t x = opv t' x := by
  intro x hx
  cases x with
  | tmp i => simp only [opv]; exact ht i (by simp only [slotsOf, List.mem_filterMap]; exact ⟨_, hx, rfl⟩)
  | const v => rfl
  | global g => rfl
  | func f => rfl

theorem map_congr' {α β : Type} {l : List α} {f g : α → β} (h : ∀ x ∈ l, f x = g x) : l.map f = l.map g := List.map_congr_left h

mutual
theorem toArg_congr {o o' : List OB} : ∀ (s : SV), (∀ id ∈ s.ids, o[id]? = o'[id]?) → toArg o s = toArg o' s
  | .ptr id off, h => by simp only [toArg, h id (by simp [SV.ids])]
  | .fn g cs, h => by simp only [toArg]; rw [toArgs_congr cs (fun id hid => h id (by simpa [SV.ids] using hid))]
  | .un, _ | .nils, _ | .sc _, _ | .agg _, _ | .tup _, _ | .rp _, _ | .gro _ _, _ | .mayB _, _ | .und, _ | .pnil, _ | .sp _ _, _ => by simp [toArg]
theorem toArgs_congr {o o' : List OB} : ∀ (ss : List SV), (∀ id ∈ SV.idss ss, o[id]? = o'[id]?) → toArgs o ss = toArgs o' ss
  | [], _ => by simp [toArgs]
  | s :: ss, h => by
    simp only [toArgs]
    rw [toArg_congr s (fun id hid => h id (by simp [SV.idss, hid])), toArgs_congr ss (fun id hid => h id (by simp [SV.idss, hid]))]
end
theorem idss_append : ∀ (a b : List SV), SV.idss (a ++ b) = SV.idss a ++ SV.idss b
  | [], b => rfl
  | s :: a, b => by simp [SV.idss, idss_append a b]
theorem asSC_ids (P : Program) (t : TypeId) (s : SV) : ∀ id ∈ (asSC P t s).ids, id ∈ s.ids := by
  intro id h
  unfold asSC at h
  split at h
  · split at h
    · rename_i t' _
      cases t' <;> simp [nilAs, SV.ids] at h
    · exact h
  · split at h
    · simp [SV.ids] at h
    · exact h
  · exact h
theorem idss_mem {id : Nat} : ∀ {l : List SV}, id ∈ SV.idss l → ∃ s ∈ l, id ∈ s.ids
  | [], h => by simp [SV.idss] at h
  | s :: l, h => by
    simp only [SV.idss, List.mem_append] at h
    rcases h with h | h
    · exact ⟨s, List.mem_cons_self .., h⟩
    · obtain ⟨s', h1, h2⟩ := idss_mem h
      exact ⟨s', List.mem_cons_of_mem _ h1, h2⟩

theorem ckRead_congr {o o' : List OB} {self : Nat} : ∀ (cks : List CK) (cs : List SV) {es : List E} {ids : List Nat}, ckRead o self cks cs = some (es, ids) → (∀ id ∈ ids, o[id]? = o'[id]?) → ckRead o' self cks cs = some (es, ids) := by
  intro cks
  induction cks with
  | nil =>
    intro cs es ids h _
    cases cs with
    | nil => exact h
    | cons => simp [ckRead] at h
  | cons ck r ih =>
    intro cs es ids h ho
    cases cs with
    | nil => cases ck <;> simp [ckRead] at h
    | cons s ss =>
      cases ck with
      | un => simp only [ckRead] at h ⊢; exact ih ss h ho
      | pl t =>
        simp only [ckRead] at h ⊢
        split at h
        · rename_i e es' ids' h1 h'
          split at h
          · rename_i hc
            simp only [Option.some.injEq, Prod.mk.injEq] at h
            obtain ⟨rfl, rfl⟩ := h
            rw [h1, ih ss h' ho]
            simp only [hc, if_true]
          · cases h
        · cases h
      | gro tt ts =>
        cases s with
        | gro id e =>
          simp only [ckRead] at h ⊢
          split at h
          · rename_i tt' sz cur es' ids' h1 h'
            split at h
            · rename_i hc
              simp only [Option.some.injEq, Prod.mk.injEq] at h
              obtain ⟨rfl, rfl⟩ := h
              rw [← ho id (List.mem_cons_self ..), h1, ih ss h' fun i hi => ho i (List.mem_cons_of_mem _ hi)]
              simp only [hc, if_true]
            · cases h
          · cases h
        | _ => simp [ckRead] at h
      | sp =>
        cases s with
        | sp id e =>
          simp only [ckRead] at h ⊢
          split at h
          · rename_i es' ids' h'
            split at h
            · rename_i hc
              simp only [Option.some.injEq, Prod.mk.injEq] at h
              obtain ⟨rfl, rfl⟩ := h
              rw [ih ss h' ho]
              simp only [hc, if_true]
            · cases h
          · cases h
        | _ => simp [ckRead] at h
theorem toObj_congr {o o' : List OB} {bt : Nat} {cks : List CK} {s : SV} {es : List E} {ids : List Nat} (h : toObj o bt cks s = some (es, ids)) (ho : ∀ id ∈ ids, o[id]? = o'[id]?) : toObj o' bt cks s = some (es, ids) := by
  unfold toObj at h ⊢
  split at h
  · rename_i id
    split at h
    · rename_i bt' cs hcs
      split at h
      case isFalse => cases h
      rename_i hbt
      simp only [Option.map_eq_some_iff, Prod.mk.injEq] at h
      obtain ⟨⟨es0, ids0⟩, hck, rfl, rfl⟩ := h
      rw [← ho id (List.mem_cons_self ..), hcs]
      simp only [hbt, if_true, ckRead_congr cks cs hck fun i hi => ho i (List.mem_cons_of_mem _ hi), Option.map_some]
    · cases h
  · cases h
theorem toArgsO_congr {o o' : List OB} : ∀ (ss : List SV) {os : List (Option (Nat × List CK))} {r : ArgsO}, toArgsO o os ss = some r → (∀ id ∈ r.ids, o[id]? = o'[id]?) → (∀ id ∈ SV.idss ss, o[id]? = o'[id]?) → toArgsO o' os ss = some r
  | [], os, r, h, _, _ => by
    have e : ∀ o, toArgsO o os [] = some ⟨[], [], [], []⟩ := fun o => by cases os with | nil => rfl | cons x _ => cases x <;> rfl
    rw [e] at h ⊢; exact h
  | s :: ss, os, r, h, ho, hs => by
    have rest : ∀ (os' : List (Option (Nat × List CK))), (match toArg o s, toArgsO o os' ss with
        | some (k, es), some r => some (⟨k :: r.ks, es ++ r.es, r.ids, s.refs ++ r.refs⟩ : ArgsO)
        | _, _ => none) = some r → (match toArg o' s, toArgsO o' os' ss with
        | some (k, es), some r => some (⟨k :: r.ks, es ++ r.es, r.ids, s.refs ++ r.refs⟩ : ArgsO)
        | _, _ => none) = some r := fun os' h => by
      split at h
      · rename_i k es r' h1 h2
        simp only [Option.some.injEq] at h; subst h
        have e1 : toArg o' s = some (k, es) := by rw [← toArg_congr s fun i hi => hs i (by simp [SV.idss, hi])]; exact h1
        rw [e1, toArgsO_congr ss h2 ho (fun i hi => hs i (by simp [SV.idss, hi]))]
      · cases h
    match os, h with
    | [], h => simp only [toArgsO] at h ⊢; exact rest _ h
    | none :: os', h => simp only [toArgsO] at h ⊢; exact rest _ h
    | some (bt, cks) :: os', h =>
      simp only [toArgsO] at h ⊢
      split at h
      · rename_i es ids r' h1 h2
        simp only [Option.some.injEq] at h; subst h
        rw [toObj_congr h1 fun i hi => ho i (List.mem_append_left _ hi), toArgsO_congr ss h2 (fun i hi => ho i (List.mem_append_right _ hi)) (fun i hi => hs i (by simp [SV.idss, hi]))]
      · cases h
def OR.plain : OR → Bool
  | .val .. | .skip _ | .guard .. | .call .. | .callO .. => true
  | _ => false
/-- What an operation comes to hangs on its operands and on the blocks that it reads. -/
theorem sxOp_congr {P : Program} {sigs : Sigs} {σ σ' : Sig} {o : Oper} (ht : ∀ x ∈ slotsOf o, look σ.t x = look σ'.t x) (ho : ∀ id ∈ rdIds σ.t o, σ.o[id]? = σ'.o[id]?)
    (hn : σ.o.length = σ'.o.length ∨ ∀ b, effOf (sxOp P sigs σ o) ≠ .push b) (hpl : (sxOp P sigs σ o).plain = true) (hwr : ∀ id ∈ wrOf (sxOp P sigs σ o), σ.o[id]? = σ'.o[id]?) : sxOp P sigs σ' o = sxOp P sigs σ o := by
  have hx := opv_congr ht
  obtain ⟨dst, op, ty, pos, after, guard⟩ := o
  simp only at hx
  cases op with
  | move x => simp only [sxOp, hx x (by simp [Op.operands])]
  | assign x => simp only [sxOp, hx x (by simp [Op.operands])]
  | pick c a b => simp only [sxOp, hx c (by simp [Op.operands]), hx a (by simp [Op.operands]), hx b (by simp [Op.operands])]
  | alloc t =>
    by_cases hown : sigs.own.contains (dst.getD 1000000) = true
    · exfalso
      simp only [sxOp, hown, if_true] at hpl
      split at hpl
      · split at hpl <;> cases hpl
      · cases hpl
    simp only [sxOp, if_neg hown] at hn ⊢
    rcases hn with hn | hn
    · rw [hn]
    · split at hn
      · split at hn
        · rename_i h; exact absurd rfl (hn _)
        · rename_i h1 h2 h3; rw [if_neg h3, if_neg h3]
      · rfl
  | box t x =>
    have e := hx x (by simp [Op.operands])
    simp only [sxOp, e] at hn ⊢
    rcases hn with hn | hn
    · rw [hn]
    · split at hn
      · exact absurd rfl (hn _)
      · rename_i h3; rw [if_neg h3, if_neg h3]
  | load t x =>
    have e := hx x (by simp [Op.operands])
    have ho' : ∀ id ∈ (opv σ.t x).ids, σ.o[id]? = σ'.o[id]? := fun id hid => ho id (by simp [rdIds, looksO, Op.operands]; exact hid)
    simp only [sxOp, ← e]
    cases hv : opv σ.t x <;> simp only []
    rename_i id off
    rw [ho' id (by simp [hv, SV.ids])]
  | store t x y =>
    have e := hx x (by simp [Op.operands])
    have e2 := hx y (by simp [Op.operands])
    have ho' : ∀ id ∈ (opv σ.t x).ids, σ.o[id]? = σ'.o[id]? := fun id hid => ho id (by simp [rdIds, looksO, Op.operands]; exact .inl hid)
    simp only [sxOp, ← e, ← e2]
    cases hv : opv σ.t x <;> simp only []
    rename_i id off
    rw [ho' id (by simp [hv, SV.ids])]
  | nilCheck x => simp only [sxOp, hx x (by simp [Op.operands])]
  | binOp op t x y t' => simp only [sxOp, hx x (by simp [Op.operands]), hx y (by simp [Op.operands])]
  | unOp op t x => simp only [sxOp, hx x (by simp [Op.operands])]
  | convert s t x => simp only [sxOp, hx x (by simp [Op.operands])]
  | fieldAddr s x f => simp only [sxOp, hx x (by simp [Op.operands])]
  | field s x f => simp only [sxOp, hx x (by simp [Op.operands])]
  | indexAddr t x i => simp only [sxOp, hx x (by simp [Op.operands]), hx i (by simp [Op.operands])]
  | index t x i => simp only [sxOp, hx x (by simp [Op.operands]), hx i (by simp [Op.operands])]
  | extract x i => simp only [sxOp, hx x (by simp [Op.operands])]
  | makeFunc fn first captured =>
    have e : captured.toList.map (opv σ.t) = captured.toList.map (opv σ'.t) := map_congr' fun x hx' => hx x (by simp [Op.operands]; exact .inr (by simpa using hx'))
    cases fn <;> simp only [sxOp, e]
  | build t ps =>
    have e : (ps.toList.map fun x => (x.1, opv σ.t x.2)) = (ps.toList.map fun x => (x.1, opv σ'.t x.2)) := map_congr' fun x hx' => by
      rw [hx x.2 (by simp [Op.operands]; exact ⟨x.1, by simpa using hx'⟩)]
    simp only [sxOp, e]
  | buildSlice t n ps =>
    have e : (ps.toList.map fun x => (x.1, opv σ.t x.2)) = (ps.toList.map fun x => (x.1, opv σ'.t x.2)) := map_congr' fun x hx' => by
      rw [hx x.2 (by simp [Op.operands]; exact ⟨x.1, by simpa using hx'⟩)]
    simp only [sxOp, e] at hn ⊢
    rcases hn with hn | hn
    · rw [hn]
    · split at hn
      · split at hn
        · split at hn
          · split at hn
            · exact absurd rfl (hn _)
            · rename_i h1 h2 h3 h4; rw [if_pos h3, if_pos h3, if_neg h4, if_neg h4]
          · rename_i h3; rw [if_neg h3, if_neg h3]
        · rfl
      · rfl
  | makeSlice t l c =>
    have e := hx l (by simp [Op.operands])
    have e2 := hx c (by simp [Op.operands])
    simp only [sxOp, e, e2] at hn ⊢
    rcases hn with hn | hn
    · rw [hn]
    · split at hn
      · split at hn
        · split at hn
          · exact absurd rfl (hn _)
          · rename_i h3; rw [if_neg h3, if_neg h3]
        · rfl
      · rfl
  | range t x =>
    have e := hx x (by simp [Op.operands])
    simp only [sxOp, e] at hn ⊢
    rcases hn with hn | hn
    · rw [hn]
    · split at hn
      · split at hn
        · exact absurd rfl (hn _)
        · rfl
      · rfl
  | next x b =>
    cases b with
    | false => rfl
    | true =>
      have e := hx x (by simp [Op.operands])
      have ho' : ∀ id ∈ (opv σ.t x).ids, σ.o[id]? = σ'.o[id]? := fun id hid => ho id (by simp [rdIds, looksO, Op.operands]; exact hid)
      simp only [sxOp, ← e]
      cases hv : opv σ.t x with
      | ptr id off => cases off with
        | zero => simp only [ho' id (by simp [hv, SV.ids])]
        | succ off => rfl
      | _ => rfl
  | slice t x lo hi mx =>
    have e := hx x (by simp [Op.operands])
    have e2 : ∀ z, lo = some z → opv σ.t z = opv σ'.t z := fun z hz => hx z (by subst hz; simp [Op.operands])
    have e3 : ∀ z, hi = some z → opv σ.t z = opv σ'.t z := fun z hz => hx z (by subst hz; simp [Op.operands])
    cases lo <;> cases hi <;> simp only [sxOp, e] <;> first | rfl | rw [e2 _ rfl, e3 _ rfl] | rw [e2 _ rfl] | rw [e3 _ rfl]
  | call c =>
    obtain ⟨callee, args, argTypes⟩ := c
    have ha : ∀ x ∈ args.toList, opv σ.t x = opv σ'.t x := fun x hx' => hx x (by cases callee <;> simp [Op.operands, Call.operands] <;> first | exact .inr (by simpa using hx') | simpa using hx')
    have hr : ∀ x ∈ args.toList, ∀ id ∈ (opv σ.t x).ids, σ.o[id]? = σ'.o[id]? := fun x hx' id hid => ho id (by
      simp only [rdIds, looksO, if_true, List.mem_flatMap]
      exact ⟨x, by cases callee <;> simp [Op.operands, Call.operands] <;> first | exact .inr (by simpa using hx') | simpa using hx', hid⟩)
    cases callee with
    | value f =>
      have e := hx f (by simp [Op.operands, Call.operands])
      have hrf : ∀ id ∈ (opv σ.t f).ids, σ.o[id]? = σ'.o[id]? := fun id hid => ho id (by
        simp only [rdIds, looksO, if_true, List.mem_flatMap]
        exact ⟨f, by simp [Op.operands, Call.operands], hid⟩)
      have el : (args.toList.zipIdx.map fun x => asSC P (argTypes.getD x.2 0) (opv σ.t x.1)) = (args.toList.zipIdx.map fun x => asSC P (argTypes.getD x.2 0) (opv σ'.t x.1)) := map_congr' fun x hx' => by
        rw [ha x.1 (List.fst_mem_of_mem_zipIdx hx')]
      simp only [sxOp, ← e, ← el] at hpl hwr ⊢
      cases hv : opv σ.t f with
      | fn g caps =>
        rw [hv] at hpl hwr
        simp only [] at hpl hwr ⊢
        split
        · rename_i hcb
          rw [if_pos hcb] at hpl hwr
          split
          · rename_i hob
            rw [hob] at hpl hwr
            simp only [] at hpl hwr ⊢
            have hids : ∀ id ∈ SV.idss (args.toList.zipIdx.map (fun x => asSC P (argTypes.getD x.2 0) (opv σ.t x.1)) ++ caps), σ.o[id]? = σ'.o[id]? := by
              intro id hid
              rw [idss_append, List.mem_append] at hid
              rcases hid with hid | hid
              · obtain ⟨s, hs, hid⟩ := idss_mem hid
                obtain ⟨x, hx', rfl⟩ := List.mem_map.1 hs
                exact hr x.1 (List.fst_mem_of_mem_zipIdx hx') id (asSC_ids _ _ _ _ hid)
              · exact hrf id (by rw [hv]; simpa [SV.ids] using hid)
            split at hpl
            · rename_i r g' rk hta hsig
              rw [hta, hsig] at hwr
              simp only [] at hwr
              split at hpl
              · rename_i hc
                rw [if_pos hc] at hwr
                simp only [wrOf] at hwr
                simp only [toArgsO_congr _ hta hwr hids, hsig]
              · cases hpl
            · cases hpl
          · rw [← toArgs_congr (o := σ.o) (o' := σ'.o)]
            intro id hid
            rw [idss_append, List.mem_append] at hid
            rcases hid with hid | hid
            · obtain ⟨s, hs, hid⟩ := idss_mem hid
              obtain ⟨x, hx', rfl⟩ := List.mem_map.1 hs
              exact hr x.1 (List.fst_mem_of_mem_zipIdx hx') id (asSC_ids _ _ _ _ hid)
            · exact hrf id (by rw [hv]; simpa [SV.ids] using hid)
        · rfl
      | _ => rfl
    | invoke r m => rfl
    | builtin b =>
      cases b with
      | len =>
        simp only [sxOp]
        match hal : args.toList with
        | [x] => cases argTypes[0]? <;> simp only [] <;> rw [ha x (by rw [hal]; simp)]
        | [] => rfl
        | _ :: _ :: _ => rfl
      | max =>
        simp only [sxOp]
        match hal : args.toList with
        | [x, y] => simp only [ha x (by rw [hal]; simp), ha y (by rw [hal]; simp)]
        | [] => rfl
        | [_] => rfl
        | _ :: _ :: _ :: _ => rfl
      | min =>
        simp only [sxOp]
        match hal : args.toList with
        | [x, y] => simp only [ha x (by rw [hal]; simp), ha y (by rw [hal]; simp)]
        | [] => rfl
        | [_] => rfl
        | _ :: _ :: _ :: _ => rfl
      | append =>
        simp only [sxOp] at hn ⊢
        match hal : args.toList, hat : argTypes.toList with
        | [x, y], [t, u] =>
          rw [hal, hat] at hn
          simp only [] at hn ⊢
          rw [← ha x (by rw [hal]; simp), ← ha y (by rw [hal]; simp)]
          have hrx := hr x (by rw [hal]; simp)
          unfold sxAppend at hn ⊢
          split
          · rename_i h1 h2
            simp only [h1, h2] at hn
            split
            · rename_i h3 h4
              simp only [h3, h4] at hn
              split
              · rename_i h5
                simp only [h5] at hn
                split
                · rename_i h6
                  rw [if_pos h6] at hn
                  cases hv : opv σ.t x <;> simp only [hv] at hn ⊢
                  · rcases hn with hn | hn
                    · rw [hn]
                    · exact absurd rfl (hn _)
                  · rename_i id e
                    rw [hrx id (by simp [hv, SV.ids])]
                · rfl
              · rfl
            · rfl
          · rfl
        | [], _ | [_], _ | _ :: _ :: _ :: _, _ | [_, _], [] | [_, _], [_] | [_, _], _ :: _ :: _ :: _ => rfl
      | _ => rfl
  | _ => rfl
end Fw
