import Derived.Test.YtbikkfomnbmkpaaDoorFwQ
import Derived.Orders
namespace Fw
open Go Go.RowKit

def Sig.Eqv (σ σ' : Sig) : Prop := (∀ i, look σ.t i = look σ'.t i) ∧ σ.o = σ'.o
theorem Rel.eqv {c : Cx} {n : Nat} {σ σ' : Sig} {a : Act} (h : Rel c n σ a) (e : σ.Eqv σ') : Rel c n σ' a where
  defers := h.defers
  size := h.size
  tmps := fun i => by rw [← e.1 i]; exact h.tmps i
  olen := by rw [← e.2]; exact h.olen
  own := fun id ob co ho hc => h.own id ob co (by rw [e.2]; exact ho) hc
  dist := h.dist
  below := h.below

/-- What an operation yields, the environment being told in full. -/
inductive Yld (P : Program) (L : Lay) (ηs : Env) (pos : Nat) : OR → SV → Eff → Prop where
  | val {s : SV} {e : Eff} : Yld P L ηs pos (.val s e) s e
  | skip {e : Eff} : Yld P L ηs pos (.skip e) .un e
  | guard {q : E} {s : SV} {e : Eff} (h : (q.den ηs).toB = true) : Yld P L ηs pos (.guard q s e) s e
  | call {g : Nat} {ks rk : List K} {as : List E} {xs : List D} (hc : CorrectAt P L g ks (E.dens ηs as) rk xs) (hx : ∃ pre post, ηs = pre ++ xs ++ post ∧ pre.length = pos) : Yld P L ηs pos (.call g ks as rk) (resPacked pos rk) .keep
  | callO {g : Nat} {ks rk : List K} {as : List E} {ids : List Nat} {xs : List D} (hc : CorrectO P L g ks (E.dens ηs as) rk xs) (hxl : xs.length = (K.rts ks rk).length) (hx : ∃ pre post, ηs = pre ++ xs ++ post ∧ pre.length = pos) :
      Yld P L ηs pos (.callO g ks as rk ids) (resPacked pos rk) (.sets ids (K.obss false (pos + (K.tyss rk).length) ids ks))
theorem Yld.plain {P : Program} {L : Lay} {ηs : Env} {pos : Nat} {r : OR} {s : SV} {e : Eff} (h : Yld P L ηs pos r s e) : r.plain = true := by cases h <;> rfl
theorem Yld.eff {P : Program} {L : Lay} {ηs : Env} {pos : Nat} {r : OR} {s : SV} {e : Eff} (h : Yld P L ηs pos r s e) : wrOf r = e.wr ∧ ∀ b, e = .push b ↔ effOf r = .push b := by
  cases h with
  | callO => exact ⟨rfl, fun b => ⟨fun h => (nomatch h), fun h => (nomatch h)⟩⟩
  | val => exact ⟨rfl, fun b => Iff.rfl⟩
  | skip => exact ⟨rfl, fun b => Iff.rfl⟩
  | guard h => exact ⟨rfl, fun b => Iff.rfl⟩
  | call => exact ⟨rfl, fun b => Iff.rfl⟩

def Fix (ops : Array Oper) (ηs : Env) (i : Nat) (s s' : SV) : Prop := if isGuard ops i then ∃ q x, boolE s = some q ∧ (q.den ηs).toB = x ∧ s' = .sc (.b x) else s' = s
def lookG (ops : Array Oper) (n : Nat) (σ : Sig) (o : Oper) (x : SV) : Prop := ∃ j b d, o.guard = some (j, b) ∧ (ops[j]?).bind (·.dst) = some d ∧ d < n ∧ look σ.t d = x
def Wants (ops : Array Oper) (n : Nat) (σ : Sig) (o : Oper) : Prop := o.guard = none ∨ ∃ j b d, o.guard = some (j, b) ∧ (ops[j]?).bind (·.dst) = some d ∧ d < n ∧ look σ.t d = .sc (.b b)
def Passes (ops : Array Oper) (n : Nat) (σ : Sig) (o : Oper) : Prop := ∃ j b d, o.guard = some (j, b) ∧ (ops[j]?).bind (·.dst) = some d ∧ d < n ∧ (look σ.t d = .und ∨ ∃ x, x ≠ b ∧ look σ.t d = .sc (.b x))
/-- Operation i, number 'pos' being where its results stand. -/
def Core (C : Ctx) (ops : Array Oper) (ηs : Env) (pos i : Nat) (o : Oper) (lab : Lab) (σ : Sig) (s : SV) (e : Eff) : Prop :=
  (Wants ops C.fn.ntmps σ o ∧ lab = labOf C.P C.sigs σ o ∧ ∃ s0, Yld C.P C.L ηs pos (sxOp C.P C.sigs σ o) s0 e ∧ Fix ops ηs i s0 s) ∨
  (Passes ops C.fn.ntmps σ o ∧ lab = ⟨[], [], []⟩ ∧ s = .und ∧ e = .keep)
def Step1 (C : Ctx) (ops : Array Oper) (ηs : Env) (pos i : Nat) (lab : Lab) (σ σ' : Sig) : Prop :=
  ∃ o s e, ops[i]? = some o ∧ Core C ops ηs pos i o lab σ s e ∧ putS C.fn.ntmps σ o.dst s (e.app σ.o) = some σ'

theorem rdIds_congr {t t' : List (Nat × SV)} {o : Oper} (ht : ∀ x ∈ slotsOf o, look t x = look t' x) : rdIds t o = rdIds t' o := by
  unfold rdIds
  split
  · have := opv_congr ht
    rw [List.flatMap_def, List.flatMap_def]
    congr 1
    exact List.map_congr_left fun x hx => by rw [this x hx]
  · rfl
theorem labOf_nw {P : Program} {sigs : Sigs} {σ : Sig} {o : Oper} (h : (labOf P sigs σ o).nw = []) : ∀ b, effOf (sxOp P sigs σ o) ≠ .push b := by
  intro b hb
  simp only [labOf, hb] at h
  cases h
theorem Core.congr {C : Ctx} {ops : Array Oper} {ηs : Env} {pos i : Nat} {o : Oper} {lab : Lab} {σ σ' : Sig} {s : SV} {e : Eff} (h : Core C ops ηs pos i o lab σ s e)
    (ht : ∀ x ∈ slotsOf o ++ guardSlot ops o, look σ.t x = look σ'.t x) (ho : ∀ id ∈ lab.rd ++ lab.wr, σ.o[id]? = σ'.o[id]?) (hn : σ.o.length = σ'.o.length ∨ lab.nw = []) : Core C ops ηs pos i o lab σ' s e := by
  have hg : ∀ j b d, o.guard = some (j, b) → (ops[j]?).bind (·.dst) = some d → look σ.t d = look σ'.t d := fun j b d h1 h2 => ht d (by simp [guardSlot, h1, h2])
  rcases h with ⟨hw, rfl, s0, hy, hf⟩ | ⟨hp, hl, hs, he⟩
  · left
    have hsl : ∀ x ∈ slotsOf o, look σ.t x = look σ'.t x := fun x hx => ht x (List.mem_append_left _ hx)
    have e1 := sxOp_congr (P := C.P) (sigs := C.sigs) hsl (fun id hid => ho id (List.mem_append_left _ hid)) (hn.imp id labOf_nw) hy.plain (fun id hid => ho id (List.mem_append_right _ hid))
    refine ⟨?_, ?_, s0, by rw [e1]; exact hy, hf⟩
    · rcases hw with hw | ⟨j, b, d, h1, h2, h3, h4⟩
      · exact .inl hw
      · exact .inr ⟨j, b, d, h1, h2, h3, by rw [← hg j b d h1 h2]; exact h4⟩
    · unfold labOf
      rw [e1, rdIds_congr hsl]
      rcases hn with hn | hn
      · rw [hn]
      · have := labOf_nw hn
        congr 1
        cases he : effOf (sxOp C.P C.sigs σ o) with
        | push b => exact absurd he (this b)
        | _ => rfl
  · right
    obtain ⟨j, b, d, h1, h2, h3, h4⟩ := hp
    exact ⟨⟨j, b, d, h1, h2, h3, by rw [← hg j b d h1 h2]; exact h4⟩, hl, hs, he⟩
/-- What an effect does, by what is noted of it. -/
def EffOk (e : Eff) (lab : Lab) (n : Nat) : Prop := lab.wr = e.wr ∧ ((∀ b, e ≠ .push b) ∧ lab.nw = [] ∨ (∃ b, e = .push b) ∧ lab.nw = [n])
theorem Core.eff {C : Ctx} {ops : Array Oper} {ηs : Env} {pos i : Nat} {o : Oper} {lab : Lab} {σ : Sig} {s : SV} {e : Eff} (h : Core C ops ηs pos i o lab σ s e) : EffOk e lab σ.o.length := by
  rcases h with ⟨hw, rfl, s0, hy, hf⟩ | ⟨hp, rfl, hs, rfl⟩
  · obtain ⟨h1, h2⟩ := hy.eff
    refine ⟨h1, ?_⟩
    simp only [labOf]
    split
    · rename_i b hb
      exact .inr ⟨⟨b, (h2 b).2 hb⟩, rfl⟩
    · rename_i hb
      exact .inl ⟨fun b he => hb b ((h2 b).1 he), rfl⟩
  · exact ⟨rfl, .inl ⟨fun b h => (nomatch h), rfl⟩⟩

theorem putS_some {n : Nat} {σ σ' : Sig} {dst : Option Nat} {s : SV} {o : List OB} (h : putS n σ dst s o = some σ') : σ'.o = o ∧ (∀ d, dst = some d → d < n) ∧ ∀ i, look σ'.t i = if dst = some i then s else look σ.t i := by
  cases dst with
  | none => simp only [putS, Option.some.injEq] at h; subst h; exact ⟨rfl, fun _ h => (nomatch h), fun i => by simp⟩
  | some d =>
    simp only [putS] at h
    split at h
    · simp only [Option.some.injEq] at h; subst h
      refine ⟨rfl, fun _ h => by injection h with h; subst h; assumption, fun i => ?_⟩
      simp only [look, Option.some.injEq]
      by_cases hi : i = d
      · subst hi; simp
      · rw [if_neg hi, if_neg (fun h => hi h.symm)]
    · cases h
theorem putS_mk {n : Nat} (σ : Sig) {dst : Option Nat} (s : SV) (o : List OB) (h : ∀ d, dst = some d → d < n) : ∃ σ', putS n σ dst s o = some σ' := by
  cases dst with
  | none => exact ⟨_, rfl⟩
  | some d => exact ⟨_, by simp only [putS]; rw [if_pos (h d rfl)]⟩

theorem slotClash_spec {ops : Array Oper} {x y : Oper} (h : slotClash ops x y = false) :
    (∀ d, x.dst = some d → d ∉ slotsOf y ++ guardSlot ops y ∧ y.dst ≠ some d) ∧ (∀ d, y.dst = some d → d ∉ slotsOf x ++ guardSlot ops x) := by
  simp only [slotClash, Bool.or_eq_false_iff] at h
  refine ⟨fun d hd => ?_, fun d hd => ?_⟩
  · have h1 := h.1
    rw [hd] at h1
    simp only [Bool.or_eq_false_iff, List.contains_eq_mem, decide_eq_false_iff_not, beq_eq_false_iff_ne] at h1
    exact ⟨by simp [h1.1.1, h1.1.2], h1.2⟩
  · have h1 := h.2
    rw [hd] at h1
    simp only [Bool.or_eq_false_iff, List.contains_eq_mem, decide_eq_false_iff_not] at h1
    simp [h1.1, h1.2]

structure NoClash (a b : Lab) : Prop where
  w1 : ∀ x ∈ a.wr, x ∉ b.rd ∧ x ∉ b.wr
  w2 : ∀ x ∈ b.wr, x ∉ a.rd
  n1 : ∀ x ∈ a.nw, x ∉ b.rd ∧ x ∉ b.wr
  n2 : ∀ x ∈ b.nw, x ∉ a.rd ∧ x ∉ a.wr
  nn : a.nw = [] ∨ b.nw = []
theorem clash_spec {a b : Lab} (h : a.clash b = false) : NoClash a b := by
  simp only [Lab.clash, Bool.or_eq_false_iff, List.any_eq_false, List.contains_eq_mem, decide_eq_true_eq, Bool.or_eq_true, not_or, Bool.and_eq_false_iff, Bool.not_eq_false', List.isEmpty_iff] at h
  exact ⟨h.1.1.1.1, h.1.1.1.2, h.1.1.2, h.1.2, h.2⟩

theorem app_get {e : Eff} {o : List OB} {lab : Lab} (he : EffOk e lab o.length) {id : Nat} (h1 : id ∉ lab.wr) (h2 : id ∉ lab.nw) : (e.app o)[id]? = o[id]? := by
  obtain ⟨hw, hn⟩ := he
  rw [hw] at h1
  cases e with
  | keep => rfl
  | set j b => exact List.getElem?_set_ne (fun e => h1 (by simp [Eff.wr, e]))
  | sets ids bs => exact setAll_out ids o bs id h1
  | push b =>
    rcases hn with ⟨hn, _⟩ | ⟨_, hn⟩
    · exact absurd rfl (hn b)
    rw [hn] at h2
    simp only [Eff.app]
    by_cases hl : id < o.length
    · exact List.getElem?_append_left hl
    · rw [List.getElem?_eq_none (by simp; have : id ≠ o.length := fun e => h2 (by simp [e]); omega), List.getElem?_eq_none (by omega)]
theorem app_len {e : Eff} {o : List OB} {lab : Lab} (he : EffOk e lab o.length) : (e.app o).length = o.length ∨ (lab.nw = [o.length] ∧ (e.app o).length = o.length + 1) := by
  obtain ⟨hw, hn⟩ := he
  cases e with
  | keep => exact .inl rfl
  | set j b => exact .inl (by simp [Eff.app])
  | sets ids bs => exact .inl (setAll_length ids o bs)
  | push b =>
    rcases hn with ⟨hn, _⟩ | ⟨_, hn⟩
    · exact absurd rfl (hn b)
    · exact .inr ⟨hn, by simp [Eff.app]⟩
theorem setAll_set {α : Type} : ∀ (ids : List Nat) (o bs : List α) (x : Nat) (b : α), x ∉ ids → setAll (o.set x b) ids bs = (setAll o ids bs).set x b
  | [], o, bs, x, b, _ => by simp [setAll]
  | id :: ids, o, [], x, b, _ => by simp [setAll]
  | id :: ids, o, c :: bs, x, b, h => by
    simp only [List.mem_cons, not_or] at h
    simp only [setAll]
    rw [List.set_comm _ _ h.1, setAll_set ids _ bs x b h.2]
theorem setAll_setAll {α : Type} : ∀ (ids : List Nat) (o bs : List α) (ids' : List Nat) (bs' : List α), (∀ x ∈ ids, x ∉ ids') → setAll (setAll o ids bs) ids' bs' = setAll (setAll o ids' bs') ids bs
  | [], o, bs, ids', bs', _ => by simp [setAll]
  | id :: ids, o, [], ids', bs', _ => by simp [setAll]
  | id :: ids, o, c :: bs, ids', bs', h => by
    simp only [setAll]
    rw [setAll_setAll ids _ bs ids' bs' fun x hx => h x (List.mem_cons_of_mem _ hx), setAll_set ids' o bs' id c (h id (List.mem_cons_self ..))]
theorem setAll_push {α : Type} : ∀ (ids : List Nat) (o bs : List α) (b : α), (∀ x ∈ ids, x ≠ o.length) → setAll (o ++ [b]) ids bs = setAll o ids bs ++ [b]
  | [], o, bs, b, _ => by simp [setAll]
  | id :: ids, o, [], b, _ => by simp [setAll]
  | id :: ids, o, c :: bs, b, h => by
    simp only [setAll]
    have h0 := h id (List.mem_cons_self ..)
    have e : (o ++ [b]).set id c = o.set id c ++ [b] := by
      by_cases hl : id < o.length
      · exact List.set_append_left _ _ hl
      · rw [List.set_eq_of_length_le (by simp; omega), List.set_eq_of_length_le (by omega)]
    rw [e, setAll_push ids _ bs b fun x hx => by rw [List.length_set]; exact h x (List.mem_cons_of_mem _ hx)]
/-- Two effects that do not clash may change places. -/
theorem app_comm {e f : Eff} {o : List OB} (h1 : ∀ x ∈ e.wr, x ∉ f.wr) (h2 : ∀ b, e = .push b → o.length ∉ f.wr) (h3 : ∀ b, f = .push b → o.length ∉ e.wr) (h4 : ∀ b b', ¬ (e = .push b ∧ f = .push b')) : f.app (e.app o) = e.app (f.app o) := by
  have hset : ∀ (o : List OB) (x : Nat) b b', x ≠ o.length → (o ++ [b]).set x b' = o.set x b' ++ [b] := fun o x b b' hx => by
    by_cases hl : x < o.length
    · exact List.set_append_left _ _ hl
    · rw [List.set_eq_of_length_le (by simp; omega), List.set_eq_of_length_le (by omega)]
  cases e with
  | keep => rfl
  | set x b =>
    cases f with
    | keep => rfl
    | set y b' => exact List.set_comm _ _ fun e => h1 x (by simp [Eff.wr]) (by simp [Eff.wr, e])
    | push b' => exact (hset o x b' b fun e => h3 b' rfl (by simp [Eff.wr, e])).symm
    | sets ids bs => exact setAll_set ids o bs x b (h1 x (by simp [Eff.wr]))
  | push b =>
    cases f with
    | keep => rfl
    | set y b' => exact hset o y b b' fun e => h2 b rfl (by simp [Eff.wr, e])
    | push b' => exact absurd ⟨rfl, rfl⟩ (h4 b b')
    | sets ids bs => exact setAll_push ids o bs b fun x hx e => h2 b rfl (by rw [← e]; exact hx)
  | sets ids bs =>
    cases f with
    | keep => rfl
    | set y b' => exact (setAll_set ids o bs y b' fun hy => h1 y hy (by simp [Eff.wr])).symm
    | push b' => exact (setAll_push ids o bs b' fun x hx e => h3 b' rfl (by rw [← e]; exact hx)).symm
    | sets ids' bs' => exact setAll_setAll ids o bs ids' bs' h1

theorem swap {C : Ctx} {ops : Array Oper} {ηs : Env} {pa pb a b : Nat} {la lb : Lab} {σ σ1 σ2 : Sig} {oa ob : Oper} (ha : ops[a]? = some oa) (hb : ops[b]? = some ob)
    (h1 : Step1 C ops ηs pa a la σ σ1) (h2 : Step1 C ops ηs pb b lb σ1 σ2) (hs : slotClash ops oa ob = false) (hc : la.clash lb = false) :
    ∃ σ1' σ2', Step1 C ops ηs pb b lb σ σ1' ∧ Step1 C ops ηs pa a la σ1' σ2' ∧ σ2'.Eqv σ2 := by
  obtain ⟨oa', sa, ea, ha', ca, hpa⟩ := h1
  obtain ⟨ob', sb, eb, hb', cb, hpb⟩ := h2
  rw [ha] at ha'; injection ha' with ha'; subst ha'
  rw [hb] at hb'; injection hb' with hb'; subst hb'
  obtain ⟨s1, s2⟩ := slotClash_spec hs
  have hc := clash_spec hc
  obtain ⟨o1, d1, l1⟩ := putS_some hpa
  obtain ⟨o2, d2, l2⟩ := putS_some hpb
  have fa := ca.eff
  have fb := cb.eff
  -- b at σ
  have cb' : Core C ops ηs pb b ob lb σ sb eb := by
    refine cb.congr (fun x hx => ?_) (fun id hid => ?_) ?_
    · rw [l1]
      rw [if_neg]
      intro hd
      exact (s1 x hd).1 hx
    · rw [o1]
      rcases List.mem_append.1 hid with hid | hid
      · exact app_get fa (fun h => (hc.w1 _ h).1 hid) (fun h => (hc.n1 _ h).1 hid)
      · exact app_get fa (fun h => (hc.w1 _ h).2 hid) (fun h => (hc.n1 _ h).2 hid)
    · rw [o1]
      rcases app_len fa with h | ⟨h, _⟩
      · exact .inl h
      · right
        rcases hc.nn with h' | h'
        · rw [h] at h'; cases h'
        · exact h'
  have fb' := cb'.eff
  obtain ⟨σ1', hp1⟩ := putS_mk (n := C.fn.ntmps) σ sb (eb.app σ.o) d2
  obtain ⟨o3, _, l3⟩ := putS_some hp1
  have ca' : Core C ops ηs pa a oa la σ1' sa ea := by
    refine ca.congr (fun x hx => ?_) (fun id hid => ?_) ?_
    · rw [l3, if_neg]
      intro hd
      exact s2 x hd hx
    · rw [o3]
      rcases List.mem_append.1 hid with hid | hid
      · exact (app_get fb' (fun h => hc.w2 _ h hid) (fun h => (hc.n2 _ h).1 hid)).symm
      · exact (app_get fb' (fun h => (hc.w1 _ hid).2 h) (fun h => (hc.n2 _ h).2 hid)).symm
    · rw [o3]
      rcases app_len fb' with h | ⟨h, _⟩
      · exact .inl h.symm
      · right
        rcases hc.nn with h' | h'
        · exact h'
        · rw [h] at h'; cases h'
  obtain ⟨σ2', hp2⟩ := putS_mk (n := C.fn.ntmps) σ1' sa (ea.app σ1'.o) d1
  obtain ⟨o4, _, l4⟩ := putS_some hp2
  refine ⟨σ1', σ2', ⟨ob, sb, eb, hb, cb', hp1⟩, ⟨oa, sa, ea, ha, ca', hp2⟩, fun i => ?_, ?_⟩
  · rw [l4, l3, l2, l1]
    by_cases h1 : oa.dst = some i
    · rw [if_pos h1, if_neg (s1 i h1).2, if_pos h1]
    · rw [if_neg h1, if_neg h1]
  · rw [o4, o3, o2, o1]
    refine (app_comm (fun x hx => ?_) (fun b hb => ?_) (fun b hb => ?_) (fun b b' hbb => ?_)).symm
    · rw [← fa.1] at hx; rw [← fb'.1]; exact (hc.w1 x hx).2
    · rw [← fb'.1]
      rcases fa.2 with ⟨h, _⟩ | ⟨_, h⟩
      · exact absurd hb (h b)
      · exact (hc.n1 _ (by rw [h]; simp)).2
    · rw [← fa.1]
      rcases fb'.2 with ⟨h, _⟩ | ⟨_, h⟩
      · exact absurd hb (h b)
      · exact (hc.n2 _ (by rw [h]; simp)).2
    · rcases fa.2 with ⟨h, _⟩ | ⟨_, h⟩
      · exact h b hbb.1
      rcases fb'.2 with ⟨h', _⟩ | ⟨_, h'⟩
      · exact h' b' hbb.2
      rcases hc.nn with hn | hn
      · rw [h] at hn; cases hn
      · rw [h'] at hn; cases hn
end Fw
