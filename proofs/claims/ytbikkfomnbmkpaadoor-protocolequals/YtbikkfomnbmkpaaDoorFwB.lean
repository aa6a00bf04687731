import Derived.Test.YtbikkfomnbmkpaaDoorFwA
namespace Fw
open Go Go.RowKit

/-! ### 3. What is known of a frame -/
inductive SV where
  | un
  | nils
  | sc (e : E)
  | agg (xs : List SV)
  | tup (xs : List SV)
  | rp (cs : List SV)
  | ptr (id off : Nat)
  | fn (g : Nat) (caps : List SV)
  | gro (id : Nat) (e : E)
  | mayB (e : E)
  | und
  | pnil
  | sp (id : Nat) (e : E)
  deriving Inhabited
inductive OB where
  | box (t : Nat) (cs : List SV)
  | tok (t sz : Nat) (e : E)
  | iter (x p : E)
  deriving Inhabited
structure Sig where
  t : List (Nat × SV)
  o : List OB
  deriving Inhabited
def look : List (Nat × SV) → Nat → SV
  | [], _ => .un
  | (j, s) :: r, i => if i = j then s else look r i

/-- The call's own blocks. -/
inductive CO where
  | blk (b : Nat)
  | tk (x : Option (Nat × Nat × Nat × Nat))   -- block, length, capacity, cells of an element
def CO.block? : CO → Option Nat
  | .blk b => some b
  | .tk x => x.map (·.1)
def CO.covers (b o : Nat) : CO → Prop
  | .blk b' => b = b'
  | .tk none => False
  | .tk (some (b', len, _, sz)) => b = b' ∧ len * sz ≤ o
def tkLen : Option (Nat × Nat × Nat × Nat) → Nat
  | none => 0
  | some (_, len, _, _) => len
def tkVal : Option (Nat × Nat × Nat × Nat) → Value
  | none => .slice none 0 0
  | some (b, len, cap, _) => .slice (some ⟨b, 0, none⟩) len cap
def excl (ρ : List CO) (b o : Nat) : Prop := ∃ c ∈ ρ, c.covers b o
structure Base where
  w : World
  fp : Nat → Prop
structure Cx where
  ok0 : Ok
  b0 : Base
  η : Env
  ρ : List CO
  w : World
abbrev Cx.w0 (c : Cx) : World := c.b0.w
abbrev Cx.fp (c : Cx) : Nat → Prop := c.b0.fp
def Base.mine (b0 : Base) (b : Nat) : Prop := b0.w.heap.size ≤ b ∨ b0.fp b
abbrev Cx.mine (c : Cx) (b : Nat) : Prop := c.b0.mine b
theorem Cx.mine_new {c : Cx} {b : Nat} (h : c.w0.heap.size ≤ b) : c.mine b := .inl h
theorem Cx.not_mine {c : Cx} {b k : Nat} (hb : c.mine b) (hk : k < c.w0.heap.size) (hf : ¬ c.fp k) : k ≠ b := by
  rintro rfl
  rcases hb with h | h
  · exact absurd hk (Nat.not_lt.2 h)
  · exact hf h
def Cx.ok (c : Cx) : Ok := fun b o => (c.ok0 b o ∨ c.mine b) ∧ ¬ excl c.ρ b o

mutual
def SVR (c : Cx) : SV → Value → Prop
  | .un, _ => True
  | .nils, v => v = .slice none 0 0
  | .sc e, v => e.bd c.η.length = true ∧ VR c.ok c.w e.ty (e.den c.η) v
  | .agg xs, v => ∃ us, v = .agg us ∧ SVRs c xs us.toList
  | .tup xs, v => ∃ us, v = .tuple us ∧ SVRs c xs us.toList
  | .rp cs, v => ∃ a us, v = .pointer (some a) ∧ SVRs c cs us ∧ ∀ i u, us[i]? = some u → ¬ excl c.ρ (a.add i).block (a.add i).off ∧ c.w.cell? (a.add i) = some u
  | .ptr id off, v => ∃ b, c.ρ[id]? = some (.blk b) ∧ v = .pointer (some ⟨b, off, none⟩)
  | .fn g caps, v => ∃ us, v = .func (.func g) #[] us ∧ SVRs c caps us.toList
  | .und, v => v = undef
  | .pnil, v => v = .pointer none
  | .sp id e, v => e.bd c.η.length = true ∧ ∃ b x, c.ρ[id]? = some (.blk b) ∧ e.den c.η = .bool x ∧ v = .pointer (if x then some ⟨b, 0, none⟩ else none)
  | .mayB e, v => e.bd c.η.length = true ∧ ∃ b, v = .bool b ∧ (b = true → (e.den c.η).toB = true)
  | .gro id e, v => e.bd c.η.length = true ∧ VR c.ok c.w e.ty (e.den c.η) v ∧ ∃ x, c.ρ[id]? = some (.tk x) ∧
      (e.den c.η).toL.length ≤ tkLen x ∧ ((e.den c.η).toL.length = tkLen x → v = tkVal x)
def SVRs (c : Cx) : List SV → List Value → Prop
  | [], vs => vs = []
  | s :: ss, vs => ∃ v vs', vs = v :: vs' ∧ SVR c s v ∧ SVRs c ss vs'
end

def SV.cellable : SV → Bool
  | .un | .agg _ | .tup _ | .mayB _ | .und => false
  | _ => true
theorem SVR.cellable {c : Cx} {s : SV} {v : Value} (h : SVR c s v) (hs : s.cellable = true) : v.oneCell' = true ∧ v.cells = #[v] := by
  cases s <;> simp [SV.cellable] at hs <;> simp only [SVR] at h
  · subst h; exact ⟨rfl, rfl⟩
  · exact h.2.one
  · obtain ⟨a, us, rfl, _⟩ := h; exact ⟨rfl, rfl⟩
  · obtain ⟨b, _, rfl⟩ := h; exact ⟨rfl, rfl⟩
  · obtain ⟨us, rfl, _⟩ := h; exact ⟨rfl, rfl⟩
  · exact h.2.1.one
  · subst h; exact ⟨rfl, rfl⟩
  · obtain ⟨_, b, x, _, _, rfl⟩ := h; exact ⟨rfl, rfl⟩

theorem SVRs.length {c : Cx} : ∀ {ss : List SV} {vs : List Value}, SVRs c ss vs → vs.length = ss.length
  | [], _, h => by simp only [SVRs] at h; subst h; rfl
  | _ :: _, _, h => by
    simp only [SVRs] at h
    obtain ⟨v, vs', rfl, _, h⟩ := h
    simp [SVRs.length h]
theorem SVRs.get {c : Cx} : ∀ {ss : List SV} {vs : List Value}, SVRs c ss vs → ∀ {i : Nat} {s : SV}, ss[i]? = some s → ∃ v, vs[i]? = some v ∧ SVR c s v
  | [], _, h, i, s, hs => by simp at hs
  | s0 :: ss, _, h, i, s, hs => by
    simp only [SVRs] at h
    obtain ⟨v, vs', rfl, h1, h2⟩ := h
    cases i with
    | zero => simp at hs; subst hs; exact ⟨v, rfl, h1⟩
    | succ i => simpa using SVRs.get h2 (by simpa using hs)
theorem SVRs.get' {c : Cx} : ∀ {ss : List SV} {vs : List Value}, SVRs c ss vs → ∀ {i : Nat} {v : Value}, vs[i]? = some v → ∃ s, ss[i]? = some s ∧ SVR c s v
  | [], _, h, i, s, hs => by simp only [SVRs] at h; subst h; simp at hs
  | s0 :: ss, _, h, i, s, hs => by
    simp only [SVRs] at h
    obtain ⟨v, vs', rfl, h1, h2⟩ := h
    cases i with
    | zero => simp at hs; subst hs; exact ⟨s0, rfl, h1⟩
    | succ i => simpa using SVRs.get' h2 (by simpa using hs)
theorem SVRs.of_get {c : Cx} : ∀ {ss : List SV} {vs : List Value}, vs.length = ss.length → (∀ (i : Nat) (s : SV) (v : Value), ss[i]? = some s → vs[i]? = some v → SVR c s v) → SVRs c ss vs
  | [], vs, hl, _ => by simp only [SVRs]; exact List.length_eq_zero_iff.1 hl
  | s :: ss, [], hl, _ => by simp at hl
  | s :: ss, v :: vs, hl, h => by
    simp only [SVRs]
    exact ⟨v, vs, rfl, h 0 s v rfl rfl, SVRs.of_get (by simpa using hl) fun i s' v' h1 h2 => h (i + 1) s' v' (by simpa using h1) (by simpa using h2)⟩
theorem SVRs.append {c : Cx} : ∀ {ss : List SV} {vs : List Value} {ss' vs'}, SVRs c ss vs → SVRs c ss' vs' → SVRs c (ss ++ ss') (vs ++ vs')
  | [], _, _, _, h, h' => by simp only [SVRs] at h; subst h; exact h'
  | _ :: _, _, _, _, h, h' => by
    simp only [SVRs] at h
    obtain ⟨v, vs2, rfl, h1, h2⟩ := h
    simp only [List.cons_append, SVRs]
    exact ⟨v, _, rfl, h1, SVRs.append h2 h'⟩
theorem SVRs.drop {c : Cx} {ss : List SV} {vs : List Value} (h : SVRs c ss vs) (n : Nat) : SVRs c (ss.drop n) (vs.drop n) :=
  .of_get (by simp [h.length]) fun i s v hs hv => by
    simp only [List.getElem?_drop] at hs hv
    obtain ⟨u, hu, hr⟩ := h.get hs
    rw [hu] at hv; injection hv with hv; subst hv; exact hr
theorem SVRs.take {c : Cx} {ss : List SV} {vs : List Value} (h : SVRs c ss vs) (n : Nat) : SVRs c (ss.take n) (vs.take n) :=
  .of_get (by simp [h.length]) fun i s v hs hv => by
    rw [List.getElem?_take] at hs hv
    split at hs
    · rename_i hi
      rw [if_pos hi] at hv
      obtain ⟨u, hu, hr⟩ := h.get hs
      rw [hu] at hv; injection hv with hv; subst hv; exact hr
    · cases hs

/-- The state goes on: a longer environment, further blocks of the call's own, a later world. -/
structure Cx.le (c c' : Cx) : Prop where
  η : ∃ xs, c'.η = c.η ++ xs
  ρ : ∀ (id b : Nat), c.ρ[id]? = some (.blk b) → c'.ρ[id]? = some (.blk b)
  tk : ∀ (id : Nat) x, c.ρ[id]? = some (.tk x) → ∃ x', c'.ρ[id]? = some (.tk x') ∧ (x' = x ∨ tkLen x < tkLen x')
  keeps : Keeps c.ok c'.ok c.w c'.w
  raw : ∀ a : Addr, ∀ u, ¬ excl c.ρ a.block a.off → c.w.cell? a = some u → ¬ excl c'.ρ a.block a.off ∧ c'.w.cell? a = some u

mutual
theorem SVR.le {c c' : Cx} (h : c.le c') : ∀ (s : SV) (v : Value), SVR c s v → SVR c' s v
  | .un, _, _ => by simp only [SVR]
  | .nils, _, hs => by simpa only [SVR] using hs
  | .sc e, v, hs => by
    simp only [SVR] at hs ⊢
    obtain ⟨xs, hx⟩ := h.η
    refine ⟨E.bd_mono (by rw [hx]; simp) e hs.1, ?_⟩
    rw [hx, E.den_ext _ _ e hs.1]
    exact VR.keeps h.keeps _ _ _ hs.2
  | .agg xs, v, hs => by
    simp only [SVR] at hs ⊢
    obtain ⟨us, rfl, h1⟩ := hs
    exact ⟨us, rfl, SVRs.le h xs _ h1⟩
  | .tup xs, v, hs => by
    simp only [SVR] at hs ⊢
    obtain ⟨us, rfl, h1⟩ := hs
    exact ⟨us, rfl, SVRs.le h xs _ h1⟩
  | .rp cs, v, hs => by
    simp only [SVR] at hs ⊢
    obtain ⟨a, us, rfl, h1, h2⟩ := hs
    exact ⟨a, us, rfl, SVRs.le h cs _ h1, fun i u hu => h.raw _ _ (h2 i u hu).1 (h2 i u hu).2⟩
  | .ptr id off, v, hs => by
    simp only [SVR] at hs ⊢
    obtain ⟨b, hb, rfl⟩ := hs
    exact ⟨b, h.ρ _ _ hb, rfl⟩
  | .fn g caps, v, hs => by
    simp only [SVR] at hs ⊢
    obtain ⟨us, rfl, h1⟩ := hs
    exact ⟨us, rfl, SVRs.le h caps _ h1⟩
  | .und, v, hs => by simpa only [SVR] using hs
  | .pnil, v, hs => by simpa only [SVR] using hs
  | .sp id e, v, hs => by
    simp only [SVR] at hs ⊢
    obtain ⟨hb, b, x, h1, h2, hv⟩ := hs
    obtain ⟨xs, hx⟩ := h.η
    exact ⟨E.bd_mono (by rw [hx]; simp) e hb, b, x, h.ρ _ _ h1, by rw [hx, E.den_ext _ _ e hb]; exact h2, hv⟩
  | .mayB e, v, hs => by
    simp only [SVR] at hs ⊢
    obtain ⟨hb, b, hv, hi⟩ := hs
    obtain ⟨xs, hx⟩ := h.η
    exact ⟨E.bd_mono (by rw [hx]; simp) e hb, b, hv, by rw [hx, E.den_ext _ _ e hb]; exact hi⟩
  | .gro id e, v, hs => by
    simp only [SVR] at hs ⊢
    obtain ⟨hb, hv, x, hx, he, hf⟩ := hs
    obtain ⟨xs, hxs⟩ := h.η
    obtain ⟨x', hx', hxx⟩ := h.tk _ _ hx
    refine ⟨E.bd_mono (by rw [hxs]; simp) e hb, ?_, x', hx', ?_⟩
    · rw [hxs, E.den_ext _ _ e hb]
      exact VR.keeps h.keeps _ _ _ hv
    · rw [hxs, E.den_ext _ _ e hb]
      rcases hxx with rfl | hxx
      · exact ⟨he, hf⟩
      · exact ⟨by omega, fun h => by omega⟩
theorem SVRs.le {c c' : Cx} (h : c.le c') : ∀ (ss : List SV) (vs : List Value), SVRs c ss vs → SVRs c' ss vs
  | [], _, hs => by simpa only [SVRs] using hs
  | s :: ss, vs, hs => by
    simp only [SVRs] at hs ⊢
    obtain ⟨v, vs', rfl, h1, h2⟩ := hs
    exact ⟨v, vs', rfl, SVR.le h s v h1, SVRs.le h ss vs' h2⟩
end

def ORel (c : Cx) : OB → CO → Prop
  | .box t cs, .blk b => c.mine b ∧ ∃ arr, c.w.heap[b]? = some (.cells arr t (0, 0)) ∧ SVRs c cs arr.toList
  | .iter x p, .blk b => x.bd c.η.length = true ∧ p.bd c.η.length = true ∧ c.mine b ∧ ∃ (s : ByteArray) (n : Nat), x.den c.η = .str s ∧ p.den c.η = .int .i64 n ∧ c.w.heap[b]? = some (.stringIter s n)
  | .tok t sz e, .tk x => e.bd c.η.length = true ∧ (e.den c.η).toL.length = tkLen x ∧ match x with
    | none => True
    | some (b, len, cap, sz') => sz' = sz ∧ c.mine b ∧ len ≤ cap ∧ ∃ arr fr, c.w.heap[b]? = some (.cells arr t fr) ∧ fr.2 ≤ len * sz ∧ arr.size = cap * sz
  | _, _ => False

theorem ORel.le {c c' : Cx} {ob : OB} {co : CO} (h : ORel c ob co) (hl : c.le c') (hw0 : c'.b0 = c.b0) (hb : ∀ b, co.block? = some b → c'.w.heap[b]? = c.w.heap[b]?) : ORel c' ob co := by
  cases ob with
  | box bt cs =>
    cases co with
    | blk b =>
      simp only [ORel] at h ⊢
      obtain ⟨h1, arr, h3, h4⟩ := h
      exact ⟨by rw [Cx.mine, hw0]; exact h1, arr, by rw [hb _ rfl]; exact h3, SVRs.le hl _ _ h4⟩
    | tk x => simp only [ORel] at h
  | tok tt sz e =>
    cases co with
    | blk b => simp only [ORel] at h
    | tk x =>
      simp only [ORel] at h ⊢
      obtain ⟨h1, h2, h3⟩ := h
      obtain ⟨xs, hxs⟩ := hl.η
      refine ⟨E.bd_mono (by rw [hxs]; simp) e h1, by rw [hxs, E.den_ext _ _ e h1]; exact h2, ?_⟩
      cases x with
      | none => trivial
      | some x =>
        obtain ⟨b, len, cap, sz'⟩ := x
        simp only at h3 ⊢
        rw [Cx.mine, hw0, hb _ rfl]; exact h3
  | iter x p =>
    cases co with
    | blk b =>
      simp only [ORel] at h ⊢
      obtain ⟨h1, h2, h3, s, n, h4, h5, h6⟩ := h
      obtain ⟨xs, hxs⟩ := hl.η
      refine ⟨E.bd_mono (by rw [hxs]; simp) x h1, E.bd_mono (by rw [hxs]; simp) p h2, by rw [Cx.mine, hw0]; exact h3, s, n, ?_, ?_, by rw [hb _ rfl]; exact h6⟩
      · rw [hxs, E.den_ext _ _ x h1]; exact h4
      · rw [hxs, E.den_ext _ _ p h2]; exact h5
    | tk x => simp only [ORel] at h

structure Rel (c : Cx) (n : Nat) (σ : Sig) (a : Act) : Prop where
  defers : a.defers = []
  size : a.tmps.size = n
  tmps : ∀ i, SVR c (look σ.t i) (a.tmps.getD i undef)
  olen : σ.o.length = c.ρ.length
  own : ∀ (id : Nat) (ob : OB) (co : CO), σ.o[id]? = some ob → c.ρ[id]? = some co → ORel c ob co
  dist : ∀ (i j : Nat) (ci cj : CO) (bi bj : Nat), i ≠ j → c.ρ[i]? = some ci → c.ρ[j]? = some cj → ci.block? = some bi → cj.block? = some bj → bi ≠ bj
  below : Kept c.fp c.w0 c.w

/-- A slot known by what it holds. -/
theorem Rel.withTmp {c : Cx} {n : Nat} {σ : Sig} {a : Act} (h : Rel c n σ a) (d : Nat) {s : SV} (hs : SVR c s (a.tmps.getD d undef)) :
    Rel c n { σ with t := (d, s) :: σ.t } a where
  defers := h.defers
  size := h.size
  tmps := fun i => by
    simp only [look]
    by_cases hi : i = d
    · subst hi; rw [if_pos rfl]; exact hs
    · rw [if_neg hi]; exact h.tmps i
  olen := h.olen
  own := h.own
  dist := h.dist
  below := h.below

theorem Rel.put {c : Cx} {n : Nat} {σ : Sig} {a : Act} (h : Rel c n σ a) {d : Nat} (hd : d < n) {s : SV} {v : Value} (hs : SVR c s v) :
    Rel c n { σ with t := (d, s) :: σ.t } (a.put (some d) v) where
  defers := h.defers
  size := by simp [Act.put, h.size]
  tmps := fun i => by
    simp only [look, Act.put]
    by_cases hi : i = d
    · subst hi
      rw [if_pos rfl]
      have : (a.tmps.setIfInBounds i v).getD i undef = v := by simp [Array.getD_eq_getD_getElem?, h.size, hd]
      rw [this]; exact hs
    · rw [if_neg hi]
      have : (a.tmps.setIfInBounds d v).getD i undef = a.tmps.getD i undef := by
        simp [Array.getD_eq_getD_getElem?, Array.getElem?_setIfInBounds_ne (Ne.symm hi)]
      rw [this]; exact h.tmps i
  olen := h.olen
  own := h.own
  dist := h.dist
  below := h.below

theorem Rel.putU {c : Cx} {n : Nat} {σ : Sig} {a : Act} (h : Rel c n σ a) (d : Nat) (v : Value) :
    Rel c n { σ with t := (d, .un) :: σ.t } (a.put (some d) v) where
  defers := h.defers
  size := by simp [Act.put, h.size]
  tmps := fun i => by
    simp only [look, Act.put]
    by_cases hi : i = d
    · subst hi; rw [if_pos rfl]; simp only [SVR]
    · rw [if_neg hi]
      have : (a.tmps.setIfInBounds d v).getD i undef = a.tmps.getD i undef := by
        simp [Array.getD_eq_getD_getElem?, Array.getElem?_setIfInBounds_ne (Ne.symm hi)]
      rw [this]; exact h.tmps i
  olen := h.olen
  own := h.own
  dist := h.dist
  below := h.below

/-- The frame goes on in a later world. -/
theorem Rel.le {c c' : Cx} {n : Nat} {σ σ' : Sig} {a : Act} (h : Rel c n σ a) (hl : c.le c') (ht : σ'.t = σ.t) (ho : σ'.o.length = c'.ρ.length)
    (own : ∀ (id : Nat) (ob : OB) (co : CO), σ'.o[id]? = some ob → c'.ρ[id]? = some co → ORel c' ob co)
    (dist : ∀ (i j : Nat) (ci cj : CO) (bi bj : Nat), i ≠ j → c'.ρ[i]? = some ci → c'.ρ[j]? = some cj → ci.block? = some bi → cj.block? = some bj → bi ≠ bj)
    (below : Kept c'.fp c'.w0 c'.w) : Rel c' n σ' a where
  defers := h.defers
  size := h.size
  tmps := fun i => by rw [ht]; exact SVR.le hl _ _ (h.tmps i)
  olen := ho
  own := own
  dist := dist
  below := below

theorem ORel.block {c : Cx} {ob : OB} {co : CO} (h : ORel c ob co) {b : Nat} (hb : co.block? = some b) : c.mine b ∧ b < c.w.heap.size := by
  cases ob with
  | box bt cs =>
    cases co with
    | blk b' =>
      simp only [CO.block?, Option.some.injEq] at hb; subst hb
      simp only [ORel] at h
      obtain ⟨h1, arr, h2, _⟩ := h
      exact ⟨h1, (Array.getElem?_eq_some_iff.1 h2).1⟩
    | tk x => simp only [ORel] at h
  | tok tt sz e =>
    cases co with
    | blk b' => simp only [ORel] at h
    | tk x =>
      cases x with
      | none => simp [CO.block?] at hb
      | some x =>
        obtain ⟨b', len, cap, sz'⟩ := x
        simp only [CO.block?, Option.map_some, Option.some.injEq] at hb; subst hb
        simp only [ORel] at h
        obtain ⟨_, _, _, h1, _, arr, fr, h2, _⟩ := h
        exact ⟨h1, (Array.getElem?_eq_some_iff.1 h2).1⟩
  | iter x p =>
    cases co with
    | blk b' =>
      simp only [CO.block?, Option.some.injEq] at hb; subst hb
      simp only [ORel] at h
      obtain ⟨_, _, h1, s, n, _, _, h2⟩ := h
      exact ⟨h1, (Array.getElem?_eq_some_iff.1 h2).1⟩
    | tk x => simp only [ORel] at h

theorem Rel.blockOf {c : Cx} {n : Nat} {σ : Sig} {a : Act} (h : Rel c n σ a) {x : CO} (hx : x ∈ c.ρ) {b : Nat} (hb : x.block? = some b) : c.mine b ∧ b < c.w.heap.size := by
  obtain ⟨i, hi⟩ := List.getElem?_of_mem hx
  have hlt : i < c.ρ.length := (List.getElem?_eq_some_iff.1 hi).1
  have hi' : σ.o[i]? = some (σ.o[i]'(by have := h.olen; omega)) := List.getElem?_eq_getElem _
  exact (h.own i _ _ hi' hi).block hb
theorem CO.covers_block {x : CO} {b o : Nat} (h : x.covers b o) : x.block? = some b := by
  cases x with
  | blk b' => simp only [CO.covers] at h; subst h; rfl
  | tk y =>
    cases y with
    | none => simp only [CO.covers] at h
    | some y => obtain ⟨b', len, cap, sz⟩ := y; simp only [CO.covers] at h; obtain ⟨rfl, _⟩ := h; rfl
theorem Rel.excl_block {c : Cx} {n : Nat} {σ : Sig} {a : Act} (h : Rel c n σ a) {b o : Nat} (he : excl c.ρ b o) : c.mine b ∧ b < c.w.heap.size := by
  obtain ⟨x, hx, hc⟩ := he
  exact h.blockOf hx (CO.covers_block hc)

/-- The call's own blocks, as they are told. -/
structure Own (c : Cx) (os : List OB) : Prop where
  olen : os.length = c.ρ.length
  own : ∀ (id : Nat) (ob : OB) (co : CO), os[id]? = some ob → c.ρ[id]? = some co → ORel c ob co
  dist : ∀ (i j : Nat) (ci cj : CO) (bi bj : Nat), i ≠ j → c.ρ[i]? = some ci → c.ρ[j]? = some cj → ci.block? = some bi → cj.block? = some bj → bi ≠ bj
/-- What lasts, whatever the environment. -/
structure LeM (c c' : Cx) : Prop where
  ρ : ∀ (id b : Nat), c.ρ[id]? = some (.blk b) → c'.ρ[id]? = some (.blk b)
  tk : ∀ (id : Nat) x, c.ρ[id]? = some (.tk x) → ∃ x', c'.ρ[id]? = some (.tk x') ∧ (x' = x ∨ tkLen x < tkLen x')
  keeps : Keeps c.ok c'.ok c.w c'.w
  raw : ∀ a : Addr, ∀ u, ¬ excl c.ρ a.block a.off → c.w.cell? a = some u → ¬ excl c'.ρ a.block a.off ∧ c'.w.cell? a = some u
theorem LeM.refl (c : Cx) : LeM c c := ⟨fun _ _ h => h, fun _ x h => ⟨x, h, .inl rfl⟩, fun _ _ h1 h2 => ⟨h1, h2⟩, fun _ _ h1 h2 => ⟨h1, h2⟩⟩
theorem LeM.trans {a b c : Cx} (h : LeM a b) (k : LeM b c) : LeM a c where
  ρ := fun id x hx => k.ρ id x (h.ρ id x hx)
  tk := fun id x hx => by
    obtain ⟨x', h1, h2⟩ := h.tk id x hx
    obtain ⟨x'', h3, h4⟩ := k.tk id x' h1
    refine ⟨x'', h3, ?_⟩
    rcases h2 with rfl | h2 <;> rcases h4 with rfl | h4
    · exact .inl rfl
    · exact .inr h4
    · exact .inr h2
    · exact .inr (Nat.lt_trans h2 h4)
  keeps := h.keeps.trans k.keeps
  raw := fun ad u h1 h2 => by
    obtain ⟨h3, h4⟩ := h.raw ad u h1 h2
    exact k.raw ad u h3 h4
theorem Cx.le.m {c c' : Cx} (h : c.le c') : LeM c c' := ⟨h.ρ, h.tk, h.keeps, h.raw⟩
theorem LeM.len {c c' : Cx} (h : LeM c c') : c.ρ.length ≤ c'.ρ.length := by
  rcases Nat.eq_zero_or_pos c.ρ.length with h0 | h0
  · omega
  · have hl : c.ρ.length - 1 < c.ρ.length := by omega
    have hx := List.getElem?_eq_getElem hl
    cases hc : c.ρ[c.ρ.length - 1] with
    | blk b =>
      rw [hc] at hx
      have := (List.getElem?_eq_some_iff.1 (h.ρ _ _ hx)).1
      omega
    | tk x =>
      rw [hc] at hx
      obtain ⟨x', h1, _⟩ := h.tk _ _ hx
      have := (List.getElem?_eq_some_iff.1 h1).1
      omega
/-- The package-level variables are laid, and no object is one of them. -/
def LOk (L : Lay) (b0 : Base) : Prop := L.p b0.w ∧ ∀ k, b0.fp k → ¬ L.G k
theorem Rel.lay {c : Cx} {n : Nat} {σ : Sig} {a : Act} (h : Rel c n σ a) {L : Lay} (hL : LOk L c.b0) : L.p c.w := L.kept h.below hL.2 hL.1
theorem Rel.toOwn {c : Cx} {n : Nat} {σ : Sig} {a : Act} (h : Rel c n σ a) : Own c σ.o := ⟨h.olen, h.own, h.dist⟩
end Fw
