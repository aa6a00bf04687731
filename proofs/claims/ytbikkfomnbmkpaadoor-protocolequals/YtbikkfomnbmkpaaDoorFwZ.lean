import Derived.Test.YtbikkfomnbmkpaaDoorFwW
import Derived.Carry
import Derived.ChangeArms
import Derived.Deep.Slices
import Derived.DataElems
import Derived.RowKit
import Derived.Handed
import Derived.LaidMore
import Derived.ProofKit
import Derived.Lay
import Derived.MakeChecks
import Derived.SevenTiedAt
import Derived.Stop.Joined
namespace Fw
open Go Go.RowKit Go.ChangeShapes Go.WideShapes

/-! ### 21. From the reading of the arguments to data -/
def fitF (P : Program) (fit : TypeId → List Ty → Bool) : Nat → List Field → List Ty → Bool
  | _, [], ts => ts.isEmpty
  | off, f :: fs, ts => decide (f.offset = off) && (decide (P.cellsOf f.type ≤ ts.length) && (fit f.type (ts.take (P.cellsOf f.type)) && fitF P fit (off + P.cellsOf f.type) fs (ts.drop (P.cellsOf f.type))))
/-- The cells of a type are of these kinds. -/
def fitC (P : Program) : Nat → TypeId → List Ty → Bool
  | 0, _, _ => false
  | n + 1, t, ts => match P.underlying t with
    | some .bool => match ts with | [.bool] => true | _ => false
    | some (.int k) => match ts with | [.int k'] => decide (k' = k) | _ => false
    | some .string => match ts with | [.str] => true | _ => false
    | some (.slice e) => match ts with | [.slc us] => decide (P.cellsOf e = us.length) && fitC P n e us | _ => false
    | some (.struct fs) => fitF P (fitC P n) 0 fs.toList ts
    | _ => false
abbrev allOk : Ok := fun _ _ => True
theorem open_fields {H : Type} {enc : TypeId × Value → H} {P : Program} {W : World} {n : Nat} (fit : TypeId → List Ty → Bool)
    (ih : ∀ t ts cs x, fit t ts = true → P.cellsOf t = ts.length → DataW.trod enc P W 0 (fun _ => true) true n t cs = some x → ∃ ds, VRs allOk W ts ds cs) :
    ∀ (fs : List Field) (off : Nat) (ts : List Ty) (cs : List Value), fitF P fit off fs ts = true → cs.length = off + ts.length →
      (∀ f ∈ fs, ∃ x, DataW.trod enc P W 0 (fun _ => true) true n f.type ((cs.drop f.offset).take (P.cellsOf f.type)) = some x) → ∃ ds, VRs allOk W ts ds (cs.drop off)
  | [], off, ts, cs, h, hl, _ => by
    simp only [fitF, List.isEmpty_iff] at h
    subst h
    refine ⟨[], rfl, ?_⟩
    rw [List.drop_eq_nil_iff]; simp at hl; omega
  | f :: fs, off, ts, cs, h, hl, hx => by
    simp only [fitF, Bool.and_eq_true, decide_eq_true_eq] at h
    obtain ⟨rfl, hle, hf, hr⟩ := h
    obtain ⟨x, hx0⟩ := hx f (List.mem_cons_self ..)
    obtain ⟨ds1, h1⟩ := ih _ _ _ _ hf (by rw [List.length_take]; omega) hx0
    obtain ⟨ds2, h2⟩ := open_fields fit ih fs (f.offset + P.cellsOf f.type) (ts.drop (P.cellsOf f.type)) cs hr (by rw [List.length_drop]; omega) (fun g hg => hx g (List.mem_cons_of_mem _ hg))
    refine ⟨ds1 ++ ds2, ?_⟩
    have e1 : ts = ts.take (P.cellsOf f.type) ++ ts.drop (P.cellsOf f.type) := (List.take_append_drop ..).symm
    have e2 : cs.drop f.offset = (cs.drop f.offset).take (P.cellsOf f.type) ++ cs.drop (f.offset + P.cellsOf f.type) := by
      rw [← List.drop_drop]; exact (List.take_append_drop ..).symm
    rw [e1, e2]
    exact h1.append h2
theorem all_choice {α : Type} [Inhabited α] {q : Nat → α → Prop} : ∀ (n : Nat), (∀ i, i < n → ∃ a, q i a) → ∃ l : List α, l.length = n ∧ ∀ i a, l[i]? = some a → q i a
  | 0, _ => ⟨[], rfl, fun i a h => by simp at h⟩
  | n + 1, h => by
    obtain ⟨l, h1, h2⟩ := all_choice n (fun i hi => h i (by omega))
    obtain ⟨a, ha⟩ := h n (by omega)
    refine ⟨l ++ [a], by simp [h1], fun i b hb => ?_⟩
    by_cases hi : i < n
    · rw [List.getElem?_append_left (by omega)] at hb; exact h2 i b hb
    · rw [List.getElem?_append_right (by omega)] at hb
      have : i - l.length = 0 := by
        rcases Nat.eq_zero_or_pos (i - l.length) with h0 | h0
        · exact h0
        · rw [List.getElem?_eq_none (by simp; omega)] at hb; cases hb
      rw [this] at hb
      simp at hb
      subst hb
      have : i = n := by omega
      rw [this]; exact ha
theorem open_cells {H : Type} {enc : TypeId × Value → H} {P : Program} {W : World} : ∀ (n : Nat) (t : TypeId) (ts : List Ty) (fuel : Nat) (cs : List Value) (x : DataW H × List MemPlace),
    fitC P n t ts = true → P.cellsOf t = ts.length → DataW.trod enc P W 0 (fun _ => true) true fuel t cs = some x → ∃ ds, VRs allOk W ts ds cs
  | 0, _, _, _, _, _, h, _, _ => by simp [fitC] at h
  | n + 1, t, ts, fuel, cs, x, h, hc, hx => by
    unfold fitC at h
    split at h
    · rename_i hu
      split at h
      · obtain ⟨b, rfl, _⟩ := DataW.trod_bool hu hx
        exact ⟨[.bool b], _, _, _, _, rfl, rfl, ⟨b, rfl, rfl⟩, rfl, rfl⟩
      · cases h
    · rename_i k hu
      split at h
      · rename_i k'
        obtain rfl : k' = k := by simpa using h
        obtain ⟨m, rfl, _⟩ := DataW.trod_int hu hx
        exact ⟨[.int k' m], _, _, _, _, rfl, rfl, ⟨m, rfl, rfl⟩, rfl, rfl⟩
      · cases h
    · rename_i hu
      split at h
      · obtain ⟨s, rfl, _⟩ := DataW.trod_string hu hx
        exact ⟨[.str s], _, _, _, _, rfl, rfl, ⟨s, rfl, rfl⟩, rfl, rfl⟩
      · cases h
    · rename_i e hu
      split at h
      · rename_i us
        simp only [Bool.and_eq_true, decide_eq_true_eq] at h
        obtain ⟨hce, hf⟩ := h
        rcases Go.Deep.open_slice hu hx with ⟨rfl, _⟩ | ⟨a, len, cap, m, n', Dm, Pl, rfl, _, hl, hm, hmm, _, hel⟩
        · exact ⟨[.slc []], _, _, _, _, rfl, rfl, ⟨[], none, 0, rfl, rfl, Nat.le_refl _, by unfold maxLen; omega, fun _ => rfl, fun j c hj => by simp at hj⟩, rfl, rfl⟩
        · have hmm' : m = cap := by simpa using hmm
          subst hmm'
          obtain ⟨es, he1, he2⟩ := all_choice (α := List D) (q := fun j c => ∃ cs', W.cells? 0 (a.add (j * P.cellsOf e)) (P.cellsOf e) = some cs' ∧ VRs allOk W us c cs') len (fun i hi => by
            obtain ⟨cs', h1, h2⟩ := hel i (by omega)
            obtain ⟨ds, h3⟩ := open_cells n e us n' cs' _ hf hce h2
            exact ⟨ds, cs', h1, h3⟩)
          refine ⟨[.slc es], _, _, _, _, rfl, rfl, ⟨es, some a, m, rfl, by rw [he1], by omega, hm, fun h => (by cases h), fun j c hj => ?_⟩, rfl, rfl⟩
          obtain ⟨cs', h1, h2⟩ := he2 j c hj
          obtain ⟨_, h4, h5⟩ := World.cells?_some h1
          refine ⟨a, cs', rfl, h2, fun i u hu' => ⟨trivial, ?_⟩⟩
          have hi : i < P.cellsOf e := by rw [← h4]; exact (List.getElem?_eq_some_iff.1 hu').1
          have := h5 i hi
          rw [hu', hce, Addr.add_add] at this
          exact this
      · cases h
    · rename_i fs hu
      obtain ⟨xs, n', rfl, _, hlen, hxl, hel⟩ := DataW.trod_struct hu hx
      have := open_fields (W := W) (enc := enc) (n := n') (fitC P n) (fun t ts cs x h1 h2 h3 => open_cells n t ts n' cs x h1 h2 h3) fs.toList 0 ts cs h (by omega) (fun f hf => by
        obtain ⟨i, hi⟩ := List.getElem?_of_mem hf
        have h1 := hel i f (by simpa using hi)
        have h2 : i < xs.length := by
          rw [hxl]
          have := (List.getElem?_eq_some_iff.1 hi).1
          simpa using this
        exact ⟨xs[i], by rw [h1, List.getElem?_eq_getElem h2]⟩)
      simpa using this
    · cases h

/-- A parameter of this type is of this kind. -/
def fitK (P : Program) (n : Nat) (t : TypeId) : K → Bool
  | .one ty => decide (P.cellsOf t = 1) && (fitC P n t [ty] && match P.underlying t with | some (.struct _) | some (.array _ _) => false | _ => true)
  | .agg ts => decide (P.cellsOf t = ts.length) && (fitC P n t ts && match P.underlying t with | some (.struct _) => true | _ => false)
  | _ => false
def fitKs (P : Program) (n : Nat) : List TypeId → List K → Bool
  | [], [] => true
  | t :: ts, k :: ks => fitK P n t k && fitKs P n ts ks
  | _, _ => false
theorem open_param {H : Type} {enc : TypeId × Value → H} {P : Program} {W : World} {n : Nat} {t : TypeId} {k : K} {v : Value} {d : DataW H} {p : List MemPlace} {b0 : Nat}
    (hf : fitK P n t k = true) (hv : Value.okWide P W .any b0 t v) (h : DataW.Trod enc P W 0 (fun _ => true) true t v d p) : ∃ ds, KR allOk W k ds v := by
  obtain ⟨fuel, hx⟩ := h
  unfold fitK at hf
  split at hf
  · rename_i ty
    simp only [Bool.and_eq_true, decide_eq_true_eq] at hf
    obtain ⟨hc, hfc, hu⟩ := hf
    obtain ⟨ds, hds⟩ := open_cells n t [ty] fuel _ _ hfc hc hx
    obtain ⟨d', ds', u, vs', rfl, hcs, hr, rfl, rfl⟩ := hds
    have hvc : v.cells.toList = [v] := by
      unfold Value.okWide at hv
      split at hv
      · rename_i h0; simp [h0] at hu
      · rename_i h0; simp [h0] at hu
      · rename_i h1 h2
        cases v with
        | agg xs => 
          exfalso
          unfold fitC at hfc
          cases n with
          | zero => simp at hfc
          | succ n =>
            unfold fitC at hfc
            split at hfc <;> simp_all [Cell.okWide, Cell.ok]
        | _ => rfl
    rw [hvc] at hcs
    obtain ⟨rfl, _⟩ := List.cons.inj hcs
    exact ⟨[d'], d', rfl, hr⟩
  · rename_i ts
    simp only [Bool.and_eq_true, decide_eq_true_eq] at hf
    obtain ⟨hc, hfc, hu⟩ := hf
    split at hu
    · rename_i fs hun
      obtain ⟨cs, rfl, hsz⟩ := okWide_struct hun hv
      obtain ⟨ds, hds⟩ := open_cells n t ts fuel _ _ hfc hc hx
      exact ⟨ds, cs, rfl, by simpa [Value.cells] using hds⟩
    · cases hu
  · cases hf
theorem open_params {H : Type} {enc : TypeId × Value → H} {P : Program} {W : World} {n : Nat} {b0 : Nat} : ∀ {ts : List TypeId} {ks : List K} {vs : List Value} {ds : List (DataW H)} {p : List MemPlace},
    fitKs P n ts ks = true → (∀ (j : Nat) t v, ts[j]? = some t → vs[j]? = some v → Value.okWide P W .any b0 t v) → DataW.TrodAll enc P W 0 (fun _ => true) true ts vs ds p → ∃ xs, KRs allOk W ks xs vs
  | [], [], [], [], _, _, _, _ => ⟨[], rfl, rfl⟩
  | t :: ts, k :: ks, v :: vs, d :: ds, p, hf, hv, h => by
    simp only [fitKs, Bool.and_eq_true] at hf
    obtain ⟨p1, p2, h1, h2, rfl⟩ := h
    obtain ⟨x1, k1⟩ := open_param hf.1 (hv 0 t v rfl rfl) h1
    obtain ⟨x2, k2⟩ := open_params hf.2 (fun j t v ht hv' => hv (j + 1) t v (by simpa using ht) (by simpa using hv')) h2
    exact ⟨x1 ++ x2, x1, x2, v, vs, rfl, rfl, k1, k2⟩
theorem trodAll_below {H : Type} {enc : TypeId × Value → H} {P : Program} (hl : laidOutB P = true) {W W' : World} (hb : Below W.heap.size W W') : ∀ {ts : List TypeId} {vs : List Value} {ds : List (DataW H)} {p : List MemPlace},
    (ts.all fun t => P.readableRec t && decide (t < P.types.size)) = true → DataW.TrodAll enc P W 0 (fun _ => true) true ts vs ds p → (∀ x ∈ p, x.block < W.heap.size) →
    DataW.TrodAll enc P W' 0 (fun b => decide (b < W.heap.size)) true ts vs ds p
  | [], [], [], _, _, h, _ => h
  | t :: ts, v :: vs, d :: ds, p, hr, h, hlt => by
    simp only [List.all_cons, Bool.and_eq_true, decide_eq_true_eq] at hr
    obtain ⟨p1, p2, h1, h2, rfl⟩ := h
    exact ⟨p1, p2, Below.trod hl hr.1.1 hr.1.2 h1 hb (fun x hx => hlt x (List.mem_append_left _ hx)), trodAll_below hl hb (by simpa using hr.2) h2 (fun x hx => hlt x (List.mem_append_right _ hx)), rfl⟩
/-- A LAW: the call answers true and leaves all that was there: the row's post, from the contract. -/
theorem post_true {H : Type} {enc : TypeId × Value → H} {P : Program} {fn : Func} {s : ChangeSpec} {apart fresh handsOn : Bool} {W : World} {base : Nat} {args : Array Value} {ds gs : List (DataW H)} {before : List MemPlace} {L : Lay} {f : Nat} {ks : List K} {n b : Nat}
    (hl : laidOutB P = true) (hrd : (fn.params.toList.all fun t => P.readableRec t && decide (t < P.types.size)) = true)
    (hres : fn.resultTypes = #[b]) (hb : P.underlying b = some .bool) (hvars : s.vars = [])
    (hspec : ∀ ds : List (DataW H), ds.length = fn.params.toList.length → s.fn H ds = { results := [.lit (.bool true)], args := ds })
    (hfit : fitKs P n fn.params.toList ks = true) (hno : K.nobss ks = 0)
    (hval : ∀ (j : Nat) t v, fn.params[j]? = some t → args[j]? = some v → Value.okWide P W .any base t v)
    (hW : DataW.Whole enc P fn.params.toList s.vars apart W args.toList ds gs before) (hL : L.p W)
    (hC : ∀ xs, Corr P L f ks xs [.one .bool] [.bool true]) :
    Calls P f args W fun e W' => ∃ v, e = .returned v ∧ s.post enc P fn apart fresh handsOn false W args v W' := by
  have hW' := hW
  obtain ⟨p, q, hA, hV, rfl, _, _⟩ := hW
  rw [hvars] at hV
  obtain ⟨rfl, rfl⟩ := trodVars_none hV
  obtain ⟨xs, hk⟩ := open_params hfit (fun j t v ht hv => hval j t v (by simpa using ht) (by simpa using hv)) hA
  have hlt : ∀ x ∈ p, x.block < W.heap.size := fun x hx => hW'.lt x (List.mem_append_left _ hx)
  have hdl : ds.length = fn.params.toList.length := by
    have aux : ∀ {ts : List TypeId} {vs : List Value} {ds : List (DataW H)} {p : List MemPlace}, DataW.TrodAll enc P W 0 (fun _ => true) true ts vs ds p → ds.length = ts.length := by
      intro ts
      induction ts with
      | nil => intro vs ds p h; cases vs <;> cases ds <;> simp_all [DataW.TrodAll]
      | cons t ts ih =>
        intro vs ds p h
        cases vs with
        | nil => simp [DataW.TrodAll] at h
        | cons v vs => cases ds with
          | nil => simp [DataW.TrodAll] at h
          | cons d ds => obtain ⟨_, _, _, h2, _⟩ := h; simp [ih h2]
    exact aux hA
  have hcall := (hC xs).1 hno allOk W args.toList hL hk
  rw [Array.toArray_toList] at hcall
  refine hcall.mono ?_
  rintro e W' ⟨⟨us, rfl, hr⟩, hbelow⟩
  obtain ⟨d1, d2, u, us', hd, rfl, ⟨dd, rfl, b', rfl, rfl⟩, rfl, rfl⟩ := hr
  simp only [List.append_nil, List.cons.injEq, D.bool.injEq, and_true] at hd
  subst hd
  have hf := hspec (ds ++ []) (by simpa using hdl)
  refine ⟨_, rfl, ds, [], p ++ [], [], p, [], hW', ?_, ?_, ?_, hbelow.frame _, fun h => by cases h⟩
  · rw [hf, hres]
    exact trodAll_mk1 (shut_bool hb true)
  · rw [hf]
    simpa using trodAll_below hl hbelow hrd hA hlt
  · rw [hf, hvars]; rfl

/-- A listed table is an array of integers. -/
def tabOk (P : Program) (name : String) (k : IntKind) : Bool :=
  match P.globalNamed name with
  | some g => match (P.globals[g]?).map (·.type) with
    | some t => match P.underlying t with
      | some (.array n e) => (match P.underlying e with | some (.int k') => decide (k' = k) | _ => false) && (decide (P.cellsOf e = 1) && decide (P.cellsOf t = n))
      | _ => false
    | none => false
  | none => false
theorem laid_at {P : Program} {W : World} : ∀ {l : List (String × DataW Unit)} {ps : List MemPlace}, DataW.LaidVars P W l ps → ∀ x ∈ l,
    ∃ g t cs fuel p, P.globalNamed x.1 = some g ∧ (P.globals[g]?).map (·.type) = some t ∧ W.var? P x.1 = some cs ∧ DataW.trod (fun _ => ()) P W 0 (fun _ => true) false fuel t cs.toList = some (x.2, p)
  | [], _, _, x, hx => by cases hx
  | (n, d) :: r, ps, h, x, hx => by
    obtain ⟨g, t, cs, fuel, p, q, h1, h2, h3, h4, h5, _⟩ := h
    rcases List.mem_cons.1 hx with rfl | hx
    · exact ⟨g, t, cs, fuel, p, h1, h2, h3, h4⟩
    · exact laid_at h5 x hx
theorem tabIs_of_laid {P : Program} {W : World} {name : String} {k : IntKind} {zs : List Int} {l : List (String × DataW Unit)} (hok : tabOk P name k = true) (i : Nat) (hi : l[i]? = some (name, Lib.tabData k zs)) (h : laidMet P l W) : Lib.TabIs P W name k zs := by
  obtain ⟨ps, h, _⟩ := h
  obtain ⟨g, t, cs, fuel, p, h1, h2, h3, h4⟩ := laid_at h _ (List.mem_of_getElem? hi)
  unfold tabOk at hok
  rw [h1] at hok
  simp only [h2] at hok
  split at hok
  · rename_i n e hu
    simp only [Bool.and_eq_true, decide_eq_true_eq] at hok
    obtain ⟨ho1, ho2, ho3⟩ := hok
    split at ho1
    · rename_i k' hk
      obtain rfl : k' = k := by simpa using ho1
      unfold Lib.TabIs
      rw [h3, ← Lib.cells_of_tab hu hk ho2 ho3 h4]
    · cases ho1
  · cases hok

theorem plainParams {P : Program} {ps : Array TypeId} (h : (ps.toList.all fun t => !P.wantsStandIn t) = true) (j : Nat) (t : TypeId) (ht : ps[j]? = some t) : P.wantsStandIn t = false := by
  have := List.all_eq_true.1 h t (by
    have : ps.toList[j]? = some t := by simpa using ht
    exact List.mem_of_getElem? this)
  simpa using this
end Fw
