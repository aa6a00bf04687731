import Derived.Test.YtbikkfomnbmkpaaDoorFwG4
namespace Fw
open Go Go.RowKit
section
variable {P : Program} (w : World)
theorem run_firstCells' (size n cap : Nat) (A : Option Addr) (news : List Value) (hl : news.length = n * size) (hA : A = none → n = 0)
    (hn : ∀ ad, A = some ad → ∀ (i : Nat) u, news[i]? = some u → w.cell? (ad.add i) = some u) : (Builtin.firstCells size n (.slice A n cap)).run P w = .ok news.toArray w := by
  cases A with
  | none =>
    have := hA rfl; subst this
    have : news = [] := by cases news <;> simp_all
    subst this
    simp [Builtin.firstCells]
  | some ad =>
    have := run_loadCells' (P := P) (w := w) ad news 0 #[] (fun j u hu => by rw [Nat.zero_add]; exact hn ad rfl j u hu)
    rw [hl] at this
    simpa [Builtin.firstCells, loadCells] using this
def AppTy (P : Program) (u : TypeId) : Prop := (∃ e', P.underlying u = some (.slice e')) ∨ P.underlying u = some .string
theorem run_append_in {t u ty e : TypeId} {i : TypeInfo} (ht : P.underlying t = some (.slice e)) (hu : AppTy P u) (hi : P.info? e = some i)
    (base : Option Addr) (sLen sCap n : Nat) (y : Value) (news : List Value) (hly : (Builtin.lenOf y).run P w = .ok n w) (hf : (Builtin.firstCells i.size n y).run P w = .ok news.toArray w) (hroom : sLen + n ≤ sCap) :
    (Builtin.append_ #[t, u] ty #[.slice base sLen sCap, y]).run P w =
      match base with
      | some a => ((storeCells (a.add (sLen * i.size)) news).run P w).andThen fun _ w' => .ok (.slice (some a) (sLen + n) sCap) w'
      | none => .ok (.slice none (sLen + n) sCap) w := by
  rcases hu with ⟨_, hu⟩ | hu <;> cases base <;> simp [Builtin.append_, run_underlying ht, run_underlying hu, Go.sizeOf, typeInfo, hi, hly, hroom, hf]
theorem run_append_out {t u ty e : TypeId} {i : TypeInfo} {z : Value} (ht : P.underlying t = some (.slice e)) (hu : AppTy P u) (hi : P.info? e = some i) (hz : i.zero = some z)
    (base : Option Addr) (sLen sCap n : Nat) (y : Value) (olds news : List Value) (hly : (Builtin.lenOf y).run P w = .ok n w)
    (hfo : (Builtin.firstCells i.size sLen (.slice base sLen sCap)).run P w.drew = .ok olds.toArray w.drew)
    (hf : (Builtin.firstCells i.size n y).run P w.drew = .ok news.toArray w.drew) (hroom : sCap < sLen + n) (h63 : ((sLen + n : Nat) : Int) ≤ 9223372036854775807)
    (hfit : Builtin.nextslicecap (sLen + n) sCap * i.bytes ≤ 281474976710656) :
    ∃ w1, (Builtin.append_ #[t, u] ty #[.slice base sLen sCap, y]).run P w = .ok (.slice (some ⟨w.heap.size, 0, none⟩) (sLen + n) (grownCap w (sLen + n) sCap e)) w1 ∧
      w1 = w.drew.alloc (.cells (olds.toArray ++ news.toArray ++ Builtin.zeroCells z.cells (grownCap w (sLen + n) sCap e - (sLen + n))) e) := by
  have hn : ¬ (sLen + n ≤ sCap) := by omega
  have h63' : ¬ (9223372036854775807 < ((sLen : Int) + (n : Int))) := by omega
  have h48' : ¬ (281474976710656 < Builtin.nextslicecap (sLen + n) sCap * i.bytes) := by omega
  refine ⟨_, ?_, rfl⟩
  rcases hu with ⟨_, hu⟩ | hu <;> simp [Builtin.append_, run_underlying ht, run_underlying hu, Go.sizeOf, typeInfo, zeroValue, hi, hz, hly, hn, h63', h48', Question.forced, hf, hfo, newRow, grownCap] <;> (congr 2; apply Array.ext'; simp [List.append_assoc])
end

theorem add0 (b k : Nat) : (⟨b, 0, none⟩ : Addr).add k = ⟨b, k, none⟩ := by unfold Addr.add; split <;> simp_all
theorem toL_slc (es : List (List D)) : (D.slc es).toL = es := rfl
theorem ofRows_append {ok : Ok} {w : World} {ts : List Ty} {es fs : List (List D)} {us vs : List (List Value)} {b cap : Nat} (hu : us.length = es.length) (hv : vs.length = fs.length)
    (hcap : es.length + fs.length ≤ cap) (hmax : cap ≤ maxLen)
    (h1 : ∀ (j : Nat) r u, es[j]? = some r → us[j]? = some u → VRs ok w ts r u) (h2 : ∀ (j : Nat) r u, fs[j]? = some r → vs[j]? = some u → VRs ok w ts r u)
    (hc : ∀ i u, (us.flatten ++ vs.flatten)[i]? = some u → ok b i ∧ w.cell? ((⟨b, 0, none⟩ : Addr).add i) = some u) :
    VR ok w (.slc ts) (.slc (es ++ fs)) (.slice (some ⟨b, 0, none⟩) (es.length + fs.length) cap) := by
  have := VR.ofRows (ok := ok) (w := w) (ts := ts) (es := es ++ fs) (us := us ++ vs) (b := b) (cap := cap) (by simp [hu, hv]) (by simpa using hcap) hmax
    (fun j r u hr hj => by
      by_cases hl : j < es.length
      · rw [List.getElem?_append_left hl] at hr
        rw [List.getElem?_append_left (by omega)] at hj
        exact h1 j r u hr hj
      · rw [List.getElem?_append_right (by omega)] at hr
        rw [List.getElem?_append_right (by omega), hu] at hj
        exact h2 _ r u hr hj) (by simpa using hc)
  simpa using this

section
variable {P : Program} {c : Cx} {n : Nat} {σ : Sig} {a : Act} (h : Rel c n σ a)
include h
/-- What is appended: its rows. -/
def Src (P : Program) (c : Cx) (sz : Nat) (ts : List Ty) (f : E) (y : Value) : Prop :=
  ∃ vs : List (List Value), vs.length = (f.den c.η).toL.length ∧ (∀ (j : Nat) r u, (f.den c.η).toL[j]? = some r → vs[j]? = some u → VRs c.ok c.w ts r u) ∧ (∀ u ∈ vs, u.length = ts.length) ∧
    (Builtin.lenOf y).run P c.w = .ok (f.den c.η).toL.length c.w ∧ (Builtin.firstCells sz (f.den c.η).toL.length y).run P c.w = .ok vs.flatten.toArray c.w ∧
    (Builtin.firstCells sz (f.den c.η).toL.length y).run P c.w.drew = .ok vs.flatten.toArray c.w.drew
omit h in
theorem Src.ofSlc {f : E} {ts : List Ty} {y : Value} (hfv : VR c.ok c.w (.slc ts) (f.den c.η) y) : Src P c ts.length ts f y := by
  obtain ⟨A', cap', vs, hyv, hy1, hy2, hy3, hvl, hvr, hvls, hvc⟩ := hfv.rows
  have hnews : vs.flatten.length = (f.den c.η).toL.length * ts.length := by rw [flatten_len vs hvls, hvl]
  have hA' : A' = none → (f.den c.η).toL.length = 0 := fun h => by have := hy3 h; omega
  refine ⟨vs, hvl, hvr, hvls, by rw [hyv]; simp [Builtin.lenOf], ?_, ?_⟩
  · rw [hyv]; exact run_firstCells' (P := P) c.w ts.length (f.den c.η).toL.length cap' A' vs.flatten hnews hA' (fun ad ha i u hu => (hvc ad ha i u hu).2)
  · rw [hyv]; exact run_firstCells' (P := P) c.w.drew ts.length (f.den c.η).toL.length cap' A' vs.flatten hnews hA' (fun ad ha i u hu => by simpa using (hvc ad ha i u hu).2)
omit h in
theorem Src.ofStr {e : E} {y : Value} (hv : VR c.ok c.w .str (e.den c.η) y) : Src P c 1 [.int .u8] (.bytes e) y := by
  obtain ⟨hyv, _⟩ := hv.str_
  have hL : ((E.bytes e).den c.η).toL = (e.den c.η).toS.data.toList.map fun b => [D.int .u8 b.toNat] := by simp only [E.den, D.toL]
  have hlen : ((E.bytes e).den c.η).toL.length = (e.den c.η).toS.size := by rw [hL, List.length_map, Array.length_toList]; rfl
  unfold Src
  rw [hlen, hL]
  generalize (e.den c.η).toS = s at hyv
  have hfc : ∀ w : World, (Builtin.firstCells 1 s.size (.string s)).run P w = .ok ((s.data.toList.map fun b => [Value.int .u8 b.toNat]).flatten).toArray w := fun w => by
    simp only [Builtin.firstCells, Sem.run_pure]
    congr 1
    rw [ByteArray.extract_zero_size]
    apply Array.ext'
    simp only [Array.toList_map]
    generalize s.data.toList = l
    induction l with
    | nil => rfl
    | cons b l ih => simp only [List.map_cons, List.flatten_cons, List.cons_append, List.nil_append, ih]
  refine ⟨s.data.toList.map fun b => [Value.int .u8 b.toNat], by rw [List.length_map, Array.length_toList]; rfl, fun j r u h1 h2 => ?_, fun u hu => ?_, by rw [hyv]; simp [Builtin.lenOf], by rw [hyv]; exact hfc _, by rw [hyv]; exact hfc _⟩
  · simp only [List.getElem?_map, Option.map_eq_some_iff] at h1 h2
    obtain ⟨b, hb, rfl⟩ := h1
    obtain ⟨b', hb', rfl⟩ := h2
    rw [hb] at hb'; injection hb' with hb'; subst hb'
    simp only [VRs, VR]
    exact ⟨_, [], _, [], rfl, rfl, ⟨_, rfl, rfl⟩, rfl, rfl⟩
  · simp only [List.mem_map] at hu
    obtain ⟨b, _, rfl⟩ := hu
    rfl
theorem append_gro {t u ty el : TypeId} {i : TypeInfo} {ts : List Ty} {id sz : Nat} {cur e f : E} {x y : Value}
    (ht : P.underlying t = some (.slice el)) (hu : AppTy P u) (hi : P.info? el = some i) (hz : zeroFits i = true) (hsz : i.size = ts.length)
    (hf : f.bd c.η.length = true) (hsrc : Src P c ts.length ts f y) (ho : σ.o[id]? = some (.tok el sz cur)) (hcur : e = cur) (hety : e.ty = .slc ts) (hszt : sz = ts.length)
    (hx : SVR c (.gro id e) x) (hg : ((roomE i.bytes e f).den c.η).toB = true) :
    ∃ v c', (Builtin.append_ #[t, u] ty #[x, y]).run P c.w = .ok v c'.w ∧ c'.η = c.η ∧ c'.ok0 = c.ok0 ∧ c'.b0 = c.b0 ∧ c.le c' ∧
      Rel c' n { σ with o := σ.o.set id (.tok el ts.length (.appAll e f)) } a ∧ SVR c' (.gro id (.appAll e f)) v := by
  subst hcur hszt
  obtain ⟨z, hz, hzs⟩ : ∃ z, i.zero = some z ∧ z.cells.size = i.size := by
    unfold zeroFits at hz
    split at hz
    · rename_i z hz'
      exact ⟨z, hz', by simpa using hz⟩
    · cases hz
  have hx' := hx
  simp only [SVR] at hx
  obtain ⟨heb, hev, tk, htk, hlen, hval⟩ := hx
  have hor := h.own id _ _ ho htk
  simp only [ORel] at hor
  obtain ⟨_, hlen', hrow⟩ := hor
  have hval := hval hlen'
  rw [hety] at hev
  obtain ⟨A, cap, us, hxv, hx1, hx2, hx3, hul, hur, huls, huc⟩ := hev.rows
  obtain ⟨vs, hvl, hvr, hvls, hyl, hff1, hff2⟩ := hsrc
  have hbound : (e.den c.η).toL.length ≤ capK i.bytes ∧ (f.den c.η).toL.length ≤ capK i.bytes := by
    simp only [roomE, E.den] at hg
    generalize (e.den c.η).toL.length = p at hg ⊢
    generalize (f.den c.η).toL.length = q at hg ⊢
    simp only [D.toB, D.toI, cmpD, Bool.and_eq_true] at hg
    have g1 := of_decide_eq_true hg.1
    have g2 := of_decide_eq_true hg.2
    omega
  obtain ⟨b1, b2⟩ := capK_le hbound.1
  obtain ⟨b3, b4⟩ := capK_le hbound.2
  have hnews : vs.flatten.length = (f.den c.η).toL.length * ts.length := by rw [flatten_len vs hvls, hvl]
  have holds : us.flatten.length = (e.den c.η).toL.length * ts.length := by rw [flatten_len us huls, hul]
  have hone : ∀ (ok : Ok) (w : World) (ws : List (List Value)) (ds : List (List D)), ws.length = ds.length → (∀ (j : Nat) r u, ds[j]? = some r → ws[j]? = some u → VRs ok w ts r u) → ∀ v ∈ ws.flatten, v.oneCell' = true := by
    intro ok w ws ds hl hws v hv
    obtain ⟨u, hu, hvu⟩ := List.mem_flatten.1 hv
    obtain ⟨j, hj⟩ := List.getElem?_of_mem hu
    have hjl : j < ds.length := by rw [← hl]; exact (List.getElem?_eq_some_iff.1 hj).1
    have hvr := hws j _ u (List.getElem?_eq_getElem hjl) hj
    obtain ⟨k, hk⟩ := List.getElem?_of_mem hvu
    have hkl : k < ts.length := by rw [← hvr.length.2]; exact (List.getElem?_eq_some_iff.1 hk).1
    obtain ⟨v', hv', hvv⟩ := hvr.get (List.getElem?_eq_getElem hkl)
    rw [hk] at hv'; injection hv' with hv'; subst hv'
    exact hvv.one.1
  have hvone := hone _ _ vs _ hvl hvr
  have htyq : (E.appAll e f).ty = .slc ts := by simp only [E.ty, hety]
  have hden : (E.appAll e f).den c.η = .slc ((e.den c.η).toL ++ (f.den c.η).toL) := by simp only [E.den]
  have hbd : (E.appAll e f).bd c.η.length = true := by simp only [E.bd, heb, hf, Bool.and_self]
  by_cases hroom : (e.den c.η).toL.length + (f.den c.η).toL.length ≤ cap
  · -- room
    have hrun := run_append_in (P := P) c.w (ty := ty) ht hu hi A (e.den c.η).toL.length cap (f.den c.η).toL.length y vs.flatten hyl (by rw [hsz]; exact hff1) hroom
    rw [← hxv] at hrun
    cases tk with
    | none =>
      simp only [tkVal, tkLen] at hval hlen'
      rw [hxv] at hval
      injection hval with hA0 _ hc0
      subst hA0 hc0
      simp only at hrun
      have hf0 : (f.den c.η).toL.length = 0 := by omega
      have hfl : (f.den c.η).toL = [] := List.length_eq_zero_iff.1 hf0
      have hel0 : (e.den c.η).toL = [] := List.length_eq_zero_iff.1 hlen'
      have hidl : id < c.ρ.length := (List.getElem?_eq_some_iff.1 htk).1
      obtain ⟨r1, r2⟩ := h.retok (x' := none) (w' := c.w) (ob' := .tok el ts.length (.appAll e f)) htk (.inl rfl) (fun b hb => .inl hb) (fun b o hb => .inl hb) (fun _ _ _ => rfl) (fun _ _ _ hu => hu)
        (by simp only [ORel, hbd, hden, toL_slc, hel0, hfl, tkLen]; exact ⟨trivial, rfl, trivial⟩) h.below
      refine ⟨_, { c with ρ := c.ρ.set id (.tk none) }, hrun, (by rfl), (by rfl), (by rfl), r1, r2, ?_⟩
      simp only [SVR, hbd, hden, htyq, toL_slc, hel0, hfl, List.append_nil, List.length_nil, Nat.add_zero]
      refine ⟨trivial, ?_, none, by simp [hidl], Nat.le_refl _, fun _ => rfl⟩
      simp only [VR]
      exact ⟨[], none, 0, rfl, rfl, Nat.le_refl _, Nat.zero_le _, fun _ => rfl, fun j c hj => by simp at hj⟩
    | some tk =>
      obtain ⟨b, len, cp, sz⟩ := tk
      simp only [tkVal, tkLen] at hval hlen'
      rw [hxv] at hval
      injection hval with hA0 _ hc0
      subst hA0 hc0
      simp only at hrun hrow
      obtain ⟨hs1, hbb, _, arr, fr, hh, hfr, harr⟩ := hrow
      subst hs1
      have hblt : b < c.w.heap.size := (Array.getElem?_eq_some_iff.1 hh).1
      rw [hsz] at hrun
      have hadd := add0 b ((e.den c.η).toL.length * ts.length)
      have hle1 : (e.den c.η).toL.length * ts.length + (f.den c.η).toL.length * ts.length ≤ arr.size := by
        rw [harr, ← Nat.add_mul]; exact Nat.mul_le_mul_right _ hroom
      obtain ⟨arr', hst, ha'⟩ := run_storeCells' (P := P) vs.flatten 0 ((e.den c.η).toL.length * ts.length) c.w arr hh (by rw [Nat.add_zero, hlen']; exact hfr) (by rw [hnews]; omega) hvone
      rw [hadd, hst] at hrun
      simp only [Result.andThen_ok] at hrun
      rw [Nat.add_zero, hnews] at ha'
      have harr' : arr'.size = cap * ts.length := by
        have := congrArg List.length ha'
        simp only [List.length_append, List.length_take, List.length_drop, Array.length_toList, hnews] at this
        omega
      have hal : arr.toList.length = arr.size := Array.length_toList
      have htl : (arr.toList.take ((e.den c.η).toL.length * ts.length)).length = (e.den c.η).toL.length * ts.length := by rw [List.length_take, hal]; omega
      have hself : (c.w.heap.setIfInBounds b (.cells arr' el fr))[b]? = some (.cells arr' el fr) := by simp [hblt]
      have hne : ∀ k, k ≠ b → (c.w.heap.setIfInBounds b (.cells arr' el fr))[k]? = c.w.heap[k]? := fun k hk => Array.getElem?_setIfInBounds_ne (Ne.symm hk)
      have hlow : ∀ k, k < (e.den c.η).toL.length * ts.length → arr'[k]? = arr[k]? := fun k hk => by
        have h1 := congrArg (·[k]?) ha'
        simp only [Array.getElem?_toList] at h1
        rw [h1, List.append_assoc, List.getElem?_append_left (by rw [htl]; exact hk), List.getElem?_take, if_pos hk, Array.getElem?_toList]
      have hcellold : ∀ (ad : Addr) u, ¬ (CO.tk (some (b, len, cap, ts.length))).covers ad.block ad.off → c.w.cell? ad = some u → ({ c.w with heap := c.w.heap.setIfInBounds b (.cells arr' el fr) } : World).cell? ad = some u := by
        intro ad u hnc hu
        by_cases hb : ad.block = b
        · have hoff : ad.off < (e.den c.η).toL.length * ts.length := by
            rcases Nat.lt_or_ge ad.off ((e.den c.η).toL.length * ts.length) with h | h
            · exact h
            · exfalso; apply hnc; simp only [CO.covers]; rw [← hlen']; exact ⟨hb, h⟩
          obtain ⟨blk, off, spot⟩ := ad
          simp only at hb hoff; subst hb
          unfold World.cell? at hu ⊢
          simp only [hh, hself] at hu ⊢
          cases spot with
          | none => rw [hlow _ hoff]; exact hu
          | some _ => simp at hu
        · rw [World.cell?_of_block (w := c.w) (hne _ hb)]; exact hu
      have hbl : Kept c.fp c.w0 { c.w with heap := c.w.heap.setIfInBounds b (.cells arr' el fr) } := h.below.step rfl rfl rfl (by simp) fun k hk hf => hne k (Cx.not_mine hbb hk hf)
      have hx'' : (some (b, (e.den c.η).toL.length + (f.den c.η).toL.length, cap, ts.length)) = some (b, len, cap, ts.length) ∨ tkLen (some (b, len, cap, ts.length)) < tkLen (some (b, (e.den c.η).toL.length + (f.den c.η).toL.length, cap, ts.length)) := by
        rcases Nat.eq_zero_or_pos (f.den c.η).toL.length with h | h
        · left; rw [h, hlen']; rfl
        · right; simp only [tkLen]; omega
      obtain ⟨r1, r2⟩ := h.retok (x' := some (b, (e.den c.η).toL.length + (f.den c.η).toL.length, cap, ts.length)) (w' := { c.w with heap := c.w.heap.setIfInBounds b (.cells arr' el fr) }) (ob' := .tok el ts.length (.appAll e f)) htk hx''
        (fun b' hb' => .inl hb') (fun b' o hb' => .inl (by simp only [CO.covers] at hb' ⊢; exact ⟨hb'.1, Nat.le_trans (Nat.mul_le_mul_right _ (by omega)) hb'.2⟩))
        (fun k _ hk => hne k (fun e => hk (by simp [CO.block?, e]))) hcellold
        (by simp only [ORel, hbd, hden, toL_slc, tkLen, List.length_append]; exact ⟨trivial, trivial, trivial, hbb, hroom, arr', fr, hself, by rw [Nat.add_mul]; rw [← hlen'] at hfr; omega, harr'⟩) hbl
      have hidl : id < c.ρ.length := (List.getElem?_eq_some_iff.1 htk).1
      refine ⟨_, _, hrun, (by rfl), (by rfl), (by rfl), r1, r2, ?_⟩
      simp only [SVR, hbd, hden, htyq, toL_slc]
      refine ⟨trivial, ?_, some (b, (e.den c.η).toL.length + (f.den c.η).toL.length, cap, ts.length), by simp [hidl], by simp [tkLen], fun _ => by simp [tkVal]⟩
      refine ofRows_append hul hvl hroom hx2 (fun j r u hr hu => VRs.keeps r1.keeps _ _ _ (hur j r u hr hu)) (fun j r u hr hu => VRs.keeps r1.keeps _ _ _ (hvr j r u hr hu)) (fun k u hk => ?_)
      have hkl := (List.getElem?_eq_some_iff.1 hk).1
      rw [List.length_append, holds, hnews] at hkl
      constructor
      · refine ⟨.inr hbb, fun hex => ?_⟩
        obtain ⟨q, hq, hcq⟩ := hex
        obtain ⟨j, hj⟩ := List.getElem?_of_mem hq
        by_cases hjid : j = id
        · subst hjid
          simp [hidl] at hj; subst hj
          simp only [CO.covers] at hcq
          have := hcq.2
          rw [Nat.add_mul] at this
          omega
        · simp only at hj
          rw [List.getElem?_set_ne (Ne.symm hjid)] at hj
          exact h.dist j id q _ b b hjid hj htk (CO.covers_block hcq) rfl rfl
      · rw [cell_add hself, Nat.zero_add]
        have h1 := congrArg (·[k]?) ha'
        simp only [Array.getElem?_toList] at h1
        rw [h1]
        rw [List.getElem?_append] at hk
        split at hk
        · rename_i hlt
          rw [holds] at hlt
          rw [List.append_assoc, List.getElem?_append_left (by rw [htl]; exact hlt), List.getElem?_take, if_pos hlt, Array.getElem?_toList]
          have := (huc _ rfl k u hk).2
          rw [cell_add hh, Nat.zero_add] at this
          exact this
        · rename_i hge
          rw [holds] at hge
          rw [List.append_assoc, List.getElem?_append_right (by rw [htl]; omega), htl, List.getElem?_append_left (by rw [hnews]; omega)]
          rw [holds] at hk
          exact hk
  · -- a new row
    have hroom : cap < (e.den c.η).toL.length + (f.den c.η).toL.length := by omega
    have hA : A = none → (e.den c.η).toL.length = 0 := fun h => by have := hx3 h; omega
    have hfo := run_firstCells' (P := P) c.w.drew i.size (e.den c.η).toL.length cap A us.flatten (by rw [hsz]; exact holds) hA (fun ad ha i u hu => by simpa using (huc ad ha i u hu).2)
    have h63 : (((e.den c.η).toL.length + (f.den c.η).toL.length : Nat) : Int) ≤ 9223372036854775807 := by omega
    obtain ⟨w1, hrun, hw1⟩ := run_append_out (P := P) c.w (ty := ty) ht hu hi hz A (e.den c.η).toL.length cap (f.den c.η).toL.length y us.flatten vs.flatten hyl hfo (by rw [hsz]; exact hff2) hroom h63
      (growslice_fits hroom (by rw [Nat.add_mul, Nat.mul_comm, Nat.mul_comm (f.den c.η).toL.length]; omega))
    rw [← hxv] at hrun
    have hcapn := grownCap_ge c.w ((e.den c.η).toL.length + (f.den c.η).toL.length) cap el
    have hcapm := grownCap_le_maxLen c.w ((e.den c.η).toL.length + (f.den c.η).toL.length) cap el (by simp only [maxLen]; omega)
    generalize grownCap c.w ((e.den c.η).toL.length + (f.den c.η).toL.length) cap el = cap2 at *
    have hcsz : (us.flatten.toArray ++ vs.flatten.toArray ++ Builtin.zeroCells z.cells (cap2 - ((e.den c.η).toL.length + (f.den c.η).toL.length))).size = cap2 * ts.length := by
      rw [Array.size_append, Array.size_append, size_zeroCells, hzs, hsz, List.size_toArray, List.size_toArray, holds, hnews, Nat.sub_mul, Nat.add_mul]
      have : (e.den c.η).toL.length * ts.length + (f.den c.η).toL.length * ts.length ≤ cap2 * ts.length := by rw [← Nat.add_mul]; exact Nat.mul_le_mul_right _ hcapn
      omega
    have hclow : ∀ (k : Nat) u, (us.flatten ++ vs.flatten)[k]? = some u → (us.flatten.toArray ++ vs.flatten.toArray ++ Builtin.zeroCells z.cells (cap2 - ((e.den c.η).toL.length + (f.den c.η).toL.length)))[k]? = some u := fun k u hk => by
      rw [Array.getElem?_append_left (by have := (List.getElem?_eq_some_iff.1 hk).1; simpa using this)]
      simpa using hk
    generalize hcells : (us.flatten.toArray ++ vs.flatten.toArray ++ Builtin.zeroCells z.cells (cap2 - ((e.den c.η).toL.length + (f.den c.η).toL.length))) = cells at *
    subst hw1
    have hidl : id < c.ρ.length := (List.getElem?_eq_some_iff.1 htk).1
    have hnew : (c.w.drew.alloc (.cells cells el)).heap[c.w.heap.size]? = some (.cells cells el (0, 0)) := by show (c.w.heap.push _)[_]? = _; rw [Array.getElem?_push, if_pos rfl]
    have hlow : ∀ k, k < c.w.heap.size → (c.w.drew.alloc (.cells cells el)).heap[k]? = c.w.heap[k]? := fun k hk => Below.heap_alloc c.w.drew _ k hk
    have hbl : Kept c.fp c.w0 (c.w.drew.alloc (.cells cells el)) := h.below.step rfl rfl rfl (by show c.w.heap.size ≤ (c.w.heap.push _).size; simp) fun k hk _ => hlow k (Nat.lt_of_lt_of_le hk h.below.size)
    have hlt : tkLen tk < tkLen (some (c.w.heap.size, (e.den c.η).toL.length + (f.den c.η).toL.length, cap2, ts.length)) := by
      rw [← hlen']; simp only [tkLen]; omega
    obtain ⟨r1, r2⟩ := h.retok (x' := some (c.w.heap.size, (e.den c.η).toL.length + (f.den c.η).toL.length, cap2, ts.length)) (w' := c.w.drew.alloc (.cells cells el)) (ob' := .tok el ts.length (.appAll e f)) htk (.inr hlt)
      (fun b' hb' => .inr (by simp [CO.block?] at hb'; omega)) (fun b' o hb' => .inr (by simp only [CO.covers] at hb'; omega))
      (fun k hk _ => hlow k hk) (fun ad u _ hu => by rw [World.cell?_of_block (w := c.w) (hlow _ (World.block_lt_of_cell? c.w ad hu))]; exact hu)
      (by simp only [ORel, hbd, hden, toL_slc, tkLen, List.length_append]; exact ⟨trivial, trivial, trivial, .inl h.below.size, hcapn, cells, (0, 0), hnew, Nat.zero_le _, hcsz⟩) hbl
    refine ⟨_, _, hrun, (by rfl), (by rfl), (by rfl), r1, r2, ?_⟩
    simp only [SVR, hbd, hden, htyq, toL_slc]
    refine ⟨trivial, ?_, some (c.w.heap.size, (e.den c.η).toL.length + (f.den c.η).toL.length, cap2, ts.length), by simp [hidl], by simp [tkLen], fun _ => by simp [tkVal]⟩
    refine ofRows_append hul hvl hcapn hcapm (fun j r u hr hu => VRs.keeps r1.keeps _ _ _ (hur j r u hr hu)) (fun j r u hr hu => VRs.keeps r1.keeps _ _ _ (hvr j r u hr hu)) (fun k u hk => ?_)
    have hkl := (List.getElem?_eq_some_iff.1 hk).1
    rw [List.length_append, holds, hnews] at hkl
    constructor
    · refine ⟨.inr (.inl h.below.size), fun hex => ?_⟩
      obtain ⟨q, hq, hcq⟩ := hex
      obtain ⟨j, hj⟩ := List.getElem?_of_mem hq
      by_cases hjid : j = id
      · subst hjid
        simp [hidl] at hj; subst hj
        simp only [CO.covers] at hcq
        have := hcq.2
        rw [Nat.add_mul] at this
        omega
      · simp only at hj
        rw [List.getElem?_set_ne (Ne.symm hjid)] at hj
        have := (h.blockOf (List.mem_of_getElem? hj) (CO.covers_block hcq)).2
        omega
    · rw [cell_add hnew, Nat.zero_add]
      exact hclow k u hk

omit h in
def AppOk (P : Program) (c : Cx) (n : Nat) (σ : Sig) (a : Act) (t u ty : TypeId) (x y : Value) : OR → Prop
  | .bad => True
  | .guard q s e => (q.den c.η).toB = true → ∃ v c', (Builtin.append_ #[t, u] ty #[x, y]).run P c.w = .ok v c'.w ∧ c'.η = c.η ∧ c'.ok0 = c.ok0 ∧ c'.b0 = c.b0 ∧ c.le c' ∧ Rel c' n { σ with o := e.app σ.o } a ∧ SVR c' s v
  | _ => False
omit h in
theorem sxAppend_good (h : Rel c n σ a) {t u ty : TypeId} {sx sy : SV} {x y : Value} (hx : SVR c sx x) (hy : SVR c sy y) : AppOk P c n σ a t u ty x y (sxAppend P σ.o t u sx sy) := by
  unfold sxAppend
  split
  · rename_i el d ht hu
    split
    · rename_i i f hi hf
      obtain ⟨hfb, hut, hsrc⟩ : f.bd c.η.length = true ∧ AppTy P u ∧ ∀ ts, f.ty = .slc ts → Src P c ts.length ts f y := by
        unfold appSrc at hf
        split at hf
        · obtain ⟨hfb, hfv⟩ := ex_sound (asSC_sound P u hy) hf
          exact ⟨hfb, .inl ⟨_, hu⟩, fun ts hts => .ofSlc (by rw [hts] at hfv; exact hfv)⟩
        · split at hf
          · rename_i e he
            split at hf
            · rename_i hty
              simp only [Option.some.injEq] at hf; subst hf
              obtain ⟨heb, hev⟩ := ex_sound hy he
              rw [Ty.beq_eq _ _ hty] at hev
              exact ⟨by simpa [E.bd] using heb, .inr hu, fun ts hts => by
                simp only [E.ty, Ty.slc.injEq] at hts
                subst hts
                exact .ofStr hev⟩
            · cases hf
          · cases hf
        · cases hf
      split
      · rename_i ts hfty
        split
        · rename_i hcond
          simp only [Bool.and_eq_true, decide_eq_true_eq] at hcond
          split
          · -- nil
            intro hg
            simp only [SVR] at hx
            obtain ⟨q1, q2⟩ := h.pushNone el ts.length ts
            have hx1 : SVR { c with ρ := c.ρ ++ [.tk none] } (.gro σ.o.length (.lit ts [])) x := by
              simp only [SVR, E.bd, E.bdss, E.ty, E.den, E.denss, toL_slc, hx]
              refine ⟨trivial, ?_, none, by simp [h.olen], Nat.le_refl _, fun _ => rfl⟩
              simp only [VR]
              exact ⟨[], none, 0, rfl, rfl, Nat.le_refl _, Nat.zero_le _, fun _ => rfl, fun j c hj => by simp at hj⟩
            obtain ⟨v, c', r1, r2, r3, r4, r5, r6, r7⟩ := append_gro q2 (P := P) (ty := ty) (f := f) (id := σ.o.length) (sz := ts.length) (cur := .lit ts []) (e := .lit ts []) ht hut hi hcond.1 hcond.2 hfb (by
              obtain ⟨vs, k1, k2, k3, k4, k5, k6⟩ := hsrc ts hfty
              exact ⟨vs, k1, fun j r u h1 h2 => VRs.keeps q1.keeps _ _ _ (k2 j r u h1 h2), k3, k4, k5, k6⟩) (by simp) rfl rfl rfl hx1 hg
            refine ⟨v, c', r1, r2, r3, r4, ⟨?_, ?_, ?_, ?_, ?_⟩, ?_, r7⟩
            · obtain ⟨xs, hxs⟩ := r5.η; exact ⟨xs, hxs⟩
            · exact fun id b hb => r5.ρ _ _ (q1.ρ _ _ hb)
            · intro id z hz
              obtain ⟨z1, h1, h2⟩ := q1.tk _ _ hz
              obtain ⟨z2, h3, h4⟩ := r5.tk _ _ h1
              refine ⟨z2, h3, ?_⟩
              rcases h2 with rfl | h2 <;> rcases h4 with rfl | h4
              · exact .inl rfl
              · exact .inr h4
              · exact .inr h2
              · exact .inr (Nat.lt_trans h2 h4)
            · exact Keeps.trans q1.keeps r5.keeps
            · intro ad u h1 h2
              obtain ⟨h3, h4⟩ := q1.raw ad u h1 h2
              exact r5.raw ad u h3 h4
            · simpa [Eff.app] using r6
          · rename_i id e
            split
            · rename_i sz cur ho
              split
              · rename_i hc2
                simp only [Bool.and_eq_true, decide_eq_true_eq] at hc2
                intro hg
                rw [show sz = ts.length from hc2.2.1, show _ = el from hc2.2.2] at ho ⊢
                exact append_gro h (P := P) (ty := ty) ht hut hi hcond.1 hcond.2 hfb (hsrc ts hfty) ho (E.beq_eq _ _ hc2.1.1) (Ty.beq_eq _ _ hc2.1.2) rfl hx hg
              · trivial
            · trivial
          · trivial
        · trivial
      · trivial
    · trivial
  · trivial
end
end Fw
