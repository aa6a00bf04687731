import Derived.Test.YtbikkfomnbmkpaaDoorFwV
import Derived.Sort.Grow
namespace Fw
open Go Go.RowKit Go.Sort

theorem freeze_heap {w : World} {g n : Nat} {cur : Array Value} {t : TypeId} {fz : Nat × Nat} (hg : w.heap[g]? = some (.cells cur t fz)) (hfz : fz.2 ≤ n) :
    (∀ k, k ≠ g → (w.freeze ⟨g, 0, none⟩ n).heap[k]? = w.heap[k]?) ∧ ∃ fz', (w.freeze ⟨g, 0, none⟩ n).heap[g]? = some (.cells cur t fz') ∧ fz'.2 ≤ n := by
  unfold World.freeze
  by_cases hn : n = 0
  · rw [if_pos hn]
    exact ⟨fun _ _ => rfl, fz, hg, hfz⟩
  · rw [if_neg hn]
    constructor
    · intro k hk
      simp only [Array.getElem?_modify]
      rw [if_neg (Ne.symm hk)]
    · simp only [Array.getElem?_modify, if_pos, hg, Option.map_some]
      refine ⟨_, rfl, ?_⟩
      split <;> simp <;> omega
theorem freeze_cell {w : World} {g n : Nat} (a : Addr) : (w.freeze ⟨g, 0, none⟩ n).cell? a = w.cell? a := by
  unfold World.freeze
  split
  · rfl
  · unfold World.cell?
    simp only [Array.getElem?_modify]
    by_cases h : g = a.block
    · rw [if_pos h]
      cases hw : w.heap[a.block]? with
      | none => simp
      | some o => cases o <;> simp
    · rw [if_neg h]
theorem freeze_os {w : World} {a : Addr} {n : Nat} : (w.freeze a n).os = w.os := by unfold World.freeze; split <;> rfl
theorem freeze_tape {w : World} {a : Addr} {n : Nat} : (w.freeze a n).tape = w.tape := by unfold World.freeze; split <;> rfl
theorem freeze_out {w : World} {a : Addr} {n : Nat} : (w.freeze a n).output = w.output := by unfold World.freeze; split <;> rfl
theorem freeze_size {w : World} {a : Addr} {n : Nat} : (w.freeze a n).heap.size = w.heap.size := by
  unfold World.freeze
  split
  · rfl
  · simp

def bldK (u8 : Nat) : List CK := [.sp, .gro u8 [.int .u8]]
theorem bld_in (tB u8 : Nat) : inObs [.obj tB (bldK u8)] = [.box tB [.sp 0 (.v 0 .bool), .gro 1 (.v 1 (.slc [.int .u8]))], .tok u8 1 (.v 1 (.slc [.int .u8]))] := rfl
theorem bld_end (tB u8 : Nat) (e0 : E) (h0 : e0.ty = .bool) : objEnd [.box tB [.sp 0 e0, .gro 1 (.v 1 (.slc [.int .u8]))], .tok u8 1 (.v 1 (.slc [.int .u8]))] 0 [.obj tB (bldK u8)] = some [e0, .v 1 (.slc [.int .u8])] := by
  simp [objEnd, toObj, ckRead, bldK, CK.ngro, E.beq, E.ty, Ty.beq, Ty.beqs, h0, List.range'_succ]
/-- What is known of a builder that comes in. -/
theorem bld_open {tB u8 : Nat} {c : Cx} {vs : List Value} (hown : Own c (inObs [.obj tB (bldK u8)])) (hsv : SVRs c (argSVs 0 0 [.obj tB (bldK u8)]) vs) :
    ∃ b x v1 , vs = [.pointer (some ⟨b, 0, none⟩)] ∧ c.ρ[0]? = some (.blk b) ∧ c.mine b ∧ c.w.heap[b]? = some (.cells #[.pointer (if x then some ⟨b, 0, none⟩ else none), v1] tB (0, 0)) ∧
      c.η.getD 0 default = .bool x ∧ SVR c (.sp 0 (.v 0 .bool)) (.pointer (if x then some ⟨b, 0, none⟩ else none)) ∧ SVR c (.gro 1 (.v 1 (.slc [.int .u8]))) v1 := by
  simp only [argSVs, argSV, SVRs, SVR] at hsv
  obtain ⟨v, vs', rfl, ⟨b, hb, rfl⟩, rfl⟩ := hsv
  rw [bld_in] at hown
  have h0 := hown.own 0 _ _ rfl hb
  simp only [ORel, SVRs] at h0
  obtain ⟨hm, arr, hh, v0, vs0, e0, hs0, v1, vs1, rfl, hs1, rfl⟩ := h0
  have hs0' := hs0
  simp only [SVR, E.den] at hs0'
  obtain ⟨_, b', x, hb', hx, rfl⟩ := hs0'
  rw [hb] at hb'; injection hb' with hb'; injection hb' with hb'; subst hb'
  have harr : arr = #[.pointer (if x then some ⟨b, 0, none⟩ else none), v1] := by apply Array.ext'; simpa using e0
  subst harr
  exact ⟨b, x, v1, rfl, hb, hm, hh, hx, hs0, hs1⟩

theorem corr_copyCheck {P : Program} {L : Lay} {f tB u8 : Nat}
    (hused : ∀ (b : Nat) (w : World), w.cell? ⟨b, 0, none⟩ = some (.pointer (some ⟨b, 0, none⟩)) → Calls P f #[.pointer (some ⟨b, 0, none⟩)] w fun e w' => e = .returned (.tuple #[]) ∧ w' = w)
    (hfresh : ∀ (b : Nat) (w : World), w.cell? ⟨b, 0, none⟩ = some (.pointer none) → w.shape? b = some (tB, 2) → w.frozen? ⟨b, 0, none⟩ = false →
      Calls P f #[.pointer (some ⟨b, 0, none⟩)] w fun e w' => e = .returned (.tuple #[]) ∧ w' = w.setCell ⟨b, 0, none⟩ (.pointer (some ⟨b, 0, none⟩))) (ds : List D) :
    Corr P L f [.obj tB (bldK u8)] ds [] (s_strings_Builder__copyCheck ds) := by
  refine .ofO (by simp [K.nobss, K.nobs]) (.of_end fun c vs hη hl hw hL hown hsv => ?_)
  obtain ⟨b, x, v1, rfl, hb, hm, hh, hx, hs0, hs1⟩ := bld_open hown hsv
  have hds : ∃ d0 d1, ds = [d0, d1] := by
    match ds, hl with
    | [d0, d1], _ => exact ⟨d0, d1, rfl⟩
  obtain ⟨d0, d1, rfl⟩ := hds
  have hd0 : d0 = .bool x := by rw [hη] at hx; simpa using hx
  subst hd0
  cases x with
  | true =>
    refine (hused b c.w (by simp [World.cell?, hh])).mono ?_
    rintro e w' ⟨rfl, rfl⟩
    refine ⟨[], c, _, [], [.v 0 .bool, .v 1 (.slc [.int .u8])], rfl, rfl, rfl, rfl, LeM.refl c, rfl, hown, by simp [KRs, E.dens], bld_end _ _ _ rfl, ?_, Kept.refl _ _⟩
    simp [s_strings_Builder__copyCheck, E.dens, E.den, hη]
  | false =>
    have hlt : b < c.w.heap.size := (Array.getElem?_eq_some_iff.1 hh).1
    refine (hfresh b c.w (by simp [World.cell?, hh]) (by simp [World.shape?, hh]) (by simp [World.frozen?, hh])).mono ?_
    rintro e w' ⟨rfl, rfl⟩
    rw [bld_in] at hown
    have hset : c.w.setCell ⟨b, 0, none⟩ (.pointer (some ⟨b, 0, none⟩)) = { c.w with heap := c.w.heap.setIfInBounds b (.cells #[.pointer (some ⟨b, 0, none⟩), v1] tB (0, 0)) } := by rw [setCell_block hh]; simp
    rw [hset]
    obtain ⟨h1, h2⟩ := (hown.toRel hw).storeBox (id := 0) (b := b) rfl hb hh (cs' := [.sp 0 (.b true), .gro 1 (.v 1 (.slc [.int .u8]))]) (arr' := #[.pointer (some ⟨b, 0, none⟩), v1]) _ rfl (by
      simp only [SVRs]
      refine ⟨_, _, rfl, ?_, _, _, rfl, hs1, rfl⟩
      simp only [SVR, E.bd, E.den]
      exact ⟨trivial, b, true, hb, rfl, rfl⟩)
    refine ⟨[], _, _, [], [.b true, .v 1 (.slc [.int .u8])], rfl, ?_, ?_, ?_, h1.m, rfl, h2.toOwn, by simp [KRs, E.dens], bld_end _ _ _ rfl, ?_, ?_⟩
    · rfl
    · rfl
    · rfl
    · simp [s_strings_Builder__copyCheck, E.dens, E.den, hη]
    · have hk : Kept c.fp c.w0 _ := h2.below
      have : c.w0 = c.w := hw
      rw [this] at hk
      exact hk

theorem corr_String {P : Program} {L : Lay} {f tB u8 : Nat}
    (hrun : ∀ (b g cap : Nat) (p : Value) (l : List UInt8) (cur : Array Value) (fz : Nat × Nat) (w : World), w.heap[b]? = some (.cells #[p, .slice (some ⟨g, 0, none⟩) l.length cap] tB (0, 0)) →
      w.heap[g]? = some (.cells cur u8 fz) → l ≠ [] → l.length ≤ cap → cap ≤ maxLen → cur.size = cap → (∀ (j : Nat) x, l[j]? = some x → w.cell? ((⟨g, 0, none⟩ : Addr).add j) = some (.int .u8 x.toNat)) →
      Calls P f #[.pointer (some ⟨b, 0, none⟩)] w fun e w' => e = .returned (.string ⟨l.toArray⟩) ∧ w' = w.drew.freeze ⟨g, 0, none⟩ l.length) (ds : List D) (hp : p_strings_Builder__String ds) :
    Corr P L f [.obj tB (bldK u8)] ds [.one .str] (s_strings_Builder__String ds) := by
  refine .ofO (by simp [K.nobss, K.nobs]) (.of_end fun c vs hη hl hw hL hown hsv => ?_)
  obtain ⟨b, x, v1, rfl, hb, hm, hh, hx, hs0, hs1⟩ := bld_open hown hsv
  have hds : ∃ d0 d1, ds = [d0, d1] := by
    match ds, hl with
    | [d0, d1], _ => exact ⟨d0, d1, rfl⟩
  obtain ⟨d0, d1, rfl⟩ := hds
  obtain ⟨l, hl0, hld⟩ := hp
  simp only [nth, List.getD_cons_succ, List.getD_cons_zero] at hld
  -- the buffer
  have hs1' := hs1
  simp only [SVR, E.ty, E.den, hη] at hs1'
  obtain ⟨_, hv, tk, htk, hle, hval⟩ := hs1'
  simp only [List.getD_cons_succ, List.getD_cons_zero] at hv hle hval
  rw [bld_in] at hown
  have h1 := hown.own 1 _ _ rfl htk
  simp only [ORel, E.den, hη, List.getD_cons_succ, List.getD_cons_zero] at h1
  obtain ⟨_, hlen, hrow⟩ := h1
  have hv1 := hval hlen
  have hbl : (bytesD l).length = l.length := by simp [bytesD]
  rw [hld, hbl] at hlen
  have hl1 : l.length ≠ 0 := by simpa using hl0
  cases tk with
  | none =>
    have : l.length = 0 := hlen
    omega
  | some tk =>
    obtain ⟨g, len, cap, sz⟩ := tk
    simp only [tkLen, tkVal] at hlen hv1
    subst hlen
    simp only at hrow
    obtain ⟨rfl, hmg, hlc, cur, fz, hg, hfz, hcs⟩ := hrow
    have hvr := hv
    simp only [VR] at hvr
    obtain ⟨es, A, cap', hes, hvv, h3, h4, h5, h6⟩ := hvr
    rw [hv1] at hvv
    injection hvv with e1 e2 e3
    subst e3
    have hes' : es = bytesD l := by rw [hes] at hld; simpa [D.toL] using hld
    refine (hrun b g cap _ l cur fz c.w (by rw [hh, hv1]) hg hl0 hlc h4 (by rw [hcs, Nat.mul_one]) (fun j x hx => ?_)).mono ?_
    · obtain ⟨ad, us, ha, hvs, hc⟩ := h6 j [.int .u8 x.toNat] (by rw [hes']; simp [bytesD, hx])
      rw [← e1] at ha; injection ha with ha; subst ha
      simp only [VRs, VR] at hvs
      obtain ⟨d, ds', u, us', heq, rfl, ⟨n, rfl, rfl⟩, rfl, rfl⟩ := hvs
      injection heq with heq _
      injection heq with _ heq
      have := (hc 0 _ rfl).2
      simp only [List.length_cons, List.length_nil, Nat.zero_add, Nat.mul_one, Nat.add_zero] at this
      rw [this, heq]
    · rintro e w' ⟨rfl, rfl⟩
      obtain ⟨f1, fz', f2, f3⟩ := freeze_heap (w := c.w.drew) (n := l.length) hg (by simpa using hfz)
      have hcell : ∀ a, (c.w.drew.freeze ⟨g, 0, none⟩ l.length).cell? a = c.w.cell? a := fun a => freeze_cell a
      have hnbg : b ≠ g := hown.dist 0 1 _ _ b g (by decide) hb htk rfl rfl
      let c1 : Cx := { c with w := c.w.drew.freeze ⟨g, 0, none⟩ l.length }
      have hle1 : c.le c1 := ⟨⟨[], by simp [c1]⟩, fun _ _ h => h, fun _ x h => ⟨x, h, .inl rfl⟩, fun a u h1 h2 => ⟨h1, by show World.cell? _ _ = _; rw [hcell]; exact h2⟩, fun a u h1 h2 => ⟨h1, by show World.cell? _ _ = _; rw [hcell]; exact h2⟩⟩
      refine ⟨[.string ⟨l.toArray⟩], c1, _, [.s ⟨l.toArray⟩], [.v 0 .bool, .v 1 (.slc [.int .u8])], rfl, rfl, rfl, rfl, hle1.m, rfl, ⟨hown.olen, fun id ob co ho hco => ?_, hown.dist⟩, ?_, ?_, ?_, ?_⟩
      · have hlt : id < 2 := by have := (List.getElem?_eq_some_iff.1 ho).1; simpa using this
        match id, hlt with
        | 0, _ =>
          simp only [List.getElem?_cons_zero, Option.some.injEq] at ho; subst ho
          have hco' : c.ρ[0]? = some co := hco
          rw [hb] at hco'; injection hco' with hco'; subst hco'
          have h0 := hown.own 0 _ _ rfl hb
          exact h0.le hle1 rfl fun b' hb' => by
            simp only [CO.block?, Option.some.injEq] at hb'; subst hb'
            exact f1 _ hnbg
        | 1, _ =>
          simp only [List.getElem?_cons_succ, List.getElem?_cons_zero, Option.some.injEq] at ho; subst ho
          have hco' : c.ρ[1]? = some co := hco
          rw [htk] at hco'; injection hco' with hco'; subst hco'
          have h0 := hown.own 1 _ _ rfl htk
          simp only [ORel] at h0 ⊢
          obtain ⟨k1, k2, k3, k4, k5, arr, fr, k6, k7, k8⟩ := h0
          refine ⟨k1, k2, k3, k4, k5, cur, fz', f2, by simpa using f3, ?_⟩
          rw [hg] at k6
          simp only [Option.some.injEq, Obj.cells.injEq] at k6
          rw [k6.1]; exact k8
      · simp only [E.dens, E.den, KRs, KR]
        exact ⟨_, [], _, [], rfl, rfl, ⟨_, rfl, by simp only [VR]; exact ⟨_, rfl, rfl⟩⟩, rfl, rfl⟩
      · exact bld_end _ _ _ rfl
      · have : unB (nth [d0, d1] 1).toL = l := by simp only [nth, List.getD_cons_succ, List.getD_cons_zero, hld, unB_bytesD]
        simp only [s_strings_Builder__String, this]
        show _ = E.dens c.η _
        simp [E.dens, E.den, hη]
      · have hw0 : c.w0 = c.w := hw
        refine ⟨?_, ?_, ?_, by rw [freeze_size]; exact Nat.le_refl _, fun k hk hf => f1 k fun e => ?_⟩
        · rw [freeze_os]; rfl
        · rw [freeze_tape]; rfl
        · rw [freeze_out]; rfl
        · subst e
          exact Cx.not_mine hmg (by rw [hw0]; exact hk) hf rfl

theorem corr_Itoa {P : Program} {L : Lay} {f : Nat} {u : String × IntKind × List Int} (hu : ∀ w, L.p w → Lib.TabIs P w u.1 u.2.1 u.2.2)
    (hrun : ∀ (n : Int) (w : World), -9223372036854775808 ≤ n → n ≤ 9223372036854775807 → Lib.TabIs P w u.1 u.2.1 u.2.2 →
      Calls P f #[.int .i64 n] w fun e w' => e = .returned (.string ⟨(Lib.itoa n).toArray⟩) ∧ ∃ k os, w' = grow (w.drewN k) os) (ds : List D) (hp : p_strconv_Itoa ds) :
    Corr P L f [.one (.int .i64)] ds [.one .str] (s_strconv_Itoa ds) := by
  refine .ofA rfl fun ok w vs hL hk => ?_
  simp only [KRs, KR, VR] at hk
  obtain ⟨d1, d2, v, vs', rfl, rfl, ⟨d, rfl, n, rfl, rfl⟩, rfl, rfl⟩ := hk
  obtain ⟨h0, h1⟩ := hp
  simp only [nthI, List.cons_append, List.nil_append, List.getD_cons_zero, D.toI] at h0 h1
  refine (hrun n w h0 h1 (hu w hL)).mono ?_
  rintro e w' ⟨rfl, k, os, rfl⟩
  refine ⟨⟨[_], rfl, ?_⟩, ?_⟩
  · simp only [s_strconv_Itoa, KRs, KR, VR, nthI, List.cons_append, List.nil_append, List.getD_cons_zero, D.toI]
    exact ⟨_, [], _, [], rfl, rfl, ⟨_, rfl, _, rfl, rfl⟩, rfl, rfl⟩
  · refine ⟨rfl, rfl, rfl, by simp [grow, World.drewN], fun j hj => ?_⟩
    show (w.heap ++ os)[j]? = _
    exact Array.getElem?_append_left hj

theorem corr_Fields {P : Program} {L : Lay} {f : Nat} {u : String × IntKind × List Int} (hu : ∀ w, L.p w → Lib.TabIs P w u.1 u.2.1 u.2.2)
    (hrun : ∀ (s : ByteArray) (w : World), s.size < 4294967281 → (∀ (j : Nat) b, s.data.toList[j]? = some b → b.toNat < 128) → Lib.TabIs P w u.1 u.2.1 u.2.2 →
      Calls P f #[.string s] w fun e w' => e = .returned (.slice (some ⟨w.heap.size, 0, none⟩) (Lib.fields s.data.toList).length (Lib.fields s.data.toList).length) ∧ w' = w.alloc (.cells ((Lib.fields s.data.toList).map fun l => Value.string ⟨l.toArray⟩).toArray 9))
    (ds : List D) (hp : p_strings_Fields ds) : Corr P L f [.one .str] ds [.one (.slc [.str])] (s_strings_Fields ds) := by
  refine .ofA rfl fun ok w vs hL hk => ?_
  simp only [KRs, KR, VR] at hk
  obtain ⟨d1, d2, v, vs', rfl, rfl, ⟨d, rfl, s, rfl, rfl⟩, rfl, rfl⟩ := hk
  obtain ⟨h0, h1, hlen⟩ := hp
  simp only [nth, List.cons_append, List.nil_append, List.getD_cons_zero, D.toS] at h0 h1 hlen
  have h1 : ∀ (j : Nat) b, s.data.toList[j]? = some b → b.toNat < 128 := fun j b hj => by simpa using List.all_eq_true.1 h1 b (List.mem_of_getElem? hj)
  refine (hrun s w h0 h1 (hu w hL)).mono ?_
  rintro e w' ⟨rfl, rfl⟩
  refine ⟨⟨[_], rfl, ?_⟩, (Below.refl _ _).alloc (Nat.le_refl _) _⟩
  simp only [s_strings_Fields, KRs, KR, nth, List.cons_append, List.nil_append, List.getD_cons_zero, D.toS]
  refine ⟨_, [], _, [], rfl, rfl, ⟨_, rfl, ?_⟩, rfl, rfl⟩
  generalize Lib.fields s.data.toList = ll at *
  simp only [VR]
  refine ⟨_, some ⟨w.heap.size, 0, none⟩, ll.length, rfl, by rw [List.length_map], by rw [List.length_map]; exact Nat.le_refl _, hlen, fun h => (nomatch h), fun j row hj => ?_⟩
  simp only [List.getElem?_map, Option.map_eq_some_iff] at hj
  obtain ⟨l, hl, rfl⟩ := hj
  refine ⟨_, [.string ⟨l.toArray⟩], rfl, ?_, fun i u hi => ?_⟩
  · simp only [VRs, VR]; exact ⟨_, [], _, [], rfl, rfl, ⟨_, rfl, rfl⟩, rfl, rfl⟩
  · have hi0 : i = 0 := by have := (List.getElem?_eq_some_iff.1 hi).1; simpa using this
    subst hi0
    simp at hi; subst hi
    have hblk : ∀ k, ((⟨w.heap.size, 0, none⟩ : Addr).add k).block = w.heap.size := fun k => by unfold Addr.add; split <;> rfl
    refine ⟨.inr (by rw [hblk]; exact Nat.le_refl _), ?_⟩
    have hnew : (w.alloc (.cells (ll.map fun l => Value.string ⟨l.toArray⟩).toArray 9)).heap[w.heap.size]? = some (.cells (ll.map fun l => Value.string ⟨l.toArray⟩).toArray 9 (0, 0)) := by show (w.heap.push _)[_]? = _; rw [Array.getElem?_push, if_pos rfl]
    rw [cell_add hnew]
    simp [hl]
end Fw
