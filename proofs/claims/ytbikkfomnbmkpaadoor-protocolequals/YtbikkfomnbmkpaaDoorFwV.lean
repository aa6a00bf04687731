import Derived.Test.YtbikkfomnbmkpaaDoorFwN
import Derived.Lib.LaidTab
import Derived.Lib.Fields
import Derived.Lib.ItoaNum
namespace Fw
open Go Go.RowKit

/-! ### 19. Contracts by hand -/
theorem Own.toRel {c : Cx} {os : List OB} (h : Own c os) (hw : c.b0.w = c.w) : Rel c 0 { t := [], o := os } { tmps := #[], defers := [] } where
  defers := rfl
  size := rfl
  tmps := fun i => by simp only [look, SVR]
  olen := h.olen
  own := h.own
  dist := h.dist
  below := by show Kept c.fp c.b0.w c.w; rw [hw]; exact Kept.refl _ _
/-- A contract of a function that writes objects, from what it leaves. -/
theorem CorrectO.of_end {P : Program} {L : Lay} {f : Nat} {ks rk : List K} {ds rs : List D}
    (h : ∀ (c : Cx) (vs : List Value), c.η = ds → ds.length = (K.tyss ks).length → c.b0.w = c.w → LOk L c.b0 → Own c (inObs ks) → SVRs c (argSVs 0 0 ks) vs →
      Calls P f vs.toArray c.w fun e w' => ∃ us c1 os es1 es2, e = .returned (packed us) ∧ c1.w = w' ∧ c1.ok0 = c.ok0 ∧ c1.b0 = c.b0 ∧ LeM c c1 ∧ c1.ρ.length = c.ρ.length ∧ Own c1 os ∧
        KRs c1.ok w' rk (E.dens c1.η es1) us ∧ objEnd os 0 ks = some es2 ∧ rs = E.dens c1.η (es1 ++ es2) ∧ Kept c.fp c.w w') : CorrectO P L f ks ds rk rs := by
  intro c vs hη hl hw hL hown hsv
  refine (h c vs hη hl hw hL hown hsv).mono ?_
  rintro e w' ⟨us, c1, os, es1, es2, rfl, rfl, hok0, hb0, hle, hρl, how, hk, hoe, rfl, hkept⟩
  let cc : Cx := ⟨c.ok0, c.b0, E.dens c1.η (es1 ++ es2), c1.ρ, c1.w⟩
  have hok : ∀ b o, c1.ok b o → cc.ok b o := fun b o ⟨h1, h2⟩ => ⟨by simp only [cc, Cx.mine, ← hok0, ← hb0]; exact h1, h2⟩
  have hesl : (E.dens c1.η es1).length = (K.tyss rk).length := hk.dlen
  obtain ⟨q1, q2, q3, q4⟩ := objEnd_sound (cc := cc) how rfl hok (fun b hb => by simp only [cc, Cx.mine, ← hb0]; exact hb) ks 0 es1.length hoe (fun t _ _ => rfl)
    (fun j e hj => dens_get c1.η _ _ e (by rw [List.getElem?_append_right (by omega), Nat.add_sub_cancel_left]; exact hj))
  have hm : c1.ρ.length = K.nobss ks := by rw [hρl, ← hown.olen, inObs, K.obss_length]
  refine ⟨us, c1.ρ, E.dens c1.η es1, E.dens c1.η es2, rfl, E.dens_append .., hesl, KRs.weaken hok _ _ _ hk, ⟨by rw [K.obss_length]; exact hm.symm, ?_, how.dist⟩, ?_, hkept⟩
  · rw [E.dens_length]
    exact fun id ob co ho hco => q4 id ob co ho (by rw [Nat.zero_add]; exact hco)
  · exact { ρ := hle.ρ, tk := hle.tk, raw := hle.raw, keeps := fun ad u h1 h2 => by obtain ⟨h3, h4⟩ := hle.keeps ad u h1 h2; exact ⟨hok _ _ h3, h4⟩ }
theorem Corr.ofO {P : Program} {L : Lay} {f : Nat} {ks rk : List K} {ds rs : List D} (hn : K.nobss ks ≠ 0) (h : CorrectO P L f ks ds rk rs) : Corr P L f ks ds rk rs := ⟨fun h0 => absurd h0 hn, fun _ => h⟩
theorem Corr.ofA {P : Program} {L : Lay} {f : Nat} {ks rk : List K} {ds rs : List D} (hn : K.nobss ks = 0) (h : CorrectAt P L f ks ds rk rs) : Corr P L f ks ds rk rs := ⟨fun _ => h, fun h0 => absurd hn h0⟩

/-- Tables that start-up lays. -/
def layOf (P : Program) (ts : List (String × IntKind × List Int)) : Lay where
  G := fun k => ∃ x ∈ ts, P.globalNamed x.1 = some k
  p := fun w => ∀ x ∈ ts, Lib.TabIs P w x.1 x.2.1 x.2.2
  lt := fun w h k ⟨x, hx, hk⟩ => by
    have := h x hx
    unfold Lib.TabIs World.var? at this
    rw [hk] at this
    simp only [Option.bind_some] at this
    rcases Nat.lt_or_ge k w.heap.size with h' | h'
    · exact h'
    · rw [Array.getElem?_eq_none h'] at this; cases this
  mono := fun w w' h hp x hx => by
    have := hp x hx
    unfold Lib.TabIs World.var? at this ⊢
    cases hg : P.globalNamed x.1 with
    | none => rw [hg] at this; cases this
    | some k =>
      rw [hg] at this
      simp only [Option.bind_some] at this ⊢
      rw [h k ⟨x, hx, hg⟩]
      exact this
def tables : List (String × IntKind × List Int) := [ ("strings.asciiSpace", .u8, Lib.asciiSpaceTab), ("internal/strconv.uint64pow10", .u64, Lib.pow10Tab)]

/-- Bytes. -/
def bytesD (l : List UInt8) : List (List D) := l.map fun b => [.int .u8 b.toNat]
def unB (es : List (List D)) : List UInt8 := es.map fun r => UInt8.ofNat ((r.getD 0 default).toI.toNat)
theorem unB_bytesD (l : List UInt8) : unB (bytesD l) = l := by
  unfold unB bytesD
  rw [List.map_map]
  conv => rhs; rw [← List.map_id l]
  apply List.map_congr_left
  intro b _
  simp [D.toI]
def s_strings_Builder__copyCheck (ds : List D) : List D := [.bool true, nth ds 1]
def p_strings_Builder__copyCheck (_ : List D) : Prop := True
def s_strings_Builder__String (ds : List D) : List D := [.str ⟨(unB (nth ds 1).toL).toArray⟩, nth ds 0, nth ds 1]
def p_strings_Builder__String (ds : List D) : Prop := ∃ l : List UInt8, l ≠ [] ∧ (nth ds 1).toL = bytesD l
def s_strconv_Itoa (ds : List D) : List D := [.str ⟨(Lib.itoa (nthI ds 0)).toArray⟩]
def p_strconv_Itoa (ds : List D) : Prop := -9223372036854775808 ≤ nthI ds 0 ∧ nthI ds 0 ≤ 9223372036854775807
def s_strings_Fields (ds : List D) : List D := [.slc ((Lib.fields (nth ds 0).toS.data.toList).map fun l => [.str ⟨l.toArray⟩])]
def p_strings_Fields (ds : List D) : Prop := (nth ds 0).toS.size < 4294967281 ∧ ((nth ds 0).toS.data.toList.all fun b => decide (b.toNat < 128)) = true ∧ (Lib.fields (nth ds 0).toS.data.toList).length ≤ maxLen
end Fw
