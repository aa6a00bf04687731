import Derived.Test.YtbikkfomnbmkpaaDoorFwJ
namespace Fw
open Go Go.RowKit

/-! ### 16. Putting a function's trees together -/
def AllBlk (C : Ctx) (B : Nat → T) (k : Nat) (bs : List Blk) : Prop := ∀ (l : Nat) (b : Blk), bs[l]? = some b → ∃ n, sx C n true b.st b.σ b.tys.length = some (B (k + l))
theorem AllBlk.nil {C : Ctx} {B : Nat → T} {k : Nat} : AllBlk C B k [] := fun l b h => by simp at h
theorem AllBlk.cons {C : Ctx} {B : Nat → T} {k : Nat} {b : Blk} {bs : List Blk} {n : Nat} (h : sx C n true b.st b.σ b.tys.length = some (B k)) (t : AllBlk C B (k + 1) bs) : AllBlk C B k (b :: bs) := fun l b' hb => by
  cases l with
  | zero => simp at hb; subst hb; exact ⟨n, h⟩
  | succ l =>
    obtain ⟨n', h'⟩ := t l b' (by simpa using hb)
    exact ⟨n', by rw [show k + (l + 1) = k + 1 + l by omega]; exact h'⟩
def mkCtx (P : Program) (L : Lay) (fn : Func) (sigs : Sigs) (ks rk : List K) (cuts : List (Nat × Nat)) (blks : List Blk) : Ctx := { P, L, fn, c0 := fn.body.getD .ret, sigs, ks, rk, cuts, blks }
theorem ok_of {P : Program} {L : Lay} {fn : Func} {sigs : Sigs} {ks rk : List K} {cuts : List (Nat × Nat)} {blks : List Blk} {f : Nat} {B : Nat → T} (hf : P.funcs[f]? = some fn) (hb : fn.body.isSome = true)
    (hm : P.follows .mixedOrders = true) (h : AllBlk (mkCtx P L fn sigs ks rk cuts blks) B 0 blks) : (mkCtx P L fn sigs ks rk cuts blks).Ok f B where
  hf := hf
  hb := by
    simp only [mkCtx]
    cases h : fn.body with
    | none => rw [h] at hb; cases hb
    | some c => rfl
  mixed := hm
  blks := fun l b hl => by simpa using h l b hl
theorem correct_of {C : Ctx} {f : Nat} {B : Nat → T} (hC : C.Ok f B) {n : Nat} {t : T} (ht : sx C n false [.code []] (entry C.ks) (K.tyss C.ks).length = some t)
    (hn : Nat.ble C.ks.length C.fn.ntmps = true) {ds rs : List D} (hev : Ev (Corr C.P C.L) B t ds rs) : Corr C.P C.L f C.ks ds C.rk rs := correct_of_tree hC ht (Nat.le_of_ble_eq_true hn) hev
end Fw
