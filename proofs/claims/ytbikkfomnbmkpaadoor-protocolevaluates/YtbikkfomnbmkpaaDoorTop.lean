/- The call of the law answers true for every input and leaves its arguments as they were: the tied card of ProtocolEvaluatesCardSaid. No condition beyond the row's own. -/
import Derived.Test.YtbikkfomnbmkpaaDoorFwSA
import Derived.Test.YtbikkfomnbmkpaaDoorFwZ
import Derived.Test.YtbikkfomnbmkpaaDoorCards
import Derived.Test.YtbikkfomnbmkpaaDoorTie
import Derived.Stop.Joined
namespace Go.Proofs.YtbikkfomnbmkpaaDoor
open Go Go.RowKit
theorem own : ownKnob Tryd.prog.godebug = none := by kernel_rfl
theorem laid_plain {W : World} (h : laidMetH Tryd.prog Rows.protocolEvaluatesRow.laid W) : Fw.SA.lay.p W := by
  rw [MakeChecks.laidMetH_plain _ _ _ (by kernel_rfl)] at h
  intro x hx
  simp only [Fw.tables, List.mem_cons, List.not_mem_nil, or_false] at hx
  rcases hx with rfl | rfl
  · exact Fw.tabIs_of_laid (by kernel_rfl) 4 (by kernel_rfl) h
  · exact Fw.tabIs_of_laid (by kernel_rfl) 2 (by kernel_rfl) h
theorem seen_world (os : Os) (args : Array Value) : laidMetH Tryd.prog Rows.protocolEvaluatesRow.laid ((World.laidAll Tryd.prog os Rows.protocolEvaluatesRow.laid).forCall (fun _ _ => 0) ⟨#[], args, []⟩).memory := by
  rw [MakeChecks.laidMetH_plain _ _ _ (by kernel_rfl)]; exact laidMet_laidAll _ (by kernel_rfl) (by kernel_rfl)
set_option maxRecDepth 100000 in
theorem protocolEvaluates_lifted (os : Os) (started : os.Started) (H : Type) (enc : TypeId × Value → H) :
    ReturnsInHanded {} Tryd.checked os 3 .any (fun w args => (Rows.protocolEvaluatesSpec.pre enc Tryd.prog Tryd.f3 Rows.protocolEvaluatesRow.domain false w args ∧ laidMetH Tryd.prog Rows.protocolEvaluatesRow.laid w) ∧ sizedMet enc Tryd.prog Tryd.f3 (OpenSpec.ofChange Rows.protocolEvaluatesSpec) false w args)
      (Rows.protocolEvaluatesSpec.post enc Tryd.prog Tryd.f3 false true false false) := by
  refine returnsInHanded_of_change_and (C := Tryd.checked) (X := fun w _ => laidMetH Tryd.prog Rows.protocolEvaluatesRow.laid w) (fun _ _ _ hh h => h.of_heap hh) own started (by kernel_rfl) Tryd.func3
    (ChangeSpec.witness_shaped (enc := enc) (C := Tryd.checked) (os := os) (X := fun w _ => laidMetH Tryd.prog Rows.protocolEvaluatesRow.laid w) false (World.laidAll Tryd.prog os Rows.protocolEvaluatesRow.laid)
      #[.agg #[.int .i64 0, .int .i64 0, .int .i64 0, .int .i64 0], .agg #[.int .i64 0, .int .i64 0, .int .i64 0]] 8 (World.laidAll_os _ _ _)
      (World.shaped_of_ZipB (by kernel_rfl) (by kernel_rfl)) (by kernel_rfl) (by kernel_rfl) (by kernel_rfl) (seen_world os _)) ?_
  intro W base args ds gs before hval hW _ _ hL _
  exact Fw.post_true (n := 8) (b := 4) (by kernel_rfl) (by kernel_rfl) (by kernel_rfl) (by kernel_rfl) rfl
    (fun ds h => by
      rw [Tryd.params3] at h
      match ds, h with
      | [d1, d2], _ => rfl)
    (by rw [Tryd.params3]; kernel_rfl) (by decide) hval hW (laid_plain hL) (fun xs => Fw.SA.spec_law02_ProtocolEvaluates xs trivial)
theorem protocolEvaluates_holds : Rows.ProtocolEvaluatesSaid :=
  OpenClaim.holds_of_wide 3 Tryd.f3 rfl rfl rfl rfl rfl rfl rfl ⟨rfl, rfl, rfl, rfl, rfl⟩ rfl rfl rfl rfl rfl (by kernel_rfl) Tryd.func3 (by kernel_rfl)
    (of_decide_eq_true (by kernel_rfl)) (by unfold Func.isWrapper; first | (rw [if_pos (by decide +kernel)]; kernel_rfl) | (rw [if_neg (by decide +kernel)]; exact ⟨rfl, rfl⟩))
    (fun os started H enc _ => protocolEvaluates_lifted os started H enc)
theorem protocolEvaluatesCard_holds : Rows.ProtocolEvaluatesCardSaid :=
  Claim7.holds_tied_plain_at .later [] _ _ _ _ protocolEvaluates_holds (fun _ h => by cases h) (by kernel_rfl) (fun _ h => by cases h) protocolEvaluates_row_tie rfl ⟨rfl, rfl⟩ (by kernel_rfl) rfl
    (fun f fn hf hfn => by
      obtain rfl : f = 3 := Option.some.inj ((show Tryd.prog.funcNamed "familycheck/familychecklaw02.ProtocolEvaluates" = some 3 by kernel_rfl).symm.trans hf) |>.symm
      obtain rfl : fn = Tryd.f3 := (Option.some.inj (Tryd.func3.symm.trans hfn)).symm
      exact ⟨by kernel_rfl, Fw.plainParams (by kernel_rfl)⟩)
    (by kernel_rfl)
#print axioms protocolEvaluatesCard_holds
end Go.Proofs.YtbikkfomnbmkpaaDoor
