/- The call of the law answers true for every input and leaves its arguments as they were: the tied card of ProtocolEqualsCardSaid. No condition beyond the row's own. -/
import Derived.Test.YtbikkfomnbmkpaaDoorFwSA5
import Derived.Test.YtbikkfomnbmkpaaDoorFwZ
import Derived.Test.YtbikkfomnbmkpaaDoorCards
import Derived.Test.YtbikkfomnbmkpaaDoorTie
namespace Go.Proofs.YtbikkfomnbmkpaaDoor
open Go Go.RowKit
theorem own : ownKnob Tryd.prog.godebug = none := by kernel_rfl
theorem laid_plain {W : World} (h : laidMetH Tryd.prog Rows.protocolEqualsRow.laid W) : Fw.SA.lay.p W := by
  rw [MakeChecks.laidMetH_plain _ _ _ (by kernel_rfl)] at h
  intro x hx
  simp only [Fw.tables, List.mem_cons, List.not_mem_nil, or_false] at hx
  rcases hx with rfl | rfl
  · exact Fw.tabIs_of_laid (by kernel_rfl) 4 (by kernel_rfl) h
  · exact Fw.tabIs_of_laid (by kernel_rfl) 2 (by kernel_rfl) h
theorem seen_world (os : Os) (args : Array Value) : laidMetH Tryd.prog Rows.protocolEqualsRow.laid ((World.laidAll Tryd.prog os Rows.protocolEqualsRow.laid).forCall (fun _ _ => 0) ⟨#[], args, []⟩).memory := by
  rw [MakeChecks.laidMetH_plain _ _ _ (by kernel_rfl)]; exact laidMet_laidAll _ (by kernel_rfl) (by kernel_rfl)
set_option maxRecDepth 100000 in
theorem protocolEquals_lifted (os : Os) (started : os.Started) (H : Type) (enc : TypeId × Value → H) :
    ReturnsInHanded {} Tryd.checked os 5 .any (fun w args => (Rows.protocolEqualsSpec.pre enc Tryd.prog Tryd.f5 Rows.protocolEqualsRow.domain false w args ∧ laidMetH Tryd.prog Rows.protocolEqualsRow.laid w) ∧ sizedMet enc Tryd.prog Tryd.f5 (OpenSpec.ofChange Rows.protocolEqualsSpec) false w args)
      (Rows.protocolEqualsSpec.post enc Tryd.prog Tryd.f5 false true false false) := by
  refine returnsInHanded_of_change_and (C := Tryd.checked) (X := fun w _ => laidMetH Tryd.prog Rows.protocolEqualsRow.laid w) (fun _ _ _ hh h => h.of_heap hh) own started (by kernel_rfl) Tryd.func5
    (ChangeSpec.witness_shaped (enc := enc) (C := Tryd.checked) (os := os) (X := fun w _ => laidMetH Tryd.prog Rows.protocolEqualsRow.laid w) false (World.laidAll Tryd.prog os Rows.protocolEqualsRow.laid)
      #[.agg #[.string ByteArray.empty, .int .i64 0, .slice none 0 0, .slice none 0 0, .slice none 0 0, .int .i64 0, .slice none 0 0, .slice none 0 0, .slice none 0 0, .slice none 0 0], .agg #[.string ByteArray.empty, .int .i64 0, .slice none 0 0, .slice none 0 0, .slice none 0 0, .int .i64 0, .slice none 0 0, .slice none 0 0, .slice none 0 0, .slice none 0 0]] 8 (World.laidAll_os _ _ _)
      (World.shaped_of_ZipB (by kernel_rfl) (by kernel_rfl)) (by kernel_rfl) (by kernel_rfl) (by kernel_rfl) (seen_world os _)) ?_
  intro W base args ds gs before hval hW _ _ hL _
  exact Fw.post_true (n := 8) (b := 4) (by kernel_rfl) (by kernel_rfl) (by kernel_rfl) (by kernel_rfl) rfl
    (fun ds h => by
      rw [Tryd.params5] at h
      match ds, h with
      | [d0, d1], _ => rfl)
    (by rw [Tryd.params5]; kernel_rfl) (by decide) hval hW (laid_plain hL) (fun xs => Fw.SA.spec_law02_ProtocolEquals xs trivial)
theorem protocolEquals_holds : Rows.ProtocolEqualsSaid :=
  OpenClaim.holds_of_wide 5 Tryd.f5 rfl rfl rfl rfl rfl rfl rfl ⟨rfl, rfl, rfl, rfl, rfl⟩ rfl rfl rfl rfl rfl (by kernel_rfl) Tryd.func5 (by kernel_rfl)
    (of_decide_eq_true (by kernel_rfl)) (by unfold Func.isWrapper; first | (rw [if_pos (by decide +kernel)]; kernel_rfl) | (rw [if_neg (by decide +kernel)]; exact ⟨rfl, rfl⟩))
    (fun os started H enc _ => protocolEquals_lifted os started H enc)
theorem protocolEqualsCard_holds : Rows.ProtocolEqualsCardSaid :=
  Claim7.holds_tied_plain_at .later [] _ _ _ _ protocolEquals_holds (fun _ h => by cases h) (by kernel_rfl) (fun _ h => by cases h) protocolEquals_row_tie rfl ⟨rfl, rfl⟩ (by kernel_rfl) rfl
    (fun f fn hf hfn => by
      obtain rfl : f = 5 := Option.some.inj ((show Tryd.prog.funcNamed "familycheck/familychecklaw02.ProtocolEquals" = some 5 by kernel_rfl).symm.trans hf) |>.symm
      obtain rfl : fn = Tryd.f5 := (Option.some.inj (Tryd.func5.symm.trans hfn)).symm
      exact ⟨by kernel_rfl, Fw.plainParams (by kernel_rfl)⟩)
    (by kernel_rfl)
#print axioms protocolEqualsCard_holds
end Go.Proofs.YtbikkfomnbmkpaaDoor
