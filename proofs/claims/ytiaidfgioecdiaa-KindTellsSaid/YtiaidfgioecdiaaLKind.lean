/- A symbolic machine for the model's code, and what it shows of this seat's functions. No conditions. -/
import Derived.Test.YtiaidfgioecdiaaK3
import Derived.Test.YtiaidfgioecdiaaRows
import Derived.WalkKit
import Derived.ProofKit
set_option linter.unusedSimpArgs false
set_option linter.unusedVariables false
namespace Go.Proofs.Ytiaidfgioecdiaa
open Go.BB Go.ChangeShapes Go.WideShapes Go.ChangeAt Go.RowKit
namespace Bb
theorem own : ownKnob Try.prog.godebug = none := by kernel_rfl
theorem laidOut : laidOutB Try.prog = true := by kernel_rfl
theorem reads (ts : List Nat) (h : (ts.all fun t => Try.prog.readableRec t && decide (t < Try.prog.types.size)) = true) : ∀ t ∈ ts, Try.prog.readableRec t = true ∧ t < Try.prog.types.size := by
  intro t ht
  have := List.all_eq_true.1 h t ht
  simpa using this
end Bb
namespace kindOne
set_option maxRecDepth 100000 in
theorem lifted (os : Os) (started : os.Started) (H : Type) (enc : TypeId × Value → H) :
    ReturnsInHanded {} Try.checked os 13 .any (Rows.kindOneSpec.pre6 enc Try.prog Try.f13 Rows.kindOneRow.domain false) (Rows.kindOneSpec.post enc Try.prog Try.f13 false true false false) :=
  law_lifted (C := Try.checked) (O := O0) (tys := [.int .i64, .bool]) Bb.own started (by kernel_rfl) Try.func13
    (ChangeSpec.witness6 (enc := enc) (C := Try.checked) false ⟨#[], #[.int .i64 0, .bool false], []⟩ 8 (by kernel_rfl) (by kernel_rfl) (by kernel_rfl) (by kernel_rfl))
    Bb.laidOut ⟨Try.underlying3, Try.underlying4, trivial⟩ (Bb.reads _ (by kernel_rfl)) rfl Try.underlying4 rfl (fun ds h => by match ds, h with | [_, _], _ => rfl) v13 (fun x _ => ⟨_, rfl⟩)
theorem over : Rows.kindOneRow.holds Try.pinned (OpenSpec.ofChange Rows.kindOneSpec) :=
  OpenClaim.holds_of_wide 13 Try.f13 rfl rfl rfl rfl rfl rfl rfl ⟨rfl, rfl, rfl, rfl, rfl⟩ rfl rfl rfl rfl rfl (by kernel_rfl) Try.func13 (by kernel_rfl)
    (of_decide_eq_true (by kernel_rfl)) (by unfold Func.isWrapper; first | (rw [if_pos (by decide +kernel)]; kernel_rfl) | (rw [if_neg (by decide +kernel)]; exact ⟨rfl, rfl⟩))
    (fun os started H enc _ => lifted os started H enc)
end kindOne
/-- The row KindOne. -/
theorem kindOne_holds : Rows.KindOneSaid := kindOne.over
#print axioms kindOne_holds
namespace kindTells
set_option maxRecDepth 100000 in
theorem lifted (os : Os) (started : os.Started) (H : Type) (enc : TypeId × Value → H) :
    ReturnsInHanded {} Try.checked os 14 .any (Rows.kindTellsSpec.pre6 enc Try.prog Try.f14 Rows.kindTellsRow.domain false) (Rows.kindTellsSpec.post enc Try.prog Try.f14 false true false false) :=
  law_lifted (C := Try.checked) (O := O0) (tys := [.int .i64, .bool, .int .i64]) Bb.own started (by kernel_rfl) Try.func14
    (ChangeSpec.witness6 (enc := enc) (C := Try.checked) false ⟨#[], #[.int .i64 0, .bool false, .int .i64 0], []⟩ 8 (by kernel_rfl) (by kernel_rfl) (by kernel_rfl) (by kernel_rfl))
    Bb.laidOut ⟨Try.underlying3, Try.underlying4, Try.underlying3, trivial⟩ (Bb.reads _ (by kernel_rfl)) rfl Try.underlying4 rfl (fun ds h => by match ds, h with | [_, _, _], _ => rfl) v14 (fun x _ => ⟨_, rfl⟩)
theorem over : Rows.kindTellsRow.holds Try.pinned (OpenSpec.ofChange Rows.kindTellsSpec) :=
  OpenClaim.holds_of_wide 14 Try.f14 rfl rfl rfl rfl rfl rfl rfl ⟨rfl, rfl, rfl, rfl, rfl⟩ rfl rfl rfl rfl rfl (by kernel_rfl) Try.func14 (by kernel_rfl)
    (of_decide_eq_true (by kernel_rfl)) (by unfold Func.isWrapper; first | (rw [if_pos (by decide +kernel)]; kernel_rfl) | (rw [if_neg (by decide +kernel)]; exact ⟨rfl, rfl⟩))
    (fun os started H enc _ => lifted os started H enc)
end kindTells
/-- The row KindTells. -/
theorem kindTells_holds : Rows.KindTellsSaid := kindTells.over
#print axioms kindTells_holds
end Go.Proofs.Ytiaidfgioecdiaa
