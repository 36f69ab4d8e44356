/- A symbolic machine for the model's code, and what it shows of this seat's functions. No conditions. -/
import Derived.Test.YteaomngbkklfoaaQLawValid
import Derived.Test.YteaomngbkklfoaaRows
import Derived.WalkKit
import Derived.ProofKit
set_option linter.unusedSimpArgs false
set_option linter.unusedVariables false
namespace Go.Proofs.Yteaomngbkklfoaa
open Go.BB Go.ChangeShapes Go.WideShapes Go.ChangeAt Go.RowKit
namespace Bb
theorem own : ownKnob Try.prog.godebug = none := by kernel_rfl
theorem laidOut : laidOutB Try.prog = true := by kernel_rfl
theorem reads (ts : List Nat) (h : (ts.all fun t => Try.prog.readableRec t && decide (t < Try.prog.types.size)) = true) : ∀ t ∈ ts, Try.prog.readableRec t = true ∧ t < Try.prog.types.size := by
  intro t ht
  have := List.all_eq_true.1 h t ht
  simpa using this
end Bb
namespace validTells
set_option maxRecDepth 100000 in
theorem lifted (os : Os) (started : os.Started) (H : Type) (enc : TypeId × Value → H) :
    ReturnsInHanded {} Try.checked os 3 .any (Rows.validTellsSpec.pre6 enc Try.prog Try.f3 Rows.validTellsRow.domain false) (Rows.validTellsSpec.post enc Try.prog Try.f3 false true false false) :=
  law_lifted2 (C := Try.checked) (O := O0) (tys := [.slice tI, .slice tI, tU]) Bb.own started (by kernel_rfl) Try.func3
    (ChangeSpec.witness6 (enc := enc) (C := Try.checked) false ⟨#[], #[.slice none 0 0, .slice none 0 0, .int .u64 0], []⟩ 8 (by kernel_rfl) (by kernel_rfl) (by kernel_rfl) (by kernel_rfl))
    Bb.laidOut (by kernel_rfl) (Bb.reads _ (by kernel_rfl)) rfl Try.underlying4 rfl (fun ds h => by match ds, h with | [_, _, _], _ => rfl) lv_ValidTells (fun x h => ⟨_, grd_t (isU_in h.2.2.1)⟩)
theorem over : Rows.validTellsRow.holds Try.pinned (OpenSpec.ofChange Rows.validTellsSpec) :=
  OpenClaim.holds_of_wide 3 Try.f3 rfl rfl rfl rfl rfl rfl rfl ⟨rfl, rfl, rfl, rfl, rfl⟩ rfl rfl rfl rfl rfl (by kernel_rfl) Try.func3 (by kernel_rfl)
    (of_decide_eq_true (by kernel_rfl)) (by unfold Func.isWrapper; first | (rw [if_pos (by decide +kernel)]; kernel_rfl) | (rw [if_neg (by decide +kernel)]; exact ⟨rfl, rfl⟩))
    (fun os started H enc _ => lifted os started H enc)
end validTells
/-- The row ValidTells. -/
theorem validTells_holds : Rows.ValidTellsSaid := validTells.over
#print axioms validTells_holds
namespace validFresh
set_option maxRecDepth 100000 in
theorem lifted (os : Os) (started : os.Started) (H : Type) (enc : TypeId × Value → H) :
    ReturnsInHanded {} Try.checked os 6 .any (Rows.validFreshSpec.pre6 enc Try.prog Try.f6 Rows.validFreshRow.domain false) (Rows.validFreshSpec.post enc Try.prog Try.f6 false true false false) :=
  law_lifted2 (C := Try.checked) (O := O0) (tys := [.slice tI, tI, tU]) Bb.own started (by kernel_rfl) Try.func6
    (ChangeSpec.witness6 (enc := enc) (C := Try.checked) false ⟨#[], #[.slice none 0 0, .int .i64 0, .int .u64 0], []⟩ 8 (by kernel_rfl) (by kernel_rfl) (by kernel_rfl) (by kernel_rfl))
    Bb.laidOut (by kernel_rfl) (Bb.reads _ (by kernel_rfl)) rfl Try.underlying4 rfl (fun ds h => by match ds, h with | [_, _, _], _ => rfl) lv_ValidFresh (fun x h => ⟨_, grd_t (isU_in h.2.2.1)⟩)
theorem over : Rows.validFreshRow.holds Try.pinned (OpenSpec.ofChange Rows.validFreshSpec) :=
  OpenClaim.holds_of_wide 6 Try.f6 rfl rfl rfl rfl rfl rfl rfl ⟨rfl, rfl, rfl, rfl, rfl⟩ rfl rfl rfl rfl rfl (by kernel_rfl) Try.func6 (by kernel_rfl)
    (of_decide_eq_true (by kernel_rfl)) (by unfold Func.isWrapper; first | (rw [if_pos (by decide +kernel)]; kernel_rfl) | (rw [if_neg (by decide +kernel)]; exact ⟨rfl, rfl⟩))
    (fun os started H enc _ => lifted os started H enc)
end validFresh
/-- The row ValidFresh. -/
theorem validFresh_holds : Rows.ValidFreshSaid := validFresh.over
#print axioms validFresh_holds
namespace validParts
set_option maxRecDepth 100000 in
theorem lifted (os : Os) (started : os.Started) (H : Type) (enc : TypeId × Value → H) :
    ReturnsInHanded {} Try.checked os 4 .any (Rows.validPartsSpec.pre6 enc Try.prog Try.f4 Rows.validPartsRow.domain false) (Rows.validPartsSpec.post enc Try.prog Try.f4 false true false false) :=
  law_lifted2 (C := Try.checked) (O := O0) (tys := [.slice tI, .slice tI, tU, tU]) Bb.own started (by kernel_rfl) Try.func4
    (ChangeSpec.witness6 (enc := enc) (C := Try.checked) false ⟨#[], #[.slice none 0 0, .slice none 0 0, .int .u64 0, .int .u64 0], []⟩ 8 (by kernel_rfl) (by kernel_rfl) (by kernel_rfl) (by kernel_rfl))
    Bb.laidOut (by kernel_rfl) (Bb.reads _ (by kernel_rfl)) rfl Try.underlying4 rfl (fun ds h => by match ds, h with | [_, _, _, _], _ => rfl) lv_ValidParts (fun x h => ⟨_, grd_t (and_t (isU_in h.2.2.1) (isU_in h.2.2.2.1))⟩)
theorem over : Rows.validPartsRow.holds Try.pinned (OpenSpec.ofChange Rows.validPartsSpec) :=
  OpenClaim.holds_of_wide 4 Try.f4 rfl rfl rfl rfl rfl rfl rfl ⟨rfl, rfl, rfl, rfl, rfl⟩ rfl rfl rfl rfl rfl (by kernel_rfl) Try.func4 (by kernel_rfl)
    (of_decide_eq_true (by kernel_rfl)) (by unfold Func.isWrapper; first | (rw [if_pos (by decide +kernel)]; kernel_rfl) | (rw [if_neg (by decide +kernel)]; exact ⟨rfl, rfl⟩))
    (fun os started H enc _ => lifted os started H enc)
end validParts
/-- The row ValidParts. -/
theorem validParts_holds : Rows.ValidPartsSaid := validParts.over
#print axioms validParts_holds
namespace validWrites
set_option maxRecDepth 100000 in
theorem lifted (os : Os) (started : os.Started) (H : Type) (enc : TypeId × Value → H) :
    ReturnsInHanded {} Try.checked os 5 .any (Rows.validWritesSpec.pre6 enc Try.prog Try.f5 Rows.validWritesRow.domain false) (Rows.validWritesSpec.post enc Try.prog Try.f5 false true false false) :=
  law_lifted2 (C := Try.checked) (O := O0) (tys := [.slice tI, .slice tI, tI]) Bb.own started (by kernel_rfl) Try.func5
    (ChangeSpec.witness6 (enc := enc) (C := Try.checked) false ⟨#[], #[.slice none 0 0, .slice none 0 0, .int .i64 0], []⟩ 8 (by kernel_rfl) (by kernel_rfl) (by kernel_rfl) (by kernel_rfl))
    Bb.laidOut (by kernel_rfl) (Bb.reads _ (by kernel_rfl)) rfl Try.underlying4 rfl (fun ds h => by match ds, h with | [_, _, _], _ => rfl) lv_ValidWrites (fun x h => ⟨_, grd_t rfl⟩)
theorem over : Rows.validWritesRow.holds Try.pinned (OpenSpec.ofChange Rows.validWritesSpec) :=
  OpenClaim.holds_of_wide 5 Try.f5 rfl rfl rfl rfl rfl rfl rfl ⟨rfl, rfl, rfl, rfl, rfl⟩ rfl rfl rfl rfl rfl (by kernel_rfl) Try.func5 (by kernel_rfl)
    (of_decide_eq_true (by kernel_rfl)) (by unfold Func.isWrapper; first | (rw [if_pos (by decide +kernel)]; kernel_rfl) | (rw [if_neg (by decide +kernel)]; exact ⟨rfl, rfl⟩))
    (fun os started H enc _ => lifted os started H enc)
end validWrites
/-- The row ValidWrites. -/
theorem validWrites_holds : Rows.ValidWritesSaid := validWrites.over
#print axioms validWrites_holds
end Go.Proofs.Yteaomngbkklfoaa
