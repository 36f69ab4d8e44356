/- A symbolic machine for the model's code, and what it shows of this seat's functions. No conditions. -/
import Derived.Test.YtcdnkkakfkkpgaaQLawStore
import Derived.Test.YtcdnkkakfkkpgaaRows
import Derived.WalkKit
import Derived.ProofKit
set_option linter.unusedSimpArgs false
set_option linter.unusedVariables false
namespace Go.Proofs.Ytcdnkkakfkkpgaa
open Go.BB Go.ChangeShapes Go.WideShapes Go.ChangeAt Go.RowKit
namespace Bb
theorem own : ownKnob Try.prog.godebug = none := by kernel_rfl
theorem laidOut : laidOutB Try.prog = true := by kernel_rfl
theorem reads (ts : List Nat) (h : (ts.all fun t => Try.prog.readableRec t && decide (t < Try.prog.types.size)) = true) : ∀ t ∈ ts, Try.prog.readableRec t = true ∧ t < Try.prog.types.size := by
  intro t ht
  have := List.all_eq_true.1 h t ht
  simpa using this
end Bb
namespace storeSpent
set_option maxRecDepth 100000 in
theorem lifted (os : Os) (started : os.Started) (H : Type) (enc : TypeId × Value → H) :
    ReturnsInHanded {} Try.checked os 3 .any (Rows.storeSpentSpec.pre6 enc Try.prog Try.f3 Rows.storeSpentRow.domain false) (Rows.storeSpentSpec.post enc Try.prog Try.f3 false true false false) :=
  law_lifted2 (C := Try.checked) (O := O0) (tys := [.slice tI, tI]) Bb.own started (by kernel_rfl) Try.func3
    (ChangeSpec.witness6 (enc := enc) (C := Try.checked) false ⟨#[], #[.slice none 0 0, .int .i64 0], []⟩ 8 (by kernel_rfl) (by kernel_rfl) (by kernel_rfl) (by kernel_rfl))
    Bb.laidOut (by kernel_rfl) (Bb.reads _ (by kernel_rfl)) rfl Try.underlying4 rfl (fun ds h => by match ds, h with | [_, _], _ => rfl) lv_StoreSpent (fun x h => ⟨_, grd_t rfl⟩)
theorem over : Rows.storeSpentRow.holds Try.pinned (OpenSpec.ofChange Rows.storeSpentSpec) :=
  OpenClaim.holds_of_wide 3 Try.f3 rfl rfl rfl rfl rfl rfl rfl ⟨rfl, rfl, rfl, rfl, rfl⟩ rfl rfl rfl rfl rfl (by kernel_rfl) Try.func3 (by kernel_rfl)
    (of_decide_eq_true (by kernel_rfl)) (by unfold Func.isWrapper; first | (rw [if_pos (by decide +kernel)]; kernel_rfl) | (rw [if_neg (by decide +kernel)]; exact ⟨rfl, rfl⟩))
    (fun os started H enc _ => lifted os started H enc)
end storeSpent
/-- The row StoreSpent. -/
theorem storeSpent_holds : Rows.StoreSpentSaid := storeSpent.over
#print axioms storeSpent_holds
namespace storeWhole
set_option maxRecDepth 100000 in
theorem lifted (os : Os) (started : os.Started) (H : Type) (enc : TypeId × Value → H) :
    ReturnsInHanded {} Try.checked os 5 .any (Rows.storeWholeSpec.pre6 enc Try.prog Try.f5 Rows.storeWholeRow.domain false) (Rows.storeWholeSpec.post enc Try.prog Try.f5 false true false false) :=
  law_lifted2 (C := Try.checked) (O := O0) (tys := [.slice tI, .slice tI]) Bb.own started (by kernel_rfl) Try.func5
    (ChangeSpec.witness6 (enc := enc) (C := Try.checked) false ⟨#[], #[.slice none 0 0, .slice none 0 0], []⟩ 8 (by kernel_rfl) (by kernel_rfl) (by kernel_rfl) (by kernel_rfl))
    Bb.laidOut (by kernel_rfl) (Bb.reads _ (by kernel_rfl)) rfl Try.underlying4 rfl (fun ds h => by match ds, h with | [_, _], _ => rfl) lv_StoreWhole (fun x h => ⟨_, grd_t rfl⟩)
theorem over : Rows.storeWholeRow.holds Try.pinned (OpenSpec.ofChange Rows.storeWholeSpec) :=
  OpenClaim.holds_of_wide 5 Try.f5 rfl rfl rfl rfl rfl rfl rfl ⟨rfl, rfl, rfl, rfl, rfl⟩ rfl rfl rfl rfl rfl (by kernel_rfl) Try.func5 (by kernel_rfl)
    (of_decide_eq_true (by kernel_rfl)) (by unfold Func.isWrapper; first | (rw [if_pos (by decide +kernel)]; kernel_rfl) | (rw [if_neg (by decide +kernel)]; exact ⟨rfl, rfl⟩))
    (fun os started H enc _ => lifted os started H enc)
end storeWhole
/-- The row StoreWhole. -/
theorem storeWhole_holds : Rows.StoreWholeSaid := storeWhole.over
#print axioms storeWhole_holds
end Go.Proofs.Ytcdnkkakfkkpgaa
