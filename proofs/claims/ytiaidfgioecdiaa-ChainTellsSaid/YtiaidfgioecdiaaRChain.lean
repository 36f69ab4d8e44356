/- A symbolic machine for the model's code, and what it shows of this seat's functions. No conditions. -/
import Derived.Test.YtiaidfgioecdiaaLawChain
import Derived.Test.YtiaidfgioecdiaaRows
import Derived.WalkKit
import Derived.ProofKit
set_option linter.unusedSimpArgs false
set_option linter.unusedVariables false
namespace Go.Proofs.Ytiaidfgioecdiaa
open Go.BB Go.ChangeShapes Go.WideShapes Go.ChangeAt Go.RowKit
namespace Bb
theorem own : ownKnob Try.prog.godebug = none := by kernel_rfl
theorem laidOut : laidOutB Try.prog = true := by kernel_rfl
theorem reads (ts : List Nat) (h : (ts.all fun t => Try.prog.readableRec t && decide (t < Try.prog.types.size)) = true) : ∀ t ∈ ts, Try.prog.readableRec t = true ∧ t < Try.prog.types.size := by
  intro t ht
  have := List.all_eq_true.1 h t ht
  simpa using this
end Bb
namespace chainTells
set_option maxRecDepth 100000 in
theorem lifted (os : Os) (started : os.Started) (H : Type) (enc : TypeId × Value → H) :
    ReturnsInHanded {} Try.checked os 6 .any (Rows.chainTellsSpec.pre6 enc Try.prog Try.f6 Rows.chainTellsRow.domain false) (Rows.chainTellsSpec.post enc Try.prog Try.f6 false true false false) :=
  law_lifted2 (C := Try.checked) (O := O0) (tys := [.slice tVer, .slice tI, tI, tU]) Bb.own started (by kernel_rfl) Try.func6
    (ChangeSpec.witness6 (enc := enc) (C := Try.checked) false ⟨#[], #[.slice none 0 0, .slice none 0 0, .int .i64 0, .int .u64 0], []⟩ 8 (by kernel_rfl) (by kernel_rfl) (by kernel_rfl) (by kernel_rfl))
    Bb.laidOut (by kernel_rfl) (Bb.reads _ (by kernel_rfl)) rfl Try.underlying4 rfl (fun ds h => by match ds, h with | [_, _, _, _], _ => rfl) lv_ChainTells (fun x h => ⟨_, grd_t (and_t (allU_in h.1) (isU_in h.2.2.2.1))⟩)
theorem over : Rows.chainTellsRow.holds Try.pinned (OpenSpec.ofChange Rows.chainTellsSpec) :=
  OpenClaim.holds_of_wide 6 Try.f6 rfl rfl rfl rfl rfl rfl rfl ⟨rfl, rfl, rfl, rfl, rfl⟩ rfl rfl rfl rfl rfl (by kernel_rfl) Try.func6 (by kernel_rfl)
    (of_decide_eq_true (by kernel_rfl)) (by unfold Func.isWrapper; first | (rw [if_pos (by decide +kernel)]; kernel_rfl) | (rw [if_neg (by decide +kernel)]; exact ⟨rfl, rfl⟩))
    (fun os started H enc _ => lifted os started H enc)
end chainTells
/-- The row ChainTells. -/
theorem chainTells_holds : Rows.ChainTellsSaid := chainTells.over
#print axioms chainTells_holds
namespace chainKeeps
set_option maxRecDepth 100000 in
theorem lifted (os : Os) (started : os.Started) (H : Type) (enc : TypeId × Value → H) :
    ReturnsInHanded {} Try.checked os 7 .any (Rows.chainKeepsSpec.pre6 enc Try.prog Try.f7 Rows.chainKeepsRow.domain false) (Rows.chainKeepsSpec.post enc Try.prog Try.f7 false true false false) :=
  law_lifted2 (C := Try.checked) (O := O0) (tys := [.slice tI, tU, tU, tU]) Bb.own started (by kernel_rfl) Try.func7
    (ChangeSpec.witness6 (enc := enc) (C := Try.checked) false ⟨#[], #[.slice none 0 0, .int .u64 0, .int .u64 0, .int .u64 0], []⟩ 8 (by kernel_rfl) (by kernel_rfl) (by kernel_rfl) (by kernel_rfl))
    Bb.laidOut (by kernel_rfl) (Bb.reads _ (by kernel_rfl)) rfl Try.underlying4 rfl (fun ds h => by match ds, h with | [_, _, _, _], _ => rfl) lv_ChainKeeps (fun x h => ⟨_, grd_t (and_t (isU_in h.2.1) (and_t (isU_in h.2.2.1) (isU_in h.2.2.2.1)))⟩)
theorem over : Rows.chainKeepsRow.holds Try.pinned (OpenSpec.ofChange Rows.chainKeepsSpec) :=
  OpenClaim.holds_of_wide 7 Try.f7 rfl rfl rfl rfl rfl rfl rfl ⟨rfl, rfl, rfl, rfl, rfl⟩ rfl rfl rfl rfl rfl (by kernel_rfl) Try.func7 (by kernel_rfl)
    (of_decide_eq_true (by kernel_rfl)) (by unfold Func.isWrapper; first | (rw [if_pos (by decide +kernel)]; kernel_rfl) | (rw [if_neg (by decide +kernel)]; exact ⟨rfl, rfl⟩))
    (fun os started H enc _ => lifted os started H enc)
end chainKeeps
/-- The row ChainKeeps. -/
theorem chainKeeps_holds : Rows.ChainKeepsSaid := chainKeeps.over
#print axioms chainKeeps_holds
namespace chainAsks
set_option maxRecDepth 100000 in
theorem lifted (os : Os) (started : os.Started) (H : Type) (enc : TypeId × Value → H) :
    ReturnsInHanded {} Try.checked os 10 .any (Rows.chainAsksSpec.pre6 enc Try.prog Try.f10 Rows.chainAsksRow.domain false) (Rows.chainAsksSpec.post enc Try.prog Try.f10 false true false false) :=
  law_lifted2 (C := Try.checked) (O := O0) (tys := [.slice tI, tU, .bool, tVer]) Bb.own started (by kernel_rfl) Try.func10
    (ChangeSpec.witness6 (enc := enc) (C := Try.checked) false ⟨#[], #[.slice none 0 0, .int .u64 0, .bool false, .agg #[.int .u64 0, .int .u16 0]], []⟩ 8 (by kernel_rfl) (by kernel_rfl) (by kernel_rfl) (by kernel_rfl))
    Bb.laidOut (by kernel_rfl) (Bb.reads _ (by kernel_rfl)) rfl Try.underlying4 rfl (fun ds h => by match ds, h with | [_, _, _, _], _ => rfl) lv_ChainAsks (fun x _ => ⟨_, rfl⟩)
theorem over : Rows.chainAsksRow.holds Try.pinned (OpenSpec.ofChange Rows.chainAsksSpec) :=
  OpenClaim.holds_of_wide 10 Try.f10 rfl rfl rfl rfl rfl rfl rfl ⟨rfl, rfl, rfl, rfl, rfl⟩ rfl rfl rfl rfl rfl (by kernel_rfl) Try.func10 (by kernel_rfl)
    (of_decide_eq_true (by kernel_rfl)) (by unfold Func.isWrapper; first | (rw [if_pos (by decide +kernel)]; kernel_rfl) | (rw [if_neg (by decide +kernel)]; exact ⟨rfl, rfl⟩))
    (fun os started H enc _ => lifted os started H enc)
end chainAsks
/-- The row ChainAsks. -/
theorem chainAsks_holds : Rows.ChainAsksSaid := chainAsks.over
#print axioms chainAsks_holds
namespace chainGrows
set_option maxRecDepth 100000 in
theorem lifted (os : Os) (started : os.Started) (H : Type) (enc : TypeId × Value → H) :
    ReturnsInHanded {} Try.checked os 11 .any (Rows.chainGrowsSpec.pre6 enc Try.prog Try.f11 Rows.chainGrowsRow.domain false) (Rows.chainGrowsSpec.post enc Try.prog Try.f11 false true false false) :=
  law_lifted2 (C := Try.checked) (O := O0) (tys := [.slice tI, tU, tW, tU]) Bb.own started (by kernel_rfl) Try.func11
    (ChangeSpec.witness6 (enc := enc) (C := Try.checked) false ⟨#[], #[.slice none 0 0, .int .u64 0, .int .u16 0, .int .u64 0], []⟩ 8 (by kernel_rfl) (by kernel_rfl) (by kernel_rfl) (by kernel_rfl))
    Bb.laidOut (by kernel_rfl) (Bb.reads _ (by kernel_rfl)) rfl Try.underlying4 rfl (fun ds h => by match ds, h with | [_, _, _, _], _ => rfl) lv_ChainGrows (fun x h => ⟨_, grd_t (and_t (isU_in h.2.1) (isU_in h.2.2.2.1))⟩)
theorem over : Rows.chainGrowsRow.holds Try.pinned (OpenSpec.ofChange Rows.chainGrowsSpec) :=
  OpenClaim.holds_of_wide 11 Try.f11 rfl rfl rfl rfl rfl rfl rfl ⟨rfl, rfl, rfl, rfl, rfl⟩ rfl rfl rfl rfl rfl (by kernel_rfl) Try.func11 (by kernel_rfl)
    (of_decide_eq_true (by kernel_rfl)) (by unfold Func.isWrapper; first | (rw [if_pos (by decide +kernel)]; kernel_rfl) | (rw [if_neg (by decide +kernel)]; exact ⟨rfl, rfl⟩))
    (fun os started H enc _ => lifted os started H enc)
end chainGrows
/-- The row ChainGrows. -/
theorem chainGrows_holds : Rows.ChainGrowsSaid := chainGrows.over
#print axioms chainGrows_holds
namespace chainMany
set_option maxRecDepth 100000 in
theorem lifted (os : Os) (started : os.Started) (H : Type) (enc : TypeId × Value → H) :
    ReturnsInHanded {} Try.checked os 12 .any (Rows.chainManySpec.pre6 enc Try.prog Try.f12 Rows.chainManyRow.domain false) (Rows.chainManySpec.post enc Try.prog Try.f12 false true false false) :=
  law_lifted2 (C := Try.checked) (O := O0) (tys := [.slice tI, tU]) Bb.own started (by kernel_rfl) Try.func12
    (ChangeSpec.witness6 (enc := enc) (C := Try.checked) false ⟨#[], #[.slice none 0 0, .int .u64 0], []⟩ 8 (by kernel_rfl) (by kernel_rfl) (by kernel_rfl) (by kernel_rfl))
    Bb.laidOut (by kernel_rfl) (Bb.reads _ (by kernel_rfl)) rfl Try.underlying4 rfl (fun ds h => by match ds, h with | [_, _], _ => rfl) lv_ChainMany (fun x h => ⟨_, grd_t (isU_in h.2.1)⟩)
theorem over : Rows.chainManyRow.holds Try.pinned (OpenSpec.ofChange Rows.chainManySpec) :=
  OpenClaim.holds_of_wide 12 Try.f12 rfl rfl rfl rfl rfl rfl rfl ⟨rfl, rfl, rfl, rfl, rfl⟩ rfl rfl rfl rfl rfl (by kernel_rfl) Try.func12 (by kernel_rfl)
    (of_decide_eq_true (by kernel_rfl)) (by unfold Func.isWrapper; first | (rw [if_pos (by decide +kernel)]; kernel_rfl) | (rw [if_neg (by decide +kernel)]; exact ⟨rfl, rfl⟩))
    (fun os started H enc _ => lifted os started H enc)
end chainMany
/-- The row ChainMany. -/
theorem chainMany_holds : Rows.ChainManySaid := chainMany.over
#print axioms chainMany_holds
end Go.Proofs.Ytiaidfgioecdiaa
