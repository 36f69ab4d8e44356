/- A symbolic machine for the model's code, and what it shows of this seat's functions. No conditions. -/
import Derived.Test.YtcdnkkakfkkpgaaLawBuff
import Derived.Test.YtcdnkkakfkkpgaaRows
import Derived.WalkKit
import Derived.ProofKit
set_option linter.unusedSimpArgs false
set_option linter.unusedVariables false
namespace Go.Proofs.Ytcdnkkakfkkpgaa
open Go.BB Go.ChangeShapes Go.WideShapes Go.ChangeAt Go.RowKit
namespace Bb
theorem own : ownKnob Try.prog.godebug = none := by kernel_rfl
theorem laidOut : laidOutB Try.prog = true := by kernel_rfl
theorem reads (ts : List Nat) (h : (ts.all fun t => Try.prog.readableRec t && decide (t < Try.prog.types.size)) = true) : ∀ t ∈ ts, Try.prog.readableRec t = true ∧ t < Try.prog.types.size := by
  intro t ht
  have := List.all_eq_true.1 h t ht
  simpa using this
end Bb
namespace buffTells
set_option maxRecDepth 100000 in
theorem lifted (os : Os) (started : os.Started) (H : Type) (enc : TypeId × Value → H) :
    ReturnsInHanded {} Try.checked os 9 .any (Rows.buffTellsSpec.pre6 enc Try.prog Try.f9 Rows.buffTellsRow.domain false) (Rows.buffTellsSpec.post enc Try.prog Try.f9 false true false false) :=
  law_lifted2 (C := Try.checked) (O := O0) (tys := [.slice tCell, .slice tI, tI, tI]) Bb.own started (by kernel_rfl) Try.func9
    (ChangeSpec.witness6 (enc := enc) (C := Try.checked) false ⟨#[], #[.slice none 0 0, .slice none 0 0, .int .i64 0, .int .i64 0], []⟩ 8 (by kernel_rfl) (by kernel_rfl) (by kernel_rfl) (by kernel_rfl))
    Bb.laidOut (by kernel_rfl) (Bb.reads _ (by kernel_rfl)) rfl Try.underlying4 rfl (fun ds h => by match ds, h with | [_, _, _, _], _ => rfl) lv_BuffTells (fun x h => ⟨_, grd_t rfl⟩)
theorem over : Rows.buffTellsRow.holds Try.pinned (OpenSpec.ofChange Rows.buffTellsSpec) :=
  OpenClaim.holds_of_wide 9 Try.f9 rfl rfl rfl rfl rfl rfl rfl ⟨rfl, rfl, rfl, rfl, rfl⟩ rfl rfl rfl rfl rfl (by kernel_rfl) Try.func9 (by kernel_rfl)
    (of_decide_eq_true (by kernel_rfl)) (by unfold Func.isWrapper; first | (rw [if_pos (by decide +kernel)]; kernel_rfl) | (rw [if_neg (by decide +kernel)]; exact ⟨rfl, rfl⟩))
    (fun os started H enc _ => lifted os started H enc)
end buffTells
/-- The row BuffTells. -/
theorem buffTells_holds : Rows.BuffTellsSaid := buffTells.over
#print axioms buffTells_holds
namespace buffPuts
set_option maxRecDepth 100000 in
theorem lifted (os : Os) (started : os.Started) (H : Type) (enc : TypeId × Value → H) :
    ReturnsInHanded {} Try.checked os 12 .any (Rows.buffPutsSpec.pre6 enc Try.prog Try.f12 Rows.buffPutsRow.domain false) (Rows.buffPutsSpec.post enc Try.prog Try.f12 false true false false) :=
  law_lifted2 (C := Try.checked) (O := O0) (tys := [.slice tI, tCell, .bool, tI]) Bb.own started (by kernel_rfl) Try.func12
    (ChangeSpec.witness6 (enc := enc) (C := Try.checked) false ⟨#[], #[.slice none 0 0, .agg #[.int .i64 0, .int .i64 0, .int .u16 0], .bool false, .int .i64 0], []⟩ 8 (by kernel_rfl) (by kernel_rfl) (by kernel_rfl) (by kernel_rfl))
    Bb.laidOut (by kernel_rfl) (Bb.reads _ (by kernel_rfl)) rfl Try.underlying4 rfl (fun ds h => by match ds, h with | [_, _, _, _], _ => rfl) lv_BuffPuts (fun x h => ⟨_, grd_t rfl⟩)
theorem over : Rows.buffPutsRow.holds Try.pinned (OpenSpec.ofChange Rows.buffPutsSpec) :=
  OpenClaim.holds_of_wide 12 Try.f12 rfl rfl rfl rfl rfl rfl rfl ⟨rfl, rfl, rfl, rfl, rfl⟩ rfl rfl rfl rfl rfl (by kernel_rfl) Try.func12 (by kernel_rfl)
    (of_decide_eq_true (by kernel_rfl)) (by unfold Func.isWrapper; first | (rw [if_pos (by decide +kernel)]; kernel_rfl) | (rw [if_neg (by decide +kernel)]; exact ⟨rfl, rfl⟩))
    (fun os started H enc _ => lifted os started H enc)
end buffPuts
/-- The row BuffPuts. -/
theorem buffPuts_holds : Rows.BuffPutsSaid := buffPuts.over
#print axioms buffPuts_holds
namespace buffRests
set_option maxRecDepth 100000 in
theorem lifted (os : Os) (started : os.Started) (H : Type) (enc : TypeId × Value → H) :
    ReturnsInHanded {} Try.checked os 8 .any (Rows.buffRestsSpec.pre6 enc Try.prog Try.f8 Rows.buffRestsRow.domain false) (Rows.buffRestsSpec.post enc Try.prog Try.f8 false true false false) :=
  law_lifted2 (C := Try.checked) (O := O0) (tys := [.slice tI, tI, tI]) Bb.own started (by kernel_rfl) Try.func8
    (ChangeSpec.witness6 (enc := enc) (C := Try.checked) false ⟨#[], #[.slice none 0 0, .int .i64 0, .int .i64 0], []⟩ 8 (by kernel_rfl) (by kernel_rfl) (by kernel_rfl) (by kernel_rfl))
    Bb.laidOut (by kernel_rfl) (Bb.reads _ (by kernel_rfl)) rfl Try.underlying4 rfl (fun ds h => by match ds, h with | [_, _, _], _ => rfl) lv_BuffRests (fun x h => ⟨_, grd_t rfl⟩)
theorem over : Rows.buffRestsRow.holds Try.pinned (OpenSpec.ofChange Rows.buffRestsSpec) :=
  OpenClaim.holds_of_wide 8 Try.f8 rfl rfl rfl rfl rfl rfl rfl ⟨rfl, rfl, rfl, rfl, rfl⟩ rfl rfl rfl rfl rfl (by kernel_rfl) Try.func8 (by kernel_rfl)
    (of_decide_eq_true (by kernel_rfl)) (by unfold Func.isWrapper; first | (rw [if_pos (by decide +kernel)]; kernel_rfl) | (rw [if_neg (by decide +kernel)]; exact ⟨rfl, rfl⟩))
    (fun os started H enc _ => lifted os started H enc)
end buffRests
/-- The row BuffRests. -/
theorem buffRests_holds : Rows.BuffRestsSaid := buffRests.over
#print axioms buffRests_holds
namespace buffOrders
set_option maxRecDepth 100000 in
theorem lifted (os : Os) (started : os.Started) (H : Type) (enc : TypeId × Value → H) :
    ReturnsInHanded {} Try.checked os 13 .any (Rows.buffOrdersSpec.pre6 enc Try.prog Try.f13 Rows.buffOrdersRow.domain false) (Rows.buffOrdersSpec.post enc Try.prog Try.f13 false true false false) :=
  law_lifted2 (C := Try.checked) (O := O0) (tys := [.slice tI, tI]) Bb.own started (by kernel_rfl) Try.func13
    (ChangeSpec.witness6 (enc := enc) (C := Try.checked) false ⟨#[], #[.slice none 0 0, .int .i64 0], []⟩ 8 (by kernel_rfl) (by kernel_rfl) (by kernel_rfl) (by kernel_rfl))
    Bb.laidOut (by kernel_rfl) (Bb.reads _ (by kernel_rfl)) rfl Try.underlying4 rfl (fun ds h => by match ds, h with | [_, _], _ => rfl) lv_BuffOrders (fun x h => ⟨_, grd_t rfl⟩)
theorem over : Rows.buffOrdersRow.holds Try.pinned (OpenSpec.ofChange Rows.buffOrdersSpec) :=
  OpenClaim.holds_of_wide 13 Try.f13 rfl rfl rfl rfl rfl rfl rfl ⟨rfl, rfl, rfl, rfl, rfl⟩ rfl rfl rfl rfl rfl (by kernel_rfl) Try.func13 (by kernel_rfl)
    (of_decide_eq_true (by kernel_rfl)) (by unfold Func.isWrapper; first | (rw [if_pos (by decide +kernel)]; kernel_rfl) | (rw [if_neg (by decide +kernel)]; exact ⟨rfl, rfl⟩))
    (fun os started H enc _ => lifted os started H enc)
end buffOrders
/-- The row BuffOrders. -/
theorem buffOrders_holds : Rows.BuffOrdersSaid := buffOrders.over
#print axioms buffOrders_holds
namespace buffLays
set_option maxRecDepth 100000 in
theorem lifted (os : Os) (started : os.Started) (H : Type) (enc : TypeId × Value → H) :
    ReturnsInHanded {} Try.checked os 11 .any (Rows.buffLaysSpec.pre6 enc Try.prog Try.f11 Rows.buffLaysRow.domain false) (Rows.buffLaysSpec.post enc Try.prog Try.f11 false true false false) :=
  law_lifted2 (C := Try.checked) (O := O0) (tys := [tKey, .slice tW]) Bb.own started (by kernel_rfl) Try.func11
    (ChangeSpec.witness6 (enc := enc) (C := Try.checked) false ⟨#[], #[.agg #[.int .i64 0, .int .i64 0], .slice none 0 0], []⟩ 8 (by kernel_rfl) (by kernel_rfl) (by kernel_rfl) (by kernel_rfl))
    Bb.laidOut (by kernel_rfl) (Bb.reads _ (by kernel_rfl)) rfl Try.underlying4 rfl (fun ds h => by match ds, h with | [_, _], _ => rfl) lv_BuffLays (fun x h => ⟨_, grd_t (keyIn h.1)⟩)
theorem over : Rows.buffLaysRow.holds Try.pinned (OpenSpec.ofChange Rows.buffLaysSpec) :=
  OpenClaim.holds_of_wide 11 Try.f11 rfl rfl rfl rfl rfl rfl rfl ⟨rfl, rfl, rfl, rfl, rfl⟩ rfl rfl rfl rfl rfl (by kernel_rfl) Try.func11 (by kernel_rfl)
    (of_decide_eq_true (by kernel_rfl)) (by unfold Func.isWrapper; first | (rw [if_pos (by decide +kernel)]; kernel_rfl) | (rw [if_neg (by decide +kernel)]; exact ⟨rfl, rfl⟩))
    (fun os started H enc _ => lifted os started H enc)
end buffLays
/-- The row BuffLays. -/
theorem buffLays_holds : Rows.BuffLaysSaid := buffLays.over
#print axioms buffLays_holds
end Go.Proofs.Ytcdnkkakfkkpgaa
