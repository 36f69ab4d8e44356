/- A symbolic machine for the model's code, and what it shows of this seat's functions. No conditions. -/
import Derived.Test.YtiaidfgioecdiaaLawBits
import Derived.Test.YtiaidfgioecdiaaRows
import Derived.WalkKit
import Derived.ProofKit
set_option linter.unusedSimpArgs false
set_option linter.unusedVariables false
namespace Go.Proofs.Ytiaidfgioecdiaa
open Go.BB Go.ChangeShapes Go.WideShapes Go.ChangeAt Go.RowKit
namespace Bb
theorem own : ownKnob Try.prog.godebug = none := by kernel_rfl
theorem laidOut : laidOutB Try.prog = true := by kernel_rfl
theorem reads (ts : List Nat) (h : (ts.all fun t => Try.prog.readableRec t && decide (t < Try.prog.types.size)) = true) : ∀ t ∈ ts, Try.prog.readableRec t = true ∧ t < Try.prog.types.size := by
  intro t ht
  have := List.all_eq_true.1 h t ht
  simpa using this
end Bb
namespace bitsPacks
set_option maxRecDepth 100000 in
theorem lifted (os : Os) (started : os.Started) (H : Type) (enc : TypeId × Value → H) :
    ReturnsInHanded {} Try.checked os 3 .any (Rows.bitsPacksSpec.pre6 enc Try.prog Try.f3 Rows.bitsPacksRow.domain false) (Rows.bitsPacksSpec.post enc Try.prog Try.f3 false true false false) :=
  law_lifted2 (C := Try.checked) (O := O0) (tys := [.slice .bool]) Bb.own started (by kernel_rfl) Try.func3
    (ChangeSpec.witness6 (enc := enc) (C := Try.checked) false ⟨#[], #[.slice none 0 0], []⟩ 8 (by kernel_rfl) (by kernel_rfl) (by kernel_rfl) (by kernel_rfl))
    Bb.laidOut (by kernel_rfl) (Bb.reads _ (by kernel_rfl)) rfl Try.underlying4 rfl (fun ds h => by match ds, h with | [_], _ => rfl) lv_BitsPacks (fun x _ => ⟨_, rfl⟩)
theorem over : Rows.bitsPacksRow.holds Try.pinned (OpenSpec.ofChange Rows.bitsPacksSpec) :=
  OpenClaim.holds_of_wide 3 Try.f3 rfl rfl rfl rfl rfl rfl rfl ⟨rfl, rfl, rfl, rfl, rfl⟩ rfl rfl rfl rfl rfl (by kernel_rfl) Try.func3 (by kernel_rfl)
    (of_decide_eq_true (by kernel_rfl)) (by unfold Func.isWrapper; first | (rw [if_pos (by decide +kernel)]; kernel_rfl) | (rw [if_neg (by decide +kernel)]; exact ⟨rfl, rfl⟩))
    (fun os started H enc _ => lifted os started H enc)
end bitsPacks
/-- The row BitsPacks. -/
theorem bitsPacks_holds : Rows.BitsPacksSaid := bitsPacks.over
#print axioms bitsPacks_holds
namespace bitsUnpacks
set_option maxRecDepth 100000 in
theorem lifted (os : Os) (started : os.Started) (H : Type) (enc : TypeId × Value → H) :
    ReturnsInHanded {} Try.checked os 4 .any (Rows.bitsUnpacksSpec.pre6 enc Try.prog Try.f4 Rows.bitsUnpacksRow.domain false) (Rows.bitsUnpacksSpec.post enc Try.prog Try.f4 false true false false) :=
  law_lifted2 (C := Try.checked) (O := O0) (tys := [.slice tB, tI]) Bb.own started (by kernel_rfl) Try.func4
    (ChangeSpec.witness6 (enc := enc) (C := Try.checked) false ⟨#[], #[.slice none 0 0, .int .i64 0], []⟩ 8 (by kernel_rfl) (by kernel_rfl) (by kernel_rfl) (by kernel_rfl))
    Bb.laidOut (by kernel_rfl) (Bb.reads _ (by kernel_rfl)) rfl Try.underlying4 rfl (fun ds h => by match ds, h with | [_, _], _ => rfl) lv_BitsUnpacks (fun x h => ⟨_, grd_t (and_t (allB_of h.1) (isN_of_in h.2.1))⟩)
theorem over : Rows.bitsUnpacksRow.holds Try.pinned (OpenSpec.ofChange Rows.bitsUnpacksSpec) :=
  OpenClaim.holds_of_wide 4 Try.f4 rfl rfl rfl rfl rfl rfl rfl ⟨rfl, rfl, rfl, rfl, rfl⟩ rfl rfl rfl rfl rfl (by kernel_rfl) Try.func4 (by kernel_rfl)
    (of_decide_eq_true (by kernel_rfl)) (by unfold Func.isWrapper; first | (rw [if_pos (by decide +kernel)]; kernel_rfl) | (rw [if_neg (by decide +kernel)]; exact ⟨rfl, rfl⟩))
    (fun os started H enc _ => lifted os started H enc)
end bitsUnpacks
/-- The row BitsUnpacks. -/
theorem bitsUnpacks_holds : Rows.BitsUnpacksSaid := bitsUnpacks.over
#print axioms bitsUnpacks_holds
namespace bitsParts
set_option maxRecDepth 100000 in
theorem lifted (os : Os) (started : os.Started) (H : Type) (enc : TypeId × Value → H) :
    ReturnsInHanded {} Try.checked os 5 .any (Rows.bitsPartsSpec.pre6 enc Try.prog Try.f5 Rows.bitsPartsRow.domain false) (Rows.bitsPartsSpec.post enc Try.prog Try.f5 false true false false) :=
  law_lifted2 (C := Try.checked) (O := O0) (tys := [.slice .bool, .slice .bool]) Bb.own started (by kernel_rfl) Try.func5
    (ChangeSpec.witness6 (enc := enc) (C := Try.checked) false ⟨#[], #[.slice none 0 0, .slice none 0 0], []⟩ 8 (by kernel_rfl) (by kernel_rfl) (by kernel_rfl) (by kernel_rfl))
    Bb.laidOut (by kernel_rfl) (Bb.reads _ (by kernel_rfl)) rfl Try.underlying4 rfl (fun ds h => by match ds, h with | [_, _], _ => rfl) lv_BitsParts (fun x _ => ⟨_, rfl⟩)
theorem over : Rows.bitsPartsRow.holds Try.pinned (OpenSpec.ofChange Rows.bitsPartsSpec) :=
  OpenClaim.holds_of_wide 5 Try.f5 rfl rfl rfl rfl rfl rfl rfl ⟨rfl, rfl, rfl, rfl, rfl⟩ rfl rfl rfl rfl rfl (by kernel_rfl) Try.func5 (by kernel_rfl)
    (of_decide_eq_true (by kernel_rfl)) (by unfold Func.isWrapper; first | (rw [if_pos (by decide +kernel)]; kernel_rfl) | (rw [if_neg (by decide +kernel)]; exact ⟨rfl, rfl⟩))
    (fun os started H enc _ => lifted os started H enc)
end bitsParts
/-- The row BitsParts. -/
theorem bitsParts_holds : Rows.BitsPartsSaid := bitsParts.over
#print axioms bitsParts_holds
namespace bitsSets
set_option maxRecDepth 100000 in
theorem lifted (os : Os) (started : os.Started) (H : Type) (enc : TypeId × Value → H) :
    ReturnsInHanded {} Try.checked os 8 .any (Rows.bitsSetsSpec.pre6 enc Try.prog Try.f8 Rows.bitsSetsRow.domain false) (Rows.bitsSetsSpec.post enc Try.prog Try.f8 false true false false) :=
  law_lifted2 (C := Try.checked) (O := O0) (tys := [.slice tB, tI, .bool, .bool, tI]) Bb.own started (by kernel_rfl) Try.func8
    (ChangeSpec.witness6 (enc := enc) (C := Try.checked) false ⟨#[], #[.slice none 0 0, .int .i64 0, .bool false, .bool false, .int .i64 0], []⟩ 8 (by kernel_rfl) (by kernel_rfl) (by kernel_rfl) (by kernel_rfl))
    Bb.laidOut (by kernel_rfl) (Bb.reads _ (by kernel_rfl)) rfl Try.underlying4 rfl (fun ds h => by match ds, h with | [_, _, _, _, _], _ => rfl) lv_BitsSets (fun x h => ⟨_, grd_t (and_t (allB_of h.1) (isN_of_in h.2.1))⟩)
theorem over : Rows.bitsSetsRow.holds Try.pinned (OpenSpec.ofChange Rows.bitsSetsSpec) :=
  OpenClaim.holds_of_wide 8 Try.f8 rfl rfl rfl rfl rfl rfl rfl ⟨rfl, rfl, rfl, rfl, rfl⟩ rfl rfl rfl rfl rfl (by kernel_rfl) Try.func8 (by kernel_rfl)
    (of_decide_eq_true (by kernel_rfl)) (by unfold Func.isWrapper; first | (rw [if_pos (by decide +kernel)]; kernel_rfl) | (rw [if_neg (by decide +kernel)]; exact ⟨rfl, rfl⟩))
    (fun os started H enc _ => lifted os started H enc)
end bitsSets
/-- The row BitsSets. -/
theorem bitsSets_holds : Rows.BitsSetsSaid := bitsSets.over
#print axioms bitsSets_holds
namespace bitsSpare
set_option maxRecDepth 100000 in
theorem lifted (os : Os) (started : os.Started) (H : Type) (enc : TypeId × Value → H) :
    ReturnsInHanded {} Try.checked os 9 .any (Rows.bitsSpareSpec.pre6 enc Try.prog Try.f9 Rows.bitsSpareRow.domain false) (Rows.bitsSpareSpec.post enc Try.prog Try.f9 false true false false) :=
  law_lifted2 (C := Try.checked) (O := O0) (tys := [.slice .bool, tB]) Bb.own started (by kernel_rfl) Try.func9
    (ChangeSpec.witness6 (enc := enc) (C := Try.checked) false ⟨#[], #[.slice none 0 0, .int .u8 0], []⟩ 8 (by kernel_rfl) (by kernel_rfl) (by kernel_rfl) (by kernel_rfl))
    Bb.laidOut (by kernel_rfl) (Bb.reads _ (by kernel_rfl)) rfl Try.underlying4 rfl (fun ds h => by match ds, h with | [_, _], _ => rfl) lv_BitsSpare (fun x _ => ⟨_, rfl⟩)
theorem over : Rows.bitsSpareRow.holds Try.pinned (OpenSpec.ofChange Rows.bitsSpareSpec) :=
  OpenClaim.holds_of_wide 9 Try.f9 rfl rfl rfl rfl rfl rfl rfl ⟨rfl, rfl, rfl, rfl, rfl⟩ rfl rfl rfl rfl rfl (by kernel_rfl) Try.func9 (by kernel_rfl)
    (of_decide_eq_true (by kernel_rfl)) (by unfold Func.isWrapper; first | (rw [if_pos (by decide +kernel)]; kernel_rfl) | (rw [if_neg (by decide +kernel)]; exact ⟨rfl, rfl⟩))
    (fun os started H enc _ => lifted os started H enc)
end bitsSpare
/-- The row BitsSpare. -/
theorem bitsSpare_holds : Rows.BitsSpareSaid := bitsSpare.over
#print axioms bitsSpare_holds
end Go.Proofs.Ytiaidfgioecdiaa
