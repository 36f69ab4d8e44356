/- A symbolic machine for the model's code, and what it shows of this seat's functions. No conditions. -/
import Derived.Test.YtiaidfgioecdiaaK2
set_option linter.unusedSimpArgs false
set_option linter.unusedVariables false
namespace Go.BB
open Go Go.Proofs
set_option maxRecDepth 100000
def G3 : List (Nat × Ctr O0) := [(52, c1 .bool knownS), (56, c1 .bool knownS), (49, c2 tI .bool tabS), (53, c2 tI .bool tabS), (54, c2 tI tI mostS), (55, c2 tI tI mostS), (50, c1 .bool fun n => (doesS n).1), (51, c1 .bool fun n => (doesS n).2), (57, c1 .bool fun n => (doesS n).1), (58, c1 .bool fun n => (doesS n).2), (59, c1 .bool bitsS), (33, c33)]
theorem G3_ok : Γok Try.prog G3 := Γok_cons v52 (Γok_cons v56 (Γok_cons v49 (Γok_cons v53 (Γok_cons v54 (Γok_cons v55 (Γok_cons v50 (Γok_cons v51 (Γok_cons v57 (Γok_cons v58 (Γok_cons v59 (Γok_cons v33 Γok_nil)))))))))))
abbrev c0 : Ctr O0 := ⟨valsOf [], [.val .bool], fun _ => some ((true, ()), ())⟩
theorem v48 : Valid Try.prog 48 c0 := by
  refine valid_vals mixed Try.func48 (by kernel_rfl) rfl (ts := [_]) rfl (cfg := cfgW G3) tt_ok G3_ok [] (by kernel_rfl) ?_
  rintro ⟨⟩ r u h
  exact ⟨0, (show runF (cfgW G3) 0 Try.f48 [] (valsOf []) [.val .bool] () = some ((true, ()), ()) by kernel_rfl).trans h⟩
theorem G4_ok : Γok Try.prog ((48, c0) :: G3) := Γok_cons v48 G3_ok
abbrev R4 := Option ((Bool × Unit) × (Unit × Unit × Unit × Unit))
def E14 (fn t : Int) : R4 :=
  let f : R4 := some ((false, ()), (), (), (), ())
  br (knownS fn == knownS fn) (br ((tabS fn).1 == (tabS fn).1) (br ((tabS fn).2 == (tabS fn).2) (br ((doesS fn).1 == (doesS fn).1) (br ((doesS fn).2 == (doesS fn).2) (br ((mostS fn).1 == (mostS fn).1) (br ((mostS fn).2 == (mostS fn).2)
    (br (t == 0) (some ((bitsS t == true, ()), (), (), (), ())) (some ((bitsS t == (t == 1), ()), (), (), (), ()))) f) f) f) f) f) f) f
theorem E14_eq (fn t : Int) : E14 fn t = some ((true, ()), (), (), (), ()) := by
  simp only [E14, beq_self_eq_true, br, cond_true, bitsS]
  cases h : t == 0 <;> simp
theorem v14 : Valid (O := O0) Try.prog 14 ⟨valsOf [tI, .bool, tI], [.val .bool], fun _ => some ((true, ()), ((), (), (), ()))⟩ := by
  refine valid_vals mixed Try.func14 (by kernel_rfl) rfl (ts := [_]) rfl (cfg := cfgW ((48, c0) :: G3)) tt_ok G4_ok [] (by kernel_rfl) ?_
  rintro ⟨(fn : Int), (near : Bool), (t : Int), ⟨⟩⟩ r u h
  refine ⟨0, (show runF (cfgW ((48, c0) :: G3)) 0 Try.f14 [] (valsOf [tI, .bool, tI]) [.val .bool] (fn, near, t, ()) = br near (E14 (fn % 46) t) (E14 fn t) by kernel_rfl).trans ?_⟩
  rw [E14_eq, E14_eq, ← h]
  cases near <;> rfl
abbrev R3 := Option ((Bool × Unit) × (Unit × Unit × Unit))
def E13' (d : Bool × Bool) (kn : Bool) (t : Int × Bool) (ne : Bool) : R3 :=
  let f : R3 := some ((false, ()), (), (), ())
  let T : R3 := some ((true, ()), (), (), ())
  let q : R3 := br (match d.2 with | true => false | false => true) T (br (t.1 == 0) T (some ((t.1 == 2, ()), (), (), ())))
  br d.1 (br kn (br (t.2 == ne) (br (true == t.2) q f) f) (br (t.2 == false) (br (true == t.2) q f) f)) (br kn (br (t.2 == ne) (br (d.2 == t.2) q f) f) (br (t.2 == false) (br (d.2 == t.2) q f) f))
def E13 (fn : Int) : R3 := E13' (doesS fn) (knownS fn) (tabS fn) (fn != 43)
theorem E13_eq (fn : Int) : E13 fn = some ((true, ()), (), (), ()) := by
  rcases fn_cases fn with h | ⟨_, h⟩
  · rcases h with rfl | rfl | rfl | rfl | rfl | rfl | rfl | rfl | rfl | rfl | rfl <;> kernel_rfl
  · obtain ⟨h1, h2, _, h4⟩ := tab_other h
    unfold E13
    rw [h1, h2, h4]
    rfl
theorem v13 : Valid (O := O0) Try.prog 13 ⟨valsOf [tI, .bool], [.val .bool], fun _ => some ((true, ()), ((), (), ()))⟩ := by
  refine valid_vals mixed Try.func13 (by kernel_rfl) rfl (ts := [_]) rfl (cfg := cfgW ((48, c0) :: G3)) tt_ok G4_ok [] (by kernel_rfl) ?_
  rintro ⟨(fn : Int), (near : Bool), ⟨⟩⟩ r u h
  refine ⟨0, (show runF (cfgW ((48, c0) :: G3)) 0 Try.f13 [] (valsOf [tI, .bool]) [.val .bool] (fn, near, ()) = br near (E13 (fn % 46)) (E13 fn) by kernel_rfl).trans ?_⟩
  rw [E13_eq, E13_eq, ← h]
  cases near <;> rfl
end Go.BB
