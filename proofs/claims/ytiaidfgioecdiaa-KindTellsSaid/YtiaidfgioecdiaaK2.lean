/- A symbolic machine for the model's code, and what it shows of this seat's functions. No conditions. -/
import Derived.Test.YtiaidfgioecdiaaK1
set_option linter.unusedSimpArgs false
set_option linter.unusedVariables false
namespace Go.BB
open Go Go.Proofs
set_option maxRecDepth 100000
def knownS (fn : Int) : Bool := (tabS fn).2 || (fn == 43)
theorem br_or {β : Type} (a b : Bool) (f : Bool → β) : br a (some (f true)) (some (f b)) = some (f (a || b)) := by cases a <;> rfl
/-- the numbers that are functions -/
theorem fn_cases (fn : Int) : (fn = 1 ∨ fn = 2 ∨ fn = 3 ∨ fn = 4 ∨ fn = 5 ∨ fn = 6 ∨ fn = 15 ∨ fn = 16 ∨ fn = 22 ∨ fn = 23 ∨ fn = 43) ∨
    ((¬ (fn ≥ 1) ∨ ¬ (fn ≤ 6)) ∧ fn ≠ 1 ∧ fn ≠ 2 ∧ fn ≠ 3 ∧ fn ≠ 4 ∧ fn ≠ 5 ∧ fn ≠ 6 ∧ fn ≠ 15 ∧ fn ≠ 16 ∧ fn ≠ 22 ∧ fn ≠ 23 ∧ fn ≠ 43) := by omega
theorem tab_other {fn : Int} (h : fn ≠ 1 ∧ fn ≠ 2 ∧ fn ≠ 3 ∧ fn ≠ 4 ∧ fn ≠ 5 ∧ fn ≠ 6 ∧ fn ≠ 15 ∧ fn ≠ 16 ∧ fn ≠ 22 ∧ fn ≠ 23 ∧ fn ≠ 43) : tabS fn = (0, false) ∧ doesS fn = (false, false) ∧ mostS fn = (0, 0) ∧ knownS fn = false := by
  obtain ⟨h1, h2, h3, h4, h5, h6, h7, h8, h9, h10, h11⟩ := h
  simp [tabS, doesS, mostS, knownS, swv, tabL, doesL, mostL, h1, h2, h3, h4, h5, h6, h7, h8, h9, h10, h11]
theorem v52 : Valid Try.prog 52 (c1 .bool knownS) := by
  refine valid_vals mixed Try.func52 (by kernel_rfl) rfl (ts := [_]) rfl (cfg := cfgW [(49, c2 tI .bool tabS)]) tt_ok (Γok_cons v49 Γok_nil) [] (by kernel_rfl) ?_
  rintro ⟨(fn : Int), ⟨⟩⟩ r u h
  exact ⟨0, (show runF (cfgW [(49, c2 tI .bool tabS)]) 0 Try.f52 [] (valsOf [tI]) [.val .bool] (fn, ()) = br (tabS fn).2 (some ((true, ()), ((), ()))) (some ((fn == 43, ()), ((), ()))) by kernel_rfl).trans ((br_or _ _ fun b => ((b, ()), ((), ()))).trans h)⟩
def T56 (fn : Int) : Option ((Bool × Unit) × (Unit × Unit)) :=
  let t := br (fn == 15) (some ((true, ()), (), ())) (br (fn == 16) (some ((true, ()), (), ())) (br (fn == 22) (some ((true, ()), (), ())) (br (fn == 23) (some ((true, ()), (), ())) (some ((fn == 43, ()), (), ())))))
  br (decide (fn ≥ 1)) (br (decide (fn ≤ 6)) (some ((true, ()), (), ())) t) t
theorem T56_eq (fn : Int) : T56 fn = some ((knownS fn, ()), (), ()) := by
  rcases fn_cases fn with h | ⟨h0, h⟩
  · rcases h with rfl | rfl | rfl | rfl | rfl | rfl | rfl | rfl | rfl | rfl | rfl <;> kernel_rfl
  · rw [(tab_other h).2.2.2]
    obtain ⟨h1, h2, h3, h4, h5, h6, h7, h8, h9, h10, h11⟩ := h
    have e : ∀ c : Int, fn ≠ c → (fn == c) = false := fun c h => by simpa using h
    rcases h0 with h0 | h0
    · simp only [T56, br, e _ h7, e _ h8, e _ h9, e _ h10, e _ h11, decide_eq_false h0, cond_false]
    · simp only [T56, br, e _ h7, e _ h8, e _ h9, e _ h10, e _ h11, decide_eq_false h0, cond_false]
      cases decide (fn ≥ 1) <;> rfl
theorem v56 : Valid Try.prog 56 (c1 .bool knownS) := by
  refine valid_vals mixed Try.func56 (by kernel_rfl) rfl (ts := [_]) rfl (cfg := cfgW []) tt_ok Γok_nil [] (by kernel_rfl) ?_
  rintro ⟨(fn : Int), ⟨⟩⟩ r u h
  exact ⟨0, (show runF (cfgW []) 0 Try.f56 [] (valsOf [tI]) [.val .bool] (fn, ()) = T56 fn by kernel_rfl).trans ((T56_eq fn).trans h)⟩
def T57 (fn : Int) : Option ((Bool × Unit) × (Unit × Unit)) :=
  let t := br (fn == 22) (some ((true, ()), (), ())) (some ((fn == 23, ()), (), ()))
  br (decide (fn ≥ 1)) (br (decide (fn ≤ 4)) (some ((true, ()), (), ())) t) t
theorem T57_eq (fn : Int) : T57 fn = some (((doesS fn).1, ()), (), ()) := by
  rcases fn_cases fn with h | ⟨h0, h⟩
  · rcases h with rfl | rfl | rfl | rfl | rfl | rfl | rfl | rfl | rfl | rfl | rfl <;> kernel_rfl
  · rw [(tab_other h).2.1]
    obtain ⟨h1, h2, h3, h4, h5, h6, h7, h8, h9, h10, h11⟩ := h
    have e : ∀ c : Int, fn ≠ c → (fn == c) = false := fun c h => by simpa using h
    rcases h0 with h0 | h0
    · simp only [T57, br, e _ h9, e _ h10, decide_eq_false h0, cond_false]
    · have h0' : ¬ fn ≤ 4 := by omega
      simp only [T57, br, e _ h9, e _ h10, decide_eq_false h0', cond_false]
      cases decide (fn ≥ 1) <;> rfl
theorem v57 : Valid Try.prog 57 (c1 .bool fun n => (doesS n).1) := by
  refine valid_vals mixed Try.func57 (by kernel_rfl) rfl (ts := [_]) rfl (cfg := cfgW []) tt_ok Γok_nil [] (by kernel_rfl) ?_
  rintro ⟨(fn : Int), ⟨⟩⟩ r u h
  exact ⟨0, (show runF (cfgW []) 0 Try.f57 [] (valsOf [tI]) [.val .bool] (fn, ()) = T57 fn by kernel_rfl).trans ((T57_eq fn).trans h)⟩
def T58 (fn : Int) : Option ((Bool × Unit) × (Unit × Unit)) :=
  br (knownS fn) (br (decide (fn > 4)) (some ((fn != 43, ()), (), ())) (some ((false, ()), (), ()))) (some ((false, ()), (), ()))
theorem T58_eq (fn : Int) : T58 fn = some (((doesS fn).2, ()), (), ()) := by
  rcases fn_cases fn with h | ⟨h0, h⟩
  · rcases h with rfl | rfl | rfl | rfl | rfl | rfl | rfl | rfl | rfl | rfl | rfl <;> kernel_rfl
  · obtain ⟨_, h2, _, h4⟩ := tab_other h
    simp only [T58, h4, h2, br, cond_false]
theorem v58 : Valid Try.prog 58 (c1 .bool fun n => (doesS n).2) := by
  refine valid_vals mixed Try.func58 (by kernel_rfl) rfl (ts := [_]) rfl (cfg := cfgW [(56, c1 .bool knownS)]) tt_ok (Γok_cons v56 Γok_nil) [] (by kernel_rfl) ?_
  rintro ⟨(fn : Int), ⟨⟩⟩ r u h
  exact ⟨0, (show runF (cfgW [(56, c1 .bool knownS)]) 0 Try.f58 [] (valsOf [tI]) [.val .bool] (fn, ()) = T58 fn by kernel_rfl).trans ((T58_eq fn).trans h)⟩
def bitsS (t : Int) : Bool := (t == 0) || (t == 1)
theorem v59 : Valid Try.prog 59 (c1 .bool bitsS) := by
  refine valid_vals mixed Try.func59 (by kernel_rfl) rfl (ts := [_]) rfl (cfg := cfgW []) tt_ok Γok_nil [] (by kernel_rfl) ?_
  rintro ⟨(fn : Int), ⟨⟩⟩ r u h
  exact ⟨0, (show runF (cfgW []) 0 Try.f59 [] (valsOf [tI]) [.val .bool] (fn, ()) = br (fn == 0) (some ((true, ()), ((), ()))) (some ((fn == 1, ()), ((), ()))) by kernel_rfl).trans ((br_or _ _ fun b => ((b, ()), ((), ()))).trans h)⟩
/-- a number from 0 to n - 1 -/
def F33 (k n : Int) : Option ((Int × Unit) × (Unit × Unit × Unit)) := br (decide (0 < n)) (br (decide (n < 4611686018427387904)) (some ((k % n, ()), ((), (), ()))) none) none
abbrev c33 : Ctr O0 := ⟨valsOf [tI, tI], [.val tI], fun x => F33 x.1 x.2.1⟩
def T33 (k n : Int) : Option ((Int × Unit) × (Unit × Unit × Unit)) :=
  br (!(decide (n = 0))) (br (decide (k.tmod n < 0)) (some ((IntKind.i64.wrap (k.tmod n + n), ()), (), (), ())) (some ((k.tmod n, ()), (), (), ()))) none
theorem T33_eq (k n : Int) (h1 : 0 < n) (h3 : n < 4611686018427387904) : T33 k n = some ((k % n, ()), (), (), ()) := by
  have hn0 : decide (n = 0) = false := decide_eq_false (by omega)
  simp only [T33, hn0, Bool.not_false, br, cond_true]
  have hm := Int.emod_nonneg k (show n ≠ 0 by omega)
  have hm2 := Int.emod_lt_of_pos k h1
  have hl : -n < k.tmod n ∧ k.tmod n < n := ⟨Int.lt_tmod_of_pos k h1, Int.tmod_lt_of_pos k h1⟩
  have he : k.tmod n = k % n ∨ k.tmod n = k % n - n := by
    rw [Int.tmod_eq_emod]
    split
    · left; omega
    · right
      have : (n.natAbs : Int) = n := by omega
      omega
  by_cases hs : k.tmod n < 0
  · simp only [decide_eq_true hs, cond_true]
    have e : IntKind.i64.wrap (k.tmod n + n) = k % n := by
      have : k.tmod n + n = k % n := by omega
      rw [this]
      simp [IntKind.wrap, IntKind.signed, IntKind.bits]
      omega
    rw [e]
  · simp only [decide_eq_false hs, cond_false]
    have e : k.tmod n = k % n := by omega
    rw [e]
theorem v33 : Valid Try.prog 33 c33 := by
  refine valid_vals mixed Try.func33 (by kernel_rfl) rfl (ts := [_]) rfl (cfg := cfgW []) tt_ok Γok_nil [] (by kernel_rfl) ?_
  rintro ⟨(k : Int), (n : Int), ⟨⟩⟩ r u h
  refine ⟨0, (show runF (cfgW []) 0 Try.f33 [] (valsOf [tI, tI]) [.val tI] (k, n, ()) = T33 k n by kernel_rfl).trans ?_⟩
  rcases br_some h with ⟨h1, h2⟩ | ⟨_, h2⟩
  · rcases br_some h2 with ⟨h3, h4⟩ | ⟨_, h4⟩
    · exact (T33_eq k n (of_decide_eq_true h1) (of_decide_eq_true h3)).trans h4
    · cases h4
  · cases h2
end Go.BB
