/- A symbolic machine for the model's code, and what it shows of this seat's functions. No conditions. -/
import Derived.Test.YtiaidfgioecdiaaBase
import Derived.Test.YtiaidfgioecdiaaProg
set_option linter.unusedSimpArgs false
set_option linter.unusedVariables false
namespace Go.BB
open Go Go.Proofs
set_option maxRecDepth 100000
def intTI (k : IntKind) (b : Nat) : TI := ⟨some (.int k), false, 1, b, [.int k 0], false, .other⟩
def sliceTI (t : Ty) (e : Nat) : TI := ⟨some (.slice t), false, 1, 24, [.slice none 0 0], false, .slice e⟩
def vers : Ty := .pair (.int .u64) (.int .u16)
def tys : List (Nat × Option Ty) := [(3, some (.int .i64)), (4, some .bool), (5, some (.int .u8)), (22, some (.slice .bool)), (25, some (.slice (.int .u8))), (35, some (.slice vers)), (36, some (.slice (.int .i64))), (37, some (.int .u64)), (42, some (.int .u16)), (44, some vers), (53, some (.int .u64)), (9, some .str)]
def tt : List (Nat × TI) := [(3, intTI .i64 8), (4, ⟨some .bool, false, 1, 1, [.bool false], false, .other⟩), (5, intTI .u8 1), (22, sliceTI .bool 4), (25, sliceTI (.int .u8) 5), (35, sliceTI vers 44), (36, sliceTI (.int .i64) 3), (37, intTI .u64 8), (42, intTI .u16 2), (44, ⟨some vers, true, 2, 16, [.int .u64 0, .int .u16 0], false, .struct [(37, 0), (42, 1)]⟩), (53, intTI .u64 8), (9, ⟨some .str, false, 1, 16, [.string ByteArray.empty], false, .other⟩)]
theorem tt_ok : TTok Try.prog tt := mkTT_ok (show mkTT Try.prog tys = some tt by kernel_rfl)
theorem mixed : Try.prog.follows .mixedOrders = true := by kernel_rfl
def cfgW (Γ : List (Nat × Ctr O0)) : Cfg O0 := ⟨0, tt, Γ⟩
abbrev tI : Ty := .int .i64
def sw {α β : Type} (n : Int) (f : α → β) : List (Int × α) → α → Option β
  | [], d => some (f d)
  | (c, v) :: l, d => br (n == c) (some (f v)) (sw n f l d)
def swv {α : Type} (n : Int) : List (Int × α) → α → α
  | [], d => d
  | (c, v) :: l, d => if n = c then v else swv n l d
theorem sw_eq {α β : Type} (n : Int) (f : α → β) (l : List (Int × α)) (d : α) : sw n f l d = some (f (swv n l d)) := by
  induction l with
  | nil => rfl
  | cons p l ih =>
    obtain ⟨c, v⟩ := p
    simp only [sw, swv, br, ih]
    by_cases h : n = c
    · subst h; simp
    · have : (n == c) = false := by simpa using h
      simp [h, this]
/-- the table of a function -/
def tabL : List (Int × (Int × Bool)) := [(1, (0, true)), (5, (0, true)), (15, (0, true)), (2, (1, true)), (3, (2, true)), (6, (2, true)), (16, (2, true)), (22, (2, true)), (23, (2, true)), (4, (3, true))]
def tabS (fn : Int) : Int × Bool := swv fn tabL (0, false)
def doesL : List (Int × (Bool × Bool)) := [(1, (true, false)), (2, (true, false)), (3, (true, false)), (4, (true, false)), (22, (true, true)), (23, (true, true)), (5, (false, true)), (6, (false, true)), (15, (false, true)), (16, (false, true))]
def doesS (fn : Int) : Bool × Bool := swv fn doesL (false, false)
def mostL : List (Int × (Int × Int)) := [(1, (2000, 0)), (2, (2000, 0)), (3, (125, 0)), (4, (125, 0)), (5, (0, 1)), (6, (0, 1)), (22, (0, 1)), (15, (0, 1968)), (16, (0, 123)), (23, (125, 121))]
def mostS (fn : Int) : Int × Int := swv fn mostL (0, 0)
abbrev c2 (t s : Ty) (g : Int → t.den × s.den) : Ctr O0 := ⟨valsOf [tI], [.val t, .val s], fun x => some (((g x.1).1, (g x.1).2, ()), ((), ()))⟩
abbrev c1 (t : Ty) (g : Int → t.den) : Ctr O0 := ⟨valsOf [tI], [.val t], fun x => some ((g x.1, ()), ((), ()))⟩
theorem v49 : Valid Try.prog 49 (c2 tI .bool tabS) := by
  refine valid_vals mixed Try.func49 (by kernel_rfl) rfl (ts := [_, _]) rfl (cfg := cfgW []) tt_ok Γok_nil [] (by kernel_rfl) ?_
  rintro ⟨fn, ⟨⟩⟩ r u h
  exact ⟨0, (show runF (cfgW []) 0 Try.f49 [] (valsOf [tI]) [.val tI, .val .bool] (fn, ()) = sw fn (fun v => ((v.1, v.2, ()), ((), ()))) tabL (0, false) by kernel_rfl).trans ((sw_eq _ _ _ _).trans h)⟩
theorem v53 : Valid Try.prog 53 (c2 tI .bool tabS) := by
  refine valid_vals mixed Try.func53 (by kernel_rfl) rfl (ts := [_, _]) rfl (cfg := cfgW []) tt_ok Γok_nil [] (by kernel_rfl) ?_
  rintro ⟨fn, ⟨⟩⟩ r u h
  exact ⟨0, (show runF (cfgW []) 0 Try.f53 [] (valsOf [tI]) [.val tI, .val .bool] (fn, ()) = sw fn (fun v => ((v.1, v.2, ()), ((), ()))) tabL (0, false) by kernel_rfl).trans ((sw_eq _ _ _ _).trans h)⟩
theorem v64 : Valid Try.prog 64 (c2 .bool .bool doesS) := by
  refine valid_vals mixed Try.func64 (by kernel_rfl) rfl (ts := [_, _]) rfl (cfg := cfgW []) tt_ok Γok_nil [] (by kernel_rfl) ?_
  rintro ⟨fn, ⟨⟩⟩ r u h
  exact ⟨0, (show runF (cfgW []) 0 Try.f64 [] (valsOf [tI]) [.val .bool, .val .bool] (fn, ()) = sw fn (fun v => ((v.1, v.2, ()), ((), ()))) doesL (false, false) by kernel_rfl).trans ((sw_eq _ _ _ _).trans h)⟩
theorem v54 : Valid Try.prog 54 (c2 tI tI mostS) := by
  refine valid_vals mixed Try.func54 (by kernel_rfl) rfl (ts := [_, _]) rfl (cfg := cfgW []) tt_ok Γok_nil [] (by kernel_rfl) ?_
  rintro ⟨fn, ⟨⟩⟩ r u h
  exact ⟨0, (show runF (cfgW []) 0 Try.f54 [] (valsOf [tI]) [.val tI, .val tI] (fn, ()) = sw fn (fun v => ((v.1, v.2, ()), ((), ()))) mostL (0, 0) by kernel_rfl).trans ((sw_eq _ _ _ _).trans h)⟩
theorem v55 : Valid Try.prog 55 (c2 tI tI mostS) := by
  refine valid_vals mixed Try.func55 (by kernel_rfl) rfl (ts := [_, _]) rfl (cfg := cfgW []) tt_ok Γok_nil [] (by kernel_rfl) ?_
  rintro ⟨fn, ⟨⟩⟩ r u h
  exact ⟨0, (show runF (cfgW []) 0 Try.f55 [] (valsOf [tI]) [.val tI, .val tI] (fn, ()) = sw fn (fun v => ((v.1, v.2, ()), ((), ()))) mostL (0, 0) by kernel_rfl).trans ((sw_eq _ _ _ _).trans h)⟩
/-- kind.Reads, kind.Writes -/
theorem v50 : Valid Try.prog 50 (c1 .bool fun n => (doesS n).1) := by
  refine valid_vals mixed Try.func50 (by kernel_rfl) rfl (ts := [_]) rfl (cfg := cfgW [(64, c2 .bool .bool doesS)]) tt_ok (Γok_cons v64 Γok_nil) [] (by kernel_rfl) ?_
  rintro ⟨fn, ⟨⟩⟩ r u h
  exact ⟨0, (show runF (cfgW [(64, c2 .bool .bool doesS)]) 0 Try.f50 [] (valsOf [tI]) [.val .bool] (fn, ()) = some (((doesS fn).1, ()), ((), ())) by kernel_rfl).trans h⟩
theorem v51 : Valid Try.prog 51 (c1 .bool fun n => (doesS n).2) := by
  refine valid_vals mixed Try.func51 (by kernel_rfl) rfl (ts := [_]) rfl (cfg := cfgW [(64, c2 .bool .bool doesS)]) tt_ok (Γok_cons v64 Γok_nil) [] (by kernel_rfl) ?_
  rintro ⟨fn, ⟨⟩⟩ r u h
  exact ⟨0, (show runF (cfgW [(64, c2 .bool .bool doesS)]) 0 Try.f51 [] (valsOf [tI]) [.val .bool] (fn, ()) = some (((doesS fn).2, ()), ((), ())) by kernel_rfl).trans h⟩
end Go.BB
