/- A symbolic machine for the model's code, and what it shows of this seat's functions. No conditions. -/
import Derived.Test.YtcdnkkakfkkpgaaQSCom
set_option linter.unusedSimpArgs false
set_option linter.unusedVariables false
/-! contracts of kind -/
namespace Go.BB
open Go
def sw {α β : Type} (n : Int) (f : α → β) : List (Int × α) → α → Option β
  | [], d => some (f d)
  | (c, v) :: l, d => br (n == c) (some (f v)) (sw n f l d)
def swv {α : Type} (n : Int) : List (Int × α) → α → α
  | [], d => d
  | (c, v) :: l, d => if n = c then v else swv n l d
theorem sw_eq {α β : Type} (n : Int) (f : α → β) (l : List (Int × α)) (d : α) : sw n f l d = some (f (swv n l d)) := by
  induction l with
  | nil => rfl
  | cons p l ih =>
    obtain ⟨c, v⟩ := p
    simp only [sw, swv, br, ih]
    by_cases h : n = c
    · subst h; simp
    · have : (n == c) = false := by simpa using h
      simp [h, this]
/-- the table of a function -/
def tabL : List (Int × (Int × Bool)) := [(1, (0, true)), (5, (0, true)), (15, (0, true)), (2, (1, true)), (3, (2, true)), (6, (2, true)), (16, (2, true)), (22, (2, true)), (23, (2, true)), (4, (3, true))]
def tabS (fn : Int) : Int × Bool := swv fn tabL (0, false)
def doesL : List (Int × (Bool × Bool)) := [(1, (true, false)), (2, (true, false)), (3, (true, false)), (4, (true, false)), (22, (true, true)), (23, (true, true)), (5, (false, true)), (6, (false, true)), (15, (false, true)), (16, (false, true))]
def doesS (fn : Int) : Bool × Bool := swv fn doesL (false, false)
def mostL : List (Int × (Int × Int)) := [(1, (2000, 0)), (2, (2000, 0)), (3, (125, 0)), (4, (125, 0)), (5, (0, 1)), (6, (0, 1)), (22, (0, 1)), (15, (0, 1968)), (16, (0, 123)), (23, (125, 121))]
def mostS (fn : Int) : Int × Int := swv fn mostL (0, 0)
def knownS (fn : Int) : Bool := (tabS fn).2 || (fn == 43)
def isBits (t : Int) : Bool := (t == 0) || (t == 1)
abbrev c_table : Ctr O0 := ⟨[.val tI], [.val tI, .val .bool], fun (x : Int × Unit) => some (((tabS x.1).1, (tabS x.1).2, ()), ((), ()))⟩
abbrev c_does : Ctr O0 := ⟨[.val tI], [.val .bool, .val .bool], fun (x : Int × Unit) => some (((doesS x.1).1, (doesS x.1).2, ()), ((), ()))⟩
abbrev c_reads : Ctr O0 := ⟨[.val tI], [.val .bool], fun (x : Int × Unit) => some (((doesS x.1).1, ()), ((), ()))⟩
abbrev c_writes : Ctr O0 := ⟨[.val tI], [.val .bool], fun (x : Int × Unit) => some (((doesS x.1).2, ()), ((), ()))⟩
abbrev c_known : Ctr O0 := ⟨[.val tI], [.val .bool], fun (x : Int × Unit) => some ((knownS x.1, ()), ((), ()))⟩
abbrev c_most : Ctr O0 := ⟨[.val tI], [.val tI, .val tI], fun (x : Int × Unit) => some (((mostS x.1).1, (mostS x.1).2, ()), ((), ()))⟩
abbrev c_kbits : Ctr O0 := ⟨[.val tI], [.val .bool], fun (x : Int × Unit) => some ((isBits x.1, ()), ((), ()))⟩
abbrev c_awake3 := c_awake
end Go.BB
