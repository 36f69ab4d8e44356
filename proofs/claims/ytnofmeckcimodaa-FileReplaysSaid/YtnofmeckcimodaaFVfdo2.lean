/- A symbolic machine for the model's code, and what it shows of this seat's functions. No conditions. -/
import Derived.Test.YtnofmeckcimodaaFN
import Derived.Test.YtnofmeckcimodaaFGfgb
import Derived.Test.YtnofmeckcimodaaFLFile
import Derived.Test.YtnofmeckcimodaaFGfde
set_option linter.unusedSimpArgs false
set_option linter.unusedVariables false
namespace Go.BB
open Go Go.Proofs
set_option maxRecDepth 100000
set_option exponentiation.threshold 100000
noncomputable section
abbrev g_r21Cells : List (Nat × Ctr O0) := [(n_r5Right, c_r5Right), (n_r1Table, c_r1Table), (n_rlay, c_rlay)]
def r21Cells_tm : List Tm := [[((2 : Nat), none, ((Sh.val (Ty.int IntKind.i64)).cons ((Sh.val (Ty.int IntKind.i64)).cons ((Sh.val (Ty.int IntKind.i64)).cons ((Sh.val (Ty.int IntKind.u16)).cons ((Sh.val (Ty.int IntKind.u16)).cons ((Sh.val (Ty.int IntKind.u16)).cons ((Sh.val Ty.bool.slice).cons ((Sh.val (Ty.int IntKind.u16).slice).cons ((Sh.val (Ty.int IntKind.i64)).cons ((Sh.val (Ty.int IntKind.i64)).cons ((Sh.val (Ty.int IntKind.i64)).cons ((Sh.val (Ty.int IntKind.i64)).cons Sh.unit)))))))))))).ptr), ((7 : Nat), none, ((Sh.val (Ty.int IntKind.i64)).cons ((Sh.val (Ty.int IntKind.i64)).cons Sh.unit)).ptr), ((8 : Nat), none, Sh.own (Ty.int IntKind.u16)), ((9 : Nat), none, Sh.val (Ty.int IntKind.i64))]]
def r21Cells_L1 (rec3 : (Int × Int × Int × Int × Int × Int × List Bool × List Int × Int × Int × Int × Int × Unit) × (Int × Int × Unit) × List Int × Int × Unit → Option ((List ((Int × Int) × Int) × Unit) × Unit × Unit × Unit)) : (Int × Int × Int × Int × Int × Int × List Bool × List Int × Int × Int × Int × Int × Unit) × (Int × Int × Unit) × List Int × Int × Unit → Option ((List ((Int × Int) × Int) × Unit) × Unit × Unit × Unit) := fun (y5, y6, y7, y8, ()) => br (decide (y8 < (↑y5.2.2.2.2.2.2.1.length : Int))) (br (decide ((0 : Int) ≤ y8)) (br (decide (y8 < (↑y5.2.2.2.2.2.2.1.length : Int))) (br (y5.2.2.2.2.2.2.1.getD y8.toNat false) (br (decide ((y7.length + [(1 : Int)].length) * (2 : Nat) ≤ LIM)) (br (decide (y7.length + [(1 : Int)].length ≤ LIM)) (rec3 ((y5.1, y5.2.1, y5.2.2.1, y5.2.2.2.1, y5.2.2.2.2.1, y5.2.2.2.2.2.1, y5.2.2.2.2.2.2.1, y5.2.2.2.2.2.2.2.1, y5.2.2.2.2.2.2.2.2.1, y5.2.2.2.2.2.2.2.2.2.1, y5.2.2.2.2.2.2.2.2.2.2.1, y5.2.2.2.2.2.2.2.2.2.2.2.1, ()), (y6.1, y6.2.1, ()), cat y7 [(1 : Int)], IntKind.i64.wrap (y8 + (1 : Int)), ())) none) none) (br (decide ((y7.length + [(0 : Int)].length) * (2 : Nat) ≤ LIM)) (br (decide (y7.length + [(0 : Int)].length ≤ LIM)) (rec3 ((y5.1, y5.2.1, y5.2.2.1, y5.2.2.2.1, y5.2.2.2.2.1, y5.2.2.2.2.2.1, y5.2.2.2.2.2.2.1, y5.2.2.2.2.2.2.2.1, y5.2.2.2.2.2.2.2.2.1, y5.2.2.2.2.2.2.2.2.2.1, y5.2.2.2.2.2.2.2.2.2.2.1, y5.2.2.2.2.2.2.2.2.2.2.2.1, ()), (y6.1, y6.2.1, ()), cat y7 [(0 : Int)], IntKind.i64.wrap (y8 + (1 : Int)), ())) none) none)) none) none) (bd (grd (lenOk y7 && (decide ((-9223372036854775808 : Int) ≤ y6.2.1) && decide (y6.2.1 ≤ (9223372036853775807 : Int)))) ((layFrom y6.1 y6.2.1 y7, ()), (), (), ())) fun (x9 : (List ((Int × Int) × Int) × Unit) × Unit × Unit × Unit) => some ((x9.1.1, ()), (), (), ()))
def r21Cells_P (K : Nat) (a0 : AskT) (a1 : Int) : Option ((List ((Int × Int) × Int) × Unit) × Unit × Unit × Unit) := br (!askOk (a0.1, a0.2.1, a0.2.2.1, a0.2.2.2.1, a0.2.2.2.2.1, a0.2.2.2.2.2.1, a0.2.2.2.2.2.2.1, a0.2.2.2.2.2.2.2.1, a0.2.2.2.2.2.2.2.2.1, a0.2.2.2.2.2.2.2.2.2.1, a0.2.2.2.2.2.2.2.2.2.2.1, a0.2.2.2.2.2.2.2.2.2.2.2)) (some (([], ()), (), (), ())) (br (a0.1 == (5 : Int)) (bd (grd (lenOk [a0.2.2.2.1] && (decide ((-9223372036854775808 : Int) ≤ a0.2.1) && decide (a0.2.1 ≤ (9223372036853775807 : Int)))) ((layFrom (tabS a0.1).1 a0.2.1 [a0.2.2.2.1], ()), (), (), ())) fun (x1 : (List ((Int × Int) × Int) × Unit) × Unit × Unit × Unit) => some ((x1.1.1, ()), (), (), ())) (br (a0.1 == (6 : Int)) (bd (grd (lenOk [a0.2.2.2.1] && (decide ((-9223372036854775808 : Int) ≤ a0.2.1) && decide (a0.2.1 ≤ (9223372036853775807 : Int)))) ((layFrom (tabS a0.1).1 a0.2.1 [a0.2.2.2.1], ()), (), (), ())) fun (x2 : (List ((Int × Int) × Int) × Unit) × Unit × Unit × Unit) => some ((x2.1.1, ()), (), (), ())) (br (a0.1 == (15 : Int)) (loopN r21Cells_L1 K ((a0.1, a0.2.1, a0.2.2.1, a0.2.2.2.1, a0.2.2.2.2.1, a0.2.2.2.2.2.1, a0.2.2.2.2.2.2.1, a0.2.2.2.2.2.2.2.1, a0.2.2.2.2.2.2.2.2.1, a0.2.2.2.2.2.2.2.2.2.1, a0.2.2.2.2.2.2.2.2.2.2.1, a0.2.2.2.2.2.2.2.2.2.2.2, ()), ((tabS a0.1).1, a0.2.1, ()), [], (0 : Int), ())) (br (a0.1 == (16 : Int)) (bd (grd (lenOk a0.2.2.2.2.2.2.2.1 && (decide ((-9223372036854775808 : Int) ≤ a0.2.1) && decide (a0.2.1 ≤ (9223372036853775807 : Int)))) ((layFrom (tabS a0.1).1 a0.2.1 a0.2.2.2.2.2.2.2.1, ()), (), (), ())) fun (x10 : (List ((Int × Int) × Int) × Unit) × Unit × Unit × Unit) => some ((x10.1.1, ()), (), (), ())) (br (a0.1 == (23 : Int)) (bd (grd (lenOk a0.2.2.2.2.2.2.2.1 && (decide ((-9223372036854775808 : Int) ≤ a0.2.1) && decide (a0.2.1 ≤ (9223372036853775807 : Int)))) ((layFrom (tabS a0.1).1 a0.2.1 a0.2.2.2.2.2.2.2.1, ()), (), (), ())) fun (x11 : (List ((Int × Int) × Int) × Unit) × Unit × Unit × Unit) => some ((x11.1.1, ()), (), (), ())) (br (a0.1 == (22 : Int)) (bd (grd (lenOk [IntKind.u16.wrap (↑(BitVec.ofInt (16 : Nat) (IntKind.u16.wrap (↑(BitVec.ofInt (16 : Nat) a1 &&& BitVec.ofInt (16 : Nat) a0.2.2.2.2.1).toNat : Int)) ||| BitVec.ofInt (16 : Nat) (IntKind.u16.wrap (↑(BitVec.ofInt (16 : Nat) a0.2.2.2.2.2.1 &&& BitVec.ofInt (16 : Nat) (IntKind.u16.wrap ((65535 : Int) - a0.2.2.2.2.1))).toNat : Int))).toNat : Int)] && (decide ((-9223372036854775808 : Int) ≤ a0.2.1) && decide (a0.2.1 ≤ (9223372036853775807 : Int)))) ((layFrom (tabS a0.1).1 a0.2.1 [IntKind.u16.wrap (↑(BitVec.ofInt (16 : Nat) (IntKind.u16.wrap (↑(BitVec.ofInt (16 : Nat) a1 &&& BitVec.ofInt (16 : Nat) a0.2.2.2.2.1).toNat : Int)) ||| BitVec.ofInt (16 : Nat) (IntKind.u16.wrap (↑(BitVec.ofInt (16 : Nat) a0.2.2.2.2.2.1 &&& BitVec.ofInt (16 : Nat) (IntKind.u16.wrap ((65535 : Int) - a0.2.2.2.2.1))).toNat : Int))).toNat : Int)], ()), (), (), ())) fun (x12 : (List ((Int × Int) × Int) × Unit) × Unit × Unit × Unit) => some ((x12.1.1, ()), (), (), ())) (some (([], ()), (), (), ()))))))))
theorem r21Cells_rn (K : Nat) (a0 : AskT) (a1 : Int) : runF (cfgW g_r21Cells) K f_r21Cells r21Cells_tm [.val tAsk, .val tW] [.own tCell] (a0, a1, ()) = r21Cells_P K a0 a1 := by kernel_rfl
end
end Go.BB
set_option linter.unusedVariables false
namespace Go.BB
open Go Go.Proofs
set_option maxRecDepth 100000
set_option exponentiation.threshold 100000
noncomputable section
abbrev g_rfget : List (Nat × Ctr O0) := [(n_rbget, c_rbget)]
def rfget_tm : List Tm := []
def rfget_P (K : Nat) (a0 : List ((Int × Int) × Int) × Unit) (a1 : Int × Int) : Option ((Int × Unit) × (List ((Int × Int) × Int) × Unit) × Unit × Unit) := bd (grd (lenOk a0.1 && bufS a0.1) (((getK a0.1 (a1.1, a1.2)).1, (getK a0.1 (a1.1, a1.2)).2, ()), (), (), ())) fun (x1 : (Int × Bool × Unit) × Unit × Unit × Unit) => some ((x1.1.1, ()), (a0.1, ()), (), ())
theorem rfget_rn (K : Nat) (a0 : List ((Int × Int) × Int) × Unit) (a1 : Int × Int) : runF (cfgW g_rfget) K f_rfget rfget_tm [.box shRFile, .val tKey] [.val tW] (a0, a1, ()) = rfget_P K a0 a1 := by kernel_rfl
abbrev g_rfset : List (Nat × Ctr O0) := [(n_rput, c_rput)]
def rfset_tm : List Tm := [[((0 : Nat), some (0 : Nat), ((Sh.own (((Ty.int IntKind.i64).pair (Ty.int IntKind.i64)).pair (Ty.int IntKind.u16))).cons Sh.unit).ptr), ((1 : Nat), none, Sh.val (((Ty.int IntKind.i64).pair (Ty.int IntKind.i64)).pair (Ty.int IntKind.u16)).slice), ((4 : Nat), none, Sh.val (Ty.int IntKind.i64))]]
def rfset_L1 (rec1 : (List ((Int × Int) × Int) × Unit) × List ((Int × Int) × Int) × Int × Unit → Option (Unit × (List ((Int × Int) × Int) × Unit) × Unit × Unit)) : (List ((Int × Int) × Int) × Unit) × List ((Int × Int) × Int) × Int × Unit → Option (Unit × (List ((Int × Int) × Int) × Unit) × Unit × Unit) := fun (y3, y4, y5, ()) => br (decide (y5 < (↑y4.length : Int))) (br (decide ((0 : Int) ≤ y5)) (br (decide (y5 < (↑y4.length : Int))) (br (decide ((y4.getD y5.toNat (((0 : Int), (0 : Int)), (0 : Int))).1.1 ≥ (0 : Int))) (br (decide ((y4.getD y5.toNat (((0 : Int), (0 : Int)), (0 : Int))).1.1 ≤ (3 : Int))) (br (decide ((y4.getD y5.toNat (((0 : Int), (0 : Int)), (0 : Int))).1.2 ≥ (0 : Int))) (br (decide ((y4.getD y5.toNat (((0 : Int), (0 : Int)), (0 : Int))).1.2 < (65536 : Int))) (br (decide ((0 : Int) ≤ y5)) (br (decide (y5 < (↑y4.length : Int))) (bd (grd (lenOk y3.1 && bufS y3.1) ((putK y3.1 (((y4.getD y5.toNat (((0 : Int), (0 : Int)), (0 : Int))).1.1, (y4.getD y5.toNat (((0 : Int), (0 : Int)), (0 : Int))).1.2), (y4.getD y5.toNat (((0 : Int), (0 : Int)), (0 : Int))).2), ()), (), (), ())) fun (x6 : (List ((Int × Int) × Int) × Unit) × Unit × Unit × Unit) => rec1 ((x6.1.1, ()), y4, IntKind.i64.wrap (y5 + (1 : Int)), ())) none) none) (rec1 ((y3.1, ()), y4, IntKind.i64.wrap (y5 + (1 : Int)), ()))) (rec1 ((y3.1, ()), y4, IntKind.i64.wrap (y5 + (1 : Int)), ()))) (rec1 ((y3.1, ()), y4, IntKind.i64.wrap (y5 + (1 : Int)), ()))) (rec1 ((y3.1, ()), y4, IntKind.i64.wrap (y5 + (1 : Int)), ()))) none) none) (some ((), (y3.1, ()), (), ()))
def rfset_P (K : Nat) (a0 : List ((Int × Int) × Int) × Unit) (a1 : List ((Int × Int) × Int)) : Option (Unit × (List ((Int × Int) × Int) × Unit) × Unit × Unit) := loopN rfset_L1 K ((a0.1, ()), a1, (0 : Int), ())
theorem rfset_rn (K : Nat) (a0 : List ((Int × Int) × Int) × Unit) (a1 : List ((Int × Int) × Int)) : runF (cfgW g_rfset) K f_rfset rfset_tm [.box shRFile, .val (.slice tCell)] [] (a0, a1, ()) = rfset_P K a0 a1 := by kernel_rfl
end
end Go.BB
set_option linter.unusedVariables false
namespace Go.BB
open Go Go.Proofs
set_option maxRecDepth 100000
set_option exponentiation.threshold 100000
noncomputable section
abbrev g_lay : List (Nat × Ctr O0) := []
def lay_tm : List Tm := [[((2 : Nat), none, ((Sh.val (Ty.int IntKind.i64)).cons ((Sh.val (Ty.int IntKind.i64)).cons Sh.unit)).ptr), ((5 : Nat), none, Sh.own (((Ty.int IntKind.i64).pair (Ty.int IntKind.i64)).pair (Ty.int IntKind.u16))), ((11 : Nat), none, Sh.val (Ty.int IntKind.u16).slice), ((12 : Nat), none, Sh.val (Ty.int IntKind.i64)), ((13 : Nat), none, Sh.val (Ty.int IntKind.i64))]]
def lay_L1 (rec1 : (Int × Int × Unit) × List ((Int × Int) × Int) × List Int × Int × Int × Unit → Option ((List ((Int × Int) × Int) × Unit) × Unit × Unit × Unit)) : (Int × Int × Unit) × List ((Int × Int) × Int) × List Int × Int × Int × Unit → Option ((List ((Int × Int) × Int) × Unit) × Unit × Unit × Unit) := fun (y3, y4, y5, y6, y7, ()) => br (decide (y7 < y6)) (br (decide ((0 : Int) ≤ y7)) (br (decide (y7 < (↑y5.length : Int))) (br (decide ((0 : Int) ≤ y7)) (br (decide (y7 < (↑y4.length : Int))) (rec1 ((y3.1, y3.2.1, ()), y4.set y7.toNat ((y3.1, IntKind.i64.wrap (y3.2.1 + y7)), y5.getD y7.toNat (0 : Int)), y5, y6, IntKind.i64.wrap (y7 + (1 : Int)), ())) none) none) none) none) (some ((y4, ()), (), (), ()))
def lay_P (K : Nat) (a0 : Int × Int) (a1 : List Int) : Option ((List ((Int × Int) × Int) × Unit) × Unit × Unit × Unit) := br (decide ((↑a1.length : Int) ≤ (↑a1.length : Int))) (br (decide ((↑a1.length : Int).toNat * (24 : Nat) ≤ LIM)) (br (decide ((↑a1.length : Int).toNat ≤ LIM)) (loopN lay_L1 K ((a0.1, a0.2, ()), List.replicate (↑a1.length : Int).toNat (((0 : Int), (0 : Int)), (0 : Int)), a1, (↑a1.length : Int), (0 : Int), ())) none) none) none
theorem lay_rn (K : Nat) (a0 : Int × Int) (a1 : List Int) : runF (cfgW g_lay) K f_lay lay_tm [.val tKey, .val (.slice tW)] [.own tCell] (a0, a1, ()) = lay_P K a0 a1 := by kernel_rfl
abbrev g_rless : List (Nat × Ctr O0) := []
def rless_tm : List Tm := []
def rless_P (K : Nat) (a0 : Int × Int) (a1 : Int × Int) : Option ((Bool × Unit) × Unit × Unit × Unit) := br (decide (a0.1 < a1.1)) (some ((true, ()), (), (), ())) (br (a0.1 == a1.1) (some ((decide (a0.2 < a1.2), ()), (), (), ())) (some ((false, ()), (), (), ())))
theorem rless_rn (K : Nat) (a0 : Int × Int) (a1 : Int × Int) : runF (cfgW g_rless) K f_rless rless_tm [.val tKey, .val tKey] [.val .bool] (a0, a1, ()) = rless_P K a0 a1 := by kernel_rfl
abbrev g_rbfind : List (Nat × Ctr O0) := [(n_rless, c_rless)]
def rbfind_tm : List Tm := [[((0 : Nat), none, Sh.val (((Ty.int IntKind.i64).pair (Ty.int IntKind.i64)).pair (Ty.int IntKind.u16)).slice), ((3 : Nat), none, ((Sh.val (Ty.int IntKind.i64)).cons ((Sh.val (Ty.int IntKind.i64)).cons Sh.unit)).ptr), ((6 : Nat), none, Sh.val (Ty.int IntKind.i64)), ((7 : Nat), none, Sh.val (Ty.int IntKind.i64))]]
def rbfind_L1 (rec1 : List ((Int × Int) × Int) × (Int × Int × Unit) × Int × Int × Unit → Option ((Int × Bool × Unit) × Unit × Unit × Unit)) : List ((Int × Int) × Int) × (Int × Int × Unit) × Int × Int × Unit → Option ((Int × Bool × Unit) × Unit × Unit × Unit) := fun (y3, y4, y5, y6, ()) => br (decide (y5 < y6)) (br (!false) (br (decide ((0 : Int) ≤ IntKind.i64.wrap ((IntKind.i64.wrap (y5 + y6)).tdiv (2 : Int)))) (br (decide (IntKind.i64.wrap ((IntKind.i64.wrap (y5 + y6)).tdiv (2 : Int)) < (↑y3.length : Int))) (br (keyLt ((y3.getD (IntKind.i64.wrap ((IntKind.i64.wrap (y5 + y6)).tdiv (2 : Int))).toNat (((0 : Int), (0 : Int)), (0 : Int))).1.1, (y3.getD (IntKind.i64.wrap ((IntKind.i64.wrap (y5 + y6)).tdiv (2 : Int))).toNat (((0 : Int), (0 : Int)), (0 : Int))).1.2) (y4.1, y4.2.1)) (rec1 (y3, (y4.1, y4.2.1, ()), IntKind.i64.wrap (IntKind.i64.wrap ((IntKind.i64.wrap (y5 + y6)).tdiv (2 : Int)) + (1 : Int)), y6, ())) (rec1 (y3, (y4.1, y4.2.1, ()), y5, IntKind.i64.wrap ((IntKind.i64.wrap (y5 + y6)).tdiv (2 : Int)), ()))) none) none) none) (br (decide (y5 < (↑y3.length : Int))) (br (decide ((0 : Int) ≤ y5)) (br (decide (y5 < (↑y3.length : Int))) (some ((y5, (y3.getD y5.toNat (((0 : Int), (0 : Int)), (0 : Int))).1.1 == y4.1 && (y3.getD y5.toNat (((0 : Int), (0 : Int)), (0 : Int))).1.2 == y4.2.1, ()), (), (), ())) none) none) (some ((y5, false, ()), (), (), ())))
def rbfind_P (K : Nat) (a0 : List ((Int × Int) × Int)) (a1 : Int × Int) : Option ((Int × Bool × Unit) × Unit × Unit × Unit) := loopN rbfind_L1 K (a0, (a1.1, a1.2, ()), (0 : Int), (↑a0.length : Int), ())
theorem rbfind_rn (K : Nat) (a0 : List ((Int × Int) × Int)) (a1 : Int × Int) : runF (cfgW g_rbfind) K f_rbfind rbfind_tm [.val (.slice tCell), .val tKey] [.val tI, .val .bool] (a0, a1, ()) = rbfind_P K a0 a1 := by kernel_rfl
abbrev g_rput : List (Nat × Ctr O0) := [(n_rbfind, c_rbfind)]
def rput_tm : List Tm := []
def rput_P (K : Nat) (a0 : List ((Int × Int) × Int)) (a1 : (Int × Int) × Int) : Option ((List ((Int × Int) × Int) × Unit) × Unit × Unit × Unit) := bd (grd (lenOk a0 && bufS a0) (((↑(cntK a0 (a1.1.1, a1.1.2)) : Int), hasK a0 (a1.1.1, a1.1.2), ()), (), (), ())) fun (x1 : (Int × Bool × Unit) × Unit × Unit × Unit) => br (decide ((0 : Int) ≤ x1.1.1)) (br (decide (x1.1.1 ≤ (↑a0.length : Int))) (br (decide ((List.take x1.1.1.toNat a0).length * (24 : Nat) ≤ LIM)) (br (decide ((List.take x1.1.1.toNat a0).length ≤ LIM)) (br (decide (((List.take x1.1.1.toNat a0).length + [((a1.1.1, a1.1.2), a1.2)].length) * (24 : Nat) ≤ LIM)) (br (decide ((List.take x1.1.1.toNat a0).length + [((a1.1.1, a1.1.2), a1.2)].length ≤ LIM)) (br x1.1.2.1 (br (decide ((0 : Int) ≤ IntKind.i64.wrap (x1.1.1 + (1 : Int)))) (br (decide (IntKind.i64.wrap (x1.1.1 + (1 : Int)) ≤ (↑a0.length : Int))) (br (decide (((cat (List.take x1.1.1.toNat a0) [((a1.1.1, a1.1.2), a1.2)]).length + (List.take (a0.length - (IntKind.i64.wrap (x1.1.1 + (1 : Int))).toNat) (List.drop (IntKind.i64.wrap (x1.1.1 + (1 : Int))).toNat a0)).length) * (24 : Nat) ≤ LIM)) (br (decide ((cat (List.take x1.1.1.toNat a0) [((a1.1.1, a1.1.2), a1.2)]).length + (List.take (a0.length - (IntKind.i64.wrap (x1.1.1 + (1 : Int))).toNat) (List.drop (IntKind.i64.wrap (x1.1.1 + (1 : Int))).toNat a0)).length ≤ LIM)) (some ((cat (cat (List.take x1.1.1.toNat a0) [((a1.1.1, a1.1.2), a1.2)]) (List.take (a0.length - (IntKind.i64.wrap (x1.1.1 + (1 : Int))).toNat) (List.drop (IntKind.i64.wrap (x1.1.1 + (1 : Int))).toNat a0)), ()), (), (), ())) none) none) none) none) (br (decide ((0 : Int) ≤ x1.1.1)) (br (decide (x1.1.1 ≤ (↑a0.length : Int))) (br (decide (((cat (List.take x1.1.1.toNat a0) [((a1.1.1, a1.1.2), a1.2)]).length + (List.take (a0.length - x1.1.1.toNat) (List.drop x1.1.1.toNat a0)).length) * (24 : Nat) ≤ LIM)) (br (decide ((cat (List.take x1.1.1.toNat a0) [((a1.1.1, a1.1.2), a1.2)]).length + (List.take (a0.length - x1.1.1.toNat) (List.drop x1.1.1.toNat a0)).length ≤ LIM)) (some ((cat (cat (List.take x1.1.1.toNat a0) [((a1.1.1, a1.1.2), a1.2)]) (List.take (a0.length - x1.1.1.toNat) (List.drop x1.1.1.toNat a0)), ()), (), (), ())) none) none) none) none)) none) none) none) none) none) none
theorem rput_rn (K : Nat) (a0 : List ((Int × Int) × Int)) (a1 : (Int × Int) × Int) : runF (cfgW g_rput) K f_rput rput_tm [.val (.slice tCell), .val tCell] [.own tCell] (a0, a1, ()) = rput_P K a0 a1 := by kernel_rfl
abbrev g_rbget : List (Nat × Ctr O0) := [(n_rbfind, c_rbfind)]
def rbget_tm : List Tm := []
def rbget_P (K : Nat) (a0 : List ((Int × Int) × Int)) (a1 : Int × Int) : Option ((Int × Bool × Unit) × Unit × Unit × Unit) := bd (grd (lenOk a0 && bufS a0) (((↑(cntK a0 (a1.1, a1.2)) : Int), hasK a0 (a1.1, a1.2), ()), (), (), ())) fun (x1 : (Int × Bool × Unit) × Unit × Unit × Unit) => br (!x1.1.2.1) (some (((0 : Int), false, ()), (), (), ())) (br (decide ((0 : Int) ≤ x1.1.1)) (br (decide (x1.1.1 < (↑a0.length : Int))) (some (((a0.getD x1.1.1.toNat (((0 : Int), (0 : Int)), (0 : Int))).2, true, ()), (), (), ())) none) none)
theorem rbget_rn (K : Nat) (a0 : List ((Int × Int) × Int)) (a1 : Int × Int) : runF (cfgW g_rbget) K f_rbget rbget_tm [.val (.slice tCell), .val tKey] [.val tW, .val .bool] (a0, a1, ()) = rbget_P K a0 a1 := by kernel_rfl
abbrev g_rspanRight : List (Nat × Ctr O0) := []
def rspanRight_tm : List Tm := []
def rspanRight_P (K : Nat) (a0 : Int × Int × Int) : Option ((Bool × Unit) × Unit × Unit) := br (decide (a0.1 ≥ (0 : Int))) (br (decide (a0.1 ≤ (3 : Int))) (br (decide (a0.2.1 ≥ (0 : Int))) (br (decide (a0.2.2 ≤ (65536 : Int))) (some ((decide (a0.2.1 < a0.2.2), ()), (), ())) (some ((false, ()), (), ()))) (some ((false, ()), (), ()))) (some ((false, ()), (), ()))) (some ((false, ()), (), ()))
theorem rspanRight_rn (K : Nat) (a0 : Int × Int × Int) : runF (cfgW g_rspanRight) K f_rspanRight rspanRight_tm [.val tSpan] [.val .bool] (a0, ()) = rspanRight_P K a0 := by kernel_rfl
abbrev g_key : List (Nat × Ctr O0) := [(n_within, c_within), (n_digit, c_digit)]
def key_tm : List Tm := []
def key_P (K : Nat) (a0 : Int) : Option (((Int × Int) × Unit) × Unit × Unit) := bd (grd (true && decide ((4 : Int) < (4611686018427387904 : Int))) ((a0 % (4 : Int), ()), (), (), ())) fun (x1 : (Int × Unit) × Unit × Unit × Unit) => bd (grd (true && (true && decide ((16 : Int) < (4611686018427387904 : Int)))) ((digitS a0 (4 : Int) (16 : Int), ()), (), (), (), ())) fun (x2 : (Int × Unit) × Unit × Unit × Unit × Unit) => bd (grd (true && (true && decide ((16 : Int) < (4611686018427387904 : Int)))) ((digitS a0 (64 : Int) (16 : Int), ()), (), (), (), ())) fun (x3 : (Int × Unit) × Unit × Unit × Unit × Unit) => br (x3.1.1 == (0 : Int)) (some (((x1.1.1, IntKind.i64.wrap ((65535 : Int) - x2.1.1)), ()), (), ())) (some (((x1.1.1, x2.1.1), ()), (), ()))
theorem key_rn (K : Nat) (a0 : Int) : runF (cfgW g_key) K f_key key_tm [.val tI] [.val tKey] (a0, ()) = key_P K a0 := by kernel_rfl
abbrev g_cell : List (Nat × Ctr O0) := [(n_key, c_key), (n_digit, c_digit)]
def cell_tm : List Tm := []
def cell_P (K : Nat) (a0 : Int) : Option ((((Int × Int) × Int) × Unit) × Unit × Unit) := bd (grd (decide ((0 : Int) < (1024 : Int)) && (decide ((0 : Int) < (65536 : Int)) && decide ((65536 : Int) < (4611686018427387904 : Int)))) ((digitS a0 (1024 : Int) (65536 : Int), ()), (), (), (), ())) fun (x1 : (Int × Unit) × Unit × Unit × Unit × Unit) => br (decide ((keyS a0).1 < (2 : Int))) (br (!false) (some (((((keyS a0).1, (keyS a0).2), (IntKind.u16.wrap x1.1.1).tmod (2 : Int)), ()), (), ())) none) (some (((((keyS a0).1, (keyS a0).2), IntKind.u16.wrap x1.1.1), ()), (), ()))
theorem cell_rn (K : Nat) (a0 : Int) : runF (cfgW g_cell) K f_cell cell_tm [.val tI] [.val tCell] (a0, ()) = cell_P K a0 := by kernel_rfl
end
end Go.BB
set_option linter.unusedSimpArgs false
set_option linter.unusedVariables false
namespace Go.BB
open Go Go.Proofs
set_option maxRecDepth 100000
theorem mk_eta {α β : Type} (p : α × β) : (p.1, p.2) = p := rfl
theorem notf' {α : Type} {x y : α} : br (!false) x y = x := rfl
theorem key_beq (a b : Key) : (a.1 == b.1 && a.2 == b.2) = decide (a = b) := by
 rw [← Bool.coe_iff_coe]
 simp only [Bool.and_eq_true, beq_iff_eq, decide_eq_true_eq]
 exact ⟨fun h => Prod.ext h.1 h.2, fun h => by subst h; exact ⟨rfl, rfl⟩⟩
theorem v_rless : Valid Try.prog n_rless c_rless := by
 refine valid_fn mixed hf_rless (by kernel_rfl) rfl (ts := tmpsOf f_rless.results.toList) (by kernel_rfl) (cfg := cfgW g_rless) tt_ok Γok_nil rless_tm c_rless (by kernel_rfl) (fun _ _ _ _ => ⟨⟩) ?_
 rintro ⟨(a : Key), (b : Key), ⟨⟩⟩ r u h
 refine ⟨0, (rless_rn _ _ _).trans (Eq.trans ?_ h)⟩
 show rless_P 0 a b = some ((keyLt a b, ()), ((), (), ()))
 unfold rless_P keyLt
 by_cases h1 : a.1 < b.1
 ·rw [br_dt h1]; simp [h1]
 ·rw [br_df h1]
  by_cases h2 : a.1 = b.1
  ·rw [br_t (by simp [h2])]; simp [h2]
  ·rw [br_f (by simp [h2])]; simp [h1, h2]
theorem v_rbfind : Valid Try.prog n_rbfind c_rbfind := by
 refine valid_fn mixed hf_rbfind (by kernel_rfl) rfl (ts := tmpsOf f_rbfind.results.toList) (by kernel_rfl) (cfg := cfgW g_rbfind) tt_ok (Γok_cons v_rless Γok_nil) rbfind_tm c_rbfind (by kernel_rfl) (fun _ _ _ _ => ⟨⟩) ?_
 rintro ⟨(l : List Cel), (k : Key), ⟨⟩⟩ r u h
 obtain ⟨h1, h2⟩ := grd_some h
 simp only [Bool.and_eq_true] at h1 h2
 have hl := lenOk_lt h1.1
 refine ⟨l.length + 1, (rbfind_rn _ _ _).trans (Eq.trans ?_ (congrArg some h2))⟩
 unfold rbfind_P
 have hc := cntK_le l k
 refine loopN_meas (step := rbfind_L1) (fun x => x.2.2.2.1.toNat - x.2.2.1.toNat) (fun x => ∃ (a b : Nat), a ≤ cntK l k ∧ cntK l k ≤ b ∧ b ≤ l.length ∧ x = (l, (k.1, k.2, ()), (a : Int), (b : Int), ())) (fun _ => some ((((cntK l k : Nat) : Int), hasK l k, ()), (), (), ())) ?_ _ _ ⟨0, l.length, by omega, by omega, by omega, rfl⟩ (by simp only; omega)
 rintro x ⟨a, b, ha, hb, hbl, rfl⟩ rec hrec
 simp only [rbfind_L1, notf', mk_eta]
 by_cases h : a < b
 ·have e : IntKind.i64.wrap ((IntKind.i64.wrap ((a : Int) + b)).tdiv 2) = (((a + b) / 2 : Nat) : Int) := by
   rw [wrapI (n := (a : Int) + b) (by omega) (by omega), Int.tdiv_eq_ediv_of_nonneg (by omega), wrapI (by omega) (by omega)]; omega
  rw [br_dt (by omega), e, br_dt (by omega), br_dt (by omega), Int.toNat_natCast]
  have hi := cntK_iff h1.2 k ((a + b) / 2) ((0, 0), 0) (by omega)
  by_cases hv : keyLt (l.getD ((a + b) / 2) ((0, 0), 0)).1 k = true
  ·rw [br_t hv, wrapI (by omega) (by omega)]
   have := hi.1 hv
   exact hrec _ ⟨(a + b) / 2 + 1, b, by omega, hb, hbl, by simp⟩ (by simp only; omega)
  ·rw [br_f (by simpa using hv)]
   have : ¬ (a + b) / 2 < cntK l k := fun h => hv (hi.2 h)
   exact hrec _ ⟨a, (a + b) / 2, ha, by omega, by omega, rfl⟩ (by simp only; omega)
 ·have e : a = cntK l k := by omega
  subst e
  rw [br_df (by omega)]
  unfold hasK
  by_cases hlt : cntK l k < l.length
  ·rw [br_dt (by omega), br_dt (by omega), br_dt (by omega), Int.toNat_natCast, key_beq, decide_eq_true hlt, Bool.true_and]
  ·rw [br_df (by omega), decide_eq_false hlt]; rfl
theorem hasK_lt {l : List Cel} {k : Key} (h : hasK l k = true) : cntK l k < l.length := by
 simp [hasK] at h; exact h.1
theorem v_rbget : Valid Try.prog n_rbget c_rbget := by
 refine valid_fn mixed hf_rbget (by kernel_rfl) rfl (ts := tmpsOf f_rbget.results.toList) (by kernel_rfl) (cfg := cfgW g_rbget) tt_ok (Γok_cons v_rbfind Γok_nil) rbget_tm c_rbget (by kernel_rfl) (fun _ _ _ _ => ⟨⟩) ?_
 rintro ⟨(l : List Cel), (k : Key), ⟨⟩⟩ r u h
 obtain ⟨h1, h2⟩ := grd_some h
 simp only at h1 h2
 refine ⟨0, (rbget_rn _ _ _).trans (Eq.trans ?_ (congrArg some h2))⟩
 unfold rbget_P getK
 rw [bd_grd h1]
 simp only [mk_eta, Int.toNat_natCast]
 cases hk : hasK l k with
 | true =>
  have hlt := hasK_lt hk
  rw [br_f (by rfl), br_dt (by omega), br_dt (by omega)]; rfl
 | false => rw [br_t (by rfl)]; rfl
theorem v_rput : Valid Try.prog n_rput c_rput := by
 refine valid_fn mixed hf_rput (by kernel_rfl) rfl (ts := tmpsOf f_rput.results.toList) (by kernel_rfl) (cfg := cfgW g_rput) tt_ok (Γok_cons v_rbfind Γok_nil) rput_tm c_rput (by kernel_rfl) (fun _ _ _ _ => ⟨⟩) ?_
 rintro ⟨(l : List Cel), (c : Cel), ⟨⟩⟩ r u h
 obtain ⟨h1, h2⟩ := grd_some h
 simp only at h1 h2
 have hl := lenOk_lt (Bool.and_eq_true _ _ ▸ h1 : _ ∧ _).1
 refine ⟨0, (rput_rn _ _ _).trans (Eq.trans ?_ (congrArg some h2))⟩
 unfold rput_P putK
 have hc := cntK_le l c.1
 rw [bd_grd h1]
 simp only [mk_eta, Int.toNat_natCast]
 rw [br_dt (by omega), br_dt (by omega), br_dt (lim_mul (by simp; omega) (by decide)), br_dt (lim_le (by simp; omega)), br_dt (lim_mul (by simp; omega) (by decide)), br_dt (lim_le (by simp; omega))]
 cases hk : hasK l c.1 with
 | true =>
  have hlt := hasK_lt hk
  have e2 : IntKind.i64.wrap ((cntK l c.1 : Int) + 1) = ((cntK l c.1 + 1 : Nat) : Int) := (wrapI (by omega) (by omega)).trans (by omega)
  simp only [e2, Int.toNat_natCast]
  have e3 : List.take (l.length - (cntK l c.1 + 1)) (List.drop (cntK l c.1 + 1) l) = List.drop (cntK l c.1 + 1) l := List.take_of_length_le (by simp)
  simp only [e3]
  rw [br_t rfl, br_dt (by omega), br_dt (by omega), br_dt (lim_mul (by simp [cat]; omega) (by decide)), br_dt (lim_le (by simp [cat]; omega))]
  simp [cat]
  rfl
 | false =>
  have e3 : List.take (l.length - cntK l c.1) (List.drop (cntK l c.1) l) = List.drop (cntK l c.1) l := List.take_of_length_le (by simp)
  simp only [e3]
  rw [br_f rfl, br_dt (by omega), br_dt (by omega), br_dt (lim_mul (by simp [cat]; omega) (by decide)), br_dt (lim_le (by simp [cat]; omega))]
  simp [cat]
  rfl
end Go.BB
set_option linter.unusedSimpArgs false
set_option linter.unusedVariables false
namespace Go.BB
open Go Go.Proofs
set_option maxRecDepth 100000
theorem v_lay : Valid Try.prog n_lay c_lay := by
 refine valid_fn mixed hf_lay (by kernel_rfl) rfl (ts := tmpsOf f_lay.results.toList) (by kernel_rfl) (cfg := cfgW g_lay) tt_ok Γok_nil lay_tm c_lay (by kernel_rfl) (fun _ _ _ _ => ⟨⟩) ?_
 rintro ⟨(k : Key), (l : List Int), ⟨⟩⟩ r u h
 obtain ⟨h1, h2⟩ := grd_some h
 simp only [Bool.and_eq_true, decide_eq_true_eq] at h1 h2
 have hl := lenOk_lt h1.1
 refine ⟨l.length + 1, (lay_rn _ _ _).trans (Eq.trans ?_ (congrArg some h2))⟩
 unfold lay_P
 rw [br_dt (by omega), br_dt (lim_mul (by omega) (by decide)), br_dt (lim_le (by omega))]
 simp only [Int.toNat_natCast]
 have hlen : ∀ (ws : List Int) (a : Int), (layFrom k.1 a ws).length = ws.length := by
  intro ws
  induction ws with
  | nil => intro a; rfl
  | cons w ws ih => intro a; simp [layFrom, ih]
 have hget : ∀ (ws : List Int) (a : Int) (i : Nat), i < ws.length → (layFrom k.1 a ws)[i]? = some ((k.1, a + i), ws.getD i 0) := by
  intro ws
  induction ws with
  | nil => intro a i h; simp at h
  | cons w ws ih =>
   intro a i h
   cases i with
   | zero => simp [layFrom]
   | succ i =>
    simp only [layFrom, List.getElem?_cons_succ, ih (a + 1) i (by simpa using h), List.getD_cons_succ]
    congr 3
    push_cast; omega
 refine Eq.trans ?_ (loopN_for (step := lay_L1) (res := some ((layFrom k.1 k.2 l, ()), (), (), ())) l.length (fun i => ((k.1, k.2, ()), (layFrom k.1 k.2 l).take i ++ List.replicate (l.length - i) ((0, 0), 0), l, (l.length : Int), (i : Int), ())) (fun i hi rec => ?_) (fun rec => ?_) (l.length + 1) (by omega))
 ·simp; rfl
 ·have ht : (List.take i (layFrom k.1 k.2 l)).length = i := by rw [List.length_take, hlen]; omega
  simp only [lay_L1, Int.toNat_natCast]
  rw [br_dt (by omega), br_dt (by omega), br_dt (by omega), br_dt (by omega), br_dt (by rw [List.length_append, ht, List.length_replicate]; omega), wrapI (n := (i : Int) + 1) (by omega) (by omega), wrapI (by omega) (by omega)]
  congr 1
  refine Prod.ext rfl (Prod.ext ?_ rfl)
  show List.set (_ ++ _) i _ = _
  rw [List.set_append_right _ _ (by omega), ht, Nat.sub_self, show l.length - i = (l.length - (i + 1)) + 1 by omega, List.replicate_succ, List.set_cons_zero, List.take_add_one, hget l k.2 i hi]
  simp
 ·simp only [lay_L1]
  rw [br_df (by omega), Nat.sub_self]
  have : List.take l.length (layFrom k.1 k.2 l) = layFrom k.1 k.2 l := List.take_of_length_le (by rw [hlen]; omega)
  rw [this]
  simp
theorem v_rspanRight : Valid Try.prog n_rspanRight c_rspanRight := by
 refine valid_fn mixed hf_rspanRight (by kernel_rfl) rfl (ts := tmpsOf f_rspanRight.results.toList) (by kernel_rfl) (cfg := cfgW g_rspanRight) tt_ok Γok_nil rspanRight_tm c_rspanRight (by kernel_rfl) (fun _ _ _ _ => ⟨⟩) ?_
 rintro ⟨(s : Spn), ⟨⟩⟩ r u h
 refine ⟨0, (rspanRight_rn _ _).trans (Eq.trans ?_ h)⟩
 show rspanRight_P 0 s = some ((spanR s, ()), (), ())
 unfold rspanRight_P spanR
 by_cases c1 : 0 ≤ s.1
 ·rw [br_dt c1, decide_eq_true c1, Bool.true_and]
  by_cases c2 : s.1 < 4
  ·rw [br_dt (by omega), decide_eq_true c2, Bool.true_and]
   by_cases c3 : 0 ≤ s.2.1
   ·rw [br_dt c3, decide_eq_true c3, Bool.true_and]
    by_cases c4 : s.2.2 ≤ 65536
    ·rw [br_dt c4, decide_eq_true c4, Bool.true_and]
    ·rw [br_df c4, decide_eq_false c4]; rfl
   ·rw [br_df c3, decide_eq_false c3]; rfl
  ·rw [br_df (by omega), decide_eq_false c2]; rfl
 ·rw [br_df c1, decide_eq_false c1]; rfl
theorem v_key : Valid Try.prog n_key c_key := by
 refine valid_fnc mixed hf_key (by kernel_rfl) rfl (cfg := cfgW g_key) tt_ok (Γok_cons v_within (Γok_cons v_digit Γok_nil)) key_tm c_key (by kernel_rfl) (fun _ _ _ _ => ⟨⟩) ?_
 rintro ⟨(k : Int), ⟨⟩⟩ r u h
 refine ⟨0, (key_rn _ _).trans (Eq.trans ?_ h)⟩
 show key_P 0 k = some ((keyS k, ()), (), ())
 unfold key_P keyS
 have h3 := digitS_range k 4 (n := 16) (by decide)
 rw [bd_grd (by rfl), bd_grd (by rfl), bd_grd (by rfl)]
 simp only
 rw [wrapI (n := 65535 - digitS k 4 16) (by omega) (by omega)]
 by_cases c1 : digitS k 64 16 = 0
 ·rw [br_t (beq_iff_eq.2 c1), if_pos c1]
 ·rw [br_f (beq_eq_false_iff_ne.2 c1), if_neg c1]
theorem v_cell : Valid Try.prog n_cell c_cell := by
 refine valid_fnc mixed hf_cell (by kernel_rfl) rfl (cfg := cfgW g_cell) tt_ok (Γok_cons v_key (Γok_cons v_digit Γok_nil)) cell_tm c_cell (by kernel_rfl) (fun _ _ _ _ => ⟨⟩) ?_
 rintro ⟨(k : Int), ⟨⟩⟩ r u h
 refine ⟨0, (cell_rn _ _).trans (Eq.trans ?_ h)⟩
 show cell_P 0 k = some ((cellS k, ()), (), ())
 unfold cell_P cellS
 have h3 := digitS_range k 1024 (n := 65536) (by decide)
 have hk := keyS_ok k
 have hk1 : (keyS k).1 = k % 4 := rfl
 rw [bd_grd (by rfl)]
 simp only [notf', mk_eta]
 rw [wrapW (n := digitS k 1024 65536) (by omega) (by omega), hk1]
 by_cases c1 : k % 4 < 2
 ·rw [br_dt c1, if_pos c1, Int.tmod_eq_emod_of_nonneg (by omega)]
 ·rw [br_df c1, if_neg c1]
end Go.BB
set_option linter.unusedSimpArgs false
set_option linter.unusedVariables false
namespace Go.BB
open Go Go.Proofs
set_option maxRecDepth 100000
theorem layFrom_len (t : Int) : ∀ (ws : List Int) (a : Int), (layFrom t a ws).length = ws.length
 | [], a => rfl
 | w :: ws, a => by unfold layFrom; rw [List.length_cons, layFrom_len t ws, List.length_cons]
theorem layFrom_snoc (t w : Int) : ∀ (ws : List Int) (a : Int), layFrom t a (ws ++ [w]) = layFrom t a ws ++ [((t, a + ws.length), w)]
 | [], a => by simp [layFrom]
 | x :: ws, a => by
  rw [List.cons_append]
  unfold layFrom
  rw [layFrom_snoc t w ws (a + 1), List.cons_append, List.length_cons]
  rw [show a + 1 + (ws.length : Int) = a + ((ws.length + 1 : Nat) : Int) by push_cast; omega]
theorem v_rlay : Valid Try.prog n_rlay c_rlay := by
 refine valid_fn mixed hf_rlay (by kernel_rfl) rfl (ts := tmpsOf f_rlay.results.toList) (by kernel_rfl) (cfg := cfgW g_rlay) tt_ok Γok_nil rlay_tm c_rlay (by kernel_rfl) (fun _ _ _ _ => ⟨⟩) ?_
 rintro ⟨(⟨t, at1⟩ : Key), (ws : List Int), ⟨⟩⟩ r u h
 obtain ⟨h1, h2⟩ := grd_some h
 simp only [Bool.and_eq_true, decide_eq_true_eq] at h1
 obtain ⟨g1, g2, g3⟩ := h1
 have hl := lenOk_lt g1
 refine ⟨ws.length + 1, (rlay_rn _ _ _).trans (Eq.trans ?_ (congrArg some h2))⟩
 show rlay_P (ws.length + 1) (t, at1) ws = some ((layFrom t at1 ws, ()), ((), (), ()))
 unfold rlay_P
 refine loopN_for (step := rlay_L1) ws.length (fun i => (ws, (t, at1, ()), layFrom t at1 (ws.take i), (i : Int), ())) (fun i hi rec => ?_) (fun rec => ?_) (ws.length + 1) (by omega)
 ·simp only [rlay_L1, Int.toNat_natCast]
  have e : (layFrom t at1 (ws.take i)).length = i := by rw [layFrom_len, List.length_take]; omega
  rw [br_dt (by omega), br_dt (by omega), br_dt (by omega), br_dt (by rw [e]; simp only [List.length_singleton, LIM]; omega), br_dt (by rw [e]; simp only [List.length_singleton, LIM]; omega), wrapI (n := (i : Int) + 1) (by omega) (by omega), wrapI (n := at1 + (i : Int)) (by omega) (by omega)]
  rw [take_snoc ws i 0 hi, layFrom_snoc, show ((ws.take i).length : Int) = (i : Int) by rw [List.length_take]; omega]
  rfl
 ·simp only [rlay_L1]
  rw [br_df (by omega), List.take_length]
theorem v_shown : Valid Try.prog n_shown c_shown := by
 refine valid_fnc mixed hf_shown (by kernel_rfl) rfl (cfg := cfgW g_shown) tt_ok Γok_nil shown_tm c_shown (by kernel_rfl) (fun _ _ _ _ => ⟨⟩) ?_
 rintro ⟨(a : AskT), (l : List Int), ⟨⟩⟩ r u h
 obtain ⟨h1, h2⟩ := grd_some h
 have hl := lenOk_lt h1
 dsimp only at hl
 refine ⟨l.length + 1, (shown_rn _ _ _).trans (Eq.trans ?_ (congrArg some h2))⟩
 show shown_P (l.length + 1) a l = some ((shownA a l, ()), ((), (), ()))
 have hloop1 : loopN shown_L1 (l.length + 1) (l, (0, 0, (), (), 0, 0, 0, 0, 0, 0, 0, false, 0, (), ()), (a.1, 0, [], (), 0, 0, 0, 0, 0, 0, 0, false, 0, (), ()), 0, ()) = some (((a.1, 0, l.map (fun v => v != 0), [], 0, 0, 0, 0, 0, 0, 0, false, 0, []), ()), (), (), ()) := by
  refine loopN_for (step := shown_L1) l.length (fun i => (l, (0, 0, (), (), 0, 0, 0, 0, 0, 0, 0, false, 0, (), ()), (a.1, 0, (l.take i).map (fun v => v != 0), (), 0, 0, 0, 0, 0, 0, 0, false, 0, (), ()), (i : Int), ())) (fun i hi rec => ?_) (fun rec => ?_) (l.length + 1) (by omega)
  ·simp only [shown_L1, Int.toNat_natCast]
   have e : ((l.take i).map (fun v => v != 0)).length = i := by rw [List.length_map, List.length_take]; omega
   rw [br_dt (by omega), br_dt (by omega), br_dt (by omega), br_dt (by rw [e]; simp only [List.length_singleton, LIM]; omega), br_dt (by rw [e]; simp only [List.length_singleton, LIM]; omega), wrapI (by omega) (by omega)]
   rw [take_snoc l i 0 hi, List.map_append]
   rfl
  ·simp only [shown_L1]
   rw [br_df (by omega), List.take_length]
 unfold shown_P shownA
 by_cases f1 : a.1 = 1
 ·rw [br_f (by rw [f1]; rfl), if_pos (.inl f1)]
  exact hloop1
 ·rw [br_t (by simpa using f1)]
  by_cases f2 : a.1 = 2
  ·rw [br_f (by rw [f2]; rfl), if_pos (.inr f2)]
   exact hloop1
  ·rw [br_t (by simpa using f2), br_dt (lim_mul (by omega) (by decide)), br_dt (lim_le (by omega)), if_neg (by rintro (h | h); exact f1 h; exact f2 h)]
theorem v_rfget : Valid Try.prog n_rfget c_rfget := by
 refine valid_fn mixed hf_rfget (by kernel_rfl) rfl (ts := tmpsOf f_rfget.results.toList) (by kernel_rfl) (cfg := cfgW g_rfget) tt_ok (Γok_cons v_rbget Γok_nil) rfget_tm c_rfget (by kernel_rfl) (fun _ _ _ _ => ⟨⟩) ?_
 rintro ⟨(⟨m, ⟨⟩⟩ : List Cel × Unit), (k : Key), ⟨⟩⟩ r u h
 obtain ⟨h1, h2⟩ := grd_some h
 refine ⟨0, (rfget_rn _ _ _).trans (Eq.trans ?_ (congrArg some h2))⟩
 show rfget_P 0 (m, ()) k = some (((getK m k).1, ()), ((m, ()), (), ()))
 unfold rfget_P
 rw [bd_grd h1]
theorem setR_ok : ∀ (l m : List Cel), bufS m = true → bufS (setR m l) = true ∧ (setR m l).length ≤ m.length + l.length
 | [], m, h => ⟨h, by show m.length ≤ _; omega⟩
 | c :: l, m, h => by
  show bufS (setR (if keyR c.1 then putK m c else m) l) = true ∧ (setR (if keyR c.1 then putK m c else m) l).length ≤ _
  rw [List.length_cons]
  cases keyR c.1 with
  | true =>
   have h2 : bufS (putK m c) = true := by rw [putK_eq]; exact bufS_put c h
   have h3 : (putK m c).length ≤ m.length + 1 := by rw [putK_eq]; exact putR_len m c
   have := setR_ok l (putK m c) h2
   exact ⟨this.1, Nat.le_trans this.2 (by omega)⟩
  | false =>
   have := setR_ok l m h
   exact ⟨this.1, Nat.le_trans this.2 (by omega)⟩
theorem keyR_4 {α : Type} (k : Key) (x y : α) : br (decide (k.1 ≥ 0)) (br (decide (k.1 ≤ 3)) (br (decide (k.2 ≥ 0)) (br (decide (k.2 < 65536)) x y) y) y) y = br (keyR k) x y := by
 unfold keyR
 by_cases h1 : k.1 ≥ 0
 ·by_cases h2 : k.1 ≤ 3
  ·by_cases h3 : k.2 ≥ 0
   ·by_cases h4 : k.2 < 65536
    ·rw [br_dt h1, br_dt h2, br_dt h3, br_dt h4, br_t (by simp; omega)]
    ·rw [br_dt h1, br_dt h2, br_dt h3, br_df h4, br_f (by simp; omega)]
   ·rw [br_dt h1, br_dt h2, br_df h3, br_f (by simp; omega)]
  ·rw [br_dt h1, br_df h2, br_f (by simp; omega)]
 ·rw [br_df h1, br_f (by simp; omega)]
theorem v_rfset : Valid Try.prog n_rfset c_rfset := by
 refine valid_fn mixed hf_rfset (by kernel_rfl) rfl (ts := tmpsOf f_rfset.results.toList) (by kernel_rfl) (cfg := cfgW g_rfset) tt_ok (Γok_cons v_rput Γok_nil) rfset_tm c_rfset (by kernel_rfl) (fun _ _ _ _ => ⟨⟩) ?_
 rintro ⟨(⟨m, ⟨⟩⟩ : List Cel × Unit), (l : List Cel), ⟨⟩⟩ r u h
 obtain ⟨h1, h2⟩ := grd_some h
 simp only [Bool.and_eq_true, decide_eq_true_eq] at h1
 obtain ⟨g1, g2, g3⟩ := h1
 refine ⟨l.length + 1, (rfset_rn _ _ _).trans (Eq.trans ?_ (congrArg some h2))⟩
 show rfset_P (l.length + 1) (m, ()) l = some ((), ((setR m l, ()), (), ()))
 unfold rfset_P
 refine loopN_for (step := rfset_L1) l.length (fun i => ((setR m (l.take i), ()), l, (i : Int), ())) (fun i hi rec => ?_) (fun rec => ?_) (l.length + 1) (by omega)
 ·simp only [rfset_L1, Int.toNat_natCast]
  obtain ⟨k1, k2⟩ := setR_ok (l.take i) m g2
  have k3 : (l.take i).length ≤ l.length := by rw [List.length_take]; omega
  rw [br_dt (show (i : Int) < (l.length : Int) by omega), br_dt (show (0 : Int) ≤ (i : Int) by omega), br_dt (show (i : Int) < (l.length : Int) by omega), wrapI (by omega) (by omega), take_snoc l i ((0, 0), 0) hi]
  simp only [br_dt (show (i : Int) < (l.length : Int) by omega), br_dt (show (0 : Int) ≤ (i : Int) by omega)]
  have e : ∀ c : Cel, setR m (l.take i ++ [c]) = if keyR c.1 then putK (setR m (l.take i)) c else setR m (l.take i) := by intro c; simp [setR]
  rw [e]
  refine (keyR_4 (l.getD i ((0, 0), 0)).1 _ _).trans ?_
  rw [bd_grd (and_t (lenOk_of (by omega)) k1)]
  cases hk : keyR (l.getD i ((0, 0), 0)).1 with
  | true => rw [br_t rfl, if_pos rfl]; rfl
  | false => rw [br_f rfl, if_neg (by decide)]; rfl
 ·simp only [rfset_L1]
  rw [br_df (by omega), List.take_length]
end Go.BB
