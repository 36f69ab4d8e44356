/- A symbolic machine for the model's code, and what it shows of this seat's functions. No conditions. -/
import Derived.Test.YtnofmeckcimodaaFN
import Derived.Test.YtnofmeckcimodaaFGfgb
import Derived.Test.YtnofmeckcimodaaFLFile
import Derived.Test.YtnofmeckcimodaaFGfde
set_option linter.unusedSimpArgs false
set_option linter.unusedVariables false
namespace Go.BB
open Go Go.Proofs
set_option maxRecDepth 100000
set_option exponentiation.threshold 100000
noncomputable section
abbrev g_words : List (Nat × Ctr O0) := [(n_within, c_within)]
def words_tm : List Tm := [[((0 : Nat), none, Sh.val (Ty.int IntKind.i64)), ((1 : Nat), none, Sh.val (Ty.int IntKind.i64)), ((5 : Nat), none, Sh.own (Ty.int IntKind.u16)), ((6 : Nat), none, Sh.val (Ty.int IntKind.i64))]]
def words_L1 (rec1 : Int × Int × List Int × Int × Unit → Option ((List Int × Unit) × Unit × Unit × Unit)) : Int × Int × List Int × Int × Unit → Option ((List Int × Unit) × Unit × Unit × Unit) := fun (y3, y4, y5, y6, ()) => br (decide (y6 < y4)) (bd (grd (decide ((0 : Int) < (60000 : Int)) && decide ((60000 : Int) < (4611686018427387904 : Int))) ((y3 % (60000 : Int), ()), (), (), ())) fun (x7 : (Int × Unit) × Unit × Unit × Unit) => br (decide ((y5.length + [IntKind.u16.wrap (IntKind.i64.wrap (x7.1.1 + y6))].length) * (2 : Nat) ≤ LIM)) (br (decide (y5.length + [IntKind.u16.wrap (IntKind.i64.wrap (x7.1.1 + y6))].length ≤ LIM)) (rec1 (y3, y4, cat y5 [IntKind.u16.wrap (IntKind.i64.wrap (x7.1.1 + y6))], IntKind.i64.wrap (y6 + (1 : Int)), ())) none) none) (some ((y5, ()), (), (), ()))
def words_P (K : Nat) (a0 : Int) (a1 : Int) : Option ((List Int × Unit) × Unit × Unit × Unit) := loopN words_L1 K (a0, a1, [], (0 : Int), ())
theorem words_rn (K : Nat) (a0 : Int) (a1 : Int) : runF (cfgW g_words) K f_words words_tm [.val tI, .val tI] [.own tW] (a0, a1, ()) = words_P K a0 a1 := by kernel_rfl
abbrev g_ask : List (Nat × Ctr O0) := [(n_digit, c_digit), (n_within, c_within), (n_words, c_words)]
def ask_tm : List Tm := [[((1 : Nat), none, Sh.val (Ty.int IntKind.i64)), ((4 : Nat), none, ((Sh.val (Ty.int IntKind.i64)).cons ((Sh.val (Ty.int IntKind.i64)).cons ((Sh.val (Ty.int IntKind.i64)).cons ((Sh.val (Ty.int IntKind.u16)).cons ((Sh.val (Ty.int IntKind.u16)).cons ((Sh.val (Ty.int IntKind.u16)).cons (Sh.nil.cons (Sh.nil.cons ((Sh.val (Ty.int IntKind.i64)).cons ((Sh.val (Ty.int IntKind.i64)).cons ((Sh.val (Ty.int IntKind.i64)).cons ((Sh.val (Ty.int IntKind.i64)).cons Sh.unit)))))))))))).ptr), ((6 : Nat), none, Sh.val (Ty.int IntKind.i64)), ((7 : Nat), none, ((Sh.val (Ty.int IntKind.i64)).cons ((Sh.val (Ty.int IntKind.i64)).cons ((Sh.val (Ty.int IntKind.i64)).cons ((Sh.val (Ty.int IntKind.u16)).cons ((Sh.val (Ty.int IntKind.u16)).cons ((Sh.val (Ty.int IntKind.u16)).cons ((Sh.own Ty.bool).cons (Sh.nil.cons ((Sh.val (Ty.int IntKind.i64)).cons ((Sh.val (Ty.int IntKind.i64)).cons ((Sh.val (Ty.int IntKind.i64)).cons ((Sh.val (Ty.int IntKind.i64)).cons Sh.unit)))))))))))).ptr), ((8 : Nat), none, Sh.val (Ty.int IntKind.i64))]]
def ask_L1 (rec12 : Int × (Int × Int × Int × Int × Int × Int × Unit × Unit × Int × Int × Int × Int × Unit) × Int × (Int × Int × Int × Int × Int × Int × List Bool × Unit × Int × Int × Int × Int × Unit) × Int × Unit → Option ((AskT × Unit) × Unit × Unit × Unit)) : Int × (Int × Int × Int × Int × Int × Int × Unit × Unit × Int × Int × Int × Int × Unit) × Int × (Int × Int × Int × Int × Int × Int × List Bool × Unit × Int × Int × Int × Int × Unit) × Int × Unit → Option ((AskT × Unit) × Unit × Unit × Unit) := fun (y14, y15, y16, y17, y18, ()) => br (decide (y18 < y16)) (bd (grd (decide ((0 : Int) < IntKind.i64.wrap ((7 : Int) + y18)) && decide (IntKind.i64.wrap ((7 : Int) + y18) < (4611686018427387904 : Int))) ((y14 % IntKind.i64.wrap ((7 : Int) + y18), ()), (), (), ())) fun (x19 : (Int × Unit) × Unit × Unit × Unit) => br (!false) (br (decide ((y17.2.2.2.2.2.2.1.length + [x19.1.1.tmod (2 : Int) == (1 : Int)].length) * (1 : Nat) ≤ LIM)) (br (decide (y17.2.2.2.2.2.2.1.length + [x19.1.1.tmod (2 : Int) == (1 : Int)].length ≤ LIM)) (rec12 (y14, (y15.1, y15.2.1, y15.2.2.1, y15.2.2.2.1, y15.2.2.2.2.1, y15.2.2.2.2.2.1, (), (), y15.2.2.2.2.2.2.2.2.1, y15.2.2.2.2.2.2.2.2.2.1, y15.2.2.2.2.2.2.2.2.2.2.1, y15.2.2.2.2.2.2.2.2.2.2.2.1, ()), y16, (y17.1, y17.2.1, y17.2.2.1, y17.2.2.2.1, y17.2.2.2.2.1, y17.2.2.2.2.2.1, cat y17.2.2.2.2.2.2.1 [x19.1.1.tmod (2 : Int) == (1 : Int)], (), y17.2.2.2.2.2.2.2.2.1, y17.2.2.2.2.2.2.2.2.2.1, y17.2.2.2.2.2.2.2.2.2.2.1, y17.2.2.2.2.2.2.2.2.2.2.2.1, ()), IntKind.i64.wrap (y18 + (1 : Int)), ())) none) none) none) (some (((y17.1, y17.2.1, y17.2.2.1, y17.2.2.2.1, y17.2.2.2.2.1, y17.2.2.2.2.2.1, y17.2.2.2.2.2.2.1, [], y17.2.2.2.2.2.2.2.2.1, y17.2.2.2.2.2.2.2.2.2.1, y17.2.2.2.2.2.2.2.2.2.2.1, y17.2.2.2.2.2.2.2.2.2.2.2.1), ()), (), (), ()))
def ask_L2 (rec20 : Int × (Int × Int × Int × Int × Int × Int × Unit × Unit × Int × Int × Int × Int × Unit) × Int × (Int × Int × Int × Int × Int × Int × List Bool × Unit × Int × Int × Int × Int × Unit) × Int × Unit → Option ((AskT × Unit) × Unit × Unit × Unit)) : Int × (Int × Int × Int × Int × Int × Int × Unit × Unit × Int × Int × Int × Int × Unit) × Int × (Int × Int × Int × Int × Int × Int × List Bool × Unit × Int × Int × Int × Int × Unit) × Int × Unit → Option ((AskT × Unit) × Unit × Unit × Unit) := fun (y22, y23, y24, y25, y26, ()) => br (decide (y26 < y24)) (bd (grd (decide ((0 : Int) < IntKind.i64.wrap ((7 : Int) + y26)) && decide (IntKind.i64.wrap ((7 : Int) + y26) < (4611686018427387904 : Int))) ((y22 % IntKind.i64.wrap ((7 : Int) + y26), ()), (), (), ())) fun (x27 : (Int × Unit) × Unit × Unit × Unit) => br (!false) (br (decide ((y25.2.2.2.2.2.2.1.length + [x27.1.1.tmod (2 : Int) == (1 : Int)].length) * (1 : Nat) ≤ LIM)) (br (decide (y25.2.2.2.2.2.2.1.length + [x27.1.1.tmod (2 : Int) == (1 : Int)].length ≤ LIM)) (rec20 (y22, (y23.1, y23.2.1, y23.2.2.1, y23.2.2.2.1, y23.2.2.2.2.1, y23.2.2.2.2.2.1, (), (), y23.2.2.2.2.2.2.2.2.1, y23.2.2.2.2.2.2.2.2.2.1, y23.2.2.2.2.2.2.2.2.2.2.1, y23.2.2.2.2.2.2.2.2.2.2.2.1, ()), y24, (y25.1, y25.2.1, y25.2.2.1, y25.2.2.2.1, y25.2.2.2.2.1, y25.2.2.2.2.2.1, cat y25.2.2.2.2.2.2.1 [x27.1.1.tmod (2 : Int) == (1 : Int)], (), y25.2.2.2.2.2.2.2.2.1, y25.2.2.2.2.2.2.2.2.2.1, y25.2.2.2.2.2.2.2.2.2.2.1, y25.2.2.2.2.2.2.2.2.2.2.2.1, ()), IntKind.i64.wrap (y26 + (1 : Int)), ())) none) none) none) (some (((y25.1, y25.2.1, y25.2.2.1, y25.2.2.2.1, y25.2.2.2.2.1, y25.2.2.2.2.2.1, y25.2.2.2.2.2.2.1, [], y25.2.2.2.2.2.2.2.2.1, y25.2.2.2.2.2.2.2.2.2.1, y25.2.2.2.2.2.2.2.2.2.2.1, y25.2.2.2.2.2.2.2.2.2.2.2.1), ()), (), (), ()))
def ask_L3 (rec44 : Int × (Int × Int × Int × Int × Int × Int × Unit × Unit × Int × Int × Int × Int × Unit) × Int × (Int × Int × Int × Int × Int × Int × List Bool × Unit × Int × Int × Int × Int × Unit) × Int × Unit → Option ((AskT × Unit) × Unit × Unit × Unit)) : Int × (Int × Int × Int × Int × Int × Int × Unit × Unit × Int × Int × Int × Int × Unit) × Int × (Int × Int × Int × Int × Int × Int × List Bool × Unit × Int × Int × Int × Int × Unit) × Int × Unit → Option ((AskT × Unit) × Unit × Unit × Unit) := fun (y46, y47, y48, y49, y50, ()) => br (decide (y50 < y48)) (bd (grd (decide ((0 : Int) < IntKind.i64.wrap ((7 : Int) + y50)) && decide (IntKind.i64.wrap ((7 : Int) + y50) < (4611686018427387904 : Int))) ((y46 % IntKind.i64.wrap ((7 : Int) + y50), ()), (), (), ())) fun (x51 : (Int × Unit) × Unit × Unit × Unit) => br (!false) (br (decide ((y49.2.2.2.2.2.2.1.length + [x51.1.1.tmod (2 : Int) == (1 : Int)].length) * (1 : Nat) ≤ LIM)) (br (decide (y49.2.2.2.2.2.2.1.length + [x51.1.1.tmod (2 : Int) == (1 : Int)].length ≤ LIM)) (rec44 (y46, (y47.1, y47.2.1, y47.2.2.1, y47.2.2.2.1, y47.2.2.2.2.1, y47.2.2.2.2.2.1, (), (), y47.2.2.2.2.2.2.2.2.1, y47.2.2.2.2.2.2.2.2.2.1, y47.2.2.2.2.2.2.2.2.2.2.1, y47.2.2.2.2.2.2.2.2.2.2.2.1, ()), y48, (y49.1, y49.2.1, y49.2.2.1, y49.2.2.2.1, y49.2.2.2.2.1, y49.2.2.2.2.2.1, cat y49.2.2.2.2.2.2.1 [x51.1.1.tmod (2 : Int) == (1 : Int)], (), y49.2.2.2.2.2.2.2.2.1, y49.2.2.2.2.2.2.2.2.2.1, y49.2.2.2.2.2.2.2.2.2.2.1, y49.2.2.2.2.2.2.2.2.2.2.2.1, ()), IntKind.i64.wrap (y50 + (1 : Int)), ())) none) none) none) (some (((y49.1, y49.2.1, y49.2.2.1, y49.2.2.2.1, y49.2.2.2.2.1, y49.2.2.2.2.2.1, y49.2.2.2.2.2.2.1, [], y49.2.2.2.2.2.2.2.2.1, y49.2.2.2.2.2.2.2.2.2.1, y49.2.2.2.2.2.2.2.2.2.2.1, y49.2.2.2.2.2.2.2.2.2.2.2.1), ()), (), (), ()))
def ask_L4 (rec52 : Int × (Int × Int × Int × Int × Int × Int × Unit × Unit × Int × Int × Int × Int × Unit) × Int × (Int × Int × Int × Int × Int × Int × List Bool × Unit × Int × Int × Int × Int × Unit) × Int × Unit → Option ((AskT × Unit) × Unit × Unit × Unit)) : Int × (Int × Int × Int × Int × Int × Int × Unit × Unit × Int × Int × Int × Int × Unit) × Int × (Int × Int × Int × Int × Int × Int × List Bool × Unit × Int × Int × Int × Int × Unit) × Int × Unit → Option ((AskT × Unit) × Unit × Unit × Unit) := fun (y54, y55, y56, y57, y58, ()) => br (decide (y58 < y56)) (bd (grd (decide ((0 : Int) < IntKind.i64.wrap ((7 : Int) + y58)) && decide (IntKind.i64.wrap ((7 : Int) + y58) < (4611686018427387904 : Int))) ((y54 % IntKind.i64.wrap ((7 : Int) + y58), ()), (), (), ())) fun (x59 : (Int × Unit) × Unit × Unit × Unit) => br (!false) (br (decide ((y57.2.2.2.2.2.2.1.length + [x59.1.1.tmod (2 : Int) == (1 : Int)].length) * (1 : Nat) ≤ LIM)) (br (decide (y57.2.2.2.2.2.2.1.length + [x59.1.1.tmod (2 : Int) == (1 : Int)].length ≤ LIM)) (rec52 (y54, (y55.1, y55.2.1, y55.2.2.1, y55.2.2.2.1, y55.2.2.2.2.1, y55.2.2.2.2.2.1, (), (), y55.2.2.2.2.2.2.2.2.1, y55.2.2.2.2.2.2.2.2.2.1, y55.2.2.2.2.2.2.2.2.2.2.1, y55.2.2.2.2.2.2.2.2.2.2.2.1, ()), y56, (y57.1, y57.2.1, y57.2.2.1, y57.2.2.2.1, y57.2.2.2.2.1, y57.2.2.2.2.2.1, cat y57.2.2.2.2.2.2.1 [x59.1.1.tmod (2 : Int) == (1 : Int)], (), y57.2.2.2.2.2.2.2.2.1, y57.2.2.2.2.2.2.2.2.2.1, y57.2.2.2.2.2.2.2.2.2.2.1, y57.2.2.2.2.2.2.2.2.2.2.2.1, ()), IntKind.i64.wrap (y58 + (1 : Int)), ())) none) none) none) (some (((y57.1, y57.2.1, y57.2.2.1, y57.2.2.2.1, y57.2.2.2.2.1, y57.2.2.2.2.2.1, y57.2.2.2.2.2.2.1, [], y57.2.2.2.2.2.2.2.2.1, y57.2.2.2.2.2.2.2.2.2.1, y57.2.2.2.2.2.2.2.2.2.2.1, y57.2.2.2.2.2.2.2.2.2.2.2.1), ()), (), (), ()))
def ask_P (K : Nat) (a0 : Int) (a1 : Int) : Option ((AskT × Unit) × Unit × Unit × Unit) := bd (grd (true && (true && decide ((40 : Int) < (4611686018427387904 : Int)))) ((digitS a0 (16 : Int) (40 : Int), ()), (), (), (), ())) fun (x1 : (Int × Unit) × Unit × Unit × Unit × Unit) => bd (grd (true && (true && decide ((6 : Int) < (4611686018427387904 : Int)))) ((digitS a0 (640 : Int) (6 : Int), ()), (), (), (), ())) fun (x2 : (Int × Unit) × Unit × Unit × Unit × Unit) => bd (grd (true && (true && decide ((12 : Int) < (4611686018427387904 : Int)))) ((digitS a0 (3840 : Int) (12 : Int), ()), (), (), (), ())) fun (x3 : (Int × Unit) × Unit × Unit × Unit × Unit) => br (x3.1.1 == (0 : Int)) (bd (grd (decide ((0 : Int) < (46080 : Int)) && (decide ((0 : Int) < (65536 : Int)) && decide ((65536 : Int) < (4611686018427387904 : Int)))) ((digitS a0 (46080 : Int) (65536 : Int), ()), (), (), (), ())) fun (x4 : (Int × Unit) × Unit × Unit × Unit × Unit) => bd (grd (true && decide ((16 : Int) < (4611686018427387904 : Int))) ((a0 % (16 : Int), ()), (), (), ())) fun (x5 : (Int × Unit) × Unit × Unit × Unit) => br (x5.1.1 == (0 : Int)) (some ((((1 : Int), x4.1.1, IntKind.i64.wrap ((1 : Int) + x2.1.1), (0 : Int), (0 : Int), (0 : Int), [], [], (0 : Int), (0 : Int), (0 : Int), (0 : Int)), ()), (), (), ())) (br (x5.1.1 == (1 : Int)) (some ((((2 : Int), x4.1.1, IntKind.i64.wrap ((1 : Int) + x2.1.1), (0 : Int), (0 : Int), (0 : Int), [], [], (0 : Int), (0 : Int), (0 : Int), (0 : Int)), ()), (), (), ())) (br (x5.1.1 == (2 : Int)) (some ((((3 : Int), x4.1.1, IntKind.i64.wrap ((1 : Int) + x2.1.1), (0 : Int), (0 : Int), (0 : Int), [], [], (0 : Int), (0 : Int), (0 : Int), (0 : Int)), ()), (), (), ())) (br (x5.1.1 == (3 : Int)) (some ((((3 : Int), x4.1.1, IntKind.i64.wrap ((1 : Int) + x2.1.1), (0 : Int), (0 : Int), (0 : Int), [], [], (0 : Int), (0 : Int), (0 : Int), (0 : Int)), ()), (), (), ())) (br (x5.1.1 == (4 : Int)) (some ((((3 : Int), x4.1.1, IntKind.i64.wrap ((1 : Int) + x2.1.1), (0 : Int), (0 : Int), (0 : Int), [], [], (0 : Int), (0 : Int), (0 : Int), (0 : Int)), ()), (), (), ())) (br (x5.1.1 == (5 : Int)) (some ((((4 : Int), x4.1.1, IntKind.i64.wrap ((1 : Int) + x2.1.1), (0 : Int), (0 : Int), (0 : Int), [], [], (0 : Int), (0 : Int), (0 : Int), (0 : Int)), ()), (), (), ())) (br (x5.1.1 == (6 : Int)) (bd (grd (true && decide ((2 : Int) < (4611686018427387904 : Int))) ((a1 % (2 : Int), ()), (), (), ())) fun (x6 : (Int × Unit) × Unit × Unit × Unit) => some ((((5 : Int), x4.1.1, (0 : Int), IntKind.u16.wrap x6.1.1, (0 : Int), (0 : Int), [], [], (0 : Int), (0 : Int), (0 : Int), (0 : Int)), ()), (), (), ())) (br (x5.1.1 == (7 : Int)) (bd (grd (decide ((0 : Int) < (60000 : Int)) && decide ((60000 : Int) < (4611686018427387904 : Int))) ((a1 % (60000 : Int), ()), (), (), ())) fun (x7 : (Int × Unit) × Unit × Unit × Unit) => some ((((6 : Int), x4.1.1, (0 : Int), IntKind.u16.wrap x7.1.1, (0 : Int), (0 : Int), [], [], (0 : Int), (0 : Int), (0 : Int), (0 : Int)), ()), (), (), ())) (br (x5.1.1
 == (8 : Int)) (bd (grd (decide ((0 : Int) < (60000 : Int)) && decide ((60000 : Int) < (4611686018427387904 : Int))) ((a1 % (60000 : Int), ()), (), (), ())) fun (x8 : (Int × Unit) × Unit × Unit × Unit) => some ((((6 : Int), x4.1.1, (0 : Int), IntKind.u16.wrap x8.1.1, (0 : Int), (0 : Int), [], [], (0 : Int), (0 : Int), (0 : Int), (0 : Int)), ()), (), (), ())) (br (x5.1.1 == (9 : Int)) (bd (grd (decide ((0 : Int) < (60000 : Int)) && decide ((60000 : Int) < (4611686018427387904 : Int))) ((a1 % (60000 : Int), ()), (), (), ())) fun (x9 : (Int × Unit) × Unit × Unit × Unit) => some ((((6 : Int), x4.1.1, (0 : Int), IntKind.u16.wrap x9.1.1, (0 : Int), (0 : Int), [], [], (0 : Int), (0 : Int), (0 : Int), (0 : Int)), ()), (), (), ())) (br (x5.1.1 == (10 : Int)) (bd (grd (true && (true && decide ((3 : Int) < (4611686018427387904 : Int)))) ((digitS a1 (64 : Int) (3 : Int), ()), (), (), (), ())) fun (x10 : (Int × Unit) × Unit × Unit × Unit × Unit) => br (x10.1.1 == (0 : Int)) (bd (grd (true && (true && decide ((20 : Int) < (4611686018427387904 : Int)))) ((digitS a0 (16 : Int) (20 : Int), ()), (), (), (), ())) fun (x11 : (Int × Unit) × Unit × Unit × Unit × Unit) => loopN ask_L1 K (a1, ((0 : Int), (0 : Int), (0 : Int), (0 : Int), (0 : Int), (0 : Int), (), (), (0 : Int), (0 : Int), (0 : Int), (0 : Int), ()), IntKind.i64.wrap ((14 : Int) + IntKind.i64.wrap ((1 : Int) + x2.1.1)), ((15 : Int), x11.1.1, IntKind.i64.wrap ((14 : Int) + IntKind.i64.wrap ((1 : Int) + x2.1.1)), (0 : Int), (0 : Int), (0 : Int), [], (), (0 : Int), (0 : Int), (0 : Int), (0 : Int), ()), (0 : Int), ())) (loopN ask_L2 K (a1, ((0 : Int), (0 : Int), (0 : Int), (0 : Int), (0 : Int), (0 : Int), (), (), (0 : Int), (0 : Int), (0 : Int), (0 : Int), ()), IntKind.i64.wrap ((1 : Int) + x2.1.1), ((15 : Int), x4.1.1, IntKind.i64.wrap ((1 : Int) + x2.1.1), (0 : Int), (0 : Int), (0 : Int), [], (), (0 : Int), (0 : Int), (0 : Int), (0 : Int), ()), (0 : Int), ()))) (br (x5.1.1 == (11 : Int)) (bd (grd (decide (IntKind.i64.wrap ((1 : Int) + x2.1.1) ≤ (1000 : Int))) ((wordsS a1 (IntKind.i64.wrap ((1 : Int) + x2.1.1)), ()), (), (), ())) fun (x28 : (List Int × Unit) × Unit × Unit × Unit) => some ((((16 : Int), x4.1.1, IntKind.i64.wrap ((1 : Int) + x2.1.1), (0 : Int), (0 : Int), (0 : Int), [], x28.1.1, (0 : Int), (0 : Int), (0 : Int), (0 : Int)), ()), (), (), ())) (br (x5.1.1 == (12 : Int)) (bd (grd (decide (IntKind.i64.wrap ((1 : Int) + x2.1.1) ≤ (1000 : Int))) ((wordsS a1 (IntKind.i64.wrap ((1 : Int) + x2.1.1)), ()), (), (), ())) fun (x29 : (List Int × Unit) × Unit × Unit × Unit) => some ((((16 : Int), x4.1.1, IntKind.i64.wrap ((1 : Int) + x2.1.1), (0 : Int), (0 : Int), (0 : Int), [], x29.1.1, (0 : Int), (0 : Int), (0 : Int), (0 : Int)), ()), (), (), ())) (br (x5.1.1 == (13 : Int)) (bd (grd (decide ((0 : Int) < (65536 : Int)) && decide ((65536 : Int) < (4611686018427387904 : Int))) ((a1 % (65536 : Int), ()), (), (), ())) fun (x30 : (Int × Unit) × Unit × Unit × Unit) => bd (grd (decide ((0 : Int) < (65536 : Int)) &&
 (decide ((0 : Int) < (65536 : Int)) && decide ((65536 : Int) < (4611686018427387904 : Int)))) ((digitS a1 (65536 : Int) (65536 : Int), ()), (), (), (), ())) fun (x31 : (Int × Unit) × Unit × Unit × Unit × Unit) => some ((((22 : Int), x4.1.1, (0 : Int), (0 : Int), IntKind.u16.wrap x30.1.1, IntKind.u16.wrap x31.1.1, [], [], (0 : Int), (0 : Int), (0 : Int), (0 : Int)), ()), (), (), ())) (br (x5.1.1 == (14 : Int)) (bd (grd (decide (IntKind.i64.wrap ((1 : Int) + x2.1.1) ≤ (1000 : Int))) ((wordsS a1 (IntKind.i64.wrap ((1 : Int) + x2.1.1)), ()), (), (), ())) fun (x32 : (List Int × Unit) × Unit × Unit × Unit) => bd (grd (true && decide ((40 : Int) < (4611686018427387904 : Int))) ((a1 % (40 : Int), ()), (), (), ())) fun (x33 : (Int × Unit) × Unit × Unit × Unit) => bd (grd (true && (true && decide ((6 : Int) < (4611686018427387904 : Int)))) ((digitS a1 (40 : Int) (6 : Int), ()), (), (), (), ())) fun (x34 : (Int × Unit) × Unit × Unit × Unit × Unit) => some ((((23 : Int), x4.1.1, IntKind.i64.wrap ((1 : Int) + x2.1.1), (0 : Int), (0 : Int), (0 : Int), [], x32.1.1, x33.1.1, IntKind.i64.wrap ((1 : Int) + x34.1.1), (0 : Int), (0 : Int)), ()), (), (), ())) (bd (grd (true && decide ((4 : Int) < (4611686018427387904 : Int))) ((a1 % (4 : Int), ()), (), (), ())) fun (x35 : (Int × Unit) × Unit × Unit × Unit) => bd (grd (true && (true && decide ((5 : Int) < (4611686018427387904 : Int)))) ((digitS a1 (4 : Int) (5 : Int), ()), (), (), (), ())) fun (x36 : (Int × Unit) × Unit × Unit × Unit × Unit) => some ((((43 : Int), (0 : Int), (0 : Int), (0 : Int), (0 : Int), (0 : Int), [], [], (0 : Int), (0 : Int), IntKind.i64.wrap ((1 : Int) + x35.1.1), x36.1.1), ()), (), (), ()))))))))))))))))) (bd (grd (true && decide ((16 : Int) < (4611686018427387904 : Int))) ((a0 % (16 : Int), ()), (), (), ())) fun (x37 : (Int × Unit) × Unit × Unit × Unit) => br (x37.1.1 == (0 : Int)) (some ((((1 : Int), x1.1.1, IntKind.i64.wrap ((1 : Int) + x2.1.1), (0 : Int), (0 : Int), (0 : Int), [], [], (0 : Int), (0 : Int), (0 : Int), (0 : Int)), ()), (), (), ())) (br (x37.1.1 == (1 : Int)) (some ((((2 : Int), x1.1.1, IntKind.i64.wrap ((1 : Int) + x2.1.1), (0 : Int), (0 : Int), (0 : Int), [], [], (0 : Int), (0 : Int), (0 : Int), (0 : Int)), ()), (), (), ())) (br (x37.1.1 == (2 : Int)) (some ((((3 : Int), x1.1.1, IntKind.i64.wrap ((1 : Int) + x2.1.1), (0 : Int), (0 : Int), (0 : Int), [], [], (0 : Int), (0 : Int), (0 : Int), (0 : Int)), ()), (), (), ())) (br (x37.1.1 == (3 : Int)) (some ((((3 : Int), x1.1.1, IntKind.i64.wrap ((1 : Int) + x2.1.1), (0 : Int), (0 : Int), (0 : Int), [], [], (0 : Int), (0 : Int), (0 : Int), (0 : Int)), ()), (), (), ())) (br (x37.1.1 == (4 : Int)) (some ((((3 : Int), x1.1.1, IntKind.i64.wrap ((1 : Int) + x2.1.1), (0 : Int), (0 : Int), (0 : Int), [], [], (0 : Int), (0 : Int), (0 : Int), (0 : Int)), ()), (), (), ())) (br (x37.1.1 == (5 : Int)) (some ((((4 : Int), x1.1.1, IntKind.i64.wrap ((1 : Int) + x2.1.1), (0 : Int), (0 : Int), (0 : Int), [], [], (0 : Int), (0 : Int), (0 : Int),
 (0 : Int)), ()), (), (), ())) (br (x37.1.1 == (6 : Int)) (bd (grd (true && decide ((2 : Int) < (4611686018427387904 : Int))) ((a1 % (2 : Int), ()), (), (), ())) fun (x38 : (Int × Unit) × Unit × Unit × Unit) => some ((((5 : Int), x1.1.1, (0 : Int), IntKind.u16.wrap x38.1.1, (0 : Int), (0 : Int), [], [], (0 : Int), (0 : Int), (0 : Int), (0 : Int)), ()), (), (), ())) (br (x37.1.1 == (7 : Int)) (bd (grd (decide ((0 : Int) < (60000 : Int)) && decide ((60000 : Int) < (4611686018427387904 : Int))) ((a1 % (60000 : Int), ()), (), (), ())) fun (x39 : (Int × Unit) × Unit × Unit × Unit) => some ((((6 : Int), x1.1.1, (0 : Int), IntKind.u16.wrap x39.1.1, (0 : Int), (0 : Int), [], [], (0 : Int), (0 : Int), (0 : Int), (0 : Int)), ()), (), (), ())) (br (x37.1.1 == (8 : Int)) (bd (grd (decide ((0 : Int) < (60000 : Int)) && decide ((60000 : Int) < (4611686018427387904 : Int))) ((a1 % (60000 : Int), ()), (), (), ())) fun (x40 : (Int × Unit) × Unit × Unit × Unit) => some ((((6 : Int), x1.1.1, (0 : Int), IntKind.u16.wrap x40.1.1, (0 : Int), (0 : Int), [], [], (0 : Int), (0 : Int), (0 : Int), (0 : Int)), ()), (), (), ())) (br (x37.1.1 == (9 : Int)) (bd (grd (decide ((0 : Int) < (60000 : Int)) && decide ((60000 : Int) < (4611686018427387904 : Int))) ((a1 % (60000 : Int), ()), (), (), ())) fun (x41 : (Int × Unit) × Unit × Unit × Unit) => some ((((6 : Int), x1.1.1, (0 : Int), IntKind.u16.wrap x41.1.1, (0 : Int), (0 : Int), [], [], (0 : Int), (0 : Int), (0 : Int), (0 : Int)), ()), (), (), ())) (br (x37.1.1 == (10 : Int)) (bd (grd (true && (true && decide ((3 : Int) < (4611686018427387904 : Int)))) ((digitS a1 (64 : Int) (3 : Int), ()), (), (), (), ())) fun (x42 : (Int × Unit) × Unit × Unit × Unit × Unit) => br (x42.1.1 == (0 : Int)) (bd (grd (true && (true && decide ((20 : Int) < (4611686018427387904 : Int)))) ((digitS a0 (16 : Int) (20 : Int), ()), (), (), (), ())) fun (x43 : (Int × Unit) × Unit × Unit × Unit × Unit) => loopN ask_L3 K (a1, ((0 : Int), (0 : Int), (0 : Int), (0 : Int), (0 : Int), (0 : Int), (), (), (0 : Int), (0 : Int), (0 : Int), (0 : Int), ()), IntKind.i64.wrap ((14 : Int) + IntKind.i64.wrap ((1 : Int) + x2.1.1)), ((15 : Int), x43.1.1, IntKind.i64.wrap ((14 : Int) + IntKind.i64.wrap ((1 : Int) + x2.1.1)), (0 : Int), (0 : Int), (0 : Int), [], (), (0 : Int), (0 : Int), (0 : Int), (0 : Int), ()), (0 : Int), ())) (loopN ask_L4 K (a1, ((0 : Int), (0 : Int), (0 : Int), (0 : Int), (0 : Int), (0 : Int), (), (), (0 : Int), (0 : Int), (0 : Int), (0 : Int), ()), IntKind.i64.wrap ((1 : Int) + x2.1.1), ((15 : Int), x1.1.1, IntKind.i64.wrap ((1 : Int) + x2.1.1), (0 : Int), (0 : Int), (0 : Int), [], (), (0 : Int), (0 : Int), (0 : Int), (0 : Int), ()), (0 : Int), ()))) (br (x37.1.1 == (11 : Int)) (bd (grd (decide (IntKind.i64.wrap ((1 : Int) + x2.1.1) ≤ (1000 : Int))) ((wordsS a1 (IntKind.i64.wrap ((1 : Int) + x2.1.1)), ()), (), (), ())) fun (x60 : (List Int × Unit) × Unit × Unit × Unit) => some ((((16 : Int), x1.1.1, IntKind.i64.wrap ((1 : Int) + x2.1.1), (0 : Int),
 (0 : Int), (0 : Int), [], x60.1.1, (0 : Int), (0 : Int), (0 : Int), (0 : Int)), ()), (), (), ())) (br (x37.1.1 == (12 : Int)) (bd (grd (decide (IntKind.i64.wrap ((1 : Int) + x2.1.1) ≤ (1000 : Int))) ((wordsS a1 (IntKind.i64.wrap ((1 : Int) + x2.1.1)), ()), (), (), ())) fun (x61 : (List Int × Unit) × Unit × Unit × Unit) => some ((((16 : Int), x1.1.1, IntKind.i64.wrap ((1 : Int) + x2.1.1), (0 : Int), (0 : Int), (0 : Int), [], x61.1.1, (0 : Int), (0 : Int), (0 : Int), (0 : Int)), ()), (), (), ())) (br (x37.1.1 == (13 : Int)) (bd (grd (decide ((0 : Int) < (65536 : Int)) && decide ((65536 : Int) < (4611686018427387904 : Int))) ((a1 % (65536 : Int), ()), (), (), ())) fun (x62 : (Int × Unit) × Unit × Unit × Unit) => bd (grd (decide ((0 : Int) < (65536 : Int)) && (decide ((0 : Int) < (65536 : Int)) && decide ((65536 : Int) < (4611686018427387904 : Int)))) ((digitS a1 (65536 : Int) (65536 : Int), ()), (), (), (), ())) fun (x63 : (Int × Unit) × Unit × Unit × Unit × Unit) => some ((((22 : Int), x1.1.1, (0 : Int), (0 : Int), IntKind.u16.wrap x62.1.1, IntKind.u16.wrap x63.1.1, [], [], (0 : Int), (0 : Int), (0 : Int), (0 : Int)), ()), (), (), ())) (br (x37.1.1 == (14 : Int)) (bd (grd (decide (IntKind.i64.wrap ((1 : Int) + x2.1.1) ≤ (1000 : Int))) ((wordsS a1 (IntKind.i64.wrap ((1 : Int) + x2.1.1)), ()), (), (), ())) fun (x64 : (List Int × Unit) × Unit × Unit × Unit) => bd (grd (true && decide ((40 : Int) < (4611686018427387904 : Int))) ((a1 % (40 : Int), ()), (), (), ())) fun (x65 : (Int × Unit) × Unit × Unit × Unit) => bd (grd (true && (true && decide ((6 : Int) < (4611686018427387904 : Int)))) ((digitS a1 (40 : Int) (6 : Int), ()), (), (), (), ())) fun (x66 : (Int × Unit) × Unit × Unit × Unit × Unit) => some ((((23 : Int), x1.1.1, IntKind.i64.wrap ((1 : Int) + x2.1.1), (0 : Int), (0 : Int), (0 : Int), [], x64.1.1, x65.1.1, IntKind.i64.wrap ((1 : Int) + x66.1.1), (0 : Int), (0 : Int)), ()), (), (), ())) (bd (grd (true && decide ((4 : Int) < (4611686018427387904 : Int))) ((a1 % (4 : Int), ()), (), (), ())) fun (x67 : (Int × Unit) × Unit × Unit × Unit) => bd (grd (true && (true && decide ((5 : Int) < (4611686018427387904 : Int)))) ((digitS a1 (4 : Int) (5 : Int), ()), (), (), (), ())) fun (x68 : (Int × Unit) × Unit × Unit × Unit × Unit) => some ((((43 : Int), (0 : Int), (0 : Int), (0 : Int), (0 : Int), (0 : Int), [], [], (0 : Int), (0 : Int), IntKind.i64.wrap ((1 : Int) + x67.1.1), x68.1.1), ()), (), (), ())))))))))))))))))
theorem ask_rn (K : Nat) (a0 : Int) (a1 : Int) : runF (cfgW g_ask) K f_ask ask_tm [.val tI, .val tI] [.val tAsk] (a0, a1, ()) = ask_P K a0 a1 := by kernel_rfl
end
end Go.BB
set_option linter.unusedSimpArgs false
set_option linter.unusedVariables false
namespace Go.BB
open Go Go.Proofs
set_option maxRecDepth 100000
theorem v_words : Valid Try.prog n_words c_words := by
 refine valid_fn mixed hf_words (by kernel_rfl) rfl (ts := tmpsOf f_words.results.toList) (by kernel_rfl) (cfg := cfgW g_words) tt_ok (Γok_cons v_within Γok_nil) words_tm c_words (by kernel_rfl) (fun _ _ _ _ => ⟨⟩) ?_
 rintro ⟨(k : Int), (n : Int), ⟨⟩⟩ r u h
 obtain ⟨h1, h2⟩ := grd_some h
 have hn : n ≤ 1000 := of_decide_eq_true h1
 refine ⟨n.toNat + 1, (words_rn _ _ _).trans (Eq.trans ?_ (congrArg some h2))⟩
 show words_P (n.toNat + 1) k n = some ((wordsS k n, ()), ((), (), ()))
 unfold words_P
 have a0 := Int.emod_nonneg k (show (60000 : Int) ≠ 0 by decide)
 have a1 := Int.emod_lt_of_pos k (show (0 : Int) < 60000 by decide)
 refine loopN_for (step := words_L1) n.toNat (fun i => (k, n, (List.range i).map (fun (j : Nat) => IntKind.u16.wrap (k % 60000 + (j : Int))), (i : Int), ())) (fun i hi rec => ?_) (fun rec => ?_) (n.toNat + 1) (by omega)
 ·have e : ((List.range i).map (fun (j : Nat) => IntKind.u16.wrap (k % 60000 + (j : Int)))).length = i := by simp
  simp only [words_L1]
  rw [br_dt (by omega), bd_grd (by decide)]
  simp only
  rw [wrapI (n := k % 60000 + (i : Int)) (by omega) (by omega), br_dt (by rw [e]; simp only [List.length_singleton, LIM]; omega), br_dt (by rw [e]; simp only [List.length_singleton, LIM]; omega), wrapI (by omega) (by omega)]
  have e2 : (List.range (i + 1)).map (fun (j : Nat) => IntKind.u16.wrap (k % 60000 + (j : Int))) = cat ((List.range i).map (fun (j : Nat) => IntKind.u16.wrap (k % 60000 + (j : Int)))) [IntKind.u16.wrap (k % 60000 + (i : Int))] := by
   rw [List.range_succ, List.map_append]; rfl
  rw [e2]
  rfl
 ·simp only [words_L1]
  rw [br_df (by omega)]
  rfl
theorem brNTc {α : Type} {x y : α} : br (!false) x y = x := rfl
theorem ask_L2_eq : ask_L2 = ask_L1 := by kernel_rfl
theorem ask_bits (K : Nat) (v at1 n : Int) (h0 : 0 ≤ n) (h1 : n ≤ 100) (hK : 100 < K) :
  loopN ask_L1 K (v, ((0 : Int), (0 : Int), (0 : Int), (0 : Int), (0 : Int), (0 : Int), (), (), (0 : Int), (0 : Int), (0 : Int), (0 : Int), ()), n, ((15 : Int), at1, n, (0 : Int), (0 : Int), (0 : Int), [], (), (0 : Int), (0 : Int), (0 : Int), (0 : Int), ()), (0 : Int), ()) = some ((ask0 15 at1 n 0 0 0 (bitsS v n) [] 0 0 0 0, ()), (), (), ()) := by
 refine loopN_for (step := ask_L1) n.toNat (fun i => (v, ((0 : Int), (0 : Int), (0 : Int), (0 : Int), (0 : Int), (0 : Int), (), (), (0 : Int), (0 : Int), (0 : Int), (0 : Int), ()), n, ((15 : Int), at1, n, (0 : Int), (0 : Int), (0 : Int), (List.range i).map (fun (j : Nat) => (v % (7 + (j : Int))).tmod 2 == 1), (), (0 : Int), (0 : Int), (0 : Int), (0 : Int), ()), (i : Int), ())) (fun i hi rec => ?_) (fun rec => ?_) K (by omega)
 ·have e : ((List.range i).map (fun (j : Nat) => (v % (7 + (j : Int))).tmod 2 == 1)).length = i := by simp
  simp only [ask_L1]
  rw [br_dt (by omega), wrapI (n := 7 + (i : Int)) (by omega) (by omega), bd_grd (and_t (decide_eq_true (by omega)) (decide_eq_true (by omega)))]
  simp only
  rw [brNTc, br_dt (by rw [e]; simp only [List.length_singleton, LIM]; omega), br_dt (by rw [e]; simp only [List.length_singleton, LIM]; omega), wrapI (by omega) (by omega)]
  have e2 : (List.range (i + 1)).map (fun (j : Nat) => (v % (7 + (j : Int))).tmod 2 == 1) = cat ((List.range i).map (fun (j : Nat) => (v % (7 + (j : Int))).tmod 2 == 1)) [(v % (7 + (i : Int))).tmod 2 == 1] := by
   rw [List.range_succ, List.map_append]; rfl
  rw [e2]
  rfl
 ·simp only [ask_L1]
  rw [br_df (by omega)]
  rfl
end Go.BB
set_option linter.unusedSimpArgs false
set_option linter.unusedVariables false
namespace Go.BB
open Go Go.Proofs
set_option maxRecDepth 100000
theorem brfz {α : Type} {x y : α} : br false x y = y := rfl
theorem brtz {α : Type} {x y : α} : br true x y = x := rfl
theorem v_ask : Valid Try.prog n_ask c_ask := by
 refine valid_fnc mixed hf_ask (by kernel_rfl) rfl (cfg := cfgW g_ask) tt_ok (Γok_cons v_digit (Γok_cons v_within (Γok_cons v_words Γok_nil))) ask_tm c_ask (by kernel_rfl) (fun _ _ _ _ => ⟨⟩) ?_
 rintro ⟨(k : Int), (v : Int), ⟨⟩⟩ r u h
 refine ⟨200, (ask_rn _ _ _).trans (Eq.trans ?_ h)⟩
 show ask_P 200 k v = some ((askS k v, ()), ((), (), ()))
 clear h
 have d2 := digitS_range k 640 (n := 6) (by decide)
 have v2 : IntKind.u16.wrap (v % 2) = v % 2 := wrapW (Int.emod_nonneg _ (by decide)) (by have := Int.emod_lt_of_pos v (show (0 : Int) < 2 by decide); omega)
 have v6 : IntKind.u16.wrap (v % 60000) = v % 60000 := wrapW (Int.emod_nonneg _ (by decide)) (by have := Int.emod_lt_of_pos v (show (0 : Int) < 60000 by decide); omega)
 have v7 : IntKind.u16.wrap (v % 65536) = v % 65536 := wrapW (Int.emod_nonneg _ (by decide)) (by have := Int.emod_lt_of_pos v (show (0 : Int) < 65536 by decide); omega)
 have d5 := digitS_range v 65536 (n := 65536) (by decide)
 have v8 : IntKind.u16.wrap (digitS v 65536 65536) = digitS v 65536 65536 := wrapW d5.1 (by omega)
 have d6 := digitS_range v 40 (n := 6) (by decide)
 have v9 : IntKind.i64.wrap (1 + digitS v 40 6) = 1 + digitS v 40 6 := wrapI (by omega) (by omega)
 have v10 : IntKind.i64.wrap (1 + v % 4) = 1 + v % 4 := wrapI (by have := Int.emod_nonneg v (show (4 : Int) ≠ 0 by decide); omega) (by have := Int.emod_lt_of_pos v (show (0 : Int) < 4 by decide); omega)
 have n1 : IntKind.i64.wrap (1 + digitS k 640 6) = 1 + digitS k 640 6 := wrapI (by omega) (by omega)
 have n2 : IntKind.i64.wrap (14 + (1 + digitS k 640 6)) = 14 + (1 + digitS k 640 6) := wrapI (by omega) (by omega)
 have hn : 1 + digitS k 640 6 ≤ 1000 := by omega
 have hb := fun at1 n h0 h1 => ask_bits 200 v at1 n h0 h1 (by decide)
 have s0 := Int.emod_nonneg k (show (16 : Int) ≠ 0 by decide)
 have s1 := Int.emod_lt_of_pos k (show (0 : Int) < 16 by decide)
 unfold ask_P askS
 rw [bd_grd (by decide), bd_grd (by decide), bd_grd (by decide)]
 simp only [n1, n2, ask_L2_eq]
 by_cases h3 : digitS k 3840 12 = 0
 ·rw [br_t (by rw [h3]; rfl), bd_grd (by decide), bd_grd (by decide)]
  simp only [if_pos h3]
  generalize digitS k 46080 65536 = at1
  generalize k % 16 = sel at s0 s1
  generalize hng : 1 + digitS k 640 6 = n at hn n1 n2
  have hs : sel = 0 ∨ sel = 1 ∨ sel = 2 ∨ sel = 3 ∨ sel = 4 ∨ sel = 5 ∨ sel = 6 ∨ sel = 7 ∨ sel = 8 ∨ sel = 9 ∨ sel = 10 ∨ sel = 11 ∨ sel = 12 ∨ sel = 13 ∨ sel = 14 ∨ sel = 15 := by omega
  rcases hs with rfl | rfl | rfl | rfl | rfl | rfl | rfl | rfl | rfl | rfl | rfl | rfl | rfl | rfl | rfl | rfl
  ·rfl
  ·rfl
  ·rfl
  ·rfl
  ·rfl
  ·rfl
  ·simp only [Int.reduceBEq, brfz, brtz]
   rw [bd_grd (by decide)]; simp only [v2]; rfl
  ·simp only [Int.reduceBEq, brfz, brtz]
   rw [bd_grd (by decide)]; simp only [v6]; rfl
  ·simp only [Int.reduceBEq, brfz, brtz]
   rw [bd_grd (by decide)]; simp only [v6]; rfl
  ·simp only [Int.reduceBEq, brfz, brtz]
   rw [bd_grd (by decide)]; simp only [v6]; rfl
  ·simp only [Int.reduceBEq, brfz, brtz]
   rw [bd_grd (by decide)]
   show br (digitS v 64 3 == 0) _ _ = some ((if digitS v 64 3 = 0 then ask0 15 (digitS k 16 20) (14 + n) 0 0 0 (bitsS v (14 + n)) [] 0 0 0 0 else ask0 15 at1 n 0 0 0 (bitsS v n) [] 0 0 0 0, ()), (), (), ())
   by_cases h64 : digitS v 64 3 = 0
   ·rw [br_t (by rw [h64]; rfl), bd_grd (by decide), if_pos h64]
    exact hb _ _ (by omega) (by omega)
   ·rw [br_f (by simpa using h64), if_neg h64]
    exact hb _ _ (by omega) (by omega)
  ·simp only [Int.reduceBEq, brfz, brtz]
   rw [bd_grd (decide_eq_true hn)]; rfl
  ·simp only [Int.reduceBEq, brfz, brtz]
   rw [bd_grd (decide_eq_true hn)]; rfl
  ·simp only [Int.reduceBEq, brfz, brtz]
   rw [bd_grd (by decide), bd_grd (by decide)]; simp only [v7, v8]; rfl
  ·simp only [Int.reduceBEq, brfz, brtz]
   rw [bd_grd (decide_eq_true hn), bd_grd (by decide), bd_grd (by decide)]; simp only [v9]; rfl
  ·simp only [Int.reduceBEq, brfz, brtz]
   rw [bd_grd (by decide), bd_grd (by decide)]; simp only [v10]; rfl
 ·rw [br_f (by simpa using h3), bd_grd (by decide)]
  simp only [if_neg h3]
  generalize digitS k 16 40 = at1
  generalize k % 16 = sel at s0 s1
  generalize hng : 1 + digitS k 640 6 = n at hn n1 n2
  have hs : sel = 0 ∨ sel = 1 ∨ sel = 2 ∨ sel = 3 ∨ sel = 4 ∨ sel = 5 ∨ sel = 6 ∨ sel = 7 ∨ sel = 8 ∨ sel = 9 ∨ sel = 10 ∨ sel = 11 ∨ sel = 12 ∨ sel = 13 ∨ sel = 14 ∨ sel = 15 := by omega
  rcases hs with rfl | rfl | rfl | rfl | rfl | rfl | rfl | rfl | rfl | rfl | rfl | rfl | rfl | rfl | rfl | rfl
  ·rfl
  ·rfl
  ·rfl
  ·rfl
  ·rfl
  ·rfl
  ·simp only [Int.reduceBEq, brfz, brtz]
   rw [bd_grd (by decide)]; simp only [v2]; rfl
  ·simp only [Int.reduceBEq, brfz, brtz]
   rw [bd_grd (by decide)]; simp only [v6]; rfl
  ·simp only [Int.reduceBEq, brfz, brtz]
   rw [bd_grd (by decide)]; simp only [v6]; rfl
  ·simp only [Int.reduceBEq, brfz, brtz]
   rw [bd_grd (by decide)]; simp only [v6]; rfl
  ·simp only [Int.reduceBEq, brfz, brtz]
   rw [bd_grd (by decide)]
   show br (digitS v 64 3 == 0) _ _ = some ((if digitS v 64 3 = 0 then ask0 15 (digitS k 16 20) (14 + n) 0 0 0 (bitsS v (14 + n)) [] 0 0 0 0 else ask0 15 at1 n 0 0 0 (bitsS v n) [] 0 0 0 0, ()), (), (), ())
   by_cases h64 : digitS v 64 3 = 0
   ·rw [br_t (by rw [h64]; rfl), bd_grd (by decide), if_pos h64]
    exact hb _ _ (by omega) (by omega)
   ·rw [br_f (by simpa using h64), if_neg h64]
    exact hb _ _ (by omega) (by omega)
  ·simp only [Int.reduceBEq, brfz, brtz]
   rw [bd_grd (decide_eq_true hn)]; rfl
  ·simp only [Int.reduceBEq, brfz, brtz]
   rw [bd_grd (decide_eq_true hn)]; rfl
  ·simp only [Int.reduceBEq, brfz, brtz]
   rw [bd_grd (by decide), bd_grd (by decide)]; simp only [v7, v8]; rfl
  ·simp only [Int.reduceBEq, brfz, brtz]
   rw [bd_grd (decide_eq_true hn), bd_grd (by decide), bd_grd (by decide)]; simp only [v9]; rfl
  ·simp only [Int.reduceBEq, brfz, brtz]
   rw [bd_grd (by decide), bd_grd (by decide)]; simp only [v10]; rfl
end Go.BB
