/- A symbolic machine for the model's code, and what it shows of this seat's functions. No conditions. -/
import Derived.Test.YtnofmeckcimodaaFN
import Derived.Test.YtnofmeckcimodaaFGfgb
import Derived.Test.YtnofmeckcimodaaFLFile
import Derived.Test.YtnofmeckcimodaaFLFile2
set_option linter.unusedSimpArgs false
set_option linter.unusedVariables false
namespace Go.BB
open Go Go.Proofs
set_option maxRecDepth 100000
set_option exponentiation.threshold 100000
noncomputable section
abbrev g_r1Known : List (Nat × Ctr O0) := []
def r1Known_tm : List Tm := []
def r1Known_P (K : Nat) (a0 : Int) : Option ((Bool × Unit) × Unit × Unit) := br (decide (a0 ≥ (1 : Int))) (br (decide (a0 ≤ (6 : Int))) (some ((true, ()), (), ())) (br (a0 == (15 : Int)) (some ((true, ()), (), ())) (br (a0 == (16 : Int)) (some ((true, ()), (), ())) (br (a0 == (22 : Int)) (some ((true, ()), (), ())) (br (a0 == (23 : Int)) (some ((true, ()), (), ())) (some ((a0 == (43 : Int), ()), (), ()))))))) (br (a0 == (15 : Int)) (some ((true, ()), (), ())) (br (a0 == (16 : Int)) (some ((true, ()), (), ())) (br (a0 == (22 : Int)) (some ((true, ()), (), ())) (br (a0 == (23 : Int)) (some ((true, ()), (), ())) (some ((a0 == (43 : Int), ()), (), ()))))))
theorem r1Known_rn (K : Nat) (a0 : Int) : runF (cfgW g_r1Known) K f_r1Known r1Known_tm [.val tI] [.val .bool] (a0, ()) = r1Known_P K a0 := by kernel_rfl
abbrev g_r1Table : List (Nat × Ctr O0) := []
def r1Table_tm : List Tm := []
def r1Table_P (K : Nat) (a0 : Int) : Option ((Int × Bool × Unit) × Unit × Unit) := br (a0 == (1 : Int)) (some (((0 : Int), true, ()), (), ())) (br (a0 == (5 : Int)) (some (((0 : Int), true, ()), (), ())) (br (a0 == (15 : Int)) (some (((0 : Int), true, ()), (), ())) (br (a0 == (2 : Int)) (some (((1 : Int), true, ()), (), ())) (br (a0 == (3 : Int)) (some (((2 : Int), true, ()), (), ())) (br (a0 == (6 : Int)) (some (((2 : Int), true, ()), (), ())) (br (a0 == (16 : Int)) (some (((2 : Int), true, ()), (), ())) (br (a0 == (22 : Int)) (some (((2 : Int), true, ()), (), ())) (br (a0 == (23 : Int)) (some (((2 : Int), true, ()), (), ())) (br (a0 == (4 : Int)) (some (((3 : Int), true, ()), (), ())) (some (((0 : Int), false, ()), (), ())))))))))))
theorem r1Table_rn (K : Nat) (a0 : Int) : runF (cfgW g_r1Table) K f_r1Table r1Table_tm [.val tI] [.val tI, .val .bool] (a0, ()) = r1Table_P K a0 := by kernel_rfl
abbrev g_r1Most : List (Nat × Ctr O0) := []
def r1Most_tm : List Tm := []
def r1Most_P (K : Nat) (a0 : Int) : Option ((Int × Int × Unit) × Unit × Unit) := br (a0 == (1 : Int)) (some (((2000 : Int), (0 : Int), ()), (), ())) (br (a0 == (2 : Int)) (some (((2000 : Int), (0 : Int), ()), (), ())) (br (a0 == (3 : Int)) (some (((125 : Int), (0 : Int), ()), (), ())) (br (a0 == (4 : Int)) (some (((125 : Int), (0 : Int), ()), (), ())) (br (a0 == (5 : Int)) (some (((0 : Int), (1 : Int), ()), (), ())) (br (a0 == (6 : Int)) (some (((0 : Int), (1 : Int), ()), (), ())) (br (a0 == (22 : Int)) (some (((0 : Int), (1 : Int), ()), (), ())) (br (a0 == (15 : Int)) (some (((0 : Int), (1968 : Int), ()), (), ())) (br (a0 == (16 : Int)) (some (((0 : Int), (123 : Int), ()), (), ())) (br (a0 == (23 : Int)) (some (((125 : Int), (121 : Int), ()), (), ())) (some (((0 : Int), (0 : Int), ()), (), ())))))))))))
theorem r1Most_rn (K : Nat) (a0 : Int) : runF (cfgW g_r1Most) K f_r1Most r1Most_tm [.val tI] [.val tI, .val tI] (a0, ()) = r1Most_P K a0 := by kernel_rfl
abbrev g_r5place : List (Nat × Ctr O0) := []
def r5place_tm : List Tm := []
def r5place_P (K : Nat) (a0 : Int) : Option ((Bool × Unit) × Unit × Unit) := br (decide (a0 ≥ (0 : Int))) (some ((decide (a0 ≤ (65535 : Int)), ()), (), ())) (some ((false, ()), (), ()))
theorem r5place_rn (K : Nat) (a0 : Int) : runF (cfgW g_r5place) K f_r5place r5place_tm [.val tI] [.val .bool] (a0, ()) = r5place_P K a0 := by kernel_rfl
abbrev g_r5byte : List (Nat × Ctr O0) := []
def r5byte_tm : List Tm := []
def r5byte_P (K : Nat) (a0 : Int) : Option ((Bool × Unit) × Unit × Unit) := br (decide (a0 ≥ (0 : Int))) (some ((decide (a0 ≤ (255 : Int)), ()), (), ())) (some ((false, ()), (), ()))
theorem r5byte_rn (K : Nat) (a0 : Int) : runF (cfgW g_r5byte) K f_r5byte r5byte_tm [.val tI] [.val .bool] (a0, ()) = r5byte_P K a0 := by kernel_rfl
end
end Go.BB
set_option linter.unusedVariables false
namespace Go.BB
open Go Go.Proofs
set_option maxRecDepth 100000
set_option exponentiation.threshold 100000
noncomputable section
abbrev g_r5plain : List (Nat × Ctr O0) := []
def r5plain_tm : List Tm := []
theorem r5plain_1 (K : Nat) (at1 n v an o : Int) (bs : List Bool) (ws : List Int) (ra rn c ob : Int) : runF (cfgW g_r5plain) K f_r5plain r5plain_tm [.val tAsk] [.val .bool] (((1 : Int), at1, n, v, an, o, bs, ws, ra, rn, c, ob), ()) = br (v != (0 : Int)) (some ((false, ()), (), ())) (br (an != (0 : Int)) (some ((false, ()), (), ())) (br (o != (0 : Int)) (some ((false, ()), (), ())) (br (decide ((↑bs.length : Int) > (0 : Int))) (some ((false, ()), (), ())) (br (decide ((↑ws.length : Int) > (0 : Int))) (some ((false, ()), (), ())) (br (ra != (0 : Int)) (some ((false, ()), (), ())) (br (rn != (0 : Int)) (some ((false, ()), (), ())) (br (c != (0 : Int)) (some ((false, ()), (), ())) (br (ob != (0 : Int)) (some ((false, ()), (), ())) (some ((true, ()), (), ())))))))))) := by kernel_rfl
theorem r5plain_2 (K : Nat) (at1 n v an o : Int) (bs : List Bool) (ws : List Int) (ra rn c ob : Int) : runF (cfgW g_r5plain) K f_r5plain r5plain_tm [.val tAsk] [.val .bool] (((2 : Int), at1, n, v, an, o, bs, ws, ra, rn, c, ob), ()) = br (v != (0 : Int)) (some ((false, ()), (), ())) (br (an != (0 : Int)) (some ((false, ()), (), ())) (br (o != (0 : Int)) (some ((false, ()), (), ())) (br (decide ((↑bs.length : Int) > (0 : Int))) (some ((false, ()), (), ())) (br (decide ((↑ws.length : Int) > (0 : Int))) (some ((false, ()), (), ())) (br (ra != (0 : Int)) (some ((false, ()), (), ())) (br (rn != (0 : Int)) (some ((false, ()), (), ())) (br (c != (0 : Int)) (some ((false, ()), (), ())) (br (ob != (0 : Int)) (some ((false, ()), (), ())) (some ((true, ()), (), ())))))))))) := by kernel_rfl
theorem r5plain_3 (K : Nat) (at1 n v an o : Int) (bs : List Bool) (ws : List Int) (ra rn c ob : Int) : runF (cfgW g_r5plain) K f_r5plain r5plain_tm [.val tAsk] [.val .bool] (((3 : Int), at1, n, v, an, o, bs, ws, ra, rn, c, ob), ()) = br (v != (0 : Int)) (some ((false, ()), (), ())) (br (an != (0 : Int)) (some ((false, ()), (), ())) (br (o != (0 : Int)) (some ((false, ()), (), ())) (br (decide ((↑bs.length : Int) > (0 : Int))) (some ((false, ()), (), ())) (br (decide ((↑ws.length : Int) > (0 : Int))) (some ((false, ()), (), ())) (br (ra != (0 : Int)) (some ((false, ()), (), ())) (br (rn != (0 : Int)) (some ((false, ()), (), ())) (br (c != (0 : Int)) (some ((false, ()), (), ())) (br (ob != (0 : Int)) (some ((false, ()), (), ())) (some ((true, ()), (), ())))))))))) := by kernel_rfl
theorem r5plain_4 (K : Nat) (at1 n v an o : Int) (bs : List Bool) (ws : List Int) (ra rn c ob : Int) : runF (cfgW g_r5plain) K f_r5plain r5plain_tm [.val tAsk] [.val .bool] (((4 : Int), at1, n, v, an, o, bs, ws, ra, rn, c, ob), ()) = br (v != (0 : Int)) (some ((false, ()), (), ())) (br (an != (0 : Int)) (some ((false, ()), (), ())) (br (o != (0 : Int)) (some ((false, ()), (), ())) (br (decide ((↑bs.length : Int) > (0 : Int))) (some ((false, ()), (), ())) (br (decide ((↑ws.length : Int) > (0 : Int))) (some ((false, ()), (), ())) (br (ra != (0 : Int)) (some ((false, ()), (), ())) (br (rn != (0 : Int)) (some ((false, ()), (), ())) (br (c != (0 : Int)) (some ((false, ()), (), ())) (br (ob != (0 : Int)) (some ((false, ()), (), ())) (some ((true, ()), (), ())))))))))) := by kernel_rfl
theorem r5plain_5 (K : Nat) (at1 n v an o : Int) (bs : List Bool) (ws : List Int) (ra rn c ob : Int) : runF (cfgW g_r5plain) K f_r5plain r5plain_tm [.val tAsk] [.val .bool] (((5 : Int), at1, n, v, an, o, bs, ws, ra, rn, c, ob), ()) = br (n != (0 : Int)) (some ((false, ()), (), ())) (br (an != (0 : Int)) (some ((false, ()), (), ())) (br (o != (0 : Int)) (some ((false, ()), (), ())) (br (decide ((↑bs.length : Int) > (0 : Int))) (some ((false, ()), (), ())) (br (decide ((↑ws.length : Int) > (0 : Int))) (some ((false, ()), (), ())) (br (ra != (0 : Int)) (some ((false, ()), (), ())) (br (rn != (0 : Int)) (some ((false, ()), (), ())) (br (c != (0 : Int)) (some ((false, ()), (), ())) (br (ob != (0 : Int)) (some ((false, ()), (), ())) (some ((true, ()), (), ())))))))))) := by kernel_rfl
theorem r5plain_6 (K : Nat) (at1 n v an o : Int) (bs : List Bool) (ws : List Int) (ra rn c ob : Int) : runF (cfgW g_r5plain) K f_r5plain r5plain_tm [.val tAsk] [.val .bool] (((6 : Int), at1, n, v, an, o, bs, ws, ra, rn, c, ob), ()) = br (n != (0 : Int)) (some ((false, ()), (), ())) (br (an != (0 : Int)) (some ((false, ()), (), ())) (br (o != (0 : Int)) (some ((false, ()), (), ())) (br (decide ((↑bs.length : Int) > (0 : Int))) (some ((false, ()), (), ())) (br (decide ((↑ws.length : Int) > (0 : Int))) (some ((false, ()), (), ())) (br (ra != (0 : Int)) (some ((false, ()), (), ())) (br (rn != (0 : Int)) (some ((false, ()), (), ())) (br (c != (0 : Int)) (some ((false, ()), (), ())) (br (ob != (0 : Int)) (some ((false, ()), (), ())) (some ((true, ()), (), ())))))))))) := by kernel_rfl
theorem r5plain_15 (K : Nat) (at1 n v an o : Int) (bs : List Bool) (ws : List Int) (ra rn c ob : Int) : runF (cfgW g_r5plain) K f_r5plain r5plain_tm [.val tAsk] [.val .bool] (((15 : Int), at1, n, v, an, o, bs, ws, ra, rn, c, ob), ()) = br (v != (0 : Int)) (some ((false, ()), (), ())) (br (an != (0 : Int)) (some ((false, ()), (), ())) (br (o != (0 : Int)) (some ((false, ()), (), ())) (br (decide ((↑ws.length : Int) > (0 : Int))) (some ((false, ()), (), ())) (br (ra != (0 : Int)) (some ((false, ()), (), ())) (br (rn != (0 : Int)) (some ((false, ()), (), ())) (br (c != (0 : Int)) (some ((false, ()), (), ())) (br (ob != (0 : Int)) (some ((false, ()), (), ())) (some ((true, ()), (), ()))))))))) := by kernel_rfl
theorem r5plain_16 (K : Nat) (at1 n v an o : Int) (bs : List Bool) (ws : List Int) (ra rn c ob : Int) : runF (cfgW g_r5plain) K f_r5plain r5plain_tm [.val tAsk] [.val .bool] (((16 : Int), at1, n, v, an, o, bs, ws, ra, rn, c, ob), ()) = br (v != (0 : Int)) (some ((false, ()), (), ())) (br (an != (0 : Int)) (some ((false, ()), (), ())) (br (o != (0 : Int)) (some ((false, ()), (), ())) (br (decide ((↑bs.length : Int) > (0 : Int))) (some ((false, ()), (), ())) (br (ra != (0 : Int)) (some ((false, ()), (), ())) (br (rn != (0 : Int)) (some ((false, ()), (), ())) (br (c != (0 : Int)) (some ((false, ()), (), ())) (br (ob != (0 : Int)) (some ((false, ()), (), ())) (some ((true, ()), (), ()))))))))) := by kernel_rfl
theorem r5plain_22 (K : Nat) (at1 n v an o : Int) (bs : List Bool) (ws : List Int) (ra rn c ob : Int) : runF (cfgW g_r5plain) K f_r5plain r5plain_tm [.val tAsk] [.val .bool] (((22 : Int), at1, n, v, an, o, bs, ws, ra, rn, c, ob), ()) = br (n != (0 : Int)) (some ((false, ()), (), ())) (br (v != (0 : Int)) (some ((false, ()), (), ())) (br (decide ((↑bs.length : Int) > (0 : Int))) (some ((false, ()), (), ())) (br (decide ((↑ws.length : Int) > (0 : Int))) (some ((false, ()), (), ())) (br (ra != (0 : Int)) (some ((false, ()), (), ())) (br (rn != (0 : Int)) (some ((false, ()), (), ())) (br (c != (0 : Int)) (some ((false, ()), (), ())) (br (ob != (0 : Int)) (some ((false, ()), (), ())) (some ((true, ()), (), ()))))))))) := by kernel_rfl
theorem r5plain_23 (K : Nat) (at1 n v an o : Int) (bs : List Bool) (ws : List Int) (ra rn c ob : Int) : runF (cfgW g_r5plain) K f_r5plain r5plain_tm [.val tAsk] [.val .bool] (((23 : Int), at1, n, v, an, o, bs, ws, ra, rn, c, ob), ()) = br (v != (0 : Int)) (some ((false, ()), (), ())) (br (an != (0 : Int)) (some ((false, ()), (), ())) (br (o != (0 : Int)) (some ((false, ()), (), ())) (br (decide ((↑bs.length : Int) > (0 : Int))) (some ((false, ()), (), ())) (br (c != (0 : Int)) (some ((false, ()), (), ())) (br (ob != (0 : Int)) (some ((false, ()), (), ())) (some ((true, ()), (), ()))))))) := by kernel_rfl
theorem r5plain_43 (K : Nat) (at1 n v an o : Int) (bs : List Bool) (ws : List Int) (ra rn c ob : Int) : runF (cfgW g_r5plain) K f_r5plain r5plain_tm [.val tAsk] [.val .bool] (((43 : Int), at1, n, v, an, o, bs, ws, ra, rn, c, ob), ()) = br (at1 != (0 : Int)) (some ((false, ()), (), ())) (br (n != (0 : Int)) (some ((false, ()), (), ())) (br (v != (0 : Int)) (some ((false, ()), (), ())) (br (an != (0 : Int)) (some ((false, ()), (), ())) (br (o != (0 : Int)) (some ((false, ()), (), ())) (br (decide ((↑bs.length : Int) > (0 : Int))) (some ((false, ()), (), ())) (br (decide ((↑ws.length : Int) > (0 : Int))) (some ((false, ()), (), ())) (br (ra != (0 : Int)) (some ((false, ()), (), ())) (br (rn != (0 : Int)) (some ((false, ()), (), ())) (some ((true, ()), (), ())))))))))) := by kernel_rfl
end
end Go.BB
set_option linter.unusedVariables false
namespace Go.BB
open Go Go.Proofs
set_option maxRecDepth 100000
set_option exponentiation.threshold 100000
noncomputable section
abbrev g_r5Right : List (Nat × Ctr O0) := [(n_r1Known, c_r1Known), (n_r5plain, c_r5plain), (n_r5place, c_r5place), (n_r1Most, c_r1Most), (n_r5byte, c_r5byte)]
def r5Right_tm : List Tm := []
def r5Right_P (K : Nat) (a0 : AskT) : Option ((Bool × Unit) × Unit × Unit) := br (!knownS a0.1) (some ((false, ()), (), ())) (bd (grd (knownS a0.1) ((plainA (a0.1, a0.2.1, a0.2.2.1, a0.2.2.2.1, a0.2.2.2.2.1, a0.2.2.2.2.2.1, a0.2.2.2.2.2.2.1, a0.2.2.2.2.2.2.2.1, a0.2.2.2.2.2.2.2.2.1, a0.2.2.2.2.2.2.2.2.2.1, a0.2.2.2.2.2.2.2.2.2.2.1, a0.2.2.2.2.2.2.2.2.2.2.2), ()), (), ())) fun (x1 : (Bool × Unit) × Unit × Unit) => br (!x1.1.1) (some ((false, ()), (), ())) (br (!placeN a0.2.1) (some ((false, ()), (), ())) (br (!placeN a0.2.2.2.2.2.2.2.2.1) (some ((false, ()), (), ())) (br (a0.1 == (1 : Int)) (br (decide (a0.2.2.1 ≥ (1 : Int))) (some ((decide (a0.2.2.1 ≤ (mostS a0.1).1), ()), (), ())) (some ((false, ()), (), ()))) (br (a0.1 == (2 : Int)) (br (decide (a0.2.2.1 ≥ (1 : Int))) (some ((decide (a0.2.2.1 ≤ (mostS a0.1).1), ()), (), ())) (some ((false, ()), (), ()))) (br (a0.1 == (3 : Int)) (br (decide (a0.2.2.1 ≥ (1 : Int))) (some ((decide (a0.2.2.1 ≤ (mostS a0.1).1), ()), (), ())) (some ((false, ()), (), ()))) (br (a0.1 == (4 : Int)) (br (decide (a0.2.2.1 ≥ (1 : Int))) (some ((decide (a0.2.2.1 ≤ (mostS a0.1).1), ()), (), ())) (some ((false, ()), (), ()))) (br (a0.1 == (5 : Int)) (some ((decide (a0.2.2.2.1 ≤ (1 : Int)), ()), (), ())) (br (a0.1 == (15 : Int)) (br (decide (a0.2.2.1 ≥ (1 : Int))) (br (decide (a0.2.2.1 ≤ (mostS a0.1).2)) (some (((↑a0.2.2.2.2.2.2.1.length : Int) == a0.2.2.1, ()), (), ())) (some ((false, ()), (), ()))) (some ((false, ()), (), ()))) (br (a0.1 == (16 : Int)) (br (decide (a0.2.2.1 ≥ (1 : Int))) (br (decide (a0.2.2.1 ≤ (mostS a0.1).2)) (some (((↑a0.2.2.2.2.2.2.2.1.length : Int) == a0.2.2.1, ()), (), ())) (some ((false, ()), (), ()))) (some ((false, ()), (), ()))) (br (a0.1 == (23 : Int)) (br (decide (a0.2.2.1 ≥ (1 : Int))) (br (decide (a0.2.2.1 ≤ (mostS a0.1).2)) (br ((↑a0.2.2.2.2.2.2.2.1.length : Int) == a0.2.2.1) (br (decide (a0.2.2.2.2.2.2.2.2.2.1 ≥ (1 : Int))) (some ((decide (a0.2.2.2.2.2.2.2.2.2.1 ≤ (mostS a0.1).1), ()), (), ())) (some ((false, ()), (), ()))) (some ((false, ()), (), ()))) (some ((false, ()), (), ()))) (some ((false, ()), (), ()))) (br (a0.1 == (43 : Int)) (br (decide (a0.2.2.2.2.2.2.2.2.2.2.1 ≥ (1 : Int))) (br (decide (a0.2.2.2.2.2.2.2.2.2.2.1 ≤ (4 : Int))) (some ((byteN a0.2.2.2.2.2.2.2.2.2.2.2, ()), (), ())) (some ((false, ()), (), ()))) (some ((false, ()), (), ()))) (some ((true, ()), (), ()))))))))))))))
theorem r5Right_rn (K : Nat) (a0 : AskT) : runF (cfgW g_r5Right) K f_r5Right r5Right_tm [.val tAsk] [.val .bool] (a0, ()) = r5Right_P K a0 := by kernel_rfl
end
end Go.BB
set_option linter.unusedVariables false
namespace Go.BB
open Go Go.Proofs
set_option maxRecDepth 100000
set_option exponentiation.threshold 100000
noncomputable section
abbrev g_r5Spans : List (Nat × Ctr O0) := [(n_r5Right, c_r5Right), (n_r1Table, c_r1Table)]
def r5Spans_tm : List Tm := []
def r5Spans_P (K : Nat) (a0 : AskT) : Option ((List (Int × Int × Int) × List (Int × Int × Int) × Unit) × Unit × Unit) := br (!askOk (a0.1, a0.2.1, a0.2.2.1, a0.2.2.2.1, a0.2.2.2.2.1, a0.2.2.2.2.2.1, a0.2.2.2.2.2.2.1, a0.2.2.2.2.2.2.2.1, a0.2.2.2.2.2.2.2.2.1, a0.2.2.2.2.2.2.2.2.2.1, a0.2.2.2.2.2.2.2.2.2.2.1, a0.2.2.2.2.2.2.2.2.2.2.2)) (some (([], [], ()), (), ())) (br (a0.1 == (1 : Int)) (some (([((tabS a0.1).1, a0.2.1, IntKind.i64.wrap (a0.2.1 + a0.2.2.1))], [], ()), (), ())) (br (a0.1 == (2 : Int)) (some (([((tabS a0.1).1, a0.2.1, IntKind.i64.wrap (a0.2.1 + a0.2.2.1))], [], ()), (), ())) (br (a0.1 == (3 : Int)) (some (([((tabS a0.1).1, a0.2.1, IntKind.i64.wrap (a0.2.1 + a0.2.2.1))], [], ()), (), ())) (br (a0.1 == (4 : Int)) (some (([((tabS a0.1).1, a0.2.1, IntKind.i64.wrap (a0.2.1 + a0.2.2.1))], [], ()), (), ())) (br (a0.1 == (5 : Int)) (some (([], [((tabS a0.1).1, a0.2.1, IntKind.i64.wrap (a0.2.1 + (1 : Int)))], ()), (), ())) (br (a0.1 == (6 : Int)) (some (([], [((tabS a0.1).1, a0.2.1, IntKind.i64.wrap (a0.2.1 + (1 : Int)))], ()), (), ())) (br (a0.1 == (22 : Int)) (some (([], [((tabS a0.1).1, a0.2.1, IntKind.i64.wrap (a0.2.1 + (1 : Int)))], ()), (), ())) (br (a0.1 == (15 : Int)) (some (([], [((tabS a0.1).1, a0.2.1, IntKind.i64.wrap (a0.2.1 + a0.2.2.1))], ()), (), ())) (br (a0.1 == (16 : Int)) (some (([], [((tabS a0.1).1, a0.2.1, IntKind.i64.wrap (a0.2.1 + a0.2.2.1))], ()), (), ())) (br (a0.1 == (23 : Int)) (some (([((tabS a0.1).1, a0.2.2.2.2.2.2.2.2.1, IntKind.i64.wrap (a0.2.2.2.2.2.2.2.2.1 + a0.2.2.2.2.2.2.2.2.2.1))], [((tabS a0.1).1, a0.2.1, IntKind.i64.wrap (a0.2.1 + a0.2.2.1))], ()), (), ())) (some (([], [], ()), (), ()))))))))))))
theorem r5Spans_rn (K : Nat) (a0 : AskT) : runF (cfgW g_r5Spans) K f_r5Spans r5Spans_tm [.val tAsk] [.val (.slice tSpan), .val (.slice tSpan)] (a0, ()) = r5Spans_P K a0 := by kernel_rfl
end
end Go.BB
set_option linter.unusedVariables false
namespace Go.BB
open Go Go.Proofs
set_option maxRecDepth 100000
set_option exponentiation.threshold 100000
noncomputable section
abbrev g_r5Echo : List (Nat × Ctr O0) := [(n_r5Right, c_r5Right)]
def r5Echo_tm : List Tm := []
def r5Echo_P (K : Nat) (a0 : AskT) : Option ((TellT × Unit) × Unit × Unit) := br (!askOk (a0.1, a0.2.1, a0.2.2.1, a0.2.2.2.1, a0.2.2.2.2.1, a0.2.2.2.2.2.1, a0.2.2.2.2.2.2.1, a0.2.2.2.2.2.2.2.1, a0.2.2.2.2.2.2.2.2.1, a0.2.2.2.2.2.2.2.2.2.1, a0.2.2.2.2.2.2.2.2.2.2.1, a0.2.2.2.2.2.2.2.2.2.2.2)) (some ((((0 : Int), (0 : Int), [], [], (0 : Int), (0 : Int), (0 : Int), (0 : Int), (0 : Int), (0 : Int), (0 : Int), false, (0 : Int), []), ()), (), ())) (br (a0.1 == (5 : Int)) (some (((a0.1, (0 : Int), [], [], a0.2.1, (0 : Int), a0.2.2.2.1, (0 : Int), (0 : Int), (0 : Int), (0 : Int), false, (0 : Int), []), ()), (), ())) (br (a0.1 == (6 : Int)) (some (((a0.1, (0 : Int), [], [], a0.2.1, (0 : Int), a0.2.2.2.1, (0 : Int), (0 : Int), (0 : Int), (0 : Int), false, (0 : Int), []), ()), (), ())) (br (a0.1 == (22 : Int)) (some ((((22 : Int), (0 : Int), [], [], a0.2.1, (0 : Int), (0 : Int), a0.2.2.2.2.1, a0.2.2.2.2.2.1, (0 : Int), (0 : Int), false, (0 : Int), []), ()), (), ())) (br (a0.1 == (15 : Int)) (some (((a0.1, (0 : Int), [], [], a0.2.1, a0.2.2.1, (0 : Int), (0 : Int), (0 : Int), (0 : Int), (0 : Int), false, (0 : Int), []), ()), (), ())) (br (a0.1 == (16 : Int)) (some (((a0.1, (0 : Int), [], [], a0.2.1, a0.2.2.1, (0 : Int), (0 : Int), (0 : Int), (0 : Int), (0 : Int), false, (0 : Int), []), ()), (), ())) (some ((((0 : Int), (0 : Int), [], [], (0 : Int), (0 : Int), (0 : Int), (0 : Int), (0 : Int), (0 : Int), (0 : Int), false, (0 : Int), []), ()), (), ())))))))
theorem r5Echo_rn (K : Nat) (a0 : AskT) : runF (cfgW g_r5Echo) K f_r5Echo r5Echo_tm [.val tAsk] [.val tTell] (a0, ()) = r5Echo_P K a0 := by kernel_rfl
end
end Go.BB
set_option linter.unusedSimpArgs false
set_option linter.unusedVariables false
namespace Go.BB
open Go Go.Proofs
set_option maxRecDepth 100000
theorem known_iff (f : Int) : knownS f = true ↔ f = 1 ∨ f = 2 ∨ f = 3 ∨ f = 4 ∨ f = 5 ∨ f = 6 ∨ f = 15 ∨ f = 16 ∨ f = 22 ∨ f = 23 ∨ f = 43 := by
 constructor
 ·intro h
  apply Classical.byContradiction
  intro hc
  simp only [not_or] at hc
  obtain ⟨h1, h2, h3, h4, h5, h6, h7, h8, h9, h10, h11⟩ := hc
  simp [knownS, tabS, tabL, swv, h1, h2, h3, h4, h5, h6, h7, h8, h9, h10, h11] at h
 ·rintro (rfl | rfl | rfl | rfl | rfl | rfl | rfl | rfl | rfl | rfl | rfl) <;> rfl
theorem brNo {u : Type} {x : u} (c e : Bool) : br c (some ((false, ()), x)) (some ((e, ()), x)) = some (((!c && e), ()), x) := by cases c <;> rfl
theorem brAnd {u : Type} {x : u} (c e : Bool) : br c (some ((e, ()), x)) (some ((false, ()), x)) = some (((c && e), ()), x) := by cases c <;> rfl
theorem v_r1Known : Valid Try.prog n_r1Known c_r1Known := by
 refine valid_fn mixed hf_r1Known (by kernel_rfl) rfl (ts := tmpsOf f_r1Known.results.toList) (by kernel_rfl) (cfg := cfgW g_r1Known) tt_ok Γok_nil r1Known_tm c_r1Known (by kernel_rfl) (fun _ _ _ _ => ⟨⟩) ?_
 rintro ⟨(f : Int), ⟨⟩⟩ r u h
 refine ⟨0, (r1Known_rn _ _).trans (Eq.trans ?_ h)⟩
 show r1Known_P 0 f = some ((knownS f, ()), ((), ()))
 cases hk : knownS f with
 | true =>
  rcases (known_iff f).1 hk with rfl | rfl | rfl | rfl | rfl | rfl | rfl | rfl | rfl | rfl | rfl <;> rfl
 | false =>
  have hn : ¬ _ := mt (known_iff f).2 (by rw [hk]; decide)
  simp only [not_or] at hn
  obtain ⟨h1, h2, h3, h4, h5, h6, h7, h8, h9, h10, h11⟩ := hn
  unfold r1Known_P
  have e : ∀ {k : Int}, f ≠ k → (f == k) = false := fun h => beq_eq_false_iff_ne.2 h
  rw [e h7, e h8, e h9, e h10, e h11]
  by_cases h : f ≥ 1
  ·rw [br_dt h, br_df (by omega)]; rfl
  ·rw [br_df h]; rfl
theorem v_r1Table : Valid Try.prog n_r1Table c_r1Table := by
 refine valid_fn mixed hf_r1Table (by kernel_rfl) rfl (ts := tmpsOf f_r1Table.results.toList) (by kernel_rfl) (cfg := cfgW g_r1Table) tt_ok Γok_nil r1Table_tm c_r1Table (by kernel_rfl) (fun _ _ _ _ => ⟨⟩) ?_
 rintro ⟨(f : Int), ⟨⟩⟩ r u h
 refine ⟨0, (r1Table_rn _ _).trans (Eq.trans ?_ h)⟩
 exact sw_eq f (fun p : Int × Bool => ((p.1, p.2, ()), ((), ()))) tabL (0, false)
theorem v_r1Most : Valid Try.prog n_r1Most c_r1Most := by
 refine valid_fn mixed hf_r1Most (by kernel_rfl) rfl (ts := tmpsOf f_r1Most.results.toList) (by kernel_rfl) (cfg := cfgW g_r1Most) tt_ok Γok_nil r1Most_tm c_r1Most (by kernel_rfl) (fun _ _ _ _ => ⟨⟩) ?_
 rintro ⟨(f : Int), ⟨⟩⟩ r u h
 refine ⟨0, (r1Most_rn _ _).trans (Eq.trans ?_ h)⟩
 exact sw_eq f (fun p : Int × Int => ((p.1, p.2, ()), ((), ()))) mostL (0, 0)
theorem v_r5place : Valid Try.prog n_r5place c_r5place := by
 refine valid_fn mixed hf_r5place (by kernel_rfl) rfl (ts := tmpsOf f_r5place.results.toList) (by kernel_rfl) (cfg := cfgW g_r5place) tt_ok Γok_nil r5place_tm c_r5place (by kernel_rfl) (fun _ _ _ _ => ⟨⟩) ?_
 rintro ⟨(f : Int), ⟨⟩⟩ r u h
 refine ⟨0, (r5place_rn _ _).trans (Eq.trans ?_ h)⟩
 exact brAnd _ _
theorem v_r5byte : Valid Try.prog n_r5byte c_r5byte := by
 refine valid_fn mixed hf_r5byte (by kernel_rfl) rfl (ts := tmpsOf f_r5byte.results.toList) (by kernel_rfl) (cfg := cfgW g_r5byte) tt_ok Γok_nil r5byte_tm c_r5byte (by kernel_rfl) (fun _ _ _ _ => ⟨⟩) ?_
 rintro ⟨(f : Int), ⟨⟩⟩ r u h
 refine ⟨0, (r5byte_rn _ _).trans (Eq.trans ?_ h)⟩
 exact brAnd _ _
theorem len_gt {α : Type} (l : List α) : (!decide ((l.length : Int) > 0)) = decide (l.length = 0) := by
 cases l with
 | nil => rfl
 | cons a l => simp
theorem v_r5plain : Valid Try.prog n_r5plain c_r5plain := by
 refine valid_fn mixed hf_r5plain (by kernel_rfl) rfl (ts := tmpsOf f_r5plain.results.toList) (by kernel_rfl) (cfg := cfgW g_r5plain) tt_ok Γok_nil r5plain_tm c_r5plain (by kernel_rfl) (fun _ _ _ _ => ⟨⟩) ?_
 rintro ⟨(⟨f, at1, n, v, an, o, bs, ws, ra, rn, c, ob⟩ : AskT), ⟨⟩⟩ r u h
 obtain ⟨h1, h2⟩ := grd_some h
 refine ⟨0, Eq.trans ?_ (congrArg some h2)⟩
 have hb : ∀ (x y : Int), (!(x != y)) = (x == y) := fun x y => by simp [bne]
 have key : ∀ b : Bool, b = plainA (f, at1, n, v, an, o, bs, ws, ra, rn, c, ob) → (some ((b, ()), (), ()) : Option ((Bool × Unit) × Unit × Unit)) = some ((plainA (f, at1, n, v, an, o, bs, ws, ra, rn, c, ob), ()), (), ()) := fun b e => by rw [e]
 rcases (known_iff f).1 h1 with rfl | rfl | rfl | rfl | rfl | rfl | rfl | rfl | rfl | rfl | rfl
 ·refine (r5plain_1 0 at1 n v an o bs ws ra rn c ob).trans ?_
  simp only [brNo, hb, len_gt]
  refine key _ ?_
  simp [plainA, inN, manyF, oneF, Bool.and_assoc, aFn, aAt, aN, aVal, aAnd, aOr, aBits, aWords, aRAt, aRN, aCode, aObj]
 ·refine (r5plain_2 0 at1 n v an o bs ws ra rn c ob).trans ?_
  simp only [brNo, hb, len_gt]
  refine key _ ?_
  simp [plainA, inN, manyF, oneF, Bool.and_assoc, aFn, aAt, aN, aVal, aAnd, aOr, aBits, aWords, aRAt, aRN, aCode, aObj]
 ·refine (r5plain_3 0 at1 n v an o bs ws ra rn c ob).trans ?_
  simp only [brNo, hb, len_gt]
  refine key _ ?_
  simp [plainA, inN, manyF, oneF, Bool.and_assoc, aFn, aAt, aN, aVal, aAnd, aOr, aBits, aWords, aRAt, aRN, aCode, aObj]
 ·refine (r5plain_4 0 at1 n v an o bs ws ra rn c ob).trans ?_
  simp only [brNo, hb, len_gt]
  refine key _ ?_
  simp [plainA, inN, manyF, oneF, Bool.and_assoc, aFn, aAt, aN, aVal, aAnd, aOr, aBits, aWords, aRAt, aRN, aCode, aObj]
 ·refine (r5plain_5 0 at1 n v an o bs ws ra rn c ob).trans ?_
  simp only [brNo, hb, len_gt]
  refine key _ ?_
  simp [plainA, inN, manyF, oneF, Bool.and_assoc, aFn, aAt, aN, aVal, aAnd, aOr, aBits, aWords, aRAt, aRN, aCode, aObj]
 ·refine (r5plain_6 0 at1 n v an o bs ws ra rn c ob).trans ?_
  simp only [brNo, hb, len_gt]
  refine key _ ?_
  simp [plainA, inN, manyF, oneF, Bool.and_assoc, aFn, aAt, aN, aVal, aAnd, aOr, aBits, aWords, aRAt, aRN, aCode, aObj]
 ·refine (r5plain_15 0 at1 n v an o bs ws ra rn c ob).trans ?_
  simp only [brNo, hb, len_gt]
  refine key _ ?_
  simp [plainA, inN, manyF, oneF, Bool.and_assoc, aFn, aAt, aN, aVal, aAnd, aOr, aBits, aWords, aRAt, aRN, aCode, aObj]
 ·refine (r5plain_16 0 at1 n v an o bs ws ra rn c ob).trans ?_
  simp only [brNo, hb, len_gt]
  refine key _ ?_
  simp [plainA, inN, manyF, oneF, Bool.and_assoc, aFn, aAt, aN, aVal, aAnd, aOr, aBits, aWords, aRAt, aRN, aCode, aObj]
 ·refine (r5plain_22 0 at1 n v an o bs ws ra rn c ob).trans ?_
  simp only [brNo, hb, len_gt]
  refine key _ ?_
  simp [plainA, inN, manyF, oneF, Bool.and_assoc, aFn, aAt, aN, aVal, aAnd, aOr, aBits, aWords, aRAt, aRN, aCode, aObj]
 ·refine (r5plain_23 0 at1 n v an o bs ws ra rn c ob).trans ?_
  simp only [brNo, hb, len_gt]
  refine key _ ?_
  simp [plainA, inN, manyF, oneF, Bool.and_assoc, aFn, aAt, aN, aVal, aAnd, aOr, aBits, aWords, aRAt, aRN, aCode, aObj]
 ·refine (r5plain_43 0 at1 n v an o bs ws ra rn c ob).trans ?_
  simp only [brNo, hb, len_gt]
  refine key _ ?_
  simp [plainA, inN, manyF, oneF, Bool.and_assoc, aFn, aAt, aN, aVal, aAnd, aOr, aBits, aWords, aRAt, aRN, aCode, aObj]
theorem askEta (a : AskT) : ((a.1, a.2.1, a.2.2.1, a.2.2.2.1, a.2.2.2.2.1, a.2.2.2.2.2.1, a.2.2.2.2.2.2.1, a.2.2.2.2.2.2.2.1, a.2.2.2.2.2.2.2.2.1, a.2.2.2.2.2.2.2.2.2.1, a.2.2.2.2.2.2.2.2.2.2.1, a.2.2.2.2.2.2.2.2.2.2.2) : AskT) = a := rfl
theorem v_r5Right : Valid Try.prog n_r5Right c_r5Right := by
 refine valid_fn mixed hf_r5Right (by kernel_rfl) rfl (ts := tmpsOf f_r5Right.results.toList) (by kernel_rfl) (cfg := cfgW g_r5Right) tt_ok (Γok_cons v_r1Known (Γok_cons v_r5plain (Γok_cons v_r5place (Γok_cons v_r1Most (Γok_cons v_r5byte Γok_nil))))) r5Right_tm c_r5Right (by kernel_rfl) (fun _ _ _ _ => ⟨⟩) ?_
 rintro ⟨(a : AskT), ⟨⟩⟩ r u h
 refine ⟨0, (r5Right_rn _ _).trans (Eq.trans ?_ h)⟩
 show r5Right_P 0 a = some ((askOk a, ()), ((), ()))
 unfold r5Right_P askOk
 simp only [askEta]
 cases hk : knownS a.1 with
 | false => rfl
 | true =>
  show bd (grd true _) _ = _
  rw [bd_grd rfl]
  cases hp : plainA a with
  | false => rfl
  | true =>
   cases hq : placeN a.2.1 with
   | false => rfl
   | true =>
    cases hr : placeN a.2.2.2.2.2.2.2.2.1 with
    | false => rfl
    | true =>
     show _ = some ((sizeA a, ()), ((), ()))
     clear hp hq hr h
     obtain ⟨f, at1, n, v, an, o, bs, ws, ra, rn, c, ob⟩ := a
     have hle : ∀ (x y : Int), decide (x ≥ y) = decide (y ≤ x) := fun _ _ => rfl
     have hlen : ∀ (l : Nat) (y : Int), ((l : Int) == y) = decide ((l : Int) = y) := fun _ _ => rfl
     rcases (known_iff f).1 hk with rfl | rfl | rfl | rfl | rfl | rfl | rfl | rfl | rfl | rfl | rfl <;>
      first
      | rfl
      | exact brAnd _ _
      | (simp only [brAnd]; rfl)
theorem v_r5Spans : Valid Try.prog n_r5Spans c_r5Spans := by
 refine valid_fn mixed hf_r5Spans (by kernel_rfl) rfl (ts := tmpsOf f_r5Spans.results.toList) (by kernel_rfl) (cfg := cfgW g_r5Spans) tt_ok (Γok_cons v_r5Right (Γok_cons v_r1Table Γok_nil)) r5Spans_tm c_r5Spans (by kernel_rfl) (fun _ _ _ _ => ⟨⟩) ?_
 rintro ⟨(a : AskT), ⟨⟩⟩ r u h
 refine ⟨0, (r5Spans_rn _ _).trans (Eq.trans ?_ h)⟩
 show r5Spans_P 0 a = some (((spansA a).1, (spansA a).2, ()), ((), ()))
 unfold r5Spans_P spansA
 simp only [askEta]
 cases hk : askOk a with
 | false => rfl
 | true =>
  obtain ⟨f, at1, n, v, an, o, bs, ws, ra, rn, c, ob⟩ := a
  unfold askOk sizeA at hk
  simp only [Bool.and_eq_true, aFn, aAt, aN, aVal, aAnd, aOr, aBits, aWords, aRAt, aRN, aCode, aObj, placeN, inN, byteN, decide_eq_true_eq] at hk
  obtain ⟨h1, _, h2, h3, h4⟩ := hk
  rcases (known_iff f).1 h1 with rfl | rfl | rfl | rfl | rfl | rfl | rfl | rfl | rfl | rfl | rfl
  all_goals simp at h4
  all_goals first
   | (refine Eq.trans (b := some (([((tabS _).1, at1, IntKind.i64.wrap (at1 + n))], [], ()), (), ())) rfl ?_
      rw [wrapI (n := at1 + n) (by omega) (by omega)]
      rfl)
   | (refine Eq.trans (b := some (([], [((tabS _).1, at1, IntKind.i64.wrap (at1 + 1))], ()), (), ())) rfl ?_
      rw [wrapI (n := at1 + 1) (by omega) (by omega)]
      rfl)
   | (refine Eq.trans (b := some (([], [((tabS _).1, at1, IntKind.i64.wrap (at1 + n))], ()), (), ())) rfl ?_
      rw [wrapI (n := at1 + n) (by omega) (by omega)]
      rfl)
   | (refine Eq.trans (b := some (([((tabS _).1, ra, IntKind.i64.wrap (ra + rn))], [((tabS _).1, at1, IntKind.i64.wrap (at1 + n))], ()), (), ())) rfl ?_
      rw [wrapI (n := at1 + n) (by omega) (by omega), wrapI (n := ra + rn) (by omega) (by omega)]
      rfl)
   | rfl
theorem v_r5Echo : Valid Try.prog n_r5Echo c_r5Echo := by
 refine valid_fnc mixed hf_r5Echo (by kernel_rfl) rfl (cfg := cfgW g_r5Echo) tt_ok (Γok_cons v_r5Right Γok_nil) r5Echo_tm c_r5Echo (by kernel_rfl) (fun _ _ _ _ => ⟨⟩) ?_
 rintro ⟨(a : AskT), ⟨⟩⟩ r u h
 refine ⟨0, (r5Echo_rn _ _).trans (Eq.trans ?_ h)⟩
 show r5Echo_P 0 a = some ((echoA a, ()), ((), ()))
 unfold r5Echo_P echoA
 simp only [askEta]
 cases hk : askOk a with
 | false => rfl
 | true =>
  obtain ⟨f, at1, n, v, an, o, bs, ws, ra, rn, c, ob⟩ := a
  have h1 : knownS f = true := by
   unfold askOk at hk
   simp only [Bool.and_eq_true] at hk
   exact hk.1
  rcases (known_iff f).1 h1 with rfl | rfl | rfl | rfl | rfl | rfl | rfl | rfl | rfl | rfl | rfl <;> rfl
end Go.BB
set_option linter.unusedVariables false
namespace Go.BB
open Go Go.Proofs
set_option maxRecDepth 100000
set_option exponentiation.threshold 100000
noncomputable section
abbrev g_rlay : List (Nat × Ctr O0) := []
def rlay_tm : List Tm := [[((1 : Nat), none, Sh.val (Ty.int IntKind.u16).slice), ((2 : Nat), none, ((Sh.val (Ty.int IntKind.i64)).cons ((Sh.val (Ty.int IntKind.i64)).cons Sh.unit)).ptr), ((5 : Nat), none, Sh.own (((Ty.int IntKind.i64).pair (Ty.int IntKind.i64)).pair (Ty.int IntKind.u16))), ((6 : Nat), none, Sh.val (Ty.int IntKind.i64))]]
def rlay_L1 (rec1 : List Int × (Int × Int × Unit) × List ((Int × Int) × Int) × Int × Unit → Option ((List ((Int × Int) × Int) × Unit) × Unit × Unit × Unit)) : List Int × (Int × Int × Unit) × List ((Int × Int) × Int) × Int × Unit → Option ((List ((Int × Int) × Int) × Unit) × Unit × Unit × Unit) := fun (y3, y4, y5, y6, ()) => br (decide (y6 < (↑y3.length : Int))) (br (decide ((0 : Int) ≤ y6)) (br (decide (y6 < (↑y3.length : Int))) (br (decide ((y5.length + [((y4.1, IntKind.i64.wrap (y4.2.1 + y6)), y3.getD y6.toNat (0 : Int))].length) * (24 : Nat) ≤ LIM)) (br (decide (y5.length + [((y4.1, IntKind.i64.wrap (y4.2.1 + y6)), y3.getD y6.toNat (0 : Int))].length ≤ LIM)) (rec1 (y3, (y4.1, y4.2.1, ()), cat y5 [((y4.1, IntKind.i64.wrap (y4.2.1 + y6)), y3.getD y6.toNat (0 : Int))], IntKind.i64.wrap (y6 + (1 : Int)), ())) none) none) none) none) (some ((y5, ()), (), (), ()))
def rlay_P (K : Nat) (a0 : Int × Int) (a1 : List Int) : Option ((List ((Int × Int) × Int) × Unit) × Unit × Unit × Unit) := loopN rlay_L1 K (a1, (a0.1, a0.2, ()), [], (0 : Int), ())
theorem rlay_rn (K : Nat) (a0 : Int × Int) (a1 : List Int) : runF (cfgW g_rlay) K f_rlay rlay_tm [.val tKey, .val (.slice tW)] [.own tCell] (a0, a1, ()) = rlay_P K a0 a1 := by kernel_rfl
abbrev g_shown : List (Nat × Ctr O0) := []
def shown_tm : List Tm := [[((1 : Nat), none, Sh.val (Ty.int IntKind.u16).slice), ((4 : Nat), none, ((Sh.val (Ty.int IntKind.i64)).cons ((Sh.val (Ty.int IntKind.i64)).cons (Sh.nil.cons (Sh.nil.cons ((Sh.val (Ty.int IntKind.i64)).cons ((Sh.val (Ty.int IntKind.i64)).cons ((Sh.val (Ty.int IntKind.u16)).cons ((Sh.val (Ty.int IntKind.u16)).cons ((Sh.val (Ty.int IntKind.u16)).cons ((Sh.val (Ty.int IntKind.i64)).cons ((Sh.val (Ty.int IntKind.i64)).cons ((Sh.val Ty.bool).cons ((Sh.val (Ty.int IntKind.i64)).cons (Sh.nil.cons Sh.unit)))))))))))))).ptr), ((5 : Nat), none, ((Sh.val (Ty.int IntKind.i64)).cons ((Sh.val (Ty.int IntKind.i64)).cons ((Sh.own Ty.bool).cons (Sh.nil.cons ((Sh.val (Ty.int IntKind.i64)).cons ((Sh.val (Ty.int IntKind.i64)).cons ((Sh.val (Ty.int IntKind.u16)).cons ((Sh.val (Ty.int IntKind.u16)).cons ((Sh.val (Ty.int IntKind.u16)).cons ((Sh.val (Ty.int IntKind.i64)).cons ((Sh.val (Ty.int IntKind.i64)).cons ((Sh.val Ty.bool).cons ((Sh.val (Ty.int IntKind.i64)).cons (Sh.nil.cons Sh.unit)))))))))))))).ptr), ((6 : Nat), none, Sh.val (Ty.int IntKind.i64))]]
def shown_L1 (rec1 : List Int × (Int × Int × Unit × Unit × Int × Int × Int × Int × Int × Int × Int × Bool × Int × Unit × Unit) × (Int × Int × List Bool × Unit × Int × Int × Int × Int × Int × Int × Int × Bool × Int × Unit × Unit) × Int × Unit → Option ((TellT × Unit) × Unit × Unit × Unit)) : List Int × (Int × Int × Unit × Unit × Int × Int × Int × Int × Int × Int × Int × Bool × Int × Unit × Unit) × (Int × Int × List Bool × Unit × Int × Int × Int × Int × Int × Int × Int × Bool × Int × Unit × Unit) × Int × Unit → Option ((TellT × Unit) × Unit × Unit × Unit) := fun (y3, y4, y5, y6, ()) => br (decide (y6 < (↑y3.length : Int))) (br (decide ((0 : Int) ≤ y6)) (br (decide (y6 < (↑y3.length : Int))) (br (decide ((y5.2.2.1.length + [y3.getD y6.toNat (0 : Int) != (0 : Int)].length) * (1 : Nat) ≤ LIM)) (br (decide (y5.2.2.1.length + [y3.getD y6.toNat (0 : Int) != (0 : Int)].length ≤ LIM)) (rec1 (y3, (y4.1, y4.2.1, (), (), y4.2.2.2.2.1, y4.2.2.2.2.2.1, y4.2.2.2.2.2.2.1, y4.2.2.2.2.2.2.2.1, y4.2.2.2.2.2.2.2.2.1, y4.2.2.2.2.2.2.2.2.2.1, y4.2.2.2.2.2.2.2.2.2.2.1, y4.2.2.2.2.2.2.2.2.2.2.2.1, y4.2.2.2.2.2.2.2.2.2.2.2.2.1, (), ()), (y5.1, y5.2.1, cat y5.2.2.1 [y3.getD y6.toNat (0 : Int) != (0 : Int)], (), y5.2.2.2.2.1, y5.2.2.2.2.2.1, y5.2.2.2.2.2.2.1, y5.2.2.2.2.2.2.2.1, y5.2.2.2.2.2.2.2.2.1, y5.2.2.2.2.2.2.2.2.2.1, y5.2.2.2.2.2.2.2.2.2.2.1, y5.2.2.2.2.2.2.2.2.2.2.2.1, y5.2.2.2.2.2.2.2.2.2.2.2.2.1, (), ()), IntKind.i64.wrap (y6 + (1 : Int)), ())) none) none) none) none) (some (((y5.1, y5.2.1, y5.2.2.1, [], y5.2.2.2.2.1, y5.2.2.2.2.2.1, y5.2.2.2.2.2.2.1, y5.2.2.2.2.2.2.2.1, y5.2.2.2.2.2.2.2.2.1, y5.2.2.2.2.2.2.2.2.2.1, y5.2.2.2.2.2.2.2.2.2.2.1, y5.2.2.2.2.2.2.2.2.2.2.2.1, y5.2.2.2.2.2.2.2.2.2.2.2.2.1, []), ()), (), (), ()))
def shown_L2 (rec7 : List Int × (Int × Int × Unit × Unit × Int × Int × Int × Int × Int × Int × Int × Bool × Int × Unit × Unit) × (Int × Int × List Bool × Unit × Int × Int × Int × Int × Int × Int × Int × Bool × Int × Unit × Unit) × Int × Unit → Option ((TellT × Unit) × Unit × Unit × Unit)) : List Int × (Int × Int × Unit × Unit × Int × Int × Int × Int × Int × Int × Int × Bool × Int × Unit × Unit) × (Int × Int × List Bool × Unit × Int × Int × Int × Int × Int × Int × Int × Bool × Int × Unit × Unit) × Int × Unit → Option ((TellT × Unit) × Unit × Unit × Unit) := fun (y9, y10, y11, y12, ()) => br (decide (y12 < (↑y9.length : Int))) (br (decide ((0 : Int) ≤ y12)) (br (decide (y12 < (↑y9.length : Int))) (br (decide ((y11.2.2.1.length + [y9.getD y12.toNat (0 : Int) != (0 : Int)].length) * (1 : Nat) ≤ LIM)) (br (decide (y11.2.2.1.length + [y9.getD y12.toNat (0 : Int) != (0 : Int)].length ≤ LIM)) (rec7 (y9, (y10.1, y10.2.1, (), (), y10.2.2.2.2.1, y10.2.2.2.2.2.1, y10.2.2.2.2.2.2.1, y10.2.2.2.2.2.2.2.1, y10.2.2.2.2.2.2.2.2.1, y10.2.2.2.2.2.2.2.2.2.1, y10.2.2.2.2.2.2.2.2.2.2.1, y10.2.2.2.2.2.2.2.2.2.2.2.1, y10.2.2.2.2.2.2.2.2.2.2.2.2.1, (), ()), (y11.1, y11.2.1, cat y11.2.2.1 [y9.getD y12.toNat (0 : Int) != (0 : Int)], (), y11.2.2.2.2.1, y11.2.2.2.2.2.1, y11.2.2.2.2.2.2.1, y11.2.2.2.2.2.2.2.1, y11.2.2.2.2.2.2.2.2.1, y11.2.2.2.2.2.2.2.2.2.1, y11.2.2.2.2.2.2.2.2.2.2.1, y11.2.2.2.2.2.2.2.2.2.2.2.1, y11.2.2.2.2.2.2.2.2.2.2.2.2.1, (), ()), IntKind.i64.wrap (y12 + (1 : Int)), ())) none) none) none) none) (some (((y11.1, y11.2.1, y11.2.2.1, [], y11.2.2.2.2.1, y11.2.2.2.2.2.1, y11.2.2.2.2.2.2.1, y11.2.2.2.2.2.2.2.1, y11.2.2.2.2.2.2.2.2.1, y11.2.2.2.2.2.2.2.2.2.1, y11.2.2.2.2.2.2.2.2.2.2.1, y11.2.2.2.2.2.2.2.2.2.2.2.1, y11.2.2.2.2.2.2.2.2.2.2.2.2.1, []), ()), (), (), ()))
def shown_P (K : Nat) (a0 : AskT) (a1 : List Int) : Option ((TellT × Unit) × Unit × Unit × Unit) := br (a0.1 != (1 : Int)) (br (a0.1 != (2 : Int)) (br (decide (a1.length * (2 : Nat) ≤ LIM)) (br (decide (a1.length ≤ LIM)) (some (((a0.1, (0 : Int), [], a1, (0 : Int), (0 : Int), (0 : Int), (0 : Int), (0 : Int), (0 : Int), (0 : Int), false, (0 : Int), []), ()), (), (), ())) none) none) (loopN shown_L1 K (a1, ((0 : Int), (0 : Int), (), (), (0 : Int), (0 : Int), (0 : Int), (0 : Int), (0 : Int), (0 : Int), (0 : Int), false, (0 : Int), (), ()), (a0.1, (0 : Int), [], (), (0 : Int), (0 : Int), (0 : Int), (0 : Int), (0 : Int), (0 : Int), (0 : Int), false, (0 : Int), (), ()), (0 : Int), ()))) (loopN shown_L2 K (a1, ((0 : Int), (0 : Int), (), (), (0 : Int), (0 : Int), (0 : Int), (0 : Int), (0 : Int), (0 : Int), (0 : Int), false, (0 : Int), (), ()), (a0.1, (0 : Int), [], (), (0 : Int), (0 : Int), (0 : Int), (0 : Int), (0 : Int), (0 : Int), (0 : Int), false, (0 : Int), (), ()), (0 : Int), ()))
theorem shown_rn (K : Nat) (a0 : AskT) (a1 : List Int) : runF (cfgW g_shown) K f_shown shown_tm [.val tAsk, .val (.slice tW)] [.val tTell] (a0, a1, ()) = shown_P K a0 a1 := by kernel_rfl
end
end Go.BB
