/- A symbolic machine for the model's code, and what it shows of this seat's functions. No conditions. -/
import Derived.Test.YtnofmeckcimodaaEN
import Derived.Test.YtnofmeckcimodaaESFdo
set_option linter.unusedSimpArgs false
set_option linter.unusedVariables false
namespace Go.BB
open Go Go.Proofs
set_option maxRecDepth 100000
set_option exponentiation.threshold 100000
noncomputable section
abbrev g_r1Known : List (Nat × Ctr O0) := []
def r1Known_tm : List Tm := []
def r1Known_P (K : Nat) (a0 : Int) : Option ((Bool × Unit) × Unit × Unit) := br (decide (a0 ≥ (1 : Int))) (br (decide (a0 ≤ (6 : Int))) (some ((true, ()), (), ())) (br (a0 == (15 : Int)) (some ((true, ()), (), ())) (br (a0 == (16 : Int)) (some ((true, ()), (), ())) (br (a0 == (22 : Int)) (some ((true, ()), (), ())) (br (a0 == (23 : Int)) (some ((true, ()), (), ())) (some ((a0 == (43 : Int), ()), (), ()))))))) (br (a0 == (15 : Int)) (some ((true, ()), (), ())) (br (a0 == (16 : Int)) (some ((true, ()), (), ())) (br (a0 == (22 : Int)) (some ((true, ()), (), ())) (br (a0 == (23 : Int)) (some ((true, ()), (), ())) (some ((a0 == (43 : Int), ()), (), ()))))))
theorem r1Known_rn (K : Nat) (a0 : Int) : runF (cfgW g_r1Known) K f_r1Known r1Known_tm [.val tI] [.val .bool] (a0, ()) = r1Known_P K a0 := by kernel_rfl
abbrev g_r1Table : List (Nat × Ctr O0) := []
def r1Table_tm : List Tm := []
def r1Table_P (K : Nat) (a0 : Int) : Option ((Int × Bool × Unit) × Unit × Unit) := br (a0 == (1 : Int)) (some (((0 : Int), true, ()), (), ())) (br (a0 == (5 : Int)) (some (((0 : Int), true, ()), (), ())) (br (a0 == (15 : Int)) (some (((0 : Int), true, ()), (), ())) (br (a0 == (2 : Int)) (some (((1 : Int), true, ()), (), ())) (br (a0 == (3 : Int)) (some (((2 : Int), true, ()), (), ())) (br (a0 == (6 : Int)) (some (((2 : Int), true, ()), (), ())) (br (a0 == (16 : Int)) (some (((2 : Int), true, ()), (), ())) (br (a0 == (22 : Int)) (some (((2 : Int), true, ()), (), ())) (br (a0 == (23 : Int)) (some (((2 : Int), true, ()), (), ())) (br (a0 == (4 : Int)) (some (((3 : Int), true, ()), (), ())) (some (((0 : Int), false, ()), (), ())))))))))))
theorem r1Table_rn (K : Nat) (a0 : Int) : runF (cfgW g_r1Table) K f_r1Table r1Table_tm [.val tI] [.val tI, .val .bool] (a0, ()) = r1Table_P K a0 := by kernel_rfl
abbrev g_r1Most : List (Nat × Ctr O0) := []
def r1Most_tm : List Tm := []
def r1Most_P (K : Nat) (a0 : Int) : Option ((Int × Int × Unit) × Unit × Unit) := br (a0 == (1 : Int)) (some (((2000 : Int), (0 : Int), ()), (), ())) (br (a0 == (2 : Int)) (some (((2000 : Int), (0 : Int), ()), (), ())) (br (a0 == (3 : Int)) (some (((125 : Int), (0 : Int), ()), (), ())) (br (a0 == (4 : Int)) (some (((125 : Int), (0 : Int), ()), (), ())) (br (a0 == (5 : Int)) (some (((0 : Int), (1 : Int), ()), (), ())) (br (a0 == (6 : Int)) (some (((0 : Int), (1 : Int), ()), (), ())) (br (a0 == (22 : Int)) (some (((0 : Int), (1 : Int), ()), (), ())) (br (a0 == (15 : Int)) (some (((0 : Int), (1968 : Int), ()), (), ())) (br (a0 == (16 : Int)) (some (((0 : Int), (123 : Int), ()), (), ())) (br (a0 == (23 : Int)) (some (((125 : Int), (121 : Int), ()), (), ())) (some (((0 : Int), (0 : Int), ()), (), ())))))))))))
theorem r1Most_rn (K : Nat) (a0 : Int) : runF (cfgW g_r1Most) K f_r1Most r1Most_tm [.val tI] [.val tI, .val tI] (a0, ()) = r1Most_P K a0 := by kernel_rfl
abbrev g_r5place : List (Nat × Ctr O0) := []
def r5place_tm : List Tm := []
def r5place_P (K : Nat) (a0 : Int) : Option ((Bool × Unit) × Unit × Unit) := br (decide (a0 ≥ (0 : Int))) (some ((decide (a0 ≤ (65535 : Int)), ()), (), ())) (some ((false, ()), (), ()))
theorem r5place_rn (K : Nat) (a0 : Int) : runF (cfgW g_r5place) K f_r5place r5place_tm [.val tI] [.val .bool] (a0, ()) = r5place_P K a0 := by kernel_rfl
abbrev g_r5byte : List (Nat × Ctr O0) := []
def r5byte_tm : List Tm := []
def r5byte_P (K : Nat) (a0 : Int) : Option ((Bool × Unit) × Unit × Unit) := br (decide (a0 ≥ (0 : Int))) (some ((decide (a0 ≤ (255 : Int)), ()), (), ())) (some ((false, ()), (), ()))
theorem r5byte_rn (K : Nat) (a0 : Int) : runF (cfgW g_r5byte) K f_r5byte r5byte_tm [.val tI] [.val .bool] (a0, ()) = r5byte_P K a0 := by kernel_rfl
end
end Go.BB
set_option linter.unusedVariables false
namespace Go.BB
open Go Go.Proofs
set_option maxRecDepth 100000
set_option exponentiation.threshold 100000
noncomputable section
abbrev g_r5plain : List (Nat × Ctr O0) := []
def r5plain_tm : List Tm := []
theorem r5plain_1 (K : Nat) (at1 n v an o : Int) (bs : List Bool) (ws : List Int) (ra rn c ob : Int) : runF (cfgW g_r5plain) K f_r5plain r5plain_tm [.val tAsk] [.val .bool] (((1 : Int), at1, n, v, an, o, bs, ws, ra, rn, c, ob), ()) = br (v != (0 : Int)) (some ((false, ()), (), ())) (br (an != (0 : Int)) (some ((false, ()), (), ())) (br (o != (0 : Int)) (some ((false, ()), (), ())) (br (decide ((↑bs.length : Int) > (0 : Int))) (some ((false, ()), (), ())) (br (decide ((↑ws.length : Int) > (0 : Int))) (some ((false, ()), (), ())) (br (ra != (0 : Int)) (some ((false, ()), (), ())) (br (rn != (0 : Int)) (some ((false, ()), (), ())) (br (c != (0 : Int)) (some ((false, ()), (), ())) (br (ob != (0 : Int)) (some ((false, ()), (), ())) (some ((true, ()), (), ())))))))))) := by kernel_rfl
theorem r5plain_2 (K : Nat) (at1 n v an o : Int) (bs : List Bool) (ws : List Int) (ra rn c ob : Int) : runF (cfgW g_r5plain) K f_r5plain r5plain_tm [.val tAsk] [.val .bool] (((2 : Int), at1, n, v, an, o, bs, ws, ra, rn, c, ob), ()) = br (v != (0 : Int)) (some ((false, ()), (), ())) (br (an != (0 : Int)) (some ((false, ()), (), ())) (br (o != (0 : Int)) (some ((false, ()), (), ())) (br (decide ((↑bs.length : Int) > (0 : Int))) (some ((false, ()), (), ())) (br (decide ((↑ws.length : Int) > (0 : Int))) (some ((false, ()), (), ())) (br (ra != (0 : Int)) (some ((false, ()), (), ())) (br (rn != (0 : Int)) (some ((false, ()), (), ())) (br (c != (0 : Int)) (some ((false, ()), (), ())) (br (ob != (0 : Int)) (some ((false, ()), (), ())) (some ((true, ()), (), ())))))))))) := by kernel_rfl
theorem r5plain_3 (K : Nat) (at1 n v an o : Int) (bs : List Bool) (ws : List Int) (ra rn c ob : Int) : runF (cfgW g_r5plain) K f_r5plain r5plain_tm [.val tAsk] [.val .bool] (((3 : Int), at1, n, v, an, o, bs, ws, ra, rn, c, ob), ()) = br (v != (0 : Int)) (some ((false, ()), (), ())) (br (an != (0 : Int)) (some ((false, ()), (), ())) (br (o != (0 : Int)) (some ((false, ()), (), ())) (br (decide ((↑bs.length : Int) > (0 : Int))) (some ((false, ()), (), ())) (br (decide ((↑ws.length : Int) > (0 : Int))) (some ((false, ()), (), ())) (br (ra != (0 : Int)) (some ((false, ()), (), ())) (br (rn != (0 : Int)) (some ((false, ()), (), ())) (br (c != (0 : Int)) (some ((false, ()), (), ())) (br (ob != (0 : Int)) (some ((false, ()), (), ())) (some ((true, ()), (), ())))))))))) := by kernel_rfl
theorem r5plain_4 (K : Nat) (at1 n v an o : Int) (bs : List Bool) (ws : List Int) (ra rn c ob : Int) : runF (cfgW g_r5plain) K f_r5plain r5plain_tm [.val tAsk] [.val .bool] (((4 : Int), at1, n, v, an, o, bs, ws, ra, rn, c, ob), ()) = br (v != (0 : Int)) (some ((false, ()), (), ())) (br (an != (0 : Int)) (some ((false, ()), (), ())) (br (o != (0 : Int)) (some ((false, ()), (), ())) (br (decide ((↑bs.length : Int) > (0 : Int))) (some ((false, ()), (), ())) (br (decide ((↑ws.length : Int) > (0 : Int))) (some ((false, ()), (), ())) (br (ra != (0 : Int)) (some ((false, ()), (), ())) (br (rn != (0 : Int)) (some ((false, ()), (), ())) (br (c != (0 : Int)) (some ((false, ()), (), ())) (br (ob != (0 : Int)) (some ((false, ()), (), ())) (some ((true, ()), (), ())))))))))) := by kernel_rfl
theorem r5plain_5 (K : Nat) (at1 n v an o : Int) (bs : List Bool) (ws : List Int) (ra rn c ob : Int) : runF (cfgW g_r5plain) K f_r5plain r5plain_tm [.val tAsk] [.val .bool] (((5 : Int), at1, n, v, an, o, bs, ws, ra, rn, c, ob), ()) = br (n != (0 : Int)) (some ((false, ()), (), ())) (br (an != (0 : Int)) (some ((false, ()), (), ())) (br (o != (0 : Int)) (some ((false, ()), (), ())) (br (decide ((↑bs.length : Int) > (0 : Int))) (some ((false, ()), (), ())) (br (decide ((↑ws.length : Int) > (0 : Int))) (some ((false, ()), (), ())) (br (ra != (0 : Int)) (some ((false, ()), (), ())) (br (rn != (0 : Int)) (some ((false, ()), (), ())) (br (c != (0 : Int)) (some ((false, ()), (), ())) (br (ob != (0 : Int)) (some ((false, ()), (), ())) (some ((true, ()), (), ())))))))))) := by kernel_rfl
theorem r5plain_6 (K : Nat) (at1 n v an o : Int) (bs : List Bool) (ws : List Int) (ra rn c ob : Int) : runF (cfgW g_r5plain) K f_r5plain r5plain_tm [.val tAsk] [.val .bool] (((6 : Int), at1, n, v, an, o, bs, ws, ra, rn, c, ob), ()) = br (n != (0 : Int)) (some ((false, ()), (), ())) (br (an != (0 : Int)) (some ((false, ()), (), ())) (br (o != (0 : Int)) (some ((false, ()), (), ())) (br (decide ((↑bs.length : Int) > (0 : Int))) (some ((false, ()), (), ())) (br (decide ((↑ws.length : Int) > (0 : Int))) (some ((false, ()), (), ())) (br (ra != (0 : Int)) (some ((false, ()), (), ())) (br (rn != (0 : Int)) (some ((false, ()), (), ())) (br (c != (0 : Int)) (some ((false, ()), (), ())) (br (ob != (0 : Int)) (some ((false, ()), (), ())) (some ((true, ()), (), ())))))))))) := by kernel_rfl
theorem r5plain_15 (K : Nat) (at1 n v an o : Int) (bs : List Bool) (ws : List Int) (ra rn c ob : Int) : runF (cfgW g_r5plain) K f_r5plain r5plain_tm [.val tAsk] [.val .bool] (((15 : Int), at1, n, v, an, o, bs, ws, ra, rn, c, ob), ()) = br (v != (0 : Int)) (some ((false, ()), (), ())) (br (an != (0 : Int)) (some ((false, ()), (), ())) (br (o != (0 : Int)) (some ((false, ()), (), ())) (br (decide ((↑ws.length : Int) > (0 : Int))) (some ((false, ()), (), ())) (br (ra != (0 : Int)) (some ((false, ()), (), ())) (br (rn != (0 : Int)) (some ((false, ()), (), ())) (br (c != (0 : Int)) (some ((false, ()), (), ())) (br (ob != (0 : Int)) (some ((false, ()), (), ())) (some ((true, ()), (), ()))))))))) := by kernel_rfl
theorem r5plain_16 (K : Nat) (at1 n v an o : Int) (bs : List Bool) (ws : List Int) (ra rn c ob : Int) : runF (cfgW g_r5plain) K f_r5plain r5plain_tm [.val tAsk] [.val .bool] (((16 : Int), at1, n, v, an, o, bs, ws, ra, rn, c, ob), ()) = br (v != (0 : Int)) (some ((false, ()), (), ())) (br (an != (0 : Int)) (some ((false, ()), (), ())) (br (o != (0 : Int)) (some ((false, ()), (), ())) (br (decide ((↑bs.length : Int) > (0 : Int))) (some ((false, ()), (), ())) (br (ra != (0 : Int)) (some ((false, ()), (), ())) (br (rn != (0 : Int)) (some ((false, ()), (), ())) (br (c != (0 : Int)) (some ((false, ()), (), ())) (br (ob != (0 : Int)) (some ((false, ()), (), ())) (some ((true, ()), (), ()))))))))) := by kernel_rfl
theorem r5plain_22 (K : Nat) (at1 n v an o : Int) (bs : List Bool) (ws : List Int) (ra rn c ob : Int) : runF (cfgW g_r5plain) K f_r5plain r5plain_tm [.val tAsk] [.val .bool] (((22 : Int), at1, n, v, an, o, bs, ws, ra, rn, c, ob), ()) = br (n != (0 : Int)) (some ((false, ()), (), ())) (br (v != (0 : Int)) (some ((false, ()), (), ())) (br (decide ((↑bs.length : Int) > (0 : Int))) (some ((false, ()), (), ())) (br (decide ((↑ws.length : Int) > (0 : Int))) (some ((false, ()), (), ())) (br (ra != (0 : Int)) (some ((false, ()), (), ())) (br (rn != (0 : Int)) (some ((false, ()), (), ())) (br (c != (0 : Int)) (some ((false, ()), (), ())) (br (ob != (0 : Int)) (some ((false, ()), (), ())) (some ((true, ()), (), ()))))))))) := by kernel_rfl
theorem r5plain_23 (K : Nat) (at1 n v an o : Int) (bs : List Bool) (ws : List Int) (ra rn c ob : Int) : runF (cfgW g_r5plain) K f_r5plain r5plain_tm [.val tAsk] [.val .bool] (((23 : Int), at1, n, v, an, o, bs, ws, ra, rn, c, ob), ()) = br (v != (0 : Int)) (some ((false, ()), (), ())) (br (an != (0 : Int)) (some ((false, ()), (), ())) (br (o != (0 : Int)) (some ((false, ()), (), ())) (br (decide ((↑bs.length : Int) > (0 : Int))) (some ((false, ()), (), ())) (br (c != (0 : Int)) (some ((false, ()), (), ())) (br (ob != (0 : Int)) (some ((false, ()), (), ())) (some ((true, ()), (), ()))))))) := by kernel_rfl
theorem r5plain_43 (K : Nat) (at1 n v an o : Int) (bs : List Bool) (ws : List Int) (ra rn c ob : Int) : runF (cfgW g_r5plain) K f_r5plain r5plain_tm [.val tAsk] [.val .bool] (((43 : Int), at1, n, v, an, o, bs, ws, ra, rn, c, ob), ()) = br (at1 != (0 : Int)) (some ((false, ()), (), ())) (br (n != (0 : Int)) (some ((false, ()), (), ())) (br (v != (0 : Int)) (some ((false, ()), (), ())) (br (an != (0 : Int)) (some ((false, ()), (), ())) (br (o != (0 : Int)) (some ((false, ()), (), ())) (br (decide ((↑bs.length : Int) > (0 : Int))) (some ((false, ()), (), ())) (br (decide ((↑ws.length : Int) > (0 : Int))) (some ((false, ()), (), ())) (br (ra != (0 : Int)) (some ((false, ()), (), ())) (br (rn != (0 : Int)) (some ((false, ()), (), ())) (some ((true, ()), (), ())))))))))) := by kernel_rfl
end
end Go.BB
set_option linter.unusedVariables false
namespace Go.BB
open Go Go.Proofs
set_option maxRecDepth 100000
set_option exponentiation.threshold 100000
noncomputable section
abbrev g_r5Right : List (Nat × Ctr O0) := [(n_r1Known, c_r1Known), (n_r5plain, c_r5plain), (n_r5place, c_r5place), (n_r1Most, c_r1Most), (n_r5byte, c_r5byte)]
def r5Right_tm : List Tm := []
def r5Right_P (K : Nat) (a0 : AskT) : Option ((Bool × Unit) × Unit × Unit) := br (!knownS a0.1) (some ((false, ()), (), ())) (bd (grd (knownS a0.1) ((plainA (a0.1, a0.2.1, a0.2.2.1, a0.2.2.2.1, a0.2.2.2.2.1, a0.2.2.2.2.2.1, a0.2.2.2.2.2.2.1, a0.2.2.2.2.2.2.2.1, a0.2.2.2.2.2.2.2.2.1, a0.2.2.2.2.2.2.2.2.2.1, a0.2.2.2.2.2.2.2.2.2.2.1, a0.2.2.2.2.2.2.2.2.2.2.2), ()), (), ())) fun (x1 : (Bool × Unit) × Unit × Unit) => br (!x1.1.1) (some ((false, ()), (), ())) (br (!placeN a0.2.1) (some ((false, ()), (), ())) (br (!placeN a0.2.2.2.2.2.2.2.2.1) (some ((false, ()), (), ())) (br (a0.1 == (1 : Int)) (br (decide (a0.2.2.1 ≥ (1 : Int))) (some ((decide (a0.2.2.1 ≤ (mostS a0.1).1), ()), (), ())) (some ((false, ()), (), ()))) (br (a0.1 == (2 : Int)) (br (decide (a0.2.2.1 ≥ (1 : Int))) (some ((decide (a0.2.2.1 ≤ (mostS a0.1).1), ()), (), ())) (some ((false, ()), (), ()))) (br (a0.1 == (3 : Int)) (br (decide (a0.2.2.1 ≥ (1 : Int))) (some ((decide (a0.2.2.1 ≤ (mostS a0.1).1), ()), (), ())) (some ((false, ()), (), ()))) (br (a0.1 == (4 : Int)) (br (decide (a0.2.2.1 ≥ (1 : Int))) (some ((decide (a0.2.2.1 ≤ (mostS a0.1).1), ()), (), ())) (some ((false, ()), (), ()))) (br (a0.1 == (5 : Int)) (some ((decide (a0.2.2.2.1 ≤ (1 : Int)), ()), (), ())) (br (a0.1 == (15 : Int)) (br (decide (a0.2.2.1 ≥ (1 : Int))) (br (decide (a0.2.2.1 ≤ (mostS a0.1).2)) (some (((↑a0.2.2.2.2.2.2.1.length : Int) == a0.2.2.1, ()), (), ())) (some ((false, ()), (), ()))) (some ((false, ()), (), ()))) (br (a0.1 == (16 : Int)) (br (decide (a0.2.2.1 ≥ (1 : Int))) (br (decide (a0.2.2.1 ≤ (mostS a0.1).2)) (some (((↑a0.2.2.2.2.2.2.2.1.length : Int) == a0.2.2.1, ()), (), ())) (some ((false, ()), (), ()))) (some ((false, ()), (), ()))) (br (a0.1 == (23 : Int)) (br (decide (a0.2.2.1 ≥ (1 : Int))) (br (decide (a0.2.2.1 ≤ (mostS a0.1).2)) (br ((↑a0.2.2.2.2.2.2.2.1.length : Int) == a0.2.2.1) (br (decide (a0.2.2.2.2.2.2.2.2.2.1 ≥ (1 : Int))) (some ((decide (a0.2.2.2.2.2.2.2.2.2.1 ≤ (mostS a0.1).1), ()), (), ())) (some ((false, ()), (), ()))) (some ((false, ()), (), ()))) (some ((false, ()), (), ()))) (some ((false, ()), (), ()))) (br (a0.1 == (43 : Int)) (br (decide (a0.2.2.2.2.2.2.2.2.2.2.1 ≥ (1 : Int))) (br (decide (a0.2.2.2.2.2.2.2.2.2.2.1 ≤ (4 : Int))) (some ((byteN a0.2.2.2.2.2.2.2.2.2.2.2, ()), (), ())) (some ((false, ()), (), ()))) (some ((false, ()), (), ()))) (some ((true, ()), (), ()))))))))))))))
theorem r5Right_rn (K : Nat) (a0 : AskT) : runF (cfgW g_r5Right) K f_r5Right r5Right_tm [.val tAsk] [.val .bool] (a0, ()) = r5Right_P K a0 := by kernel_rfl
end
end Go.BB
set_option linter.unusedVariables false
namespace Go.BB
open Go Go.Proofs
set_option maxRecDepth 100000
set_option exponentiation.threshold 100000
noncomputable section
abbrev g_r5Spans : List (Nat × Ctr O0) := [(n_r5Right, c_r5Right), (n_r1Table, c_r1Table)]
def r5Spans_tm : List Tm := []
def r5Spans_P (K : Nat) (a0 : AskT) : Option ((List (Int × Int × Int) × List (Int × Int × Int) × Unit) × Unit × Unit) := br (!askOk (a0.1, a0.2.1, a0.2.2.1, a0.2.2.2.1, a0.2.2.2.2.1, a0.2.2.2.2.2.1, a0.2.2.2.2.2.2.1, a0.2.2.2.2.2.2.2.1, a0.2.2.2.2.2.2.2.2.1, a0.2.2.2.2.2.2.2.2.2.1, a0.2.2.2.2.2.2.2.2.2.2.1, a0.2.2.2.2.2.2.2.2.2.2.2)) (some (([], [], ()), (), ())) (br (a0.1 == (1 : Int)) (some (([((tabS a0.1).1, a0.2.1, IntKind.i64.wrap (a0.2.1 + a0.2.2.1))], [], ()), (), ())) (br (a0.1 == (2 : Int)) (some (([((tabS a0.1).1, a0.2.1, IntKind.i64.wrap (a0.2.1 + a0.2.2.1))], [], ()), (), ())) (br (a0.1 == (3 : Int)) (some (([((tabS a0.1).1, a0.2.1, IntKind.i64.wrap (a0.2.1 + a0.2.2.1))], [], ()), (), ())) (br (a0.1 == (4 : Int)) (some (([((tabS a0.1).1, a0.2.1, IntKind.i64.wrap (a0.2.1 + a0.2.2.1))], [], ()), (), ())) (br (a0.1 == (5 : Int)) (some (([], [((tabS a0.1).1, a0.2.1, IntKind.i64.wrap (a0.2.1 + (1 : Int)))], ()), (), ())) (br (a0.1 == (6 : Int)) (some (([], [((tabS a0.1).1, a0.2.1, IntKind.i64.wrap (a0.2.1 + (1 : Int)))], ()), (), ())) (br (a0.1 == (22 : Int)) (some (([], [((tabS a0.1).1, a0.2.1, IntKind.i64.wrap (a0.2.1 + (1 : Int)))], ()), (), ())) (br (a0.1 == (15 : Int)) (some (([], [((tabS a0.1).1, a0.2.1, IntKind.i64.wrap (a0.2.1 + a0.2.2.1))], ()), (), ())) (br (a0.1 == (16 : Int)) (some (([], [((tabS a0.1).1, a0.2.1, IntKind.i64.wrap (a0.2.1 + a0.2.2.1))], ()), (), ())) (br (a0.1 == (23 : Int)) (some (([((tabS a0.1).1, a0.2.2.2.2.2.2.2.2.1, IntKind.i64.wrap (a0.2.2.2.2.2.2.2.2.1 + a0.2.2.2.2.2.2.2.2.2.1))], [((tabS a0.1).1, a0.2.1, IntKind.i64.wrap (a0.2.1 + a0.2.2.1))], ()), (), ())) (some (([], [], ()), (), ()))))))))))))
theorem r5Spans_rn (K : Nat) (a0 : AskT) : runF (cfgW g_r5Spans) K f_r5Spans r5Spans_tm [.val tAsk] [.val (.slice tSpan), .val (.slice tSpan)] (a0, ()) = r5Spans_P K a0 := by kernel_rfl
end
end Go.BB
set_option linter.unusedVariables false
namespace Go.BB
open Go Go.Proofs
set_option maxRecDepth 100000
set_option exponentiation.threshold 100000
noncomputable section
abbrev g_r5Echo : List (Nat × Ctr O0) := [(n_r5Right, c_r5Right)]
def r5Echo_tm : List Tm := []
def r5Echo_P (K : Nat) (a0 : AskT) : Option ((TellT × Unit) × Unit × Unit) := br (!askOk (a0.1, a0.2.1, a0.2.2.1, a0.2.2.2.1, a0.2.2.2.2.1, a0.2.2.2.2.2.1, a0.2.2.2.2.2.2.1, a0.2.2.2.2.2.2.2.1, a0.2.2.2.2.2.2.2.2.1, a0.2.2.2.2.2.2.2.2.2.1, a0.2.2.2.2.2.2.2.2.2.2.1, a0.2.2.2.2.2.2.2.2.2.2.2)) (some ((((0 : Int), (0 : Int), [], [], (0 : Int), (0 : Int), (0 : Int), (0 : Int), (0 : Int), (0 : Int), (0 : Int), false, (0 : Int), []), ()), (), ())) (br (a0.1 == (5 : Int)) (some (((a0.1, (0 : Int), [], [], a0.2.1, (0 : Int), a0.2.2.2.1, (0 : Int), (0 : Int), (0 : Int), (0 : Int), false, (0 : Int), []), ()), (), ())) (br (a0.1 == (6 : Int)) (some (((a0.1, (0 : Int), [], [], a0.2.1, (0 : Int), a0.2.2.2.1, (0 : Int), (0 : Int), (0 : Int), (0 : Int), false, (0 : Int), []), ()), (), ())) (br (a0.1 == (22 : Int)) (some ((((22 : Int), (0 : Int), [], [], a0.2.1, (0 : Int), (0 : Int), a0.2.2.2.2.1, a0.2.2.2.2.2.1, (0 : Int), (0 : Int), false, (0 : Int), []), ()), (), ())) (br (a0.1 == (15 : Int)) (some (((a0.1, (0 : Int), [], [], a0.2.1, a0.2.2.1, (0 : Int), (0 : Int), (0 : Int), (0 : Int), (0 : Int), false, (0 : Int), []), ()), (), ())) (br (a0.1 == (16 : Int)) (some (((a0.1, (0 : Int), [], [], a0.2.1, a0.2.2.1, (0 : Int), (0 : Int), (0 : Int), (0 : Int), (0 : Int), false, (0 : Int), []), ()), (), ())) (some ((((0 : Int), (0 : Int), [], [], (0 : Int), (0 : Int), (0 : Int), (0 : Int), (0 : Int), (0 : Int), (0 : Int), false, (0 : Int), []), ()), (), ())))))))
theorem r5Echo_rn (K : Nat) (a0 : AskT) : runF (cfgW g_r5Echo) K f_r5Echo r5Echo_tm [.val tAsk] [.val tTell] (a0, ()) = r5Echo_P K a0 := by kernel_rfl
end
end Go.BB
set_option linter.unusedVariables false
namespace Go.BB
open Go Go.Proofs
set_option maxRecDepth 100000
set_option exponentiation.threshold 100000
noncomputable section
abbrev g_within : List (Nat × Ctr O0) := []
def within_tm : List Tm := []
def within_P (K : Nat) (a0 : Int) (a1 : Int) : Option ((Int × Unit) × Unit × Unit × Unit) := br (!decide (a1 = (0 : Int))) (br (decide (a0.tmod a1 < (0 : Int))) (some ((IntKind.i64.wrap (a0.tmod a1 + a1), ()), (), (), ())) (some ((a0.tmod a1, ()), (), (), ()))) none
theorem within_rn (K : Nat) (a0 : Int) (a1 : Int) : runF (cfgW g_within) K f_within within_tm [.val tI, .val tI] [.val tI] (a0, a1, ()) = within_P K a0 a1 := by kernel_rfl
abbrev g_digit : List (Nat × Ctr O0) := [(n_within, c_within)]
def digit_tm : List Tm := []
def digit_P (K : Nat) (a0 : Int) (a1 : Int) (a2 : Int) : Option ((Int × Unit) × Unit × Unit × Unit × Unit) := br (!decide (a1 = (0 : Int))) (bd (grd (decide ((0 : Int) < a2) && decide (a2 < (4611686018427387904 : Int))) ((IntKind.i64.wrap (a0.tdiv a1) % a2, ()), (), (), ())) fun (x1 : (Int × Unit) × Unit × Unit × Unit) => some ((x1.1.1, ()), (), (), (), ())) none
theorem digit_rn (K : Nat) (a0 : Int) (a1 : Int) (a2 : Int) : runF (cfgW g_digit) K f_digit digit_tm [.val tI, .val tI, .val tI] [.val tI] (a0, a1, a2, ()) = digit_P K a0 a1 a2 := by kernel_rfl
abbrev g_cloneBits : List (Nat × Ctr O0) := []
def cloneBits_tm : List Tm := []
def cloneBits_P (K : Nat) (a0 : List Bool) : Option ((List Bool × Unit) × Unit × Unit) := mayB a0.isEmpty (some (([], ()), (), ())) (br (decide (((0 : Nat) + a0.length) * (1 : Nat) ≤ LIM)) (br (decide ((0 : Nat) + a0.length ≤ LIM)) (some ((cat [] a0, ()), (), ())) none) none)
theorem cloneBits_rn (K : Nat) (a0 : List Bool) : runF (cfgW g_cloneBits) K f_cloneBits cloneBits_tm [.val (.slice .bool)] [.own .bool] (a0, ()) = cloneBits_P K a0 := by kernel_rfl
abbrev g_cloneWords : List (Nat × Ctr O0) := []
def cloneWords_tm : List Tm := []
def cloneWords_P (K : Nat) (a0 : List Int) : Option ((List Int × Unit) × Unit × Unit) := mayB a0.isEmpty (some (([], ()), (), ())) (br (decide (((0 : Nat) + a0.length) * (2 : Nat) ≤ LIM)) (br (decide ((0 : Nat) + a0.length ≤ LIM)) (some ((cat [] a0, ()), (), ())) none) none)
theorem cloneWords_rn (K : Nat) (a0 : List Int) : runF (cfgW g_cloneWords) K f_cloneWords cloneWords_tm [.val (.slice tW)] [.own tW] (a0, ()) = cloneWords_P K a0 := by kernel_rfl
abbrev g_lentCells : List (Nat × Ctr O0) := []
def lentCells_tm : List Tm := [[((0 : Nat), none, Sh.val (((Ty.int IntKind.i64).pair (Ty.int IntKind.i64)).pair (Ty.int IntKind.u16)).slice), ((3 : Nat), none, Sh.own (((Ty.int IntKind.i64).pair (Ty.int IntKind.i64)).pair (Ty.int IntKind.u16))), ((4 : Nat), none, Sh.val (Ty.int IntKind.i64))]]
def lentCells_L1 (rec1 : List ((Int × Int) × Int) × List ((Int × Int) × Int) × Int × Unit → Option (((List ((Int × Int) × Int) × Nat) × Unit) × Unit × Unit)) : List ((Int × Int) × Int) × List ((Int × Int) × Int) × Int × Unit → Option (((List ((Int × Int) × Int) × Nat) × Unit) × Unit × Unit) := fun (y3, y4, y5, ()) => br (decide (y5 < (↑y4.length : Int))) (br (decide ((0 : Int) ≤ y5)) (br (decide (y5 < (↑y4.length : Int))) (rec1 (y3, y4.set y5.toNat (((0 : Int), (0 : Int)), (7 : Int)), IntKind.i64.wrap (y5 + (1 : Int)), ())) none) none) (br (decide ((↑y3.length : Int) ≤ (↑y4.length : Int))) (some (((y4, (↑y3.length : Int).toNat), ()), (), ())) none)
def lentCells_P (K : Nat) (a0 : List ((Int × Int) × Int)) : Option (((List ((Int × Int) × Int) × Nat) × Unit) × Unit × Unit) := br (decide ((0 : Int) ≤ IntKind.i64.wrap ((↑a0.length : Int) + (3 : Int)))) (br (decide (IntKind.i64.wrap ((↑a0.length : Int) + (3 : Int)) ≤ IntKind.i64.wrap ((↑a0.length : Int) + (3 : Int)))) (br (decide ((IntKind.i64.wrap ((↑a0.length : Int) + (3 : Int))).toNat * (24 : Nat) ≤ LIM)) (br (decide ((IntKind.i64.wrap ((↑a0.length : Int) + (3 : Int))).toNat ≤ LIM)) (loopN lentCells_L1 K (a0, splice (List.replicate (IntKind.i64.wrap ((↑a0.length : Int) + (3 : Int))).toNat (((0 : Int), (0 : Int)), (0 : Int))) a0 (0 : Nat) (List.replicate (IntKind.i64.wrap ((↑a0.length : Int) + (3 : Int))).toNat (((0 : Int), (0 : Int)), (0 : Int))).length, (↑a0.length : Int), ())) none) none) none) none
theorem lentCells_rn (K : Nat) (a0 : List ((Int × Int) × Int)) : runF (cfgW g_lentCells) K f_lentCells lentCells_tm [.val (.slice tCell)] [.sub tCell] (a0, ()) = lentCells_P K a0 := by kernel_rfl
abbrev g_staysCells : List (Nat × Ctr O0) := []
def staysCells_tm : List Tm := [[((1 : Nat), none, Sh.val (((Ty.int IntKind.i64).pair (Ty.int IntKind.i64)).pair (Ty.int IntKind.u16)).slice), ((5 : Nat), some (0 : Nat), Sh.sub (((Ty.int IntKind.i64).pair (Ty.int IntKind.i64)).pair (Ty.int IntKind.u16))), ((6 : Nat), none, Sh.val (Ty.int IntKind.i64))]]
def staysCells_L1 (rec1 : List ((Int × Int) × Int) × (List ((Int × Int) × Int) × Nat) × Int × Unit → Option ((Bool × Unit) × List ((Int × Int) × Int) × Unit × Unit)) : List ((Int × Int) × Int) × (List ((Int × Int) × Int) × Nat) × Int × Unit → Option ((Bool × Unit) × List ((Int × Int) × Int) × Unit × Unit) := fun (y3, y4, y5, ()) => br (decide (y5 < (↑y4.2 : Int))) (br (decide (y5 < (↑y3.length : Int))) (br (decide ((0 : Int) ≤ y5)) (br (decide (y5 < (↑y4.2 : Int))) (br (decide ((0 : Int) ≤ y5)) (br (decide (y5 < (↑y3.length : Int))) (br (!((y4.1.getD y5.toNat (((0 : Int), (0 : Int)), (0 : Int))).1.1 == (y3.getD y5.toNat (((0 : Int), (0 : Int)), (0 : Int))).1.1 && (y4.1.getD y5.toNat (((0 : Int), (0 : Int)), (0 : Int))).1.2 == (y3.getD y5.toNat (((0 : Int), (0 : Int)), (0 : Int))).1.2 && (y4.1.getD y5.toNat (((0 : Int), (0 : Int)), (0 : Int))).2 == (y3.getD y5.toNat (((0 : Int), (0 : Int)), (0 : Int))).2)) (some ((false, ()), y4.1, (), ())) (br (decide (y5 ≥ (↑y3.length : Int))) (br (decide ((0 : Int) ≤ y5)) (br (decide (y5 < (↑y4.2 : Int))) (br (!((y4.1.getD y5.toNat (((0 : Int), (0 : Int)), (0 : Int))).1.1 == (0 : Int) && (y4.1.getD y5.toNat (((0 : Int), (0 : Int)), (0 : Int))).1.2 == (0 : Int) && (y4.1.getD y5.toNat (((0 : Int), (0 : Int)), (0 : Int))).2 == (7 : Int))) (some ((false, ()), y4.1, (), ())) (rec1 (y3, (y4.1, y4.2), IntKind.i64.wrap (y5 + (1 : Int)), ()))) none) none) (rec1 (y3, (y4.1, y4.2), IntKind.i64.wrap (y5 + (1 : Int)), ())))) none) none) none) none) (br (decide (y5 ≥ (↑y3.length : Int))) (br (decide ((0 : Int) ≤ y5)) (br (decide (y5 < (↑y4.2 : Int))) (br (!((y4.1.getD y5.toNat (((0 : Int), (0 : Int)), (0 : Int))).1.1 == (0 : Int) && (y4.1.getD y5.toNat (((0 : Int), (0 : Int)), (0 : Int))).1.2 == (0 : Int) && (y4.1.getD y5.toNat (((0 : Int), (0 : Int)), (0 : Int))).2 == (7 : Int))) (some ((false, ()), y4.1, (), ())) (rec1 (y3, (y4.1, y4.2), IntKind.i64.wrap (y5 + (1 : Int)), ()))) none) none) (rec1 (y3, (y4.1, y4.2), IntKind.i64.wrap (y5 + (1 : Int)), ())))) (some ((true, ()), y4.1, (), ()))
def staysCells_P (K : Nat) (a0 : List ((Int × Int) × Int) × Nat) (a1 : List ((Int × Int) × Int)) : Option ((Bool × Unit) × List ((Int × Int) × Int) × Unit × Unit) := br ((↑a0.2 : Int) != (↑a1.length : Int)) (some ((false, ()), a0.1, (), ())) (br (decide ((0 : Int) ≤ IntKind.i64.wrap ((↑a1.length : Int) + (3 : Int)))) (br (decide (IntKind.i64.wrap ((↑a1.length : Int) + (3 : Int)) ≤ (↑(a0.1.length - (0 : Nat)) : Int))) (loopN staysCells_L1 K (a1, (a0.1, (IntKind.i64.wrap ((↑a1.length : Int) + (3 : Int))).toNat), (0 : Int), ())) none) none)
theorem staysCells_rn (K : Nat) (a0 : List ((Int × Int) × Int) × Nat) (a1 : List ((Int × Int) × Int)) : runF (cfgW g_staysCells) K f_staysCells staysCells_tm [.row tCell, .val (.slice tCell)] [.val .bool] (a0, a1, ()) = staysCells_P K a0 a1 := by kernel_rfl
abbrev g_cloneCells : List (Nat × Ctr O0) := []
def cloneCells_tm : List Tm := []
def cloneCells_P (K : Nat) (a0 : List ((Int × Int) × Int)) : Option ((List ((Int × Int) × Int) × Unit) × Unit × Unit) := mayB a0.isEmpty (some (([], ()), (), ())) (br (decide (((0 : Nat) + a0.length) * (24 : Nat) ≤ LIM)) (br (decide ((0 : Nat) + a0.length ≤ LIM)) (some ((cat [] a0, ()), (), ())) none) none)
theorem cloneCells_rn (K : Nat) (a0 : List ((Int × Int) × Int)) : runF (cfgW g_cloneCells) K f_cloneCells cloneCells_tm [.val (.slice tCell)] [.own tCell] (a0, ()) = cloneCells_P K a0 := by kernel_rfl
end
end Go.BB
/-! plain lemmas on what loops compute -/
namespace Go.BB
open Go
theorem wrapI {n : Int} (h1 : -9223372036854775808 ≤ n) (h2 : n ≤ 9223372036854775807) : IntKind.i64.wrap n = n := by
  simp [IntKind.wrap, IntKind.signed, IntKind.bits]; omega
theorem wrapW {n : Int} (h1 : 0 ≤ n) (h2 : n ≤ 65535) : IntKind.u16.wrap n = n := by
  simp [IntKind.wrap, IntKind.signed, IntKind.bits]; omega
theorem splice_lent {α : Type} (z : α) (l : List α) : splice (List.replicate (l.length + 3) z) l 0 (List.replicate (l.length + 3) z).length = l ++ [z, z, z] := by
  simp only [splice, List.take_zero, List.nil_append, List.length_replicate, Nat.zero_add]
  rw [List.take_of_length_le (by omega), show Nat.min l.length (l.length + 3) = l.length from Nat.min_eq_left (by omega), List.drop_replicate, show l.length + 3 - l.length = 3 by omega]
  rfl
theorem lent_loop {α : Type} (z m : α) (l : List α) (hl : l.length < 1000000) {step : (List α × List α × Int × Unit → Option (((List α × Nat) × Unit) × Unit × Unit)) → List α × List α × Int × Unit → Option (((List α × Nat) × Unit) × Unit × Unit)}
    (hstep : ∀ rec (y3 y4 : List α) (y5 : Int), step rec (y3, y4, y5, ()) = br (decide (y5 < (↑y4.length : Int)))
      (br (decide ((0 : Int) ≤ y5)) (br (decide (y5 < (↑y4.length : Int))) (rec (y3, y4.set y5.toNat m, IntKind.i64.wrap (y5 + (1 : Int)), ())) none) none)
      (br (decide ((↑y3.length : Int) ≤ (↑y4.length : Int))) (some (((y4, (↑y3.length : Int).toNat), ()), (), ())) none)) :
    loopN step 4 (l, splice (List.replicate (l.length + 3) z) l 0 (List.replicate (l.length + 3) z).length, (l.length : Int), ()) = some (((lentS m l, l.length), ()), (), ()) := by
  rw [splice_lent]
  refine loopN_for 3 (fun i => (l, l ++ (List.replicate i m ++ List.replicate (3 - i) z), ((l.length + i : Nat) : Int), ())) (fun i hi rec => ?_) (fun rec => ?_) 4 (by omega)
  · have e : ((l.length + i : Nat) : Int).toNat = l.length + i := by omega
    rw [hstep, br_dt (by simp; omega), br_dt (by omega), br_dt (by simp; omega), wrapI (by omega) (by omega), e]
    congr 1
    refine Prod.ext rfl (Prod.ext ?_ (Prod.ext (by simp; omega) rfl))
    show (l ++ (List.replicate i m ++ List.replicate (3 - i) z)).set (l.length + i) m = _
    rw [List.set_append_right _ _ (by omega), show l.length + i - l.length = i by omega, List.set_append_right _ _ (by simp), List.length_replicate, Nat.sub_self]
    match i, hi with
    | 0, _ => rfl
    | 1, _ => rfl
    | 2, _ => rfl
  · rw [hstep, br_df (by simp), br_dt (by simp; omega)]
    simp [lentS]
theorem getD_app_lt {α : Type} (l r : List α) (i : Nat) (z : α) (h : i < l.length) : (l ++ r).getD i z = l.getD i z := by
  simp [List.getD_eq_getElem?_getD, List.getElem?_append_left h]
theorem getD_app_ge {α : Type} (l r : List α) (i : Nat) (z : α) (h : l.length ≤ i) : (l ++ r).getD i z = r.getD (i - l.length) z := by
  simp [List.getD_eq_getElem?_getD, List.getElem?_append_right h]
theorem stays_loop {α : Type} (z m : α) (e : α → α → Bool) (he : ∀ a, e a a = true) (l : List α) (hl : l.length < 1000000)
    {step : (List α × (List α × Nat) × Int × Unit → Option ((Bool × Unit) × List α × Unit × Unit)) → List α × (List α × Nat) × Int × Unit → Option ((Bool × Unit) × List α × Unit × Unit)}
    (hstep : ∀ rec (y3 : List α) (y4 : List α × Nat) (y5 : Int), step rec (y3, y4, y5, ()) =
      br (decide (y5 < (↑y4.2 : Int)))
        (br (decide (y5 < (↑y3.length : Int)))
          (br (decide ((0 : Int) ≤ y5))
            (br (decide (y5 < (↑y4.2 : Int)))
              (br (decide ((0 : Int) ≤ y5))
                (br (decide (y5 < (↑y3.length : Int)))
                  (br (!(e (y4.1.getD y5.toNat z) (y3.getD y5.toNat z)))
                    (some ((false, ()), y4.1, (), ()))
                    (br (decide (y5 ≥ (↑y3.length : Int)))
                      (br (decide ((0 : Int) ≤ y5))
                        (br (decide (y5 < (↑y4.2 : Int)))
                          (br (!(e (y4.1.getD y5.toNat z) m))
                            (some ((false, ()), y4.1, (), ()))
                            (rec (y3, (y4.1, y4.2), IntKind.i64.wrap (y5 + (1 : Int)), ())))
                          none)
                        none)
                      (rec (y3, (y4.1, y4.2), IntKind.i64.wrap (y5 + (1 : Int)), ()))))
                  none)
                none)
              none)
            none)
          (br (decide (y5 ≥ (↑y3.length : Int)))
            (br (decide ((0 : Int) ≤ y5))
              (br (decide (y5 < (↑y4.2 : Int)))
                (br (!(e (y4.1.getD y5.toNat z) m)) (some ((false, ()), y4.1, (), ()))
                  (rec (y3, (y4.1, y4.2), IntKind.i64.wrap (y5 + (1 : Int)), ())))
                none)
              none)
            (rec (y3, (y4.1, y4.2), IntKind.i64.wrap (y5 + (1 : Int)), ()))))
        (some ((true, ()), y4.1, (), ()))) :
    ∀ K, l.length + 3 < K → loopN step K (l, (lentS m l, l.length + 3), 0, ()) = some ((true, ()), lentS m l, (), ()) := by
  refine loopN_for (l.length + 3) (fun i => (l, (lentS m l, l.length + 3), (i : Int), ())) (fun i hi rec => ?_) (fun rec => ?_)
  · have ei : ((i : Nat) : Int).toNat = i := by omega
    rw [hstep, br_dt (by simp; omega), wrapI (by omega) (by omega), ei]
    by_cases h : i < l.length
    · have eg : (lentS m l).getD i z = l.getD i z := getD_app_lt _ _ _ _ h
      rw [br_dt (by omega), br_dt (by omega), br_dt (by simp; omega), br_dt (by omega), br_dt (by omega), br_f (by simp only [eg, he]; rfl), br_df (by omega)]
      simp
    · have eg : (lentS m l).getD i z = m := by
        unfold lentS
        rw [getD_app_ge _ _ _ _ (by omega)]
        match h2 : i - l.length, (show i - l.length < 3 by omega) with
        | 0, _ => rfl
        | 1, _ => rfl
        | 2, _ => rfl
      rw [br_df (by omega), br_dt (by omega), br_dt (by omega), br_dt (by simp; omega), br_f (by simp only [eg, he]; rfl)]
      simp
  · rw [hstep, br_df (by simp)]
theorem same_loop {α : Type} [DecidableEq α] (z : α) (e : α → α → Bool) (he : ∀ a b, e a b = decide (a = b)) (a b : List α) (hab : a.length = b.length)
    {step : (List α × List α × Int × Unit → Option ((Bool × Unit) × Unit × Unit × Unit)) → List α × List α × Int × Unit → Option ((Bool × Unit) × Unit × Unit × Unit)}
    (hstep : ∀ rec (y3 y4 : List α) (y5 : Int), step rec (y3, y4, y5, ()) =
      br (decide (y5 < (↑y3.length : Int)))
        (br (decide ((0 : Int) ≤ y5))
          (br (decide (y5 < (↑y3.length : Int)))
            (br (decide ((0 : Int) ≤ y5))
              (br (decide (y5 < (↑y4.length : Int)))
                (br (!(e (y3.getD y5.toNat z) (y4.getD y5.toNat z)))
                  (some ((false, ()), (), (), ())) (rec (y3, y4, IntKind.i64.wrap (y5 + (1 : Int)), ())))
                none)
              none)
            none)
          none)
        (some ((true, ()), (), (), ()))) (hl : a.length < 4611686018427387904) :
    ∀ K, a.length < K → loopN step K (a, b, 0, ()) = some ((sameS a b, ()), (), (), ()) := by
  intro K hK
  refine loopN_meas (fun x => a.length - x.2.2.1.toNat) (fun x => ∃ i : Nat, i ≤ a.length ∧ x = (a, b, (i : Int), ()) ∧ a.take i = b.take i) (fun _ => some ((sameS a b, ()), (), (), ())) ?_ K (a, b, 0, ()) ⟨0, by omega, rfl, by simp⟩ (by simpa using hK)
  rintro x ⟨i, hi, rfl, ht⟩ rec hrec
  rw [hstep]
  have ei : ((i : Nat) : Int).toNat = i := by omega
  by_cases h : i < a.length
  · rw [br_dt (by omega), br_dt (by omega), br_dt (by omega), br_dt (by omega), br_dt (by omega), wrapI (by omega) (by omega), ei, he]
    by_cases hx : a.getD i z = b.getD i z
    · rw [br_f (by rw [decide_eq_true hx]; rfl)]
      refine hrec _ ⟨i + 1, by omega, by simp, ?_⟩ (by simp only; omega)
      rw [List.take_add_one, List.take_add_one, ht]
      congr 1
      rw [List.getD_eq_getElem?_getD, List.getD_eq_getElem?_getD, List.getElem?_eq_getElem h, List.getElem?_eq_getElem (by omega : i < b.length)] at hx
      rw [List.getElem?_eq_getElem h, List.getElem?_eq_getElem (by omega : i < b.length)]
      simpa using hx
    · rw [br_t (by simp only [decide_eq_false hx]; rfl)]
      have : sameS a b = false := by
        unfold sameS
        apply decide_eq_false
        rintro rfl
        exact hx rfl
      rw [this]
  · rw [br_df (by omega)]
    have : sameS a b = true := by
      unfold sameS
      apply decide_eq_true
      rwa [List.take_of_length_le (by omega), List.take_of_length_le (by omega)] at ht
    rw [this]
theorem mayB_of {α : Type} {e : Bool} {x y : Option α} (h : e = true → x = y) : mayB e x y = y := by
  unfold mayB
  cases e with
  | false => rfl
  | true =>
    unfold agree
    simp only [h rfl, if_true]
end Go.BB
