/- A symbolic machine for the model's code, and what it shows of this seat's functions. No conditions. -/
import Derived.Test.YtnofmeckcimodaaDN
import Derived.Test.YtnofmeckcimodaaDGfdv
import Derived.Test.YtnofmeckcimodaaDTyF
import Derived.Test.YtnofmeckcimodaaDVbuff
set_option linter.unusedSimpArgs false
set_option linter.unusedVariables false
namespace Go.BB
open Go Go.Proofs
set_option maxRecDepth 100000
set_option exponentiation.threshold 100000
noncomputable section
abbrev g_r5plain : List (Nat × Ctr O0) := []
def r5plain_tm : List Tm := []
theorem r5plain_1 (K : Nat) (at1 n v an o : Int) (bs : List Bool) (ws : List Int) (ra rn c ob : Int) : runF (cfgW g_r5plain) K f_r5plain r5plain_tm [.val tAsk] [.val .bool] (((1 : Int), at1, n, v, an, o, bs, ws, ra, rn, c, ob), ()) = br (v != (0 : Int)) (some ((false, ()), (), ())) (br (an != (0 : Int)) (some ((false, ()), (), ())) (br (o != (0 : Int)) (some ((false, ()), (), ())) (br (decide ((↑bs.length : Int) > (0 : Int))) (some ((false, ()), (), ())) (br (decide ((↑ws.length : Int) > (0 : Int))) (some ((false, ()), (), ())) (br (ra != (0 : Int)) (some ((false, ()), (), ())) (br (rn != (0 : Int)) (some ((false, ()), (), ())) (br (c != (0 : Int)) (some ((false, ()), (), ())) (br (ob != (0 : Int)) (some ((false, ()), (), ())) (some ((true, ()), (), ())))))))))) := by kernel_rfl
theorem r5plain_2 (K : Nat) (at1 n v an o : Int) (bs : List Bool) (ws : List Int) (ra rn c ob : Int) : runF (cfgW g_r5plain) K f_r5plain r5plain_tm [.val tAsk] [.val .bool] (((2 : Int), at1, n, v, an, o, bs, ws, ra, rn, c, ob), ()) = br (v != (0 : Int)) (some ((false, ()), (), ())) (br (an != (0 : Int)) (some ((false, ()), (), ())) (br (o != (0 : Int)) (some ((false, ()), (), ())) (br (decide ((↑bs.length : Int) > (0 : Int))) (some ((false, ()), (), ())) (br (decide ((↑ws.length : Int) > (0 : Int))) (some ((false, ()), (), ())) (br (ra != (0 : Int)) (some ((false, ()), (), ())) (br (rn != (0 : Int)) (some ((false, ()), (), ())) (br (c != (0 : Int)) (some ((false, ()), (), ())) (br (ob != (0 : Int)) (some ((false, ()), (), ())) (some ((true, ()), (), ())))))))))) := by kernel_rfl
theorem r5plain_3 (K : Nat) (at1 n v an o : Int) (bs : List Bool) (ws : List Int) (ra rn c ob : Int) : runF (cfgW g_r5plain) K f_r5plain r5plain_tm [.val tAsk] [.val .bool] (((3 : Int), at1, n, v, an, o, bs, ws, ra, rn, c, ob), ()) = br (v != (0 : Int)) (some ((false, ()), (), ())) (br (an != (0 : Int)) (some ((false, ()), (), ())) (br (o != (0 : Int)) (some ((false, ()), (), ())) (br (decide ((↑bs.length : Int) > (0 : Int))) (some ((false, ()), (), ())) (br (decide ((↑ws.length : Int) > (0 : Int))) (some ((false, ()), (), ())) (br (ra != (0 : Int)) (some ((false, ()), (), ())) (br (rn != (0 : Int)) (some ((false, ()), (), ())) (br (c != (0 : Int)) (some ((false, ()), (), ())) (br (ob != (0 : Int)) (some ((false, ()), (), ())) (some ((true, ()), (), ())))))))))) := by kernel_rfl
theorem r5plain_4 (K : Nat) (at1 n v an o : Int) (bs : List Bool) (ws : List Int) (ra rn c ob : Int) : runF (cfgW g_r5plain) K f_r5plain r5plain_tm [.val tAsk] [.val .bool] (((4 : Int), at1, n, v, an, o, bs, ws, ra, rn, c, ob), ()) = br (v != (0 : Int)) (some ((false, ()), (), ())) (br (an != (0 : Int)) (some ((false, ()), (), ())) (br (o != (0 : Int)) (some ((false, ()), (), ())) (br (decide ((↑bs.length : Int) > (0 : Int))) (some ((false, ()), (), ())) (br (decide ((↑ws.length : Int) > (0 : Int))) (some ((false, ()), (), ())) (br (ra != (0 : Int)) (some ((false, ()), (), ())) (br (rn != (0 : Int)) (some ((false, ()), (), ())) (br (c != (0 : Int)) (some ((false, ()), (), ())) (br (ob != (0 : Int)) (some ((false, ()), (), ())) (some ((true, ()), (), ())))))))))) := by kernel_rfl
theorem r5plain_5 (K : Nat) (at1 n v an o : Int) (bs : List Bool) (ws : List Int) (ra rn c ob : Int) : runF (cfgW g_r5plain) K f_r5plain r5plain_tm [.val tAsk] [.val .bool] (((5 : Int), at1, n, v, an, o, bs, ws, ra, rn, c, ob), ()) = br (n != (0 : Int)) (some ((false, ()), (), ())) (br (an != (0 : Int)) (some ((false, ()), (), ())) (br (o != (0 : Int)) (some ((false, ()), (), ())) (br (decide ((↑bs.length : Int) > (0 : Int))) (some ((false, ()), (), ())) (br (decide ((↑ws.length : Int) > (0 : Int))) (some ((false, ()), (), ())) (br (ra != (0 : Int)) (some ((false, ()), (), ())) (br (rn != (0 : Int)) (some ((false, ()), (), ())) (br (c != (0 : Int)) (some ((false, ()), (), ())) (br (ob != (0 : Int)) (some ((false, ()), (), ())) (some ((true, ()), (), ())))))))))) := by kernel_rfl
theorem r5plain_6 (K : Nat) (at1 n v an o : Int) (bs : List Bool) (ws : List Int) (ra rn c ob : Int) : runF (cfgW g_r5plain) K f_r5plain r5plain_tm [.val tAsk] [.val .bool] (((6 : Int), at1, n, v, an, o, bs, ws, ra, rn, c, ob), ()) = br (n != (0 : Int)) (some ((false, ()), (), ())) (br (an != (0 : Int)) (some ((false, ()), (), ())) (br (o != (0 : Int)) (some ((false, ()), (), ())) (br (decide ((↑bs.length : Int) > (0 : Int))) (some ((false, ()), (), ())) (br (decide ((↑ws.length : Int) > (0 : Int))) (some ((false, ()), (), ())) (br (ra != (0 : Int)) (some ((false, ()), (), ())) (br (rn != (0 : Int)) (some ((false, ()), (), ())) (br (c != (0 : Int)) (some ((false, ()), (), ())) (br (ob != (0 : Int)) (some ((false, ()), (), ())) (some ((true, ()), (), ())))))))))) := by kernel_rfl
theorem r5plain_15 (K : Nat) (at1 n v an o : Int) (bs : List Bool) (ws : List Int) (ra rn c ob : Int) : runF (cfgW g_r5plain) K f_r5plain r5plain_tm [.val tAsk] [.val .bool] (((15 : Int), at1, n, v, an, o, bs, ws, ra, rn, c, ob), ()) = br (v != (0 : Int)) (some ((false, ()), (), ())) (br (an != (0 : Int)) (some ((false, ()), (), ())) (br (o != (0 : Int)) (some ((false, ()), (), ())) (br (decide ((↑ws.length : Int) > (0 : Int))) (some ((false, ()), (), ())) (br (ra != (0 : Int)) (some ((false, ()), (), ())) (br (rn != (0 : Int)) (some ((false, ()), (), ())) (br (c != (0 : Int)) (some ((false, ()), (), ())) (br (ob != (0 : Int)) (some ((false, ()), (), ())) (some ((true, ()), (), ()))))))))) := by kernel_rfl
theorem r5plain_16 (K : Nat) (at1 n v an o : Int) (bs : List Bool) (ws : List Int) (ra rn c ob : Int) : runF (cfgW g_r5plain) K f_r5plain r5plain_tm [.val tAsk] [.val .bool] (((16 : Int), at1, n, v, an, o, bs, ws, ra, rn, c, ob), ()) = br (v != (0 : Int)) (some ((false, ()), (), ())) (br (an != (0 : Int)) (some ((false, ()), (), ())) (br (o != (0 : Int)) (some ((false, ()), (), ())) (br (decide ((↑bs.length : Int) > (0 : Int))) (some ((false, ()), (), ())) (br (ra != (0 : Int)) (some ((false, ()), (), ())) (br (rn != (0 : Int)) (some ((false, ()), (), ())) (br (c != (0 : Int)) (some ((false, ()), (), ())) (br (ob != (0 : Int)) (some ((false, ()), (), ())) (some ((true, ()), (), ()))))))))) := by kernel_rfl
theorem r5plain_22 (K : Nat) (at1 n v an o : Int) (bs : List Bool) (ws : List Int) (ra rn c ob : Int) : runF (cfgW g_r5plain) K f_r5plain r5plain_tm [.val tAsk] [.val .bool] (((22 : Int), at1, n, v, an, o, bs, ws, ra, rn, c, ob), ()) = br (n != (0 : Int)) (some ((false, ()), (), ())) (br (v != (0 : Int)) (some ((false, ()), (), ())) (br (decide ((↑bs.length : Int) > (0 : Int))) (some ((false, ()), (), ())) (br (decide ((↑ws.length : Int) > (0 : Int))) (some ((false, ()), (), ())) (br (ra != (0 : Int)) (some ((false, ()), (), ())) (br (rn != (0 : Int)) (some ((false, ()), (), ())) (br (c != (0 : Int)) (some ((false, ()), (), ())) (br (ob != (0 : Int)) (some ((false, ()), (), ())) (some ((true, ()), (), ()))))))))) := by kernel_rfl
theorem r5plain_23 (K : Nat) (at1 n v an o : Int) (bs : List Bool) (ws : List Int) (ra rn c ob : Int) : runF (cfgW g_r5plain) K f_r5plain r5plain_tm [.val tAsk] [.val .bool] (((23 : Int), at1, n, v, an, o, bs, ws, ra, rn, c, ob), ()) = br (v != (0 : Int)) (some ((false, ()), (), ())) (br (an != (0 : Int)) (some ((false, ()), (), ())) (br (o != (0 : Int)) (some ((false, ()), (), ())) (br (decide ((↑bs.length : Int) > (0 : Int))) (some ((false, ()), (), ())) (br (c != (0 : Int)) (some ((false, ()), (), ())) (br (ob != (0 : Int)) (some ((false, ()), (), ())) (some ((true, ()), (), ()))))))) := by kernel_rfl
theorem r5plain_43 (K : Nat) (at1 n v an o : Int) (bs : List Bool) (ws : List Int) (ra rn c ob : Int) : runF (cfgW g_r5plain) K f_r5plain r5plain_tm [.val tAsk] [.val .bool] (((43 : Int), at1, n, v, an, o, bs, ws, ra, rn, c, ob), ()) = br (at1 != (0 : Int)) (some ((false, ()), (), ())) (br (n != (0 : Int)) (some ((false, ()), (), ())) (br (v != (0 : Int)) (some ((false, ()), (), ())) (br (an != (0 : Int)) (some ((false, ()), (), ())) (br (o != (0 : Int)) (some ((false, ()), (), ())) (br (decide ((↑bs.length : Int) > (0 : Int))) (some ((false, ()), (), ())) (br (decide ((↑ws.length : Int) > (0 : Int))) (some ((false, ()), (), ())) (br (ra != (0 : Int)) (some ((false, ()), (), ())) (br (rn != (0 : Int)) (some ((false, ()), (), ())) (some ((true, ()), (), ())))))))))) := by kernel_rfl
end
end Go.BB
set_option linter.unusedVariables false
namespace Go.BB
open Go Go.Proofs
set_option maxRecDepth 100000
set_option exponentiation.threshold 100000
noncomputable section
abbrev g_r5Right : List (Nat × Ctr O0) := [(n_r1Known, c_r1Known), (n_r5plain, c_r5plain), (n_r5place, c_r5place), (n_r1Most, c_r1Most), (n_r5byte, c_r5byte)]
def r5Right_tm : List Tm := []
def r5Right_P (K : Nat) (a0 : AskT) : Option ((Bool × Unit) × Unit × Unit) := br (!knownS a0.1) (some ((false, ()), (), ())) (bd (grd (knownS a0.1) ((plainA (a0.1, a0.2.1, a0.2.2.1, a0.2.2.2.1, a0.2.2.2.2.1, a0.2.2.2.2.2.1, a0.2.2.2.2.2.2.1, a0.2.2.2.2.2.2.2.1, a0.2.2.2.2.2.2.2.2.1, a0.2.2.2.2.2.2.2.2.2.1, a0.2.2.2.2.2.2.2.2.2.2.1, a0.2.2.2.2.2.2.2.2.2.2.2), ()), (), ())) fun (x1 : (Bool × Unit) × Unit × Unit) => br (!x1.1.1) (some ((false, ()), (), ())) (br (!placeN a0.2.1) (some ((false, ()), (), ())) (br (!placeN a0.2.2.2.2.2.2.2.2.1) (some ((false, ()), (), ())) (br (a0.1 == (1 : Int)) (br (decide (a0.2.2.1 ≥ (1 : Int))) (some ((decide (a0.2.2.1 ≤ (mostS a0.1).1), ()), (), ())) (some ((false, ()), (), ()))) (br (a0.1 == (2 : Int)) (br (decide (a0.2.2.1 ≥ (1 : Int))) (some ((decide (a0.2.2.1 ≤ (mostS a0.1).1), ()), (), ())) (some ((false, ()), (), ()))) (br (a0.1 == (3 : Int)) (br (decide (a0.2.2.1 ≥ (1 : Int))) (some ((decide (a0.2.2.1 ≤ (mostS a0.1).1), ()), (), ())) (some ((false, ()), (), ()))) (br (a0.1 == (4 : Int)) (br (decide (a0.2.2.1 ≥ (1 : Int))) (some ((decide (a0.2.2.1 ≤ (mostS a0.1).1), ()), (), ())) (some ((false, ()), (), ()))) (br (a0.1 == (5 : Int)) (some ((decide (a0.2.2.2.1 ≤ (1 : Int)), ()), (), ())) (br (a0.1 == (15 : Int)) (br (decide (a0.2.2.1 ≥ (1 : Int))) (br (decide (a0.2.2.1 ≤ (mostS a0.1).2)) (some (((↑a0.2.2.2.2.2.2.1.length : Int) == a0.2.2.1, ()), (), ())) (some ((false, ()), (), ()))) (some ((false, ()), (), ()))) (br (a0.1 == (16 : Int)) (br (decide (a0.2.2.1 ≥ (1 : Int))) (br (decide (a0.2.2.1 ≤ (mostS a0.1).2)) (some (((↑a0.2.2.2.2.2.2.2.1.length : Int) == a0.2.2.1, ()), (), ())) (some ((false, ()), (), ()))) (some ((false, ()), (), ()))) (br (a0.1 == (23 : Int)) (br (decide (a0.2.2.1 ≥ (1 : Int))) (br (decide (a0.2.2.1 ≤ (mostS a0.1).2)) (br ((↑a0.2.2.2.2.2.2.2.1.length : Int) == a0.2.2.1) (br (decide (a0.2.2.2.2.2.2.2.2.2.1 ≥ (1 : Int))) (some ((decide (a0.2.2.2.2.2.2.2.2.2.1 ≤ (mostS a0.1).1), ()), (), ())) (some ((false, ()), (), ()))) (some ((false, ()), (), ()))) (some ((false, ()), (), ()))) (some ((false, ()), (), ()))) (br (a0.1 == (43 : Int)) (br (decide (a0.2.2.2.2.2.2.2.2.2.2.1 ≥ (1 : Int))) (br (decide (a0.2.2.2.2.2.2.2.2.2.2.1 ≤ (4 : Int))) (some ((byteN a0.2.2.2.2.2.2.2.2.2.2.2, ()), (), ())) (some ((false, ()), (), ()))) (some ((false, ()), (), ()))) (some ((true, ()), (), ()))))))))))))))
theorem r5Right_rn (K : Nat) (a0 : AskT) : runF (cfgW g_r5Right) K f_r5Right r5Right_tm [.val tAsk] [.val .bool] (a0, ()) = r5Right_P K a0 := by kernel_rfl
end
end Go.BB
set_option linter.unusedVariables false
namespace Go.BB
open Go Go.Proofs
set_option maxRecDepth 100000
set_option exponentiation.threshold 100000
noncomputable section
abbrev g_r5Spans : List (Nat × Ctr O0) := [(n_r5Right, c_r5Right), (n_r1Table, c_r1Table)]
def r5Spans_tm : List Tm := []
def r5Spans_P (K : Nat) (a0 : AskT) : Option ((List (Int × Int × Int) × List (Int × Int × Int) × Unit) × Unit × Unit) := br (!askOk (a0.1, a0.2.1, a0.2.2.1, a0.2.2.2.1, a0.2.2.2.2.1, a0.2.2.2.2.2.1, a0.2.2.2.2.2.2.1, a0.2.2.2.2.2.2.2.1, a0.2.2.2.2.2.2.2.2.1, a0.2.2.2.2.2.2.2.2.2.1, a0.2.2.2.2.2.2.2.2.2.2.1, a0.2.2.2.2.2.2.2.2.2.2.2)) (some (([], [], ()), (), ())) (br (a0.1 == (1 : Int)) (some (([((tabS a0.1).1, a0.2.1, IntKind.i64.wrap (a0.2.1 + a0.2.2.1))], [], ()), (), ())) (br (a0.1 == (2 : Int)) (some (([((tabS a0.1).1, a0.2.1, IntKind.i64.wrap (a0.2.1 + a0.2.2.1))], [], ()), (), ())) (br (a0.1 == (3 : Int)) (some (([((tabS a0.1).1, a0.2.1, IntKind.i64.wrap (a0.2.1 + a0.2.2.1))], [], ()), (), ())) (br (a0.1 == (4 : Int)) (some (([((tabS a0.1).1, a0.2.1, IntKind.i64.wrap (a0.2.1 + a0.2.2.1))], [], ()), (), ())) (br (a0.1 == (5 : Int)) (some (([], [((tabS a0.1).1, a0.2.1, IntKind.i64.wrap (a0.2.1 + (1 : Int)))], ()), (), ())) (br (a0.1 == (6 : Int)) (some (([], [((tabS a0.1).1, a0.2.1, IntKind.i64.wrap (a0.2.1 + (1 : Int)))], ()), (), ())) (br (a0.1 == (22 : Int)) (some (([], [((tabS a0.1).1, a0.2.1, IntKind.i64.wrap (a0.2.1 + (1 : Int)))], ()), (), ())) (br (a0.1 == (15 : Int)) (some (([], [((tabS a0.1).1, a0.2.1, IntKind.i64.wrap (a0.2.1 + a0.2.2.1))], ()), (), ())) (br (a0.1 == (16 : Int)) (some (([], [((tabS a0.1).1, a0.2.1, IntKind.i64.wrap (a0.2.1 + a0.2.2.1))], ()), (), ())) (br (a0.1 == (23 : Int)) (some (([((tabS a0.1).1, a0.2.2.2.2.2.2.2.2.1, IntKind.i64.wrap (a0.2.2.2.2.2.2.2.2.1 + a0.2.2.2.2.2.2.2.2.2.1))], [((tabS a0.1).1, a0.2.1, IntKind.i64.wrap (a0.2.1 + a0.2.2.1))], ()), (), ())) (some (([], [], ()), (), ()))))))))))))
theorem r5Spans_rn (K : Nat) (a0 : AskT) : runF (cfgW g_r5Spans) K f_r5Spans r5Spans_tm [.val tAsk] [.val (.slice tSpan), .val (.slice tSpan)] (a0, ()) = r5Spans_P K a0 := by kernel_rfl
end
end Go.BB
set_option linter.unusedVariables false
namespace Go.BB
open Go Go.Proofs
set_option maxRecDepth 100000
set_option exponentiation.threshold 100000
noncomputable section
abbrev g_r5Echo : List (Nat × Ctr O0) := [(n_r5Right, c_r5Right)]
def r5Echo_tm : List Tm := []
def r5Echo_P (K : Nat) (a0 : AskT) : Option ((TellT × Unit) × Unit × Unit) := br (!askOk (a0.1, a0.2.1, a0.2.2.1, a0.2.2.2.1, a0.2.2.2.2.1, a0.2.2.2.2.2.1, a0.2.2.2.2.2.2.1, a0.2.2.2.2.2.2.2.1, a0.2.2.2.2.2.2.2.2.1, a0.2.2.2.2.2.2.2.2.2.1, a0.2.2.2.2.2.2.2.2.2.2.1, a0.2.2.2.2.2.2.2.2.2.2.2)) (some ((((0 : Int), (0 : Int), [], [], (0 : Int), (0 : Int), (0 : Int), (0 : Int), (0 : Int), (0 : Int), (0 : Int), false, (0 : Int), []), ()), (), ())) (br (a0.1 == (5 : Int)) (some (((a0.1, (0 : Int), [], [], a0.2.1, (0 : Int), a0.2.2.2.1, (0 : Int), (0 : Int), (0 : Int), (0 : Int), false, (0 : Int), []), ()), (), ())) (br (a0.1 == (6 : Int)) (some (((a0.1, (0 : Int), [], [], a0.2.1, (0 : Int), a0.2.2.2.1, (0 : Int), (0 : Int), (0 : Int), (0 : Int), false, (0 : Int), []), ()), (), ())) (br (a0.1 == (22 : Int)) (some ((((22 : Int), (0 : Int), [], [], a0.2.1, (0 : Int), (0 : Int), a0.2.2.2.2.1, a0.2.2.2.2.2.1, (0 : Int), (0 : Int), false, (0 : Int), []), ()), (), ())) (br (a0.1 == (15 : Int)) (some (((a0.1, (0 : Int), [], [], a0.2.1, a0.2.2.1, (0 : Int), (0 : Int), (0 : Int), (0 : Int), (0 : Int), false, (0 : Int), []), ()), (), ())) (br (a0.1 == (16 : Int)) (some (((a0.1, (0 : Int), [], [], a0.2.1, a0.2.2.1, (0 : Int), (0 : Int), (0 : Int), (0 : Int), (0 : Int), false, (0 : Int), []), ()), (), ())) (some ((((0 : Int), (0 : Int), [], [], (0 : Int), (0 : Int), (0 : Int), (0 : Int), (0 : Int), (0 : Int), (0 : Int), false, (0 : Int), []), ()), (), ())))))))
theorem r5Echo_rn (K : Nat) (a0 : AskT) : runF (cfgW g_r5Echo) K f_r5Echo r5Echo_tm [.val tAsk] [.val tTell] (a0, ()) = r5Echo_P K a0 := by kernel_rfl
end
end Go.BB
set_option linter.unusedSimpArgs false
set_option linter.unusedVariables false
namespace Go.BB
open Go Go.ChangeShapes Go.WideShapes Go.RowKit Go.Deep
-- is the type of the program this one?
mutual
def tyOKF (P : Program) : Nat → List Field → Nat → Ty → Bool
  | 0, _, _, _ => false
  | d + 1, fs, off, ty => match fs with
    | [] => false
    | [f] => match Nat.beq f.offset off with | true => tyOK P d f.type ty | false => false
    | f :: fs => match ty with
      | .pair a b => match Nat.beq f.offset off with
        | true => (match tyOK P d f.type a with | true => tyOKF P d fs (Nat.add off a.sz) b | false => false)
        | false => false
      | _ => false
def tyOK (P : Program) : Nat → Nat → Ty → Bool
  | 0, _, _ => false
  | d + 1, t, ty => match Nat.beq (P.cellsOf t) ty.sz with
    | false => false
    | true => match P.underlying t with
      | some d' => match ty with
        | .int k => match d' with | .int k' => (match decEq k k' with | .isTrue _ => true | .isFalse _ => false) | _ => false
        | .bool => match d' with | .bool => true | _ => false
        | .slice e => match d' with
          | .slice te => match Nat.blt 0 e.sz with | true => tyOK P d te e | false => false
          | _ => false
        | .pair a b => match d' with
          | .struct fs => tyOKF P d fs.toList 0 (.pair a b)
          | _ => false
        | _ => false
      | none => false
end
/-- numbers are in their kinds' ranges -/
def InR2 : (t : Ty) → t.den → Prop
  | .int k, n => (Lit.int k n).wf = true
  | .slice t, xs => ∀ x, x ∈ (show List t.den from xs) → InR2 t x
  | .pair a b, x => InR2 a x.1 ∧ InR2 b x.2
  | _, _ => True
section
variable {O : ObjK} {P : Program} {H : Type} {enc : TypeId × Value → H} {W : World}
theorem tyOK_cells {d t : Nat} {ty : Ty} (h : tyOK P d t ty = true) : P.cellsOf t = ty.sz := by
  cases d with
  | zero => simp [tyOK] at h
  | succ d =>
    unfold tyOK at h
    split at h
    · cases h
    · rename_i hc; exact Nat.eq_of_beq_eq_true hc
mutual
theorem open_tyF : ∀ (d : Nat) (fs : List Field) (off : Nat) (ty : Ty), tyOKF P d fs off ty = true → ∀ (cs : List Value),
    (∀ f ∈ fs, ∃ n y, DataW.trod enc P W 0 (fun _ => true) true n f.type ((cs.drop f.offset).take (P.cellsOf f.type)) = some y) →
    ∃ x : ty.den, Rep W (fun b => b < W.heap.size) ty x ((cs.drop off).take ty.sz) ∧ InR2 ty x
  | 0, fs, off, ty, h => by simp [tyOKF] at h
  | d + 1, [], off, ty, h => by simp [tyOKF] at h
  | d + 1, [f], off, ty, h => by
    intro cs hall
    unfold tyOKF at h
    simp only at h
    split at h
    · rename_i ho
      have ho := Nat.eq_of_beq_eq_true ho
      obtain ⟨n, y, hy⟩ := hall f List.mem_cons_self
      rw [ho, tyOK_cells h] at hy
      exact open_ty2 d f.type ty h _ _ _ _ hy
    · cases h
  | d + 1, f :: g :: fs, off, ty, h => by
    intro cs hall
    unfold tyOKF at h
    simp only at h
    cases ty with
    | pair a b =>
      simp only at h
      split at h
      · rename_i ho
        split at h
        · rename_i h1
          have ho := Nat.eq_of_beq_eq_true ho
          obtain ⟨n, y, hy⟩ := hall f List.mem_cons_self
          rw [ho, tyOK_cells h1] at hy
          obtain ⟨x1, r1, i1⟩ := open_ty2 d f.type a h1 _ _ _ _ hy
          obtain ⟨x2, r2, i2⟩ := open_tyF d (g :: fs) (off + a.sz) b h cs fun f hf => hall f (List.mem_cons_of_mem _ hf)
          refine ⟨(x1, x2), ⟨_, _, ?_, r1, r2⟩, i1, i2⟩
          show (cs.drop off).take (a.sz + b.sz) = _
          rw [List.take_add, List.drop_drop]
        · cases h
      · cases h
    | _ => cases h
theorem open_ty2 : ∀ (d t : Nat) (ty : Ty), tyOK P d t ty = true → ∀ (fuel : Nat) (cs : List Value) (dd : DataW H) (ps : List MemPlace), DataW.trod enc P W 0 (fun _ => true) true fuel t cs = some (dd, ps) →
    ∃ x : ty.den, Rep W (fun b => b < W.heap.size) ty x cs ∧ InR2 ty x
  | 0, t, ty, h => by simp [tyOK] at h
  | d + 1, t, ty, h => by
    intro fuel cs dd ps hd
    have hcell := tyOK_cells h
    unfold tyOK at h
    split at h
    · cases h
    · cases hu : P.underlying t with
      | none => rw [hu] at h; cases h
      | some d' =>
        rw [hu] at h
        simp only at h
        cases ty with
        | int k =>
          cases d' <;> simp only at h <;> (try exact absurd h Bool.false_ne_true)
          rename_i k'
          split at h
          · rename_i e _
            subst e
            obtain ⟨n, h1, h2, h3⟩ := DataW.trod_int hu hd
            exact ⟨n, h1, h3⟩
          · cases h
        | bool =>
          cases d' <;> simp only at h <;> (try exact absurd h Bool.false_ne_true)
          obtain ⟨b, h1, h2⟩ := DataW.trod_bool hu hd
          exact ⟨b, h1, trivial⟩
        | str => cases h
        | unit => cases h
        | slice e =>
          cases d' <;> simp only at h <;> (try exact absurd h Bool.false_ne_true)
          rename_i te
          split at h
          · rename_i hz
            rcases open_slice hu hd with ⟨rfl, _⟩ | ⟨a, len, cap, m, n, D, Q, rfl, _, hlc, _, hm, _, hall⟩
            · exact ⟨[], ⟨none, 0, rfl, Nat.le_refl _, fun h => by cases h⟩, fun x hx => by cases hx⟩
            · simp only [if_true] at hm
              subst hm
              have hce := tyOK_cells h
              have : ∀ i, i < m → ∃ x : e.den, (∃ cs', Rep W (fun b => b < W.heap.size) e x cs' ∧ ∀ q v, cs'[q]? = some v → W.cell? (a.add (i * e.sz + q)) = some v) ∧ InR2 e x := fun i hi => by
                obtain ⟨cs', c1, c2⟩ := hall i hi
                obtain ⟨x, r1, r2⟩ := open_ty2 d te e h _ _ _ _ c2
                obtain ⟨_, c3, c4⟩ := World.cells?_some c1
                refine ⟨x, ⟨cs', r1, fun q v hq => ?_⟩, r2⟩
                have hq' := (List.getElem?_eq_some_iff.1 hq).1
                rw [c3] at hq'
                have := c4 q hq'
                rw [add_add, hce] at this
                rw [this, hq]
              let X : Nat → e.den := fun i => if h : i < m then Classical.choose (this i h) else e.zero
              have hX : ∀ i, i < m → (∃ cs', Rep W (fun b => b < W.heap.size) e (X i) cs' ∧ ∀ q v, cs'[q]? = some v → W.cell? (a.add (i * e.sz + q)) = some v) ∧ InR2 e (X i) := fun i hi => by
                simp only [X, dif_pos hi]
                exact Classical.choose_spec (this i hi)
              refine ⟨(List.range len).map X, ⟨some a, m, by simp, by simpa using hlc, fun hp => ⟨a, rfl, ?_, fun j x hx => ?_⟩⟩, ?_⟩
              · have hp' : 0 < len := by simpa using hp
                obtain ⟨⟨cs', r1, r2⟩, _⟩ := hX 0 (by omega)
                have hl := Rep_len _ _ _ r1
                have hz' : 0 < e.sz := by simpa using hz
                have h0 : cs'[0]? = some (cs'[0]'(by omega)) := List.getElem?_eq_getElem (by omega)
                have := block_of_cell (r2 0 _ h0)
                rw [add_block] at this
                exact this
              · rw [List.getElem?_map, Option.map_eq_some_iff] at hx
                obtain ⟨j', hj, rfl⟩ := hx
                have hj1 := (List.getElem?_eq_some_iff.1 hj).1
                rw [List.length_range] at hj1
                rw [List.getElem?_range hj1] at hj
                cases hj
                exact (hX j (by omega)).1
              · intro x hx
                obtain ⟨j, hj, rfl⟩ := List.mem_map.1 hx
                have := List.mem_range.1 hj
                exact (hX j (by omega)).2
          · cases h
        | pair a b =>
          cases d' <;> simp only at h <;> (try exact absurd h Bool.false_ne_true)
          rename_i fs
          obtain ⟨xs, n, _, _, hlen, hsz, hf⟩ := DataW.trod_struct hu hd
          obtain ⟨x, r1, r2⟩ := open_tyF d fs.toList 0 (.pair a b) h cs fun f hf' => by
            obtain ⟨i, hi⟩ := List.getElem?_of_mem hf'
            have hi' : fs[i]? = some f := by simpa using hi
            have := hf i f hi'
            have hlt : i < xs.length := by
              have := (Array.getElem?_eq_some_iff.1 hi').1
              omega
            rw [List.getElem?_eq_getElem hlt] at this
            exact ⟨n, _, this⟩
          refine ⟨x, ?_, r2⟩
          rw [List.drop_zero, List.take_of_length_le (by rw [hlen, hcell]; exact Nat.le_refl _)] at r1
          exact r1
end
theorem cells_ok2 {d t base : Nat} {ty : Ty} (h : tyOK P d t ty = true) {v : Value} (hv : Value.okWide P W .any base t v) :
    (ty.isAgg = true ∧ ∃ arr, v = .agg arr) ∨ (ty.isAgg = false ∧ v.cells.toList = [v]) := by
  cases d with
  | zero => simp [tyOK] at h
  | succ d =>
    unfold tyOK at h
    split at h
    · cases h
    · cases hu : P.underlying t with
      | none => rw [hu] at h; cases h
      | some d' =>
        rw [hu] at h
        simp only at h
        unfold Value.okWide at hv
        rw [hu] at hv
        have plain : ∀ (hc : Cell.okWide P W .any base t v), (∀ cs, v = .agg cs → ¬ Cell.okWide P W .any base t v) → v.cells.toList = [v] := by
          intro hc hn
          cases v with
          | agg cs => exact absurd hc (hn cs rfl)
          | _ => rfl
        cases ty with
        | int k =>
          cases d' <;> simp only at h <;> (try exact absurd h Bool.false_ne_true)
          exact .inr ⟨rfl, plain hv fun cs e => by subst e; simp [Cell.okWide, Cell.ok, hu]⟩
        | bool =>
          cases d' <;> simp only at h <;> (try exact absurd h Bool.false_ne_true)
          exact .inr ⟨rfl, plain hv fun cs e => by subst e; simp [Cell.okWide, Cell.ok, hu]⟩
        | slice e =>
          cases d' <;> simp only at h <;> (try exact absurd h Bool.false_ne_true)
          exact .inr ⟨rfl, plain hv fun cs e => by subst e; simp [Cell.okWide, Cell.ok, hu]⟩
        | pair a b =>
          cases d' <;> simp only at h <;> (try exact absurd h Bool.false_ne_true)
          obtain ⟨cs, e, _⟩ := hv
          exact .inl ⟨rfl, cs, e⟩
        | _ => cases h
def tysOK (P : Program) : List Nat → List Ty → Bool
  | [], [] => true
  | t :: ts, ty :: tys => match tyOK P 20 t ty with | true => tysOK P ts tys | false => false
  | _, _ => false
def InAll2 : (tys : List Ty) → dens (O := O) (valsOf tys) → Prop
  | [], _ => True
  | t :: ts, x => InR2 t x.1 ∧ InAll2 ts x.2
theorem open_all2 {base : Nat} : ∀ (ts : List Nat) (tys : List Ty) (vs : List Value) (ds : List (DataW H)) (ps : List MemPlace), tysOK P ts tys = true → (∀ (j : Nat) t v, ts[j]? = some t → vs[j]? = some v → Value.okWide P W .any base t v) →
    DataW.TrodAll enc P W 0 (fun _ => true) true ts vs ds ps → ∃ x : dens (O := O) (valsOf tys), Entry W (fun b => b < W.heap.size) (valsOf tys) x vs [] ∧ InAll2 tys x
  | [], [], vs, ds, ps, _, _, h => by
    obtain ⟨rfl, _, _⟩ := trodAll_nil h
    exact ⟨(), ⟨rfl, rfl⟩, trivial⟩
  | [], _ :: _, _, _, _, h, _, _ => by cases h
  | _ :: _, [], _, _, _, h, _, _ => by cases h
  | t :: ts, ty :: tys, vs, ds, ps, ht, hv, h => by
    obtain ⟨v, vs', d, ds', p, q, rfl, rfl, rfl, h1, h2⟩ := trodAll_cons h
    obtain ⟨fuel, h1⟩ := h1
    unfold tysOK at ht
    split at ht
    · rename_i ht1
      obtain ⟨x, g1, g2⟩ := open_ty2 20 t ty ht1 _ _ _ _ h1
      obtain ⟨xs, g3, g4⟩ := open_all2 ts tys vs' ds' q ht (fun j t' v' ht' hv' => hv (j + 1) t' v' ht' hv') h2
      refine ⟨(x, xs), ⟨v, vs', [], [], rfl, rfl, VRel_val ?_, g3⟩, g2, g4⟩
      unfold TRep
      rcases cells_ok2 ht1 (hv 0 t v rfl rfl) with ⟨ha, arr, rfl⟩ | ⟨ha, hc⟩
      · rw [ha]
        exact ⟨arr, rfl, g1⟩
      · rw [ha]
        rw [hc] at g1
        exact g1
    · cases ht
/-- a law that holds of each input -/
theorem law_lifted2 {C : Checked} {os : Os} {f : FuncId} {fn : Func} {s : ChangeSpec} {conds : List PathCond} {apart : Bool} {tb : TypeId} {tys : List Ty}
    (own : ownKnob C.prog.godebug = none) (started : os.Started) (noInit : C.prog.inits.idxOf? f = none) (hfn : C.prog.funcs[f]? = some fn)
    (witness : ∃ (w : World) (tape : Tape) (i : Input), w.os = os ∧ (w.forCall tape i).Shaped C.prog ∧ i.vars = [] ∧ Input.okWide C.prog (w.forCall tape i) .any w.heap.size f i ∧
      s.pre6 enc C.prog fn conds apart (w.forCall tape i).memory i.args ∧ ({} : Assume).holds C.prog (lone (Frame.enter C.prog f i.args .normal) [] (w.forCall tape i)))
    (hl : laidOutB C.prog = true) (hty : tysOK C.prog fn.params.toList tys = true) (hread : ∀ t ∈ fn.params.toList, C.prog.readableRec t = true ∧ t < C.prog.types.size)
    (hrt : fn.resultTypes = #[tb]) (htb : C.prog.underlying tb = some .bool) (hvars : s.vars = [])
    (hs : ∀ ds : List (DataW H), ds.length = fn.params.toList.length → s.fn H ds = { results := [.lit (.bool true)], args := ds })
    {F : dens (O := O) (valsOf tys) → Option (rdens (O := O) [.val .bool] × upds (valsOf tys))} (hV : Valid C.prog f ⟨valsOf tys, [.val .bool], F⟩)
    (hF : ∀ x, InAll2 tys x → ∃ u, F x = some ((true, ()), u)) :
    ReturnsInHanded {} C os f .any (s.pre6 enc C.prog fn conds apart) (s.post enc C.prog fn apart true false false) := by
  refine returnsInHanded_of_change_sized own started noInit hfn witness ?_
  intro W base args ds gs before hval hW _ _ _
  have hlt := hW.lt
  obtain ⟨p, q, hA, hVr, rfl, hfz, hnd⟩ := hW
  obtain ⟨x, hE, hin⟩ := open_all2 (O := O) fn.params.toList tys args.toList ds p hty (fun j t v h1 h2 => hval j t v (by simpa using h1) (by simpa using h2)) hA
  obtain ⟨u, hFx⟩ := hF x hin
  refine (law_calls hV hE hFx).mono fun e W' ⟨he, bel⟩ => ?_
  subst he
  have hgs : gs = [] ∧ q = [] := by
    rw [hvars] at hVr
    cases gs with
    | nil => exact ⟨rfl, hVr⟩
    | cons g gs => exact hVr.elim
  obtain ⟨rfl, rfl⟩ := hgs
  have hlen := trodAll_len _ _ _ _ hA
  have hs' := hs ds hlen
  refine ⟨_, rfl, ds, [], p ++ [], [], p, [], ⟨p, [], hA, hVr, rfl, hfz, hnd⟩, ?_, ?_, ?_, bel.frame _, fun h => by cases h⟩
  · rw [List.append_nil, hs', hrt]
    exact trodAll_mk1 (shut_bool htb _)
  · rw [List.append_nil, hs']
    exact carry_all hl bel _ _ _ _ hread (fun x hx => hlt x (by simpa using hx)) hA
  · rw [List.append_nil, hs', hvars]
    rfl
end
end Go.BB
set_option linter.unusedSimpArgs false
set_option linter.unusedVariables false
/-! what all laws need -/
namespace Go.BB
open Go
abbrev Fok {tys : List Ty} (g : dens (O := O0) (valsOf tys) → Bool) (u : upds (O := O0) (valsOf tys)) : dens (O := O0) (valsOf tys) → Option (rdens (O := O0) [.val .bool] × upds (O := O0) (valsOf tys)) := fun x => grd (g x) ((true, ()), u)
theorem valid_law {P : Program} (hm : P.follows .mixedOrders = true) {n : Nat} {f : Func} {c : Code} {ts : List Tmp} (hf : P.funcs[n]? = some f) (hname : (f.name == "runtime.NumGoroutine") = false) (hb : f.body = some c)
    (hres : f.results.toList = ts.map .tmp) {cfg : Cfg O0} (hT : TTok P cfg.tt) (hΓ : Γok P cfg.Γ) (tms : List Tm) {tys : List Ty} {g : dens (O := O0) (valsOf tys) → Bool} {u : upds (O := O0) (valsOf tys)}
    (hps : Nat.ble (clen (valsOf (O := O0) tys)) (min 61 f.ntmps) = true) (hrun : ∀ x, g x = true → ∃ K, runF cfg K f tms (valsOf tys) [.val .bool] x = some ((true, ()), u)) :
    Valid (O := O0) P n ⟨valsOf tys, [.val .bool], Fok g u⟩ :=
  valid_fn hm hf hname hb hres hT hΓ tms _ hps (fun x _ u _ => Kept_vals tys x u) fun x r u' h => by
    have h' : grd (g x) (((true, ()), u) : rdens (O := O0) [.val .bool] × upds (O := O0) (valsOf tys)) = some (r, u') := h
    obtain ⟨h1, h2⟩ := grd_some h'
    obtain ⟨K, hK⟩ := hrun x h1
    exact ⟨K, hK.trans (congrArg some h2)⟩
theorem grd_t {α : Type} {b : Bool} {v : α} (h : b = true) : grd b v = some v := by subst h; rfl
theorem and_t {a b : Bool} (h1 : a = true) (h2 : b = true) : (a && b) = true := by rw [h1, h2]; rfl
end Go.BB
