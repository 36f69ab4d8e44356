/- A symbolic machine for the model's code, and what it shows of this seat's functions. No conditions. -/
import Derived.Test.YtiaidfgioecdiabTys
import Derived.Test.YtiaidfgioecdiabProg
set_option linter.unusedSimpArgs false
set_option linter.unusedVariables false
namespace Go.BB
open Go Go.Proofs
set_option maxRecDepth 100000
def tys : List (Nat × Option Ty) := [(2, some (.int .i64)), (3, some (.int .i64)), (4, some (.bool)), (5, some (.int .u8)), (9, some (.str)), (30, some (.int .u64))]
def tt : List (Nat × TI) := [(2,
      { ty := some (Ty.int IntKind.i64), agg := false, size := 1, bytes := 8,
        zero := [Value.int IntKind.i64 (Int.ofNat 0)], eq := false, sub := Sub.other }),
    (3,
      { ty := some (Ty.int IntKind.i64), agg := false, size := 1, bytes := 8,
        zero := [Value.int IntKind.i64 (Int.ofNat 0)], eq := false, sub := Sub.other }),
    (4,
      { ty := some Ty.bool, agg := false, size := 1, bytes := 1, zero := [Value.bool false], eq := false,
        sub := Sub.other }),
    (5,
      { ty := some (Ty.int IntKind.u8), agg := false, size := 1, bytes := 1,
        zero := [Value.int IntKind.u8 (Int.ofNat 0)], eq := false, sub := Sub.other }),
    (9,
      { ty := some Ty.str, agg := false, size := 1, bytes := 16, zero := [Value.string { data := { toList := [] } }],
        eq := false, sub := Sub.other }),
    (30,
      { ty := some (Ty.int IntKind.u64), agg := false, size := 1, bytes := 8,
        zero := [Value.int IntKind.u64 (Int.ofNat 0)], eq := false, sub := Sub.other })]
theorem tt_ok : TTok Try.prog tt := mkTT_ok (show mkTT Try.prog tys = some tt by kernel_rfl)
def cfgW (Γ : List (Nat × Ctr O0)) : Cfg O0 := ⟨0, tt, Γ⟩
theorem mixed : Try.prog.follows .mixedOrders = true := by kernel_rfl
abbrev n_bytes : Nat := 9
noncomputable abbrev f_bytes : Func := Try.f9
theorem hf_bytes : Try.prog.funcs[n_bytes]? = some f_bytes := Try.func9
abbrev n_within : Nat := 5
noncomputable abbrev f_within : Func := Try.f5
theorem hf_within : Try.prog.funcs[n_within]? = some f_within := Try.func5
abbrev n_table : Nat := 6
noncomputable abbrev f_table : Func := Try.f6
theorem hf_table : Try.prog.funcs[n_table]? = some f_table := Try.func6
abbrev n_does : Nat := 12
noncomputable abbrev f_does : Func := Try.f12
theorem hf_does : Try.prog.funcs[n_does]? = some f_does := Try.func12
abbrev n_most : Nat := 7
noncomputable abbrev f_most : Func := Try.f7
theorem hf_most : Try.prog.funcs[n_most]? = some f_most := Try.func7
abbrev n_writes : Nat := 10
noncomputable abbrev f_writes : Func := Try.f10
theorem hf_writes : Try.prog.funcs[n_writes]? = some f_writes := Try.func10
abbrev n_known : Nat := 11
noncomputable abbrev f_known : Func := Try.f11
theorem hf_known : Try.prog.funcs[n_known]? = some f_known := Try.func11
abbrev n_kbits : Nat := 8
noncomputable abbrev f_kbits : Func := Try.f8
theorem hf_kbits : Try.prog.funcs[n_kbits]? = some f_kbits := Try.func8
abbrev n_awake3 : Nat := 4
noncomputable abbrev f_awake3 : Func := Try.f4
theorem hf_awake3 : Try.prog.funcs[n_awake3]? = some f_awake3 := Try.func4
abbrev n_lKindFits : Nat := 3
noncomputable abbrev f_lKindFits : Func := Try.f3
theorem hf_lKindFits : Try.prog.funcs[n_lKindFits]? = some f_lKindFits := Try.func3
end Go.BB
