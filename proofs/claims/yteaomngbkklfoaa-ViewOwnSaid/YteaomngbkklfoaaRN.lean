/- A symbolic machine for the model's code, and what it shows of this seat's functions. No conditions. -/
import Derived.Test.YteaomngbkklfoaaRTys
import Derived.Test.YteaomngbkklfoaaProg
set_option linter.unusedSimpArgs false
set_option linter.unusedVariables false
namespace Go.BB
open Go Go.Proofs
set_option maxRecDepth 100000
def tys : List (Nat × Option Ty) := [(2, some (.int .i64)), (3, some (.int .i64)), (4, some (.bool)), (5, some (.int .u8)), (9, some (.str)), (13, none), (22, some (.slice (.int .i64))), (23, some (.int .u64)), (25, none), (26, none), (29, some (.slice (tSpan))), (32, none), (33, some (tKey)), (44, none), (45, some (tSpan)), (47, some (.slice (tCell))), (49, some (.int .i64)), (52, some (.int .u16)), (53, none), (54, some (tCell)), (60, some (tView)), (61, some (tView)), (62, some (.slice (.int .u16))), (70, some (tView)), (91, some (.slice (tRow))), (92, none), (93, none), (95, some (.slice (tVer))), (96, some (tRow)), (97, some (tRow)), (98, none), (99, none), (100, none), (103, none), (104, some (tVer)), (118, none), (125, some (.int .u64)), (140, none)]
def tt : List (Nat × TI) := [(2,
      { ty := some (Ty.int IntKind.i64), agg := false, size := 1, bytes := 8,
        zero := [Value.int IntKind.i64 (Int.ofNat 0)], eq := false, key := true, sub := Sub.other }),
    (3,
      { ty := some (Ty.int IntKind.i64), agg := false, size := 1, bytes := 8,
        zero := [Value.int IntKind.i64 (Int.ofNat 0)], eq := false, key := true, sub := Sub.other }),
    (4,
      { ty := some Ty.bool, agg := false, size := 1, bytes := 1, zero := [Value.bool false], eq := false, key := true,
        sub := Sub.other }),
    (5,
      { ty := some (Ty.int IntKind.u8), agg := false, size := 1, bytes := 1,
        zero := [Value.int IntKind.u8 (Int.ofNat 0)], eq := false, key := true, sub := Sub.other }),
    (9,
      { ty := some Ty.str, agg := false, size := 1, bytes := 16, zero := [Value.string { data := { toList := [] } }],
        eq := false, key := true, sub := Sub.other }),
    (13,
      { ty := none, agg := true, size := 2, bytes := 24,
        zero := [Value.string { data := { toList := [] } }, Value.int IntKind.u64 (Int.ofNat 0)], eq := false,
        key := false, sub := Sub.struct [(9, 0), (12, 1)] }),
    (22,
      { ty := some (Ty.int IntKind.i64).slice, agg := false, size := 1, bytes := 24, zero := [Value.slice none 0 0],
        eq := false, key := false, sub := Sub.slice 3 }),
    (23,
      { ty := some (Ty.int IntKind.u64), agg := false, size := 1, bytes := 8,
        zero := [Value.int IntKind.u64 (Int.ofNat 0)], eq := false, key := true, sub := Sub.other }),
    (25,
      { ty := none, agg := false, size := 1, bytes := 8, zero := [Value.pointer none], eq := false, key := false,
        sub := Sub.ptr 100 }),
    (26,
      { ty := none, agg := false, size := 1, bytes := 8, zero := [Value.pointer none], eq := false, key := false,
        sub := Sub.ptr 93 }),
    (29,
      { ty := some ((Ty.int IntKind.i64).pair ((Ty.int IntKind.i64).pair (Ty.int IntKind.i64))).slice, agg := false,
        size := 1, bytes := 24, zero := [Value.slice none 0 0], eq := false, key := false, sub := Sub.slice 45 }),
    (32,
      { ty := none, agg := true, size := 2, bytes := 16,
        zero := [Value.int IntKind.i64 (Int.ofNat 0), Value.int IntKind.i64 (Int.ofNat 0)], eq := false, key := false,
        sub := Sub.struct [(3, 0), (3, 1)] }),
    (33,
      { ty := some ((Ty.int IntKind.i64).pair (Ty.int IntKind.i64)), agg := true, size := 2, bytes := 16,
        zero := [Value.int IntKind.i64 (Int.ofNat 0), Value.int IntKind.i64 (Int.ofNat 0)], eq := true, key := true,
        sub := Sub.struct [(3, 0), (3, 1)] }),
    (44,
      { ty := none, agg := true, size := 3, bytes := 24,
        zero :=
          [Value.int IntKind.i64 (Int.ofNat 0), Value.int IntKind.i64 (Int.ofNat 0),
            Value.int IntKind.i64 (Int.ofNat 0)],
        eq := false, key := false, sub := Sub.struct [(3, 0), (3, 1), (3, 2)] }),
    (45,
      { ty := some ((Ty.int IntKind.i64).pair ((Ty.int IntKind.i64).pair (Ty.int IntKind.i64))), agg := true, size := 3,
        bytes := 24,
        zero :=
          [Value.int IntKind.i64 (Int.ofNat 0), Value.int IntKind.i64 (Int.ofNat 0),
            Value.int IntKind.i64 (Int.ofNat 0)],
        eq := true, key := true, sub := Sub.struct [(3, 0), (3, 1), (3, 2)] }),
    (47,
      { ty := some (((Ty.int IntKind.i64).pair (Ty.int IntKind.i64)).pair (Ty.int IntKind.u16)).slice, agg := false,
        size := 1, bytes := 24, zero := [Value.slice none 0 0], eq := false, key := false, sub := Sub.slice 54 }),
    (49,
      { ty := some (Ty.int IntKind.i64), agg := false, size := 1, bytes := 8,
        zero := [Value.int IntKind.i64 (Int.ofNat 0)], eq := false, key := true, sub := Sub.other }),
    (52,
      { ty := some (Ty.int IntKind.u16), agg := false, size := 1, bytes := 2,
        zero := [Value.int IntKind.u16 (Int.ofNat 0)], eq := false, key := true, sub := Sub.other }),
    (53,
      { ty := none, agg := true, size := 3, bytes := 24,
        zero :=
          [Value.int IntKind.i64 (Int.ofNat 0), Value.int IntKind.i64 (Int.ofNat 0),
            Value.int IntKind.u16 (Int.ofNat 0)],
        eq := false, key := false, sub := Sub.struct [(33, 0), (52, 2)] }),
    (54,
      { ty := some (((Ty.int IntKind.i64).pair (Ty.int IntKind.i64)).pair (Ty.int IntKind.u16)), agg := true, size := 3,
        bytes := 24,
        zero :=
          [Value.int IntKind.i64 (Int.ofNat 0), Value.int IntKind.i64 (Int.ofNat 0),
            Value.int IntKind.u16 (Int.ofNat 0)],
        eq := true, key := true, sub := Sub.struct [(33, 0), (52, 2)] }),
    (60,
      {
        ty :=
          some
            ((Ty.int IntKind.u64).pair
              (((Ty.int IntKind.i64).pair ((Ty.int IntKind.i64).pair (Ty.int IntKind.i64))).slice.pair
                (((Ty.int IntKind.i64).pair (Ty.int IntKind.i64)).pair (Ty.int IntKind.u16)).slice)),
        agg := true, size := 3, bytes := 56,
        zero := [Value.int IntKind.u64 (Int.ofNat 0), Value.slice none 0 0, Value.slice none 0 0], eq := false,
        key := false, sub := Sub.struct [(23, 0), (29, 1), (47, 2)] }),
    (61,
      {
        ty :=
          some
            ((Ty.int IntKind.u64).pair
              (((Ty.int IntKind.i64).pair ((Ty.int IntKind.i64).pair (Ty.int IntKind.i64))).slice.pair
                (((Ty.int IntKind.i64).pair (Ty.int IntKind.i64)).pair (Ty.int IntKind.u16)).slice)),
        agg := true, size := 3, bytes := 56,
        zero := [Value.int IntKind.u64 (Int.ofNat 0), Value.slice none 0 0, Value.slice none 0 0], eq := false,
        key := false, sub := Sub.struct [(23, 0), (29, 1), (47, 2)] }),
    (62,
      { ty := some (Ty.int IntKind.u16).slice, agg := false, size := 1, bytes := 24, zero := [Value.slice none 0 0],
        eq := false, key := false, sub := Sub.slice 52 }),
    (70,
      {
        ty :=
          some
            ((Ty.int IntKind.u64).pair
              (((Ty.int IntKind.i64).pair ((Ty.int IntKind.i64).pair (Ty.int IntKind.i64))).slice.pair
                (((Ty.int IntKind.i64).pair (Ty.int IntKind.i64)).pair (Ty.int IntKind.u16)).slice)),
        agg := true, size := 3, bytes := 56,
        zero := [Value.int IntKind.u64 (Int.ofNat 0), Value.slice none 0 0, Value.slice none 0 0], eq := false,
        key := false, sub := Sub.struct [(23, 0), (29, 1), (47, 2)] }),
    (91,
      {
        ty :=
          some
            (((Ty.int IntKind.i64).pair (Ty.int IntKind.i64)).pair
                ((Ty.int IntKind.u64).pair (Ty.int IntKind.u16)).slice).slice,
        agg := false, size := 1, bytes := 24, zero := [Value.slice none 0 0], eq := false, key := false,
        sub := Sub.slice 97 }),
    (92,
      { ty := none, agg := true, size := 3, bytes := 40,
        zero := [Value.int IntKind.u64 (Int.ofNat 0), Value.int IntKind.i64 (Int.ofNat 0), Value.slice none 0 0],
        eq := false, key := false, sub := Sub.struct [(23, 0), (3, 1), (91, 2)] }),
    (93,
      { ty := none, agg := true, size := 3, bytes := 40,
        zero := [Value.int IntKind.u64 (Int.ofNat 0), Value.int IntKind.i64 (Int.ofNat 0), Value.slice none 0 0],
        eq := false, key := false, sub := Sub.struct [(23, 0), (3, 1), (91, 2)] }),
    (95,
      { ty := some ((Ty.int IntKind.u64).pair (Ty.int IntKind.u16)).slice, agg := false, size := 1, bytes := 24,
        zero := [Value.slice none 0 0], eq := false, key := false, sub := Sub.slice 104 }),
    (96,
      {
        ty :=
          some
            (((Ty.int IntKind.i64).pair (Ty.int IntKind.i64)).pair
              ((Ty.int IntKind.u64).pair (Ty.int IntKind.u16)).slice),
        agg := true, size := 3, bytes := 40,
        zero := [Value.int IntKind.i64 (Int.ofNat 0), Value.int IntKind.i64 (Int.ofNat 0), Value.slice none 0 0],
        eq := false, key := false, sub := Sub.struct [(33, 0), (95, 2)] }),
    (97,
      {
        ty :=
          some
            (((Ty.int IntKind.i64).pair (Ty.int IntKind.i64)).pair
              ((Ty.int IntKind.u64).pair (Ty.int IntKind.u16)).slice),
        agg := true, size := 3, bytes := 40,
        zero := [Value.int IntKind.i64 (Int.ofNat 0), Value.int IntKind.i64 (Int.ofNat 0), Value.slice none 0 0],
        eq := false, key := false, sub := Sub.struct [(33, 0), (95, 2)] }),
    (98,
      { ty := none, agg := false, size := 1, bytes := 8, zero := [Value.map none], eq := false, key := false,
        sub := Sub.map 33 95 }),
    (99,
      { ty := none, agg := true, size := 4, bytes := 32,
        zero :=
          [Value.int IntKind.u64 (Int.ofNat 0), Value.int IntKind.i64 (Int.ofNat 0),
            Value.int IntKind.i64 (Int.ofNat 0), Value.map none],
        eq := false, key := false, sub := Sub.struct [(23, 0), (3, 1), (3, 2), (98, 3)] }),
    (100,
      { ty := none, agg := true, size := 4, bytes := 32,
        zero :=
          [Value.int IntKind.u64 (Int.ofNat 0), Value.int IntKind.i64 (Int.ofNat 0),
            Value.int IntKind.i64 (Int.ofNat 0), Value.map none],
        eq := false, key := false, sub := Sub.struct [(23, 0), (3, 1), (3, 2), (98, 3)] }),
    (103,
      { ty := none, agg := true, size := 2, bytes := 16,
        zero := [Value.int IntKind.u64 (Int.ofNat 0), Value.int IntKind.u16 (Int.ofNat 0)], eq := false, key := false,
        sub := Sub.struct [(23, 0), (52, 1)] }),
    (104,
      { ty := some ((Ty.int IntKind.u64).pair (Ty.int IntKind.u16)), agg := true, size := 2, bytes := 16,
        zero := [Value.int IntKind.u64 (Int.ofNat 0), Value.int IntKind.u16 (Int.ofNat 0)], eq := true, key := true,
        sub := Sub.struct [(23, 0), (52, 1)] }),
    (118,
      { ty := none, agg := false, size := 1, bytes := 8, zero := [Value.map none], eq := false, key := false,
        sub := Sub.map 33 4 }),
    (125,
      { ty := some (Ty.int IntKind.u64), agg := false, size := 1, bytes := 8,
        zero := [Value.int IntKind.u64 (Int.ofNat 0)], eq := false, key := true, sub := Sub.other }),
    (140,
      { ty := none, agg := false, size := 1, bytes := 8, zero := [Value.pointer none], eq := false, key := false,
        sub := Sub.ptr 5 })]
theorem tt_ok : TTok Try.prog tt := mkTT_ok (show mkTT Try.prog tys = some tt by kernel_rfl)
def cfgW (Γ : List (Nat × Ctr O0)) : Cfg O0 := ⟨0, tt, Γ⟩
theorem mixed : Try.prog.follows .mixedOrders = true := by kernel_rfl
abbrev n_isNaN : Nat := 87
noncomputable abbrev f_isNaN : Func := Try.f87
theorem hf_isNaN : Try.prog.funcs[n_isNaN]? = some f_isNaN := Try.func87
abbrev n_compare : Nat := 86
noncomputable abbrev f_compare : Func := Try.f86
theorem hf_compare : Try.prog.funcs[n_compare]? = some f_compare := Try.func86
abbrev n_or : Nat := 85
noncomputable abbrev f_or : Func := Try.f85
theorem hf_or : Try.prog.funcs[n_or]? = some f_or := Try.func85
abbrev n_order : Nat := 84
noncomputable abbrev f_order : Func := Try.f84
theorem hf_order : Try.prog.funcs[n_order]? = some f_order := Try.func84
abbrev n_find1 : Nat := 83
noncomputable abbrev f_find1 : Func := Try.f83
theorem hf_find1 : Try.prog.funcs[n_find1]? = some f_find1 := Try.func83
abbrev n_bsearch : Nat := 82
noncomputable abbrev f_bsearch : Func := Try.f82
theorem hf_bsearch : Try.prog.funcs[n_bsearch]? = some f_bsearch := Try.func82
abbrev n_bfind : Nat := 74
noncomputable abbrev f_bfind : Func := Try.f74
theorem hf_bfind : Try.prog.funcs[n_bfind]? = some f_bfind := Try.func74
abbrev n_put : Nat := 58
noncomputable abbrev f_put : Func := Try.f58
theorem hf_put : Try.prog.funcs[n_put]? = some f_put := Try.func58
abbrev n_bget : Nat := 60
noncomputable abbrev f_bget : Func := Try.f60
theorem hf_bget : Try.prog.funcs[n_bget]? = some f_bget := Try.func60
abbrev n_rest : Nat := 56
noncomputable abbrev f_rest : Func := Try.f56
theorem hf_rest : Try.prog.funcs[n_rest]? = some f_rest := Try.func56
abbrev n_rless : Nat := 78
noncomputable abbrev f_rless : Func := Try.f78
theorem hf_rless : Try.prog.funcs[n_rless]? = some f_rless := Try.func78
abbrev n_rbfind : Nat := 64
noncomputable abbrev f_rbfind : Func := Try.f64
theorem hf_rbfind : Try.prog.funcs[n_rbfind]? = some f_rbfind := Try.func64
abbrev n_rput : Nat := 52
noncomputable abbrev f_rput : Func := Try.f52
theorem hf_rput : Try.prog.funcs[n_rput]? = some f_rput := Try.func52
abbrev n_rbget : Nat := 42
noncomputable abbrev f_rbget : Func := Try.f42
theorem hf_rbget : Try.prog.funcs[n_rbget]? = some f_rbget := Try.func42
abbrev n_rcut : Nat := 77
noncomputable abbrev f_rcut : Func := Try.f77
theorem hf_rcut : Try.prog.funcs[n_rcut]? = some f_rcut := Try.func77
abbrev n_rrest : Nat := 63
noncomputable abbrev f_rrest : Func := Try.f63
theorem hf_rrest : Try.prog.funcs[n_rrest]? = some f_rrest := Try.func63
abbrev n_rspanRight : Nat := 65
noncomputable abbrev f_rspanRight : Func := Try.f65
theorem hf_rspanRight : Try.prog.funcs[n_rspanRight]? = some f_rspanRight := Try.func65
abbrev n_rcanon : Nat := 46
noncomputable abbrev f_rcanon : Func := Try.f46
theorem hf_rcanon : Try.prog.funcs[n_rcanon]? = some f_rcanon := Try.func46
abbrev n_rhas : Nat := 20
noncomputable abbrev f_rhas : Func := Try.f20
theorem hf_rhas : Try.prog.funcs[n_rhas]? = some f_rhas := Try.func20
abbrev n_span : Nat := 23
noncomputable abbrev f_span : Func := Try.f23
theorem hf_span : Try.prog.funcs[n_span]? = some f_span := Try.func23
abbrev n_key : Nat := 59
noncomputable abbrev f_key : Func := Try.f59
theorem hf_key : Try.prog.funcs[n_key]? = some f_key := Try.func59
abbrev n_cell : Nat := 32
noncomputable abbrev f_cell : Func := Try.f32
theorem hf_cell : Try.prog.funcs[n_cell]? = some f_cell := Try.func32
abbrev n_cells : Nat := 24
noncomputable abbrev f_cells : Func := Try.f24
theorem hf_cells : Try.prog.funcs[n_cells]? = some f_cells := Try.func24
abbrev n_upto : Nat := 71
noncomputable abbrev f_upto : Func := Try.f71
theorem hf_upto : Try.prog.funcs[n_upto]? = some f_upto := Try.func71
abbrev n_chainAt : Nat := 54
noncomputable abbrev f_chainAt : Func := Try.f54
theorem hf_chainAt : Try.prog.funcs[n_chainAt]? = some f_chainAt := Try.func54
abbrev n_rchainAt : Nat := 76
noncomputable abbrev f_rchainAt : Func := Try.f76
theorem hf_rchainAt : Try.prog.funcs[n_rchainAt]? = some f_rchainAt := Try.func76
abbrev n_newest : Nat := 51
noncomputable abbrev f_newest : Func := Try.f51
theorem hf_newest : Try.prog.funcs[n_newest]? = some f_newest := Try.func51
abbrev n_rnewest : Nat := 50
noncomputable abbrev f_rnewest : Func := Try.f50
theorem hf_rnewest : Try.prog.funcs[n_rnewest]? = some f_rnewest := Try.func50
abbrev n_rchainAdd : Nat := 69
noncomputable abbrev f_rchainAdd : Func := Try.f69
theorem hf_rchainAdd : Try.prog.funcs[n_rchainAdd]? = some f_rchainAdd := Try.func69
abbrev n_within : Nat := 28
noncomputable abbrev f_within : Func := Try.f28
theorem hf_within : Try.prog.funcs[n_within]? = some f_within := Try.func28
abbrev n_digit : Nat := 33
noncomputable abbrev f_digit : Func := Try.f33
theorem hf_digit : Try.prog.funcs[n_digit]? = some f_digit := Try.func33
abbrev n_sameWords : Nat := 34
noncomputable abbrev f_sameWords : Func := Try.f34
theorem hf_sameWords : Try.prog.funcs[n_sameWords]? = some f_sameWords := Try.func34
abbrev n_lentSpans : Nat := 15
noncomputable abbrev f_lentSpans : Func := Try.f15
theorem hf_lentSpans : Try.prog.funcs[n_lentSpans]? = some f_lentSpans := Try.func15
abbrev n_staysSpans : Nat := 19
noncomputable abbrev f_staysSpans : Func := Try.f19
theorem hf_staysSpans : Try.prog.funcs[n_staysSpans]? = some f_staysSpans := Try.func19
abbrev n_sameSpans : Nat := 44
noncomputable abbrev f_sameSpans : Func := Try.f44
theorem hf_sameSpans : Try.prog.funcs[n_sameSpans]? = some f_sameSpans := Try.func44
abbrev n_cloneSpans : Nat := 72
noncomputable abbrev f_cloneSpans : Func := Try.f72
theorem hf_cloneSpans : Try.prog.funcs[n_cloneSpans]? = some f_cloneSpans := Try.func72
abbrev n_lentCells : Nat := 37
noncomputable abbrev f_lentCells : Func := Try.f37
theorem hf_lentCells : Try.prog.funcs[n_lentCells]? = some f_lentCells := Try.func37
abbrev n_staysCells : Nat := 40
noncomputable abbrev f_staysCells : Func := Try.f40
theorem hf_staysCells : Try.prog.funcs[n_staysCells]? = some f_staysCells := Try.func40
abbrev n_sameCells : Nat := 62
noncomputable abbrev f_sameCells : Func := Try.f62
theorem hf_sameCells : Try.prog.funcs[n_sameCells]? = some f_sameCells := Try.func62
abbrev n_cloneCells : Nat := 73
noncomputable abbrev f_cloneCells : Func := Try.f73
theorem hf_cloneCells : Try.prog.funcs[n_cloneCells]? = some f_cloneCells := Try.func73
abbrev n_kbits : Nat := 81
noncomputable abbrev f_kbits : Func := Try.f81
theorem hf_kbits : Try.prog.funcs[n_kbits]? = some f_kbits := Try.func81
abbrev n_rstNew : Nat := 47
noncomputable abbrev f_rstNew : Func := Try.f47
theorem hf_rstNew : Try.prog.funcs[n_rstNew]? = some f_rstNew := Try.func47
abbrev n_place : Nat := 68
noncomputable abbrev f_place : Func := Try.f68
theorem hf_place : Try.prog.funcs[n_place]? = some f_place := Try.func68
abbrev n_rstRead : Nat := 61
noncomputable abbrev f_rstRead : Func := Try.f61
theorem hf_rstRead : Try.prog.funcs[n_rstRead]? = some f_rstRead := Try.func61
abbrev n_rstVersions : Nat := 67
noncomputable abbrev f_rstVersions : Func := Try.f67
theorem hf_rstVersions : Try.prog.funcs[n_rstVersions]? = some f_rstVersions := Try.func67
abbrev n_rcelR : Nat := 79
noncomputable abbrev f_rcelR : Func := Try.f79
theorem hf_rcelR : Try.prog.funcs[n_rcelR]? = some f_rcelR := Try.func79
abbrev n_sorted : Nat := 66
noncomputable abbrev f_sorted : Func := Try.f66
theorem hf_sorted : Try.prog.funcs[n_sorted]? = some f_sorted := Try.func66
abbrev n_rstInstall : Nat := 48
noncomputable abbrev f_rstInstall : Func := Try.f48
theorem hf_rstInstall : Try.prog.funcs[n_rstInstall]? = some f_rstInstall := Try.func48
abbrev n_spanAhead : Nat := 75
noncomputable abbrev f_spanAhead : Func := Try.f75
theorem hf_spanAhead : Try.prog.funcs[n_spanAhead]? = some f_spanAhead := Try.func75
abbrev n_spanAdd : Nat := 57
noncomputable abbrev f_spanAdd : Func := Try.f57
theorem hf_spanAdd : Try.prog.funcs[n_spanAdd]? = some f_spanAdd := Try.func57
abbrev n_rspanAdd : Nat := 49
noncomputable abbrev f_rspanAdd : Func := Try.f49
theorem hf_rspanAdd : Try.prog.funcs[n_rspanAdd]? = some f_rspanAdd := Try.func49
abbrev n_rcovers : Nat := 45
noncomputable abbrev f_rcovers : Func := Try.f45
theorem hf_rcovers : Try.prog.funcs[n_rcovers]? = some f_rcovers := Try.func45
abbrev n_spans : Nat := 14
noncomputable abbrev f_spans : Func := Try.f14
theorem hf_spans : Try.prog.funcs[n_spans]? = some f_spans := Try.func14
abbrev n_ckey : Nat := 80
noncomputable abbrev f_ckey : Func := Try.f80
theorem hf_ckey : Try.prog.funcs[n_ckey]? = some f_ckey := Try.func80
abbrev n_cright : Nat := 70
noncomputable abbrev f_cright : Func := Try.f70
theorem hf_cright : Try.prog.funcs[n_cright]? = some f_cright := Try.func70
abbrev n_once : Nat := 53
noncomputable abbrev f_once : Func := Try.f53
theorem hf_once : Try.prog.funcs[n_once]? = some f_once := Try.func53
abbrev n_stNew : Nat := 29
noncomputable abbrev f_stNew : Func := Try.f29
theorem hf_stNew : Try.prog.funcs[n_stNew]? = some f_stNew := Try.func29
abbrev n_stLast : Nat := 22
noncomputable abbrev f_stLast : Func := Try.f22
theorem hf_stLast : Try.prog.funcs[n_stLast]? = some f_stLast := Try.func22
abbrev n_stRead : Nat := 26
noncomputable abbrev f_stRead : Func := Try.f26
theorem hf_stRead : Try.prog.funcs[n_stRead]? = some f_stRead := Try.func26
abbrev n_stNewest : Nat := 21
noncomputable abbrev f_stNewest : Func := Try.f21
theorem hf_stNewest : Try.prog.funcs[n_stNewest]? = some f_stNewest := Try.func21
abbrev n_stInstall : Nat := 25
noncomputable abbrev f_stInstall : Func := Try.f25
theorem hf_stInstall : Try.prog.funcs[n_stInstall]? = some f_stInstall := Try.func25
abbrev n_awake20 : Nat := 12
noncomputable abbrev f_awake20 : Func := Try.f12
theorem hf_awake20 : Try.prog.funcs[n_awake20]? = some f_awake20 := Try.func12
abbrev n_lValidTells : Nat := 3
noncomputable abbrev f_lValidTells : Func := Try.f3
theorem hf_lValidTells : Try.prog.funcs[n_lValidTells]? = some f_lValidTells := Try.func3
abbrev n_lValidFresh : Nat := 6
noncomputable abbrev f_lValidFresh : Func := Try.f6
theorem hf_lValidFresh : Try.prog.funcs[n_lValidFresh]? = some f_lValidFresh := Try.func6
abbrev n_lValidParts : Nat := 4
noncomputable abbrev f_lValidParts : Func := Try.f4
theorem hf_lValidParts : Try.prog.funcs[n_lValidParts]? = some f_lValidParts := Try.func4
abbrev n_lValidWrites : Nat := 5
noncomputable abbrev f_lValidWrites : Func := Try.f5
theorem hf_lValidWrites : Try.prog.funcs[n_lValidWrites]? = some f_lValidWrites := Try.func5
abbrev n_viewOwn : Nat := 55
noncomputable abbrev f_viewOwn : Func := Try.f55
theorem hf_viewOwn : Try.prog.funcs[n_viewOwn]? = some f_viewOwn := Try.func55
abbrev n_look : Nat := 35
noncomputable abbrev f_look : Func := Try.f35
theorem hf_look : Try.prog.funcs[n_look]? = some f_look := Try.func35
abbrev n_viewRead : Nat := 30
noncomputable abbrev f_viewRead : Func := Try.f30
theorem hf_viewRead : Try.prog.funcs[n_viewRead]? = some f_viewRead := Try.func30
abbrev n_viewWrite : Nat := 31
noncomputable abbrev f_viewWrite : Func := Try.f31
theorem hf_viewWrite : Try.prog.funcs[n_viewWrite]? = some f_viewWrite := Try.func31
abbrev n_rlook : Nat := 36
noncomputable abbrev f_rlook : Func := Try.f36
theorem hf_rlook : Try.prog.funcs[n_rlook]? = some f_rlook := Try.func36
abbrev n_rviewRead : Nat := 41
noncomputable abbrev f_rviewRead : Func := Try.f41
theorem hf_rviewRead : Try.prog.funcs[n_rviewRead]? = some f_rviewRead := Try.func41
abbrev n_rviewWrite : Nat := 38
noncomputable abbrev f_rviewWrite : Func := Try.f38
theorem hf_rviewWrite : Try.prog.funcs[n_rviewWrite]? = some f_rviewWrite := Try.func38
abbrev n_clash : Nat := 16
noncomputable abbrev f_clash : Func := Try.f16
theorem hf_clash : Try.prog.funcs[n_clash]? = some f_clash := Try.func16
abbrev n_fresh : Nat := 18
noncomputable abbrev f_fresh : Func := Try.f18
theorem hf_fresh : Try.prog.funcs[n_fresh]? = some f_fresh := Try.func18
abbrev n_rclash : Nat := 17
noncomputable abbrev f_rclash : Func := Try.f17
theorem hf_rclash : Try.prog.funcs[n_rclash]? = some f_rclash := Try.func17
abbrev n_stores : Nat := 13
noncomputable abbrev f_stores : Func := Try.f13
theorem hf_stores : Try.prog.funcs[n_stores]? = some f_stores := Try.func13
abbrev n_sameView : Nat := 39
noncomputable abbrev f_sameView : Func := Try.f39
theorem hf_sameView : Try.prog.funcs[n_sameView]? = some f_sameView := Try.func39
abbrev n_short : Nat := 43
noncomputable abbrev f_short : Func := Try.f43
theorem hf_short : Try.prog.funcs[n_short]? = some f_short := Try.func43
abbrev n_awake19 : Nat := 27
noncomputable abbrev f_awake19 : Func := Try.f27
theorem hf_awake19 : Try.prog.funcs[n_awake19]? = some f_awake19 := Try.func27
abbrev n_lViewPlays : Nat := 9
noncomputable abbrev f_lViewPlays : Func := Try.f9
theorem hf_lViewPlays : Try.prog.funcs[n_lViewPlays]? = some f_lViewPlays := Try.func9
abbrev n_lViewOwn : Nat := 10
noncomputable abbrev f_lViewOwn : Func := Try.f10
theorem hf_lViewOwn : Try.prog.funcs[n_lViewOwn]? = some f_lViewOwn := Try.func10
abbrev n_lViewLimits : Nat := 7
noncomputable abbrev f_lViewLimits : Func := Try.f7
theorem hf_lViewLimits : Try.prog.funcs[n_lViewLimits]? = some f_lViewLimits := Try.func7
abbrev n_lViewAgain : Nat := 11
noncomputable abbrev f_lViewAgain : Func := Try.f11
theorem hf_lViewAgain : Try.prog.funcs[n_lViewAgain]? = some f_lViewAgain := Try.func11
abbrev n_lViewBlind : Nat := 8
noncomputable abbrev f_lViewBlind : Func := Try.f8
theorem hf_lViewBlind : Try.prog.funcs[n_lViewBlind]? = some f_lViewBlind := Try.func8
end Go.BB
