/- A symbolic machine for the model's code, and what it shows of this seat's functions. No conditions. -/
import Derived.Test.YtcdnkkakfkkpgaaQTys
import Derived.Test.YtcdnkkakfkkpgaaProg
set_option linter.unusedSimpArgs false
set_option linter.unusedVariables false
namespace Go.BB
open Go Go.Proofs
set_option maxRecDepth 100000
def tys : List (Nat × Option Ty) := [(2, some (.int .i64)), (3, some (.int .i64)), (4, some (.bool)), (5, some (.int .u8)), (9, some (.str)), (13, none), (22, some (.slice (.int .i64))), (24, some (.slice (tCell))), (27, none), (29, some (.int .u64)), (30, some (.int .i64)), (35, none), (36, some (tKey)), (37, some (.int .u16)), (38, none), (39, some (tCell)), (54, none), (55, some (tSpan)), (58, some (.slice (tSpan))), (67, none), (69, some (.slice (tRow))), (70, none), (71, none), (74, some (.slice (.int .u16))), (83, none), (84, none), (85, none), (86, some (.slice (tVer))), (87, none), (88, some (tVer)), (102, some (tRow)), (103, some (tRow)), (105, none), (114, some (.int .u64)), (125, none)]
def tt : List (Nat × TI) := [(2,
      { ty := some (Ty.int IntKind.i64), agg := false, size := 1, bytes := 8,
        zero := [Value.int IntKind.i64 (Int.ofNat 0)], eq := false, key := true, sub := Sub.other }),
    (3,
      { ty := some (Ty.int IntKind.i64), agg := false, size := 1, bytes := 8,
        zero := [Value.int IntKind.i64 (Int.ofNat 0)], eq := false, key := true, sub := Sub.other }),
    (4,
      { ty := some Ty.bool, agg := false, size := 1, bytes := 1, zero := [Value.bool false], eq := false, key := true,
        sub := Sub.other }),
    (5,
      { ty := some (Ty.int IntKind.u8), agg := false, size := 1, bytes := 1,
        zero := [Value.int IntKind.u8 (Int.ofNat 0)], eq := false, key := true, sub := Sub.other }),
    (9,
      { ty := some Ty.str, agg := false, size := 1, bytes := 16, zero := [Value.string { data := { toList := [] } }],
        eq := false, key := true, sub := Sub.other }),
    (13,
      { ty := none, agg := true, size := 2, bytes := 24,
        zero := [Value.string { data := { toList := [] } }, Value.int IntKind.u64 (Int.ofNat 0)], eq := false,
        key := false, sub := Sub.struct [(9, 0), (12, 1)] }),
    (22,
      { ty := some (Ty.int IntKind.i64).slice, agg := false, size := 1, bytes := 24, zero := [Value.slice none 0 0],
        eq := false, key := false, sub := Sub.slice 3 }),
    (24,
      { ty := some (((Ty.int IntKind.i64).pair (Ty.int IntKind.i64)).pair (Ty.int IntKind.u16)).slice, agg := false,
        size := 1, bytes := 24, zero := [Value.slice none 0 0], eq := false, key := false, sub := Sub.slice 39 }),
    (27,
      { ty := none, agg := false, size := 1, bytes := 8, zero := [Value.pointer none], eq := false, key := false,
        sub := Sub.ptr 85 }),
    (29,
      { ty := some (Ty.int IntKind.u64), agg := false, size := 1, bytes := 8,
        zero := [Value.int IntKind.u64 (Int.ofNat 0)], eq := false, key := true, sub := Sub.other }),
    (30,
      { ty := some (Ty.int IntKind.i64), agg := false, size := 1, bytes := 8,
        zero := [Value.int IntKind.i64 (Int.ofNat 0)], eq := false, key := true, sub := Sub.other }),
    (35,
      { ty := none, agg := true, size := 2, bytes := 16,
        zero := [Value.int IntKind.i64 (Int.ofNat 0), Value.int IntKind.i64 (Int.ofNat 0)], eq := false, key := false,
        sub := Sub.struct [(3, 0), (3, 1)] }),
    (36,
      { ty := some ((Ty.int IntKind.i64).pair (Ty.int IntKind.i64)), agg := true, size := 2, bytes := 16,
        zero := [Value.int IntKind.i64 (Int.ofNat 0), Value.int IntKind.i64 (Int.ofNat 0)], eq := true, key := true,
        sub := Sub.struct [(3, 0), (3, 1)] }),
    (37,
      { ty := some (Ty.int IntKind.u16), agg := false, size := 1, bytes := 2,
        zero := [Value.int IntKind.u16 (Int.ofNat 0)], eq := false, key := true, sub := Sub.other }),
    (38,
      { ty := none, agg := true, size := 3, bytes := 24,
        zero :=
          [Value.int IntKind.i64 (Int.ofNat 0), Value.int IntKind.i64 (Int.ofNat 0),
            Value.int IntKind.u16 (Int.ofNat 0)],
        eq := false, key := false, sub := Sub.struct [(36, 0), (37, 2)] }),
    (39,
      { ty := some (((Ty.int IntKind.i64).pair (Ty.int IntKind.i64)).pair (Ty.int IntKind.u16)), agg := true, size := 3,
        bytes := 24,
        zero :=
          [Value.int IntKind.i64 (Int.ofNat 0), Value.int IntKind.i64 (Int.ofNat 0),
            Value.int IntKind.u16 (Int.ofNat 0)],
        eq := true, key := true, sub := Sub.struct [(36, 0), (37, 2)] }),
    (54,
      { ty := none, agg := true, size := 3, bytes := 24,
        zero :=
          [Value.int IntKind.i64 (Int.ofNat 0), Value.int IntKind.i64 (Int.ofNat 0),
            Value.int IntKind.i64 (Int.ofNat 0)],
        eq := false, key := false, sub := Sub.struct [(3, 0), (3, 1), (3, 2)] }),
    (55,
      { ty := some ((Ty.int IntKind.i64).pair ((Ty.int IntKind.i64).pair (Ty.int IntKind.i64))), agg := true, size := 3,
        bytes := 24,
        zero :=
          [Value.int IntKind.i64 (Int.ofNat 0), Value.int IntKind.i64 (Int.ofNat 0),
            Value.int IntKind.i64 (Int.ofNat 0)],
        eq := true, key := true, sub := Sub.struct [(3, 0), (3, 1), (3, 2)] }),
    (58,
      { ty := some ((Ty.int IntKind.i64).pair ((Ty.int IntKind.i64).pair (Ty.int IntKind.i64))).slice, agg := false,
        size := 1, bytes := 24, zero := [Value.slice none 0 0], eq := false, key := false, sub := Sub.slice 55 }),
    (67,
      { ty := none, agg := false, size := 1, bytes := 8, zero := [Value.pointer none], eq := false, key := false,
        sub := Sub.ptr 71 }),
    (69,
      {
        ty :=
          some
            (((Ty.int IntKind.i64).pair (Ty.int IntKind.i64)).pair
                ((Ty.int IntKind.u64).pair (Ty.int IntKind.u16)).slice).slice,
        agg := false, size := 1, bytes := 24, zero := [Value.slice none 0 0], eq := false, key := false,
        sub := Sub.slice 103 }),
    (70,
      { ty := none, agg := true, size := 3, bytes := 40,
        zero := [Value.int IntKind.u64 (Int.ofNat 0), Value.int IntKind.i64 (Int.ofNat 0), Value.slice none 0 0],
        eq := false, key := false, sub := Sub.struct [(29, 0), (3, 1), (69, 2)] }),
    (71,
      { ty := none, agg := true, size := 3, bytes := 40,
        zero := [Value.int IntKind.u64 (Int.ofNat 0), Value.int IntKind.i64 (Int.ofNat 0), Value.slice none 0 0],
        eq := false, key := false, sub := Sub.struct [(29, 0), (3, 1), (69, 2)] }),
    (74,
      { ty := some (Ty.int IntKind.u16).slice, agg := false, size := 1, bytes := 24, zero := [Value.slice none 0 0],
        eq := false, key := false, sub := Sub.slice 37 }),
    (83,
      { ty := none, agg := false, size := 1, bytes := 8, zero := [Value.map none], eq := false, key := false,
        sub := Sub.map 36 86 }),
    (84,
      { ty := none, agg := true, size := 4, bytes := 32,
        zero :=
          [Value.int IntKind.u64 (Int.ofNat 0), Value.int IntKind.i64 (Int.ofNat 0),
            Value.int IntKind.i64 (Int.ofNat 0), Value.map none],
        eq := false, key := false, sub := Sub.struct [(29, 0), (3, 1), (3, 2), (83, 3)] }),
    (85,
      { ty := none, agg := true, size := 4, bytes := 32,
        zero :=
          [Value.int IntKind.u64 (Int.ofNat 0), Value.int IntKind.i64 (Int.ofNat 0),
            Value.int IntKind.i64 (Int.ofNat 0), Value.map none],
        eq := false, key := false, sub := Sub.struct [(29, 0), (3, 1), (3, 2), (83, 3)] }),
    (86,
      { ty := some ((Ty.int IntKind.u64).pair (Ty.int IntKind.u16)).slice, agg := false, size := 1, bytes := 24,
        zero := [Value.slice none 0 0], eq := false, key := false, sub := Sub.slice 88 }),
    (87,
      { ty := none, agg := true, size := 2, bytes := 16,
        zero := [Value.int IntKind.u64 (Int.ofNat 0), Value.int IntKind.u16 (Int.ofNat 0)], eq := false, key := false,
        sub := Sub.struct [(29, 0), (37, 1)] }),
    (88,
      { ty := some ((Ty.int IntKind.u64).pair (Ty.int IntKind.u16)), agg := true, size := 2, bytes := 16,
        zero := [Value.int IntKind.u64 (Int.ofNat 0), Value.int IntKind.u16 (Int.ofNat 0)], eq := true, key := true,
        sub := Sub.struct [(29, 0), (37, 1)] }),
    (102,
      {
        ty :=
          some
            (((Ty.int IntKind.i64).pair (Ty.int IntKind.i64)).pair
              ((Ty.int IntKind.u64).pair (Ty.int IntKind.u16)).slice),
        agg := true, size := 3, bytes := 40,
        zero := [Value.int IntKind.i64 (Int.ofNat 0), Value.int IntKind.i64 (Int.ofNat 0), Value.slice none 0 0],
        eq := false, key := false, sub := Sub.struct [(36, 0), (86, 2)] }),
    (103,
      {
        ty :=
          some
            (((Ty.int IntKind.i64).pair (Ty.int IntKind.i64)).pair
              ((Ty.int IntKind.u64).pair (Ty.int IntKind.u16)).slice),
        agg := true, size := 3, bytes := 40,
        zero := [Value.int IntKind.i64 (Int.ofNat 0), Value.int IntKind.i64 (Int.ofNat 0), Value.slice none 0 0],
        eq := false, key := false, sub := Sub.struct [(36, 0), (86, 2)] }),
    (105,
      { ty := none, agg := false, size := 1, bytes := 8, zero := [Value.map none], eq := false, key := false,
        sub := Sub.map 36 4 }),
    (114,
      { ty := some (Ty.int IntKind.u64), agg := false, size := 1, bytes := 8,
        zero := [Value.int IntKind.u64 (Int.ofNat 0)], eq := false, key := true, sub := Sub.other }),
    (125,
      { ty := none, agg := false, size := 1, bytes := 8, zero := [Value.pointer none], eq := false, key := false,
        sub := Sub.ptr 5 })]
theorem tt_ok : TTok Try.prog tt := mkTT_ok (show mkTT Try.prog tys = some tt by kernel_rfl)
def cfgW (Γ : List (Nat × Ctr O0)) : Cfg O0 := ⟨0, tt, Γ⟩
theorem mixed : Try.prog.follows .mixedOrders = true := by kernel_rfl
abbrev n_isNaN : Nat := 83
noncomputable abbrev f_isNaN : Func := Try.f83
theorem hf_isNaN : Try.prog.funcs[n_isNaN]? = some f_isNaN := Try.func83
abbrev n_compare : Nat := 77
noncomputable abbrev f_compare : Func := Try.f77
theorem hf_compare : Try.prog.funcs[n_compare]? = some f_compare := Try.func77
abbrev n_or : Nat := 76
noncomputable abbrev f_or : Func := Try.f76
theorem hf_or : Try.prog.funcs[n_or]? = some f_or := Try.func76
abbrev n_order : Nat := 60
noncomputable abbrev f_order : Func := Try.f60
theorem hf_order : Try.prog.funcs[n_order]? = some f_order := Try.func60
abbrev n_find1 : Nat := 75
noncomputable abbrev f_find1 : Func := Try.f75
theorem hf_find1 : Try.prog.funcs[n_find1]? = some f_find1 := Try.func75
abbrev n_bsearch : Nat := 74
noncomputable abbrev f_bsearch : Func := Try.f74
theorem hf_bsearch : Try.prog.funcs[n_bsearch]? = some f_bsearch := Try.func74
abbrev n_bfind : Nat := 58
noncomputable abbrev f_bfind : Func := Try.f58
theorem hf_bfind : Try.prog.funcs[n_bfind]? = some f_bfind := Try.func58
abbrev n_bright : Nat := 37
noncomputable abbrev f_bright : Func := Try.f37
theorem hf_bright : Try.prog.funcs[n_bright]? = some f_bright := Try.func37
abbrev n_put : Nat := 48
noncomputable abbrev f_put : Func := Try.f48
theorem hf_put : Try.prog.funcs[n_put]? = some f_put := Try.func48
abbrev n_bget : Nat := 32
noncomputable abbrev f_bget : Func := Try.f32
theorem hf_bget : Try.prog.funcs[n_bget]? = some f_bget := Try.func32
abbrev n_lay : Nat := 45
noncomputable abbrev f_lay : Func := Try.f45
theorem hf_lay : Try.prog.funcs[n_lay]? = some f_lay := Try.func45
abbrev n_rest : Nat := 31
noncomputable abbrev f_rest : Func := Try.f31
theorem hf_rest : Try.prog.funcs[n_rest]? = some f_rest := Try.func31
abbrev n_rless : Nat := 61
noncomputable abbrev f_rless : Func := Try.f61
theorem hf_rless : Try.prog.funcs[n_rless]? = some f_rless := Try.func61
abbrev n_rbfind : Nat := 55
noncomputable abbrev f_rbfind : Func := Try.f55
theorem hf_rbfind : Try.prog.funcs[n_rbfind]? = some f_rbfind := Try.func55
abbrev n_rput : Nat := 50
noncomputable abbrev f_rput : Func := Try.f50
theorem hf_rput : Try.prog.funcs[n_rput]? = some f_rput := Try.func50
abbrev n_rbget : Nat := 23
noncomputable abbrev f_rbget : Func := Try.f23
theorem hf_rbget : Try.prog.funcs[n_rbget]? = some f_rbget := Try.func23
abbrev n_rbright : Nat := 38
noncomputable abbrev f_rbright : Func := Try.f38
theorem hf_rbright : Try.prog.funcs[n_rbright]? = some f_rbright := Try.func38
abbrev n_rcut : Nat := 70
noncomputable abbrev f_rcut : Func := Try.f70
theorem hf_rcut : Try.prog.funcs[n_rcut]? = some f_rcut := Try.func70
abbrev n_rrest : Nat := 52
noncomputable abbrev f_rrest : Func := Try.f52
theorem hf_rrest : Try.prog.funcs[n_rrest]? = some f_rrest := Try.func52
abbrev n_rspanRight : Nat := 59
noncomputable abbrev f_rspanRight : Func := Try.f59
theorem hf_rspanRight : Try.prog.funcs[n_rspanRight]? = some f_rspanRight := Try.func59
abbrev n_rcanon : Nat := 34
noncomputable abbrev f_rcanon : Func := Try.f34
theorem hf_rcanon : Try.prog.funcs[n_rcanon]? = some f_rcanon := Try.func34
abbrev n_rhas : Nat := 33
noncomputable abbrev f_rhas : Func := Try.f33
theorem hf_rhas : Try.prog.funcs[n_rhas]? = some f_rhas := Try.func33
abbrev n_rsize : Nat := 35
noncomputable abbrev f_rsize : Func := Try.f35
theorem hf_rsize : Try.prog.funcs[n_rsize]? = some f_rsize := Try.func35
abbrev n_span : Nat := 29
noncomputable abbrev f_span : Func := Try.f29
theorem hf_span : Try.prog.funcs[n_span]? = some f_span := Try.func29
abbrev n_key : Nat := 30
noncomputable abbrev f_key : Func := Try.f30
theorem hf_key : Try.prog.funcs[n_key]? = some f_key := Try.func30
abbrev n_cell : Nat := 47
noncomputable abbrev f_cell : Func := Try.f47
theorem hf_cell : Try.prog.funcs[n_cell]? = some f_cell := Try.func47
abbrev n_cells : Nat := 15
noncomputable abbrev f_cells : Func := Try.f15
theorem hf_cells : Try.prog.funcs[n_cells]? = some f_cells := Try.func15
abbrev n_awake18 : Nat := 28
noncomputable abbrev f_awake18 : Func := Try.f28
theorem hf_awake18 : Try.prog.funcs[n_awake18]? = some f_awake18 := Try.func28
abbrev n_lBuffTells : Nat := 9
noncomputable abbrev f_lBuffTells : Func := Try.f9
theorem hf_lBuffTells : Try.prog.funcs[n_lBuffTells]? = some f_lBuffTells := Try.func9
abbrev n_lBuffPuts : Nat := 12
noncomputable abbrev f_lBuffPuts : Func := Try.f12
theorem hf_lBuffPuts : Try.prog.funcs[n_lBuffPuts]? = some f_lBuffPuts := Try.func12
abbrev n_lBuffRests : Nat := 8
noncomputable abbrev f_lBuffRests : Func := Try.f8
theorem hf_lBuffRests : Try.prog.funcs[n_lBuffRests]? = some f_lBuffRests := Try.func8
abbrev n_lBuffOrders : Nat := 13
noncomputable abbrev f_lBuffOrders : Func := Try.f13
theorem hf_lBuffOrders : Try.prog.funcs[n_lBuffOrders]? = some f_lBuffOrders := Try.func13
abbrev n_lBuffLays : Nat := 11
noncomputable abbrev f_lBuffLays : Func := Try.f11
theorem hf_lBuffLays : Try.prog.funcs[n_lBuffLays]? = some f_lBuffLays := Try.func11
abbrev n_upto : Nat := 72
noncomputable abbrev f_upto : Func := Try.f72
theorem hf_upto : Try.prog.funcs[n_upto]? = some f_upto := Try.func72
abbrev n_chainAt : Nat := 54
noncomputable abbrev f_chainAt : Func := Try.f54
theorem hf_chainAt : Try.prog.funcs[n_chainAt]? = some f_chainAt := Try.func54
abbrev n_rchainAt : Nat := 80
noncomputable abbrev f_rchainAt : Func := Try.f80
theorem hf_rchainAt : Try.prog.funcs[n_rchainAt]? = some f_rchainAt := Try.func80
abbrev n_newest : Nat := 56
noncomputable abbrev f_newest : Func := Try.f56
theorem hf_newest : Try.prog.funcs[n_newest]? = some f_newest := Try.func56
abbrev n_rnewest : Nat := 79
noncomputable abbrev f_rnewest : Func := Try.f79
theorem hf_rnewest : Try.prog.funcs[n_rnewest]? = some f_rnewest := Try.func79
abbrev n_rchainAdd : Nat := 65
noncomputable abbrev f_rchainAdd : Func := Try.f65
theorem hf_rchainAdd : Try.prog.funcs[n_rchainAdd]? = some f_rchainAdd := Try.func65
abbrev n_trim : Nat := 57
noncomputable abbrev f_trim : Func := Try.f57
theorem hf_trim : Try.prog.funcs[n_trim]? = some f_trim := Try.func57
abbrev n_rtrim : Nat := 66
noncomputable abbrev f_rtrim : Func := Try.f66
theorem hf_rtrim : Try.prog.funcs[n_rtrim]? = some f_rtrim := Try.func66
abbrev n_within : Nat := 16
noncomputable abbrev f_within : Func := Try.f16
theorem hf_within : Try.prog.funcs[n_within]? = some f_within := Try.func16
abbrev n_digit : Nat := 25
noncomputable abbrev f_digit : Func := Try.f25
theorem hf_digit : Try.prog.funcs[n_digit]? = some f_digit := Try.func25
abbrev n_lentWords : Nat := 44
noncomputable abbrev f_lentWords : Func := Try.f44
theorem hf_lentWords : Try.prog.funcs[n_lentWords]? = some f_lentWords := Try.func44
abbrev n_staysWords : Nat := 46
noncomputable abbrev f_staysWords : Func := Try.f46
theorem hf_staysWords : Try.prog.funcs[n_staysWords]? = some f_staysWords := Try.func46
abbrev n_sameSpans : Nat := 51
noncomputable abbrev f_sameSpans : Func := Try.f51
theorem hf_sameSpans : Try.prog.funcs[n_sameSpans]? = some f_sameSpans := Try.func51
abbrev n_lentCells : Nat := 36
noncomputable abbrev f_lentCells : Func := Try.f36
theorem hf_lentCells : Try.prog.funcs[n_lentCells]? = some f_lentCells := Try.func36
abbrev n_staysCells : Nat := 39
noncomputable abbrev f_staysCells : Func := Try.f39
theorem hf_staysCells : Try.prog.funcs[n_staysCells]? = some f_staysCells := Try.func39
abbrev n_sameCells : Nat := 49
noncomputable abbrev f_sameCells : Func := Try.f49
theorem hf_sameCells : Try.prog.funcs[n_sameCells]? = some f_sameCells := Try.func49
abbrev n_cloneCells : Nat := 69
noncomputable abbrev f_cloneCells : Func := Try.f69
theorem hf_cloneCells : Try.prog.funcs[n_cloneCells]? = some f_cloneCells := Try.func69
abbrev n_cloneVersions : Nat := 73
noncomputable abbrev f_cloneVersions : Func := Try.f73
theorem hf_cloneVersions : Try.prog.funcs[n_cloneVersions]? = some f_cloneVersions := Try.func73
abbrev n_kbits : Nat := 82
noncomputable abbrev f_kbits : Func := Try.f82
theorem hf_kbits : Try.prog.funcs[n_kbits]? = some f_kbits := Try.func82
abbrev n_rstNew : Nat := 40
noncomputable abbrev f_rstNew : Func := Try.f40
theorem hf_rstNew : Try.prog.funcs[n_rstNew]? = some f_rstNew := Try.func40
abbrev n_place : Nat := 64
noncomputable abbrev f_place : Func := Try.f64
theorem hf_place : Try.prog.funcs[n_place]? = some f_place := Try.func64
abbrev n_rstRead : Nat := 67
noncomputable abbrev f_rstRead : Func := Try.f67
theorem hf_rstRead : Try.prog.funcs[n_rstRead]? = some f_rstRead := Try.func67
abbrev n_rstNewest : Nat := 68
noncomputable abbrev f_rstNewest : Func := Try.f68
theorem hf_rstNewest : Try.prog.funcs[n_rstNewest]? = some f_rstNewest := Try.func68
abbrev n_rstVersions : Nat := 63
noncomputable abbrev f_rstVersions : Func := Try.f63
theorem hf_rstVersions : Try.prog.funcs[n_rstVersions]? = some f_rstVersions := Try.func63
abbrev n_rcelR : Nat := 78
noncomputable abbrev f_rcelR : Func := Try.f78
theorem hf_rcelR : Try.prog.funcs[n_rcelR]? = some f_rcelR := Try.func78
abbrev n_sorted : Nat := 62
noncomputable abbrev f_sorted : Func := Try.f62
theorem hf_sorted : Try.prog.funcs[n_sorted]? = some f_sorted := Try.func62
abbrev n_rstInstall : Nat := 41
noncomputable abbrev f_rstInstall : Func := Try.f41
theorem hf_rstInstall : Try.prog.funcs[n_rstInstall]? = some f_rstInstall := Try.func41
abbrev n_ckey : Nat := 81
noncomputable abbrev f_ckey : Func := Try.f81
theorem hf_ckey : Try.prog.funcs[n_ckey]? = some f_ckey := Try.func81
abbrev n_cright : Nat := 71
noncomputable abbrev f_cright : Func := Try.f71
theorem hf_cright : Try.prog.funcs[n_cright]? = some f_cright := Try.func71
abbrev n_once : Nat := 53
noncomputable abbrev f_once : Func := Try.f53
theorem hf_once : Try.prog.funcs[n_once]? = some f_once := Try.func53
abbrev n_stNew : Nat := 17
noncomputable abbrev f_stNew : Func := Try.f17
theorem hf_stNew : Try.prog.funcs[n_stNew]? = some f_stNew := Try.func17
abbrev n_stLast : Nat := 19
noncomputable abbrev f_stLast : Func := Try.f19
theorem hf_stLast : Try.prog.funcs[n_stLast]? = some f_stLast := Try.func19
abbrev n_stVersions : Nat := 20
noncomputable abbrev f_stVersions : Func := Try.f20
theorem hf_stVersions : Try.prog.funcs[n_stVersions]? = some f_stVersions := Try.func20
abbrev n_stKeys : Nat := 22
noncomputable abbrev f_stKeys : Func := Try.f22
theorem hf_stKeys : Try.prog.funcs[n_stKeys]? = some f_stKeys := Try.func22
abbrev n_stRead : Nat := 21
noncomputable abbrev f_stRead : Func := Try.f21
theorem hf_stRead : Try.prog.funcs[n_stRead]? = some f_stRead := Try.func21
abbrev n_stNewest : Nat := 24
noncomputable abbrev f_stNewest : Func := Try.f24
theorem hf_stNewest : Try.prog.funcs[n_stNewest]? = some f_stNewest := Try.func24
abbrev n_stInstall : Nat := 18
noncomputable abbrev f_stInstall : Func := Try.f18
theorem hf_stInstall : Try.prog.funcs[n_stInstall]? = some f_stInstall := Try.func18
abbrev n_awake17 : Nat := 14
noncomputable abbrev f_awake17 : Func := Try.f14
theorem hf_awake17 : Try.prog.funcs[n_awake17]? = some f_awake17 := Try.func14
abbrev n_lStoreSpent : Nat := 3
noncomputable abbrev f_lStoreSpent : Func := Try.f3
theorem hf_lStoreSpent : Try.prog.funcs[n_lStoreSpent]? = some f_lStoreSpent := Try.func3
abbrev n_lStoreWhole : Nat := 5
noncomputable abbrev f_lStoreWhole : Func := Try.f5
theorem hf_lStoreWhole : Try.prog.funcs[n_lStoreWhole]? = some f_lStoreWhole := Try.func5
abbrev n_lStoreOrders : Nat := 4
noncomputable abbrev f_lStoreOrders : Func := Try.f4
theorem hf_lStoreOrders : Try.prog.funcs[n_lStoreOrders]? = some f_lStoreOrders := Try.func4
end Go.BB
