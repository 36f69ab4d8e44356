/- A symbolic machine for the model's code, and what it shows of this seat's functions. No conditions. -/
import Derived.Test.YtiaidfgioecdiaaTys
import Derived.Test.YtiaidfgioecdiaaProg
set_option linter.unusedSimpArgs false
set_option linter.unusedVariables false
namespace Go.BB
open Go Go.Proofs
set_option maxRecDepth 100000
def tys : List (Nat × Option Ty) := [(2, some (.int .i64)), (3, some (.int .i64)), (4, some (.bool)), (5, some (.int .u8)), (9, some (.str)), (22, some (.slice (.bool))), (25, some (.slice (.int .u8))), (35, some (.slice (tVer))), (36, some (.slice (.int .i64))), (37, some (.int .u64)), (42, some (.int .u16)), (44, some (tVer)), (53, some (.int .u64)), (55, some (.int .i64)), (60, some (.slice (.int .u64))), (61, some (.slice (.int .u16)))]
def tt : List (Nat × TI) := [(2,
      { ty := some (Ty.int IntKind.i64), agg := false, size := 1, bytes := 8,
        zero := [Value.int IntKind.i64 (Int.ofNat 0)], eq := false, sub := Sub.other }),
    (3,
      { ty := some (Ty.int IntKind.i64), agg := false, size := 1, bytes := 8,
        zero := [Value.int IntKind.i64 (Int.ofNat 0)], eq := false, sub := Sub.other }),
    (4,
      { ty := some Ty.bool, agg := false, size := 1, bytes := 1, zero := [Value.bool false], eq := false,
        sub := Sub.other }),
    (5,
      { ty := some (Ty.int IntKind.u8), agg := false, size := 1, bytes := 1,
        zero := [Value.int IntKind.u8 (Int.ofNat 0)], eq := false, sub := Sub.other }),
    (9,
      { ty := some Ty.str, agg := false, size := 1, bytes := 16, zero := [Value.string { data := { toList := [] } }],
        eq := false, sub := Sub.other }),
    (22,
      { ty := some Ty.bool.slice, agg := false, size := 1, bytes := 24, zero := [Value.slice none 0 0], eq := false,
        sub := Sub.slice 4 }),
    (25,
      { ty := some (Ty.int IntKind.u8).slice, agg := false, size := 1, bytes := 24, zero := [Value.slice none 0 0],
        eq := false, sub := Sub.slice 5 }),
    (35,
      { ty := some ((Ty.int IntKind.u64).pair (Ty.int IntKind.u16)).slice, agg := false, size := 1, bytes := 24,
        zero := [Value.slice none 0 0], eq := false, sub := Sub.slice 44 }),
    (36,
      { ty := some (Ty.int IntKind.i64).slice, agg := false, size := 1, bytes := 24, zero := [Value.slice none 0 0],
        eq := false, sub := Sub.slice 3 }),
    (37,
      { ty := some (Ty.int IntKind.u64), agg := false, size := 1, bytes := 8,
        zero := [Value.int IntKind.u64 (Int.ofNat 0)], eq := false, sub := Sub.other }),
    (42,
      { ty := some (Ty.int IntKind.u16), agg := false, size := 1, bytes := 2,
        zero := [Value.int IntKind.u16 (Int.ofNat 0)], eq := false, sub := Sub.other }),
    (44,
      { ty := some ((Ty.int IntKind.u64).pair (Ty.int IntKind.u16)), agg := true, size := 2, bytes := 16,
        zero := [Value.int IntKind.u64 (Int.ofNat 0), Value.int IntKind.u16 (Int.ofNat 0)], eq := true,
        sub := Sub.struct [(37, 0), (42, 1)] }),
    (53,
      { ty := some (Ty.int IntKind.u64), agg := false, size := 1, bytes := 8,
        zero := [Value.int IntKind.u64 (Int.ofNat 0)], eq := false, sub := Sub.other }),
    (55,
      { ty := some (Ty.int IntKind.i64), agg := false, size := 1, bytes := 8,
        zero := [Value.int IntKind.i64 (Int.ofNat 0)], eq := false, sub := Sub.other }),
    (60,
      { ty := some (Ty.int IntKind.u64).slice, agg := false, size := 1, bytes := 24, zero := [Value.slice none 0 0],
        eq := false, sub := Sub.slice 37 }),
    (61,
      { ty := some (Ty.int IntKind.u16).slice, agg := false, size := 1, bytes := 24, zero := [Value.slice none 0 0],
        eq := false, sub := Sub.slice 42 })]
theorem tt_ok : TTok Try.prog tt := mkTT_ok (show mkTT Try.prog tys = some tt by kernel_rfl)
def cfgW (Γ : List (Nat × Ctr O0)) : Cfg O0 := ⟨0, tt, Γ⟩
theorem mixed : Try.prog.follows .mixedOrders = true := by kernel_rfl
abbrev n_bytes : Nat := 24
noncomputable abbrev f_bytes : Func := Try.f24
theorem hf_bytes : Try.prog.funcs[n_bytes]? = some f_bytes := Try.func24
abbrev n_pack : Nat := 17
noncomputable abbrev f_pack : Func := Try.f17
theorem hf_pack : Try.prog.funcs[n_pack]? = some f_pack := Try.func17
abbrev n_get : Nat := 40
noncomputable abbrev f_get : Func := Try.f40
theorem hf_get : Try.prog.funcs[n_get]? = some f_get := Try.func40
abbrev n_set : Nat := 38
noncomputable abbrev f_set : Func := Try.f38
theorem hf_set : Try.prog.funcs[n_set]? = some f_set := Try.func38
abbrev n_unpack : Nat := 18
noncomputable abbrev f_unpack : Func := Try.f18
theorem hf_unpack : Try.prog.funcs[n_unpack]? = some f_unpack := Try.func18
abbrev n_power : Nat := 60
noncomputable abbrev f_power : Func := Try.f60
theorem hf_power : Try.prog.funcs[n_power]? = some f_power := Try.func60
abbrev n_rbytes : Nat := 25
noncomputable abbrev f_rbytes : Func := Try.f25
theorem hf_rbytes : Try.prog.funcs[n_rbytes]? = some f_rbytes := Try.func25
abbrev n_rpack : Nat := 19
noncomputable abbrev f_rpack : Func := Try.f19
theorem hf_rpack : Try.prog.funcs[n_rpack]? = some f_rpack := Try.func19
abbrev n_rbit : Nat := 41
noncomputable abbrev f_rbit : Func := Try.f41
theorem hf_rbit : Try.prog.funcs[n_rbit]? = some f_rbit := Try.func41
abbrev n_rset : Nat := 39
noncomputable abbrev f_rset : Func := Try.f39
theorem hf_rset : Try.prog.funcs[n_rset]? = some f_rset := Try.func39
abbrev n_runpack : Nat := 23
noncomputable abbrev f_runpack : Func := Try.f23
theorem hf_runpack : Try.prog.funcs[n_runpack]? = some f_runpack := Try.func23
abbrev n_awake2 : Nat := 15
noncomputable abbrev f_awake2 : Func := Try.f15
theorem hf_awake2 : Try.prog.funcs[n_awake2]? = some f_awake2 := Try.func15
abbrev n_lBitsPacks : Nat := 3
noncomputable abbrev f_lBitsPacks : Func := Try.f3
theorem hf_lBitsPacks : Try.prog.funcs[n_lBitsPacks]? = some f_lBitsPacks := Try.func3
abbrev n_lBitsUnpacks : Nat := 4
noncomputable abbrev f_lBitsUnpacks : Func := Try.f4
theorem hf_lBitsUnpacks : Try.prog.funcs[n_lBitsUnpacks]? = some f_lBitsUnpacks := Try.func4
abbrev n_lBitsParts : Nat := 5
noncomputable abbrev f_lBitsParts : Func := Try.f5
theorem hf_lBitsParts : Try.prog.funcs[n_lBitsParts]? = some f_lBitsParts := Try.func5
abbrev n_lBitsSets : Nat := 8
noncomputable abbrev f_lBitsSets : Func := Try.f8
theorem hf_lBitsSets : Try.prog.funcs[n_lBitsSets]? = some f_lBitsSets := Try.func8
abbrev n_lBitsSpare : Nat := 9
noncomputable abbrev f_lBitsSpare : Func := Try.f9
theorem hf_lBitsSpare : Try.prog.funcs[n_lBitsSpare]? = some f_lBitsSpare := Try.func9
abbrev n_chainRight : Nat := 29
noncomputable abbrev f_chainRight : Func := Try.f29
theorem hf_chainRight : Try.prog.funcs[n_chainRight]? = some f_chainRight := Try.func29
abbrev n_rchainRight : Nat := 30
noncomputable abbrev f_rchainRight : Func := Try.f30
theorem hf_rchainRight : Try.prog.funcs[n_rchainRight]? = some f_rchainRight := Try.func30
abbrev n_upto : Nat := 62
noncomputable abbrev f_upto : Func := Try.f62
theorem hf_upto : Try.prog.funcs[n_upto]? = some f_upto := Try.func62
abbrev n_chainAt : Nat := 35
noncomputable abbrev f_chainAt : Func := Try.f35
theorem hf_chainAt : Try.prog.funcs[n_chainAt]? = some f_chainAt := Try.func35
abbrev n_rchainAt : Nat := 42
noncomputable abbrev f_rchainAt : Func := Try.f42
theorem hf_rchainAt : Try.prog.funcs[n_rchainAt]? = some f_rchainAt := Try.func42
abbrev n_newest : Nat := 36
noncomputable abbrev f_newest : Func := Try.f36
theorem hf_newest : Try.prog.funcs[n_newest]? = some f_newest := Try.func36
abbrev n_rnewest : Nat := 43
noncomputable abbrev f_rnewest : Func := Try.f43
theorem hf_rnewest : Try.prog.funcs[n_rnewest]? = some f_rnewest := Try.func43
abbrev n_chainAdd : Nat := 44
noncomputable abbrev f_chainAdd : Func := Try.f44
theorem hf_chainAdd : Try.prog.funcs[n_chainAdd]? = some f_chainAdd := Try.func44
abbrev n_rchainAdd : Nat := 45
noncomputable abbrev f_rchainAdd : Func := Try.f45
theorem hf_rchainAdd : Try.prog.funcs[n_rchainAdd]? = some f_rchainAdd := Try.func45
abbrev n_trim : Nat := 34
noncomputable abbrev f_trim : Func := Try.f34
theorem hf_trim : Try.prog.funcs[n_trim]? = some f_trim := Try.func34
abbrev n_rtrim : Nat := 46
noncomputable abbrev f_rtrim : Func := Try.f46
theorem hf_rtrim : Try.prog.funcs[n_rtrim]? = some f_rtrim := Try.func46
abbrev n_chain : Nat := 32
noncomputable abbrev f_chain : Func := Try.f32
theorem hf_chain : Try.prog.funcs[n_chain]? = some f_chain := Try.func32
abbrev n_awake16 : Nat := 27
noncomputable abbrev f_awake16 : Func := Try.f27
theorem hf_awake16 : Try.prog.funcs[n_awake16]? = some f_awake16 := Try.func27
abbrev n_lChainTells : Nat := 6
noncomputable abbrev f_lChainTells : Func := Try.f6
theorem hf_lChainTells : Try.prog.funcs[n_lChainTells]? = some f_lChainTells := Try.func6
abbrev n_lChainAsks : Nat := 10
noncomputable abbrev f_lChainAsks : Func := Try.f10
theorem hf_lChainAsks : Try.prog.funcs[n_lChainAsks]? = some f_lChainAsks := Try.func10
abbrev n_lChainKeeps : Nat := 7
noncomputable abbrev f_lChainKeeps : Func := Try.f7
theorem hf_lChainKeeps : Try.prog.funcs[n_lChainKeeps]? = some f_lChainKeeps := Try.func7
abbrev n_lChainGrows : Nat := 11
noncomputable abbrev f_lChainGrows : Func := Try.f11
theorem hf_lChainGrows : Try.prog.funcs[n_lChainGrows]? = some f_lChainGrows := Try.func11
abbrev n_lChainMany : Nat := 12
noncomputable abbrev f_lChainMany : Func := Try.f12
theorem hf_lChainMany : Try.prog.funcs[n_lChainMany]? = some f_lChainMany := Try.func12
abbrev n_within : Nat := 33
noncomputable abbrev f_within : Func := Try.f33
theorem hf_within : Try.prog.funcs[n_within]? = some f_within := Try.func33
abbrev n_digit : Nat := 47
noncomputable abbrev f_digit : Func := Try.f47
theorem hf_digit : Try.prog.funcs[n_digit]? = some f_digit := Try.func47
abbrev n_lentBits : Nat := 16
noncomputable abbrev f_lentBits : Func := Try.f16
theorem hf_lentBits : Try.prog.funcs[n_lentBits]? = some f_lentBits := Try.func16
abbrev n_staysBits : Nat := 21
noncomputable abbrev f_staysBits : Func := Try.f21
theorem hf_staysBits : Try.prog.funcs[n_staysBits]? = some f_staysBits := Try.func21
abbrev n_sameBits : Nat := 20
noncomputable abbrev f_sameBits : Func := Try.f20
theorem hf_sameBits : Try.prog.funcs[n_sameBits]? = some f_sameBits := Try.func20
abbrev n_lentBytes : Nat := 22
noncomputable abbrev f_lentBytes : Func := Try.f22
theorem hf_lentBytes : Try.prog.funcs[n_lentBytes]? = some f_lentBytes := Try.func22
abbrev n_staysBytes : Nat := 26
noncomputable abbrev f_staysBytes : Func := Try.f26
theorem hf_staysBytes : Try.prog.funcs[n_staysBytes]? = some f_staysBytes := Try.func26
abbrev n_cloneBytes : Nat := 63
noncomputable abbrev f_cloneBytes : Func := Try.f63
theorem hf_cloneBytes : Try.prog.funcs[n_cloneBytes]? = some f_cloneBytes := Try.func63
abbrev n_lentVersions : Nat := 28
noncomputable abbrev f_lentVersions : Func := Try.f28
theorem hf_lentVersions : Try.prog.funcs[n_lentVersions]? = some f_lentVersions := Try.func28
abbrev n_staysVersions : Nat := 31
noncomputable abbrev f_staysVersions : Func := Try.f31
theorem hf_staysVersions : Try.prog.funcs[n_staysVersions]? = some f_staysVersions := Try.func31
abbrev n_sameVersions : Nat := 37
noncomputable abbrev f_sameVersions : Func := Try.f37
theorem hf_sameVersions : Try.prog.funcs[n_sameVersions]? = some f_sameVersions := Try.func37
abbrev n_cloneVersions : Nat := 61
noncomputable abbrev f_cloneVersions : Func := Try.f61
theorem hf_cloneVersions : Try.prog.funcs[n_cloneVersions]? = some f_cloneVersions := Try.func61
end Go.BB
