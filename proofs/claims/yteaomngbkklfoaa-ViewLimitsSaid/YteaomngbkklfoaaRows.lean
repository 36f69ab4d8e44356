/-
  No cell of these rows narrows 'for every input' (looked for: loops, veiled, ifaces, maps, wideKeys, modest, calm, conditions, laid).
  DERIVED. THE GIVEN ROWS OF THIS SEAT. 9 by the template 'for every input the law returns true; each argument reads behind the call as it read before'; 0 by the template 'total and deterministic' (their statements: YteaomngbkklfoaaTotals.lean).
  GIVEN WITH THE SEED: the statements are not yours to turn. If you find one false, say at which input.
  Laid BY PROGRAM, IN A SANDBOX (cutbox-rows.mjs): the forced cells as the released guide's own fill.sh prints them over the translation fde675ccf593601a… (all of the seat's roots in one cut). By AI agents, Wed Nov 11 2026. No macro, syntax, notation, axiom, sorry.
-/
import Derived.Test.YteaomngbkklfoaaChecked
import GoSem.Claim
import GoSem.ClaimJoined
import GoSem.ClaimMapViews
import Derived.JoinedTies
import Derived.KernelRfl
namespace Go.Proofs.Yteaomngbkklfoaa
/- THE CELL 'sum', in the pinned program and in every row, IS THE sha256 OF THE DUMP (.gsa) THAT YteaomngbkklfoaaProg.lean LOADS. Nothing in Lean hashes anything: it is a label: what it is worth is what the hold of that sum in a sandbox is worth. -/
noncomputable def Try.pinned : Pinned := { name := "yteaomngbkklfoaa", sum := "fde675ccf593601a91f6b5ada6f616e1e34d930a9c882d190ab8a445cc30aa93", checked := Try.checked }
namespace Rows
def none {H : Type} : Left H := { results := [], args := [] }

/-- 'busbarlaw20.ValidTells': WHATEVER THE INPUT: true; the input reads as it did. -/
def validTellsSpec : ChangeSpec := { name := "validTells", fn := fun _ => fun
  | [d1, d2, d3] => { results := [.lit (.bool true)], args := [d1, d2, d3] }
  | _ => none }
def validTellsRow : OpenClaim := { program := "yteaomngbkklfoaa", sum := "fde675ccf593601a91f6b5ada6f616e1e34d930a9c882d190ab8a445cc30aa93", func := "busbar/busbarlaw20.ValidTells", spec := "validTells", plainKeys := false, apart := false }
def ValidTellsSaid : Prop := validTellsRow.holds Try.pinned (OpenSpec.ofChange validTellsSpec)

/-- ITS FALSE NEIGHBOUR: 'it returns false'. Refute it at one input. -/
def validTellsWrong : ChangeSpec := { name := "validTells", fn := fun _ => fun
  | [d1, d2, d3] => { results := [.lit (.bool false)], args := [d1, d2, d3] }
  | _ => none }
def ValidTellsWrongFalsely : Prop := validTellsRow.holds Try.pinned (OpenSpec.ofChange validTellsWrong)

/-- 'busbarlaw20.ValidParts': WHATEVER THE INPUT: true; the input reads as it did. -/
def validPartsSpec : ChangeSpec := { name := "validParts", fn := fun _ => fun
  | [d1, d2, d3, d4] => { results := [.lit (.bool true)], args := [d1, d2, d3, d4] }
  | _ => none }
def validPartsRow : OpenClaim := { program := "yteaomngbkklfoaa", sum := "fde675ccf593601a91f6b5ada6f616e1e34d930a9c882d190ab8a445cc30aa93", func := "busbar/busbarlaw20.ValidParts", spec := "validParts", plainKeys := false, apart := false }
def ValidPartsSaid : Prop := validPartsRow.holds Try.pinned (OpenSpec.ofChange validPartsSpec)

/-- ITS FALSE NEIGHBOUR: 'it returns false'. Refute it at one input. -/
def validPartsWrong : ChangeSpec := { name := "validParts", fn := fun _ => fun
  | [d1, d2, d3, d4] => { results := [.lit (.bool false)], args := [d1, d2, d3, d4] }
  | _ => none }
def ValidPartsWrongFalsely : Prop := validPartsRow.holds Try.pinned (OpenSpec.ofChange validPartsWrong)

/-- 'busbarlaw20.ValidWrites': WHATEVER THE INPUT: true; the input reads as it did. -/
def validWritesSpec : ChangeSpec := { name := "validWrites", fn := fun _ => fun
  | [d1, d2, d3] => { results := [.lit (.bool true)], args := [d1, d2, d3] }
  | _ => none }
def validWritesRow : OpenClaim := { program := "yteaomngbkklfoaa", sum := "fde675ccf593601a91f6b5ada6f616e1e34d930a9c882d190ab8a445cc30aa93", func := "busbar/busbarlaw20.ValidWrites", spec := "validWrites", plainKeys := false, apart := false }
def ValidWritesSaid : Prop := validWritesRow.holds Try.pinned (OpenSpec.ofChange validWritesSpec)

/-- ITS FALSE NEIGHBOUR: 'it returns false'. Refute it at one input. -/
def validWritesWrong : ChangeSpec := { name := "validWrites", fn := fun _ => fun
  | [d1, d2, d3] => { results := [.lit (.bool false)], args := [d1, d2, d3] }
  | _ => none }
def ValidWritesWrongFalsely : Prop := validWritesRow.holds Try.pinned (OpenSpec.ofChange validWritesWrong)

/-- 'busbarlaw20.ValidFresh': WHATEVER THE INPUT: true; the input reads as it did. -/
def validFreshSpec : ChangeSpec := { name := "validFresh", fn := fun _ => fun
  | [d1, d2, d3] => { results := [.lit (.bool true)], args := [d1, d2, d3] }
  | _ => none }
def validFreshRow : OpenClaim := { program := "yteaomngbkklfoaa", sum := "fde675ccf593601a91f6b5ada6f616e1e34d930a9c882d190ab8a445cc30aa93", func := "busbar/busbarlaw20.ValidFresh", spec := "validFresh", plainKeys := false, apart := false }
def ValidFreshSaid : Prop := validFreshRow.holds Try.pinned (OpenSpec.ofChange validFreshSpec)

/-- ITS FALSE NEIGHBOUR: 'it returns false'. Refute it at one input. -/
def validFreshWrong : ChangeSpec := { name := "validFresh", fn := fun _ => fun
  | [d1, d2, d3] => { results := [.lit (.bool false)], args := [d1, d2, d3] }
  | _ => none }
def ValidFreshWrongFalsely : Prop := validFreshRow.holds Try.pinned (OpenSpec.ofChange validFreshWrong)

/-- 'busbarlaw19.ViewLimits': WHATEVER THE INPUT: true; the input reads as it did. -/
def viewLimitsSpec : ChangeSpec := { name := "viewLimits", fn := fun _ => fun
  | [d1, d2] => { results := [.lit (.bool true)], args := [d1, d2] }
  | _ => none }
def viewLimitsRow : OpenClaim := { program := "yteaomngbkklfoaa", sum := "fde675ccf593601a91f6b5ada6f616e1e34d930a9c882d190ab8a445cc30aa93", func := "busbar/busbarlaw19.ViewLimits", spec := "viewLimits", unfollowed := true, recurses := true, plainKeys := false, apart := false }
def ViewLimitsSaid : Prop := viewLimitsRow.holds Try.pinned (OpenSpec.ofChange viewLimitsSpec)

/-- ITS FALSE NEIGHBOUR: 'it returns false'. Refute it at one input. -/
def viewLimitsWrong : ChangeSpec := { name := "viewLimits", fn := fun _ => fun
  | [d1, d2] => { results := [.lit (.bool false)], args := [d1, d2] }
  | _ => none }
def ViewLimitsWrongFalsely : Prop := viewLimitsRow.holds Try.pinned (OpenSpec.ofChange viewLimitsWrong)

/-- 'busbarlaw19.ViewBlind': WHATEVER THE INPUT: true; the input reads as it did. -/
def viewBlindSpec : ChangeSpec := { name := "viewBlind", fn := fun _ => fun
  | [d1, d2] => { results := [.lit (.bool true)], args := [d1, d2] }
  | _ => none }
def viewBlindRow : OpenClaim := { program := "yteaomngbkklfoaa", sum := "fde675ccf593601a91f6b5ada6f616e1e34d930a9c882d190ab8a445cc30aa93", func := "busbar/busbarlaw19.ViewBlind", spec := "viewBlind", unfollowed := true, recurses := true, plainKeys := false, apart := false }
def ViewBlindSaid : Prop := viewBlindRow.holds Try.pinned (OpenSpec.ofChange viewBlindSpec)

/-- ITS FALSE NEIGHBOUR: 'it returns false'. Refute it at one input. -/
def viewBlindWrong : ChangeSpec := { name := "viewBlind", fn := fun _ => fun
  | [d1, d2] => { results := [.lit (.bool false)], args := [d1, d2] }
  | _ => none }
def ViewBlindWrongFalsely : Prop := viewBlindRow.holds Try.pinned (OpenSpec.ofChange viewBlindWrong)

/-- 'busbarlaw19.ViewPlays': WHATEVER THE INPUT: true; the input reads as it did. -/
def viewPlaysSpec : ChangeSpec := { name := "viewPlays", fn := fun _ => fun
  | [d1, d2, d3, d4, d5] => { results := [.lit (.bool true)], args := [d1, d2, d3, d4, d5] }
  | _ => none }
def viewPlaysRow : OpenClaim := { program := "yteaomngbkklfoaa", sum := "fde675ccf593601a91f6b5ada6f616e1e34d930a9c882d190ab8a445cc30aa93", func := "busbar/busbarlaw19.ViewPlays", spec := "viewPlays", unfollowed := true, recurses := true, plainKeys := false, apart := false }
def ViewPlaysSaid : Prop := viewPlaysRow.holds Try.pinned (OpenSpec.ofChange viewPlaysSpec)

/-- ITS FALSE NEIGHBOUR: 'it returns false'. Refute it at one input. -/
def viewPlaysWrong : ChangeSpec := { name := "viewPlays", fn := fun _ => fun
  | [d1, d2, d3, d4, d5] => { results := [.lit (.bool false)], args := [d1, d2, d3, d4, d5] }
  | _ => none }
def ViewPlaysWrongFalsely : Prop := viewPlaysRow.holds Try.pinned (OpenSpec.ofChange viewPlaysWrong)

/-- 'busbarlaw19.ViewOwn': WHATEVER THE INPUT: true; the input reads as it did. -/
def viewOwnSpec : ChangeSpec := { name := "viewOwn", fn := fun _ => fun
  | [d1, d2, d3, d4] => { results := [.lit (.bool true)], args := [d1, d2, d3, d4] }
  | _ => none }
def viewOwnRow : OpenClaim := { program := "yteaomngbkklfoaa", sum := "fde675ccf593601a91f6b5ada6f616e1e34d930a9c882d190ab8a445cc30aa93", func := "busbar/busbarlaw19.ViewOwn", spec := "viewOwn", unfollowed := true, recurses := true, plainKeys := false, apart := false }
def ViewOwnSaid : Prop := viewOwnRow.holds Try.pinned (OpenSpec.ofChange viewOwnSpec)

/-- ITS FALSE NEIGHBOUR: 'it returns false'. Refute it at one input. -/
def viewOwnWrong : ChangeSpec := { name := "viewOwn", fn := fun _ => fun
  | [d1, d2, d3, d4] => { results := [.lit (.bool false)], args := [d1, d2, d3, d4] }
  | _ => none }
def ViewOwnWrongFalsely : Prop := viewOwnRow.holds Try.pinned (OpenSpec.ofChange viewOwnWrong)

/-- 'busbarlaw19.ViewAgain': WHATEVER THE INPUT: true; the input reads as it did. -/
def viewAgainSpec : ChangeSpec := { name := "viewAgain", fn := fun _ => fun
  | [d1, d2, d3] => { results := [.lit (.bool true)], args := [d1, d2, d3] }
  | _ => none }
def viewAgainRow : OpenClaim := { program := "yteaomngbkklfoaa", sum := "fde675ccf593601a91f6b5ada6f616e1e34d930a9c882d190ab8a445cc30aa93", func := "busbar/busbarlaw19.ViewAgain", spec := "viewAgain", unfollowed := true, recurses := true, plainKeys := false, apart := false }
def ViewAgainSaid : Prop := viewAgainRow.holds Try.pinned (OpenSpec.ofChange viewAgainSpec)

/-- ITS FALSE NEIGHBOUR: 'it returns false'. Refute it at one input. -/
def viewAgainWrong : ChangeSpec := { name := "viewAgain", fn := fun _ => fun
  | [d1, d2, d3] => { results := [.lit (.bool false)], args := [d1, d2, d3] }
  | _ => none }
def ViewAgainWrongFalsely : Prop := viewAgainRow.holds Try.pinned (OpenSpec.ofChange viewAgainWrong)

/- THE SECOND FORM. 'bulk': how many values and letters a reading holds, each counted each time it is reached (what is shared counts as often as it is met; a slice's spare places count too). A statement '..UptoSaid' is the law's where the arguments, and the package variables that the reading takes, are together of bulk at most 1048576: NARROWER than '..Said'. Prove '..Said' where nothing that the law and all that it calls make is longer than what came in: it says more and counts as full. Else prove '..UptoSaid'. A law counts once. -/
mutual
def uptoBulk {H : Type} : DataW H → Nat
  | .lit (.string bytes) => bytes.length + 1
  | .lit _ => 1
  | .nil => 1
  | .ptr d => uptoBulk d + 1
  | .slice elems spare => uptoBulkAll elems + uptoBulkAll spare + 1
  | .agg parts => uptoBulkAll parts + 1
  | .iface _ d => uptoBulk d + 1
  | .map entries => uptoBulkEntries entries + 1
  | .held _ => 1
def uptoBulkAll {H : Type} : List (DataW H) → Nat
  | [] => 0
  | d :: r => uptoBulk d + uptoBulkAll r
def uptoBulkEntries {H : Type} : List (Lit × DataW H) → Nat
  | [] => 0
  | x :: r => uptoBulkEntry x + uptoBulkEntries r
def uptoBulkEntry {H : Type} : Lit × DataW H → Nat
  | (.string bytes, d) => bytes.length + uptoBulk d + 1
  | (_, d) => uptoBulk d + 1
 end
def uptoSmall : (H : Type) → List (DataW H) → Bool := fun _ ds => decide (uptoBulkAll ds ≤ 1048576)
def OpenSpec.upto (s : _root_.Go.ChangeSpec) : _root_.Go.OpenSpec := { _root_.Go.OpenSpec.ofChange s with cond := some uptoSmall }

/-- 'busbarlaw20.ValidTells', WHERE WHAT IT READS IS OF BULK AT MOST 1048576: true; the input reads as it did. -/
def validTellsUptoRow : OpenClaim := { program := "yteaomngbkklfoaa", sum := "fde675ccf593601a91f6b5ada6f616e1e34d930a9c882d190ab8a445cc30aa93", func := "busbar/busbarlaw20.ValidTells", spec := "validTells", plainKeys := false, apart := false, narrowed := true }
def ValidTellsUptoSaid : Prop := validTellsUptoRow.holds Try.pinned (OpenSpec.upto validTellsSpec)

/-- 'busbarlaw20.ValidParts', WHERE WHAT IT READS IS OF BULK AT MOST 1048576: true; the input reads as it did. -/
def validPartsUptoRow : OpenClaim := { program := "yteaomngbkklfoaa", sum := "fde675ccf593601a91f6b5ada6f616e1e34d930a9c882d190ab8a445cc30aa93", func := "busbar/busbarlaw20.ValidParts", spec := "validParts", plainKeys := false, apart := false, narrowed := true }
def ValidPartsUptoSaid : Prop := validPartsUptoRow.holds Try.pinned (OpenSpec.upto validPartsSpec)

/-- 'busbarlaw20.ValidWrites', WHERE WHAT IT READS IS OF BULK AT MOST 1048576: true; the input reads as it did. -/
def validWritesUptoRow : OpenClaim := { program := "yteaomngbkklfoaa", sum := "fde675ccf593601a91f6b5ada6f616e1e34d930a9c882d190ab8a445cc30aa93", func := "busbar/busbarlaw20.ValidWrites", spec := "validWrites", plainKeys := false, apart := false, narrowed := true }
def ValidWritesUptoSaid : Prop := validWritesUptoRow.holds Try.pinned (OpenSpec.upto validWritesSpec)

/-- 'busbarlaw20.ValidFresh', WHERE WHAT IT READS IS OF BULK AT MOST 1048576: true; the input reads as it did. -/
def validFreshUptoRow : OpenClaim := { program := "yteaomngbkklfoaa", sum := "fde675ccf593601a91f6b5ada6f616e1e34d930a9c882d190ab8a445cc30aa93", func := "busbar/busbarlaw20.ValidFresh", spec := "validFresh", plainKeys := false, apart := false, narrowed := true }
def ValidFreshUptoSaid : Prop := validFreshUptoRow.holds Try.pinned (OpenSpec.upto validFreshSpec)

/-- 'busbarlaw19.ViewLimits', WHERE WHAT IT READS IS OF BULK AT MOST 1048576: true; the input reads as it did. -/
def viewLimitsUptoRow : OpenClaim := { program := "yteaomngbkklfoaa", sum := "fde675ccf593601a91f6b5ada6f616e1e34d930a9c882d190ab8a445cc30aa93", func := "busbar/busbarlaw19.ViewLimits", spec := "viewLimits", unfollowed := true, recurses := true, plainKeys := false, apart := false, narrowed := true }
def ViewLimitsUptoSaid : Prop := viewLimitsUptoRow.holds Try.pinned (OpenSpec.upto viewLimitsSpec)

/-- 'busbarlaw19.ViewBlind', WHERE WHAT IT READS IS OF BULK AT MOST 1048576: true; the input reads as it did. -/
def viewBlindUptoRow : OpenClaim := { program := "yteaomngbkklfoaa", sum := "fde675ccf593601a91f6b5ada6f616e1e34d930a9c882d190ab8a445cc30aa93", func := "busbar/busbarlaw19.ViewBlind", spec := "viewBlind", unfollowed := true, recurses := true, plainKeys := false, apart := false, narrowed := true }
def ViewBlindUptoSaid : Prop := viewBlindUptoRow.holds Try.pinned (OpenSpec.upto viewBlindSpec)

/-- 'busbarlaw19.ViewPlays', WHERE WHAT IT READS IS OF BULK AT MOST 1048576: true; the input reads as it did. -/
def viewPlaysUptoRow : OpenClaim := { program := "yteaomngbkklfoaa", sum := "fde675ccf593601a91f6b5ada6f616e1e34d930a9c882d190ab8a445cc30aa93", func := "busbar/busbarlaw19.ViewPlays", spec := "viewPlays", unfollowed := true, recurses := true, plainKeys := false, apart := false, narrowed := true }
def ViewPlaysUptoSaid : Prop := viewPlaysUptoRow.holds Try.pinned (OpenSpec.upto viewPlaysSpec)

/-- 'busbarlaw19.ViewOwn', WHERE WHAT IT READS IS OF BULK AT MOST 1048576: true; the input reads as it did. -/
def viewOwnUptoRow : OpenClaim := { program := "yteaomngbkklfoaa", sum := "fde675ccf593601a91f6b5ada6f616e1e34d930a9c882d190ab8a445cc30aa93", func := "busbar/busbarlaw19.ViewOwn", spec := "viewOwn", unfollowed := true, recurses := true, plainKeys := false, apart := false, narrowed := true }
def ViewOwnUptoSaid : Prop := viewOwnUptoRow.holds Try.pinned (OpenSpec.upto viewOwnSpec)

/-- 'busbarlaw19.ViewAgain', WHERE WHAT IT READS IS OF BULK AT MOST 1048576: true; the input reads as it did. -/
def viewAgainUptoRow : OpenClaim := { program := "yteaomngbkklfoaa", sum := "fde675ccf593601a91f6b5ada6f616e1e34d930a9c882d190ab8a445cc30aa93", func := "busbar/busbarlaw19.ViewAgain", spec := "viewAgain", unfollowed := true, recurses := true, plainKeys := false, apart := false, narrowed := true }
def ViewAgainUptoSaid : Prop := viewAgainUptoRow.holds Try.pinned (OpenSpec.upto viewAgainSpec)

end Rows
end Go.Proofs.Yteaomngbkklfoaa
