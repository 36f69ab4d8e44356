/-
  No cell of these rows narrows 'for every input' (looked for: loops, veiled, ifaces, maps, wideKeys, modest, calm, conditions, laid).
  DERIVED. THE GIVEN ROWS OF THIS SEAT. 12 by the template 'for every input the law returns true; each argument reads behind the call as it read before'; 0 by the template 'total and deterministic' (their statements: YtiaidfgioecdiaaTotals.lean).
  GIVEN WITH THE SEED: the statements are not yours to turn. If you find one false, say at which input.
  Laid BY PROGRAM, IN A SANDBOX (cutbox-rows.mjs): the forced cells as the released guide's own fill.sh prints them over the translation 0a35fee04dd53f5d… (all of the seat's roots in one cut). By AI agents, Wed Nov 11 2026. No macro, syntax, notation, axiom, sorry.
-/
import Derived.Test.YtiaidfgioecdiaaChecked
import GoSem.Claim
import GoSem.ClaimJoined
import GoSem.ClaimMapViews
import Derived.JoinedTies
import Derived.KernelRfl
namespace Go.Proofs.Ytiaidfgioecdiaa
/- THE CELL 'sum', in the pinned program and in every row, IS THE sha256 OF THE DUMP (.gsa) THAT YtiaidfgioecdiaaProg.lean LOADS. Nothing in Lean hashes anything: it is a label: what it is worth is what the hold of that sum in a sandbox is worth. -/
noncomputable def Try.pinned : Pinned := { name := "ytiaidfgioecdiaa", sum := "0a35fee04dd53f5df62b3d9ae77b6d4be48a138334ec68a1c52b370a1174bbca", checked := Try.checked }
namespace Rows
def none {H : Type} : Left H := { results := [], args := [] }

/-- 'busbarlaw2.BitsPacks': WHATEVER THE INPUT: true; the input reads as it did. -/
def bitsPacksSpec : ChangeSpec := { name := "bitsPacks", fn := fun _ => fun
  | [d] => { results := [.lit (.bool true)], args := [d] }
  | _ => none }
def bitsPacksRow : OpenClaim := { program := "ytiaidfgioecdiaa", sum := "0a35fee04dd53f5df62b3d9ae77b6d4be48a138334ec68a1c52b370a1174bbca", func := "busbar/busbarlaw2.BitsPacks", spec := "bitsPacks", apart := false }
def BitsPacksSaid : Prop := bitsPacksRow.holds Try.pinned (OpenSpec.ofChange bitsPacksSpec)

/-- ITS FALSE NEIGHBOUR: 'it returns false'. Refute it at one input. -/
def bitsPacksWrong : ChangeSpec := { name := "bitsPacks", fn := fun _ => fun
  | [d] => { results := [.lit (.bool false)], args := [d] }
  | _ => none }
def BitsPacksWrongFalsely : Prop := bitsPacksRow.holds Try.pinned (OpenSpec.ofChange bitsPacksWrong)

/-- 'busbarlaw2.BitsUnpacks': WHATEVER THE INPUT: true; the input reads as it did. -/
def bitsUnpacksSpec : ChangeSpec := { name := "bitsUnpacks", fn := fun _ => fun
  | [d1, d2] => { results := [.lit (.bool true)], args := [d1, d2] }
  | _ => none }
def bitsUnpacksRow : OpenClaim := { program := "ytiaidfgioecdiaa", sum := "0a35fee04dd53f5df62b3d9ae77b6d4be48a138334ec68a1c52b370a1174bbca", func := "busbar/busbarlaw2.BitsUnpacks", spec := "bitsUnpacks", apart := false }
def BitsUnpacksSaid : Prop := bitsUnpacksRow.holds Try.pinned (OpenSpec.ofChange bitsUnpacksSpec)

/-- ITS FALSE NEIGHBOUR: 'it returns false'. Refute it at one input. -/
def bitsUnpacksWrong : ChangeSpec := { name := "bitsUnpacks", fn := fun _ => fun
  | [d1, d2] => { results := [.lit (.bool false)], args := [d1, d2] }
  | _ => none }
def BitsUnpacksWrongFalsely : Prop := bitsUnpacksRow.holds Try.pinned (OpenSpec.ofChange bitsUnpacksWrong)

/-- 'busbarlaw2.BitsParts': WHATEVER THE INPUT: true; the input reads as it did. -/
def bitsPartsSpec : ChangeSpec := { name := "bitsParts", fn := fun _ => fun
  | [d1, d2] => { results := [.lit (.bool true)], args := [d1, d2] }
  | _ => none }
def bitsPartsRow : OpenClaim := { program := "ytiaidfgioecdiaa", sum := "0a35fee04dd53f5df62b3d9ae77b6d4be48a138334ec68a1c52b370a1174bbca", func := "busbar/busbarlaw2.BitsParts", spec := "bitsParts", apart := false }
def BitsPartsSaid : Prop := bitsPartsRow.holds Try.pinned (OpenSpec.ofChange bitsPartsSpec)

/-- ITS FALSE NEIGHBOUR: 'it returns false'. Refute it at one input. -/
def bitsPartsWrong : ChangeSpec := { name := "bitsParts", fn := fun _ => fun
  | [d1, d2] => { results := [.lit (.bool false)], args := [d1, d2] }
  | _ => none }
def BitsPartsWrongFalsely : Prop := bitsPartsRow.holds Try.pinned (OpenSpec.ofChange bitsPartsWrong)

/-- 'busbarlaw16.ChainTells': WHATEVER THE INPUT: true; the input reads as it did. -/
def chainTellsSpec : ChangeSpec := { name := "chainTells", fn := fun _ => fun
  | [d1, d2, d3, d4] => { results := [.lit (.bool true)], args := [d1, d2, d3, d4] }
  | _ => none }
def chainTellsRow : OpenClaim := { program := "ytiaidfgioecdiaa", sum := "0a35fee04dd53f5df62b3d9ae77b6d4be48a138334ec68a1c52b370a1174bbca", func := "busbar/busbarlaw16.ChainTells", spec := "chainTells", apart := false }
def ChainTellsSaid : Prop := chainTellsRow.holds Try.pinned (OpenSpec.ofChange chainTellsSpec)

/-- ITS FALSE NEIGHBOUR: 'it returns false'. Refute it at one input. -/
def chainTellsWrong : ChangeSpec := { name := "chainTells", fn := fun _ => fun
  | [d1, d2, d3, d4] => { results := [.lit (.bool false)], args := [d1, d2, d3, d4] }
  | _ => none }
def ChainTellsWrongFalsely : Prop := chainTellsRow.holds Try.pinned (OpenSpec.ofChange chainTellsWrong)

/-- 'busbarlaw16.ChainKeeps': WHATEVER THE INPUT: true; the input reads as it did. -/
def chainKeepsSpec : ChangeSpec := { name := "chainKeeps", fn := fun _ => fun
  | [d1, d2, d3, d4] => { results := [.lit (.bool true)], args := [d1, d2, d3, d4] }
  | _ => none }
def chainKeepsRow : OpenClaim := { program := "ytiaidfgioecdiaa", sum := "0a35fee04dd53f5df62b3d9ae77b6d4be48a138334ec68a1c52b370a1174bbca", func := "busbar/busbarlaw16.ChainKeeps", spec := "chainKeeps", apart := false }
def ChainKeepsSaid : Prop := chainKeepsRow.holds Try.pinned (OpenSpec.ofChange chainKeepsSpec)

/-- ITS FALSE NEIGHBOUR: 'it returns false'. Refute it at one input. -/
def chainKeepsWrong : ChangeSpec := { name := "chainKeeps", fn := fun _ => fun
  | [d1, d2, d3, d4] => { results := [.lit (.bool false)], args := [d1, d2, d3, d4] }
  | _ => none }
def ChainKeepsWrongFalsely : Prop := chainKeepsRow.holds Try.pinned (OpenSpec.ofChange chainKeepsWrong)

/-- 'busbarlaw2.BitsSets': WHATEVER THE INPUT: true; the input reads as it did. -/
def bitsSetsSpec : ChangeSpec := { name := "bitsSets", fn := fun _ => fun
  | [d1, d2, d3, d4, d5] => { results := [.lit (.bool true)], args := [d1, d2, d3, d4, d5] }
  | _ => none }
def bitsSetsRow : OpenClaim := { program := "ytiaidfgioecdiaa", sum := "0a35fee04dd53f5df62b3d9ae77b6d4be48a138334ec68a1c52b370a1174bbca", func := "busbar/busbarlaw2.BitsSets", spec := "bitsSets", apart := false }
def BitsSetsSaid : Prop := bitsSetsRow.holds Try.pinned (OpenSpec.ofChange bitsSetsSpec)

/-- ITS FALSE NEIGHBOUR: 'it returns false'. Refute it at one input. -/
def bitsSetsWrong : ChangeSpec := { name := "bitsSets", fn := fun _ => fun
  | [d1, d2, d3, d4, d5] => { results := [.lit (.bool false)], args := [d1, d2, d3, d4, d5] }
  | _ => none }
def BitsSetsWrongFalsely : Prop := bitsSetsRow.holds Try.pinned (OpenSpec.ofChange bitsSetsWrong)

/-- 'busbarlaw2.BitsSpare': WHATEVER THE INPUT: true; the input reads as it did. -/
def bitsSpareSpec : ChangeSpec := { name := "bitsSpare", fn := fun _ => fun
  | [d1, d2] => { results := [.lit (.bool true)], args := [d1, d2] }
  | _ => none }
def bitsSpareRow : OpenClaim := { program := "ytiaidfgioecdiaa", sum := "0a35fee04dd53f5df62b3d9ae77b6d4be48a138334ec68a1c52b370a1174bbca", func := "busbar/busbarlaw2.BitsSpare", spec := "bitsSpare", apart := false }
def BitsSpareSaid : Prop := bitsSpareRow.holds Try.pinned (OpenSpec.ofChange bitsSpareSpec)

/-- ITS FALSE NEIGHBOUR: 'it returns false'. Refute it at one input. -/
def bitsSpareWrong : ChangeSpec := { name := "bitsSpare", fn := fun _ => fun
  | [d1, d2] => { results := [.lit (.bool false)], args := [d1, d2] }
  | _ => none }
def BitsSpareWrongFalsely : Prop := bitsSpareRow.holds Try.pinned (OpenSpec.ofChange bitsSpareWrong)

/-- 'busbarlaw16.ChainAsks': WHATEVER THE INPUT: true; the input reads as it did. -/
def chainAsksSpec : ChangeSpec := { name := "chainAsks", fn := fun _ => fun
  | [d1, d2, d3, d4] => { results := [.lit (.bool true)], args := [d1, d2, d3, d4] }
  | _ => none }
def chainAsksRow : OpenClaim := { program := "ytiaidfgioecdiaa", sum := "0a35fee04dd53f5df62b3d9ae77b6d4be48a138334ec68a1c52b370a1174bbca", func := "busbar/busbarlaw16.ChainAsks", spec := "chainAsks", apart := false }
def ChainAsksSaid : Prop := chainAsksRow.holds Try.pinned (OpenSpec.ofChange chainAsksSpec)

/-- ITS FALSE NEIGHBOUR: 'it returns false'. Refute it at one input. -/
def chainAsksWrong : ChangeSpec := { name := "chainAsks", fn := fun _ => fun
  | [d1, d2, d3, d4] => { results := [.lit (.bool false)], args := [d1, d2, d3, d4] }
  | _ => none }
def ChainAsksWrongFalsely : Prop := chainAsksRow.holds Try.pinned (OpenSpec.ofChange chainAsksWrong)

/-- 'busbarlaw16.ChainGrows': WHATEVER THE INPUT: true; the input reads as it did. -/
def chainGrowsSpec : ChangeSpec := { name := "chainGrows", fn := fun _ => fun
  | [d1, d2, d3, d4] => { results := [.lit (.bool true)], args := [d1, d2, d3, d4] }
  | _ => none }
def chainGrowsRow : OpenClaim := { program := "ytiaidfgioecdiaa", sum := "0a35fee04dd53f5df62b3d9ae77b6d4be48a138334ec68a1c52b370a1174bbca", func := "busbar/busbarlaw16.ChainGrows", spec := "chainGrows", apart := false }
def ChainGrowsSaid : Prop := chainGrowsRow.holds Try.pinned (OpenSpec.ofChange chainGrowsSpec)

/-- ITS FALSE NEIGHBOUR: 'it returns false'. Refute it at one input. -/
def chainGrowsWrong : ChangeSpec := { name := "chainGrows", fn := fun _ => fun
  | [d1, d2, d3, d4] => { results := [.lit (.bool false)], args := [d1, d2, d3, d4] }
  | _ => none }
def ChainGrowsWrongFalsely : Prop := chainGrowsRow.holds Try.pinned (OpenSpec.ofChange chainGrowsWrong)

/-- 'busbarlaw16.ChainMany': WHATEVER THE INPUT: true; the input reads as it did. -/
def chainManySpec : ChangeSpec := { name := "chainMany", fn := fun _ => fun
  | [d1, d2] => { results := [.lit (.bool true)], args := [d1, d2] }
  | _ => none }
def chainManyRow : OpenClaim := { program := "ytiaidfgioecdiaa", sum := "0a35fee04dd53f5df62b3d9ae77b6d4be48a138334ec68a1c52b370a1174bbca", func := "busbar/busbarlaw16.ChainMany", spec := "chainMany", apart := false }
def ChainManySaid : Prop := chainManyRow.holds Try.pinned (OpenSpec.ofChange chainManySpec)

/-- ITS FALSE NEIGHBOUR: 'it returns false'. Refute it at one input. -/
def chainManyWrong : ChangeSpec := { name := "chainMany", fn := fun _ => fun
  | [d1, d2] => { results := [.lit (.bool false)], args := [d1, d2] }
  | _ => none }
def ChainManyWrongFalsely : Prop := chainManyRow.holds Try.pinned (OpenSpec.ofChange chainManyWrong)

/-- 'busbarlaw3.KindOne': WHATEVER THE INPUT: true; the input reads as it did. -/
def kindOneSpec : ChangeSpec := { name := "kindOne", fn := fun _ => fun
  | [d1, d2] => { results := [.lit (.bool true)], args := [d1, d2] }
  | _ => none }
def kindOneRow : OpenClaim := { program := "ytiaidfgioecdiaa", sum := "0a35fee04dd53f5df62b3d9ae77b6d4be48a138334ec68a1c52b370a1174bbca", func := "busbar/busbarlaw3.KindOne", spec := "kindOne", apart := false }
def KindOneSaid : Prop := kindOneRow.holds Try.pinned (OpenSpec.ofChange kindOneSpec)

/-- ITS FALSE NEIGHBOUR: 'it returns false'. Refute it at one input. -/
def kindOneWrong : ChangeSpec := { name := "kindOne", fn := fun _ => fun
  | [d1, d2] => { results := [.lit (.bool false)], args := [d1, d2] }
  | _ => none }
def KindOneWrongFalsely : Prop := kindOneRow.holds Try.pinned (OpenSpec.ofChange kindOneWrong)

/-- 'busbarlaw3.KindTells': WHATEVER THE INPUT: true; the input reads as it did. -/
def kindTellsSpec : ChangeSpec := { name := "kindTells", fn := fun _ => fun
  | [d1, d2, d3] => { results := [.lit (.bool true)], args := [d1, d2, d3] }
  | _ => none }
def kindTellsRow : OpenClaim := { program := "ytiaidfgioecdiaa", sum := "0a35fee04dd53f5df62b3d9ae77b6d4be48a138334ec68a1c52b370a1174bbca", func := "busbar/busbarlaw3.KindTells", spec := "kindTells", apart := false }
def KindTellsSaid : Prop := kindTellsRow.holds Try.pinned (OpenSpec.ofChange kindTellsSpec)

/-- ITS FALSE NEIGHBOUR: 'it returns false'. Refute it at one input. -/
def kindTellsWrong : ChangeSpec := { name := "kindTells", fn := fun _ => fun
  | [d1, d2, d3] => { results := [.lit (.bool false)], args := [d1, d2, d3] }
  | _ => none }
def KindTellsWrongFalsely : Prop := kindTellsRow.holds Try.pinned (OpenSpec.ofChange kindTellsWrong)

/- THE SECOND FORM. 'bulk': how many values and letters a reading holds, each counted each time it is reached (what is shared counts as often as it is met; a slice's spare places count too). A statement '..UptoSaid' is the law's where the arguments, and the package variables that the reading takes, are together of bulk at most 1048576: NARROWER than '..Said'. Prove '..Said' where nothing that the law and all that it calls make is longer than what came in: it says more and counts as full. Else prove '..UptoSaid'. A law counts once. -/
mutual
def uptoBulk {H : Type} : DataW H → Nat
  | .lit (.string bytes) => bytes.length + 1
  | .lit _ => 1
  | .nil => 1
  | .ptr d => uptoBulk d + 1
  | .slice elems spare => uptoBulkAll elems + uptoBulkAll spare + 1
  | .agg parts => uptoBulkAll parts + 1
  | .iface _ d => uptoBulk d + 1
  | .map entries => uptoBulkEntries entries + 1
  | .held _ => 1
def uptoBulkAll {H : Type} : List (DataW H) → Nat
  | [] => 0
  | d :: r => uptoBulk d + uptoBulkAll r
def uptoBulkEntries {H : Type} : List (Lit × DataW H) → Nat
  | [] => 0
  | x :: r => uptoBulkEntry x + uptoBulkEntries r
def uptoBulkEntry {H : Type} : Lit × DataW H → Nat
  | (.string bytes, d) => bytes.length + uptoBulk d + 1
  | (_, d) => uptoBulk d + 1
 end
def uptoSmall : (H : Type) → List (DataW H) → Bool := fun _ ds => decide (uptoBulkAll ds ≤ 1048576)
def OpenSpec.upto (s : _root_.Go.ChangeSpec) : _root_.Go.OpenSpec := { _root_.Go.OpenSpec.ofChange s with cond := some uptoSmall }

/-- 'busbarlaw2.BitsPacks', WHERE WHAT IT READS IS OF BULK AT MOST 1048576: true; the input reads as it did. -/
def bitsPacksUptoRow : OpenClaim := { program := "ytiaidfgioecdiaa", sum := "0a35fee04dd53f5df62b3d9ae77b6d4be48a138334ec68a1c52b370a1174bbca", func := "busbar/busbarlaw2.BitsPacks", spec := "bitsPacks", apart := false, narrowed := true }
def BitsPacksUptoSaid : Prop := bitsPacksUptoRow.holds Try.pinned (OpenSpec.upto bitsPacksSpec)

/-- 'busbarlaw2.BitsUnpacks', WHERE WHAT IT READS IS OF BULK AT MOST 1048576: true; the input reads as it did. -/
def bitsUnpacksUptoRow : OpenClaim := { program := "ytiaidfgioecdiaa", sum := "0a35fee04dd53f5df62b3d9ae77b6d4be48a138334ec68a1c52b370a1174bbca", func := "busbar/busbarlaw2.BitsUnpacks", spec := "bitsUnpacks", apart := false, narrowed := true }
def BitsUnpacksUptoSaid : Prop := bitsUnpacksUptoRow.holds Try.pinned (OpenSpec.upto bitsUnpacksSpec)

/-- 'busbarlaw2.BitsParts', WHERE WHAT IT READS IS OF BULK AT MOST 1048576: true; the input reads as it did. -/
def bitsPartsUptoRow : OpenClaim := { program := "ytiaidfgioecdiaa", sum := "0a35fee04dd53f5df62b3d9ae77b6d4be48a138334ec68a1c52b370a1174bbca", func := "busbar/busbarlaw2.BitsParts", spec := "bitsParts", apart := false, narrowed := true }
def BitsPartsUptoSaid : Prop := bitsPartsUptoRow.holds Try.pinned (OpenSpec.upto bitsPartsSpec)

/-- 'busbarlaw16.ChainTells', WHERE WHAT IT READS IS OF BULK AT MOST 1048576: true; the input reads as it did. -/
def chainTellsUptoRow : OpenClaim := { program := "ytiaidfgioecdiaa", sum := "0a35fee04dd53f5df62b3d9ae77b6d4be48a138334ec68a1c52b370a1174bbca", func := "busbar/busbarlaw16.ChainTells", spec := "chainTells", apart := false, narrowed := true }
def ChainTellsUptoSaid : Prop := chainTellsUptoRow.holds Try.pinned (OpenSpec.upto chainTellsSpec)

/-- 'busbarlaw16.ChainKeeps', WHERE WHAT IT READS IS OF BULK AT MOST 1048576: true; the input reads as it did. -/
def chainKeepsUptoRow : OpenClaim := { program := "ytiaidfgioecdiaa", sum := "0a35fee04dd53f5df62b3d9ae77b6d4be48a138334ec68a1c52b370a1174bbca", func := "busbar/busbarlaw16.ChainKeeps", spec := "chainKeeps", apart := false, narrowed := true }
def ChainKeepsUptoSaid : Prop := chainKeepsUptoRow.holds Try.pinned (OpenSpec.upto chainKeepsSpec)

/-- 'busbarlaw2.BitsSets', WHERE WHAT IT READS IS OF BULK AT MOST 1048576: true; the input reads as it did. -/
def bitsSetsUptoRow : OpenClaim := { program := "ytiaidfgioecdiaa", sum := "0a35fee04dd53f5df62b3d9ae77b6d4be48a138334ec68a1c52b370a1174bbca", func := "busbar/busbarlaw2.BitsSets", spec := "bitsSets", apart := false, narrowed := true }
def BitsSetsUptoSaid : Prop := bitsSetsUptoRow.holds Try.pinned (OpenSpec.upto bitsSetsSpec)

/-- 'busbarlaw2.BitsSpare', WHERE WHAT IT READS IS OF BULK AT MOST 1048576: true; the input reads as it did. -/
def bitsSpareUptoRow : OpenClaim := { program := "ytiaidfgioecdiaa", sum := "0a35fee04dd53f5df62b3d9ae77b6d4be48a138334ec68a1c52b370a1174bbca", func := "busbar/busbarlaw2.BitsSpare", spec := "bitsSpare", apart := false, narrowed := true }
def BitsSpareUptoSaid : Prop := bitsSpareUptoRow.holds Try.pinned (OpenSpec.upto bitsSpareSpec)

/-- 'busbarlaw16.ChainAsks', WHERE WHAT IT READS IS OF BULK AT MOST 1048576: true; the input reads as it did. -/
def chainAsksUptoRow : OpenClaim := { program := "ytiaidfgioecdiaa", sum := "0a35fee04dd53f5df62b3d9ae77b6d4be48a138334ec68a1c52b370a1174bbca", func := "busbar/busbarlaw16.ChainAsks", spec := "chainAsks", apart := false, narrowed := true }
def ChainAsksUptoSaid : Prop := chainAsksUptoRow.holds Try.pinned (OpenSpec.upto chainAsksSpec)

/-- 'busbarlaw16.ChainGrows', WHERE WHAT IT READS IS OF BULK AT MOST 1048576: true; the input reads as it did. -/
def chainGrowsUptoRow : OpenClaim := { program := "ytiaidfgioecdiaa", sum := "0a35fee04dd53f5df62b3d9ae77b6d4be48a138334ec68a1c52b370a1174bbca", func := "busbar/busbarlaw16.ChainGrows", spec := "chainGrows", apart := false, narrowed := true }
def ChainGrowsUptoSaid : Prop := chainGrowsUptoRow.holds Try.pinned (OpenSpec.upto chainGrowsSpec)

/-- 'busbarlaw16.ChainMany', WHERE WHAT IT READS IS OF BULK AT MOST 1048576: true; the input reads as it did. -/
def chainManyUptoRow : OpenClaim := { program := "ytiaidfgioecdiaa", sum := "0a35fee04dd53f5df62b3d9ae77b6d4be48a138334ec68a1c52b370a1174bbca", func := "busbar/busbarlaw16.ChainMany", spec := "chainMany", apart := false, narrowed := true }
def ChainManyUptoSaid : Prop := chainManyUptoRow.holds Try.pinned (OpenSpec.upto chainManySpec)

/-- 'busbarlaw3.KindOne', WHERE WHAT IT READS IS OF BULK AT MOST 1048576: true; the input reads as it did. -/
def kindOneUptoRow : OpenClaim := { program := "ytiaidfgioecdiaa", sum := "0a35fee04dd53f5df62b3d9ae77b6d4be48a138334ec68a1c52b370a1174bbca", func := "busbar/busbarlaw3.KindOne", spec := "kindOne", apart := false, narrowed := true }
def KindOneUptoSaid : Prop := kindOneUptoRow.holds Try.pinned (OpenSpec.upto kindOneSpec)

/-- 'busbarlaw3.KindTells', WHERE WHAT IT READS IS OF BULK AT MOST 1048576: true; the input reads as it did. -/
def kindTellsUptoRow : OpenClaim := { program := "ytiaidfgioecdiaa", sum := "0a35fee04dd53f5df62b3d9ae77b6d4be48a138334ec68a1c52b370a1174bbca", func := "busbar/busbarlaw3.KindTells", spec := "kindTells", apart := false, narrowed := true }
def KindTellsUptoSaid : Prop := kindTellsUptoRow.holds Try.pinned (OpenSpec.upto kindTellsSpec)

end Rows
end Go.Proofs.Ytiaidfgioecdiaa
