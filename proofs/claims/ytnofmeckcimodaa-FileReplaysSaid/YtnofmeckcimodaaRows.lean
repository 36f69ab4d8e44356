/-
  No cell of these rows narrows 'for every input' (looked for: loops, veiled, ifaces, maps, wideKeys, modest, calm, conditions, laid).
  DERIVED. THE GIVEN ROWS OF THIS SEAT. 10 by the template 'for every input the law returns true; each argument reads behind the call as it read before'; 0 by the template 'total and deterministic' (their statements: YtnofmeckcimodaaTotals.lean).
  GIVEN WITH THE SEED: the statements are not yours to turn. If you find one false, say at which input.
  Laid BY PROGRAM, IN A SANDBOX (cutbox-rows.mjs): the forced cells as the released guide's own fill.sh prints them over the translation 0d5f795ef4984182… (all of the seat's roots in one cut). By AI agents, Wed Nov 11 2026. No macro, syntax, notation, axiom, sorry.
-/
import Derived.Test.YtnofmeckcimodaaChecked
import GoSem.Claim
import GoSem.ClaimJoined
import GoSem.ClaimMapViews
import Derived.JoinedTies
import Derived.KernelRfl
namespace Go.Proofs.Ytnofmeckcimodaa
/- THE CELL 'sum', in the pinned program and in every row, IS THE sha256 OF THE DUMP (.gsa) THAT YtnofmeckcimodaaProg.lean LOADS. Nothing in Lean hashes anything: it is a label: what it is worth is what the hold of that sum in a sandbox is worth. -/
noncomputable def Try.pinned : Pinned := { name := "ytnofmeckcimodaa", sum := "0d5f795ef498418273fce6262de9b5d386528e4d7edeed9ee48addf229edb905", checked := Try.checked }
namespace Rows
def none {H : Type} : Left H := { results := [], args := [] }

/-- 'busbarlaw17.StoreOrders': WHATEVER THE INPUT: true; the input reads as it did. -/
def storeOrdersSpec : ChangeSpec := { name := "storeOrders", fn := fun _ => fun
  | [d1, d2, d3] => { results := [.lit (.bool true)], args := [d1, d2, d3] }
  | _ => none }
def storeOrdersRow : OpenClaim := { program := "ytnofmeckcimodaa", sum := "0d5f795ef498418273fce6262de9b5d386528e4d7edeed9ee48addf229edb905", func := "busbar/busbarlaw17.StoreOrders", spec := "storeOrders", plainKeys := false, apart := false }
def StoreOrdersSaid : Prop := storeOrdersRow.holds Try.pinned (OpenSpec.ofChange storeOrdersSpec)

/-- ITS FALSE NEIGHBOUR: 'it returns false'. Refute it at one input. -/
def storeOrdersWrong : ChangeSpec := { name := "storeOrders", fn := fun _ => fun
  | [d1, d2, d3] => { results := [.lit (.bool false)], args := [d1, d2, d3] }
  | _ => none }
def StoreOrdersWrongFalsely : Prop := storeOrdersRow.holds Try.pinned (OpenSpec.ofChange storeOrdersWrong)

/-- 'busbarlaw17.StoreKeeps': WHATEVER THE INPUT: true; the input reads as it did. -/
def storeKeepsSpec : ChangeSpec := { name := "storeKeeps", fn := fun _ => fun
  | [d1, d2, d3] => { results := [.lit (.bool true)], args := [d1, d2, d3] }
  | _ => none }
def storeKeepsRow : OpenClaim := { program := "ytnofmeckcimodaa", sum := "0d5f795ef498418273fce6262de9b5d386528e4d7edeed9ee48addf229edb905", func := "busbar/busbarlaw17.StoreKeeps", spec := "storeKeeps", plainKeys := false, apart := false }
def StoreKeepsSaid : Prop := storeKeepsRow.holds Try.pinned (OpenSpec.ofChange storeKeepsSpec)

/-- ITS FALSE NEIGHBOUR: 'it returns false'. Refute it at one input. -/
def storeKeepsWrong : ChangeSpec := { name := "storeKeeps", fn := fun _ => fun
  | [d1, d2, d3] => { results := [.lit (.bool false)], args := [d1, d2, d3] }
  | _ => none }
def StoreKeepsWrongFalsely : Prop := storeKeepsRow.holds Try.pinned (OpenSpec.ofChange storeKeepsWrong)

/-- 'busbarlaw17.StoreFull': WHATEVER THE INPUT: true; the input reads as it did. -/
def storeFullSpec : ChangeSpec := { name := "storeFull", fn := fun _ => fun
  | [d1, d2] => { results := [.lit (.bool true)], args := [d1, d2] }
  | _ => none }
def storeFullRow : OpenClaim := { program := "ytnofmeckcimodaa", sum := "0d5f795ef498418273fce6262de9b5d386528e4d7edeed9ee48addf229edb905", func := "busbar/busbarlaw17.StoreFull", spec := "storeFull", plainKeys := false, apart := false }
def StoreFullSaid : Prop := storeFullRow.holds Try.pinned (OpenSpec.ofChange storeFullSpec)

/-- ITS FALSE NEIGHBOUR: 'it returns false'. Refute it at one input. -/
def storeFullWrong : ChangeSpec := { name := "storeFull", fn := fun _ => fun
  | [d1, d2] => { results := [.lit (.bool false)], args := [d1, d2] }
  | _ => none }
def StoreFullWrongFalsely : Prop := storeFullRow.holds Try.pinned (OpenSpec.ofChange storeFullWrong)

/-- 'busbarlaw17.StorePlays': WHATEVER THE INPUT: true; the input reads as it did. -/
def storePlaysSpec : ChangeSpec := { name := "storePlays", fn := fun _ => fun
  | [d1, d2, d3, d4, d5, d6, d7] => { results := [.lit (.bool true)], args := [d1, d2, d3, d4, d5, d6, d7] }
  | _ => none }
def storePlaysRow : OpenClaim := { program := "ytnofmeckcimodaa", sum := "0d5f795ef498418273fce6262de9b5d386528e4d7edeed9ee48addf229edb905", func := "busbar/busbarlaw17.StorePlays", spec := "storePlays", plainKeys := false, apart := false }
def StorePlaysSaid : Prop := storePlaysRow.holds Try.pinned (OpenSpec.ofChange storePlaysSpec)

/-- ITS FALSE NEIGHBOUR: 'it returns false'. Refute it at one input. -/
def storePlaysWrong : ChangeSpec := { name := "storePlays", fn := fun _ => fun
  | [d1, d2, d3, d4, d5, d6, d7] => { results := [.lit (.bool false)], args := [d1, d2, d3, d4, d5, d6, d7] }
  | _ => none }
def StorePlaysWrongFalsely : Prop := storePlaysRow.holds Try.pinned (OpenSpec.ofChange storePlaysWrong)

/-- 'busbarlaw27.FileOrders': WHATEVER THE INPUT: true; the input reads as it did. -/
def fileOrdersSpec : ChangeSpec := { name := "fileOrders", fn := fun _ => fun
  | [d1, d2] => { results := [.lit (.bool true)], args := [d1, d2] }
  | _ => none }
def fileOrdersRow : OpenClaim := { program := "ytnofmeckcimodaa", sum := "0d5f795ef498418273fce6262de9b5d386528e4d7edeed9ee48addf229edb905", func := "busbar/busbarlaw27.FileOrders", spec := "fileOrders", unfollowed := true, recurses := true, plainKeys := false, apart := false }
def FileOrdersSaid : Prop := fileOrdersRow.holds Try.pinned (OpenSpec.ofChange fileOrdersSpec)

/-- ITS FALSE NEIGHBOUR: 'it returns false'. Refute it at one input. -/
def fileOrdersWrong : ChangeSpec := { name := "fileOrders", fn := fun _ => fun
  | [d1, d2] => { results := [.lit (.bool false)], args := [d1, d2] }
  | _ => none }
def FileOrdersWrongFalsely : Prop := fileOrdersRow.holds Try.pinned (OpenSpec.ofChange fileOrdersWrong)

/-- 'busbarlaw27.FileSorts': WHATEVER THE INPUT: true; the input reads as it did. -/
def fileSortsSpec : ChangeSpec := { name := "fileSorts", fn := fun _ => fun
  | [d] => { results := [.lit (.bool true)], args := [d] }
  | _ => none }
def fileSortsRow : OpenClaim := { program := "ytnofmeckcimodaa", sum := "0d5f795ef498418273fce6262de9b5d386528e4d7edeed9ee48addf229edb905", func := "busbar/busbarlaw27.FileSorts", spec := "fileSorts", unfollowed := true, recurses := true, plainKeys := false, apart := false }
def FileSortsSaid : Prop := fileSortsRow.holds Try.pinned (OpenSpec.ofChange fileSortsSpec)

/-- ITS FALSE NEIGHBOUR: 'it returns false'. Refute it at one input. -/
def fileSortsWrong : ChangeSpec := { name := "fileSorts", fn := fun _ => fun
  | [d] => { results := [.lit (.bool false)], args := [d] }
  | _ => none }
def FileSortsWrongFalsely : Prop := fileSortsRow.holds Try.pinned (OpenSpec.ofChange fileSortsWrong)

/-- 'busbarlaw27.FilePlays': WHATEVER THE INPUT: true; the input reads as it did. -/
def filePlaysSpec : ChangeSpec := { name := "filePlays", fn := fun _ => fun
  | [d1, d2, d3, d4] => { results := [.lit (.bool true)], args := [d1, d2, d3, d4] }
  | _ => none }
def filePlaysRow : OpenClaim := { program := "ytnofmeckcimodaa", sum := "0d5f795ef498418273fce6262de9b5d386528e4d7edeed9ee48addf229edb905", func := "busbar/busbarlaw27.FilePlays", spec := "filePlays", unfollowed := true, recurses := true, plainKeys := false, apart := false }
def FilePlaysSaid : Prop := filePlaysRow.holds Try.pinned (OpenSpec.ofChange filePlaysSpec)

/-- ITS FALSE NEIGHBOUR: 'it returns false'. Refute it at one input. -/
def filePlaysWrong : ChangeSpec := { name := "filePlays", fn := fun _ => fun
  | [d1, d2, d3, d4] => { results := [.lit (.bool false)], args := [d1, d2, d3, d4] }
  | _ => none }
def FilePlaysWrongFalsely : Prop := filePlaysRow.holds Try.pinned (OpenSpec.ofChange filePlaysWrong)

/-- 'busbarlaw27.FileLast': WHATEVER THE INPUT: true; the input reads as it did. -/
def fileLastSpec : ChangeSpec := { name := "fileLast", fn := fun _ => fun
  | [d1, d2, d3, d4] => { results := [.lit (.bool true)], args := [d1, d2, d3, d4] }
  | _ => none }
def fileLastRow : OpenClaim := { program := "ytnofmeckcimodaa", sum := "0d5f795ef498418273fce6262de9b5d386528e4d7edeed9ee48addf229edb905", func := "busbar/busbarlaw27.FileLast", spec := "fileLast", unfollowed := true, recurses := true, plainKeys := false, apart := false }
def FileLastSaid : Prop := fileLastRow.holds Try.pinned (OpenSpec.ofChange fileLastSpec)

/-- ITS FALSE NEIGHBOUR: 'it returns false'. Refute it at one input. -/
def fileLastWrong : ChangeSpec := { name := "fileLast", fn := fun _ => fun
  | [d1, d2, d3, d4] => { results := [.lit (.bool false)], args := [d1, d2, d3, d4] }
  | _ => none }
def FileLastWrongFalsely : Prop := fileLastRow.holds Try.pinned (OpenSpec.ofChange fileLastWrong)

/-- 'busbarlaw27.FileMasks': WHATEVER THE INPUT: true; the input reads as it did. -/
def fileMasksSpec : ChangeSpec := { name := "fileMasks", fn := fun _ => fun
  | [d1, d2, d3, d4] => { results := [.lit (.bool true)], args := [d1, d2, d3, d4] }
  | _ => none }
def fileMasksRow : OpenClaim := { program := "ytnofmeckcimodaa", sum := "0d5f795ef498418273fce6262de9b5d386528e4d7edeed9ee48addf229edb905", func := "busbar/busbarlaw27.FileMasks", spec := "fileMasks", unfollowed := true, recurses := true, plainKeys := false, apart := false }
def FileMasksSaid : Prop := fileMasksRow.holds Try.pinned (OpenSpec.ofChange fileMasksSpec)

/-- ITS FALSE NEIGHBOUR: 'it returns false'. Refute it at one input. -/
def fileMasksWrong : ChangeSpec := { name := "fileMasks", fn := fun _ => fun
  | [d1, d2, d3, d4] => { results := [.lit (.bool false)], args := [d1, d2, d3, d4] }
  | _ => none }
def FileMasksWrongFalsely : Prop := fileMasksRow.holds Try.pinned (OpenSpec.ofChange fileMasksWrong)

/-- 'busbarlaw27.FileReplays': WHATEVER THE INPUT: true; the input reads as it did. -/
def fileReplaysSpec : ChangeSpec := { name := "fileReplays", fn := fun _ => fun
  | [d1, d2, d3, d4] => { results := [.lit (.bool true)], args := [d1, d2, d3, d4] }
  | _ => none }
def fileReplaysRow : OpenClaim := { program := "ytnofmeckcimodaa", sum := "0d5f795ef498418273fce6262de9b5d386528e4d7edeed9ee48addf229edb905", func := "busbar/busbarlaw27.FileReplays", spec := "fileReplays", unfollowed := true, recurses := true, plainKeys := false, apart := false }
def FileReplaysSaid : Prop := fileReplaysRow.holds Try.pinned (OpenSpec.ofChange fileReplaysSpec)

/-- ITS FALSE NEIGHBOUR: 'it returns false'. Refute it at one input. -/
def fileReplaysWrong : ChangeSpec := { name := "fileReplays", fn := fun _ => fun
  | [d1, d2, d3, d4] => { results := [.lit (.bool false)], args := [d1, d2, d3, d4] }
  | _ => none }
def FileReplaysWrongFalsely : Prop := fileReplaysRow.holds Try.pinned (OpenSpec.ofChange fileReplaysWrong)

/- THE SECOND FORM. 'bulk': how many values and letters a reading holds, each counted each time it is reached (what is shared counts as often as it is met; a slice's spare places count too). A statement '..UptoSaid' is the law's where the arguments, and the package variables that the reading takes, are together of bulk at most 1048576: NARROWER than '..Said'. Prove '..Said' where nothing that the law and all that it calls make is longer than what came in: it says more and counts as full. Else prove '..UptoSaid'. A law counts once. -/
mutual
def uptoBulk {H : Type} : DataW H → Nat
  | .lit (.string bytes) => bytes.length + 1
  | .lit _ => 1
  | .nil => 1
  | .ptr d => uptoBulk d + 1
  | .slice elems spare => uptoBulkAll elems + uptoBulkAll spare + 1
  | .agg parts => uptoBulkAll parts + 1
  | .iface _ d => uptoBulk d + 1
  | .map entries => uptoBulkEntries entries + 1
  | .held _ => 1
def uptoBulkAll {H : Type} : List (DataW H) → Nat
  | [] => 0
  | d :: r => uptoBulk d + uptoBulkAll r
def uptoBulkEntries {H : Type} : List (Lit × DataW H) → Nat
  | [] => 0
  | x :: r => uptoBulkEntry x + uptoBulkEntries r
def uptoBulkEntry {H : Type} : Lit × DataW H → Nat
  | (.string bytes, d) => bytes.length + uptoBulk d + 1
  | (_, d) => uptoBulk d + 1
 end
def uptoSmall : (H : Type) → List (DataW H) → Bool := fun _ ds => decide (uptoBulkAll ds ≤ 1048576)
def OpenSpec.upto (s : _root_.Go.ChangeSpec) : _root_.Go.OpenSpec := { _root_.Go.OpenSpec.ofChange s with cond := some uptoSmall }

/-- 'busbarlaw17.StoreOrders', WHERE WHAT IT READS IS OF BULK AT MOST 1048576: true; the input reads as it did. -/
def storeOrdersUptoRow : OpenClaim := { program := "ytnofmeckcimodaa", sum := "0d5f795ef498418273fce6262de9b5d386528e4d7edeed9ee48addf229edb905", func := "busbar/busbarlaw17.StoreOrders", spec := "storeOrders", plainKeys := false, apart := false, narrowed := true }
def StoreOrdersUptoSaid : Prop := storeOrdersUptoRow.holds Try.pinned (OpenSpec.upto storeOrdersSpec)

/-- 'busbarlaw17.StoreKeeps', WHERE WHAT IT READS IS OF BULK AT MOST 1048576: true; the input reads as it did. -/
def storeKeepsUptoRow : OpenClaim := { program := "ytnofmeckcimodaa", sum := "0d5f795ef498418273fce6262de9b5d386528e4d7edeed9ee48addf229edb905", func := "busbar/busbarlaw17.StoreKeeps", spec := "storeKeeps", plainKeys := false, apart := false, narrowed := true }
def StoreKeepsUptoSaid : Prop := storeKeepsUptoRow.holds Try.pinned (OpenSpec.upto storeKeepsSpec)

/-- 'busbarlaw17.StoreFull', WHERE WHAT IT READS IS OF BULK AT MOST 1048576: true; the input reads as it did. -/
def storeFullUptoRow : OpenClaim := { program := "ytnofmeckcimodaa", sum := "0d5f795ef498418273fce6262de9b5d386528e4d7edeed9ee48addf229edb905", func := "busbar/busbarlaw17.StoreFull", spec := "storeFull", plainKeys := false, apart := false, narrowed := true }
def StoreFullUptoSaid : Prop := storeFullUptoRow.holds Try.pinned (OpenSpec.upto storeFullSpec)

/-- 'busbarlaw17.StorePlays', WHERE WHAT IT READS IS OF BULK AT MOST 1048576: true; the input reads as it did. -/
def storePlaysUptoRow : OpenClaim := { program := "ytnofmeckcimodaa", sum := "0d5f795ef498418273fce6262de9b5d386528e4d7edeed9ee48addf229edb905", func := "busbar/busbarlaw17.StorePlays", spec := "storePlays", plainKeys := false, apart := false, narrowed := true }
def StorePlaysUptoSaid : Prop := storePlaysUptoRow.holds Try.pinned (OpenSpec.upto storePlaysSpec)

/-- 'busbarlaw27.FileOrders', WHERE WHAT IT READS IS OF BULK AT MOST 1048576: true; the input reads as it did. -/
def fileOrdersUptoRow : OpenClaim := { program := "ytnofmeckcimodaa", sum := "0d5f795ef498418273fce6262de9b5d386528e4d7edeed9ee48addf229edb905", func := "busbar/busbarlaw27.FileOrders", spec := "fileOrders", unfollowed := true, recurses := true, plainKeys := false, apart := false, narrowed := true }
def FileOrdersUptoSaid : Prop := fileOrdersUptoRow.holds Try.pinned (OpenSpec.upto fileOrdersSpec)

/-- 'busbarlaw27.FileSorts', WHERE WHAT IT READS IS OF BULK AT MOST 1048576: true; the input reads as it did. -/
def fileSortsUptoRow : OpenClaim := { program := "ytnofmeckcimodaa", sum := "0d5f795ef498418273fce6262de9b5d386528e4d7edeed9ee48addf229edb905", func := "busbar/busbarlaw27.FileSorts", spec := "fileSorts", unfollowed := true, recurses := true, plainKeys := false, apart := false, narrowed := true }
def FileSortsUptoSaid : Prop := fileSortsUptoRow.holds Try.pinned (OpenSpec.upto fileSortsSpec)

/-- 'busbarlaw27.FilePlays', WHERE WHAT IT READS IS OF BULK AT MOST 1048576: true; the input reads as it did. -/
def filePlaysUptoRow : OpenClaim := { program := "ytnofmeckcimodaa", sum := "0d5f795ef498418273fce6262de9b5d386528e4d7edeed9ee48addf229edb905", func := "busbar/busbarlaw27.FilePlays", spec := "filePlays", unfollowed := true, recurses := true, plainKeys := false, apart := false, narrowed := true }
def FilePlaysUptoSaid : Prop := filePlaysUptoRow.holds Try.pinned (OpenSpec.upto filePlaysSpec)

/-- 'busbarlaw27.FileLast', WHERE WHAT IT READS IS OF BULK AT MOST 1048576: true; the input reads as it did. -/
def fileLastUptoRow : OpenClaim := { program := "ytnofmeckcimodaa", sum := "0d5f795ef498418273fce6262de9b5d386528e4d7edeed9ee48addf229edb905", func := "busbar/busbarlaw27.FileLast", spec := "fileLast", unfollowed := true, recurses := true, plainKeys := false, apart := false, narrowed := true }
def FileLastUptoSaid : Prop := fileLastUptoRow.holds Try.pinned (OpenSpec.upto fileLastSpec)

/-- 'busbarlaw27.FileMasks', WHERE WHAT IT READS IS OF BULK AT MOST 1048576: true; the input reads as it did. -/
def fileMasksUptoRow : OpenClaim := { program := "ytnofmeckcimodaa", sum := "0d5f795ef498418273fce6262de9b5d386528e4d7edeed9ee48addf229edb905", func := "busbar/busbarlaw27.FileMasks", spec := "fileMasks", unfollowed := true, recurses := true, plainKeys := false, apart := false, narrowed := true }
def FileMasksUptoSaid : Prop := fileMasksUptoRow.holds Try.pinned (OpenSpec.upto fileMasksSpec)

/-- 'busbarlaw27.FileReplays', WHERE WHAT IT READS IS OF BULK AT MOST 1048576: true; the input reads as it did. -/
def fileReplaysUptoRow : OpenClaim := { program := "ytnofmeckcimodaa", sum := "0d5f795ef498418273fce6262de9b5d386528e4d7edeed9ee48addf229edb905", func := "busbar/busbarlaw27.FileReplays", spec := "fileReplays", unfollowed := true, recurses := true, plainKeys := false, apart := false, narrowed := true }
def FileReplaysUptoSaid : Prop := fileReplaysUptoRow.holds Try.pinned (OpenSpec.upto fileReplaysSpec)

end Rows
end Go.Proofs.Ytnofmeckcimodaa
