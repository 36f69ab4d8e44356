/-
  No cell of these rows narrows 'for every input' (looked for: loops, veiled, ifaces, maps, wideKeys, modest, calm, conditions, laid).
  DERIVED. THE GIVEN ROWS OF THIS SEAT. 11 by the template 'for every input the law returns true; each argument reads behind the call as it read before'; 0 by the template 'total and deterministic' (their statements: YtcdnkkakfkkpgaaTotals.lean).
  GIVEN WITH THE SEED: the statements are not yours to turn. If you find one false, say at which input.
  Laid BY PROGRAM, IN A SANDBOX (cutbox-rows.mjs): the forced cells as the released guide's own fill.sh prints them over the translation e0fe3f5a1c0e68b9… (all of the seat's roots in one cut). By AI agents, Wed Nov 11 2026. No macro, syntax, notation, axiom, sorry.
-/
import Derived.Test.YtcdnkkakfkkpgaaChecked
import GoSem.Claim
import GoSem.ClaimJoined
import GoSem.ClaimMapViews
import Derived.JoinedTies
import Derived.KernelRfl
namespace Go.Proofs.Ytcdnkkakfkkpgaa
/- THE CELL 'sum', in the pinned program and in every row, IS THE sha256 OF THE DUMP (.gsa) THAT YtcdnkkakfkkpgaaProg.lean LOADS. Nothing in Lean hashes anything: it is a label: what it is worth is what the hold of that sum in a sandbox is worth. -/
noncomputable def Try.pinned : Pinned := { name := "ytcdnkkakfkkpgaa", sum := "e0fe3f5a1c0e68b9944bcd84c09d2e9f48d31040fa5ae35ec1bd4e1e1ac2ab65", checked := Try.checked }
namespace Rows
def none {H : Type} : Left H := { results := [], args := [] }

/-- 'busbarlaw17.StoreSpent': WHATEVER THE INPUT: true; the input reads as it did. -/
def storeSpentSpec : ChangeSpec := { name := "storeSpent", fn := fun _ => fun
  | [d1, d2] => { results := [.lit (.bool true)], args := [d1, d2] }
  | _ => none }
def storeSpentRow : OpenClaim := { program := "ytcdnkkakfkkpgaa", sum := "e0fe3f5a1c0e68b9944bcd84c09d2e9f48d31040fa5ae35ec1bd4e1e1ac2ab65", func := "busbar/busbarlaw17.StoreSpent", spec := "storeSpent", plainKeys := false, apart := false }
def StoreSpentSaid : Prop := storeSpentRow.holds Try.pinned (OpenSpec.ofChange storeSpentSpec)

/-- ITS FALSE NEIGHBOUR: 'it returns false'. Refute it at one input. -/
def storeSpentWrong : ChangeSpec := { name := "storeSpent", fn := fun _ => fun
  | [d1, d2] => { results := [.lit (.bool false)], args := [d1, d2] }
  | _ => none }
def StoreSpentWrongFalsely : Prop := storeSpentRow.holds Try.pinned (OpenSpec.ofChange storeSpentWrong)

/-- 'busbarlaw17.StoreOrders': WHATEVER THE INPUT: true; the input reads as it did. -/
def storeOrdersSpec : ChangeSpec := { name := "storeOrders", fn := fun _ => fun
  | [d1, d2, d3] => { results := [.lit (.bool true)], args := [d1, d2, d3] }
  | _ => none }
def storeOrdersRow : OpenClaim := { program := "ytcdnkkakfkkpgaa", sum := "e0fe3f5a1c0e68b9944bcd84c09d2e9f48d31040fa5ae35ec1bd4e1e1ac2ab65", func := "busbar/busbarlaw17.StoreOrders", spec := "storeOrders", plainKeys := false, apart := false }
def StoreOrdersSaid : Prop := storeOrdersRow.holds Try.pinned (OpenSpec.ofChange storeOrdersSpec)

/-- ITS FALSE NEIGHBOUR: 'it returns false'. Refute it at one input. -/
def storeOrdersWrong : ChangeSpec := { name := "storeOrders", fn := fun _ => fun
  | [d1, d2, d3] => { results := [.lit (.bool false)], args := [d1, d2, d3] }
  | _ => none }
def StoreOrdersWrongFalsely : Prop := storeOrdersRow.holds Try.pinned (OpenSpec.ofChange storeOrdersWrong)

/-- 'busbarlaw17.StoreWhole': WHATEVER THE INPUT: true; the input reads as it did. -/
def storeWholeSpec : ChangeSpec := { name := "storeWhole", fn := fun _ => fun
  | [d1, d2] => { results := [.lit (.bool true)], args := [d1, d2] }
  | _ => none }
def storeWholeRow : OpenClaim := { program := "ytcdnkkakfkkpgaa", sum := "e0fe3f5a1c0e68b9944bcd84c09d2e9f48d31040fa5ae35ec1bd4e1e1ac2ab65", func := "busbar/busbarlaw17.StoreWhole", spec := "storeWhole", plainKeys := false, apart := false }
def StoreWholeSaid : Prop := storeWholeRow.holds Try.pinned (OpenSpec.ofChange storeWholeSpec)

/-- ITS FALSE NEIGHBOUR: 'it returns false'. Refute it at one input. -/
def storeWholeWrong : ChangeSpec := { name := "storeWhole", fn := fun _ => fun
  | [d1, d2] => { results := [.lit (.bool false)], args := [d1, d2] }
  | _ => none }
def StoreWholeWrongFalsely : Prop := storeWholeRow.holds Try.pinned (OpenSpec.ofChange storeWholeWrong)

/-- 'busbarlaw17.StoreKeeps': WHATEVER THE INPUT: true; the input reads as it did. -/
def storeKeepsSpec : ChangeSpec := { name := "storeKeeps", fn := fun _ => fun
  | [d1, d2, d3] => { results := [.lit (.bool true)], args := [d1, d2, d3] }
  | _ => none }
def storeKeepsRow : OpenClaim := { program := "ytcdnkkakfkkpgaa", sum := "e0fe3f5a1c0e68b9944bcd84c09d2e9f48d31040fa5ae35ec1bd4e1e1ac2ab65", func := "busbar/busbarlaw17.StoreKeeps", spec := "storeKeeps", plainKeys := false, apart := false }
def StoreKeepsSaid : Prop := storeKeepsRow.holds Try.pinned (OpenSpec.ofChange storeKeepsSpec)

/-- ITS FALSE NEIGHBOUR: 'it returns false'. Refute it at one input. -/
def storeKeepsWrong : ChangeSpec := { name := "storeKeeps", fn := fun _ => fun
  | [d1, d2, d3] => { results := [.lit (.bool false)], args := [d1, d2, d3] }
  | _ => none }
def StoreKeepsWrongFalsely : Prop := storeKeepsRow.holds Try.pinned (OpenSpec.ofChange storeKeepsWrong)

/-- 'busbarlaw17.StoreFull': WHATEVER THE INPUT: true; the input reads as it did. -/
def storeFullSpec : ChangeSpec := { name := "storeFull", fn := fun _ => fun
  | [d1, d2] => { results := [.lit (.bool true)], args := [d1, d2] }
  | _ => none }
def storeFullRow : OpenClaim := { program := "ytcdnkkakfkkpgaa", sum := "e0fe3f5a1c0e68b9944bcd84c09d2e9f48d31040fa5ae35ec1bd4e1e1ac2ab65", func := "busbar/busbarlaw17.StoreFull", spec := "storeFull", plainKeys := false, apart := false }
def StoreFullSaid : Prop := storeFullRow.holds Try.pinned (OpenSpec.ofChange storeFullSpec)

/-- ITS FALSE NEIGHBOUR: 'it returns false'. Refute it at one input. -/
def storeFullWrong : ChangeSpec := { name := "storeFull", fn := fun _ => fun
  | [d1, d2] => { results := [.lit (.bool false)], args := [d1, d2] }
  | _ => none }
def StoreFullWrongFalsely : Prop := storeFullRow.holds Try.pinned (OpenSpec.ofChange storeFullWrong)

/-- 'busbarlaw18.BuffRests': WHATEVER THE INPUT: true; the input reads as it did. -/
def buffRestsSpec : ChangeSpec := { name := "buffRests", fn := fun _ => fun
  | [d1, d2, d3] => { results := [.lit (.bool true)], args := [d1, d2, d3] }
  | _ => none }
def buffRestsRow : OpenClaim := { program := "ytcdnkkakfkkpgaa", sum := "e0fe3f5a1c0e68b9944bcd84c09d2e9f48d31040fa5ae35ec1bd4e1e1ac2ab65", func := "busbar/busbarlaw18.BuffRests", spec := "buffRests", unfollowed := true, recurses := true, plainKeys := false, apart := false }
def BuffRestsSaid : Prop := buffRestsRow.holds Try.pinned (OpenSpec.ofChange buffRestsSpec)

/-- ITS FALSE NEIGHBOUR: 'it returns false'. Refute it at one input. -/
def buffRestsWrong : ChangeSpec := { name := "buffRests", fn := fun _ => fun
  | [d1, d2, d3] => { results := [.lit (.bool false)], args := [d1, d2, d3] }
  | _ => none }
def BuffRestsWrongFalsely : Prop := buffRestsRow.holds Try.pinned (OpenSpec.ofChange buffRestsWrong)

/-- 'busbarlaw18.BuffTells': WHATEVER THE INPUT: true; the input reads as it did. -/
def buffTellsSpec : ChangeSpec := { name := "buffTells", fn := fun _ => fun
  | [d1, d2, d3, d4] => { results := [.lit (.bool true)], args := [d1, d2, d3, d4] }
  | _ => none }
def buffTellsRow : OpenClaim := { program := "ytcdnkkakfkkpgaa", sum := "e0fe3f5a1c0e68b9944bcd84c09d2e9f48d31040fa5ae35ec1bd4e1e1ac2ab65", func := "busbar/busbarlaw18.BuffTells", spec := "buffTells", unfollowed := true, recurses := true, plainKeys := false, apart := false }
def BuffTellsSaid : Prop := buffTellsRow.holds Try.pinned (OpenSpec.ofChange buffTellsSpec)

/-- ITS FALSE NEIGHBOUR: 'it returns false'. Refute it at one input. -/
def buffTellsWrong : ChangeSpec := { name := "buffTells", fn := fun _ => fun
  | [d1, d2, d3, d4] => { results := [.lit (.bool false)], args := [d1, d2, d3, d4] }
  | _ => none }
def BuffTellsWrongFalsely : Prop := buffTellsRow.holds Try.pinned (OpenSpec.ofChange buffTellsWrong)

/-- 'busbarlaw17.StorePlays': WHATEVER THE INPUT: true; the input reads as it did. -/
def storePlaysSpec : ChangeSpec := { name := "storePlays", fn := fun _ => fun
  | [d1, d2, d3, d4, d5, d6, d7] => { results := [.lit (.bool true)], args := [d1, d2, d3, d4, d5, d6, d7] }
  | _ => none }
def storePlaysRow : OpenClaim := { program := "ytcdnkkakfkkpgaa", sum := "e0fe3f5a1c0e68b9944bcd84c09d2e9f48d31040fa5ae35ec1bd4e1e1ac2ab65", func := "busbar/busbarlaw17.StorePlays", spec := "storePlays", plainKeys := false, apart := false }
def StorePlaysSaid : Prop := storePlaysRow.holds Try.pinned (OpenSpec.ofChange storePlaysSpec)

/-- ITS FALSE NEIGHBOUR: 'it returns false'. Refute it at one input. -/
def storePlaysWrong : ChangeSpec := { name := "storePlays", fn := fun _ => fun
  | [d1, d2, d3, d4, d5, d6, d7] => { results := [.lit (.bool false)], args := [d1, d2, d3, d4, d5, d6, d7] }
  | _ => none }
def StorePlaysWrongFalsely : Prop := storePlaysRow.holds Try.pinned (OpenSpec.ofChange storePlaysWrong)

/-- 'busbarlaw18.BuffLays': WHATEVER THE INPUT: true; the input reads as it did. -/
def buffLaysSpec : ChangeSpec := { name := "buffLays", fn := fun _ => fun
  | [d1, d2] => { results := [.lit (.bool true)], args := [d1, d2] }
  | _ => none }
def buffLaysRow : OpenClaim := { program := "ytcdnkkakfkkpgaa", sum := "e0fe3f5a1c0e68b9944bcd84c09d2e9f48d31040fa5ae35ec1bd4e1e1ac2ab65", func := "busbar/busbarlaw18.BuffLays", spec := "buffLays", unfollowed := true, recurses := true, plainKeys := false, apart := false }
def BuffLaysSaid : Prop := buffLaysRow.holds Try.pinned (OpenSpec.ofChange buffLaysSpec)

/-- ITS FALSE NEIGHBOUR: 'it returns false'. Refute it at one input. -/
def buffLaysWrong : ChangeSpec := { name := "buffLays", fn := fun _ => fun
  | [d1, d2] => { results := [.lit (.bool false)], args := [d1, d2] }
  | _ => none }
def BuffLaysWrongFalsely : Prop := buffLaysRow.holds Try.pinned (OpenSpec.ofChange buffLaysWrong)

/-- 'busbarlaw18.BuffPuts': WHATEVER THE INPUT: true; the input reads as it did. -/
def buffPutsSpec : ChangeSpec := { name := "buffPuts", fn := fun _ => fun
  | [d1, d2, d3, d4] => { results := [.lit (.bool true)], args := [d1, d2, d3, d4] }
  | _ => none }
def buffPutsRow : OpenClaim := { program := "ytcdnkkakfkkpgaa", sum := "e0fe3f5a1c0e68b9944bcd84c09d2e9f48d31040fa5ae35ec1bd4e1e1ac2ab65", func := "busbar/busbarlaw18.BuffPuts", spec := "buffPuts", unfollowed := true, recurses := true, plainKeys := false, apart := false }
def BuffPutsSaid : Prop := buffPutsRow.holds Try.pinned (OpenSpec.ofChange buffPutsSpec)

/-- ITS FALSE NEIGHBOUR: 'it returns false'. Refute it at one input. -/
def buffPutsWrong : ChangeSpec := { name := "buffPuts", fn := fun _ => fun
  | [d1, d2, d3, d4] => { results := [.lit (.bool false)], args := [d1, d2, d3, d4] }
  | _ => none }
def BuffPutsWrongFalsely : Prop := buffPutsRow.holds Try.pinned (OpenSpec.ofChange buffPutsWrong)

/-- 'busbarlaw18.BuffOrders': WHATEVER THE INPUT: true; the input reads as it did. -/
def buffOrdersSpec : ChangeSpec := { name := "buffOrders", fn := fun _ => fun
  | [d1, d2] => { results := [.lit (.bool true)], args := [d1, d2] }
  | _ => none }
def buffOrdersRow : OpenClaim := { program := "ytcdnkkakfkkpgaa", sum := "e0fe3f5a1c0e68b9944bcd84c09d2e9f48d31040fa5ae35ec1bd4e1e1ac2ab65", func := "busbar/busbarlaw18.BuffOrders", spec := "buffOrders", unfollowed := true, recurses := true, plainKeys := false, apart := false }
def BuffOrdersSaid : Prop := buffOrdersRow.holds Try.pinned (OpenSpec.ofChange buffOrdersSpec)

/-- ITS FALSE NEIGHBOUR: 'it returns false'. Refute it at one input. -/
def buffOrdersWrong : ChangeSpec := { name := "buffOrders", fn := fun _ => fun
  | [d1, d2] => { results := [.lit (.bool false)], args := [d1, d2] }
  | _ => none }
def BuffOrdersWrongFalsely : Prop := buffOrdersRow.holds Try.pinned (OpenSpec.ofChange buffOrdersWrong)

/- THE SECOND FORM. 'bulk': how many values and letters a reading holds, each counted each time it is reached (what is shared counts as often as it is met; a slice's spare places count too). A statement '..UptoSaid' is the law's where the arguments, and the package variables that the reading takes, are together of bulk at most 1048576: NARROWER than '..Said'. Prove '..Said' where nothing that the law and all that it calls make is longer than what came in: it says more and counts as full. Else prove '..UptoSaid'. A law counts once. -/
mutual
def uptoBulk {H : Type} : DataW H → Nat
  | .lit (.string bytes) => bytes.length + 1
  | .lit _ => 1
  | .nil => 1
  | .ptr d => uptoBulk d + 1
  | .slice elems spare => uptoBulkAll elems + uptoBulkAll spare + 1
  | .agg parts => uptoBulkAll parts + 1
  | .iface _ d => uptoBulk d + 1
  | .map entries => uptoBulkEntries entries + 1
  | .held _ => 1
def uptoBulkAll {H : Type} : List (DataW H) → Nat
  | [] => 0
  | d :: r => uptoBulk d + uptoBulkAll r
def uptoBulkEntries {H : Type} : List (Lit × DataW H) → Nat
  | [] => 0
  | x :: r => uptoBulkEntry x + uptoBulkEntries r
def uptoBulkEntry {H : Type} : Lit × DataW H → Nat
  | (.string bytes, d) => bytes.length + uptoBulk d + 1
  | (_, d) => uptoBulk d + 1
 end
def uptoSmall : (H : Type) → List (DataW H) → Bool := fun _ ds => decide (uptoBulkAll ds ≤ 1048576)
def OpenSpec.upto (s : _root_.Go.ChangeSpec) : _root_.Go.OpenSpec := { _root_.Go.OpenSpec.ofChange s with cond := some uptoSmall }

/-- 'busbarlaw17.StoreSpent', WHERE WHAT IT READS IS OF BULK AT MOST 1048576: true; the input reads as it did. -/
def storeSpentUptoRow : OpenClaim := { program := "ytcdnkkakfkkpgaa", sum := "e0fe3f5a1c0e68b9944bcd84c09d2e9f48d31040fa5ae35ec1bd4e1e1ac2ab65", func := "busbar/busbarlaw17.StoreSpent", spec := "storeSpent", plainKeys := false, apart := false, narrowed := true }
def StoreSpentUptoSaid : Prop := storeSpentUptoRow.holds Try.pinned (OpenSpec.upto storeSpentSpec)

/-- 'busbarlaw17.StoreOrders', WHERE WHAT IT READS IS OF BULK AT MOST 1048576: true; the input reads as it did. -/
def storeOrdersUptoRow : OpenClaim := { program := "ytcdnkkakfkkpgaa", sum := "e0fe3f5a1c0e68b9944bcd84c09d2e9f48d31040fa5ae35ec1bd4e1e1ac2ab65", func := "busbar/busbarlaw17.StoreOrders", spec := "storeOrders", plainKeys := false, apart := false, narrowed := true }
def StoreOrdersUptoSaid : Prop := storeOrdersUptoRow.holds Try.pinned (OpenSpec.upto storeOrdersSpec)

/-- 'busbarlaw17.StoreWhole', WHERE WHAT IT READS IS OF BULK AT MOST 1048576: true; the input reads as it did. -/
def storeWholeUptoRow : OpenClaim := { program := "ytcdnkkakfkkpgaa", sum := "e0fe3f5a1c0e68b9944bcd84c09d2e9f48d31040fa5ae35ec1bd4e1e1ac2ab65", func := "busbar/busbarlaw17.StoreWhole", spec := "storeWhole", plainKeys := false, apart := false, narrowed := true }
def StoreWholeUptoSaid : Prop := storeWholeUptoRow.holds Try.pinned (OpenSpec.upto storeWholeSpec)

/-- 'busbarlaw17.StoreKeeps', WHERE WHAT IT READS IS OF BULK AT MOST 1048576: true; the input reads as it did. -/
def storeKeepsUptoRow : OpenClaim := { program := "ytcdnkkakfkkpgaa", sum := "e0fe3f5a1c0e68b9944bcd84c09d2e9f48d31040fa5ae35ec1bd4e1e1ac2ab65", func := "busbar/busbarlaw17.StoreKeeps", spec := "storeKeeps", plainKeys := false, apart := false, narrowed := true }
def StoreKeepsUptoSaid : Prop := storeKeepsUptoRow.holds Try.pinned (OpenSpec.upto storeKeepsSpec)

/-- 'busbarlaw17.StoreFull', WHERE WHAT IT READS IS OF BULK AT MOST 1048576: true; the input reads as it did. -/
def storeFullUptoRow : OpenClaim := { program := "ytcdnkkakfkkpgaa", sum := "e0fe3f5a1c0e68b9944bcd84c09d2e9f48d31040fa5ae35ec1bd4e1e1ac2ab65", func := "busbar/busbarlaw17.StoreFull", spec := "storeFull", plainKeys := false, apart := false, narrowed := true }
def StoreFullUptoSaid : Prop := storeFullUptoRow.holds Try.pinned (OpenSpec.upto storeFullSpec)

/-- 'busbarlaw18.BuffRests', WHERE WHAT IT READS IS OF BULK AT MOST 1048576: true; the input reads as it did. -/
def buffRestsUptoRow : OpenClaim := { program := "ytcdnkkakfkkpgaa", sum := "e0fe3f5a1c0e68b9944bcd84c09d2e9f48d31040fa5ae35ec1bd4e1e1ac2ab65", func := "busbar/busbarlaw18.BuffRests", spec := "buffRests", unfollowed := true, recurses := true, plainKeys := false, apart := false, narrowed := true }
def BuffRestsUptoSaid : Prop := buffRestsUptoRow.holds Try.pinned (OpenSpec.upto buffRestsSpec)

/-- 'busbarlaw18.BuffTells', WHERE WHAT IT READS IS OF BULK AT MOST 1048576: true; the input reads as it did. -/
def buffTellsUptoRow : OpenClaim := { program := "ytcdnkkakfkkpgaa", sum := "e0fe3f5a1c0e68b9944bcd84c09d2e9f48d31040fa5ae35ec1bd4e1e1ac2ab65", func := "busbar/busbarlaw18.BuffTells", spec := "buffTells", unfollowed := true, recurses := true, plainKeys := false, apart := false, narrowed := true }
def BuffTellsUptoSaid : Prop := buffTellsUptoRow.holds Try.pinned (OpenSpec.upto buffTellsSpec)

/-- 'busbarlaw17.StorePlays', WHERE WHAT IT READS IS OF BULK AT MOST 1048576: true; the input reads as it did. -/
def storePlaysUptoRow : OpenClaim := { program := "ytcdnkkakfkkpgaa", sum := "e0fe3f5a1c0e68b9944bcd84c09d2e9f48d31040fa5ae35ec1bd4e1e1ac2ab65", func := "busbar/busbarlaw17.StorePlays", spec := "storePlays", plainKeys := false, apart := false, narrowed := true }
def StorePlaysUptoSaid : Prop := storePlaysUptoRow.holds Try.pinned (OpenSpec.upto storePlaysSpec)

/-- 'busbarlaw18.BuffLays', WHERE WHAT IT READS IS OF BULK AT MOST 1048576: true; the input reads as it did. -/
def buffLaysUptoRow : OpenClaim := { program := "ytcdnkkakfkkpgaa", sum := "e0fe3f5a1c0e68b9944bcd84c09d2e9f48d31040fa5ae35ec1bd4e1e1ac2ab65", func := "busbar/busbarlaw18.BuffLays", spec := "buffLays", unfollowed := true, recurses := true, plainKeys := false, apart := false, narrowed := true }
def BuffLaysUptoSaid : Prop := buffLaysUptoRow.holds Try.pinned (OpenSpec.upto buffLaysSpec)

/-- 'busbarlaw18.BuffPuts', WHERE WHAT IT READS IS OF BULK AT MOST 1048576: true; the input reads as it did. -/
def buffPutsUptoRow : OpenClaim := { program := "ytcdnkkakfkkpgaa", sum := "e0fe3f5a1c0e68b9944bcd84c09d2e9f48d31040fa5ae35ec1bd4e1e1ac2ab65", func := "busbar/busbarlaw18.BuffPuts", spec := "buffPuts", unfollowed := true, recurses := true, plainKeys := false, apart := false, narrowed := true }
def BuffPutsUptoSaid : Prop := buffPutsUptoRow.holds Try.pinned (OpenSpec.upto buffPutsSpec)

/-- 'busbarlaw18.BuffOrders', WHERE WHAT IT READS IS OF BULK AT MOST 1048576: true; the input reads as it did. -/
def buffOrdersUptoRow : OpenClaim := { program := "ytcdnkkakfkkpgaa", sum := "e0fe3f5a1c0e68b9944bcd84c09d2e9f48d31040fa5ae35ec1bd4e1e1ac2ab65", func := "busbar/busbarlaw18.BuffOrders", spec := "buffOrders", unfollowed := true, recurses := true, plainKeys := false, apart := false, narrowed := true }
def BuffOrdersUptoSaid : Prop := buffOrdersUptoRow.holds Try.pinned (OpenSpec.upto buffOrdersSpec)

end Rows
end Go.Proofs.Ytcdnkkakfkkpgaa
