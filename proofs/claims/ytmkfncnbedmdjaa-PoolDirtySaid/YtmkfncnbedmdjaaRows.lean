/-
  No cell of these rows narrows 'for every input' (looked for: loops, veiled, ifaces, maps, wideKeys, modest, calm, conditions, laid).
  DERIVED. THE GIVEN ROWS OF THIS SEAT. 5 by the template 'for every input the law returns true; each argument reads behind the call as it read before'; 0 by the template 'total and deterministic' (their statements: YtmkfncnbedmdjaaTotals.lean).
  GIVEN WITH THE SEED: the statements are not yours to turn. If you find one false, say at which input.
  Laid BY PROGRAM, IN A SANDBOX (cutbox-rows.mjs): the forced cells as the released guide's own fill.sh prints them over the translation c5ef4df837341240… (all of the seat's roots in one cut). By AI agents, Wed Nov 11 2026. No macro, syntax, notation, axiom, sorry.
-/
import Derived.Test.YtmkfncnbedmdjaaChecked
import GoSem.Claim
import GoSem.ClaimJoined
import GoSem.ClaimMapViews
import Derived.JoinedTies
import Derived.KernelRfl
namespace Go.Proofs.Ytmkfncnbedmdjaa
/- THE CELL 'sum', in the pinned program and in every row, IS THE sha256 OF THE DUMP (.gsa) THAT YtmkfncnbedmdjaaProg.lean LOADS. Nothing in Lean hashes anything: it is a label: what it is worth is what the hold of that sum in a sandbox is worth. -/
noncomputable def Try.pinned : Pinned := { name := "ytmkfncnbedmdjaa", sum := "c5ef4df83734124055ba3b00b0ab5ae66a30f70c2f042a4480d7b2c52aaa957b", checked := Try.checked }
namespace Rows
def none {H : Type} : Left H := { results := [], args := [] }

/-- 'pagemendlaw25.ArchiverParts': WHATEVER THE INPUT: true; the input reads as it did. -/
def archiverPartsSpec : ChangeSpec := { name := "archiverParts", fn := fun _ => fun
  | [d1, d2] => { results := [.lit (.bool true)], args := [d1, d2] }
  | _ => none }
def archiverPartsRow : OpenClaim := { program := "ytmkfncnbedmdjaa", sum := "c5ef4df83734124055ba3b00b0ab5ae66a30f70c2f042a4480d7b2c52aaa957b", func := "pagemend/pagemendlaw25.ArchiverParts", spec := "archiverParts", recurses := true, apart := false }
def ArchiverPartsSaid : Prop := archiverPartsRow.holds Try.pinned (OpenSpec.ofChange archiverPartsSpec)

/-- ITS FALSE NEIGHBOUR: 'it returns false'. Refute it at one input. -/
def archiverPartsWrong : ChangeSpec := { name := "archiverParts", fn := fun _ => fun
  | [d1, d2] => { results := [.lit (.bool false)], args := [d1, d2] }
  | _ => none }
def ArchiverPartsWrongFalsely : Prop := archiverPartsRow.holds Try.pinned (OpenSpec.ofChange archiverPartsWrong)

/-- 'pagemendlaw10.PoolClock': WHATEVER THE INPUT: true; the input reads as it did. -/
def poolClockSpec : ChangeSpec := { name := "poolClock", fn := fun _ => fun
  | [d1, d2] => { results := [.lit (.bool true)], args := [d1, d2] }
  | _ => none }
def poolClockRow : OpenClaim := { program := "ytmkfncnbedmdjaa", sum := "c5ef4df83734124055ba3b00b0ab5ae66a30f70c2f042a4480d7b2c52aaa957b", func := "pagemend/pagemendlaw10.PoolClock", spec := "poolClock", inPlace := ["internal/abi.NoEscape", "internal/bytealg.MakeNoZero"], unfollowed := true, recurses := true, apart := false }
def PoolClockSaid : Prop := poolClockRow.holds Try.pinned (OpenSpec.ofChange poolClockSpec)

/-- ITS FALSE NEIGHBOUR: 'it returns false'. Refute it at one input. -/
def poolClockWrong : ChangeSpec := { name := "poolClock", fn := fun _ => fun
  | [d1, d2] => { results := [.lit (.bool false)], args := [d1, d2] }
  | _ => none }
def PoolClockWrongFalsely : Prop := poolClockRow.holds Try.pinned (OpenSpec.ofChange poolClockWrong)

/-- 'pagemendlaw10.PoolLimits': WHATEVER THE INPUT: true; the input reads as it did. -/
def poolLimitsSpec : ChangeSpec := { name := "poolLimits", fn := fun _ => fun
  | [d1, d2] => { results := [.lit (.bool true)], args := [d1, d2] }
  | _ => none }
def poolLimitsRow : OpenClaim := { program := "ytmkfncnbedmdjaa", sum := "c5ef4df83734124055ba3b00b0ab5ae66a30f70c2f042a4480d7b2c52aaa957b", func := "pagemend/pagemendlaw10.PoolLimits", spec := "poolLimits", inPlace := ["internal/abi.NoEscape", "internal/bytealg.MakeNoZero"], unfollowed := true, recurses := true, apart := false }
def PoolLimitsSaid : Prop := poolLimitsRow.holds Try.pinned (OpenSpec.ofChange poolLimitsSpec)

/-- ITS FALSE NEIGHBOUR: 'it returns false'. Refute it at one input. -/
def poolLimitsWrong : ChangeSpec := { name := "poolLimits", fn := fun _ => fun
  | [d1, d2] => { results := [.lit (.bool false)], args := [d1, d2] }
  | _ => none }
def PoolLimitsWrongFalsely : Prop := poolLimitsRow.holds Try.pinned (OpenSpec.ofChange poolLimitsWrong)

/-- 'pagemendlaw10.PoolDirty': WHATEVER THE INPUT: true; the input reads as it did. -/
def poolDirtySpec : ChangeSpec := { name := "poolDirty", fn := fun _ => fun
  | [d] => { results := [.lit (.bool true)], args := [d] }
  | _ => none }
def poolDirtyRow : OpenClaim := { program := "ytmkfncnbedmdjaa", sum := "c5ef4df83734124055ba3b00b0ab5ae66a30f70c2f042a4480d7b2c52aaa957b", func := "pagemend/pagemendlaw10.PoolDirty", spec := "poolDirty", inPlace := ["internal/abi.NoEscape", "internal/bytealg.MakeNoZero"], unfollowed := true, recurses := true, apart := false }
def PoolDirtySaid : Prop := poolDirtyRow.holds Try.pinned (OpenSpec.ofChange poolDirtySpec)

/-- ITS FALSE NEIGHBOUR: 'it returns false'. Refute it at one input. -/
def poolDirtyWrong : ChangeSpec := { name := "poolDirty", fn := fun _ => fun
  | [d] => { results := [.lit (.bool false)], args := [d] }
  | _ => none }
def PoolDirtyWrongFalsely : Prop := poolDirtyRow.holds Try.pinned (OpenSpec.ofChange poolDirtyWrong)

/-- 'pagemendlaw10.PoolExact': WHATEVER THE INPUT: true; the input reads as it did. -/
def poolExactSpec : ChangeSpec := { name := "poolExact", fn := fun _ => fun
  | [d1, d2, d3, d4, d5] => { results := [.lit (.bool true)], args := [d1, d2, d3, d4, d5] }
  | _ => none }
def poolExactRow : OpenClaim := { program := "ytmkfncnbedmdjaa", sum := "c5ef4df83734124055ba3b00b0ab5ae66a30f70c2f042a4480d7b2c52aaa957b", func := "pagemend/pagemendlaw10.PoolExact", spec := "poolExact", inPlace := ["internal/abi.NoEscape", "internal/bytealg.MakeNoZero"], unfollowed := true, recurses := true, apart := false }
def PoolExactSaid : Prop := poolExactRow.holds Try.pinned (OpenSpec.ofChange poolExactSpec)

/-- ITS FALSE NEIGHBOUR: 'it returns false'. Refute it at one input. -/
def poolExactWrong : ChangeSpec := { name := "poolExact", fn := fun _ => fun
  | [d1, d2, d3, d4, d5] => { results := [.lit (.bool false)], args := [d1, d2, d3, d4, d5] }
  | _ => none }
def PoolExactWrongFalsely : Prop := poolExactRow.holds Try.pinned (OpenSpec.ofChange poolExactWrong)

/- THE SECOND FORM. 'bulk': how many values and letters a reading holds, each counted each time it is reached (what is shared counts as often as it is met; a slice's spare places count too). A statement '..UptoSaid' is the law's where the arguments, and the package variables that the reading takes, are together of bulk at most 1048576: NARROWER than '..Said'. Prove '..Said' where nothing that the law and all that it calls make is longer than what came in: it says more and counts as full. Else prove '..UptoSaid'. A law counts once. -/
mutual
def uptoBulk {H : Type} : DataW H → Nat
  | .lit (.string bytes) => bytes.length + 1
  | .lit _ => 1
  | .nil => 1
  | .ptr d => uptoBulk d + 1
  | .slice elems spare => uptoBulkAll elems + uptoBulkAll spare + 1
  | .agg parts => uptoBulkAll parts + 1
  | .iface _ d => uptoBulk d + 1
  | .map entries => uptoBulkEntries entries + 1
  | .held _ => 1
def uptoBulkAll {H : Type} : List (DataW H) → Nat
  | [] => 0
  | d :: r => uptoBulk d + uptoBulkAll r
def uptoBulkEntries {H : Type} : List (Lit × DataW H) → Nat
  | [] => 0
  | x :: r => uptoBulkEntry x + uptoBulkEntries r
def uptoBulkEntry {H : Type} : Lit × DataW H → Nat
  | (.string bytes, d) => bytes.length + uptoBulk d + 1
  | (_, d) => uptoBulk d + 1
 end
def uptoSmall : (H : Type) → List (DataW H) → Bool := fun _ ds => decide (uptoBulkAll ds ≤ 1048576)
def OpenSpec.upto (s : _root_.Go.ChangeSpec) : _root_.Go.OpenSpec := { _root_.Go.OpenSpec.ofChange s with cond := some uptoSmall }

/-- 'pagemendlaw25.ArchiverParts', WHERE WHAT IT READS IS OF BULK AT MOST 1048576: true; the input reads as it did. -/
def archiverPartsUptoRow : OpenClaim := { program := "ytmkfncnbedmdjaa", sum := "c5ef4df83734124055ba3b00b0ab5ae66a30f70c2f042a4480d7b2c52aaa957b", func := "pagemend/pagemendlaw25.ArchiverParts", spec := "archiverParts", recurses := true, apart := false, narrowed := true }
def ArchiverPartsUptoSaid : Prop := archiverPartsUptoRow.holds Try.pinned (OpenSpec.upto archiverPartsSpec)

/-- 'pagemendlaw10.PoolClock', WHERE WHAT IT READS IS OF BULK AT MOST 1048576: true; the input reads as it did. -/
def poolClockUptoRow : OpenClaim := { program := "ytmkfncnbedmdjaa", sum := "c5ef4df83734124055ba3b00b0ab5ae66a30f70c2f042a4480d7b2c52aaa957b", func := "pagemend/pagemendlaw10.PoolClock", spec := "poolClock", inPlace := ["internal/abi.NoEscape", "internal/bytealg.MakeNoZero"], unfollowed := true, recurses := true, apart := false, narrowed := true }
def PoolClockUptoSaid : Prop := poolClockUptoRow.holds Try.pinned (OpenSpec.upto poolClockSpec)

/-- 'pagemendlaw10.PoolLimits', WHERE WHAT IT READS IS OF BULK AT MOST 1048576: true; the input reads as it did. -/
def poolLimitsUptoRow : OpenClaim := { program := "ytmkfncnbedmdjaa", sum := "c5ef4df83734124055ba3b00b0ab5ae66a30f70c2f042a4480d7b2c52aaa957b", func := "pagemend/pagemendlaw10.PoolLimits", spec := "poolLimits", inPlace := ["internal/abi.NoEscape", "internal/bytealg.MakeNoZero"], unfollowed := true, recurses := true, apart := false, narrowed := true }
def PoolLimitsUptoSaid : Prop := poolLimitsUptoRow.holds Try.pinned (OpenSpec.upto poolLimitsSpec)

/-- 'pagemendlaw10.PoolDirty', WHERE WHAT IT READS IS OF BULK AT MOST 1048576: true; the input reads as it did. -/
def poolDirtyUptoRow : OpenClaim := { program := "ytmkfncnbedmdjaa", sum := "c5ef4df83734124055ba3b00b0ab5ae66a30f70c2f042a4480d7b2c52aaa957b", func := "pagemend/pagemendlaw10.PoolDirty", spec := "poolDirty", inPlace := ["internal/abi.NoEscape", "internal/bytealg.MakeNoZero"], unfollowed := true, recurses := true, apart := false, narrowed := true }
def PoolDirtyUptoSaid : Prop := poolDirtyUptoRow.holds Try.pinned (OpenSpec.upto poolDirtySpec)

/-- 'pagemendlaw10.PoolExact', WHERE WHAT IT READS IS OF BULK AT MOST 1048576: true; the input reads as it did. -/
def poolExactUptoRow : OpenClaim := { program := "ytmkfncnbedmdjaa", sum := "c5ef4df83734124055ba3b00b0ab5ae66a30f70c2f042a4480d7b2c52aaa957b", func := "pagemend/pagemendlaw10.PoolExact", spec := "poolExact", inPlace := ["internal/abi.NoEscape", "internal/bytealg.MakeNoZero"], unfollowed := true, recurses := true, apart := false, narrowed := true }
def PoolExactUptoSaid : Prop := poolExactUptoRow.holds Try.pinned (OpenSpec.upto poolExactSpec)

end Rows
end Go.Proofs.Ytmkfncnbedmdjaa
