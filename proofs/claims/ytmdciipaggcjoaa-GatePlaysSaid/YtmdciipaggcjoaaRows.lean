/-
  No cell of these rows narrows 'for every input' (looked for: loops, veiled, ifaces, maps, wideKeys, modest, calm, conditions, laid).
  DERIVED. THE GIVEN ROWS OF THIS SEAT. 6 by the template 'for every input the law returns true; each argument reads behind the call as it read before'; 0 by the template 'total and deterministic' (their statements: YtmdciipaggcjoaaTotals.lean).
  GIVEN WITH THE SEED: the statements are not yours to turn. If you find one false, say at which input.
  Laid BY PROGRAM, IN A SANDBOX (cutbox-rows.mjs): the forced cells as the released guide's own fill.sh prints them over the translation 9a7ca7986482655d… (all of the seat's roots in one cut). By AI agents, Wed Nov 11 2026. No macro, syntax, notation, axiom, sorry.
-/
import Derived.Test.YtmdciipaggcjoaaChecked
import GoSem.Claim
import GoSem.ClaimJoined
import GoSem.ClaimMapViews
import Derived.JoinedTies
import Derived.KernelRfl
namespace Go.Proofs.Ytmdciipaggcjoaa
/- THE CELL 'sum', in the pinned program and in every row, IS THE sha256 OF THE DUMP (.gsa) THAT YtmdciipaggcjoaaProg.lean LOADS. Nothing in Lean hashes anything: it is a label: what it is worth is what the hold of that sum in a sandbox is worth. -/
noncomputable def Try.pinned : Pinned := { name := "ytmdciipaggcjoaa", sum := "9a7ca7986482655d69e7654d8ad4d6b1dab10d62c1fe574545bc2404f9807f39", checked := Try.checked }
namespace Rows
def none {H : Type} : Left H := { results := [], args := [] }

/-- 'stillagelaw15.GateFlows': WHATEVER THE INPUT: true; the input reads as it did. -/
def gateFlowsSpec : ChangeSpec := { name := "gateFlows", fn := fun _ => fun
  | [d1, d2, d3] => { results := [.lit (.bool true)], args := [d1, d2, d3] }
  | _ => none }
def gateFlowsRow : OpenClaim := { program := "ytmdciipaggcjoaa", sum := "9a7ca7986482655d69e7654d8ad4d6b1dab10d62c1fe574545bc2404f9807f39", func := "stillage/stillagelaw15.GateFlows", spec := "gateFlows", apart := false }
def GateFlowsSaid : Prop := gateFlowsRow.holds Try.pinned (OpenSpec.ofChange gateFlowsSpec)

/-- ITS FALSE NEIGHBOUR: 'it returns false'. Refute it at one input. -/
def gateFlowsWrong : ChangeSpec := { name := "gateFlows", fn := fun _ => fun
  | [d1, d2, d3] => { results := [.lit (.bool false)], args := [d1, d2, d3] }
  | _ => none }
def GateFlowsWrongFalsely : Prop := gateFlowsRow.holds Try.pinned (OpenSpec.ofChange gateFlowsWrong)

/-- 'stillagelaw15.GateOrder': WHATEVER THE INPUT: true; the input reads as it did. -/
def gateOrderSpec : ChangeSpec := { name := "gateOrder", fn := fun _ => fun
  | [d1, d2] => { results := [.lit (.bool true)], args := [d1, d2] }
  | _ => none }
def gateOrderRow : OpenClaim := { program := "ytmdciipaggcjoaa", sum := "9a7ca7986482655d69e7654d8ad4d6b1dab10d62c1fe574545bc2404f9807f39", func := "stillage/stillagelaw15.GateOrder", spec := "gateOrder", apart := false }
def GateOrderSaid : Prop := gateOrderRow.holds Try.pinned (OpenSpec.ofChange gateOrderSpec)

/-- ITS FALSE NEIGHBOUR: 'it returns false'. Refute it at one input. -/
def gateOrderWrong : ChangeSpec := { name := "gateOrder", fn := fun _ => fun
  | [d1, d2] => { results := [.lit (.bool false)], args := [d1, d2] }
  | _ => none }
def GateOrderWrongFalsely : Prop := gateOrderRow.holds Try.pinned (OpenSpec.ofChange gateOrderWrong)

/-- 'stillagelaw15.GateLimits': WHATEVER THE INPUT: true; the input reads as it did. -/
def gateLimitsSpec : ChangeSpec := { name := "gateLimits", fn := fun _ => fun
  | [d1, d2] => { results := [.lit (.bool true)], args := [d1, d2] }
  | _ => none }
def gateLimitsRow : OpenClaim := { program := "ytmdciipaggcjoaa", sum := "9a7ca7986482655d69e7654d8ad4d6b1dab10d62c1fe574545bc2404f9807f39", func := "stillage/stillagelaw15.GateLimits", spec := "gateLimits", apart := false }
def GateLimitsSaid : Prop := gateLimitsRow.holds Try.pinned (OpenSpec.ofChange gateLimitsSpec)

/-- ITS FALSE NEIGHBOUR: 'it returns false'. Refute it at one input. -/
def gateLimitsWrong : ChangeSpec := { name := "gateLimits", fn := fun _ => fun
  | [d1, d2] => { results := [.lit (.bool false)], args := [d1, d2] }
  | _ => none }
def GateLimitsWrongFalsely : Prop := gateLimitsRow.holds Try.pinned (OpenSpec.ofChange gateLimitsWrong)

/-- 'stillagelaw15.GatePlays': WHATEVER THE INPUT: true; the input reads as it did. -/
def gatePlaysSpec : ChangeSpec := { name := "gatePlays", fn := fun _ => fun
  | [d1, d2] => { results := [.lit (.bool true)], args := [d1, d2] }
  | _ => none }
def gatePlaysRow : OpenClaim := { program := "ytmdciipaggcjoaa", sum := "9a7ca7986482655d69e7654d8ad4d6b1dab10d62c1fe574545bc2404f9807f39", func := "stillage/stillagelaw15.GatePlays", spec := "gatePlays", apart := false }
def GatePlaysSaid : Prop := gatePlaysRow.holds Try.pinned (OpenSpec.ofChange gatePlaysSpec)

/-- ITS FALSE NEIGHBOUR: 'it returns false'. Refute it at one input. -/
def gatePlaysWrong : ChangeSpec := { name := "gatePlays", fn := fun _ => fun
  | [d1, d2] => { results := [.lit (.bool false)], args := [d1, d2] }
  | _ => none }
def GatePlaysWrongFalsely : Prop := gatePlaysRow.holds Try.pinned (OpenSpec.ofChange gatePlaysWrong)

/-- 'stillagelaw15.GateCancels': WHATEVER THE INPUT: true; the input reads as it did. -/
def gateCancelsSpec : ChangeSpec := { name := "gateCancels", fn := fun _ => fun
  | [d1, d2, d3] => { results := [.lit (.bool true)], args := [d1, d2, d3] }
  | _ => none }
def gateCancelsRow : OpenClaim := { program := "ytmdciipaggcjoaa", sum := "9a7ca7986482655d69e7654d8ad4d6b1dab10d62c1fe574545bc2404f9807f39", func := "stillage/stillagelaw15.GateCancels", spec := "gateCancels", apart := false }
def GateCancelsSaid : Prop := gateCancelsRow.holds Try.pinned (OpenSpec.ofChange gateCancelsSpec)

/-- ITS FALSE NEIGHBOUR: 'it returns false'. Refute it at one input. -/
def gateCancelsWrong : ChangeSpec := { name := "gateCancels", fn := fun _ => fun
  | [d1, d2, d3] => { results := [.lit (.bool false)], args := [d1, d2, d3] }
  | _ => none }
def GateCancelsWrongFalsely : Prop := gateCancelsRow.holds Try.pinned (OpenSpec.ofChange gateCancelsWrong)

/-- 'stillagelaw15.GateTwice': WHATEVER THE INPUT: true; the input reads as it did. -/
def gateTwiceSpec : ChangeSpec := { name := "gateTwice", fn := fun _ => fun
  | [d1, d2, d3] => { results := [.lit (.bool true)], args := [d1, d2, d3] }
  | _ => none }
def gateTwiceRow : OpenClaim := { program := "ytmdciipaggcjoaa", sum := "9a7ca7986482655d69e7654d8ad4d6b1dab10d62c1fe574545bc2404f9807f39", func := "stillage/stillagelaw15.GateTwice", spec := "gateTwice", apart := false }
def GateTwiceSaid : Prop := gateTwiceRow.holds Try.pinned (OpenSpec.ofChange gateTwiceSpec)

/-- ITS FALSE NEIGHBOUR: 'it returns false'. Refute it at one input. -/
def gateTwiceWrong : ChangeSpec := { name := "gateTwice", fn := fun _ => fun
  | [d1, d2, d3] => { results := [.lit (.bool false)], args := [d1, d2, d3] }
  | _ => none }
def GateTwiceWrongFalsely : Prop := gateTwiceRow.holds Try.pinned (OpenSpec.ofChange gateTwiceWrong)

/- THE SECOND FORM. 'bulk': how many values and letters a reading holds, each counted each time it is reached (what is shared counts as often as it is met; a slice's spare places count too). A statement '..UptoSaid' is the law's where the arguments, and the package variables that the reading takes, are together of bulk at most 1048576: NARROWER than '..Said'. Prove '..Said' where nothing that the law and all that it calls make is longer than what came in: it says more and counts as full. Else prove '..UptoSaid'. A law counts once. -/
mutual
def uptoBulk {H : Type} : DataW H → Nat
  | .lit (.string bytes) => bytes.length + 1
  | .lit _ => 1
  | .nil => 1
  | .ptr d => uptoBulk d + 1
  | .slice elems spare => uptoBulkAll elems + uptoBulkAll spare + 1
  | .agg parts => uptoBulkAll parts + 1
  | .iface _ d => uptoBulk d + 1
  | .map entries => uptoBulkEntries entries + 1
  | .held _ => 1
def uptoBulkAll {H : Type} : List (DataW H) → Nat
  | [] => 0
  | d :: r => uptoBulk d + uptoBulkAll r
def uptoBulkEntries {H : Type} : List (Lit × DataW H) → Nat
  | [] => 0
  | x :: r => uptoBulkEntry x + uptoBulkEntries r
def uptoBulkEntry {H : Type} : Lit × DataW H → Nat
  | (.string bytes, d) => bytes.length + uptoBulk d + 1
  | (_, d) => uptoBulk d + 1
 end
def uptoSmall : (H : Type) → List (DataW H) → Bool := fun _ ds => decide (uptoBulkAll ds ≤ 1048576)
def OpenSpec.upto (s : _root_.Go.ChangeSpec) : _root_.Go.OpenSpec := { _root_.Go.OpenSpec.ofChange s with cond := some uptoSmall }

/-- 'stillagelaw15.GateFlows', WHERE WHAT IT READS IS OF BULK AT MOST 1048576: true; the input reads as it did. -/
def gateFlowsUptoRow : OpenClaim := { program := "ytmdciipaggcjoaa", sum := "9a7ca7986482655d69e7654d8ad4d6b1dab10d62c1fe574545bc2404f9807f39", func := "stillage/stillagelaw15.GateFlows", spec := "gateFlows", apart := false, narrowed := true }
def GateFlowsUptoSaid : Prop := gateFlowsUptoRow.holds Try.pinned (OpenSpec.upto gateFlowsSpec)

/-- 'stillagelaw15.GateOrder', WHERE WHAT IT READS IS OF BULK AT MOST 1048576: true; the input reads as it did. -/
def gateOrderUptoRow : OpenClaim := { program := "ytmdciipaggcjoaa", sum := "9a7ca7986482655d69e7654d8ad4d6b1dab10d62c1fe574545bc2404f9807f39", func := "stillage/stillagelaw15.GateOrder", spec := "gateOrder", apart := false, narrowed := true }
def GateOrderUptoSaid : Prop := gateOrderUptoRow.holds Try.pinned (OpenSpec.upto gateOrderSpec)

/-- 'stillagelaw15.GateLimits', WHERE WHAT IT READS IS OF BULK AT MOST 1048576: true; the input reads as it did. -/
def gateLimitsUptoRow : OpenClaim := { program := "ytmdciipaggcjoaa", sum := "9a7ca7986482655d69e7654d8ad4d6b1dab10d62c1fe574545bc2404f9807f39", func := "stillage/stillagelaw15.GateLimits", spec := "gateLimits", apart := false, narrowed := true }
def GateLimitsUptoSaid : Prop := gateLimitsUptoRow.holds Try.pinned (OpenSpec.upto gateLimitsSpec)

/-- 'stillagelaw15.GatePlays', WHERE WHAT IT READS IS OF BULK AT MOST 1048576: true; the input reads as it did. -/
def gatePlaysUptoRow : OpenClaim := { program := "ytmdciipaggcjoaa", sum := "9a7ca7986482655d69e7654d8ad4d6b1dab10d62c1fe574545bc2404f9807f39", func := "stillage/stillagelaw15.GatePlays", spec := "gatePlays", apart := false, narrowed := true }
def GatePlaysUptoSaid : Prop := gatePlaysUptoRow.holds Try.pinned (OpenSpec.upto gatePlaysSpec)

/-- 'stillagelaw15.GateCancels', WHERE WHAT IT READS IS OF BULK AT MOST 1048576: true; the input reads as it did. -/
def gateCancelsUptoRow : OpenClaim := { program := "ytmdciipaggcjoaa", sum := "9a7ca7986482655d69e7654d8ad4d6b1dab10d62c1fe574545bc2404f9807f39", func := "stillage/stillagelaw15.GateCancels", spec := "gateCancels", apart := false, narrowed := true }
def GateCancelsUptoSaid : Prop := gateCancelsUptoRow.holds Try.pinned (OpenSpec.upto gateCancelsSpec)

/-- 'stillagelaw15.GateTwice', WHERE WHAT IT READS IS OF BULK AT MOST 1048576: true; the input reads as it did. -/
def gateTwiceUptoRow : OpenClaim := { program := "ytmdciipaggcjoaa", sum := "9a7ca7986482655d69e7654d8ad4d6b1dab10d62c1fe574545bc2404f9807f39", func := "stillage/stillagelaw15.GateTwice", spec := "gateTwice", apart := false, narrowed := true }
def GateTwiceUptoSaid : Prop := gateTwiceUptoRow.holds Try.pinned (OpenSpec.upto gateTwiceSpec)

end Rows
end Go.Proofs.Ytmdciipaggcjoaa
