/-
  No cell of these rows narrows 'for every input' (looked for: loops, veiled, ifaces, maps, wideKeys, modest, calm, conditions, laid).
  DERIVED. THE GIVEN ROWS OF THIS SEAT. 5 by the template 'for every input the law returns true; each argument reads behind the call as it read before'; 0 by the template 'total and deterministic' (their statements: YtoilalohhicipaaTotals.lean).
  GIVEN WITH THE SEED: the statements are not yours to turn. If you find one false, say at which input.
  Laid BY PROGRAM, IN A SANDBOX (cutbox-rows.mjs): the forced cells as the released guide's own fill.sh prints them over the translation 24b8832dbb9de534… (all of the seat's roots in one cut). By AI agents, Wed Nov 11 2026. No macro, syntax, notation, axiom, sorry.
-/
import Derived.Test.YtoilalohhicipaaChecked
import GoSem.Claim
import GoSem.ClaimJoined
import GoSem.ClaimMapViews
import Derived.JoinedTies
import Derived.KernelRfl
namespace Go.Proofs.Ytoilalohhicipaa
/- THE CELL 'sum', in the pinned program and in every row, IS THE sha256 OF THE DUMP (.gsa) THAT YtoilalohhicipaaProg.lean LOADS. Nothing in Lean hashes anything: it is a label: what it is worth is what the hold of that sum in a sandbox is worth. -/
noncomputable def Try.pinned : Pinned := { name := "ytoilalohhicipaa", sum := "24b8832dbb9de53423bcba6cc6d02f2c30ae83d65eddaad165540eaa084ffe93", checked := Try.checked }
namespace Rows
def none {H : Type} : Left H := { results := [], args := [] }

/-- 'stillagelaw14.ShuttleJobs': WHATEVER THE INPUT: true; the input reads as it did. -/
def shuttleJobsSpec : ChangeSpec := { name := "shuttleJobs", fn := fun _ => fun
  | [d1, d2, d3] => { results := [.lit (.bool true)], args := [d1, d2, d3] }
  | _ => none }
def shuttleJobsRow : OpenClaim := { program := "ytoilalohhicipaa", sum := "24b8832dbb9de53423bcba6cc6d02f2c30ae83d65eddaad165540eaa084ffe93", func := "stillage/stillagelaw14.ShuttleJobs", spec := "shuttleJobs", apart := false }
def ShuttleJobsSaid : Prop := shuttleJobsRow.holds Try.pinned (OpenSpec.ofChange shuttleJobsSpec)

/-- ITS FALSE NEIGHBOUR: 'it returns false'. Refute it at one input. -/
def shuttleJobsWrong : ChangeSpec := { name := "shuttleJobs", fn := fun _ => fun
  | [d1, d2, d3] => { results := [.lit (.bool false)], args := [d1, d2, d3] }
  | _ => none }
def ShuttleJobsWrongFalsely : Prop := shuttleJobsRow.holds Try.pinned (OpenSpec.ofChange shuttleJobsWrong)

/-- 'stillagelaw14.ShuttleStalls': WHATEVER THE INPUT: true; the input reads as it did. -/
def shuttleStallsSpec : ChangeSpec := { name := "shuttleStalls", fn := fun _ => fun
  | [d1, d2, d3] => { results := [.lit (.bool true)], args := [d1, d2, d3] }
  | _ => none }
def shuttleStallsRow : OpenClaim := { program := "ytoilalohhicipaa", sum := "24b8832dbb9de53423bcba6cc6d02f2c30ae83d65eddaad165540eaa084ffe93", func := "stillage/stillagelaw14.ShuttleStalls", spec := "shuttleStalls", apart := false }
def ShuttleStallsSaid : Prop := shuttleStallsRow.holds Try.pinned (OpenSpec.ofChange shuttleStallsSpec)

/-- ITS FALSE NEIGHBOUR: 'it returns false'. Refute it at one input. -/
def shuttleStallsWrong : ChangeSpec := { name := "shuttleStalls", fn := fun _ => fun
  | [d1, d2, d3] => { results := [.lit (.bool false)], args := [d1, d2, d3] }
  | _ => none }
def ShuttleStallsWrongFalsely : Prop := shuttleStallsRow.holds Try.pinned (OpenSpec.ofChange shuttleStallsWrong)

/-- 'stillagelaw14.ShuttlePlays': WHATEVER THE INPUT: true; the input reads as it did. -/
def shuttlePlaysSpec : ChangeSpec := { name := "shuttlePlays", fn := fun _ => fun
  | [d1, d2] => { results := [.lit (.bool true)], args := [d1, d2] }
  | _ => none }
def shuttlePlaysRow : OpenClaim := { program := "ytoilalohhicipaa", sum := "24b8832dbb9de53423bcba6cc6d02f2c30ae83d65eddaad165540eaa084ffe93", func := "stillage/stillagelaw14.ShuttlePlays", spec := "shuttlePlays", apart := false }
def ShuttlePlaysSaid : Prop := shuttlePlaysRow.holds Try.pinned (OpenSpec.ofChange shuttlePlaysSpec)

/-- ITS FALSE NEIGHBOUR: 'it returns false'. Refute it at one input. -/
def shuttlePlaysWrong : ChangeSpec := { name := "shuttlePlays", fn := fun _ => fun
  | [d1, d2] => { results := [.lit (.bool false)], args := [d1, d2] }
  | _ => none }
def ShuttlePlaysWrongFalsely : Prop := shuttlePlaysRow.holds Try.pinned (OpenSpec.ofChange shuttlePlaysWrong)

/-- 'stillagelaw14.ShuttleLoads': WHATEVER THE INPUT: true; the input reads as it did. -/
def shuttleLoadsSpec : ChangeSpec := { name := "shuttleLoads", fn := fun _ => fun
  | [d1, d2] => { results := [.lit (.bool true)], args := [d1, d2] }
  | _ => none }
def shuttleLoadsRow : OpenClaim := { program := "ytoilalohhicipaa", sum := "24b8832dbb9de53423bcba6cc6d02f2c30ae83d65eddaad165540eaa084ffe93", func := "stillage/stillagelaw14.ShuttleLoads", spec := "shuttleLoads", apart := false }
def ShuttleLoadsSaid : Prop := shuttleLoadsRow.holds Try.pinned (OpenSpec.ofChange shuttleLoadsSpec)

/-- ITS FALSE NEIGHBOUR: 'it returns false'. Refute it at one input. -/
def shuttleLoadsWrong : ChangeSpec := { name := "shuttleLoads", fn := fun _ => fun
  | [d1, d2] => { results := [.lit (.bool false)], args := [d1, d2] }
  | _ => none }
def ShuttleLoadsWrongFalsely : Prop := shuttleLoadsRow.holds Try.pinned (OpenSpec.ofChange shuttleLoadsWrong)

/-- 'stillagelaw14.ShuttleRefuses': WHATEVER THE INPUT: true; the input reads as it did. -/
def shuttleRefusesSpec : ChangeSpec := { name := "shuttleRefuses", fn := fun _ => fun
  | [d1, d2] => { results := [.lit (.bool true)], args := [d1, d2] }
  | _ => none }
def shuttleRefusesRow : OpenClaim := { program := "ytoilalohhicipaa", sum := "24b8832dbb9de53423bcba6cc6d02f2c30ae83d65eddaad165540eaa084ffe93", func := "stillage/stillagelaw14.ShuttleRefuses", spec := "shuttleRefuses", unfollowed := true, recurses := true, apart := false }
def ShuttleRefusesSaid : Prop := shuttleRefusesRow.holds Try.pinned (OpenSpec.ofChange shuttleRefusesSpec)

/-- ITS FALSE NEIGHBOUR: 'it returns false'. Refute it at one input. -/
def shuttleRefusesWrong : ChangeSpec := { name := "shuttleRefuses", fn := fun _ => fun
  | [d1, d2] => { results := [.lit (.bool false)], args := [d1, d2] }
  | _ => none }
def ShuttleRefusesWrongFalsely : Prop := shuttleRefusesRow.holds Try.pinned (OpenSpec.ofChange shuttleRefusesWrong)

/- THE SECOND FORM. 'bulk': how many values and letters a reading holds, each counted each time it is reached (what is shared counts as often as it is met; a slice's spare places count too). A statement '..UptoSaid' is the law's where the arguments, and the package variables that the reading takes, are together of bulk at most 1048576: NARROWER than '..Said'. Prove '..Said' where nothing that the law and all that it calls make is longer than what came in: it says more and counts as full. Else prove '..UptoSaid'. A law counts once. -/
mutual
def uptoBulk {H : Type} : DataW H → Nat
  | .lit (.string bytes) => bytes.length + 1
  | .lit _ => 1
  | .nil => 1
  | .ptr d => uptoBulk d + 1
  | .slice elems spare => uptoBulkAll elems + uptoBulkAll spare + 1
  | .agg parts => uptoBulkAll parts + 1
  | .iface _ d => uptoBulk d + 1
  | .map entries => uptoBulkEntries entries + 1
  | .held _ => 1
def uptoBulkAll {H : Type} : List (DataW H) → Nat
  | [] => 0
  | d :: r => uptoBulk d + uptoBulkAll r
def uptoBulkEntries {H : Type} : List (Lit × DataW H) → Nat
  | [] => 0
  | x :: r => uptoBulkEntry x + uptoBulkEntries r
def uptoBulkEntry {H : Type} : Lit × DataW H → Nat
  | (.string bytes, d) => bytes.length + uptoBulk d + 1
  | (_, d) => uptoBulk d + 1
 end
def uptoSmall : (H : Type) → List (DataW H) → Bool := fun _ ds => decide (uptoBulkAll ds ≤ 1048576)
def OpenSpec.upto (s : _root_.Go.ChangeSpec) : _root_.Go.OpenSpec := { _root_.Go.OpenSpec.ofChange s with cond := some uptoSmall }

/-- 'stillagelaw14.ShuttleJobs', WHERE WHAT IT READS IS OF BULK AT MOST 1048576: true; the input reads as it did. -/
def shuttleJobsUptoRow : OpenClaim := { program := "ytoilalohhicipaa", sum := "24b8832dbb9de53423bcba6cc6d02f2c30ae83d65eddaad165540eaa084ffe93", func := "stillage/stillagelaw14.ShuttleJobs", spec := "shuttleJobs", apart := false, narrowed := true }
def ShuttleJobsUptoSaid : Prop := shuttleJobsUptoRow.holds Try.pinned (OpenSpec.upto shuttleJobsSpec)

/-- 'stillagelaw14.ShuttleStalls', WHERE WHAT IT READS IS OF BULK AT MOST 1048576: true; the input reads as it did. -/
def shuttleStallsUptoRow : OpenClaim := { program := "ytoilalohhicipaa", sum := "24b8832dbb9de53423bcba6cc6d02f2c30ae83d65eddaad165540eaa084ffe93", func := "stillage/stillagelaw14.ShuttleStalls", spec := "shuttleStalls", apart := false, narrowed := true }
def ShuttleStallsUptoSaid : Prop := shuttleStallsUptoRow.holds Try.pinned (OpenSpec.upto shuttleStallsSpec)

/-- 'stillagelaw14.ShuttlePlays', WHERE WHAT IT READS IS OF BULK AT MOST 1048576: true; the input reads as it did. -/
def shuttlePlaysUptoRow : OpenClaim := { program := "ytoilalohhicipaa", sum := "24b8832dbb9de53423bcba6cc6d02f2c30ae83d65eddaad165540eaa084ffe93", func := "stillage/stillagelaw14.ShuttlePlays", spec := "shuttlePlays", apart := false, narrowed := true }
def ShuttlePlaysUptoSaid : Prop := shuttlePlaysUptoRow.holds Try.pinned (OpenSpec.upto shuttlePlaysSpec)

/-- 'stillagelaw14.ShuttleLoads', WHERE WHAT IT READS IS OF BULK AT MOST 1048576: true; the input reads as it did. -/
def shuttleLoadsUptoRow : OpenClaim := { program := "ytoilalohhicipaa", sum := "24b8832dbb9de53423bcba6cc6d02f2c30ae83d65eddaad165540eaa084ffe93", func := "stillage/stillagelaw14.ShuttleLoads", spec := "shuttleLoads", apart := false, narrowed := true }
def ShuttleLoadsUptoSaid : Prop := shuttleLoadsUptoRow.holds Try.pinned (OpenSpec.upto shuttleLoadsSpec)

/-- 'stillagelaw14.ShuttleRefuses', WHERE WHAT IT READS IS OF BULK AT MOST 1048576: true; the input reads as it did. -/
def shuttleRefusesUptoRow : OpenClaim := { program := "ytoilalohhicipaa", sum := "24b8832dbb9de53423bcba6cc6d02f2c30ae83d65eddaad165540eaa084ffe93", func := "stillage/stillagelaw14.ShuttleRefuses", spec := "shuttleRefuses", unfollowed := true, recurses := true, apart := false, narrowed := true }
def ShuttleRefusesUptoSaid : Prop := shuttleRefusesUptoRow.holds Try.pinned (OpenSpec.upto shuttleRefusesSpec)

end Rows
end Go.Proofs.Ytoilalohhicipaa
