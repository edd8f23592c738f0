/-
  No cell of these rows narrows 'for every input' (looked for: loops, veiled, ifaces, maps, wideKeys, modest, calm, conditions, laid).
  DERIVED. THE GIVEN ROWS OF THIS SEAT. 4 by the template 'for every input the law returns true; each argument reads behind the call as it read before'; 0 by the template 'total and deterministic' (their statements: YtkiaboaeflbmoaaTotals.lean).
  GIVEN WITH THE SEED: the statements are not yours to turn. If you find one false, say at which input.
  Laid BY PROGRAM, IN A SANDBOX (cutbox-rows.mjs): the forced cells as the released guide's own fill.sh prints them over the translation 6511d1fd0b1138b4… (all of the seat's roots in one cut). By AI agents, Wed Nov 11 2026. No macro, syntax, notation, axiom, sorry.
-/
import Derived.Test.YtkiaboaeflbmoaaChecked
import GoSem.Claim
import GoSem.ClaimJoined
import GoSem.ClaimMapViews
import Derived.JoinedTies
import Derived.KernelRfl
namespace Go.Proofs.Ytkiaboaeflbmoaa
/- THE CELL 'sum', in the pinned program and in every row, IS THE sha256 OF THE DUMP (.gsa) THAT YtkiaboaeflbmoaaProg.lean LOADS. Nothing in Lean hashes anything: it is a label: what it is worth is what the hold of that sum in a sandbox is worth. -/
noncomputable def Try.pinned : Pinned := { name := "ytkiaboaeflbmoaa", sum := "6511d1fd0b1138b49eb89ced2d2a1bfbbbce03e806d60b3bb012c2e471697073", checked := Try.checked }
namespace Rows
def none {H : Type} : Left H := { results := [], args := [] }

/-- 'carapacelaw7.RidgeShards': WHATEVER THE INPUT: true; the input reads as it did. -/
def ridgeShardsSpec : ChangeSpec := { name := "ridgeShards", fn := fun _ => fun
  | [d1, d2] => { results := [.lit (.bool true)], args := [d1, d2] }
  | _ => none }
def ridgeShardsRow : OpenClaim := { program := "ytkiaboaeflbmoaa", sum := "6511d1fd0b1138b49eb89ced2d2a1bfbbbce03e806d60b3bb012c2e471697073", func := "carapace/carapacelaw7.RidgeShards", spec := "ridgeShards", plainKeys := false, apart := false }
def RidgeShardsSaid : Prop := ridgeShardsRow.holds Try.pinned (OpenSpec.ofChange ridgeShardsSpec)

/-- ITS FALSE NEIGHBOUR: 'it returns false'. Refute it at one input. -/
def ridgeShardsWrong : ChangeSpec := { name := "ridgeShards", fn := fun _ => fun
  | [d1, d2] => { results := [.lit (.bool false)], args := [d1, d2] }
  | _ => none }
def RidgeShardsWrongFalsely : Prop := ridgeShardsRow.holds Try.pinned (OpenSpec.ofChange ridgeShardsWrong)

/-- 'carapacelaw7.RidgeNaNs': WHATEVER THE INPUT: true; the input reads as it did. -/
def ridgeNaNsSpec : ChangeSpec := { name := "ridgeNaNs", fn := fun _ => fun
  | [d1, d2] => { results := [.lit (.bool true)], args := [d1, d2] }
  | _ => none }
def ridgeNaNsRow : OpenClaim := { program := "ytkiaboaeflbmoaa", sum := "6511d1fd0b1138b49eb89ced2d2a1bfbbbce03e806d60b3bb012c2e471697073", func := "carapace/carapacelaw7.RidgeNaNs", spec := "ridgeNaNs", plainKeys := false, apart := false }
def RidgeNaNsSaid : Prop := ridgeNaNsRow.holds Try.pinned (OpenSpec.ofChange ridgeNaNsSpec)

/-- ITS FALSE NEIGHBOUR: 'it returns false'. Refute it at one input. -/
def ridgeNaNsWrong : ChangeSpec := { name := "ridgeNaNs", fn := fun _ => fun
  | [d1, d2] => { results := [.lit (.bool false)], args := [d1, d2] }
  | _ => none }
def RidgeNaNsWrongFalsely : Prop := ridgeNaNsRow.holds Try.pinned (OpenSpec.ofChange ridgeNaNsWrong)

/-- 'carapacelaw7.RidgeMeets': WHATEVER THE INPUT: true; the input reads as it did. -/
def ridgeMeetsSpec : ChangeSpec := { name := "ridgeMeets", fn := fun _ => fun
  | [d1, d2] => { results := [.lit (.bool true)], args := [d1, d2] }
  | _ => none }
def ridgeMeetsRow : OpenClaim := { program := "ytkiaboaeflbmoaa", sum := "6511d1fd0b1138b49eb89ced2d2a1bfbbbce03e806d60b3bb012c2e471697073", func := "carapace/carapacelaw7.RidgeMeets", spec := "ridgeMeets", plainKeys := false, apart := false }
def RidgeMeetsSaid : Prop := ridgeMeetsRow.holds Try.pinned (OpenSpec.ofChange ridgeMeetsSpec)

/-- ITS FALSE NEIGHBOUR: 'it returns false'. Refute it at one input. -/
def ridgeMeetsWrong : ChangeSpec := { name := "ridgeMeets", fn := fun _ => fun
  | [d1, d2] => { results := [.lit (.bool false)], args := [d1, d2] }
  | _ => none }
def RidgeMeetsWrongFalsely : Prop := ridgeMeetsRow.holds Try.pinned (OpenSpec.ofChange ridgeMeetsWrong)

/-- 'carapacelaw7.RidgePairs': WHATEVER THE INPUT: true; the input reads as it did. -/
def ridgePairsSpec : ChangeSpec := { name := "ridgePairs", fn := fun _ => fun
  | [d1, d2, d3, d4] => { results := [.lit (.bool true)], args := [d1, d2, d3, d4] }
  | _ => none }
def ridgePairsRow : OpenClaim := { program := "ytkiaboaeflbmoaa", sum := "6511d1fd0b1138b49eb89ced2d2a1bfbbbce03e806d60b3bb012c2e471697073", func := "carapace/carapacelaw7.RidgePairs", spec := "ridgePairs", plainKeys := false, apart := false }
def RidgePairsSaid : Prop := ridgePairsRow.holds Try.pinned (OpenSpec.ofChange ridgePairsSpec)

/-- ITS FALSE NEIGHBOUR: 'it returns false'. Refute it at one input. -/
def ridgePairsWrong : ChangeSpec := { name := "ridgePairs", fn := fun _ => fun
  | [d1, d2, d3, d4] => { results := [.lit (.bool false)], args := [d1, d2, d3, d4] }
  | _ => none }
def RidgePairsWrongFalsely : Prop := ridgePairsRow.holds Try.pinned (OpenSpec.ofChange ridgePairsWrong)

/- THE SECOND FORM. 'bulk': how many values and letters a reading holds, each counted each time it is reached (what is shared counts as often as it is met; a slice's spare places count too). A statement '..UptoSaid' is the law's where the arguments, and the package variables that the reading takes, are together of bulk at most 1048576: NARROWER than '..Said'. Prove '..Said' where nothing that the law and all that it calls make is longer than what came in: it says more and counts as full. Else prove '..UptoSaid'. A law counts once. -/
mutual
def uptoBulk {H : Type} : DataW H → Nat
  | .lit (.string bytes) => bytes.length + 1
  | .lit _ => 1
  | .nil => 1
  | .ptr d => uptoBulk d + 1
  | .slice elems spare => uptoBulkAll elems + uptoBulkAll spare + 1
  | .agg parts => uptoBulkAll parts + 1
  | .iface _ d => uptoBulk d + 1
  | .map entries => uptoBulkEntries entries + 1
  | .held _ => 1
def uptoBulkAll {H : Type} : List (DataW H) → Nat
  | [] => 0
  | d :: r => uptoBulk d + uptoBulkAll r
def uptoBulkEntries {H : Type} : List (Lit × DataW H) → Nat
  | [] => 0
  | x :: r => uptoBulkEntry x + uptoBulkEntries r
def uptoBulkEntry {H : Type} : Lit × DataW H → Nat
  | (.string bytes, d) => bytes.length + uptoBulk d + 1
  | (_, d) => uptoBulk d + 1
 end
def uptoSmall : (H : Type) → List (DataW H) → Bool := fun _ ds => decide (uptoBulkAll ds ≤ 1048576)
def OpenSpec.upto (s : _root_.Go.ChangeSpec) : _root_.Go.OpenSpec := { _root_.Go.OpenSpec.ofChange s with cond := some uptoSmall }

/-- 'carapacelaw7.RidgeShards', WHERE WHAT IT READS IS OF BULK AT MOST 1048576: true; the input reads as it did. -/
def ridgeShardsUptoRow : OpenClaim := { program := "ytkiaboaeflbmoaa", sum := "6511d1fd0b1138b49eb89ced2d2a1bfbbbce03e806d60b3bb012c2e471697073", func := "carapace/carapacelaw7.RidgeShards", spec := "ridgeShards", plainKeys := false, apart := false, narrowed := true }
def RidgeShardsUptoSaid : Prop := ridgeShardsUptoRow.holds Try.pinned (OpenSpec.upto ridgeShardsSpec)

/-- 'carapacelaw7.RidgeNaNs', WHERE WHAT IT READS IS OF BULK AT MOST 1048576: true; the input reads as it did. -/
def ridgeNaNsUptoRow : OpenClaim := { program := "ytkiaboaeflbmoaa", sum := "6511d1fd0b1138b49eb89ced2d2a1bfbbbce03e806d60b3bb012c2e471697073", func := "carapace/carapacelaw7.RidgeNaNs", spec := "ridgeNaNs", plainKeys := false, apart := false, narrowed := true }
def RidgeNaNsUptoSaid : Prop := ridgeNaNsUptoRow.holds Try.pinned (OpenSpec.upto ridgeNaNsSpec)

/-- 'carapacelaw7.RidgeMeets', WHERE WHAT IT READS IS OF BULK AT MOST 1048576: true; the input reads as it did. -/
def ridgeMeetsUptoRow : OpenClaim := { program := "ytkiaboaeflbmoaa", sum := "6511d1fd0b1138b49eb89ced2d2a1bfbbbce03e806d60b3bb012c2e471697073", func := "carapace/carapacelaw7.RidgeMeets", spec := "ridgeMeets", plainKeys := false, apart := false, narrowed := true }
def RidgeMeetsUptoSaid : Prop := ridgeMeetsUptoRow.holds Try.pinned (OpenSpec.upto ridgeMeetsSpec)

/-- 'carapacelaw7.RidgePairs', WHERE WHAT IT READS IS OF BULK AT MOST 1048576: true; the input reads as it did. -/
def ridgePairsUptoRow : OpenClaim := { program := "ytkiaboaeflbmoaa", sum := "6511d1fd0b1138b49eb89ced2d2a1bfbbbce03e806d60b3bb012c2e471697073", func := "carapace/carapacelaw7.RidgePairs", spec := "ridgePairs", plainKeys := false, apart := false, narrowed := true }
def RidgePairsUptoSaid : Prop := ridgePairsUptoRow.holds Try.pinned (OpenSpec.upto ridgePairsSpec)

end Rows
end Go.Proofs.Ytkiaboaeflbmoaa
