/-
  No cell of these rows narrows 'for every input' (looked for: loops, veiled, ifaces, maps, wideKeys, modest, calm, conditions, laid).
  DERIVED. THE GIVEN ROWS OF THIS SEAT. 4 by the template 'for every input the law returns true; each argument reads behind the call as it read before'; 0 by the template 'total and deterministic' (their statements: YtnhcejbgkhhijaaTotals.lean).
  GIVEN WITH THE SEED: the statements are not yours to turn. If you find one false, say at which input.
  Laid BY PROGRAM, IN A SANDBOX (cutbox-rows.mjs): the forced cells as the released guide's own fill.sh prints them over the translation d4edb18d5567ad62… (all of the seat's roots in one cut). By AI agents, Wed Nov 11 2026. No macro, syntax, notation, axiom, sorry.
-/
import Derived.Test.YtnhcejbgkhhijaaChecked
import GoSem.Claim
import GoSem.ClaimJoined
import GoSem.ClaimMapViews
import Derived.JoinedTies
import Derived.KernelRfl
namespace Go.Proofs.Ytnhcejbgkhhijaa
/- THE CELL 'sum', in the pinned program and in every row, IS THE sha256 OF THE DUMP (.gsa) THAT YtnhcejbgkhhijaaProg.lean LOADS. Nothing in Lean hashes anything: it is a label: what it is worth is what the hold of that sum in a sandbox is worth. -/
noncomputable def Try.pinned : Pinned := { name := "ytnhcejbgkhhijaa", sum := "d4edb18d5567ad62d93fdbce30922bf62628f41701c29c67feff54e9a48758e8", checked := Try.checked }
namespace Rows
def none {H : Type} : Left H := { results := [], args := [] }

/-- 'carapacelaw4.SlabOnce': WHATEVER THE INPUT: true; the input reads as it did. -/
def slabOnceSpec : ChangeSpec := { name := "slabOnce", fn := fun _ => fun
  | [d] => { results := [.lit (.bool true)], args := [d] }
  | _ => none }
def slabOnceRow : OpenClaim := { program := "ytnhcejbgkhhijaa", sum := "d4edb18d5567ad62d93fdbce30922bf62628f41701c29c67feff54e9a48758e8", func := "carapace/carapacelaw4.SlabOnce", spec := "slabOnce", apart := false }
def SlabOnceSaid : Prop := slabOnceRow.holds Try.pinned (OpenSpec.ofChange slabOnceSpec)

/-- ITS FALSE NEIGHBOUR: 'it returns false'. Refute it at one input. -/
def slabOnceWrong : ChangeSpec := { name := "slabOnce", fn := fun _ => fun
  | [d] => { results := [.lit (.bool false)], args := [d] }
  | _ => none }
def SlabOnceWrongFalsely : Prop := slabOnceRow.holds Try.pinned (OpenSpec.ofChange slabOnceWrong)

/-- 'carapacelaw4.SlabPlays': WHATEVER THE INPUT: true; the input reads as it did. -/
def slabPlaysSpec : ChangeSpec := { name := "slabPlays", fn := fun _ => fun
  | [d] => { results := [.lit (.bool true)], args := [d] }
  | _ => none }
def slabPlaysRow : OpenClaim := { program := "ytnhcejbgkhhijaa", sum := "d4edb18d5567ad62d93fdbce30922bf62628f41701c29c67feff54e9a48758e8", func := "carapace/carapacelaw4.SlabPlays", spec := "slabPlays", unfollowed := true, recurses := true, apart := false }
def SlabPlaysSaid : Prop := slabPlaysRow.holds Try.pinned (OpenSpec.ofChange slabPlaysSpec)

/-- ITS FALSE NEIGHBOUR: 'it returns false'. Refute it at one input. -/
def slabPlaysWrong : ChangeSpec := { name := "slabPlays", fn := fun _ => fun
  | [d] => { results := [.lit (.bool false)], args := [d] }
  | _ => none }
def SlabPlaysWrongFalsely : Prop := slabPlaysRow.holds Try.pinned (OpenSpec.ofChange slabPlaysWrong)

/-- 'carapacelaw4.SlabLoops': WHATEVER THE INPUT: true; the input reads as it did. -/
def slabLoopsSpec : ChangeSpec := { name := "slabLoops", fn := fun _ => fun
  | [d1, d2] => { results := [.lit (.bool true)], args := [d1, d2] }
  | _ => none }
def slabLoopsRow : OpenClaim := { program := "ytnhcejbgkhhijaa", sum := "d4edb18d5567ad62d93fdbce30922bf62628f41701c29c67feff54e9a48758e8", func := "carapace/carapacelaw4.SlabLoops", spec := "slabLoops", unfollowed := true, recurses := true, apart := false }
def SlabLoopsSaid : Prop := slabLoopsRow.holds Try.pinned (OpenSpec.ofChange slabLoopsSpec)

/-- ITS FALSE NEIGHBOUR: 'it returns false'. Refute it at one input. -/
def slabLoopsWrong : ChangeSpec := { name := "slabLoops", fn := fun _ => fun
  | [d1, d2] => { results := [.lit (.bool false)], args := [d1, d2] }
  | _ => none }
def SlabLoopsWrongFalsely : Prop := slabLoopsRow.holds Try.pinned (OpenSpec.ofChange slabLoopsWrong)

/-- 'carapacelaw4.SlabGathers': WHATEVER THE INPUT: true; the input reads as it did. -/
def slabGathersSpec : ChangeSpec := { name := "slabGathers", fn := fun _ => fun
  | [d1, d2] => { results := [.lit (.bool true)], args := [d1, d2] }
  | _ => none }
def slabGathersRow : OpenClaim := { program := "ytnhcejbgkhhijaa", sum := "d4edb18d5567ad62d93fdbce30922bf62628f41701c29c67feff54e9a48758e8", func := "carapace/carapacelaw4.SlabGathers", spec := "slabGathers", unfollowed := true, recurses := true, apart := false }
def SlabGathersSaid : Prop := slabGathersRow.holds Try.pinned (OpenSpec.ofChange slabGathersSpec)

/-- ITS FALSE NEIGHBOUR: 'it returns false'. Refute it at one input. -/
def slabGathersWrong : ChangeSpec := { name := "slabGathers", fn := fun _ => fun
  | [d1, d2] => { results := [.lit (.bool false)], args := [d1, d2] }
  | _ => none }
def SlabGathersWrongFalsely : Prop := slabGathersRow.holds Try.pinned (OpenSpec.ofChange slabGathersWrong)

/- THE SECOND FORM. 'bulk': how many values and letters a reading holds, each counted each time it is reached (what is shared counts as often as it is met; a slice's spare places count too). A statement '..UptoSaid' is the law's where the arguments, and the package variables that the reading takes, are together of bulk at most 1048576: NARROWER than '..Said'. Prove '..Said' where nothing that the law and all that it calls make is longer than what came in: it says more and counts as full. Else prove '..UptoSaid'. A law counts once. -/
mutual
def uptoBulk {H : Type} : DataW H → Nat
  | .lit (.string bytes) => bytes.length + 1
  | .lit _ => 1
  | .nil => 1
  | .ptr d => uptoBulk d + 1
  | .slice elems spare => uptoBulkAll elems + uptoBulkAll spare + 1
  | .agg parts => uptoBulkAll parts + 1
  | .iface _ d => uptoBulk d + 1
  | .map entries => uptoBulkEntries entries + 1
  | .held _ => 1
def uptoBulkAll {H : Type} : List (DataW H) → Nat
  | [] => 0
  | d :: r => uptoBulk d + uptoBulkAll r
def uptoBulkEntries {H : Type} : List (Lit × DataW H) → Nat
  | [] => 0
  | x :: r => uptoBulkEntry x + uptoBulkEntries r
def uptoBulkEntry {H : Type} : Lit × DataW H → Nat
  | (.string bytes, d) => bytes.length + uptoBulk d + 1
  | (_, d) => uptoBulk d + 1
 end
def uptoSmall : (H : Type) → List (DataW H) → Bool := fun _ ds => decide (uptoBulkAll ds ≤ 1048576)
def OpenSpec.upto (s : _root_.Go.ChangeSpec) : _root_.Go.OpenSpec := { _root_.Go.OpenSpec.ofChange s with cond := some uptoSmall }

/-- 'carapacelaw4.SlabOnce', WHERE WHAT IT READS IS OF BULK AT MOST 1048576: true; the input reads as it did. -/
def slabOnceUptoRow : OpenClaim := { program := "ytnhcejbgkhhijaa", sum := "d4edb18d5567ad62d93fdbce30922bf62628f41701c29c67feff54e9a48758e8", func := "carapace/carapacelaw4.SlabOnce", spec := "slabOnce", apart := false, narrowed := true }
def SlabOnceUptoSaid : Prop := slabOnceUptoRow.holds Try.pinned (OpenSpec.upto slabOnceSpec)

/-- 'carapacelaw4.SlabPlays', WHERE WHAT IT READS IS OF BULK AT MOST 1048576: true; the input reads as it did. -/
def slabPlaysUptoRow : OpenClaim := { program := "ytnhcejbgkhhijaa", sum := "d4edb18d5567ad62d93fdbce30922bf62628f41701c29c67feff54e9a48758e8", func := "carapace/carapacelaw4.SlabPlays", spec := "slabPlays", unfollowed := true, recurses := true, apart := false, narrowed := true }
def SlabPlaysUptoSaid : Prop := slabPlaysUptoRow.holds Try.pinned (OpenSpec.upto slabPlaysSpec)

/-- 'carapacelaw4.SlabLoops', WHERE WHAT IT READS IS OF BULK AT MOST 1048576: true; the input reads as it did. -/
def slabLoopsUptoRow : OpenClaim := { program := "ytnhcejbgkhhijaa", sum := "d4edb18d5567ad62d93fdbce30922bf62628f41701c29c67feff54e9a48758e8", func := "carapace/carapacelaw4.SlabLoops", spec := "slabLoops", unfollowed := true, recurses := true, apart := false, narrowed := true }
def SlabLoopsUptoSaid : Prop := slabLoopsUptoRow.holds Try.pinned (OpenSpec.upto slabLoopsSpec)

/-- 'carapacelaw4.SlabGathers', WHERE WHAT IT READS IS OF BULK AT MOST 1048576: true; the input reads as it did. -/
def slabGathersUptoRow : OpenClaim := { program := "ytnhcejbgkhhijaa", sum := "d4edb18d5567ad62d93fdbce30922bf62628f41701c29c67feff54e9a48758e8", func := "carapace/carapacelaw4.SlabGathers", spec := "slabGathers", unfollowed := true, recurses := true, apart := false, narrowed := true }
def SlabGathersUptoSaid : Prop := slabGathersUptoRow.holds Try.pinned (OpenSpec.upto slabGathersSpec)

end Rows
end Go.Proofs.Ytnhcejbgkhhijaa
