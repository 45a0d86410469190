/-
  No cell of these rows narrows 'for every input' (looked for: loops, veiled, ifaces, maps, wideKeys, modest, calm, conditions, laid).
  DERIVED. THE GIVEN ROWS OF THIS SEAT. 6 by the template 'for every input the law returns true; each argument reads behind the call as it read before'; 0 by the template 'total and deterministic' (their statements: YtagchdblieegcaaTotals.lean).
  GIVEN WITH THE SEED: the statements are not yours to turn. If you find one false, say at which input.
  Laid BY PROGRAM, IN A SANDBOX (cutbox-rows.mjs): the forced cells as the released guide's own fill.sh prints them over the translation a222484221e5ed8e… (all of the seat's roots in one cut). By AI agents, Wed Nov 11 2026. No macro, syntax, notation, axiom, sorry.
-/
import Derived.Test.YtagchdblieegcaaChecked
import GoSem.Claim
import GoSem.ClaimJoined
import GoSem.ClaimMapViews
import Derived.JoinedTies
import Derived.KernelRfl
namespace Go.Proofs.Ytagchdblieegcaa
/- THE CELL 'sum', in the pinned program and in every row, IS THE sha256 OF THE DUMP (.gsa) THAT YtagchdblieegcaaProg.lean LOADS. Nothing in Lean hashes anything: it is a label: what it is worth is what the hold of that sum in a sandbox is worth. -/
noncomputable def Try.pinned : Pinned := { name := "ytagchdblieegcaa", sum := "a222484221e5ed8ee41e5537fb0b4615dbd95f6f77f8a33757f20bebaba15cc3", checked := Try.checked }
namespace Rows
def none {H : Type} : Left H := { results := [], args := [] }

/-- 'lapwinglaw08.SeqValid': WHATEVER THE INPUT: true; the input reads as it did. -/
def seqValidSpec : ChangeSpec := { name := "seqValid", fn := fun _ => fun
  | [d1, d2, d3] => { results := [.lit (.bool true)], args := [d1, d2, d3] }
  | _ => none }
def seqValidRow : OpenClaim := { program := "ytagchdblieegcaa", sum := "a222484221e5ed8ee41e5537fb0b4615dbd95f6f77f8a33757f20bebaba15cc3", func := "lapwing/lapwinglaw08.SeqValid", spec := "seqValid", apart := false }
def SeqValidSaid : Prop := seqValidRow.holds Try.pinned (OpenSpec.ofChange seqValidSpec)

/-- ITS FALSE NEIGHBOUR: 'it returns false'. Refute it at one input. -/
def seqValidWrong : ChangeSpec := { name := "seqValid", fn := fun _ => fun
  | [d1, d2, d3] => { results := [.lit (.bool false)], args := [d1, d2, d3] }
  | _ => none }
def SeqValidWrongFalsely : Prop := seqValidRow.holds Try.pinned (OpenSpec.ofChange seqValidWrong)

/-- 'lapwinglaw08.SeqRoom': WHATEVER THE INPUT: true; the input reads as it did. -/
def seqRoomSpec : ChangeSpec := { name := "seqRoom", fn := fun _ => fun
  | [d1, d2, d3] => { results := [.lit (.bool true)], args := [d1, d2, d3] }
  | _ => none }
def seqRoomRow : OpenClaim := { program := "ytagchdblieegcaa", sum := "a222484221e5ed8ee41e5537fb0b4615dbd95f6f77f8a33757f20bebaba15cc3", func := "lapwing/lapwinglaw08.SeqRoom", spec := "seqRoom", apart := false }
def SeqRoomSaid : Prop := seqRoomRow.holds Try.pinned (OpenSpec.ofChange seqRoomSpec)

/-- ITS FALSE NEIGHBOUR: 'it returns false'. Refute it at one input. -/
def seqRoomWrong : ChangeSpec := { name := "seqRoom", fn := fun _ => fun
  | [d1, d2, d3] => { results := [.lit (.bool false)], args := [d1, d2, d3] }
  | _ => none }
def SeqRoomWrongFalsely : Prop := seqRoomRow.holds Try.pinned (OpenSpec.ofChange seqRoomWrong)

/-- 'lapwinglaw08.SeqCounts': WHATEVER THE INPUT: true; the input reads as it did. -/
def seqCountsSpec : ChangeSpec := { name := "seqCounts", fn := fun _ => fun
  | [d1, d2] => { results := [.lit (.bool true)], args := [d1, d2] }
  | _ => none }
def seqCountsRow : OpenClaim := { program := "ytagchdblieegcaa", sum := "a222484221e5ed8ee41e5537fb0b4615dbd95f6f77f8a33757f20bebaba15cc3", func := "lapwing/lapwinglaw08.SeqCounts", spec := "seqCounts", apart := false }
def SeqCountsSaid : Prop := seqCountsRow.holds Try.pinned (OpenSpec.ofChange seqCountsSpec)

/-- ITS FALSE NEIGHBOUR: 'it returns false'. Refute it at one input. -/
def seqCountsWrong : ChangeSpec := { name := "seqCounts", fn := fun _ => fun
  | [d1, d2] => { results := [.lit (.bool false)], args := [d1, d2] }
  | _ => none }
def SeqCountsWrongFalsely : Prop := seqCountsRow.holds Try.pinned (OpenSpec.ofChange seqCountsWrong)

/-- 'lapwinglaw08.SeqRing': WHATEVER THE INPUT: true; the input reads as it did. -/
def seqRingSpec : ChangeSpec := { name := "seqRing", fn := fun _ => fun
  | [d1, d2, d3] => { results := [.lit (.bool true)], args := [d1, d2, d3] }
  | _ => none }
def seqRingRow : OpenClaim := { program := "ytagchdblieegcaa", sum := "a222484221e5ed8ee41e5537fb0b4615dbd95f6f77f8a33757f20bebaba15cc3", func := "lapwing/lapwinglaw08.SeqRing", spec := "seqRing", apart := false }
def SeqRingSaid : Prop := seqRingRow.holds Try.pinned (OpenSpec.ofChange seqRingSpec)

/-- ITS FALSE NEIGHBOUR: 'it returns false'. Refute it at one input. -/
def seqRingWrong : ChangeSpec := { name := "seqRing", fn := fun _ => fun
  | [d1, d2, d3] => { results := [.lit (.bool false)], args := [d1, d2, d3] }
  | _ => none }
def SeqRingWrongFalsely : Prop := seqRingRow.holds Try.pinned (OpenSpec.ofChange seqRingWrong)

/-- 'lapwinglaw08.SeqTurned': WHATEVER THE INPUT: true; the input reads as it did. -/
def seqTurnedSpec : ChangeSpec := { name := "seqTurned", fn := fun _ => fun
  | [d1, d2, d3] => { results := [.lit (.bool true)], args := [d1, d2, d3] }
  | _ => none }
def seqTurnedRow : OpenClaim := { program := "ytagchdblieegcaa", sum := "a222484221e5ed8ee41e5537fb0b4615dbd95f6f77f8a33757f20bebaba15cc3", func := "lapwing/lapwinglaw08.SeqTurned", spec := "seqTurned", unfollowed := true, recurses := true, apart := false }
def SeqTurnedSaid : Prop := seqTurnedRow.holds Try.pinned (OpenSpec.ofChange seqTurnedSpec)

/-- ITS FALSE NEIGHBOUR: 'it returns false'. Refute it at one input. -/
def seqTurnedWrong : ChangeSpec := { name := "seqTurned", fn := fun _ => fun
  | [d1, d2, d3] => { results := [.lit (.bool false)], args := [d1, d2, d3] }
  | _ => none }
def SeqTurnedWrongFalsely : Prop := seqTurnedRow.holds Try.pinned (OpenSpec.ofChange seqTurnedWrong)

/-- 'lapwinglaw08.SeqWalks': WHATEVER THE INPUT: true; the input reads as it did. -/
def seqWalksSpec : ChangeSpec := { name := "seqWalks", fn := fun _ => fun
  | [d1, d2] => { results := [.lit (.bool true)], args := [d1, d2] }
  | _ => none }
def seqWalksRow : OpenClaim := { program := "ytagchdblieegcaa", sum := "a222484221e5ed8ee41e5537fb0b4615dbd95f6f77f8a33757f20bebaba15cc3", func := "lapwing/lapwinglaw08.SeqWalks", spec := "seqWalks", apart := false }
def SeqWalksSaid : Prop := seqWalksRow.holds Try.pinned (OpenSpec.ofChange seqWalksSpec)

/-- ITS FALSE NEIGHBOUR: 'it returns false'. Refute it at one input. -/
def seqWalksWrong : ChangeSpec := { name := "seqWalks", fn := fun _ => fun
  | [d1, d2] => { results := [.lit (.bool false)], args := [d1, d2] }
  | _ => none }
def SeqWalksWrongFalsely : Prop := seqWalksRow.holds Try.pinned (OpenSpec.ofChange seqWalksWrong)

/- THE SECOND FORM. 'bulk': how many values and letters a reading holds, each counted each time it is reached (what is shared counts as often as it is met; a slice's spare places count too). A statement '..UptoSaid' is the law's where the arguments, and the package variables that the reading takes, are together of bulk at most 1048576: NARROWER than '..Said'. Prove '..Said' where nothing that the law and all that it calls make is longer than what came in: it says more and counts as full. Else prove '..UptoSaid'. A law counts once. -/
mutual
def uptoBulk {H : Type} : DataW H → Nat
  | .lit (.string bytes) => bytes.length + 1
  | .lit _ => 1
  | .nil => 1
  | .ptr d => uptoBulk d + 1
  | .slice elems spare => uptoBulkAll elems + uptoBulkAll spare + 1
  | .agg parts => uptoBulkAll parts + 1
  | .iface _ d => uptoBulk d + 1
  | .map entries => uptoBulkEntries entries + 1
  | .held _ => 1
def uptoBulkAll {H : Type} : List (DataW H) → Nat
  | [] => 0
  | d :: r => uptoBulk d + uptoBulkAll r
def uptoBulkEntries {H : Type} : List (Lit × DataW H) → Nat
  | [] => 0
  | x :: r => uptoBulkEntry x + uptoBulkEntries r
def uptoBulkEntry {H : Type} : Lit × DataW H → Nat
  | (.string bytes, d) => bytes.length + uptoBulk d + 1
  | (_, d) => uptoBulk d + 1
 end
def uptoSmall : (H : Type) → List (DataW H) → Bool := fun _ ds => decide (uptoBulkAll ds ≤ 1048576)
def OpenSpec.upto (s : _root_.Go.ChangeSpec) : _root_.Go.OpenSpec := { _root_.Go.OpenSpec.ofChange s with cond := some uptoSmall }

/-- 'lapwinglaw08.SeqValid', WHERE WHAT IT READS IS OF BULK AT MOST 1048576: true; the input reads as it did. -/
def seqValidUptoRow : OpenClaim := { program := "ytagchdblieegcaa", sum := "a222484221e5ed8ee41e5537fb0b4615dbd95f6f77f8a33757f20bebaba15cc3", func := "lapwing/lapwinglaw08.SeqValid", spec := "seqValid", apart := false, narrowed := true }
def SeqValidUptoSaid : Prop := seqValidUptoRow.holds Try.pinned (OpenSpec.upto seqValidSpec)

/-- 'lapwinglaw08.SeqRoom', WHERE WHAT IT READS IS OF BULK AT MOST 1048576: true; the input reads as it did. -/
def seqRoomUptoRow : OpenClaim := { program := "ytagchdblieegcaa", sum := "a222484221e5ed8ee41e5537fb0b4615dbd95f6f77f8a33757f20bebaba15cc3", func := "lapwing/lapwinglaw08.SeqRoom", spec := "seqRoom", apart := false, narrowed := true }
def SeqRoomUptoSaid : Prop := seqRoomUptoRow.holds Try.pinned (OpenSpec.upto seqRoomSpec)

/-- 'lapwinglaw08.SeqCounts', WHERE WHAT IT READS IS OF BULK AT MOST 1048576: true; the input reads as it did. -/
def seqCountsUptoRow : OpenClaim := { program := "ytagchdblieegcaa", sum := "a222484221e5ed8ee41e5537fb0b4615dbd95f6f77f8a33757f20bebaba15cc3", func := "lapwing/lapwinglaw08.SeqCounts", spec := "seqCounts", apart := false, narrowed := true }
def SeqCountsUptoSaid : Prop := seqCountsUptoRow.holds Try.pinned (OpenSpec.upto seqCountsSpec)

/-- 'lapwinglaw08.SeqRing', WHERE WHAT IT READS IS OF BULK AT MOST 1048576: true; the input reads as it did. -/
def seqRingUptoRow : OpenClaim := { program := "ytagchdblieegcaa", sum := "a222484221e5ed8ee41e5537fb0b4615dbd95f6f77f8a33757f20bebaba15cc3", func := "lapwing/lapwinglaw08.SeqRing", spec := "seqRing", apart := false, narrowed := true }
def SeqRingUptoSaid : Prop := seqRingUptoRow.holds Try.pinned (OpenSpec.upto seqRingSpec)

/-- 'lapwinglaw08.SeqTurned', WHERE WHAT IT READS IS OF BULK AT MOST 1048576: true; the input reads as it did. -/
def seqTurnedUptoRow : OpenClaim := { program := "ytagchdblieegcaa", sum := "a222484221e5ed8ee41e5537fb0b4615dbd95f6f77f8a33757f20bebaba15cc3", func := "lapwing/lapwinglaw08.SeqTurned", spec := "seqTurned", unfollowed := true, recurses := true, apart := false, narrowed := true }
def SeqTurnedUptoSaid : Prop := seqTurnedUptoRow.holds Try.pinned (OpenSpec.upto seqTurnedSpec)

/-- 'lapwinglaw08.SeqWalks', WHERE WHAT IT READS IS OF BULK AT MOST 1048576: true; the input reads as it did. -/
def seqWalksUptoRow : OpenClaim := { program := "ytagchdblieegcaa", sum := "a222484221e5ed8ee41e5537fb0b4615dbd95f6f77f8a33757f20bebaba15cc3", func := "lapwing/lapwinglaw08.SeqWalks", spec := "seqWalks", apart := false, narrowed := true }
def SeqWalksUptoSaid : Prop := seqWalksUptoRow.holds Try.pinned (OpenSpec.upto seqWalksSpec)

end Rows
end Go.Proofs.Ytagchdblieegcaa
