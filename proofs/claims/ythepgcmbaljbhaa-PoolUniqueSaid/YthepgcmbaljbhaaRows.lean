/-
  No cell of these rows narrows 'for every input' (looked for: loops, veiled, ifaces, maps, wideKeys, modest, calm, conditions, laid).
  DERIVED. THE GIVEN ROWS OF THIS SEAT. 8 by the template 'for every input the law returns true; each argument reads behind the call as it read before'; 0 by the template 'total and deterministic' (their statements: YthepgcmbaljbhaaTotals.lean).
  GIVEN WITH THE SEED: the statements are not yours to turn. If you find one false, say at which input.
  Laid BY PROGRAM, IN A SANDBOX (cutbox-rows.mjs): the forced cells as the released guide's own fill.sh prints them over the translation 719e29aaeebb0968… (all of the seat's roots in one cut). By AI agents, Wed Nov 11 2026. No macro, syntax, notation, axiom, sorry.
-/
import Derived.Test.YthepgcmbaljbhaaChecked
import GoSem.Claim
import GoSem.ClaimJoined
import GoSem.ClaimMapViews
import Derived.JoinedTies
import Derived.KernelRfl
namespace Go.Proofs.Ythepgcmbaljbhaa
/- THE CELL 'sum', in the pinned program and in every row, IS THE sha256 OF THE DUMP (.gsa) THAT YthepgcmbaljbhaaProg.lean LOADS. Nothing in Lean hashes anything: it is a label: what it is worth is what the hold of that sum in a sandbox is worth. -/
noncomputable def Try.pinned : Pinned := { name := "ythepgcmbaljbhaa", sum := "719e29aaeebb09688bfecf2128800d7c906fd6334751daf5abd6b24766a44c6c", checked := Try.checked }
namespace Rows
def none {H : Type} : Left H := { results := [], args := [] }

/-- 'lapwinglaw11.DrawPlays': WHATEVER THE INPUT: true; the input reads as it did. -/
def drawPlaysSpec : ChangeSpec := { name := "drawPlays", fn := fun _ => fun
  | [d1, d2, d3] => { results := [.lit (.bool true)], args := [d1, d2, d3] }
  | _ => none }
def drawPlaysRow : OpenClaim := { program := "ythepgcmbaljbhaa", sum := "719e29aaeebb09688bfecf2128800d7c906fd6334751daf5abd6b24766a44c6c", func := "lapwing/lapwinglaw11.DrawPlays", spec := "drawPlays", apart := false }
def DrawPlaysSaid : Prop := drawPlaysRow.holds Try.pinned (OpenSpec.ofChange drawPlaysSpec)

/-- ITS FALSE NEIGHBOUR: 'it returns false'. Refute it at one input. -/
def drawPlaysWrong : ChangeSpec := { name := "drawPlays", fn := fun _ => fun
  | [d1, d2, d3] => { results := [.lit (.bool false)], args := [d1, d2, d3] }
  | _ => none }
def DrawPlaysWrongFalsely : Prop := drawPlaysRow.holds Try.pinned (OpenSpec.ofChange drawPlaysWrong)

/-- 'lapwinglaw11.DrawApart': WHATEVER THE INPUT: true; the input reads as it did. -/
def drawApartSpec : ChangeSpec := { name := "drawApart", fn := fun _ => fun
  | [d1, d2, d3] => { results := [.lit (.bool true)], args := [d1, d2, d3] }
  | _ => none }
def drawApartRow : OpenClaim := { program := "ythepgcmbaljbhaa", sum := "719e29aaeebb09688bfecf2128800d7c906fd6334751daf5abd6b24766a44c6c", func := "lapwing/lapwinglaw11.DrawApart", spec := "drawApart", apart := false }
def DrawApartSaid : Prop := drawApartRow.holds Try.pinned (OpenSpec.ofChange drawApartSpec)

/-- ITS FALSE NEIGHBOUR: 'it returns false'. Refute it at one input. -/
def drawApartWrong : ChangeSpec := { name := "drawApart", fn := fun _ => fun
  | [d1, d2, d3] => { results := [.lit (.bool false)], args := [d1, d2, d3] }
  | _ => none }
def DrawApartWrongFalsely : Prop := drawApartRow.holds Try.pinned (OpenSpec.ofChange drawApartWrong)

/-- 'lapwinglaw11.DrawTold': WHATEVER THE INPUT: true; the input reads as it did. -/
def drawToldSpec : ChangeSpec := { name := "drawTold", fn := fun _ => fun
  | [d1, d2, d3] => { results := [.lit (.bool true)], args := [d1, d2, d3] }
  | _ => none }
def drawToldRow : OpenClaim := { program := "ythepgcmbaljbhaa", sum := "719e29aaeebb09688bfecf2128800d7c906fd6334751daf5abd6b24766a44c6c", func := "lapwing/lapwinglaw11.DrawTold", spec := "drawTold", apart := false }
def DrawToldSaid : Prop := drawToldRow.holds Try.pinned (OpenSpec.ofChange drawToldSpec)

/-- ITS FALSE NEIGHBOUR: 'it returns false'. Refute it at one input. -/
def drawToldWrong : ChangeSpec := { name := "drawTold", fn := fun _ => fun
  | [d1, d2, d3] => { results := [.lit (.bool false)], args := [d1, d2, d3] }
  | _ => none }
def DrawToldWrongFalsely : Prop := drawToldRow.holds Try.pinned (OpenSpec.ofChange drawToldWrong)

/-- 'lapwinglaw12.PoolPlays': WHATEVER THE INPUT: true; the input reads as it did. -/
def poolPlaysSpec : ChangeSpec := { name := "poolPlays", fn := fun _ => fun
  | [d1, d2] => { results := [.lit (.bool true)], args := [d1, d2] }
  | _ => none }
def poolPlaysRow : OpenClaim := { program := "ythepgcmbaljbhaa", sum := "719e29aaeebb09688bfecf2128800d7c906fd6334751daf5abd6b24766a44c6c", func := "lapwing/lapwinglaw12.PoolPlays", spec := "poolPlays", apart := false }
def PoolPlaysSaid : Prop := poolPlaysRow.holds Try.pinned (OpenSpec.ofChange poolPlaysSpec)

/-- ITS FALSE NEIGHBOUR: 'it returns false'. Refute it at one input. -/
def poolPlaysWrong : ChangeSpec := { name := "poolPlays", fn := fun _ => fun
  | [d1, d2] => { results := [.lit (.bool false)], args := [d1, d2] }
  | _ => none }
def PoolPlaysWrongFalsely : Prop := poolPlaysRow.holds Try.pinned (OpenSpec.ofChange poolPlaysWrong)

/-- 'lapwinglaw12.PoolUnique': WHATEVER THE INPUT: true; the input reads as it did. -/
def poolUniqueSpec : ChangeSpec := { name := "poolUnique", fn := fun _ => fun
  | [d] => { results := [.lit (.bool true)], args := [d] }
  | _ => none }
def poolUniqueRow : OpenClaim := { program := "ythepgcmbaljbhaa", sum := "719e29aaeebb09688bfecf2128800d7c906fd6334751daf5abd6b24766a44c6c", func := "lapwing/lapwinglaw12.PoolUnique", spec := "poolUnique", apart := false }
def PoolUniqueSaid : Prop := poolUniqueRow.holds Try.pinned (OpenSpec.ofChange poolUniqueSpec)

/-- ITS FALSE NEIGHBOUR: 'it returns false'. Refute it at one input. -/
def poolUniqueWrong : ChangeSpec := { name := "poolUnique", fn := fun _ => fun
  | [d] => { results := [.lit (.bool false)], args := [d] }
  | _ => none }
def PoolUniqueWrongFalsely : Prop := poolUniqueRow.holds Try.pinned (OpenSpec.ofChange poolUniqueWrong)

/-- 'lapwinglaw12.PoolLate': WHATEVER THE INPUT: true; the input reads as it did. -/
def poolLateSpec : ChangeSpec := { name := "poolLate", fn := fun _ => fun
  | [d1, d2] => { results := [.lit (.bool true)], args := [d1, d2] }
  | _ => none }
def poolLateRow : OpenClaim := { program := "ythepgcmbaljbhaa", sum := "719e29aaeebb09688bfecf2128800d7c906fd6334751daf5abd6b24766a44c6c", func := "lapwing/lapwinglaw12.PoolLate", spec := "poolLate", apart := false }
def PoolLateSaid : Prop := poolLateRow.holds Try.pinned (OpenSpec.ofChange poolLateSpec)

/-- ITS FALSE NEIGHBOUR: 'it returns false'. Refute it at one input. -/
def poolLateWrong : ChangeSpec := { name := "poolLate", fn := fun _ => fun
  | [d1, d2] => { results := [.lit (.bool false)], args := [d1, d2] }
  | _ => none }
def PoolLateWrongFalsely : Prop := poolLateRow.holds Try.pinned (OpenSpec.ofChange poolLateWrong)

/-- 'lapwinglaw12.PoolClaims': WHATEVER THE INPUT: true; the input reads as it did. -/
def poolClaimsSpec : ChangeSpec := { name := "poolClaims", fn := fun _ => fun
  | [d1, d2] => { results := [.lit (.bool true)], args := [d1, d2] }
  | _ => none }
def poolClaimsRow : OpenClaim := { program := "ythepgcmbaljbhaa", sum := "719e29aaeebb09688bfecf2128800d7c906fd6334751daf5abd6b24766a44c6c", func := "lapwing/lapwinglaw12.PoolClaims", spec := "poolClaims", apart := false }
def PoolClaimsSaid : Prop := poolClaimsRow.holds Try.pinned (OpenSpec.ofChange poolClaimsSpec)

/-- ITS FALSE NEIGHBOUR: 'it returns false'. Refute it at one input. -/
def poolClaimsWrong : ChangeSpec := { name := "poolClaims", fn := fun _ => fun
  | [d1, d2] => { results := [.lit (.bool false)], args := [d1, d2] }
  | _ => none }
def PoolClaimsWrongFalsely : Prop := poolClaimsRow.holds Try.pinned (OpenSpec.ofChange poolClaimsWrong)

/-- 'lapwinglaw12.PoolLists': WHATEVER THE INPUT: true; the input reads as it did. -/
def poolListsSpec : ChangeSpec := { name := "poolLists", fn := fun _ => fun
  | [d] => { results := [.lit (.bool true)], args := [d] }
  | _ => none }
def poolListsRow : OpenClaim := { program := "ythepgcmbaljbhaa", sum := "719e29aaeebb09688bfecf2128800d7c906fd6334751daf5abd6b24766a44c6c", func := "lapwing/lapwinglaw12.PoolLists", spec := "poolLists", apart := false }
def PoolListsSaid : Prop := poolListsRow.holds Try.pinned (OpenSpec.ofChange poolListsSpec)

/-- ITS FALSE NEIGHBOUR: 'it returns false'. Refute it at one input. -/
def poolListsWrong : ChangeSpec := { name := "poolLists", fn := fun _ => fun
  | [d] => { results := [.lit (.bool false)], args := [d] }
  | _ => none }
def PoolListsWrongFalsely : Prop := poolListsRow.holds Try.pinned (OpenSpec.ofChange poolListsWrong)

/- THE SECOND FORM. 'bulk': how many values and letters a reading holds, each counted each time it is reached (what is shared counts as often as it is met; a slice's spare places count too). A statement '..UptoSaid' is the law's where the arguments, and the package variables that the reading takes, are together of bulk at most 1048576: NARROWER than '..Said'. Prove '..Said' where nothing that the law and all that it calls make is longer than what came in: it says more and counts as full. Else prove '..UptoSaid'. A law counts once. -/
mutual
def uptoBulk {H : Type} : DataW H → Nat
  | .lit (.string bytes) => bytes.length + 1
  | .lit _ => 1
  | .nil => 1
  | .ptr d => uptoBulk d + 1
  | .slice elems spare => uptoBulkAll elems + uptoBulkAll spare + 1
  | .agg parts => uptoBulkAll parts + 1
  | .iface _ d => uptoBulk d + 1
  | .map entries => uptoBulkEntries entries + 1
  | .held _ => 1
def uptoBulkAll {H : Type} : List (DataW H) → Nat
  | [] => 0
  | d :: r => uptoBulk d + uptoBulkAll r
def uptoBulkEntries {H : Type} : List (Lit × DataW H) → Nat
  | [] => 0
  | x :: r => uptoBulkEntry x + uptoBulkEntries r
def uptoBulkEntry {H : Type} : Lit × DataW H → Nat
  | (.string bytes, d) => bytes.length + uptoBulk d + 1
  | (_, d) => uptoBulk d + 1
 end
def uptoSmall : (H : Type) → List (DataW H) → Bool := fun _ ds => decide (uptoBulkAll ds ≤ 1048576)
def OpenSpec.upto (s : _root_.Go.ChangeSpec) : _root_.Go.OpenSpec := { _root_.Go.OpenSpec.ofChange s with cond := some uptoSmall }

/-- 'lapwinglaw11.DrawPlays', WHERE WHAT IT READS IS OF BULK AT MOST 1048576: true; the input reads as it did. -/
def drawPlaysUptoRow : OpenClaim := { program := "ythepgcmbaljbhaa", sum := "719e29aaeebb09688bfecf2128800d7c906fd6334751daf5abd6b24766a44c6c", func := "lapwing/lapwinglaw11.DrawPlays", spec := "drawPlays", apart := false, narrowed := true }
def DrawPlaysUptoSaid : Prop := drawPlaysUptoRow.holds Try.pinned (OpenSpec.upto drawPlaysSpec)

/-- 'lapwinglaw11.DrawApart', WHERE WHAT IT READS IS OF BULK AT MOST 1048576: true; the input reads as it did. -/
def drawApartUptoRow : OpenClaim := { program := "ythepgcmbaljbhaa", sum := "719e29aaeebb09688bfecf2128800d7c906fd6334751daf5abd6b24766a44c6c", func := "lapwing/lapwinglaw11.DrawApart", spec := "drawApart", apart := false, narrowed := true }
def DrawApartUptoSaid : Prop := drawApartUptoRow.holds Try.pinned (OpenSpec.upto drawApartSpec)

/-- 'lapwinglaw11.DrawTold', WHERE WHAT IT READS IS OF BULK AT MOST 1048576: true; the input reads as it did. -/
def drawToldUptoRow : OpenClaim := { program := "ythepgcmbaljbhaa", sum := "719e29aaeebb09688bfecf2128800d7c906fd6334751daf5abd6b24766a44c6c", func := "lapwing/lapwinglaw11.DrawTold", spec := "drawTold", apart := false, narrowed := true }
def DrawToldUptoSaid : Prop := drawToldUptoRow.holds Try.pinned (OpenSpec.upto drawToldSpec)

/-- 'lapwinglaw12.PoolPlays', WHERE WHAT IT READS IS OF BULK AT MOST 1048576: true; the input reads as it did. -/
def poolPlaysUptoRow : OpenClaim := { program := "ythepgcmbaljbhaa", sum := "719e29aaeebb09688bfecf2128800d7c906fd6334751daf5abd6b24766a44c6c", func := "lapwing/lapwinglaw12.PoolPlays", spec := "poolPlays", apart := false, narrowed := true }
def PoolPlaysUptoSaid : Prop := poolPlaysUptoRow.holds Try.pinned (OpenSpec.upto poolPlaysSpec)

/-- 'lapwinglaw12.PoolUnique', WHERE WHAT IT READS IS OF BULK AT MOST 1048576: true; the input reads as it did. -/
def poolUniqueUptoRow : OpenClaim := { program := "ythepgcmbaljbhaa", sum := "719e29aaeebb09688bfecf2128800d7c906fd6334751daf5abd6b24766a44c6c", func := "lapwing/lapwinglaw12.PoolUnique", spec := "poolUnique", apart := false, narrowed := true }
def PoolUniqueUptoSaid : Prop := poolUniqueUptoRow.holds Try.pinned (OpenSpec.upto poolUniqueSpec)

/-- 'lapwinglaw12.PoolLate', WHERE WHAT IT READS IS OF BULK AT MOST 1048576: true; the input reads as it did. -/
def poolLateUptoRow : OpenClaim := { program := "ythepgcmbaljbhaa", sum := "719e29aaeebb09688bfecf2128800d7c906fd6334751daf5abd6b24766a44c6c", func := "lapwing/lapwinglaw12.PoolLate", spec := "poolLate", apart := false, narrowed := true }
def PoolLateUptoSaid : Prop := poolLateUptoRow.holds Try.pinned (OpenSpec.upto poolLateSpec)

/-- 'lapwinglaw12.PoolClaims', WHERE WHAT IT READS IS OF BULK AT MOST 1048576: true; the input reads as it did. -/
def poolClaimsUptoRow : OpenClaim := { program := "ythepgcmbaljbhaa", sum := "719e29aaeebb09688bfecf2128800d7c906fd6334751daf5abd6b24766a44c6c", func := "lapwing/lapwinglaw12.PoolClaims", spec := "poolClaims", apart := false, narrowed := true }
def PoolClaimsUptoSaid : Prop := poolClaimsUptoRow.holds Try.pinned (OpenSpec.upto poolClaimsSpec)

/-- 'lapwinglaw12.PoolLists', WHERE WHAT IT READS IS OF BULK AT MOST 1048576: true; the input reads as it did. -/
def poolListsUptoRow : OpenClaim := { program := "ythepgcmbaljbhaa", sum := "719e29aaeebb09688bfecf2128800d7c906fd6334751daf5abd6b24766a44c6c", func := "lapwing/lapwinglaw12.PoolLists", spec := "poolLists", apart := false, narrowed := true }
def PoolListsUptoSaid : Prop := poolListsUptoRow.holds Try.pinned (OpenSpec.upto poolListsSpec)

end Rows
end Go.Proofs.Ythepgcmbaljbhaa
