/-
  No cell of these rows narrows 'for every input' (looked for: loops, veiled, ifaces, maps, wideKeys, modest, calm, conditions, laid).
  DERIVED. THE GIVEN ROWS OF THIS SEAT. 6 by the template 'for every input the law returns true; each argument reads behind the call as it read before'; 0 by the template 'total and deterministic' (their statements: YtffkbadjbnmnmaaTotals.lean).
  GIVEN WITH THE SEED: the statements are not yours to turn. If you find one false, say at which input.
  Laid BY PROGRAM, IN A SANDBOX (cutbox-rows.mjs): the forced cells as the released guide's own fill.sh prints them over the translation 415e8e309b61b1a8… (all of the seat's roots in one cut). By AI agents, Wed Nov 11 2026. No macro, syntax, notation, axiom, sorry.
-/
import Derived.Test.YtffkbadjbnmnmaaChecked
import GoSem.Claim
import GoSem.ClaimJoined
import GoSem.ClaimMapViews
import Derived.JoinedTies
import Derived.KernelRfl
namespace Go.Proofs.Ytffkbadjbnmnmaa
/- THE CELL 'sum', in the pinned program and in every row, IS THE sha256 OF THE DUMP (.gsa) THAT YtffkbadjbnmnmaaProg.lean LOADS. Nothing in Lean hashes anything: it is a label: what it is worth is what the hold of that sum in a sandbox is worth. -/
noncomputable def Try.pinned : Pinned := { name := "ytffkbadjbnmnmaa", sum := "415e8e309b61b1a8033099536bfdbfd050e49766bd307ccb54eb6a08acdab779", checked := Try.checked }
namespace Rows
def none {H : Type} : Left H := { results := [], args := [] }

/-- 'lapwinglaw16.UserAnswers': WHATEVER THE INPUT: true; the input reads as it did. -/
def userAnswersSpec : ChangeSpec := { name := "userAnswers", fn := fun _ => fun
  | [d1, d2, d3] => { results := [.lit (.bool true)], args := [d1, d2, d3] }
  | _ => none }
def userAnswersRow : OpenClaim := { program := "ytffkbadjbnmnmaa", sum := "415e8e309b61b1a8033099536bfdbfd050e49766bd307ccb54eb6a08acdab779", func := "lapwing/lapwinglaw16.UserAnswers", spec := "userAnswers", unfollowed := true, recurses := true, apart := false }
def UserAnswersSaid : Prop := userAnswersRow.holds Try.pinned (OpenSpec.ofChange userAnswersSpec)

/-- ITS FALSE NEIGHBOUR: 'it returns false'. Refute it at one input. -/
def userAnswersWrong : ChangeSpec := { name := "userAnswers", fn := fun _ => fun
  | [d1, d2, d3] => { results := [.lit (.bool false)], args := [d1, d2, d3] }
  | _ => none }
def UserAnswersWrongFalsely : Prop := userAnswersRow.holds Try.pinned (OpenSpec.ofChange userAnswersWrong)

/-- 'lapwinglaw16.UserGives': WHATEVER THE INPUT: true; the input reads as it did. -/
def userGivesSpec : ChangeSpec := { name := "userGives", fn := fun _ => fun
  | [d1, d2, d3] => { results := [.lit (.bool true)], args := [d1, d2, d3] }
  | _ => none }
def userGivesRow : OpenClaim := { program := "ytffkbadjbnmnmaa", sum := "415e8e309b61b1a8033099536bfdbfd050e49766bd307ccb54eb6a08acdab779", func := "lapwing/lapwinglaw16.UserGives", spec := "userGives", unfollowed := true, recurses := true, apart := false }
def UserGivesSaid : Prop := userGivesRow.holds Try.pinned (OpenSpec.ofChange userGivesSpec)

/-- ITS FALSE NEIGHBOUR: 'it returns false'. Refute it at one input. -/
def userGivesWrong : ChangeSpec := { name := "userGives", fn := fun _ => fun
  | [d1, d2, d3] => { results := [.lit (.bool false)], args := [d1, d2, d3] }
  | _ => none }
def UserGivesWrongFalsely : Prop := userGivesRow.holds Try.pinned (OpenSpec.ofChange userGivesWrong)

/-- 'lapwinglaw16.UserDeaf': WHATEVER THE INPUT: true; the input reads as it did. -/
def userDeafSpec : ChangeSpec := { name := "userDeaf", fn := fun _ => fun
  | [d1, d2, d3] => { results := [.lit (.bool true)], args := [d1, d2, d3] }
  | _ => none }
def userDeafRow : OpenClaim := { program := "ytffkbadjbnmnmaa", sum := "415e8e309b61b1a8033099536bfdbfd050e49766bd307ccb54eb6a08acdab779", func := "lapwing/lapwinglaw16.UserDeaf", spec := "userDeaf", unfollowed := true, recurses := true, apart := false }
def UserDeafSaid : Prop := userDeafRow.holds Try.pinned (OpenSpec.ofChange userDeafSpec)

/-- ITS FALSE NEIGHBOUR: 'it returns false'. Refute it at one input. -/
def userDeafWrong : ChangeSpec := { name := "userDeaf", fn := fun _ => fun
  | [d1, d2, d3] => { results := [.lit (.bool false)], args := [d1, d2, d3] }
  | _ => none }
def UserDeafWrongFalsely : Prop := userDeafRow.holds Try.pinned (OpenSpec.ofChange userDeafWrong)

/-- 'lapwinglaw16.UserPlays': WHATEVER THE INPUT: true; the input reads as it did. -/
def userPlaysSpec : ChangeSpec := { name := "userPlays", fn := fun _ => fun
  | [d1, d2, d3] => { results := [.lit (.bool true)], args := [d1, d2, d3] }
  | _ => none }
def userPlaysRow : OpenClaim := { program := "ytffkbadjbnmnmaa", sum := "415e8e309b61b1a8033099536bfdbfd050e49766bd307ccb54eb6a08acdab779", func := "lapwing/lapwinglaw16.UserPlays", spec := "userPlays", unfollowed := true, recurses := true, apart := false }
def UserPlaysSaid : Prop := userPlaysRow.holds Try.pinned (OpenSpec.ofChange userPlaysSpec)

/-- ITS FALSE NEIGHBOUR: 'it returns false'. Refute it at one input. -/
def userPlaysWrong : ChangeSpec := { name := "userPlays", fn := fun _ => fun
  | [d1, d2, d3] => { results := [.lit (.bool false)], args := [d1, d2, d3] }
  | _ => none }
def UserPlaysWrongFalsely : Prop := userPlaysRow.holds Try.pinned (OpenSpec.ofChange userPlaysWrong)

/-- 'lapwinglaw16.UserNil': WHATEVER THE INPUT: true; the input reads as it did. -/
def userNilSpec : ChangeSpec := { name := "userNil", fn := fun _ => fun
  | [d] => { results := [.lit (.bool true)], args := [d] }
  | _ => none }
def userNilRow : OpenClaim := { program := "ytffkbadjbnmnmaa", sum := "415e8e309b61b1a8033099536bfdbfd050e49766bd307ccb54eb6a08acdab779", func := "lapwing/lapwinglaw16.UserNil", spec := "userNil", unfollowed := true, recurses := true, apart := false }
def UserNilSaid : Prop := userNilRow.holds Try.pinned (OpenSpec.ofChange userNilSpec)

/-- ITS FALSE NEIGHBOUR: 'it returns false'. Refute it at one input. -/
def userNilWrong : ChangeSpec := { name := "userNil", fn := fun _ => fun
  | [d] => { results := [.lit (.bool false)], args := [d] }
  | _ => none }
def UserNilWrongFalsely : Prop := userNilRow.holds Try.pinned (OpenSpec.ofChange userNilWrong)

/-- 'lapwinglaw16.UserHolds': WHATEVER THE INPUT: true; the input reads as it did. -/
def userHoldsSpec : ChangeSpec := { name := "userHolds", fn := fun _ => fun
  | [d1, d2] => { results := [.lit (.bool true)], args := [d1, d2] }
  | _ => none }
def userHoldsRow : OpenClaim := { program := "ytffkbadjbnmnmaa", sum := "415e8e309b61b1a8033099536bfdbfd050e49766bd307ccb54eb6a08acdab779", func := "lapwing/lapwinglaw16.UserHolds", spec := "userHolds", unfollowed := true, recurses := true, apart := false }
def UserHoldsSaid : Prop := userHoldsRow.holds Try.pinned (OpenSpec.ofChange userHoldsSpec)

/-- ITS FALSE NEIGHBOUR: 'it returns false'. Refute it at one input. -/
def userHoldsWrong : ChangeSpec := { name := "userHolds", fn := fun _ => fun
  | [d1, d2] => { results := [.lit (.bool false)], args := [d1, d2] }
  | _ => none }
def UserHoldsWrongFalsely : Prop := userHoldsRow.holds Try.pinned (OpenSpec.ofChange userHoldsWrong)

/- THE SECOND FORM. 'bulk': how many values and letters a reading holds, each counted each time it is reached (what is shared counts as often as it is met; a slice's spare places count too). A statement '..UptoSaid' is the law's where the arguments, and the package variables that the reading takes, are together of bulk at most 1048576: NARROWER than '..Said'. Prove '..Said' where nothing that the law and all that it calls make is longer than what came in: it says more and counts as full. Else prove '..UptoSaid'. A law counts once. -/
mutual
def uptoBulk {H : Type} : DataW H → Nat
  | .lit (.string bytes) => bytes.length + 1
  | .lit _ => 1
  | .nil => 1
  | .ptr d => uptoBulk d + 1
  | .slice elems spare => uptoBulkAll elems + uptoBulkAll spare + 1
  | .agg parts => uptoBulkAll parts + 1
  | .iface _ d => uptoBulk d + 1
  | .map entries => uptoBulkEntries entries + 1
  | .held _ => 1
def uptoBulkAll {H : Type} : List (DataW H) → Nat
  | [] => 0
  | d :: r => uptoBulk d + uptoBulkAll r
def uptoBulkEntries {H : Type} : List (Lit × DataW H) → Nat
  | [] => 0
  | x :: r => uptoBulkEntry x + uptoBulkEntries r
def uptoBulkEntry {H : Type} : Lit × DataW H → Nat
  | (.string bytes, d) => bytes.length + uptoBulk d + 1
  | (_, d) => uptoBulk d + 1
 end
def uptoSmall : (H : Type) → List (DataW H) → Bool := fun _ ds => decide (uptoBulkAll ds ≤ 1048576)
def OpenSpec.upto (s : _root_.Go.ChangeSpec) : _root_.Go.OpenSpec := { _root_.Go.OpenSpec.ofChange s with cond := some uptoSmall }

/-- 'lapwinglaw16.UserAnswers', WHERE WHAT IT READS IS OF BULK AT MOST 1048576: true; the input reads as it did. -/
def userAnswersUptoRow : OpenClaim := { program := "ytffkbadjbnmnmaa", sum := "415e8e309b61b1a8033099536bfdbfd050e49766bd307ccb54eb6a08acdab779", func := "lapwing/lapwinglaw16.UserAnswers", spec := "userAnswers", unfollowed := true, recurses := true, apart := false, narrowed := true }
def UserAnswersUptoSaid : Prop := userAnswersUptoRow.holds Try.pinned (OpenSpec.upto userAnswersSpec)

/-- 'lapwinglaw16.UserGives', WHERE WHAT IT READS IS OF BULK AT MOST 1048576: true; the input reads as it did. -/
def userGivesUptoRow : OpenClaim := { program := "ytffkbadjbnmnmaa", sum := "415e8e309b61b1a8033099536bfdbfd050e49766bd307ccb54eb6a08acdab779", func := "lapwing/lapwinglaw16.UserGives", spec := "userGives", unfollowed := true, recurses := true, apart := false, narrowed := true }
def UserGivesUptoSaid : Prop := userGivesUptoRow.holds Try.pinned (OpenSpec.upto userGivesSpec)

/-- 'lapwinglaw16.UserDeaf', WHERE WHAT IT READS IS OF BULK AT MOST 1048576: true; the input reads as it did. -/
def userDeafUptoRow : OpenClaim := { program := "ytffkbadjbnmnmaa", sum := "415e8e309b61b1a8033099536bfdbfd050e49766bd307ccb54eb6a08acdab779", func := "lapwing/lapwinglaw16.UserDeaf", spec := "userDeaf", unfollowed := true, recurses := true, apart := false, narrowed := true }
def UserDeafUptoSaid : Prop := userDeafUptoRow.holds Try.pinned (OpenSpec.upto userDeafSpec)

/-- 'lapwinglaw16.UserPlays', WHERE WHAT IT READS IS OF BULK AT MOST 1048576: true; the input reads as it did. -/
def userPlaysUptoRow : OpenClaim := { program := "ytffkbadjbnmnmaa", sum := "415e8e309b61b1a8033099536bfdbfd050e49766bd307ccb54eb6a08acdab779", func := "lapwing/lapwinglaw16.UserPlays", spec := "userPlays", unfollowed := true, recurses := true, apart := false, narrowed := true }
def UserPlaysUptoSaid : Prop := userPlaysUptoRow.holds Try.pinned (OpenSpec.upto userPlaysSpec)

/-- 'lapwinglaw16.UserNil', WHERE WHAT IT READS IS OF BULK AT MOST 1048576: true; the input reads as it did. -/
def userNilUptoRow : OpenClaim := { program := "ytffkbadjbnmnmaa", sum := "415e8e309b61b1a8033099536bfdbfd050e49766bd307ccb54eb6a08acdab779", func := "lapwing/lapwinglaw16.UserNil", spec := "userNil", unfollowed := true, recurses := true, apart := false, narrowed := true }
def UserNilUptoSaid : Prop := userNilUptoRow.holds Try.pinned (OpenSpec.upto userNilSpec)

/-- 'lapwinglaw16.UserHolds', WHERE WHAT IT READS IS OF BULK AT MOST 1048576: true; the input reads as it did. -/
def userHoldsUptoRow : OpenClaim := { program := "ytffkbadjbnmnmaa", sum := "415e8e309b61b1a8033099536bfdbfd050e49766bd307ccb54eb6a08acdab779", func := "lapwing/lapwinglaw16.UserHolds", spec := "userHolds", unfollowed := true, recurses := true, apart := false, narrowed := true }
def UserHoldsUptoSaid : Prop := userHoldsUptoRow.holds Try.pinned (OpenSpec.upto userHoldsSpec)

end Rows
end Go.Proofs.Ytffkbadjbnmnmaa
