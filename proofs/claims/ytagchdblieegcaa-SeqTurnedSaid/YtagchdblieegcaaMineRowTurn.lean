/- SeqTurned: for every four whole numbers, which N(R) may come, and how many frames more may be sent, is the same when all are turned by as many; no condition. -/
import Derived.Test.YtagchdblieegcaaRows
import Derived.Test.YtagchdblieegcaaMineTurn
import Derived.Laws.IdiomArrays
import Derived.WalkKit
import Derived.ProofKit
import Derived.OpenShut
import Derived.ShutString
import Derived.ChangeOld
import Derived.Below
import Derived.SizedLaws
namespace Go.Proofs.Ytagchdblieegcaa.seqTurned
open Go.ChangeShapes Go.WideShapes Go.ChangeAt Go.RowKit
open Go.ChangeMaps (open_string shut_string)
set_option linter.unusedVariables false
theorem own : ownKnob Try.prog.godebug = none := by kernel_rfl
theorem cells3 : Try.prog.cellsOf 3 = 1 := by kernel_rfl
theorem cells28 : Try.prog.cellsOf 28 = 2 := by kernel_rfl
theorem list2 {α : Type} (l : List α) (h : (⟨l⟩ : Array α).size = 2) : ∃ a b, l = [a, b] := by
  match l, h with
  | [a, b], _ => exact ⟨a, b, rfl⟩
set_option maxHeartbeats 1000000 in
set_option maxRecDepth 100000 in
theorem lifted (os : Os) (started : os.Started) (H : Type) (enc : TypeId × Value → H) :
    ReturnsInHanded {} Try.checked os 7 .any (Rows.seqTurnedSpec.pre6 enc Try.prog Try.f7 Rows.seqTurnedRow.domain false) (Rows.seqTurnedSpec.post enc Try.prog Try.f7 false true false false) := by
  refine returnsInHanded_of_change_sized (C := Try.checked) own started (by kernel_rfl) Try.func7
    (ChangeSpec.witness6 (enc := enc) (C := Try.checked) false ⟨#[], #[.int .i64 0, .int .i64 0, .agg #[.int .i64 0, .int .i64 0]], []⟩ 8 (by kernel_rfl) (by kernel_rfl) (by kernel_rfl) (by kernel_rfl)) ?_
  intro W base args ds gs before hval0 hW hcnd hsz0 _
  have hsz : (DataW.weightsEach Try.prog (Try.f7.params.toList ++ Rows.seqTurnedSpec.plain.varTypes Try.prog) (ds ++ gs)).all (· ≤ reachBytes) = true := hsz0
  have hval : ∀ (j : Nat) t v, Try.f7.params[j]? = some t → args[j]? = some v → Value.okWide Try.prog W .any base t v := hval0
  have hW' := hW
  obtain ⟨p, q, hA0, hV, rfl, hfz, hnd⟩ := hW
  have hA : DataW.TrodAll enc Try.prog W 0 (fun _ => true) true Try.f7.params.toList args.toList ds p := hA0
  rw [Try.params7] at hA hval hsz
  obtain ⟨v0, vs0, d0, ds0, p0, q0, hargs, rfl, rfl, h0, r0⟩ := trodAll_cons hA
  obtain ⟨v1, vs1, d1, ds1, p1, q1, rfl, rfl, rfl, h1, r1⟩ := trodAll_cons r0
  obtain ⟨v2, vs2, d2, ds2, p2, q2, rfl, rfl, rfl, h2, r2⟩ := trodAll_cons r1
  obtain ⟨rfl, rfl, rfl⟩ := trodAll_nil r2
  obtain rfl : args = #[v0, v1, v2] := by cases args; simp_all
  obtain ⟨rfl, rfl⟩ := trodVars_none hV
  obtain ⟨a0, rfl, rfl, rfl, w0⟩ := open_int Try.underlying3 (hval 0 3 v0 rfl rfl) h0
  obtain ⟨a1, rfl, rfl, rfl, w1⟩ := open_int Try.underlying3 (hval 1 3 v1 rfl rfl) h1
  obtain ⟨cs, rfl, hcsz, _⟩ : ∃ cs, v2 = .agg cs ∧ cs.size = Try.prog.cellsOf 28 ∧ Row.okWide Try.prog W .any base 28 cs := by
    have := hval 2 28 v2 rfl rfl
    simpa [Value.okWide, Try.underlying28] using this
  rw [cells28] at hcsz
  obtain ⟨l⟩ := cs
  obtain ⟨c0, c1, rfl⟩ := list2 l hcsz
  obtain ⟨fuel, hf⟩ := h2
  obtain ⟨ys, m, _, hx, _, hl, hfs⟩ := DataW.trod_array Try.underlying28 hf
  match ys, hl with
  | [y0, y1], _ =>
    have hy0 := hfs 0 (by omega)
    have hy1 := hfs 1 (by omega)
    simp [cells3] at hy0 hy1
    obtain ⟨x0, e0, rfl, w2⟩ := DataW.trod_int Try.underlying3 hy0
    obtain ⟨x1, e1, rfl, w3⟩ := DataW.trod_int Try.underlying3 hy1
    simp [Value.cells] at e0 e1
    subst e0 e1
    simp only [Prod.mk.injEq, List.map_cons, List.map_nil, List.flatMap_cons, List.flatMap_nil, List.append_nil] at hx
    obtain ⟨rfl, rfl⟩ := hx
    clear hA0 hval0 hsz0 hsz
    refine (Mine.turned_any a0 a1 x0 x1 W).mono fun e W' ⟨he, bel⟩ => ?_
    subst he
    have rdA : ∀ sp : Nat → Bool, DataW.Trod enc Try.prog W' 0 sp true 28 (.agg #[.int .i64 x0, .int .i64 x1]) (DataW.agg [.lit (.int .i64 x0), .lit (.int .i64 x1)]) [] := fun sp => ⟨2, by simp [DataW.trod, Value.cells, Try.underlying28, Try.underlying3, cells28, cells3, List.range, List.range.loop, w2, w3]⟩
    exact ⟨_, rfl, _, _, _, [], _, [], hW', trodAll_mk1 (shut_bool Try.underlying4 _), (trodAll_cons_mk (shut_int Try.underlying3 w0) (trodAll_cons_mk (shut_int Try.underlying3 w1) (trodAll_cons_mk (rdA _) trodAll_mk0))), rfl, bel.frame _, fun h => by cases h⟩
theorem over : Rows.seqTurnedRow.holds Try.pinned (OpenSpec.ofChange Rows.seqTurnedSpec) :=
  OpenClaim.holds_of_wide 7 Try.f7 rfl rfl rfl rfl rfl rfl rfl ⟨rfl, rfl, rfl, rfl, rfl⟩ rfl rfl rfl rfl rfl (by kernel_rfl) Try.func7 (by kernel_rfl)
    (of_decide_eq_true (by kernel_rfl)) (by unfold Func.isWrapper; first | (rw [if_pos (by decide +kernel)]; kernel_rfl) | (rw [if_neg (by decide +kernel)]; exact ⟨rfl, rfl⟩))
    (fun os started H enc _ => lifted os started H enc)
theorem proved : Rows.SeqTurnedSaid := over
#print axioms proved
end Go.Proofs.Ytagchdblieegcaa.seqTurned
namespace Go.Proofs.Ytagchdblieegcaa
/-- The row, under a short name, for the claim. -/
theorem seqTurned_holds : Rows.SeqTurnedSaid := seqTurned.proved
end Go.Proofs.Ytagchdblieegcaa
