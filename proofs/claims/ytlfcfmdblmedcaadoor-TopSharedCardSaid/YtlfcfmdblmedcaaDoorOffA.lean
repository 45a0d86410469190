/- What is said between a source and its users, as relations; the contract of the office's hear. -/
import Derived.Test.YtlfcfmdblmedcaaDoorSrcF
import Derived.Deep.RegionWith
import Derived.Deep.Draws
namespace Go.Proofs.YtlfcfmdblmedcaaDoor.Mine
open Go.RowKit Go.Maps Go.Proofs.YtlfcfmdblmedcaaDoorW.PrintWords

/-- What a source has. -/
structure SS where
  B : Nat
  last : Nat
  f : Int → Option CK
  n : Nat
def SAt (w : World) (g gp gm : Nat) (s : SS) : Prop := SrcAt w g gp gm s.B s.last s.f s.n

/-- A message to a source: what it does. -/
inductive MsgR : SS → Int → Int → Int → List Ef → SS → Prop
  | req {s : SS} {ri : Int} {j : Nat} : seek s.B 63 s.last = some j → putE 1 ri 127 = 0 → MsgR s 1 ri 127 [⟨0, 2, ri, 64 + (j : Int), 0⟩, ⟨1, 0, 0, 0, 64 + (j : Int)⟩] ⟨orB s.B j, j, s.f, s.n⟩
  | one {s : SS} {ri tei a k : Int} : 64 ≤ tei ∧ tei ≤ 126 → s.f tei = some (a, k, 0) → s.n < 1000000 → putE 5 ri tei = 0 → MsgR s 5 ri tei [] ⟨s.B, s.last, chkPut s.f tei (some (a, k, 1)), s.n + 1⟩
  | two {s : SS} {ri tei a k : Int} : 64 ≤ tei ∧ tei ≤ 126 → s.f tei = some (a, k, 1) → hasB s.B tei = true → s.n < 1000000 → putE 5 ri tei = 0 → MsgR s 5 ri tei (twiceL tei) ⟨freeB s.B tei, s.last, chkPut s.f tei none, s.n + 1⟩
theorem msgR_any {g gp gm : Nat} {s s' : SS} {t ri ai : Int} {l : List Ef} (w : World) (h : SAt w g gp gm s) (hR : MsgR s t ri ai l s') :
    Calls Tryd.prog 40 #[.pointer (some ⟨g, 0, none⟩), .agg #[.int .i64 t, .int .i64 ri, .int .i64 ai]] w fun e w' =>
      ∃ v, e = .returned v ∧ SEfs w.heap.size w' v l ∧ SAt w' g gp gm s' ∧ Only [gp, gm] w w' := by
  cases hR with
  | req hj hE =>
    refine (smsg_req ri w h hj hE).mono ?_
    rintro e w' ⟨v, rfl, h1, h2, h3⟩
    exact ⟨v, rfl, h1, h2, h3.mono (by simp)⟩
  | one ht hf hn hE => exact smsg_one ri ai w h ht hf hn hE
  | two ht hf hB hn hE => exact smsg_two ri ai w h ht hf hB hn hE

/-- A user's effects come to the source. -/
inductive HearR : SS → List Ef → List Ef → SS → Prop
  | nil {s : SS} : HearR s [] [] s
  | send {s s1 s2 : SS} {x : Ef} {r l1 l2 : List Ef} : x.kind = 0 → MsgR s x.type x.ri x.ai l1 s1 → HearR s1 r l2 s2 → HearR s (x :: r) (l1 ++ l2) s2
  | other {s s2 : SS} {x : Ef} {r l : List Ef} : x.kind ≠ 0 → x.kind ≠ 3 → HearR s r l s2 → HearR s (x :: r) l s2

theorem cells_ne {w : World} {a b : Nat} {cs ds : Array Value} {t u : TypeId} {p q : Nat × Nat} (h1 : w.heap[a]? = some (.cells cs t p)) (h2 : w.heap[b]? = some (.cells ds u q)) (hne : t ≠ u) : a ≠ b := by
  rintro rfl
  rw [h1] at h2
  injection h2 with h2
  injection h2 with _ h2 _
  exact hne h2
theorem map_ne {w : World} {a b : Nat} {cs : Array Value} {t : TypeId} {p : Nat × Nat} {es : Array MapEntry} {c : Nat} (h1 : w.heap[a]? = some (.cells cs t p)) (h2 : w.heap[b]? = some (.map es c)) : a ≠ b := by
  rintro rfl
  rw [h1] at h2
  injection h2 with h2
  cases h2
theorem SAt.not {w : World} {g gp gm a : Nat} {s : SS} {cs : Array Value} {t : TypeId} {p : Nat × Nat} (h : SAt w g gp gm s) (ha : w.heap[a]? = some (.cells cs t p)) (h1 : t ≠ 110) (h2 : t ≠ 151) : a ∉ [g, gp, gm] := by
  obtain ⟨es, c, hm⟩ := h.chk.obj
  have n1 := cells_ne ha h.box h1
  have n2 := cells_ne ha h.pool.1 h2
  have n3 := map_ne ha hm
  simp
  exact ⟨n1, n2, n3⟩
theorem own_not {w : World} {B : Nat} {e : TypeId} {s n : Nat} {v : Value} {xs : List Value} (h : w.ownsRow B e s v n xs) {b : Nat} (hb : v.ownBlock = some b) : ∃ cs, w.heap[b]? = some (.cells cs e (0, 0)) := by
  rcases h.2 with ⟨rfl, -⟩ | ⟨g, cap, cur, rfl, -, hg, -⟩
  · simp [Value.ownBlock] at hb
  · simp [Value.ownBlock] at hb
    subst hb
    exact ⟨_, hg⟩
theorem SAt.row {w w' : World} {g gp gm : Nat} {s : SS} {B : Nat} {e : TypeId} {k n : Nat} {v : Value} {xs : List Value} (h : SAt w g gp gm s) (ho : w.ownsRow B e k v n xs) (h1 : e ≠ 110) (h2 : e ≠ 151) (hk : Only [gp, gm] w w') : w'.ownsRow B e k v n xs :=
  own_keep ho (fun b hb => by
    obtain ⟨cs, hcs⟩ := own_not ho hb
    have := h.not hcs h1 h2
    exact hk.block b (lt_of_at hcs) (by simp at this ⊢; omega))
theorem SAt.grown {w w' : World} {g gp gm : Nat} {s : SS} {B : Nat} {e : TypeId} {k n : Nat} {v : Value} {xs : List Value} (h : SAt w g gp gm s) (ho : w.ownsRow B e k v n xs) (h1 : e ≠ 110) (h2 : e ≠ 151) (hg : w.grownBy w' v.ownBlock) : SAt w' g gp gm s := by
  have hn : ∀ b, v.ownBlock = some b → b ∉ [g, gp, gm] := fun b hb => by
    obtain ⟨cs, hcs⟩ := own_not ho hb
    exact h.not hcs h1 h2
  have hk : ∀ q, q ∈ [g, gp, gm] → w'.heap[q]? = w.heap[q]? := fun q hq => hg.block q (by
    have := h.lt
    simp at hq
    rcases hq with rfl | rfl | rfl <;> omega) (fun e => hn q e.symm hq)
  exact ⟨(hk g (by simp)).trans h.box, ⟨(hk gp (by simp)).trans h.pool.1, h.pool.2⟩, h.chk.move (hk gm (by simp))⟩
theorem SAt.below {w w' : World} {g gp gm : Nat} {s : SS} (h : SAt w g gp gm s) (b : Below w.heap.size w w') : SAt w' g gp gm s := SrcAt.below h b

theorem efc_add (r k : Nat) : (⟨r, 0, none⟩ : Addr).add k = ⟨r, k, none⟩ := by
  unfold Addr.add
  split
  · rename_i q; subst q; rfl
  · simp
/-- append(v, m...): effects behind effects. -/
theorem append_efs {w : World} {B B' : Nat} {v : Value} {l m : List Ef} {A : Option Addr} {c : Nat} (ty : TypeId) (h1 : w.ownsRow B 105 5 v l.length (efCells l)) (h2 : w.ownsRow B' 105 5 (.slice A m.length c) m.length (efCells m)) (hB : B ≤ w.heap.size) (hl : l.length + m.length ≤ 10000) :
    ∃ v1 w1, (Builtin.append_ #[65, 65] ty #[v, .slice A m.length c]).run Tryd.prog w = .ok v1 w1 ∧ w1.ownsRow B 105 5 v1 (l ++ m).length (efCells (l ++ m)) ∧ w.grownBy w1 v.ownBlock ∧ (v1.ownBlock = v.ownBlock ∨ v1.ownBlock = some w.heap.size) := by
  obtain ⟨i0, hi, hzz⟩ := Option.map_eq_some_iff.1 infoSE
  simp only [Prod.mk.injEq] at hzz
  obtain ⟨hz0, hz1, hz2⟩ := hzz
  rcases h2.2 with ⟨h0, hm⟩ | ⟨r, cap, cur, hr, -⟩
  · have hml : m = [] := List.eq_nil_of_length_eq_zero hm
    subst hml
    injection h0 with h0 _ h0'
    subst h0 h0'
    refine ⟨v, w, ?_, by simpa using h1, World.grownBy.refl w _, Or.inl rfl⟩
    rcases h1.2 with ⟨rfl, hn⟩ | ⟨g, cap, cur, rfl, _, _, hnc, _⟩
    · simp [Builtin.append_, run_underlying Tryd.underlying65, sizeOf, typeInfo, hi, Builtin.lenOf, Builtin.firstCells]
    · simp [Builtin.append_, run_underlying Tryd.underlying65, sizeOf, typeInfo, hi, Builtin.lenOf, Builtin.firstCells, hnc, storeCells]
  · injection hr with hr _ hr'
    subst hr hr'
    have hcells : ∀ j u, (efCells m)[j]? = some u → w.cell? ((⟨r, 0, none⟩ : Addr).add j) = some u := by
      intro j u hu
      rw [efc_add]
      exact own_at h2 j u hu
    obtain ⟨v1, w1, hr, a2, a3, -, a5⟩ := run_append_own_at (P := Tryd.prog) w B 65 ty 105 i0 _ 5 40 Tryd.underlying65 hi hz0 hz1 hz2 rfl (by decide) v l.length (efCells l) h1 ⟨r, 0, none⟩ m.length c (efCells m) (efc_length m) hcells (efc_one m) (by unfold maxLen; omega) (by omega) hB
    exact ⟨v1, w1, hr, by rw [List.length_append, efc_append]; exact a2, a3, a5⟩

/-- append(v, m...) at the operation. -/
theorem wpList_append_efs {w : World} {ops : Array Oper} {rest : List Oper} {o : Oper} {a : Act} {Q : Exit → Act → World → Prop} (hgd : o.guard = none) (s x : Operand)
    (ho : o.op = .call { callee := .builtin .append, args := #[s, x], argTypes := #[65, 65] }) {B B' : Nat} {v : Value} {l m : List Ef} {A : Option Addr} {c : Nat} (hs : a.eval s = v) (hx : a.eval x = .slice A m.length c)
    (h1 : w.ownsRow B 105 5 v l.length (efCells l)) (h2 : w.ownsRow B' 105 5 (.slice A m.length c) m.length (efCells m)) (hB : B ≤ w.heap.size) (hl : l.length + m.length ≤ 10000)
    (h : ∀ v1 w1, w1.ownsRow B 105 5 v1 (l ++ m).length (efCells (l ++ m)) → w.grownBy w1 v.ownBlock → (v1.ownBlock = v.ownBlock ∨ v1.ownBlock = some w.heap.size) → wpList Tryd.prog ops Q rest (a.put o.dst v1) w1) :
    wpList Tryd.prog ops Q (o :: rest) a w := by
  obtain ⟨v1, w1, hr, a2, a3, a4⟩ := append_efs o.type h1 h2 hB hl
  refine wpList_plain hgd fun K hK => ?_
  unfold Oper.wp execOp
  simp only [ho, resolve, invoke, builtin, Sem.run_bind, Sem.run_pure, Result.andThen_ok, List.map_toArray, List.map_cons, List.map_nil, hs, hx, hr]
  exact hK _ _ (h v1 w1 a2 a3 a4)
/-- An append in a drawn region, by its run. -/
theorem oper_append {P : Program} {o : Oper} {a : Act} {w w1 : World} {v1 vs vx : Value} {s x : Operand} {t : TypeId} {next : Act → World → Prop} {Q : Exit → Act → World → Prop}
    (ho : o.op = .call { callee := .builtin .append, args := #[s, x], argTypes := #[t, t] }) (hs : a.eval s = vs) (hx : a.eval x = vx) (hr : (Builtin.append_ #[t, t] o.type #[vs, vx]).run P w = .ok v1 w1) (hn : next (a.put o.dst v1) w1) : Oper.wp P o a w next Q := by
  unfold Oper.wp execOp
  simp only [ho, resolve, invoke, builtin, Sem.run_bind, Sem.run_pure, Result.andThen_ok, List.map_toArray, List.map_cons, List.map_nil, hs, hx, hr]
  exact hn

structure HearI (w : World) (g gp gm go b : Nat) (s' : SS) (l out : List Ef) (obox ebox : Obj) (j : Nat) (outv : Value) (wr : World) : Prop where
  st : ∃ s acc rest, HearR s (l.drop j) rest s' ∧ acc ++ rest = out ∧ SAt wr g gp gm s ∧ wr.ownsRow w.heap.size 105 5 outv acc.length (efCells acc)
  only : Only [gp, gm] w wr
  obox : wr.heap[go]? = some obox
  ebox : l = [] ∨ wr.heap[b]? = some ebox

set_option linter.unusedSimpArgs false in
set_option maxHeartbeats 4000000 in
set_option maxRecDepth 100000 in
theorem hear_any {g gp gm go : Nat} {s s' : SS} {l out : List Ef} {Bv : Nat} {v uv : Value} {gi fa : Int} (w : World) (hbox : w.heap[go]? = some (.cells #[.pointer (some ⟨g, 0, none⟩), uv, .int .i64 gi, .int .i64 fa] 56 (0, 0))) (h : SAt w g gp gm s) (hv : Efs Bv w v l) (hl : l.length ≤ 2) (hR : HearR s l out s') (ho : out.length ≤ 100) :
    Calls Tryd.prog 20 #[.pointer (some ⟨go, 0, none⟩), v] w fun e w' =>
      ∃ v', e = .returned v' ∧ SEfs w.heap.size w' v' out ∧ SAt w' g gp gm s' ∧ Only [gp, gm] w w' := by
  obtain ⟨A, c, rfl, hv⟩ := hv
  obtain ⟨b, hb⟩ : ∃ b, l = [] ∨ A = some ⟨b, 0, none⟩ ∧ w.heap[b]? = some (.cells (efCells l).toArray 102 (0, 0)) := by
    rcases hv with hv | ⟨b, h1, -, h2⟩
    · exact ⟨0, Or.inl hv⟩
    · exact ⟨b, Or.inr ⟨h1, h2⟩⟩
  have hI : HearI w g gp gm go b s' l out _ (.cells (efCells l).toArray 102 (0, 0)) 0 (.slice none 0 0) w := ⟨⟨s, [], out, by simpa using hR, rfl, h, own_nil _ _ _ _⟩, Only.refl _ _, hbox, hb.imp id (fun x => x.2)⟩
  have hA : l = [] ∨ A = some ⟨b, 0, none⟩ := hb.imp id (fun x => x.1)
  have HI := Lib.hid hI
  clear hI h hv hR hbox hb
  go_enter Tryd.func20, Tryd.ntmps20
  go_wp2_with fail
  go_loopw [10, 5] (fun i outv wr => ∃ j : Nat, i = .int .i64 j ∧ j ≤ l.length ∧ HearI w g gp gm go b s' l out (.cells #[.pointer (some ⟨g, 0, none⟩), uv, .int .i64 gi, .int .i64 fa] 56 (0, 0)) (.cells (efCells l).toArray 102 (0, 0)) j outv wr) (fun i _ _ => l.length - (intOf i).toNat)
  case atStart => exact ⟨0, rfl, Nat.zero_le _, HI.out⟩
  case round =>
    clear HI
    obtain ⟨j, rfl, hj, hI⟩ := hrel
    by_cases hjl : j < l.length
    · obtain ⟨x, hx⟩ : ∃ x, l[j]? = some x := ⟨l[j], List.getElem?_eq_getElem hjl⟩
      have hne : l ≠ [] := by rintro rfl; simp at hjl
      obtain rfl := hA.resolve_left hne
      have hbb := hI.ebox.resolve_left hne
      have e0 : wr.cell? ⟨b, j * 5 + 0, none⟩ = some (.int .i64 x.kind) := (at_cell hbb _).trans ((by simp : (efCells l).toArray[j * 5 + 0]? = (efCells l)[j * 5 + 0]?).trans (efc_get l j 0 x hx (by decide)))
      have e1 : wr.cell? ⟨b, j * 5 + 1, none⟩ = some (.int .i64 x.type) := (at_cell hbb _).trans ((by simp : (efCells l).toArray[j * 5 + 1]? = (efCells l)[j * 5 + 1]?).trans (efc_get l j 1 x hx (by decide)))
      have e2 : wr.cell? ⟨b, j * 5 + 2, none⟩ = some (.int .i64 x.ri) := (at_cell hbb _).trans ((by simp : (efCells l).toArray[j * 5 + 2]? = (efCells l)[j * 5 + 2]?).trans (efc_get l j 2 x hx (by decide)))
      have e3 : wr.cell? ⟨b, j * 5 + 3, none⟩ = some (.int .i64 x.ai) := (at_cell hbb _).trans ((by simp : (efCells l).toArray[j * 5 + 3]? = (efCells l)[j * 5 + 3]?).trans (efc_get l j 3 x hx (by decide)))
      have e4 : wr.cell? ⟨b, j * 5 + 4, none⟩ = some (.int .i64 x.tei) := (at_cell hbb _).trans ((by simp : (efCells l).toArray[j * 5 + 4]? = (efCells l)[j * 5 + 4]?).trans (efc_get l j 4 x hx (by decide)))
      rw [Nat.add_zero] at e0
      have hdrop : l.drop j = x :: l.drop (j + 1) := by
        rw [List.drop_eq_getElem_cons hjl]
        rw [List.getElem?_eq_getElem hjl] at hx
        injection hx with hx
        rw [hx]
      obtain ⟨s0, acc, rest, hR, hacc, hS, hrow⟩ := hI.st
      rw [hdrop] at hR
      obtain ⟨A2, c2, rfl⟩ := own_slice hrow
      have hal : acc.length ≤ 100 := by
        have := congrArg List.length hacc
        rw [List.length_append] at this
        omega
      have o0 := at_cell hI.obox 0
      simp at o0
      have ol := lt_of_at hI.obox
      clear hx hdrop
      cases hR with
      | send hk hM hR2 =>
        rename_i s1 l1 l2
        have HI := Lib.hid hI
        have HM := Lib.hid hM
        have HR2 := Lib.hid hR2
        have HS := Lib.hid hS
        have HROW := Lib.hid hrow
        have HACC := Lib.hid hacc
        obtain ⟨xk, xt, xr, xa, xe⟩ := x
        dsimp only at hk HM e0 e1 e2 e3 e4
        subst hk
        clear hI hM hR2 hS hrow hacc
        have hbx := at_new wr (.cells #[.int .i64 0, .int .i64 xt, .int .i64 xr, .int .i64 xa, .int .i64 xe] 102)
        have hS1 := HS.out.below ((Below.refl _ wr).alloc (Nat.le_refl _) (.cells #[.int .i64 0, .int .i64 xt, .int .i64 xr, .int .i64 xa, .int .i64 xe] 102))
        have HS1 := Lib.hid (show SAt ((wr.alloc (.cells #[.int .i64 0, .int .i64 xt, .int .i64 xr, .int .i64 xa, .int .i64 xe] 102)).drew) g gp gm s0 from SrcAt.keep hS1 (Only.refl [] _).drew (by simp) (by simp) (by simp))
        have HROW1 := Lib.hid (HROW.out.alloc (o := .cells #[.int .i64 0, .int .i64 xt, .int .i64 xr, .int .i64 xa, .int .i64 xe] 102))
        have hbo := at_alloc HI.out.obox (.cells #[.int .i64 0, .int .i64 xt, .int .i64 xr, .int .i64 xa, .int .i64 xe] 102)
        have z0 := at_cell hbo 0
        have z1 := at_cell hbx 1
        have z2 := at_cell hbx 2
        have z3 := at_cell hbx 3
        simp only [List.getElem?_toArray, List.getElem?_cons_zero, List.getElem?_cons_succ] at z0 z1 z2 z3
        have HEL := Lib.hid (And.intro z0 (And.intro z1 (And.intro z2 z3)))
        have HBO := Lib.hid hbo
        have HBX := Lib.hid hbx
        clear hbx hS1 hbo z0 z1 z2 z3
        go_wp2_with fail
        refine wp_region_any (by kernel_rfl) ?_
        change wpAny _ _ _ _ _ _ _ (World.drew _)
        refine wpAny_take (i := 0) (v := ?v0) rfl (by kernel_rfl) (by kernel_rfl) (by kernel_rfl) (fun _ _ _ h => h) (Or.inl ⟨by rfl, ?hy0⟩) ?rest0
        case hy0 => (intro w; go_simp; (try with_reducible rfl))
        try simp only [Act.put, List.setIfInBounds_toArray, List.set_cons_zero, List.set_cons_succ, List.getElem_toArray, List.getElem_cons_zero, List.getElem_cons_succ]
        refine wpAny_take (i := 1) (v := ?v1) rfl (by kernel_rfl) (by kernel_rfl) (by kernel_rfl) (fun _ _ _ h => h) (Or.inl ⟨by rfl, ?hy1⟩) ?rest1
        case hy1 => (intro w; go_simp; (try with_reducible rfl))
        try simp only [Act.put, List.setIfInBounds_toArray, List.set_cons_zero, List.set_cons_succ, List.getElem_toArray, List.getElem_cons_zero, List.getElem_cons_succ]
        refine wpAny_take (i := 2) (v := ?v2) rfl (by kernel_rfl) (by kernel_rfl) (by kernel_rfl) (fun _ _ _ h => h) (Or.inl ⟨by rfl, ?hy2⟩) ?rest2
        case hy2 => (intro w; go_simp; (try with_reducible rfl))
        try simp only [Act.put, List.setIfInBounds_toArray, List.set_cons_zero, List.set_cons_succ, List.getElem_toArray, List.getElem_cons_zero, List.getElem_cons_succ]
        refine wpAny_take (i := 3) (v := ?v3) rfl (by kernel_rfl) (by kernel_rfl) (by kernel_rfl) (fun _ _ _ h => h) (Or.inl ⟨by rfl, ?hy3⟩) ?rest3
        case hy3 => (intro w; go_simp; (try with_reducible rfl))
        try simp only [Act.put, List.setIfInBounds_toArray, List.set_cons_zero, List.set_cons_succ, List.getElem_toArray, List.getElem_cons_zero, List.getElem_cons_succ]
        refine wpAny_take (i := 5) (v := ?v5) rfl (by kernel_rfl) (by kernel_rfl) (by kernel_rfl) (fun _ _ _ h => h) (Or.inl ⟨by rfl, ?hy5⟩) ?rest5
        case hy5 => (intro w; go_simp; (try with_reducible rfl))
        try simp only [Act.put, List.setIfInBounds_toArray, List.set_cons_zero, List.set_cons_succ, List.getElem_toArray, List.getElem_cons_zero, List.getElem_cons_succ]
        have hHeld : (fun w' : World => w'.cell? ⟨go, 0, none⟩ = some (.pointer (some ⟨g, 0, none⟩)) ∧ w'.cell? ⟨wr.heap.size, 1, none⟩ = some (.int .i64 xt) ∧ w'.cell? ⟨wr.heap.size, 2, none⟩ = some (.int .i64 xr) ∧ w'.cell? ⟨wr.heap.size, 3, none⟩ = some (.int .i64 xa)) ((wr.alloc (.cells #[.int .i64 0, .int .i64 xt, .int .i64 xr, .int .i64 xa, .int .i64 xe] 102)).drew) := HEL.out
        refine wpAny_of_held (S := (fun w' : World => w'.cell? ⟨go, 0, none⟩ = some (.pointer (some ⟨g, 0, none⟩)) ∧ w'.cell? ⟨wr.heap.size, 1, none⟩ = some (.int .i64 xt) ∧ w'.cell? ⟨wr.heap.size, 2, none⟩ = some (.int .i64 xr) ∧ w'.cell? ⟨wr.heap.size, 3, none⟩ = some (.int .i64 xa))) _ _ _ _ ?_
        refine wpAnyH_take (i := 4) (v := ?v4) rfl (by kernel_rfl) (by kernel_rfl) (by kernel_rfl) (fun _ _ _ h => h) (Or.inl ⟨by rfl, ?hy4⟩) (by assumption) ?rest4
        case hy4 => (intro w hSw; (try dsimp only at hSw); go_simp; (try with_reducible rfl))
        try simp only [Act.put, List.setIfInBounds_toArray, List.set_cons_zero, List.set_cons_succ, List.getElem_toArray, List.getElem_cons_zero, List.getElem_cons_succ]
        refine wpAnyH_take (i := 6) (v := ?v6) rfl (by kernel_rfl) (by kernel_rfl) (by kernel_rfl) (fun _ _ _ h => h) (Or.inl ⟨by rfl, ?hy6⟩) (by assumption) ?rest6
        case hy6 => (intro w hSw; (try dsimp only at hSw); go_simp; (try with_reducible rfl))
        try simp only [Act.put, List.setIfInBounds_toArray, List.set_cons_zero, List.set_cons_succ, List.getElem_toArray, List.getElem_cons_zero, List.getElem_cons_succ]
        refine wpAnyH_ready (rs := [7]) (by kernel_rfl) (by simp) ?_
        refine AllReadyH.cons rfl (fun K hK => ?_) AllReadyH.nil
        go_simp
        refine (msgR_any _ HS1.out HM.out).mono ?_
        rintro e wb ⟨vb, rfl, q1, q2, q3⟩
        obtain ⟨A3, c3, rfl⟩ := own_slice q1
        have hro := SAt.row HS1.out (show ((wr.alloc (.cells #[.int .i64 0, .int .i64 xt, .int .i64 xr, .int .i64 xa, .int .i64 xe] 102)).drew).ownsRow w.heap.size 105 5 _ acc.length (efCells acc) from HROW1.out) (by decide) (by decide) q3
        obtain ⟨v1, w1, hrun, q4, q5, -⟩ := append_efs 65 hro q1 (by have := HI.out.only.size; have := q3.size; simp at this; omega) (by have := congrArg List.length HACC.out; rw [List.length_append, List.length_append] at this; omega)
        have n1 := SAt.not HS1.out (a := go) HBO.out (by decide) (by decide)
        have n2 := SAt.not HS1.out (a := wr.heap.size) HBX.out (by decide) (by decide)
        have hbo : wb.heap[go]? = _ := q3.at (w := (wr.alloc (.cells #[.int .i64 0, .int .i64 xt, .int .i64 xr, .int .i64 xa, .int .i64 xe] 102)).drew) HBO.out (by simp at n1 ⊢; omega)
        have hbx : wb.heap[wr.heap.size]? = _ := q3.at (w := (wr.alloc (.cells #[.int .i64 0, .int .i64 xt, .int .i64 xr, .int .i64 xa, .int .i64 xe] 102)).drew) HBX.out (by simp at n2 ⊢; omega)
        have z0 := at_cell hbo 0
        have z1 := at_cell hbx 1
        have z2 := at_cell hbx 2
        have z3 := at_cell hbx 3
        simp only [List.getElem?_toArray, List.getElem?_cons_zero, List.getElem?_cons_succ] at z0 z1 z2 z3
        have HRO := Lib.hid hro
        have HBOb := Lib.hid hbo
        have HBXb := Lib.hid hbx
        have Q2 := Lib.hid q2
        have Q3 := Lib.hid q3
        have Q4 := Lib.hid q4
        have Q5 := Lib.hid q5
        have HRUN := Lib.hid hrun
        refine hK.out _ _ ⟨z0, z1, z2, z3⟩ (fun hHeld => ?_)
        clear hK K q2 q3 q4 q5 q1 hrun hro hbo hbx z0 z1 z2 z3
        try simp only [Act.put, List.setIfInBounds_toArray, List.set_cons_zero, List.set_cons_succ, List.getElem_toArray, List.getElem_cons_zero, List.getElem_cons_succ]
        refine wpAnyH_ready (rs := [8]) (by kernel_rfl) (by simp) ?_
        refine AllReadyH.cons rfl (fun K hK => ?_) AllReadyH.nil
        rw [if_pos (by kernel_rfl)]
        refine oper_append (s := .tmp 18) (x := .tmp 25) (t := 65) rfl rfl rfl HRUN.out ?_
        have n1 : (Value.slice A2 acc.length c2).ownBlock ≠ some go := fun e => by
          obtain ⟨cs, hcs⟩ := own_not HRO.out e
          exact cells_ne hcs HBOb.out (by decide) rfl
        have n2 : (Value.slice A2 acc.length c2).ownBlock ≠ some wr.heap.size := fun e => by
          obtain ⟨cs, hcs⟩ := own_not HRO.out e
          exact cells_ne hcs HBXb.out (by decide) rfl
        have hbo := (Q5.out.block go (lt_of_at HBOb.out) (fun e => n1 e.symm)).trans HBOb.out
        have hbx := (Q5.out.block wr.heap.size (lt_of_at HBXb.out) (fun e => n2 e.symm)).trans HBXb.out
        have z0 := at_cell hbo 0
        have z1 := at_cell hbx 1
        have z2 := at_cell hbx 2
        have z3 := at_cell hbx 3
        simp only [List.getElem?_toArray, List.getElem?_cons_zero, List.getElem?_cons_succ] at z0 z1 z2 z3
        have HBOc := Lib.hid hbo
        refine hK.out _ _ ⟨z0, z1, z2, z3⟩ (fun hHeld => ?_)
        clear hK K z0 z1 z2 z3 hbo hbx n1 n2
        try simp only [Act.put, List.setIfInBounds_toArray, List.set_cons_zero, List.set_cons_succ, List.getElem_toArray, List.getElem_cons_zero, List.getElem_cons_succ]
        refine wpAnyH_take (i := 9) (v := ?v9) rfl (by kernel_rfl) (by kernel_rfl) (by kernel_rfl) (fun _ _ _ h => h) (Or.inl ⟨by rfl, ?hy9⟩) (by assumption) ?rest9
        case hy9 => (intro w hSw; (try dsimp only at hSw); go_simp; (try with_reducible rfl))
        try simp only [Act.put, List.setIfInBounds_toArray, List.set_cons_zero, List.set_cons_succ, List.getElem_toArray, List.getElem_cons_zero, List.getElem_cons_succ]
        refine wpAnyH_done (by kernel_rfl) ?_ _
        clear hHeld
        have hbb1 : w1.heap[b]? = some (.cells (efCells l).toArray 102 (0, 0)) := by
          have h1 := at_alloc hbb (.cells #[.int .i64 0, .int .i64 xt, .int .i64 xr, .int .i64 xa, .int .i64 xe] 102)
          have n1 := SAt.not HS1.out (a := b) h1 (by decide) (by decide)
          have h2 : wb.heap[b]? = _ := Q3.out.at (w := (wr.alloc (.cells #[.int .i64 0, .int .i64 xt, .int .i64 xr, .int .i64 xa, .int .i64 xe] 102)).drew) h1 (by simp at n1 ⊢; omega)
          refine (Q5.out.block b (lt_of_at h2) (fun e => ?_)).trans h2
          obtain ⟨cs, hcs⟩ := own_not HRO.out e.symm
          exact cells_ne hcs h2 (by decide) rfl
        have hon : Only [gp, gm] w w1 := by
          have k1 : Only [gp, gm] w wb := (((HI.out.only.alloc (.cells #[.int .i64 0, .int .i64 xt, .int .i64 xr, .int .i64 xa, .int .i64 xe] 102)).drew).trans Q3.out)
          refine ⟨Q5.out.os.trans k1.os, Q5.out.tape.trans k1.tape, Q5.out.output.trans k1.output, Nat.le_trans k1.size Q5.out.size, fun q hq hqs => ?_⟩
          refine (Q5.out.block q (Nat.lt_of_lt_of_le hq k1.size) (fun e => ?_)).trans (k1.block q hq hqs)
          have := (HRO.out.lt q e.symm).1
          omega
        have hI2 : HearI w g gp gm go b s' l out (.cells #[.pointer (some ⟨g, 0, none⟩), uv, .int .i64 gi, .int .i64 fa] 56 (0, 0)) (.cells (efCells l).toArray 102 (0, 0)) (j + 1) v1 w1 :=
          ⟨⟨s1, acc ++ l1, l2, HR2.out, by rw [List.append_assoc]; exact HACC.out, SAt.grown Q2.out HRO.out (by decide) (by decide) Q5.out, Q4.out⟩, hon, HBOc.out, Or.inr hbb1⟩
        have HI2 := Lib.hid hI2
        clear hI2 hon hbb1 e0 e1 e2 e3 e4 o0
        go_wp2
        go_roundw
        case rel => exact ⟨j + 1, by go_num, by omega, HI2.out⟩
        case measure => simp [intOf]; omega
      | other hk hk3 hR2 =>
        have hI2 : HearI w g gp gm go b s' l out (.cells #[.pointer (some ⟨g, 0, none⟩), uv, .int .i64 gi, .int .i64 fa] 56 (0, 0)) (.cells (efCells l).toArray 102 (0, 0)) (j + 1) (.slice A2 acc.length c2) (wr.alloc (.cells #[.int .i64 x.kind, .int .i64 x.type, .int .i64 x.ri, .int .i64 x.ai, .int .i64 x.tei] 102)) :=
          ⟨⟨s0, acc, rest, hR2, hacc, hS.below ((Below.refl _ _).alloc (Nat.le_refl _) _), hrow.alloc _⟩, hI.only.alloc _, at_alloc hI.obox _, Or.inr (at_alloc hbb _)⟩
        have HI2 := Lib.hid hI2
        have q0 : (x.kind == 0) = false := by simpa using hk
        have q3 : (x.kind == 3) = false := by simpa using hk3
        clear hI2 hI hR2 hS hrow hacc hk hk3
        go_wp2
        go_roundw
        case rel => exact ⟨j + 1, by go_num, by omega, HI2.out⟩
        case measure => simp [intOf]; omega
    · obtain rfl : j = l.length := by omega
      obtain ⟨s0, acc, rest, hR, hacc, hS, hrow⟩ := hI.st
      have hon := hI.only
      rw [List.drop_length] at hR
      cases hR
      rw [List.append_nil] at hacc
      subst hacc
      have HS := Lib.hid hS
      have HROW := Lib.hid hrow
      have HON := Lib.hid hon
      clear hS hrow hon hI
      go_wp2
      go_ret
      exact ⟨_, rfl, HROW.out, HS.out, HON.out⟩
end Go.Proofs.YtlfcfmdblmedcaaDoor.Mine
