/- TopShared: plain laws of what is said. No program in sight. -/
import Derived.Test.YtlfcfmdblmedcaaDoorOffC
namespace Go.Proofs.YtlfcfmdblmedcaaDoor.Mine

theorem putE_in {t ri ai : Int} (h1 : 1 ≤ t) (h2 : t ≤ 7) (h3 : 0 ≤ ri) (h4 : ri ≤ 65535) (h5 : 0 ≤ ai) (h6 : ai ≤ 127) : putE t ri ai = 0 := by
  unfold putE packE
  rw [if_neg (by omega), if_neg (by omega), if_pos ⟨h5, h6⟩]
/-- A user that a message leaves as it is. -/
def UR.Quiet (u : UR) (t ri ai : Int) : Prop := u.told t ri ai = ⟨[], 0, u.s, u.p⟩
theorem UR.turn_same {u : UR} {t ri ai : Int} (h : u.Quiet t ri ai) : u.turn (u.told t ri ai) = u := by
  unfold UR.turn
  rw [h]
theorem AllR.quiet {t ri ai : Int} {s : SS} : ∀ {us : List UR}, (∀ u ∈ us, u.Quiet t ri ai) → AllR t ri ai s us [] s us
  | [], _ => .nil
  | u :: us, h => by
    have hu := h u (by simp)
    have h1 : HearR s (u.told t ri ai).efs [] s := by
      rw [hu]
      exact .nil
    have := AllR.cons (l2 := []) h1 (AllR.quiet (us := us) (fun x hx => h x (by simp [hx])))
    rw [UR.turn_same hu] at this
    exact this
theorem AllR.append {t ri ai : Int} {s s1 s2 : SS} {a b a' b' : List UR} {l1 l2 : List Ef} (h : AllR t ri ai s a l1 s1 a') (k : AllR t ri ai s1 b l2 s2 b') : AllR t ri ai s (a ++ b) (l1 ++ l2) s2 (a' ++ b') := by
  induction h with
  | nil => exact k
  | cons hH hA ih =>
    rw [List.append_assoc]
    exact .cons hH (ih k)
/-- What is not sent is passed by. -/
theorem RoundR.pass {s : SS} {us : List UR} : ∀ {l : List Ef}, (∀ x ∈ l, x.kind ≠ 0) → RoundR s us l [] s us
  | [], _ => .nil
  | x :: l, h => .other (h x (by simp)) (RoundR.pass (fun y hy => h y (by simp [hy])))

/-! ### one after the other -/
def got (k : Nat) : US := ⟨64 + (k : Int), false, 0, 0⟩
/-- Those that have a TEI, from the k-th one on. -/
def Held : Nat → List UR → Prop
  | _, [] => True
  | k, u :: l => u.s = got k ∧ Held (k + 1) l
def Idle (seed : Int) : Nat → List UR → Prop
  | _, [] => True
  | k, u :: l => u.s = uIdle ∧ u.p = ([(k : Int) + 1], seed) ∧ Idle seed (k + 1) l
theorem Held.snoc : ∀ {k : Nat} {l : List UR} {u : UR}, Held k l → u.s = got (k + l.length) → Held k (l ++ [u])
  | k, [], u, _, h => ⟨h, trivial⟩
  | k, x :: l, u, hl, h => ⟨hl.1, Held.snoc hl.2 (by rw [h]; congr 1; simp; omega)⟩
theorem Held.mem : ∀ {k : Nat} {l : List UR}, Held k l → ∀ u ∈ l, ∃ j, k ≤ j ∧ j < k + l.length ∧ u.s = got j
  | k, [], _, u, hu => by simp at hu
  | k, x :: l, hl, u, hu => by
    rw [List.mem_cons] at hu
    rcases hu with rfl | hu
    · exact ⟨k, Nat.le_refl _, by simp, hl.1⟩
    · obtain ⟨j, h1, h2, h3⟩ := Held.mem hl.2 u hu
      exact ⟨j, by omega, by simp; omega, h3⟩
theorem Idle.mem {seed : Int} : ∀ {k : Nat} {l : List UR}, Idle seed k l → ∀ u ∈ l, u.s = uIdle
  | k, [], _, u, hu => by simp at hu
  | k, x :: l, hl, u, hu => by
    rw [List.mem_cons] at hu
    rcases hu with rfl | hu
    · exact hl.1
    · exact Idle.mem hl.2.2 u hu

theorem quiet_idle {u : UR} {t ri ai : Int} (h : u.s = uIdle) : u.Quiet t ri ai := by
  unfold UR.Quiet UR.told uMsg
  have h1 : ¬ uTakes u.s t ri ai := by rw [h]; intro q; have := q.2.1; simp [uIdle] at this
  have h2 : ¬ uMine u.s ai := by rw [h]; intro q; exact q.1 rfl
  by_cases hE : putE t ri ai ≠ 0
  · rw [if_pos hE]
  · rw [if_neg hE, if_neg h1, if_neg (fun q => h2 q.1), if_neg (fun q => h2 q.1)]
theorem quiet_other {u : UR} {t ri ai : Int} {k : Nat} (h : u.s = got k) (h1 : ai ≠ 64 + (k : Int)) (h2 : ai ≠ 127) : u.Quiet t ri ai := by
  unfold UR.Quiet UR.told uMsg
  have h3 : ¬ uTakes u.s t ri ai := by rw [h]; intro q; have := q.2.1; simp [got] at this
  have h4 : ¬ uMine u.s ai := by rw [h]; intro q; rcases q.2 with q | q; (exact h1 q); exact h2 q
  by_cases hE : putE t ri ai ≠ 0
  · rw [if_pos hE]
  · rw [if_neg hE, if_neg h3, if_neg (fun q => h4 q.1), if_neg (fun q => h4 q.1)]

/-- The k-th one is given its TEI. -/
theorem given_round {seed : Int} {k : Nat} {s : SS} {dn rest : List UR} {u : UR} (hk : k ≤ 9) (hd : Held 0 dn) (hdl : dn.length = k) (hu : u.s = ⟨-1, true, (k : Int) + 1, 1⟩) (hr : Idle seed (k + 1) rest) :
    SaysR s (dn ++ u :: rest) [⟨0, 2, (k : Int) + 1, 64 + (k : Int), 0⟩, ⟨1, 0, 0, 0, 64 + (k : Int)⟩] s (dn ++ { u with s := got k } :: rest) 1 := by
  refine .done ?_
  have e : ([] : List Ef) = [] ++ [] := rfl
  rw [e]
  refine .send rfl ?_ (.other (by simp) .nil)
  have e2 : ([] : List Ef) = [] ++ ([] ++ []) := rfl
  rw [e2]
  refine AllR.append (AllR.quiet fun x hx => ?_) ?_
  · obtain ⟨j, h1, h2, h3⟩ := hd.mem x hx
    exact quiet_other h3 (by dsimp only; omega) (by dsimp only; omega)
  · have ht : u.told 2 ((k : Int) + 1) (64 + (k : Int)) = ⟨[⟨5, 0, 0, 0, 0⟩, ⟨1, 0, 0, 0, 64 + (k : Int)⟩], 0, got k, u.p⟩ := by
      unfold UR.told uMsg
      rw [if_neg (by rw [putE_in (by omega) (by omega) (by omega) (by omega) (by omega) (by omega)]; simp), if_pos ⟨rfl, by rw [hu], by rw [hu], by omega, by omega⟩]
      rfl
    have hh : HearR s (u.told 2 ((k : Int) + 1) (64 + (k : Int))).efs [] s := by
      rw [ht]
      exact .other (by simp) (by simp) (.other (by simp) (by simp) .nil)
    have := AllR.cons hh (AllR.quiet (t := 2) (ri := (k : Int) + 1) (ai := 64 + (k : Int)) (us := rest) fun x hx => quiet_idle (hr.mem x hx))
    have et : u.turn (u.told 2 ((k : Int) + 1) (64 + (k : Int))) = { u with s := got k } := by
      unfold UR.turn
      rw [ht]
    rw [et] at this
    exact this

/-- The bits of those that are given. -/
def bitsN (k : Nat) : Nat := 2 ^ k - 1
def lastN (k : Nat) : Nat := if k = 0 then 62 else k - 1
theorem seek_next (k : Nat) (hk : k ≤ 9) : seek (bitsN k) 63 (lastN k) = some k := by
  have h : (lastN k + 1) % 63 = k := by unfold lastN; split <;> omega
  unfold seek
  rw [h, if_neg (by unfold bitsN; rw [Nat.testBit_two_pow_sub_one]; simp)]
theorem or_next : ∀ k, k ≤ 9 → orB (bitsN k) k = bitsN (k + 1) := by
  have : ∀ k : Fin 10, orB (bitsN k.val) k.val = bitsN (k.val + 1) := by decide
  intro k hk
  exact this ⟨k, by omega⟩
theorem listB_bitsN : ∀ k, k ≤ 9 → listB (bitsN k) 63 = (List.range k).map fun j : Nat => 64 + (j : Int) := by
  have : ∀ k : Fin 10, listB (bitsN k.val) 63 = (List.range k.val).map fun j : Nat => 64 + (j : Int) := by decide
  intro k hk
  exact this ⟨k, by omega⟩
theorem hasB_bitsN (k w : Nat) (hw : w < k) (hk : k ≤ 9) : hasB (bitsN k) (64 + (w : Int)) = true := by
  rw [hasB_at _ _ (by omega)]
  unfold bitsN
  rw [Nat.testBit_two_pow_sub_one]
  simpa using hw
theorem free_length : ∀ k w, k ≤ 9 → w < k → (listB (freeB (bitsN k) (64 + (w : Int))) 63).length = k - 1 := by
  have : ∀ k w : Fin 10, w.val < k.val → (listB (freeB (bitsN k.val) (64 + (w.val : Int))) 63).length = k.val - 1 := by decide
  intro k w hk hw
  exact this ⟨k, by omega⟩ ⟨w, by omega⟩ hw

theorem chkPut_other {f : Int → Option CK} {x y : Int} {c : Option CK} (h : y ≠ x) : chkPut f x c y = f y := if_neg h
/-! ### the audit -/
/-- The checks, when those before k have answered once. -/
def Answ (n k : Nat) (f : Int → Option CK) : Prop :=
  (∀ j : Nat, j < k → f (64 + (j : Int)) = some (64 + (j : Int), 1, 1)) ∧ (∀ j : Nat, k ≤ j → j < n → f (64 + (j : Int)) = some (64 + (j : Int), 1, 0)) ∧ ∀ t, (t < 64 ∨ 64 + (n : Int) ≤ t) → f t = none
theorem auditF_at : ∀ (l : List Int) (f : Int → Option CK) (t : Int), auditF f l t = if t ∈ l then some (t, 1, 0) else f t
  | [], f, t => by simp [auditF]
  | x :: l, f, t => by
    show auditF (chkPut f x (some (x, 1, 0))) l t = _
    rw [auditF_at l]
    by_cases h : t ∈ l
    · simp [h]
    · rw [if_neg h]
      unfold chkPut
      by_cases e : t = x
      · subst e; simp
      · rw [if_neg e, if_neg (by simp [h, e])]
theorem answ_start (n : Nat) : Answ n 0 (auditF (fun _ => none) ((List.range n).map fun j : Nat => 64 + (j : Int))) := by
  refine ⟨fun j hj => by omega, fun j _ hj => ?_, fun t ht => ?_⟩
  · rw [auditF_at, if_pos (by simp; exact ⟨j, hj, rfl⟩)]
  · rw [auditF_at, if_neg]
    simp
    intro j hj
    omega
theorem answ_step {n k : Nat} {f : Int → Option CK} (h : Answ n k f) (hk : k < n) : Answ n (k + 1) (chkPut f (64 + (k : Int)) (some (64 + (k : Int), 1, 1))) := by
  obtain ⟨h1, h2, h3⟩ := h
  refine ⟨fun j hj => ?_, fun j hj hn => ?_, fun t ht => ?_⟩
  · by_cases e : j = k
    · subst e; exact chkPut_at _ _ _
    · rw [chkPut_other (by omega)]
      exact h1 j (by omega)
  · rw [chkPut_other (by omega)]
    exact h2 j (by omega) hn
  · rw [chkPut_other (by omega)]
    exact h3 t ht
theorem told_check {u : UR} {tei : Int} (h : u.s = ⟨tei, false, 0, 0⟩) (h1 : tei ≠ -1) : u.told 4 0 127 = ⟨[⟨0, 5, (dnxt (some (u.d, u.r)) u.p).1, tei, 0⟩], 0, u.s, (dnxt (some (u.d, u.r)) u.p).2⟩ := by
  unfold UR.told uMsg
  have h3 : ¬ uTakes u.s 4 0 127 := fun q => absurd q.1 (by decide)
  have h4 : uMine u.s 127 := ⟨by rw [h]; exact h1, Or.inr rfl⟩
  rw [if_neg (by rw [putE_in (by omega) (by omega) (by omega) (by omega) (by omega) (by omega)]; simp), if_neg h3, if_neg (fun q => by rcases q.2 with q | q; (exact absurd q.1 (by decide)); exact absurd q (by decide)), if_pos ⟨h4, rfl⟩]
  rw [h]
/-- All that have one TEI each answer. -/
theorem answers {n : Nat} : ∀ (k : Nat) (l : List UR) (s : SS), Held k l → k + l.length = n → n ≤ 9 → Answ n k s.f → s.n + l.length ≤ 1000 →
    ∃ s' l', AllR 4 0 127 s l [] s' l' ∧ Held k l' ∧ l'.length = l.length ∧ Answ n n s'.f ∧ s'.B = s.B ∧ s'.last = s.last ∧ s'.n = s.n + l.length ∧ l'.map (fun u => (u.g, u.d)) = l.map (fun u => (u.g, u.d))
  | k, [], s, _, hl, _, hf, _ => ⟨s, [], .nil, trivial, rfl, by simp at hl; rw [← hl]; rw [hl]; simpa [hl] using hf, rfl, rfl, by simp, rfl⟩
  | k, u :: l, s, hh, hl, hn, hf, hs => by
    simp at hl hs
    have ht := told_check (u := u) (tei := 64 + (k : Int)) hh.1 (by omega)
    have hr := dnxt_range (some (u.d, u.r)) u.p
    have hm : MsgR s 5 (dnxt (some (u.d, u.r)) u.p).1 (64 + (k : Int)) [] ⟨s.B, s.last, chkPut s.f (64 + (k : Int)) (some (64 + (k : Int), 1, 1)), s.n + 1⟩ :=
      .one (by omega) (hf.2.1 k (Nat.le_refl _) (by omega)) (by omega) (putE_in (by omega) (by omega) hr.1 hr.2 (by omega) (by omega))
    obtain ⟨s', l', h1, h2, h3, h4, h5, h6, h7, h8⟩ := answers (k + 1) l ⟨s.B, s.last, chkPut s.f (64 + (k : Int)) (some (64 + (k : Int), 1, 1)), s.n + 1⟩ hh.2 (by omega) hn (answ_step hf (by omega)) (by simp; omega)
    have hH : HearR s (u.told 4 0 127).efs ([] ++ []) ⟨s.B, s.last, chkPut s.f (64 + (k : Int)) (some (64 + (k : Int), 1, 1)), s.n + 1⟩ := by
      rw [ht]
      exact .send rfl hm .nil
    refine ⟨s', u.turn (u.told 4 0 127) :: l', .cons hH h1, ⟨?_, h2⟩, by simp [h3], h4, h5, h6, by simp at h7 ⊢; omega, by simp [h8, UR.turn]⟩
    show (u.told 4 0 127).st = _
    rw [ht]
    exact hh.1

/-! ### those that lose it -/
def lostU (t : Int) (u : UR) : UR := if u.s.tei = t then { u with s := uIdle } else u
theorem losers {t : Int} {s : SS} (ht : 64 ≤ t ∧ t ≤ 126) : ∀ {us : List UR}, (∀ u ∈ us, ∃ j : Nat, u.s = got j) → AllR 6 0 t s us [] s (us.map (lostU t))
  | [], _ => .nil
  | u :: us, h => by
    obtain ⟨j, hj⟩ := h u (by simp)
    have hr := losers (s := s) ht (us := us) (fun x hx => h x (by simp [hx]))
    rw [List.map_cons]
    by_cases e : u.s.tei = t
    · have htold : u.told 6 0 t = ⟨[⟨2, 0, 0, 0, u.s.tei⟩], 0, uIdle, u.p⟩ := by
        unfold UR.told uMsg
        have h3 : ¬ uTakes u.s 6 0 t := fun q => absurd q.1 (by decide)
        have h4 : uMine u.s t := ⟨by omega, Or.inl e.symm⟩
        rw [if_neg (by rw [putE_in (by omega) (by omega) (by omega) (by omega) (by omega) (by omega)]; simp), if_neg h3, if_pos ⟨h4, Or.inr rfl⟩]
        rfl
      have hh : HearR s (u.told 6 0 t).efs [] s := by
        rw [htold]
        exact .other (by simp) (by simp) .nil
      have := AllR.cons hh hr
      have et : u.turn (u.told 6 0 t) = lostU t u := by
        unfold UR.turn lostU
        rw [htold, if_pos e]
      rw [et] at this
      exact this
    · have hq : u.Quiet 6 0 t := quiet_other hj (by rw [hj] at e; intro q; exact e q.symm) (by omega)
      have hh : HearR s (u.told 6 0 t).efs [] s := by
        rw [hq]
        exact .nil
      have := AllR.cons hh hr
      rw [UR.turn_same hq] at this
      have el : lostU t u = u := if_neg e
      rw [el]
      exact this
theorem lost_quiet {t : Int} (ht : 64 ≤ t ∧ t ≤ 126) {us : List UR} (h : ∀ u ∈ us, ∃ j : Nat, u.s = got j) : ∀ u ∈ us.map (lostU t), u.Quiet 6 0 t := by
  intro u hu
  rw [List.mem_map] at hu
  obtain ⟨x, hx, rfl⟩ := hu
  obtain ⟨j, hj⟩ := h x hx
  unfold lostU
  split
  · exact quiet_idle rfl
  · rename_i e
    exact quiet_other hj (by rw [hj] at e; intro q; exact e q.symm) (by omega)
theorem Held.at : ∀ {k : Nat} {l : List UR}, Held k l → ∀ (i : Nat) (u : UR), l[i]? = some u → u.s = got (k + i)
  | k, [], _, i, u, h => by simp at h
  | k, x :: l, hl, 0, u, h => by
    simp at h
    subst h
    exact hl.1
  | k, x :: l, hl, i + 1, u, h => by
    simp at h
    have := Held.at hl.2 i u h
    rw [this]
    congr 1
    omega

/-- The whole audit. -/
theorem audit_says {n w : Nat} {dn : List UR} {la : UR} {s : SS} (hn : 2 ≤ n ∧ n ≤ 9) (hw : w < n) (hd : Held 0 dn) (hdl : dn.length = n) (hla : la.s = got w) (hB : s.B = bitsN n) (hf : Answ n 0 s.f) (hs : s.n ≤ 100) :
    ∃ s' us', SaysR s (dn ++ [la]) (auditL (listB (bitsN n) 63)) s' us' 2 ∧ s'.B = freeB (bitsN n) (64 + (w : Int)) ∧ (∀ t, s'.f t = none ∨ s'.f t = some (t, 1, 1)) ∧ us'.length = n + 1 ∧ ∀ i u, us'[i]? = some u → (u.s.tei < 0 ↔ (i = n ∨ i = w)) := by
  obtain ⟨s1, dn1, h1, h2, h3, h4, h5, h6, h7, -⟩ := answers 0 dn s hd (by omega) hn.2 hf (by omega)
  have ht : 64 ≤ 64 + (w : Int) ∧ 64 + (w : Int) ≤ 126 := by omega
  have htold := told_check (u := la) (tei := 64 + (w : Int)) hla (by omega)
  have hr := dnxt_range (some (la.d, la.r)) la.p
  have hm : MsgR s1 5 (dnxt (some (la.d, la.r)) la.p).1 (64 + (w : Int)) (twiceL (64 + (w : Int))) ⟨freeB s1.B (64 + (w : Int)), s1.last, chkPut s1.f (64 + (w : Int)) none, s1.n + 1⟩ :=
    .two ht (h4.1 w (by omega)) (by rw [h5, hB]; exact hasB_bitsN n w hw hn.2) (by omega) (putE_in (by omega) (by omega) hr.1 hr.2 (by omega) (by omega))
  obtain ⟨s2, hs2⟩ : ∃ s2, (⟨freeB s1.B (64 + (w : Int)), s1.last, chkPut s1.f (64 + (w : Int)) none, s1.n + 1⟩ : SS) = s2 := ⟨_, rfl⟩
  rw [hs2] at hm
  have hH : HearR s1 (la.told 4 0 127).efs (twiceL (64 + (w : Int)) ++ []) s2 := by
    rw [htold]
    exact .send rfl hm .nil
  have hA := h1.append (.cons hH .nil)
  have hla2 : (la.turn (la.told 4 0 127)).s = got w := by
    show (la.told 4 0 127).st = _
    rw [htold]
    exact hla
  obtain ⟨la2, hl2⟩ : ∃ la2, la.turn (la.told 4 0 127) = la2 := ⟨_, rfl⟩
  rw [hl2] at hA hla2
  have hgot : ∀ u ∈ dn1 ++ [la2], ∃ j : Nat, u.s = got j := by
    intro u hu
    rw [List.mem_append] at hu
    rcases hu with hu | hu
    · obtain ⟨j, -, -, hj⟩ := h2.mem u hu
      exact ⟨j, hj⟩
    · simp at hu
      subst hu
      exact ⟨w, hla2⟩
  refine ⟨s2, (dn1 ++ [la2]).map (lostU (64 + (w : Int))), .more (next := twiceL (64 + (w : Int))) (us1 := dn1 ++ [la2]) (s1 := s2) ?_ (by simp [twiceL]) (by simp [twiceL]) (.done ?_), ?_, ?_, ?_, ?_⟩
  · have e : twiceL (64 + (w : Int)) = ([] ++ ((twiceL (64 + (w : Int)) ++ []) ++ [])) ++ [] := by simp
    rw [e]
    refine .send rfl hA (RoundR.pass fun x hx => ?_)
    rw [List.mem_map] at hx
    obtain ⟨t, -, rfl⟩ := hx
    simp
  · have e : ([] : List Ef) = [] ++ ([] ++ []) := rfl
    rw [e]
    exact .send rfl (losers ht hgot) (.send rfl (AllR.quiet (lost_quiet ht hgot)) (RoundR.pass fun x hx => by
      simp at hx
      rcases hx with rfl | rfl <;> simp))
  · rw [← hs2]
    show freeB s1.B _ = _
    rw [h5, hB]
  · intro t
    rw [← hs2]
    show chkPut s1.f _ none t = none ∨ chkPut s1.f _ none t = _
    by_cases e : t = 64 + (w : Int)
    · subst e
      exact Or.inl (chkPut_at _ _ _)
    · rw [chkPut_other e]
      by_cases e2 : 64 ≤ t ∧ t < 64 + (n : Int)
      · have := h4.1 (t - 64).toNat (by omega)
        rw [show 64 + (((t - 64).toNat : Nat) : Int) = t by omega] at this
        exact Or.inr this
      · exact Or.inl (h4.2.2 t (by omega))
  · simp [h3, hdl]
  · intro i u hu
    rw [List.getElem?_map] at hu
    obtain ⟨x, hx, rfl⟩ := Option.map_eq_some_iff.1 hu
    by_cases hi : i < n
    · rw [List.getElem?_append_left (by omega)] at hx
      have hxs := h2.at i x hx
      rw [Nat.zero_add] at hxs
      unfold lostU
      rw [hxs]
      unfold got uIdle
      by_cases e : i = w
      · subst e
        simp
      · rw [if_neg (by simp; omega)]
        rw [hxs]
        simp [got]
        omega
    · rw [List.getElem?_append_right (by omega)] at hx
      have hi2 : i - dn1.length = 0 := by
        rcases Nat.eq_zero_or_pos (i - dn1.length) with h | h
        · exact h
        · rw [List.getElem?_eq_none (by simp; omega)] at hx; cases hx
      rw [hi2] at hx
      simp at hx
      subst hx
      unfold lostU
      rw [hla2]
      have : i = n := by omega
      simp [got, uIdle, this]
end Go.Proofs.YtlfcfmdblmedcaaDoor.Mine
