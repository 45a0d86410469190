/- TopLine's walk. -/
import Derived.Test.YtlfcfmdblmedcaaDoorTLineA
namespace Go.Proofs.YtlfcfmdblmedcaaDoor.Mine
open Go.RowKit Go.Proofs.YtlfcfmdblmedcaaDoorW.PrintWords
attribute [local go_sem] max_int min_int max_of_two min_of_two

set_option maxHeartbeats 4000000 in
set_option maxRecDepth 100000 in
theorem line_any {A A1 A2 : Option Addr} {c c1 c2 n1 n2 : Nat} {l : List TX} {xs ys : List Int} (w : World) (hT : Tabs w) (hR : ReadsTexts w A l) (hc : l.length ≤ c) (hn : l.length ≤ 9223372036854775807)
    (hr1 : ReadsInt w .i64 A1 n1 xs) (hr2 : ReadsInt w .i64 A2 n2 ys) (hc2 : n2 ≤ c2) (hy2 : n2 * 8 ≤ 140737488351232) :
    Calls Tryd.prog 3 #[.slice A l.length c, .slice A1 n1 c1, .slice A2 n2 c2] w fun e w' => e = .returned (.bool true) ∧ Below w.heap.size w w' := by
  obtain ⟨n, hnl⟩ : ∃ n, l.length = n := ⟨_, rfl⟩
  rw [hnl] at hc hn ⊢
  obtain ⟨q, hq, hqn, hq20⟩ := cut_at n 20 (by decide)
  have hq8 : q ≤ 20 := by omega
  clear hq20
  have hqc : q ≤ c := by omega
  have HT := Lib.hid hT
  have HR := Lib.hid hR
  have HR1 := Lib.hid hr1
  have HR2 := Lib.hid hr2
  have HN := Lib.hid hnl
  clear hT hR hr1 hr2 hnl
  go_enter Tryd.func3, Tryd.ntmps3
  go_wp2_with fail
  refine (reads_any _ HT.out).mono ?_
  rintro e w0 ⟨rfl, b0⟩
  have HB0 := Lib.hid b0
  clear b0
  go_wp2_with fail
  clear hq
  go_loopw [39, 7, 8] (fun i want line wr => ∃ (k : Nat) (Lb : ByteArray) (W : List FR), i = .int .i64 k ∧ k ≤ q ∧ line = .string Lb ∧ LineR w k want Lb W wr) (fun i _ _ _ => q - (intOf i).toNat)
  case atStart => exact ⟨0, ⟨#[]⟩, [], rfl, Nat.zero_le _, rfl, own_nil _ _ _ _, Line.nil, Nat.zero_le _, Nat.zero_le _, HB0.out⟩
  case round =>
    obtain ⟨k, Lb, W, rfl, hk, rfl, hL⟩ := hrel
    by_cases hlt : k < q
    · obtain ⟨ad, rfl, hcell⟩ := HR.out (by have := HN.out; omega)
      have ha := hcell k (by have := HN.out; omega)
      obtain ⟨⟨kd, ns0, nr0, pf, info0⟩, hx⟩ : ∃ x, l.getD k default = x := ⟨_, rfl⟩
      rw [hx] at ha
      obtain ⟨e0, e1, e2, e3, e4⟩ := ha.later hL.bel
      simp only at e0 e1 e2 e3 e4
      clear hx hcell ha
      have HL := Lib.hid (hL.below ((Below.refl _ wr).alloc (Nat.le_refl _) (.cells #[.int .i64 kd, .int .i64 ns0, .int .i64 nr0, .bool pf, .string info0] 27)))
      clear hL
      go_wp2_with fail
      clear e0 e1 e2 e3 e4
      refine (made_any _ _ _ _ _ _).mono ?_
      rintro e w2 ⟨kk, ns, nr, info, hF, rfl, b2⟩
      have HL2 := Lib.hid (HL.out.below b2)
      obtain ⟨s, y, z, hS⟩ := sent_any pf hF
      have HS := Lib.hid hS
      have HF := Lib.hid hF
      clear hS hF b2
      unfold frV
      have hT2 := HT.out.below HL2.out.bel
      go_wp2_with fail
      refine (HS.out.put _ (hT2.below ((Below.refl _ _).alloc (Nat.le_refl _) _))).mono ?_
      rintro e w3 ⟨rfl, b3⟩
      have HL3 := Lib.hid ((HL2.out.below ((Below.refl _ _).alloc (Nat.le_refl _) _)).below b3)
      have hx3 := (b3.block _ (lt_of_at (at_new w2 (.cells #[.int .i64 0, .int .i64 64, .bool true, .int .i64 kk, .bool pf, .int .i64 ns, .int .i64 nr, .string info] 32)))).trans (at_new w2 _)
      clear b3 hT2
      go_wp2_with fail
      refine (HS.out.enc _).mono ?_
      rintro e w4 ⟨rfl, b4⟩
      have HL4 := Lib.hid (HL3.out.below b4)
      have HX := Lib.hid ((b4.block _ (lt_of_at hx3)).trans hx3)
      clear b4 hx3
      have hz1 := HS.out.size
      have hz2 := HS.out.least
      go_upto_if 61 with (fail)
      go_cut [16] (fun kv wc => ∃ K : Int, kv = .int .i64 K ∧ 0 ≤ K ∧ w4 = wc)
      case first =>
        by_cases hks : k < n1
        · obtain ⟨ad1, rfl, hcx⟩ := HR1.out.at_ (k : Int) (by omega) (by omega)
          rw [Int.toNat_natCast] at hcx
          have hcx4 := (HL4.out.bel.cell (World.block_lt_of_cell? _ _ hcx)).trans hcx
          clear hcx
          go_wp2_with fail
          · go_meet
            case rel => exact ⟨_, rfl, by omega, rfl⟩
          · go_meet
            case rel => exact ⟨_, rfl, by omega, rfl⟩
        · go_wp2_with fail
          go_meet
          case rel => exact ⟨0, rfl, by omega, rfl⟩
      case rest =>
        obtain ⟨K, rfl, hK, rfl⟩ := hcut
        generalize w2.heap.size = nb at HX ⊢
        obtain ⟨N, hN⟩ : ∃ N : Int, (z.size : Int) - 16 = N := ⟨_, rfl⟩
        rw [hN]
        have hN1 : 1 ≤ N := by omega
        have hN2 : N ≤ 5000 := by omega
        have x0 := at_cell HX.out 0
        have x1 := at_cell HX.out 1
        have x2 := at_cell HX.out 2
        have x3 := at_cell HX.out 3
        have x4 := at_cell HX.out 4
        have x5 := at_cell HX.out 5
        have x6 := at_cell HX.out 6
        have x7 := at_cell HX.out 7
        have xl := lt_of_at HX.out
        simp at x0 x1 x2 x3 x4 x5 x6 x7
        have hwl : W.length ≤ 20 := by have := HL4.out.count; omega
        go_upto_block 2 with (fail)
        go_cut [7, 14] (fun want bv wc => LineCut w k Lb want bv wc)
        case first =>
          by_cases hK0 : K = 0
          · subst hK0
            go_wp2_with (at_builtin; refine print_append_cells (w0 := w4) w.heap.size rfl _ _ 25 32 (.agg #[.int .i64 0, .int .i64 0, .bool false, .int .i64 0, .bool false, .int .i64 0, .int .i64 0, .string ⟨#[]⟩]) 8 72 rfl Tryd.underlying25 infoFr rfl (by decide) (by decide) u7 W.length (frCells W) [.int .i64 0, .int .i64 64, .bool true, .int .i64 kk, .bool pf, .int .i64 ns, .int .i64 nr, .string info] rfl rfl rfl (by simp [Value.oneCell']) ?c1 ?c2 ?c3 ?c4 ?c5)
            case c1 => exact HL4.out.row
            case c2 => exact Below.refl _ _
            case c3 => exact HL4.out.bel.size
            case c4 => omega
            case c5 =>
              intro va w5 hown _ hgr _
              have hI := HL4.out.whole HF.out HS.out hown hgr
              have HI := Lib.hid hI
              clear hI hown hgr
              go_wp2
              go_meet
              case rel => exact HI.out
          · have q0 : (K == 0) = false := by simpa using hK0
            obtain ⟨m, hm⟩ : ∃ m : Nat, K % N = (m : Int) := ⟨(K % N).toNat, by have := Int.emod_nonneg K (show N ≠ 0 by omega); omega⟩
            have hmN : (m : Int) < N := by have := Int.emod_lt_of_pos K (show 0 < N by omega); omega
            have hm5 : m ≤ 5000 := by omega
            have hmz : m + 16 < z.size := by omega
            by_cases h3 : K % 3 = 0
            · have q3 : (K % 3 == 0) = true := by simpa using h3
              clear h3 hK0
              go_wp2_with fail
              go_meet
              case rel => exact HL4.out.broken HS.out (Below.refl _ _) (Or.inr (by omega))
            · have q3 : (K % 3 == 0) = false := by simpa using h3
              clear h3 hK0
              go_wp2_with fail
              refine (flip_any z (8 + m) _ _ _ ?hg ?hi ?hb).mono ?_
              case hg =>
                have := at_cell (at_new w4 (.cells #[.int .i64 (8 + (m : Int))] 3)) 0
                simp at this ⊢
              case hi => omega
              case hb => rw [HS.out.bits]; exact encL_bits s
              rintro e w5 ⟨rfl, b5⟩
              have b45 : Below w4.heap.size w4 w5 := ((Below.refl _ w4).alloc (Nat.le_refl _) (.cells #[.int .i64 (8 + (m : Int))] 3)).trans (b5.mono (by simp))
              have hcb : bytesOf (strOfNums (turnL (bytesOf z) (8 + m))) = turnL (encL s) (8 + m) := by
                rw [HS.out.bits]
                exact bytesOf_str _ (fun x hx => by rcases turn_bits (8 + m) (encL_bits s) (by rw [← HS.out.bits, bytesOf_length]; omega) x hx with rfl | rfl <;> omega)
              have hcbits : IsBits (turnL (encL s) (8 + m)) := turn_bits (8 + m) (encL_bits s) (by rw [← HS.out.bits, bytesOf_length]; omega)
              obtain ⟨c0, hc0⟩ : ∃ c0, strOfNums (turnL (bytesOf z) (8 + m)) = c0 := ⟨_, rfl⟩
              rw [hc0] at hcb ⊢
              have hcs : c0.size ≤ 5000 := by
                have := bytesOf_length c0
                rw [hcb] at this
                unfold turnL at this
                rw [List.length_set, ← HS.out.bits, bytesOf_length] at this
                omega
              have HL5 := Lib.hid (HL4.out.below b45)
              have HX5 := Lib.hid ((b45.block _ (lt_of_at HX.out)).trans HX.out)
              have HCB := Lib.hid hcb
              have HCBI := Lib.hid hcbits
              clear b5 b45 hcb hcbits hc0 x0 x1 x2 x3 x4 x5 x6 x7 xl
              go_wp2_with fail
              refine (newdec_any _).mono ?_
              rintro e w6 ⟨rfl, d6, b6⟩
              have HL6 := Lib.hid (HL5.out.below b6)
              have HX6 := Lib.hid ((b6.block _ (lt_of_at HX5.out)).trans HX5.out)
              have HD6 := Lib.hid d6
              have hg6 : w5.heap.size < w6.heap.size := lt_of_at d6.1
              have HB6 := Lib.hid b6
              clear d6 b6
              go_wp2_with fail
              refine (feed_any (N := 0) c0 HD6.out ⟨fun x hx => by simp at hx, by decide, by decide, by decide⟩ (by decide) (by omega) (by rw [HCB.out]; exact HCBI.out)).mono ?_
              rintro e w7 ⟨ov, v7, rfl, o7, d7, k7, -⟩
              have hsz7 := k7.size
              have hev := feedP_event (turnL (encL s) (8 + m)) HCBI.out [] false 0 0 (by decide) ⟨fun x hx => by simp at hx, by decide, by decide, by decide⟩
              have hcount := feedP_count (turnL (encL s) (8 + m)) [] false 0
              have hlen : (turnL (encL s) (8 + m)).length = c0.size := by rw [← HCB.out, bytesOf_length]
              rw [hlen] at hcount
              rw [HCB.out] at o7
              obtain ⟨evs, hevs⟩ : ∃ evs, (feedP [] false 0 (turnL (encL s) (8 + m))).1 = evs := ⟨_, rfl⟩
              rw [hevs] at hev hcount o7
              have hb67 : Below w5.heap.size w6 w7 := k7.below (Nat.le_of_lt hg6) (by
                intro x hx
                simp [Value.ownBlock] at hx
                omega)
              have b57 : Below w5.heap.size w5 w7 := HB6.out.trans hb67
              obtain ⟨A7, cp7, rfl⟩ := own_slice o7
              have HL7 := Lib.hid (HL5.out.below b57)
              have HX7 := Lib.hid ((b57.block _ (lt_of_at HX5.out)).trans HX5.out)
              have HO7 := Lib.hid o7
              have HEV := Lib.hid hev
              have HEVS := Lib.hid hevs
              have hevl : evs.length ≤ 5000 := Nat.le_trans hcount hcs
              have hsz57 := b57.size
              clear d7 k7 hlen o7 hcount hev hevs hb67 b57 HL6 HX6 HD6
              go_wp2_with fail
              go_loopw [79, 19] (fun i okv wr => ∃ (j : Nat) (okb : Bool), i = .int .i64 j ∧ j ≤ evs.length ∧ okv = .bool okb ∧ (okb = true ↔ goods (evs.take j) = []) ∧ Below w7.heap.size w7 wr) (fun i _ _ => evs.length - (intOf i).toNat)
              case atStart => exact ⟨0, true, rfl, Nat.zero_le _, rfl, by simp [goods], Below.refl _ _⟩
              case round =>
                obtain ⟨j, okb, rfl, hj, rfl, hok, bl⟩ := hrel
                have HOK := Lib.hid hok
                have HBL := Lib.hid bl
                have hwl7 := bl.size
                have hol := own_keep HO7.out (fun q hq => bl.block q (own_lt HO7.out q hq))
                clear hok bl
                by_cases hjl : j < evs.length
                · obtain ⟨⟨kd2, oc⟩, hek⟩ : ∃ e, evs[j]? = some e := ⟨evs[j], List.getElem?_eq_getElem hjl⟩
                  obtain ⟨q0', q1'⟩ := evCells_get evs j _ hek
                  obtain ⟨z1, z2⟩ := HEV.out _ (List.mem_of_getElem? hek)
                  rcases hol.2 with ⟨-, h0⟩ | ⟨r, cap, cur, hr0, hr⟩
                  · omega
                  injection hr0 with hr0 _ hr1
                  subst hr0 hr1
                  have e0 := own_at hol (j * 2) _ (by rw [Nat.mul_comm]; exact q0')
                  have e1 := own_at hol (j * 2 + 1) _ (by rw [Nat.mul_comm]; exact q1')
                  have hbs := bytesOf_str oc z1
                  have hsz : (strOfNums oc).size ≤ 300 := by rw [strOfNums_size]; exact z2
                  obtain ⟨y2, hy2'⟩ : ∃ y2, strOfNums oc = y2 := ⟨_, rfl⟩
                  rw [hy2'] at e1 hbs hsz
                  have hget := fun W hW => frameget_any y2 W (by omega) hW
                  rw [hbs] at hget
                  have hgo : goods (evs.take (j + 1)) = goods (evs.take j) ++ (if kd2 = 0 ∧ (frameF oc).err = 0 then [frameF oc] else []) := by
                    have e : evs.take (j + 1) = evs.take j ++ [(kd2, oc)] := by
                      rw [List.take_add_one, hek]; rfl
                    rw [e, goods_append]
                    congr 1
                  obtain ⟨F, hF⟩ : ∃ F, frameF oc = F := ⟨_, rfl⟩
                  rw [hF] at hget hgo
                  have HGET := Lib.hid hget
                  have HGO := Lib.hid hgo
                  have hTl : Tabs (wr.alloc (.cells #[.int .i64 kd2, .string y2] 45)) := ((HT.out.below HL7.out.bel).below HBL.out).below ((Below.refl _ _).alloc (Nat.le_refl _) _)
                  have HTL := Lib.hid hTl
                  have hbb : Below w7.heap.size w7 (wr.alloc (.cells #[.int .i64 kd2, .string y2] 45)) := HBL.out.alloc HBL.out.size _
                  have HBB := Lib.hid hbb
                  clear hget hgo hF hTl hbb hol hr q0' q1' z1 z2 hek hbs hsz hy2'
                  by_cases hk0 : kd2 = 0
                  · subst hk0
                    go_wp2_with fail
                    refine (HGET.out _ HTL.out).mono ?_
                    rintro e w8 ⟨rfl, b8⟩
                    have HB8 := Lib.hid ((HBB.out.trans (b8.mono HBB.out.size)).alloc (HBB.out.trans (b8.mono HBB.out.size)).size (.cells (frC F).toArray 32))
                    clear b8
                    by_cases her : F.err = 0
                    · have hne : goods (evs.take (j + 1)) ≠ [] := by rw [HGO.out]; simp [her]
                      have HNE := Lib.hid hne
                      clear hne
                      go_wp2
                      go_roundw
                      case rel => exact ⟨j + 1, false, by go_num, by omega, rfl, by simp [HNE.out], HB8.out⟩
                      case measure => simp [intOf]; omega
                    · have q8 : (F.err == 0) = false := by simpa using her
                      have hsame : goods (evs.take (j + 1)) = goods (evs.take j) := by rw [HGO.out]; simp [her]
                      have HSM := Lib.hid hsame
                      clear hsame her
                      go_wp2
                      go_roundw
                      case rel => exact ⟨j + 1, okb, by go_num, by omega, rfl, by rw [HSM.out]; exact HOK.out, HB8.out⟩
                      case measure => simp [intOf]; omega
                  · have q8 : (kd2 == 0) = false := by simpa using hk0
                    have q9 : (kd2 != 0) = true := by simpa using hk0
                    have hsame : goods (evs.take (j + 1)) = goods (evs.take j) := by rw [HGO.out]; simp [hk0]
                    have HSM := Lib.hid hsame
                    clear hsame hk0
                    go_wp2
                    go_roundw
                    case rel => exact ⟨j + 1, okb, by go_num, by omega, rfl, by rw [HSM.out]; exact HOK.out, HBB.out⟩
                    case measure => simp [intOf]; omega
                · obtain rfl : j = evs.length := by omega
                  have hok2 := HOK.out
                  rw [List.take_length, ← HEVS.out] at hok2
                  have hLl := HL7.out.below HBL.out
                  cases okb
                  · have hxl := (HBL.out.block _ (lt_of_at HX7.out)).trans HX7.out
                    have x0 := at_cell hxl 0
                    have x1 := at_cell hxl 1
                    have x2 := at_cell hxl 2
                    have x3 := at_cell hxl 3
                    have x4 := at_cell hxl 4
                    have x5 := at_cell hxl 5
                    have x6 := at_cell hxl 6
                    have x7 := at_cell hxl 7
                    have xl := lt_of_at hxl
                    simp at x0 x1 x2 x3 x4 x5 x6 x7
                    have HLL := Lib.hid hLl
                    clear hok2 hLl hxl hol
                    go_wp2_with (at_builtin; refine print_append_cells (w0 := wr) w.heap.size rfl _ _ 25 32 (.agg #[.int .i64 0, .int .i64 0, .bool false, .int .i64 0, .bool false, .int .i64 0, .int .i64 0, .string ⟨#[]⟩]) 8 72 rfl Tryd.underlying25 infoFr rfl (by decide) (by decide) u7 W.length (frCells W) [.int .i64 0, .int .i64 64, .bool true, .int .i64 kk, .bool pf, .int .i64 ns, .int .i64 nr, .string info] rfl rfl rfl (by simp [Value.oneCell']) ?c1 ?c2 ?c3 ?c4 ?c5)
                    case c1 => exact HLL.out.row
                    case c2 => exact Below.refl _ _
                    case c3 => exact HLL.out.bel.size
                    case c4 => omega
                    case c5 =>
                      intro va w9 hown _ hgr _
                      have hI := HLL.out.whole HF.out HS.out hown hgr
                      have HI := Lib.hid hI
                      clear hI hown hgr
                      go_wp2
                      go_meet
                      case rel => exact HI.out
                  · have hg0 := hok2.1 rfl
                    have hI := hLl.turned HS.out (Below.refl _ _) hmz HCB.out hg0
                    have HI := Lib.hid hI
                    clear hI hok2 hLl hg0 hol
                    go_wp2
                    go_meet
                    case rel => exact HI.out
        case rest =>
          obtain ⟨B, rfl, hBs, W', hB⟩ := LineCut.next hcut
          have hLbs := HL4.out.size
          rcases hB with hB | hB
          · have HBN := Lib.hid hB
            clear hB hcut
            go_wp2
            go_roundw
            case rel => exact ⟨k + 1, _, W', by go_num, by omega, rfl, HBN.out⟩
            case measure => simp [intOf]; omega
          · omega
    · obtain rfl : k = q := by omega
      have hLs := hL.size
      have hLc := hL.count
      obtain ⟨w1, e1⟩ : ∃ w1, w1 = wr := ⟨_, rfl⟩
      subst e1
      have HTL := Lib.hid (HT.out.below hL.bel)
      have hB1 : 1 < w1.heap.size := by
        have h1 := World.block_lt_of_cell? _ _ (HTL.out.2 0 (by decide))
        exact h1
      have HL := Lib.hid hL
      clear hL
      go_wp2_with fail
      refine (newdec_any _).mono ?_
      rintro e w2 ⟨rfl, d2, b2⟩
      have hg2 := lt_of_at d2.1
      have hS : LookS w1 w1.heap.size w2.heap.size (w2.heap.size + 1) [] false 0 0 [] (.slice none 0 0) (.slice none 0 0) ((w2.alloc (.cells #[.pointer (some ⟨w1.heap.size, 0, none⟩)] 40)).alloc (.cells #[.slice none 0 0] 25)) := by
        refine ⟨at_alloc (at_new _ _) _, ?_, own_nil _ _ _ _, (d2.below ((Below.refl _ _).alloc (Nat.le_refl _) _)).below ((Below.refl _ _).alloc (Nat.le_refl _) _), ⟨fun x hx => by simp at hx, by decide, by decide, by decide⟩, (b2.alloc b2.size _).alloc (by have := b2.size; simp; omega) _⟩
        have := at_new (w2.alloc (.cells #[.pointer (some ⟨w1.heap.size, 0, none⟩)] 40)) (.cells #[.slice none 0 0] 25)
        rwa [World.size_alloc] at this
      have HI := Lib.hid (show LookInv w1 w1.heap.size w2.heap.size (w2.heap.size + 1) Lb [] Lb _ from ⟨rfl, _, _, hS⟩)
      clear d2 b2 hS
      obtain ⟨p, hp, hpn, hp300⟩ := cut_at n2 300 (by decide)
      have hp8 : p ≤ 300 := by omega
      clear hp300
      have hpc : p ≤ c2 := by omega
      go_upto_region 40 with (fail)
      generalize (w2.alloc (.cells #[.pointer (some ⟨w1.heap.size, 0, none⟩)] 40)).alloc (.cells #[.slice none 0 0] 25) = Ws at HI ⊢
      generalize w2.heap.size = Bd at HI hg2 ⊢
      go_wp2_with fail
      clear hp
      go_loopw [133, 8] (fun i line wr => ∃ (j : Nat) (D : List Int) (Lr : ByteArray), i = .int .i64 j ∧ j ≤ p ∧ line = .string Lr ∧ LookInv w1 w1.heap.size Bd (Bd + 1) Lb D Lr wr) (fun i _ _ => p - (intOf i).toNat)
      case atStart => exact ⟨0, [], Lb, rfl, Nat.zero_le _, rfl, HI.out⟩
      case round =>
        obtain ⟨j, D, Lr, rfl, hj, rfl, hLI⟩ := hrel
        by_cases hjl : j < p
        · obtain ⟨ad2, rfl, hcx⟩ := HR2.out.at_ (j : Int) (by omega) (by omega)
          rw [Int.toNat_natCast] at hcx
          have hcx4 := ((HL.out.bel.trans (hLI.bel.mono HL.out.bel.size)).cell (World.block_lt_of_cell? _ _ hcx)).trans hcx
          clear hcx
          obtain ⟨x, hx⟩ : ∃ x, rd ys (j : Int) = x := ⟨_, rfl⟩
          rw [hx] at hcx4
          obtain ⟨m, M, h1, h2, h3, h4, -⟩ := rounds_of x 40 (by decide)
          have hLbits := HL.out.line
          obtain ⟨_, _, _, _, hLbits⟩ := hLbits
          have hlook := look_piece hLI hLbits (by omega) HTL.out ⟨hB1, Nat.le_refl _, hg2, by omega⟩
          have HLOOK := Lib.hid hlook
          clear hlook hLI hLbits hx
          by_cases hMs : Lr.size < M
          · have hq := HLOOK.out Lr (Nat.le_refl _) (fun x hx => hx)
            have HQ := Lib.hid hq
            clear hq HLOOK
            go_wp2_with fail
            refine HQ.out.mono ?_
            rintro e w3 ⟨rfl, hl3⟩
            have HNX := Lib.hid hl3
            clear hl3 HQ
            go_wp2
            go_roundw
            case rel => exact ⟨j + 1, _, _, by go_num, by omega, rfl, HNX.out _ (by simp [bytesOf])⟩
            case measure => simp [intOf]; omega
          · have hq := HLOOK.out (Lr.extract 0 M) (by rw [ByteArray.size_extract]; omega) (by rw [bytesOf_take]; exact fun x hx => List.mem_of_mem_take hx)
            have HQ := Lib.hid hq
            clear hq HLOOK
            go_wp2_with fail
            refine HQ.out.mono ?_
            rintro e w3 ⟨rfl, hl3⟩
            have HNX := Lib.hid hl3
            clear hl3 HQ
            go_wp2
            go_roundw
            case rel => exact ⟨j + 1, _, _, by go_num, by omega, rfl, HNX.out _ (by rw [bytesOf_take, bytesOf_drop, List.take_append_drop])⟩
            case measure => simp [intOf]; omega
        · have hlook := look_rest hLI HL.out.line (by omega) HTL.out ⟨hB1, Nat.le_refl _, hg2, by omega⟩
          have HLOOK := Lib.hid hlook
          clear hlook hLI
          go_wp2_with fail
          refine HLOOK.out.mono ?_
          rintro e w3 ⟨rfl, hb3, gv, hbg, hrow⟩
          have hwant : w3.ownsRow w.heap.size 32 8 u7 W.length (frCells W) := own_keep HL.out.row (fun q hq => hb3.block q (own_lt HL.out.row q hq))
          have hbel3 : Below w.heap.size w w3 := HL.out.bel.trans (hb3.mono HL.out.bel.size)
          obtain ⟨Ag, cg, rfl⟩ := own_slice hrow
          obtain ⟨Aw, cw, rfl⟩ := own_slice hwant
          have g0 := at_cell hbg 0
          simp at g0
          have HG := Lib.hid hrow
          have HW := Lib.hid hwant
          have HB3 := Lib.hid hbel3
          clear hbg hwant hbel3 hb3 hrow HLOOK
          go_wp2_with fail
          go_loopw [162] (fun i wr => ∃ j : Nat, i = .int .i64 j ∧ j ≤ W.length ∧ Below w3.heap.size w3 wr) (fun i _ => W.length - (intOf i).toNat)
          case atStart => exact ⟨0, rfl, Nat.zero_le _, Below.refl _ _⟩
          case round =>
            obtain ⟨j2, rfl, hj2, bl⟩ := hrel
            have hgr := own_keep HG.out (fun q hq => bl.block q (own_lt HG.out q hq))
            have hwr := own_keep HW.out (fun q hq => bl.block q (own_lt HW.out q hq))
            have g1 := (bl.cell (World.block_lt_of_cell? _ _ g0)).trans g0
            have HBL := Lib.hid bl
            clear bl
            by_cases hjw : j2 < W.length
            · obtain ⟨F, hF⟩ : ∃ F, W[j2]? = some F := ⟨W[j2], List.getElem?_eq_getElem hjw⟩
              rcases hgr.2 with ⟨-, h0⟩ | ⟨r1, cap1, cur1, hr1, -⟩
              · omega
              rcases hwr.2 with ⟨-, h0⟩ | ⟨r2, cap2, cur2, hr2, -⟩
              · omega
              injection hr1 with hr1 _ hr1'
              injection hr2 with hr2 _ hr2'
              subst hr1 hr1' hr2 hr2'
              have cg0 := own_at hgr (j2 * 8 + 0) _ (frCells_get W j2 0 F hF (by decide))
              have cg1 := own_at hgr (j2 * 8 + 1) _ (frCells_get W j2 1 F hF (by decide))
              have cg2 := own_at hgr (j2 * 8 + 2) _ (frCells_get W j2 2 F hF (by decide))
              have cg3 := own_at hgr (j2 * 8 + 3) _ (frCells_get W j2 3 F hF (by decide))
              have cg4 := own_at hgr (j2 * 8 + 4) _ (frCells_get W j2 4 F hF (by decide))
              have cg5 := own_at hgr (j2 * 8 + 5) _ (frCells_get W j2 5 F hF (by decide))
              have cg6 := own_at hgr (j2 * 8 + 6) _ (frCells_get W j2 6 F hF (by decide))
              have cg7 := own_at hgr (j2 * 8 + 7) _ (frCells_get W j2 7 F hF (by decide))
              have cw0 := own_at hwr (j2 * 8 + 0) _ (frCells_get W j2 0 F hF (by decide))
              have cw1 := own_at hwr (j2 * 8 + 1) _ (frCells_get W j2 1 F hF (by decide))
              have cw2 := own_at hwr (j2 * 8 + 2) _ (frCells_get W j2 2 F hF (by decide))
              have cw3 := own_at hwr (j2 * 8 + 3) _ (frCells_get W j2 3 F hF (by decide))
              have cw4 := own_at hwr (j2 * 8 + 4) _ (frCells_get W j2 4 F hF (by decide))
              have cw5 := own_at hwr (j2 * 8 + 5) _ (frCells_get W j2 5 F hF (by decide))
              have cw6 := own_at hwr (j2 * 8 + 6) _ (frCells_get W j2 6 F hF (by decide))
              have cw7 := own_at hwr (j2 * 8 + 7) _ (frCells_get W j2 7 F hF (by decide))
              clear hgr hwr hF
              obtain ⟨f0, f1, f2, f3, f4, f5, f6, f7, f8⟩ := F
              obtain ⟨y7, hy7⟩ : ∃ y7, strOfNums f7 = y7 := ⟨_, rfl⟩
              simp [hy7] at cg0 cg1 cg2 cg3 cg4 cg5 cg6 cg7 cw0 cw1 cw2 cw3 cw4 cw5 cw6 cw7
              clear hy7
              go_wp2_with fail
              go_region
              all_goals
                go_wp2
                go_roundw
                case rel => exact ⟨j2 + 1, by go_num, by omega, HBL.out.drew⟩
                case measure => simp [intOf]; omega
            · have hb := HB3.out.trans (HBL.out.mono HB3.out.size)
              have HBE := Lib.hid hb
              clear hb hgr hwr
              go_wp2
              go_ret
              exact ⟨rfl, HBE.out⟩
end Go.Proofs.YtlfcfmdblmedcaaDoor.Mine
