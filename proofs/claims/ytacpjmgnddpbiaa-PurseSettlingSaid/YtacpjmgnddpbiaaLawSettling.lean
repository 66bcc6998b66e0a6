/- PurseSettling returns true: what Settle returns can be appended; behind it nobody has too much who had not; settling again does nothing. -/
import Derived.Test.YtacpjmgnddpbiaaSettling
import Derived.Test.YtacpjmgnddpbiaaCopies
set_option linter.unusedSimpArgs false
set_option linter.unusedVariables false
namespace Go.Proofs.Ytacpjmgnddpbiaa
open Go.RowKit Go.Shelf

theorem du_eq_iff (p q : Du) : p = q ↔ p.party = q.party ∧ p.parcel = q.parcel ∧ p.amount = q.amount := by
  cases p; cases q; simp
theorem eqDu_in (p q : Du) (w : World) : (Op.equalIn 10000 47 (.agg #[.int .i64 p.party, .int .i64 p.parcel, .int .i64 p.amount]) (.agg #[.int .i64 q.party, .int .i64 q.parcel, .int .i64 q.amount])).run Try.prog w = .ok (decide (p = q)) w := by
  go_simp
  by_cases h : p = q
  · subst h
    simp
  · have h' := h
    rw [du_eq_iff] at h'
    simp only [h, decide_false]
    repeat' split
    all_goals first | rfl | (exfalso; apply h'; refine ⟨?_, ?_, ?_⟩ <;> assumption)
theorem eqDu_run (p q : Du) (w : World) : (binOp .eql 47 (.agg #[.int .i64 p.party, .int .i64 p.parcel, .int .i64 p.amount]) (.agg #[.int .i64 q.party, .int .i64 q.parcel, .int .i64 q.amount])).run Try.prog w = .ok (.bool (decide (p = q))) w := by
  simp only [binOp]
  simp [Op.equal, Op.maxDepth, eqDu_in]
theorem okPo_wf {p : Po} (h : okPo p) : p.Wf := by
  unfold okPo at h
  constructor <;> first | (unfold I64; omega) | omega

/-- what the law's walk asks of the postings -/
theorem settle_row {xs : List Po} {d : List Du} {c : List Ca} {h : Int} {out : List Po} (ho : (settleSt xs d c h).out = out) (hs : Settled xs d c h out) {i : Nat} {p : Po} (hi : out[i]? = some p) :
    (checkL (xs ++ out.take i)).2 = 0 ∧ refusedL (xs ++ out.take i) p = 0 ∧ p.hour = h ∧ p.Wf := by
  subst ho
  obtain ⟨h1, h2⟩ := settle_fails hs hi
  exact ⟨h1, h2, hs.hours p (List.mem_of_getElem? hi), okPo_wf (refusedL_ok h2)⟩
theorem settle_wf {xs : List Po} {d : List Du} {c : List Ca} {h : Int} {out : List Po} (hs : Settled xs d c h out) (i : Nat) : ∀ p ∈ xs ++ out.take i, p.Wf := fun p hp => okPo_wf (checkL_okl hs.bk p (by
  rcases List.mem_append.1 hp with hp | hp
  · exact List.mem_append_left _ hp
  · exact List.mem_append_right _ (List.mem_of_mem_take hp)))
theorem overM_len {xs : List Po} (h : (checkL xs).2 = 0) (d : List Du) : (overM xs d).length ≤ 400 := by
  obtain ⟨s, hb⟩ := book_bk h
  exact Nat.le_trans (List.length_filterMap_le _ _) (accL_len hb)

set_option maxRecDepth 100000 in
set_option maxHeartbeats 8000000 in
theorem law_settling (a : Option Addr) (n cap : Nat) (xs : List Po) (a' : Option Addr) (n' cap' : Nat) (d : List Du) (a'' : Option Addr) (n'' cap'' : Nat) (c : List Ca) (hour : Int) (w : World)
    (h : Rd Po.vals 8 w a n xs) (hw : ∀ p ∈ xs, p.Wf) (hcap : n ≤ cap) (hz : a = none → cap = 0) (h' : Rd Du.vals 3 w a' n' d) (_ : n' ≤ cap') (_ : a' = none → cap' = 0) (h'' : Rd Ca.vals 3 w a'' n'' c) (_ : n'' ≤ cap'') (_ : a'' = none → cap'' = 0) (_ : I64 hour) :
    Calls Try.prog 7 #[.slice a n cap, .slice a' n' cap', .slice a'' n'' cap'', .int .i64 hour] w fun e w' => e = .returned (.bool true) ∧ Below w.heap.size w w' := by
  have H1 := Lib.hid h
  have H1' := Lib.hid h'
  have H1'' := Lib.hid h''
  have Hw := Lib.hid hw
  have Hz := Lib.hid hz
  clear h h' h'' hw hz
  obtain ⟨i0, hi0, hz0, hz1, hz2⟩ := info_parts info_po
  go_enter Try.func7, Try.ntmps7
  go_wp2_with fail
  refine (few_any a n cap a' n' cap' a'' n'' cap'' _).mono ?_
  rintro e wf ⟨rfl, rfl⟩
  by_cases hf : fewB n n' n''
  case neg =>
    have hd : decide (fewB n n' n'') = false := by simp [hf]
    rw [hd]
    clear hd hf
    go_wp2_with fail
    refine (purses_any _).mono ?_
    rintro e w1 ⟨rfl, hB⟩
    have HB := Lib.hid hB
    clear hB
    go_wp2_with fail
    go_ret
    exact ⟨rfl, HB.out⟩
  have hd : decide (fewB n n' n'') = true := by simp [hf]
  rw [hd]
  obtain ⟨f1, f2, f3⟩ := hf
  clear hd
  go_wp2_with fail
  refine (settle_any a n cap xs a' n' cap' d a'' n'' cap'' c hour _ H1.out Hw.out H1'.out H1''.out).mono ?_
  rintro e w1 ⟨hB, ⟨he, rfl⟩ | ⟨he, v, rfl, hrow⟩⟩
  · have he1 : (settleE xs d c hour != 0) = true := by simp [he]
    have HB := Lib.hid hB
    clear hB he
    go_wp2_with fail
    refine (purses_any _).mono ?_
    rintro e w2 ⟨rfl, hB⟩
    have HB2 := Lib.hid (below_then HB.out hB (Nat.le_refl _))
    clear hB
    go_wp2_with fail
    go_ret
    exact ⟨rfl, HB2.out⟩
  obtain ⟨⟨hck, hhr, hcd, hcc, _⟩, hlim⟩ := settleE_zero he
  have hs := settled_law he
  obtain ⟨out, hout⟩ : ∃ out, (settleSt xs d c hour).out = out := ⟨_, rfl⟩
  have hsn4 : out.length ≤ 400 := by have := hlim.1; rw [hout] at this; omega
  rw [hout] at hrow hs
  obtain ⟨sn, hsn⟩ : ∃ sn, out.length = sn := ⟨_, rfl⟩
  rw [hsn] at hrow hsn4
  obtain ⟨sa, sc, rfl, ho1⟩ := OwnPo.of_own hrow hsn (by unfold maxLen; omega)
  have HSt := Lib.hid hs
  have Hout := Lib.hid hout
  have Hsn := Lib.hid hsn
  have HCk := Lib.hid hck
  have HCd := Lib.hid hcd
  have HSr := Lib.hid ho1.rd
  have H2 := Lib.hid (H1.out.below' hB)
  have H2' := Lib.hid (H1'.out.below' hB)
  have H2'' := Lib.hid (H1''.out.below' hB)
  have HB1 := Lib.hid hB
  clear hB hrow ho1 hs hout hsn hck hcd hlim H1 H1' H1'' he hcc hhr
  go_upto_region 6 with (fail)
  go_upto_region 7 with (at_builtin; refine wpList_append_copy _ rfl _ _ 22 rfl w1.heap.size 24 i0 _ 64 Try.underlying22 hi0 hz0 hz1 hz2 rfl (.slice (some ⟨w1.heap.size, 0, none⟩) 0 0) rfl (ownsRow_made' w1 (Nat.le_refl _) rfl) a n cap xs rfl (H2.out.below' ((Below.refl _ w1).alloc (Nat.le_refl _) _)) Hz.out (by omega) (by omega) (by simp) ?_; intro v2 w2 hown2 hgrow2)
  obtain ⟨na, nc, rfl, ho2⟩ := OwnPo.of_own hown2 H2.out.len (by unfold maxLen; omega)
  have hB := ((Below.refl w1.heap.size w1).alloc (Nat.le_refl _) (.cells #[] 24)).grown hgrow2 (by simp) (fun k e => by simp [Value.ownBlock] at e; omega)
  have HN := Lib.hid ho2.rd
  have HSr2 := Lib.hid (HSr.out.below' hB)
  have H3 := Lib.hid (H2.out.below' hB)
  have H3' := Lib.hid (H2'.out.below' hB)
  have H3'' := Lib.hid (H2''.out.below' hB)
  have HB2 := Lib.hid (below_then HB1.out hB (Nat.le_refl _))
  clear hown2 hgrow2 ho2 hB HSr H2 H2' H2'' HB1
  go_upto_region 8 with (fail)
  go_loopw [11, 12] (fun v i wr => ∃ (k : Nat) (ma : Option Addr) (mc : Nat), k ≤ sn ∧ i = .int .i64 k ∧ v = .slice ma (n + k) mc ∧ Rd Po.vals 8 wr ma (n + k) (xs ++ out.take k) ∧ Below w2.heap.size w2 wr) (fun _ i _ => sn - (intOf i).toNat)
  case atStart => exact ⟨0, na, nc, Nat.zero_le _, rfl, rfl, by simpa using HN.out, Below.refl _ _⟩
  case round =>
    obtain ⟨k, ma, mc, hk, rfl, rfl, hrd, hB⟩ := hrel
    by_cases hlt : k < sn
    · have hlt' : (k : Int) < (sn : Int) := by omega
      obtain ⟨b, off, q, rfl, hb, hq, x0, x1, x2, x3, x4, x5, x6, x7⟩ := (HSr2.out.below' hB).po hlt
      obtain ⟨r1, r2, r3, r4⟩ := settle_row Hout.out HSt.out hq
      have e2 : xs ++ out.take k ++ [q] = xs ++ out.take (k + 1) := by rw [List.append_assoc, take_succ_snoc hq]
      have e1 : (xs ++ out.take k).length + 1 = n + (k + 1) := by rw [List.length_append, List.length_take, H3.out.len, Hsn.out]; omega
      have R1 := Lib.hid r1
      have R2 := Lib.hid r2
      have R4 := Lib.hid r4
      have E1 := Lib.hid e1
      have E2 := Lib.hid e2
      have HRd := Lib.hid hrd
      have HBk := Lib.hid hB
      have hqh : (q.hour != hour) = false := by simp [r3]
      clear r1 r2 r3 r4 e1 e2 hrd hB hq
      go_wp2_with fail
      refine (append_any ma (n + k) mc (xs ++ out.take k) q _ HRd.out (settle_wf HSt.out k) R4.out).mono ?_
      rintro e w5 ⟨hB, ⟨hc, _⟩ | ⟨_, hr, _⟩ | ⟨_, _, v', rfl, hrow⟩⟩
      · exact absurd R1.out hc
      · exact absurd R2.out hr
      rw [E1.out, E2.out] at hrow
      obtain ⟨ma', mc', rfl, ho⟩ := OwnPo.of_own hrow (by rw [← E2.out, List.length_append, ← E1.out]; rfl) (by unfold maxLen; omega)
      have HO := Lib.hid ho.rd
      have y1 := cell_keep x1 hB
      have yb : b < w5.heap.size := Nat.lt_of_lt_of_le hb hB.size
      have HB5 := Lib.hid (below_then HBk.out hB (Nat.le_refl _))
      clear hrow ho hB x0 x1 x2 x3 x4 x5 x6 x7
      go_wp2_with fail
      exact ⟨⟨k + 1, ma', mc', by omega, by go_num, rfl, HO.out, HB5.out⟩, by simp [intOf]; omega⟩
    · have hlt' : ¬ (k : Int) < (sn : Int) := by omega
      have hks : k = sn := by omega
      subst hks
      rw [List.take_of_length_le (Nat.le_of_eq Hsn.out)] at hrd
      have HM := Lib.hid hrd
      have H4 := Lib.hid (H3.out.below' hB)
      have H4' := Lib.hid (H3'.out.below' hB)
      have H4'' := Lib.hid (H3''.out.below' hB)
      have HB4 := Lib.hid (below_then HB2.out hB (Nat.le_refl _))
      obtain ⟨w4, rfl⟩ : ∃ w4 : World, w4 = wr := ⟨_, rfl⟩
      have HwY := Lib.hid (show ∀ p ∈ xs ++ out, p.Wf by have := settle_wf HSt.out out.length; rwa [List.take_of_length_le (Nat.le_refl _)] at this)
      clear hrd hB H3 H3' H3'' HB2 HSr2
      go_wp2_with fail
      refine (over_all a n cap xs a' n' cap' d _ H4.out Hw.out H4'.out).mono ?_
      rintro e w5 ⟨hB, ⟨hc, _⟩ | ⟨_, v, rfl, hrow⟩⟩
      · exact absurd ((cmpE_b HCk.out).trans HCd.out) hc
      obtain ⟨bn, hbn⟩ : ∃ bn, (overM xs d).length = bn := ⟨_, rfl⟩
      have hb4 : bn ≤ 400 := by rw [← hbn]; exact overM_len HCk.out d
      rw [hbn] at hrow
      obtain ⟨ba, bc, rfl, hbc, hbr, _⟩ := Rd.of_own hrow du_vals_length (by omega) hbn (by unfold maxLen; omega)
      have HBef := Lib.hid hbr
      have HM5 := Lib.hid (HM.out.below' hB)
      have H5' := Lib.hid (H4'.out.below' hB)
      have H5'' := Lib.hid (H4''.out.below' hB)
      have HB5 := Lib.hid (below_then HB4.out hB (Nat.le_refl _))
      have Hbn := Lib.hid hbn
      clear hB hrow hbr hbn H4 H4' H4'' HB4 HM
      go_wp2_with fail
      refine (over_all ma (n + k) mc (xs ++ out) a' n' cap' d _ HM5.out HwY.out H5'.out).mono ?_
      rintro e w6 ⟨hB, ⟨hc, _⟩ | ⟨_, v, rfl, hrow⟩⟩
      · exact absurd ((cmpE_b HSt.out.bk).trans HCd.out) hc
      obtain ⟨an, han⟩ : ∃ an, (overM (xs ++ out) d).length = an := ⟨_, rfl⟩
      have ha4 : an ≤ 400 := by rw [← han]; exact overM_len HSt.out.bk d
      rw [han] at hrow
      obtain ⟨aa, ac, rfl, hac, har, _⟩ := Rd.of_own hrow du_vals_length (by omega) han (by unfold maxLen; omega)
      have HAft := Lib.hid har
      have HBef6 := Lib.hid (HBef.out.below' hB)
      have HM6 := Lib.hid (HM5.out.below' hB)
      have H6' := Lib.hid (H5'.out.below' hB)
      have H6'' := Lib.hid (H5''.out.below' hB)
      have HB6 := Lib.hid (below_then HB5.out hB (Nat.le_refl _))
      clear hB hrow har han H5' H5'' HB5 HM5 HBef
      go_upto_region 19 with (fail)
      go_loopw [19] (fun i wr => ∃ k : Nat, k ≤ an ∧ i = .int .i64 k ∧ Below w6.heap.size w6 wr) (fun i _ => an - (intOf i).toNat)
      case atStart => exact ⟨0, Nat.zero_le _, rfl, Below.refl _ _⟩
      case round =>
        obtain ⟨j, hj, rfl, hB⟩ := hrel
        obtain ⟨wo, rfl⟩ : ∃ wo : World, wo = wr := ⟨_, rfl⟩
        by_cases hjl : j < an
        · have hjl' : (j : Int) < (an : Int) := by omega
          obtain ⟨z, hz⟩ : ∃ z, (overM (xs ++ out) d)[j]? = some z := ⟨_, List.getElem?_eq_getElem (by rw [HAft.out.len]; exact hjl)⟩
          have HZ := Lib.hid (HSt.out.over z (List.mem_of_getElem? hz))
          have HJ := Lib.hid hz
          have HBo := Lib.hid hB
          clear hB hz
          go_upto_region 23 with (fail)
          go_loopw [20, 21] (fun f i wr => ∃ m : Nat, m ≤ bn ∧ i = .int .i64 m ∧ f = .bool (decide (z ∈ (overM xs d).take m)) ∧ Below w6.heap.size w6 wr) (fun _ i _ => bn - (intOf i).toNat)
          case atStart => exact ⟨0, Nat.zero_le _, rfl, by simp, HBo.out⟩
          case round =>
            obtain ⟨m, hm, rfl, rfl, hB⟩ := hrel
            by_cases hml : m < bn
            · have hml' : (m : Int) < (bn : Int) := by omega
              obtain ⟨b, off, x, rfl, hb, hx, x0, x1, x2⟩ := (HBef6.out.below' hB).du hml
              obtain ⟨b', off', y, rfl, hb', hy, y0, y1, y2⟩ := (HAft.out.below' hB).du hjl
              have hyz : y = z := by have := HJ.out; rw [hy] at this; exact Option.some.inj this
              subst hyz
              have Hsn1 := Lib.hid (show decide (y ∈ (overM xs d).take (m + 1)) = (decide (y ∈ (overM xs d).take m) || decide (x = y)) by
                rw [take_succ_snoc hx]
                by_cases e1 : y ∈ (overM xs d).take m <;> by_cases e2 : x = y <;> simp [e1, e2]
                exact fun e => e2 e.symm)
              have HBm := Lib.hid hB
              clear hx hy hB
              cases hfd : decide (y ∈ (overM xs d).take m) with
              | true =>
                have Hfd := Lib.hid hfd
                clear hfd
                go_wp2_with fail
                go_quiet (fail)
                go_wp2_with fail
                exact ⟨⟨m + 1, by omega, by go_num, by rw [Hsn1.out, Hfd.out]; rfl, below_drewN HBm.out _⟩, by simp [intOf]; omega⟩
              | false =>
                have heq : ∀ W, (binOp .eql 47 (.agg #[.int .i64 x.party, .int .i64 x.parcel, .int .i64 x.amount]) (.agg #[.int .i64 y.party, .int .i64 y.parcel, .int .i64 y.amount])).run Try.prog W = .ok (.bool (decide (x = y))) W := fun W => eqDu_run x y W
                have Hfd := Lib.hid hfd
                clear hfd
                go_wp2_with fail
                go_quiet (fail)
                go_wp2_with fail
                exact ⟨⟨m + 1, by omega, by go_num, by rw [Hsn1.out, Hfd.out]; rfl, below_drewN HBm.out _⟩, by simp [intOf]; omega⟩
            · have hml' : ¬ (m : Int) < (bn : Int) := by omega
              have hd : decide (z ∈ (overM xs d).take m) = true := by
                rw [List.take_of_length_le (by rw [Hbn.out]; omega)]; simp [HZ.out]
              rw [hd]
              have HBm := Lib.hid hB
              clear hB hd
              go_wp2_with fail
              exact ⟨⟨j + 1, by omega, by go_num, HBm.out⟩, by simp [intOf]; omega⟩
        · have hjl' : ¬ (j : Int) < (an : Int) := by omega
          have HM7 := Lib.hid (HM6.out.below' hB)
          have H7' := Lib.hid (H6'.out.below' hB)
          have H7'' := Lib.hid (H6''.out.below' hB)
          have HB7 := Lib.hid (below_then HB6.out hB (Nat.le_refl _))
          clear hB HM6 H6' H6'' HB6 HBef6 HAft
          go_wp2_with fail
          refine (settle_any ma (n + k) mc (xs ++ out) a' n' cap' d a'' n'' cap'' c hour _ HM7.out HwY.out H7'.out H7''.out).mono ?_
          rintro e w8 ⟨hB, ⟨he, _⟩ | ⟨_, v, rfl, hrow⟩⟩
          · exact absurd HSt.out.againE he
          rw [HSt.out.again] at hrow
          obtain ⟨ta, tc, rfl, _⟩ := OwnPo.of_own (n := 0) hrow rfl (Nat.zero_le _)
          have HB8 := Lib.hid (below_then HB7.out hB (Nat.le_refl _))
          clear hB hrow
          go_wp2_with fail
          refine (purses_any _).mono ?_
          rintro e w9 ⟨rfl, hB⟩
          have HB9 := Lib.hid (below_then HB8.out hB (Nat.le_refl _))
          clear hB
          go_wp2_with fail
          go_ret
          exact ⟨rfl, HB9.out⟩
end Go.Proofs.Ytacpjmgnddpbiaa
