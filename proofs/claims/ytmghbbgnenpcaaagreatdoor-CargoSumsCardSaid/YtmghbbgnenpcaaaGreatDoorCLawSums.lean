/- The law CargoSums walked. -/
import Derived.Test.YtmghbbgnenpcaaaGreatDoorCSumsR
set_option linter.unusedSimpArgs false
set_option linter.unusedVariables false
namespace Go.Proofs.YtmghbbgnenpcaaaGreatDoor
open Go.RowKit Go.Shelf

/-! bounds of the ends -/
mutual
theorem sink_range : ∀ (t : Tr) (lo hi : Int), Up t → Bd t → ∀ k ∈ (sinkT lo hi t).pre, 0 ≤ k.f.endL ∧ k.f.endH ≤ 1099511627776
  | .node b f ks, lo, hi, hu, hb, k, hk => by
    unfold sinkT at hk
    simp only [Tr.pre] at hk
    exact sinkL_range ks _ _ _ _ hu.kids hb.kids k hk
theorem sinkL_range : ∀ (ks : List Tr) (top sl low high : Int), (∀ k ∈ ks, Up k) → (∀ k ∈ ks, Bd k) → ∀ k ∈ preL (sinkL top sl low high ks), 0 ≤ k.f.endL ∧ k.f.endH ≤ 1099511627776
  | [], _, _, _, _, _, _, k, hk => by simp [sinkL, preL] at hk
  | x :: r, top, sl, low, high, hu, hb, k, hk => by
    have h1 := (hu x (by simp)).low
    have h2 := (hb x (by simp)).fb.2.1
    have he := sinkT_ends (max x.f.low (sl - (high - x.f.ownH))) (min x.f.ownH (top - (low - x.f.low))) x
    simp only [sinkL, preL, List.mem_cons, List.mem_append] at hk
    rcases hk with rfl | hk | hk
    · rw [he.1, he.2]; omega
    · exact sink_range x _ _ (hu x (by simp)) (hb x (by simp)) k hk
    · exact sinkL_range r _ _ _ _ (fun y hy => hu y (List.mem_cons_of_mem _ hy)) (fun y hy => hb y (List.mem_cons_of_mem _ hy)) k hk
end
theorem weigh_range (l : List Pa) (known loss pack : Int) : 0 ≤ (weighV l known loss pack).1 ∧ (weighV l known loss pack).2 ≤ 1099511627776 := by
  unfold weighV
  split
  · rename_i h
    have hr := weigh_root h
    obtain ⟨h0, hh, t, ht⟩ := rootE_zero hr
    have hb := tree_bd (mani_ok (check_good (open_check h0)).1 known loss) _ (show treeT (papersL l known loss) (totalsL l known loss) (fun _ => true) = some t from ht)
    unfold weighP
    rw [ht]
    simp only [Option.bind_some]
    cases es : solveT t with
    | none => simp
    | some s =>
      simp only
      cases ek : findT s pack with
      | none => simp [nodeF]
      | some k =>
        have hm : k ∈ s.pre := List.mem_of_find?_eq_some ek
        unfold solveT at es
        split at es
        · cases es
        · rename_i u hu
          cases es
          obtain ⟨b1, b2, _⟩ := riseT_up t u hb hu
          exact sink_range u _ _ b2 b1 k hm
  · simp
theorem span_zero {l : List Pa} {known loss pack : Int} (h : ¬ weighE l known loss (hasP l known loss pack) = 0) : weighV l known loss pack = (0, 0) := by unfold weighV; rw [if_neg h]
theorem path_facts {l : List Pa} {known loss pack : Int} (h : rootE l known loss (hasP l known loss pack) = 0) : Linked (papersO l known loss) 0 (pathV l known loss pack) ∧ ∃ pre, pathV l known loss pack = pre ++ [pack] := by
  obtain ⟨h0, hh, t, ht⟩ := rootE_zero h
  have hmo := mani_ok (check_good (open_check h0)).1 known loss
  obtain ⟨c, hc⟩ := tree_chain hmo.packs (show treeT (papersL l known loss) (totalsL l known loss) (fun _ => true) = some t from ht) (tree_has hmo.packs ht (pack := pack) hh)
  have hl := hc.len hmo.packs
  simp only [List.length_cons] at hl
  have hln := hmo.ln
  have hp0 : pack ≠ 0 := by
    intro e
    obtain ⟨x, hx⟩ := Option.isSome_iff_exists.1 hh
    obtain ⟨h1, h2⟩ := ofI_mem hx
    have := (hmo.pp x h1).1
    omega
  unfold pathV
  rw [if_pos h, (open_some (known := known) h0).1]
  exact path_last hmo.packs hc hp0 (by omega)
theorem linked_at {ps : List Pa} {L : List Int} {i q : Int} {k : Nat} (h : Linked ps i (L.drop k)) (hq : L[k]? = some q) : (insideI ps i).contains q = true ∧ Linked ps q (L.drop (k + 1)) := by
  obtain ⟨hk, he⟩ := List.getElem?_eq_some_iff.1 hq
  rw [List.drop_eq_getElem_cons hk, he] at h
  exact ⟨by simpa using h.1, h.2⟩
theorem sum_stepW {L : List Int} {k : Nat} {q : Int} (h : L[k]? = some q) (f : Int → Int) : ((L.take (k + 1)).map f).sum = ((L.take k).map f).sum + f q := by
  rw [take_succ_snoc h, List.map_append, List.sum_append]; simp
theorem sum_hiW {g : Int → Int} {m : Int} : ∀ (l : List Int), (∀ q, 0 ≤ g q ∧ g q ≤ m) → 0 ≤ (l.map g).sum ∧ (l.map g).sum ≤ (l.length : Int) * m
  | [], _ => by simp
  | x :: r, h => by
    have h1 := sum_hiW r h
    have h2 := h x
    rw [List.map_cons, List.sum_cons, List.length_cons]
    have : ((r.length + 1 : Nat) : Int) * m = (r.length : Int) * m + m := by rw [Int.natCast_add, Int.add_mul]; simp
    omega
theorem missV_bd (l : List Pa) (known loss pack : Int) : -1000 ≤ missV l known loss pack ∧ missV l known loss pack ≤ 1000 := by
  rw [miss_is]
  unfold missRV
  split
  · unfold missR
    cases e : ofI (totalsO l known loss) pack with
    | none => simp
    | some t =>
      have h1 := counts_ok (l := l) (known := known) (loss := loss) t (ofI_mem e).1
      have h2 := insideL_len (papersO l known loss) pack
      have h3 := (papersO_len l known loss).1
      have h4 : insideL (papersO l known loss) pack = insideI (papersO l known loss) pack := rfl
      rw [h4] at h2
      simp only; omega
  · simp

set_option maxRecDepth 100000 in
set_option maxHeartbeats 8000000 in
theorem law_sums (a : Option Addr) (n cap : Nat) (xs : List Pa) (known loss pack : Int) (w : World) (h : Rd Pa.vals 14 w a n xs) (hz : a = none → cap = 0) (hcap : n ≤ cap) (hw : Laid w) :
    Calls Tryz.prog 3 #[.slice a n cap, .int .i64 known, .int .i64 loss, .int .i64 pack] w fun e w' => e = .returned (.bool true) ∧ Below w.heap.size w w' := by
  have CA := Lib.hid (show ∀ W, Below w.heap.size w W → Calls Tryz.prog 12 #[] W fun e w' => e = .returned (.bool true) ∧ Below W.heap.size W w' from fun W hB => alive_any W (hw.below hB))
  have CF := Lib.hid (lfew_any a n cap xs w h)
  have HR := Lib.hid h
  have Hlen := Lib.hid h.len
  clear h hw hz
  obtain ⟨F1, hF1⟩ : ∃ b, fewB xs 30 = b := ⟨_, rfl⟩
  rw [hF1] at CF
  have HF := Lib.hid hF1
  clear hF1
  have HB0 := Lib.hid (Below.refl w.heap.size w)
  go_enter Tryz.func3, Tryz.ntmps3
  go_wp2_with fail
  refine CF.out.mono ?_
  rintro e w2 ⟨rfl, hw2⟩
  obtain rfl := hw2.symm
  clear hw2 CF
  have HB := HB0
  clear HB0
  cases F1 with
  | false =>
    go_wp2_with fail
    refine (CA.out _ HB.out).mono ?_
    rintro e w3 ⟨rfl, hS⟩
    have HB' := Lib.hid (HB.out.trans (hS.mono HB.out.size))
    clear hS
    go_wp2_with fail
    go_ret
    exact ⟨rfl, HB'.out⟩
  | true =>
  have HS : ∀ y ∈ xs, y.Short := fun y hy => by have := (few_short HF.out).2 y hy; exact ⟨by omega, by omega⟩
  have hn : n ≤ 1000 := by have h1 := (few_short HF.out).1; rw [Hlen.out] at h1; omega
  have hpl := (papersO_len xs known loss).1
  have C1 := Lib.hid (fun (p : Int) W (hW : Below w.heap.size w W) => weigh_any a n cap xs HS known loss p W (HR.out.below' hW) hcap)
  have C3 := Lib.hid (fun W (hW : Below w.heap.size w W) => missing_any a n cap xs HS known loss pack W (HR.out.below' hW) hcap)
  have C2 := Lib.hid (fun W (hW : Below w.heap.size w W) => path_any a n cap xs HS known loss pack W (HR.out.below' hW) hcap)
  have C5 := Lib.hid (fun (p : Int) W (hW : Below w.heap.size w W) => (insides_any a n cap xs HS known loss p W (HR.out.below' hW) hcap).mono (fun _ _ h => nums_post (by have := insideL_len (papersO xs known loss) p; omega) h))
  have hpv := pathV_len xs known loss pack
  unfold WeighedPost at C1
  unfold PathPost at C2
  unfold MissPost at C3
  have hIL : ∀ p, insideL (papersO xs known loss) p = insideI (papersO xs known loss) p := fun p => rfl
  simp only [hIL] at C5
  unfold NumsPost at C5
  have HRg := Lib.hid (fun p => weigh_range xs known loss p)
  have hmv := missV_bd xs known loss pack
  have hil : (insideI (papersO xs known loss) pack).length ≤ 201 := Nat.le_trans (by have := insideL_len (papersO xs known loss) pack; exact this) hpl
  have HNo := Lib.hid (span_zero (l := xs) (known := known) (loss := loss) (pack := pack))
  have HYes := Lib.hid (fun h => sums_is (l := xs) (known := known) (loss := loss) (pack := pack) h)
  have HPath := Lib.hid (fun h => path_facts (l := xs) (known := known) (loss := loss) (pack := pack) h)
  have HWr := Lib.hid (fun h => weigh_root (xs := xs) (known := known) (loss := loss) (tb := hasP xs known loss pack) h)
  have HRgP := HRg.out pack
  obtain ⟨V1, hV1⟩ : ∃ I, (weighV xs known loss pack).1 = I := ⟨_, rfl⟩
  obtain ⟨V2, hV2⟩ : ∃ I, (weighV xs known loss pack).2 = I := ⟨_, rfl⟩
  obtain ⟨E1, hE1⟩ : ∃ I, weighE xs known loss (hasP xs known loss pack) = I := ⟨_, rfl⟩
  obtain ⟨MV, hMV⟩ : ∃ I, missV xs known loss pack = I := ⟨_, rfl⟩
  obtain ⟨E2, hE2⟩ : ∃ I, rootE xs known loss (missB xs known loss pack) = I := ⟨_, rfl⟩
  obtain ⟨PV, hPV⟩ : ∃ I, pathV xs known loss pack = I := ⟨_, rfl⟩
  obtain ⟨E3, hE3⟩ : ∃ I, rootE xs known loss (hasP xs known loss pack) = I := ⟨_, rfl⟩
  have CW := Lib.hid (C1.out pack)
  rw [hV1, hV2, hE1] at CW
  rw [hPV] at hpv C2 HPath
  rw [hE3] at C2 HPath HWr
  rw [hMV, hE2] at C3
  rw [hMV] at hmv
  rw [hE1] at HNo HYes HWr
  rw [hE2, hMV, hV1, hV2] at HYes
  rw [hV1, hV2] at HRgP
  have HNo2 := Lib.hid (show ¬ E1 = 0 → V1 = 0 ∧ V2 = 0 from fun h => by have := HNo.out h; rw [← hV1, ← hV2, this]; exact ⟨rfl, rfl⟩)
  clear hV1 hV2 hE1 hMV hE2 hPV hE3 hIL HF hpl HNo
  go_upto_region 4 with (go_at_call 13; refine (CW.out _ HB.out).mono ?_; rintro e w3 ⟨rfl, hS⟩)
  have hbx := BoxG.made w3 [.int .i64 V1, .int .i64 V2] 26
  have hSx := hS.trans ((al' (Below.refl w3.heap.size w3) (.cells #[.int .i64 V1, .int .i64 V2] 26)).mono hS.size)
  have HB4 := Lib.hid (HB.out.trans (hSx.mono HB.out.size))
  have HX := Lib.hid hbx
  clear hS hSx hbx CW HB
  generalize w3.alloc (.cells #[.int .i64 V1, .int .i64 V2] 26) = w4 at *
  obtain ⟨X, hXe⟩ : ∃ X, w3.heap.size = X := ⟨_, rfl⟩
  rw [hXe] at HX ⊢
  clear hXe
  go_upto_region 5 with (go_at_call 14; refine (C3.out _ HB4.out).mono ?_; rintro e w5 ⟨rfl, hS⟩)
  have HB5 := Lib.hid (HB4.out.trans (hS.mono HB4.out.size))
  have HX5 := Lib.hid (HX.out.below' hS)
  clear hS C3 HX HB4
  by_cases h1 : E1 = 0
  case neg =>
    have h1' : (E1 != 0) = true := by simp [h1]
    obtain ⟨v1, v2⟩ := HNo2.out h1
    subst v1 v2
    clear h1
    go_wp2_with fail
    refine (CA.out _ HB5.out).mono ?_
    rintro e w6 ⟨rfl, hS⟩
    have HB6 := Lib.hid (HB5.out.trans (hS.mono HB5.out.size))
    obtain ⟨x0, x1, _, _⟩ := pair_facts (HX5.out.below' hS)
    clear hS
    go_wp2_with fail
    go_ret
    exact ⟨rfl, HB6.out⟩
  case pos =>
  subst h1
  obtain ⟨hins, he2, hsum, hlohi⟩ := HYes.out rfl
  have he3 := HWr.out rfl
  subst he2 he3
  obtain ⟨hlk, pre, hpre⟩ := HPath.out rfl
  have HIns := Lib.hid hins
  have HSum := Lib.hid hsum
  have HLk := Lib.hid hlk
  obtain ⟨pl, hple⟩ : ∃ l, PV.length = l := ⟨_, rfl⟩
  have hpl1 : 1 ≤ pl := by rw [← hple, hpre]; simp
  have hlast : PV[pl - 1]? = some pack := by rw [← hple, hpre]; simp
  have hple1000 : pl ≤ 1000 := by rw [← hple]; exact hpv
  have HLast := Lib.hid hlast
  have HPl := Lib.hid hple
  clear hins hsum hlk hpre hlast HYes HWr HPath HNo2 hpv hple
  go_upto_region 8 with (go_at_call 15; refine (C2.out _ HB5.out).mono ?_; rintro e w6 ⟨v1, rfl, ho, hS⟩)
  obtain ⟨pa, pn, pc, rfl, hrp⟩ := rd_own ho (by rw [HPl.out]; omega)
  obtain rfl : pl = pn := by rw [← HPl.out]; exact hrp.len
  have HB6 := Lib.hid (HB5.out.trans (hS.mono HB5.out.size))
  have HX6 := Lib.hid (HX5.out.below' hS)
  have HP := Lib.hid hrp
  clear ho hrp hS C2 HX5 HB5
  obtain ⟨m, hm⟩ : ∃ m, pl = m + 1 := ⟨pl - 1, by omega⟩
  have hix : IntKind.i64.wrap ((pl : Int) - 1) = (m : Int) := by rw [IntWalk.i64_in _ (by omega)]; omega
  have hml : m < pl := by omega
  obtain ⟨pb, po, pv, rfl, _, hpv, hcp⟩ := HP.out.int hml
  obtain rfl : pv = pack := by
    have := HLast.out
    rw [show pl - 1 = m by omega, hpv] at this
    exact Option.some.inj this
  have hpk : (pv != pv) = false := by simp
  clear hpv HLast hm
  have hpl0 : ((pl : Int) == 0) = false := by
    rw [beq_eq_false_iff_ne]; omega
  go_upto_region 11 with (fail)
  clear hcp hpk hix hml
  go_wp2_with fail
  go_loopw [15, 82] (fun cv i wr => ∃ (k : Nat) (cur : Int), k ≤ pl ∧ i = .int .i64 k ∧ cv = .int .i64 cur ∧ Linked (papersO xs known loss) cur (PV.drop k) ∧ Below w6.heap.size w6 wr) (fun _ i _ => pl - (intOf i).toNat)
  case atStart => exact ⟨0, 0, Nat.zero_le _, rfl, rfl, HLk.out, Below.refl _ _⟩
  case round =>
    obtain ⟨k, cur, hk, rfl, rfl, hlk, hB⟩ := hrel
    have HL := Lib.hid hlk
    have HBr := Lib.hid hB
    clear hlk hB
    by_cases hlt : k < pl
    · have hlt' : (k : Int) < (pl : Int) := by omega
      obtain ⟨pb2, po2, q, hpe, _, hq, hcq⟩ := (HP.out.below' HBr.out).int hlt
      injection hpe with hpe
      injection hpe with e1 e2
      subst e1 e2
      obtain ⟨hcon, hnx⟩ := linked_at HL.out hq
      have HNx := Lib.hid hnx
      have HBw := Lib.hid (HB6.out.trans (HBr.out.mono HB6.out.size))
      have CI := Lib.hid (C5.out cur wr HBw.out)
      obtain ⟨IL, hIL⟩ : ∃ L, insideI (papersO xs known loss) cur = L := ⟨_, rfl⟩
      rw [hIL] at CI hcon
      clear hq hnx hIL HL
      go_wp2_with fail
      refine CI.out.mono ?_
      rintro e w8 ⟨ia, il, ic, rfl, hri, hS⟩
      have HBn := Lib.hid (HBr.out.trans (hS.mono HBr.out.size))
      have CC := Lib.hid (contains_any ia il ic IL q w8 hri)
      rw [hcon] at CC
      clear hS hri CI HBr HBw hcq
      go_wp2_with fail
      refine CC.out.mono ?_
      rintro e w9 ⟨rfl, h9⟩
      obtain rfl := h9.symm
      clear h9 CC
      go_wp2_with fail
      exact ⟨⟨k + 1, q, by omega, by go_num, rfl, HNx.out, HBn.out⟩, by simp [intOf]; omega⟩
    · have hltg : ¬ (k : Int) < (pl : Int) := by omega
      have HBw := Lib.hid (HB6.out.trans (HBr.out.mono HB6.out.size))
      have HXw := Lib.hid (HX6.out.below' HBr.out)
      have CI := Lib.hid (C5.out pv wr HBw.out)
      obtain ⟨IL, hIL⟩ : ∃ L, insideI (papersO xs known loss) pv = L := ⟨_, rfl⟩
      rw [hIL] at CI HIns HSum hil
      clear hIL HL hlt HBr HX6 HB6 HP
      go_wp2_with fail
      refine CI.out.mono ?_
      rintro e w8 ⟨ia, il, ic, rfl, hri, hS⟩
      have HB8 := Lib.hid (HBw.out.trans (hS.mono HBw.out.size))
      have HX8 := Lib.hid (HXw.out.below' hS)
      have HI := Lib.hid hri
      have HIle := Lib.hid hri.len
      have hil2 : il ≤ 201 := by rw [← HIle.out]; exact hil
      clear hS hri CI HBw HXw
      go_wp2_with fail
      go_loopw [18, 103] (fun sv i wr => ∃ k : Nat, k ≤ il ∧ i = .int .i64 k ∧ sv = .int .i64 (MV + ((IL.take k).map (fun q => (weighV xs known loss q).1)).sum) ∧ Below w8.heap.size w8 wr) (fun _ i _ => il - (intOf i).toNat)
      case atStart => exact ⟨0, Nat.zero_le _, rfl, by simp, Below.refl _ _⟩
      case round =>
        obtain ⟨k2, hk2, rfl, rfl, hB⟩ := hrel
        have HBr := Lib.hid hB
        clear hB
        obtain ⟨sm, hsm⟩ : ∃ v, MV + ((IL.take k2).map (fun q => (weighV xs known loss q).1)).sum = v := ⟨_, rfl⟩
        rw [hsm]
        by_cases hlt2 : k2 < il
        · have hlt2' : (k2 : Int) < (il : Int) := by omega
          obtain ⟨lb, lf, q, rfl, _, hq, hcq⟩ := (HI.out.below' HBr.out).int hlt2
          have HBw := Lib.hid (HB8.out.trans (HBr.out.mono HB8.out.size))
          have CQ := Lib.hid (C1.out q wr HBw.out)
          have heq := HIns.out q (List.mem_of_getElem? hq)
          have hst := sum_stepW hq (fun q => (weighV xs known loss q).1)
          have hrg := HRg.out q
          have hrr := (sums_is (l := xs) (known := known) (loss := loss) (pack := q) heq).2.2.2
          have hbd := sum_hiW (g := fun q => (weighV xs known loss q).1) (m := 1099511627776) (IL.take k2) (fun q => by
            have h1 := weigh_range xs known loss q
            refine ⟨h1.1, ?_⟩
            by_cases h0 : weighE xs known loss (hasP xs known loss q) = 0
            · have h2 := (sums_is (l := xs) (known := known) (loss := loss) (pack := q) h0).2.2.2
              omega
            · rw [span_zero h0]; decide)
          have hlk2 : ((IL.take k2).length : Int) ≤ 201 := by rw [List.length_take]; omega
          obtain ⟨y1, hy1⟩ : ∃ v, (weighV xs known loss q).1 = v := ⟨_, rfl⟩
          obtain ⟨y2, hy2⟩ : ∃ v, (weighV xs known loss q).2 = v := ⟨_, rfl⟩
          rw [hy1, hy2] at CQ hrg hrr
          rw [heq] at CQ
          have hsw : IntKind.i64.wrap (sm + y1) = sm + y1 := IntWalk.i64_in _ (by omega)
          have HNx := Lib.hid (show sm + y1 = MV + ((IL.take (k2 + 1)).map (fun q => (weighV xs known loss q).1)).sum from by rw [hst, ← hsm, ← hy1]; omega)
          clear hq heq hst hrg hrr hbd hlk2 hy1 hy2 hsm
          go_wp2_with fail
          refine CQ.out.mono ?_
          rintro e w10 ⟨rfl, hS⟩
          have HBn := Lib.hid (HBr.out.trans (hS.mono HBr.out.size))
          clear hS CQ HBw hcq
          go_wp2_with fail
          exact ⟨⟨k2 + 1, by omega, by go_num, by rw [HNx.out], HBn.out.alloc HBn.out.size _⟩, by simp [intOf]; omega⟩
        · have hltg2 : ¬ (k2 : Int) < (il : Int) := by omega
          have hT : IL.take k2 = IL := List.take_of_length_le (by rw [HIle.out]; omega)
          have hle : sm ≤ V1 := by rw [← hsm, hT]; exact HSum.out
          have HBw := Lib.hid (HB8.out.trans (HBr.out.mono HB8.out.size))
          have HXw := Lib.hid (HX8.out.below' HBr.out)
          have hd1 : decide (sm ≤ V1) = true := decide_eq_true hle
          have hd2 : decide (V1 ≤ V2) = true := decide_eq_true hlohi
          clear hlt2 hT hsm HBr HB8 HX8
          go_wp2_with fail
          refine (CA.out _ HBw.out).mono ?_
          rintro e w11 ⟨rfl, hS⟩
          have HBf := Lib.hid (HBw.out.trans (hS.mono HBw.out.size))
          obtain ⟨x0, x1, _, _⟩ := pair_facts (HXw.out.below' hS)
          clear hS HXw HBw
          go_wp2_with fail
          go_ret
          exact ⟨rfl, HBf.out⟩
end Go.Proofs.YtmghbbgnenpcaaaGreatDoor
