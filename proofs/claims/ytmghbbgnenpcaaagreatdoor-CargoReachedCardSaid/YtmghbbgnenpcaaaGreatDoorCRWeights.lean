/- The walks of the reference's right, named and Weigh. -/
import Derived.Test.YtmghbbgnenpcaaaGreatDoorCREnds
import Derived.Test.YtmghbbgnenpcaaaGreatDoorCTreeE
import Derived.Test.YtmghbbgnenpcaaaGreatDoorCSumsR
import Derived.Test.YtmghbbgnenpcaaaGreatDoorCWeights
set_option linter.unusedSimpArgs false
set_option linter.unusedVariables false
namespace Go.Proofs.YtmghbbgnenpcaaaGreatDoor
open Go.RowKit Go.Shelf

def RightPost (w : World) (PS TS : List Pa) (E : Int) (e : Ending) (w' : World) : Prop :=
  ∃ pa pn pc ta tn tc, e = .returned (.tuple #[.agg #[.slice pa pn pc, .slice ta tn tc], .int .i64 E]) ∧ Below w.heap.size w w' ∧ (E = 0 → pn ≤ 201 ∧ tn ≤ 201 ∧ Rd Pa.vals 14 w' pa pn PS ∧ Rd Pa.vals 14 w' ta tn TS ∧ (∀ p, pa = some p → w.heap.size < p.block) ∧ ∀ p, ta = some p → w.heap.size < p.block)
set_option maxRecDepth 100000 in
set_option maxHeartbeats 8000000 in
theorem right_r (a : Option Addr) (n cap : Nat) (xs : List Pa) (hs : ∀ x ∈ xs, x.Short) (known loss : Int) (pack : Int) (w : World) (h : Rd Pa.vals 14 w a n xs) (hcap : n ≤ cap) (hn : n ≤ 100000) :
    Calls Tryz.prog 57 #[.slice a n cap, .int .i64 known, .int .i64 loss, .int .i64 pack] w (RightPost w (papersO xs known loss) (totalsO xs known loss) (treeE (missE xs known loss pack) (papersO xs known loss) (totalsO xs known loss))) := by
  have hB0 := al' (Below.refl w.heap.size w) (.cells #[.slice none 0 0, .slice none 0 0] 85)
  have hb0 := BoxG.made w [.slice none 0 0, .slice none 0 0] 85
  have HB1 := Lib.hid hB0
  have HR1 := Lib.hid hb0
  have CA := Lib.hid (fun W (hW : Below w.heap.size w W) => asked_any a n cap xs hs loss W (h.below' hW) hcap)
  have CP := Lib.hid (fun W (hW : Below w.heap.size w W) => paperOf_r a n cap xs hs known loss pack W (h.below' hW) hcap hn)
  have CO := Lib.hid (fun W (hW : Below w.heap.size w W) => of_rn a n cap xs hs known loss W (h.below' hW) hcap hn)
  have HCt := Lib.hid (counts_ok (l := xs) (known := known) (loss := loss))
  have hpb := paperE_bad (l := xs) (known := known) (loss := loss) (pack := pack)
  unfold missE
  unfold PaperOfPost at CP
  clear h hB0 hb0
  obtain ⟨PS, hPS⟩ : ∃ P, papersO xs known loss = P := ⟨_, rfl⟩
  obtain ⟨TS, hTS⟩ : ∃ P, totalsO xs known loss = P := ⟨_, rfl⟩
  obtain ⟨PE, hPE⟩ : ∃ P, paperE xs known loss pack = P := ⟨_, rfl⟩
  obtain ⟨OE, hOE⟩ : ∃ P, openE xs loss = P := ⟨_, rfl⟩
  rw [hPS] at CO CP ⊢
  rw [hTS] at CO HCt ⊢
  rw [hPE] at CP hpb ⊢
  rw [hOE] at CA hpb ⊢
  clear hPS hTS hPE hOE
  obtain ⟨TE, hTE⟩ : ∃ P, treeE (if pack = 0 then OE else PE) PS TS = P := ⟨_, rfl⟩
  rw [hTE]
  have HVB : Hid (∀ E, (if pack = 0 then OE else PE) = E → ¬ E = 0 → TE = E) := Lib.hid (fun E h1 h2 => by
    rw [← hTE, h1]; unfold treeE; rw [if_neg h2])
  have HVF1 : Hid ((if pack = 0 then OE else PE) = 0 → treeRB PS TS = false → TE = 11) := Lib.hid (fun h1 h2 => by
    rw [← hTE, h1]; unfold treeE; rw [if_pos rfl, h2]; rfl)
  have HVT1 : Hid ((if pack = 0 then OE else PE) = 0 → treeRB PS TS = true → TE = 0) := Lib.hid (fun h1 h2 => by
    rw [← hTE, h1]; unfold treeE; rw [if_pos rfl, h2]; rfl)
  have HPb := Lib.hid hpb
  clear hTE hpb
  go_enter Tryz.func57, Tryz.ntmps57
  go_upto_region 1 with (fail)
  generalize w.alloc (.cells #[.slice none 0 0, .slice none 0 0] 85) = w1 at *
  go_wp2_with fail
  refine (CA.out _ HB1.out).mono ?_
  rintro e w2 ⟨rfl, hB2⟩
  have HB2 := Lib.hid (HB1.out.trans (hB2.mono HB1.out.size))
  have HR2 := Lib.hid (HR1.out.below' hB2)
  clear hB2 CA HR1 HB1
  by_cases h0 : OE = 0
  case neg =>
    have h1 : (OE == 0) = false := by simp [h0]
    have h2 : (OE != 0) = true := by simp [h0]
    have HV := Lib.hid (HVB.out OE (by split <;> first | rfl | exact HPb.out h0) h0)
    have HN := Lib.hid h0
    have HRr := HR2
    obtain ⟨r0, r1, rf, rl⟩ := pair_facts HRr.out
    clear h0
    go_wp2_with fail
    obtain ⟨wf, hwf, s0, s1, sl, hBf⟩ := two_end (u := .slice none 0 0) (v := .slice none 0 0) HRr.out HB2.out (Nat.le_refl _)
    rw [hwf]
    exact bodyPost_ret (by simp [results, Tryz.results57, go_sem, s0, s1, sl]) rfl (show RightPost w PS TS TE (.returned (.tuple #[.agg #[.slice none 0 0, .slice none 0 0], .int .i64 OE])) wf from ⟨_, _, _, _, _, _, by rw [HV.out], hBf, fun e => absurd (HV.out.symm.trans e) HN.out⟩)

  case pos =>
    subst h0
    by_cases hp : pack = 0
    · have hp1 : (pack != 0) = false := by simp [hp]
      have HVF := Lib.hid (HVF1.out (by rw [if_pos hp]))
      have HVT := Lib.hid (HVT1.out (by rw [if_pos hp]))
      have HBt := HB2
      have HR3 := HR2
      clear hp
      go_upto_region 7 with (go_at_call 69; refine (CO.out _ HBt.out).mono ?_; rintro e w4 ⟨pa, pn, pc, ta, tn, tc, rfl, hpn, htn, hrp, hrt, hB4, hnp, hnt⟩)
      have HPn := Lib.hid (show ∀ p, pa = some p → 0 < pn → p.block ≠ w.heap.size from fun p e h0 => by have h1 := hnp p e; have h2 := HBt.out.size; have h3 := HR3.out.1; omega)
      have HTn := Lib.hid (show ∀ p, ta = some p → 0 < tn → p.block ≠ w.heap.size from fun p e h0 => by have h1 := hnt p e; have h2 := HBt.out.size; have h3 := HR3.out.1; omega)
      have HNp := Lib.hid (show ∀ p, pa = some p → w.heap.size < p.block from fun p e => by have h1 := hnp p e; have h2 := HBt.out.size; omega)
      have HNt := Lib.hid (show ∀ p, ta = some p → w.heap.size < p.block from fun p e => by have h1 := hnt p e; have h2 := HBt.out.size; omega)
      clear hnp hnt
      have hM := ManR.box pc tc hrp hrt 85
      have hBm := al' (Below.refl w4.heap.size w4) (.cells #[.slice pa pn pc, .slice ta tn tc] 85)
      have hS4 := hB4.trans (hBm.mono hB4.size)
      have HB5 := Lib.hid (HBt.out.trans (hS4.mono HBt.out.size))
      have HR5 := Lib.hid (HR3.out.below' hS4)
      have HM := Lib.hid hM
      clear hrp hrt hB4 hBm hM hS4
      generalize w4.alloc (.cells #[.slice pa pn pc, .slice ta tn tc] 85) = w5 at *
      obtain ⟨M, hM⟩ : ∃ M, w4.heap.size = M := ⟨_, rfl⟩
      rw [hM] at HM ⊢
      clear hM
      have m0 := HM.out.c0
      have m1 := HM.out.c1
      have CT := Lib.hid (tree_r pa pn pc ta tn tc PS TS w5 HM.out.rp HM.out.rt (by omega) (by omega) HCt.out)
      obtain ⟨tb, htb⟩ : ∃ b, treeRB PS TS = b := ⟨_, rfl⟩
      rw [htb] at CT
      have HTb := Lib.hid htb
      clear htb
      go_wp2_with fail
      refine CT.out.mono ?_
      rintro e w6 ⟨rfl, hB6⟩
      have HB6 := Lib.hid (HB5.out.trans (hB6.mono HB5.out.size))
      have HM6 := Lib.hid (HM.out.below' hB6)
      have HRr := Lib.hid (HR5.out.below' hB6)
      clear m0 m1 hB6 CT HM HR5
      obtain ⟨r0, r1, rf, rl⟩ := pair_facts HRr.out
      cases tb with
      | false =>
        have HV := Lib.hid (HVF.out HTb.out)
        go_wp2_with fail
        obtain ⟨wf, hwf, s0, s1, sl, hBf⟩ := two_end (u := .slice none 0 0) (v := .slice none 0 0) HRr.out HB6.out (Nat.le_refl _)
        rw [hwf]
        exact bodyPost_ret (by simp [results, Tryz.results57, go_sem, s0, s1, sl]) rfl (show RightPost w PS TS TE (.returned (.tuple #[.agg #[.slice none 0 0, .slice none 0 0], .int .i64 11])) wf from ⟨_, _, _, _, _, _, by rw [HV.out], hBf, fun e => absurd (HV.out.symm.trans e) (by decide)⟩)

      | true =>
        have HV := Lib.hid (HVT.out HTb.out)
        have m0 := HM6.out.c0
        have m1 := HM6.out.c1
        have HPl := Lib.hid (show pn ≤ 201 ∧ tn ≤ 201 from ⟨hpn, htn⟩)
        go_wp2_with fail
        have hsk := (two_set (u := .slice pa pn pc) (v := .slice ta tn tc) HRr.out).2.2.2
        have HRp := Lib.hid (fun wf (e : (w6.setCell ⟨w.heap.size, 0, none⟩ (.slice pa pn pc)).setCell ⟨w.heap.size, 1, none⟩ (.slice ta tn tc) = wf) => (show Rd Pa.vals 14 wf pa pn PS from by rw [← e]; exact hsk.rd HM6.out.rp (fun h0 p e2 hm => HPn.out p e2 h0 (List.mem_singleton.1 hm))))
        have HRt := Lib.hid (fun wf (e : (w6.setCell ⟨w.heap.size, 0, none⟩ (.slice pa pn pc)).setCell ⟨w.heap.size, 1, none⟩ (.slice ta tn tc) = wf) => (show Rd Pa.vals 14 wf ta tn TS from by rw [← e]; exact hsk.rd HM6.out.rt (fun h0 p e2 hm => HTn.out p e2 h0 (List.mem_singleton.1 hm))))
        obtain ⟨wf, hwf, s0, s1, sl, hBf⟩ := two_end (u := .slice pa pn pc) (v := .slice ta tn tc) HRr.out HB6.out (Nat.le_refl _)
        rw [hwf]
        exact bodyPost_ret (by simp [results, Tryz.results57, go_sem, s0, s1, sl]) rfl (show RightPost w PS TS TE (.returned (.tuple #[.agg #[.slice pa pn pc, .slice ta tn tc], .int .i64 0])) wf from ⟨_, _, _, _, _, _, by rw [HV.out], hBf, fun _ => ⟨HPl.out.1, HPl.out.2, HRp.out wf hwf, HRt.out wf hwf, HNp.out, HNt.out⟩⟩)

    · have hp1 : (pack != 0) = true := by simp [hp]
      have Hp := Lib.hid hp
      clear hp
      go_wp2_with fail
      refine (CP.out _ HB2.out).mono ?_
      rintro e w3 ⟨hS0, q, _, rfl⟩
      have HBt := Lib.hid (HB2.out.trans (hS0.mono HB2.out.size))
      have HR3 := Lib.hid (HR2.out.below' hS0)
      clear hS0 CP
      by_cases h0 : PE = 0
      case neg =>
        have h1 : (PE != 0) = true := by simp [h0]
        have HV := Lib.hid (HVB.out PE (by rw [if_neg Hp.out]) h0)
        have HN := Lib.hid h0
        have HRr := HR3
        obtain ⟨r0, r1, rf, rl⟩ := pair_facts HRr.out
        clear h0
        go_wp2_with fail
        obtain ⟨wf, hwf, s0, s1, sl, hBf⟩ := two_end (u := .slice none 0 0) (v := .slice none 0 0) HRr.out HBt.out (Nat.le_refl _)
        rw [hwf]
        exact bodyPost_ret (by simp [results, Tryz.results57, go_sem, s0, s1, sl]) rfl (show RightPost w PS TS TE (.returned (.tuple #[.agg #[.slice none 0 0, .slice none 0 0], .int .i64 PE])) wf from ⟨_, _, _, _, _, _, by rw [HV.out], hBf, fun e => absurd (HV.out.symm.trans e) HN.out⟩)

      case pos =>
        subst h0
        have HVF := Lib.hid (HVF1.out (by rw [if_neg Hp.out]))
        have HVT := Lib.hid (HVT1.out (by rw [if_neg Hp.out]))
        go_upto_region 7 with (go_at_call 69; refine (CO.out _ HBt.out).mono ?_; rintro e w4 ⟨pa, pn, pc, ta, tn, tc, rfl, hpn, htn, hrp, hrt, hB4, hnp, hnt⟩)
        have HPn := Lib.hid (show ∀ p, pa = some p → 0 < pn → p.block ≠ w.heap.size from fun p e h0 => by have h1 := hnp p e; have h2 := HBt.out.size; have h3 := HR3.out.1; omega)
        have HTn := Lib.hid (show ∀ p, ta = some p → 0 < tn → p.block ≠ w.heap.size from fun p e h0 => by have h1 := hnt p e; have h2 := HBt.out.size; have h3 := HR3.out.1; omega)
        have HNp := Lib.hid (show ∀ p, pa = some p → w.heap.size < p.block from fun p e => by have h1 := hnp p e; have h2 := HBt.out.size; omega)
        have HNt := Lib.hid (show ∀ p, ta = some p → w.heap.size < p.block from fun p e => by have h1 := hnt p e; have h2 := HBt.out.size; omega)
        clear hnp hnt
        have hM := ManR.box pc tc hrp hrt 85
        have hBm := al' (Below.refl w4.heap.size w4) (.cells #[.slice pa pn pc, .slice ta tn tc] 85)
        have hS4 := hB4.trans (hBm.mono hB4.size)
        have HB5 := Lib.hid (HBt.out.trans (hS4.mono HBt.out.size))
        have HR5 := Lib.hid (HR3.out.below' hS4)
        have HM := Lib.hid hM
        clear hrp hrt hB4 hBm hM hS4
        generalize w4.alloc (.cells #[.slice pa pn pc, .slice ta tn tc] 85) = w5 at *
        obtain ⟨M, hM⟩ : ∃ M, w4.heap.size = M := ⟨_, rfl⟩
        rw [hM] at HM ⊢
        clear hM
        have m0 := HM.out.c0
        have m1 := HM.out.c1
        have CT := Lib.hid (tree_r pa pn pc ta tn tc PS TS w5 HM.out.rp HM.out.rt (by omega) (by omega) HCt.out)
        obtain ⟨tb, htb⟩ : ∃ b, treeRB PS TS = b := ⟨_, rfl⟩
        rw [htb] at CT
        have HTb := Lib.hid htb
        clear htb
        go_wp2_with fail
        refine CT.out.mono ?_
        rintro e w6 ⟨rfl, hB6⟩
        have HB6 := Lib.hid (HB5.out.trans (hB6.mono HB5.out.size))
        have HM6 := Lib.hid (HM.out.below' hB6)
        have HRr := Lib.hid (HR5.out.below' hB6)
        clear m0 m1 hB6 CT HM HR5
        obtain ⟨r0, r1, rf, rl⟩ := pair_facts HRr.out
        cases tb with
        | false =>
          have HV := Lib.hid (HVF.out HTb.out)
          go_wp2_with fail
          obtain ⟨wf, hwf, s0, s1, sl, hBf⟩ := two_end (u := .slice none 0 0) (v := .slice none 0 0) HRr.out HB6.out (Nat.le_refl _)
          rw [hwf]
          exact bodyPost_ret (by simp [results, Tryz.results57, go_sem, s0, s1, sl]) rfl (show RightPost w PS TS TE (.returned (.tuple #[.agg #[.slice none 0 0, .slice none 0 0], .int .i64 11])) wf from ⟨_, _, _, _, _, _, by rw [HV.out], hBf, fun e => absurd (HV.out.symm.trans e) (by decide)⟩)

        | true =>
          have HV := Lib.hid (HVT.out HTb.out)
          have m0 := HM6.out.c0
          have m1 := HM6.out.c1
          have HPl := Lib.hid (show pn ≤ 201 ∧ tn ≤ 201 from ⟨hpn, htn⟩)
          go_wp2_with fail
          have hsk := (two_set (u := .slice pa pn pc) (v := .slice ta tn tc) HRr.out).2.2.2
          have HRp := Lib.hid (fun wf (e : (w6.setCell ⟨w.heap.size, 0, none⟩ (.slice pa pn pc)).setCell ⟨w.heap.size, 1, none⟩ (.slice ta tn tc) = wf) => (show Rd Pa.vals 14 wf pa pn PS from by rw [← e]; exact hsk.rd HM6.out.rp (fun h0 p e2 hm => HPn.out p e2 h0 (List.mem_singleton.1 hm))))
          have HRt := Lib.hid (fun wf (e : (w6.setCell ⟨w.heap.size, 0, none⟩ (.slice pa pn pc)).setCell ⟨w.heap.size, 1, none⟩ (.slice ta tn tc) = wf) => (show Rd Pa.vals 14 wf ta tn TS from by rw [← e]; exact hsk.rd HM6.out.rt (fun h0 p e2 hm => HTn.out p e2 h0 (List.mem_singleton.1 hm))))
          obtain ⟨wf, hwf, s0, s1, sl, hBf⟩ := two_end (u := .slice pa pn pc) (v := .slice ta tn tc) HRr.out HB6.out (Nat.le_refl _)
          rw [hwf]
          exact bodyPost_ret (by simp [results, Tryz.results57, go_sem, s0, s1, sl]) rfl (show RightPost w PS TS TE (.returned (.tuple #[.agg #[.slice pa pn pc, .slice ta tn tc], .int .i64 0])) wf from ⟨_, _, _, _, _, _, by rw [HV.out], hBf, fun _ => ⟨HPl.out.1, HPl.out.2, HRp.out wf hwf, HRt.out wf hwf, HNp.out, HNt.out⟩⟩)

end Go.Proofs.YtmghbbgnenpcaaaGreatDoor

/- The walks of the reference's named and Weigh. -/
set_option linter.unusedSimpArgs false
set_option linter.unusedVariables false
namespace Go.Proofs.YtmghbbgnenpcaaaGreatDoor
open Go.RowKit Go.Shelf

/-! plain -/
theorem linked_in {ps : List Pa} : ∀ {L : List Int} {i : Int}, Linked ps i L → ∀ q ∈ L, ∃ x ∈ ps, x.pack = q
  | [], _, _, q, hq => by simp at hq
  | p :: r, i, h, q, hq => by
    rcases List.mem_cons.1 hq with rfl | hq
    · obtain ⟨x, hx, _, e⟩ := inside_mem h.1
      exact ⟨x, hx, e⟩
    · exact linked_in h.2 q hq
theorem way_plain {ps ts : List Pa} (hmo : ManiOk ps ts) {has : Int → Bool} {t : Tr} (ht : treeT ps ts has = some t) {pack : Int} (hk : (ofI ps pack).isSome = true) :
    wayR ps 201 pack [] = some (pathP ps 300 pack []) ∧ (∀ q ∈ pathP ps 300 pack [], ∃ x ∈ ps, x.pack = q) ∧ 0 < (pathP ps 300 pack []).length := by
  obtain ⟨c, hc⟩ := tree_chain hmo.packs ht (tree_has hmo.packs ht hk)
  have hl := hc.len hmo.packs
  simp only [List.length_cons] at hl
  have hln := hmo.ln
  have hp0 : pack ≠ 0 := by
    intro e
    obtain ⟨x, hx⟩ := Option.isSome_iff_exists.1 hk
    obtain ⟨h1, h2⟩ := ofI_mem hx
    have := (hmo.pp x h1).1
    omega
  obtain ⟨h1, pre, h2⟩ := path_last hmo.packs hc hp0 (by omega)
  exact ⟨chain_way hmo.packs 201 300 pack c [] hc (by omega) (by omega), linked_in h1, by rw [h2]; simp⟩
theorem weigh_plain {xs : List Pa} {known loss pack : Int} (h : rootE xs known loss (hasP xs known loss pack) = 0) :
    Well (papersO xs known loss) (totalsO xs known loss) ∧ weighE xs known loss (hasP xs known loss pack) = (if completeR (papersO xs known loss) (totalsO xs known loss) 300 = true then 0 else 10) ∧
    ∃ WAY, wayR (papersO xs known loss) 201 pack [] = some WAY ∧ (∀ q ∈ WAY, ∃ x ∈ papersO xs known loss, x.pack = q) ∧ 0 < WAY.length ∧ (completeR (papersO xs known loss) (totalsO xs known loss) 300 = true → endsW (papersO xs known loss) (totalsO xs known loss) 300 WAY = weighP xs known loss pack) := by
  obtain ⟨h0, hh, t, ht⟩ := rootE_zero h
  have hmo := mani_ok (check_good (open_check h0)).1 known loss
  have ht' : treeT (papersL xs known loss) (totalsL xs known loss) (fun _ => true) = some t := ht
  obtain ⟨p1, p2⟩ := open_some (known := known) h0
  rw [p1, p2]
  obtain ⟨w1, w2, w3⟩ := way_plain hmo ht' hh
  have hci := complete_iff hmo ht'
  refine ⟨well_tree hmo ht', ?_, _, w1, w2, w3, fun hc => ?_⟩
  · unfold weighE
    rw [if_pos h, ht]
    simp only [Option.bind_some, hci]
  · rw [hc] at hci
    obtain ⟨s, hs⟩ := Option.isSome_iff_exists.1 hci
    rw [ends_is hmo ht' hs hh]
    unfold weighP
    rw [ht]
    simp only [Option.bind_some, hs]
end Go.Proofs.YtmghbbgnenpcaaaGreatDoor

/- The walk of the reference's Weights. -/
set_option linter.unusedSimpArgs false
set_option linter.unusedVariables false
namespace Go.Proofs.YtmghbbgnenpcaaaGreatDoor
open Go.RowKit Go.Shelf

theorem weights_plain {xs : List Pa} {known loss : Int} (h : rootE xs known loss true = 0) :
    Well (papersO xs known loss) (totalsO xs known loss) ∧ weighE xs known loss true = (if completeR (papersO xs known loss) (totalsO xs known loss) 300 = true then 0 else 10) ∧
    ∀ x ∈ papersO xs known loss, ∃ WAY, wayR (papersO xs known loss) 201 x.pack [] = some WAY ∧ (∀ q ∈ WAY, ∃ x ∈ papersO xs known loss, x.pack = q) ∧ 0 < WAY.length ∧ (completeR (papersO xs known loss) (totalsO xs known loss) 300 = true → endsW (papersO xs known loss) (totalsO xs known loss) 300 WAY = weighP xs known loss x.pack) := by
  obtain ⟨h0, hh, t, ht⟩ := rootE_zero h
  have hmo := mani_ok (check_good (open_check h0)).1 known loss
  have ht' : treeT (papersL xs known loss) (totalsL xs known loss) (fun _ => true) = some t := ht
  obtain ⟨p1, p2⟩ := open_some (known := known) h0
  refine ⟨by rw [p1, p2]; exact well_tree hmo ht', ?_, fun x hx => ?_⟩
  · have hci := complete_iff hmo ht'
    unfold weighE
    rw [if_pos h, ht, p1, p2]
    simp only [Option.bind_some, hci]
  · have hp : hasP xs known loss x.pack = true := by
      rw [p1] at hx
      unfold hasP
      rw [hmo.packs.find hx]; rfl
    exact (weigh_plain (pack := x.pack) (by rw [hp]; exact h)).2.2
theorem right0_E (xs : List Pa) (known loss : Int) : treeE (missE xs known loss 0) (papersO xs known loss) (totalsO xs known loss) = rootE xs known loss true := by
  rw [← rootM_is]
  unfold missB
  simp
theorem ends_box {W : World} {Y : Nat} {x : Pa} (h : BoxG W Y [.int .i64 x.id, .int .i64 x.known, .int .u8 x.kind, .int .i64 x.loss, .int .i64 x.pack, .int .i64 x.inn, .string ⟨x.mark.toArray⟩, .string ⟨x.goods.toArray⟩, .int .i64 x.low, .int .i64 x.high, .int .i64 x.pieces, .int .i64 x.owner, .int .i64 x.count, .int .i64 x.of]) (lo hi : Int) : BoxG ((W.setCell ⟨Y, 8, none⟩ (.int .i64 lo)).setCell ⟨Y, 8 + 1, none⟩ (.int .i64 hi)) Y [.int .i64 x.id, .int .i64 x.known, .int .u8 x.kind, .int .i64 x.loss, .int .i64 x.pack, .int .i64 x.inn, .string ⟨x.mark.toArray⟩, .string ⟨x.goods.toArray⟩, .int .i64 lo, .int .i64 hi, .int .i64 x.pieces, .int .i64 x.owner, .int .i64 x.count, .int .i64 x.of] :=
  (h.set 8 (.int .i64 lo) (by simp)).set 9 (.int .i64 hi) (by simp)
set_option maxRecDepth 100000 in
set_option maxHeartbeats 8000000 in
theorem weights_r (a : Option Addr) (n cap : Nat) (xs : List Pa) (hs : ∀ x ∈ xs, x.Short) (known loss : Int) (w : World) (h : Rd Pa.vals 14 w a n xs) (hcap : n ≤ cap) (hn : n ≤ 100000) :
    Calls Tryz.prog 20 #[.slice a n cap, .int .i64 known, .int .i64 loss] w (WeightsPost w (weightsV xs known loss) (weighE xs known loss true)) := by
  obtain ⟨i0, hi, hz0, hz1, hz2⟩ := info_parts info_pa
  have CR := Lib.hid (right_r a n cap xs hs known loss 0 w h hcap hn)
  rw [right0_E] at CR
  unfold RightPost at CR
  have HWp := Lib.hid (fun h => weights_plain (xs := xs) (known := known) (loss := loss) h)
  have HVn := Lib.hid (show ¬ weighE xs known loss true = 0 → weightsV xs known loss = [] from fun h => by unfold weightsV; rw [if_neg h])
  have HVy := Lib.hid (show rootE xs known loss true = 0 → weighE xs known loss true = 0 → weightsV xs known loss = (papersO xs known loss).map (fun x => withEnds x (weighP xs known loss x.pack)) from fun hr h => by
    unfold weightsV; rw [if_pos h, (open_some (known := known) (root_open hr).1).1]; rfl)
  have HEb := Lib.hid (weighE_bad (xs := xs) (known := known) (loss := loss) (tb := true))
  clear h
  obtain ⟨PS, hPS⟩ : ∃ P, papersO xs known loss = P := ⟨_, rfl⟩
  obtain ⟨TS, hTS⟩ : ∃ P, totalsO xs known loss = P := ⟨_, rfl⟩
  obtain ⟨E, hE⟩ : ∃ P, rootE xs known loss true = P := ⟨_, rfl⟩
  obtain ⟨WE, hWE⟩ : ∃ P, weighE xs known loss true = P := ⟨_, rfl⟩
  obtain ⟨WV, hWV⟩ : ∃ P, weightsV xs known loss = P := ⟨_, rfl⟩
  rw [hPS, hTS] at CR HWp
  rw [hPS] at HVy
  rw [hE] at CR HWp HEb HVy
  rw [hWE] at HWp HVn HVy HEb ⊢
  rw [hWV] at HVn HVy ⊢
  clear hPS hTS hE hWE hWV
  go_enter Tryz.func20, Tryz.ntmps20
  go_upto_region 2 with (go_at_call 57; refine CR.out.mono ?_; rintro e w2 ⟨pa, pn, pc, ta, tn, tc, rfl, hS, hok⟩)
  have hM := BoxG.made w2 [.slice pa pn pc, .slice ta tn tc] 85
  have hBm := al' (Below.refl w2.heap.size w2) (.cells #[.slice pa pn pc, .slice ta tn tc] 85)
  have HB3 := Lib.hid (hS.trans (hBm.mono hS.size))
  have HOk := Lib.hid (show E = 0 → pn ≤ 201 ∧ tn ≤ 201 ∧ Rd Pa.vals 14 (w2.alloc (.cells #[.slice pa pn pc, .slice ta tn tc] 85)) pa pn PS ∧ Rd Pa.vals 14 (w2.alloc (.cells #[.slice pa pn pc, .slice ta tn tc] 85)) ta tn TS from fun e => by
    obtain ⟨h1, h2, h3, h4, _, _⟩ := hok e
    exact ⟨h1, h2, h3.below' hBm, h4.below' hBm⟩)
  clear hok hS hBm CR
  generalize w2.alloc (.cells #[.slice pa pn pc, .slice ta tn tc] 85) = w3 at *
  obtain ⟨M, hMe⟩ : ∃ M, w2.heap.size = M := ⟨_, rfl⟩
  rw [hMe] at hM ⊢
  clear hMe
  obtain ⟨m0, m1, _, _⟩ := pair_facts hM
  by_cases h0 : E = 0
  case neg =>
    have h1 : (E != 0) = true := by simp [h0]
    have HX := Lib.hid (show WE = E ∧ WV = [] from by
      have h2 := HEb.out h0
      exact ⟨h2, HVn.out (by rw [h2]; exact h0)⟩)
    clear h0 hM
    go_wp2_with fail
    exact bodyPost_ret (by simp [results, Tryz.results20, go_sem]) rfl (show WeightsPost w WV WE (.returned (.tuple #[.slice none 0 0, .int .i64 E])) w3 from ⟨none, 0, 0, by rw [HX.out.1], by rw [HX.out.2]; exact Rd.empty _ _, HB3.out, fun p e => by cases e⟩)
  case pos =>
  subst h0
  obtain ⟨hpn, htn, hrp, hrt⟩ := HOk.out rfl
  obtain ⟨hwell, hwe, hends⟩ := HWp.out rfl
  have HM3 := Lib.hid (show ManR w3 M pa pn pc ta tn tc PS TS from ⟨m0, m1, hrp, hrt⟩)
  have CC := Lib.hid (complete_r pa pn pc ta tn tc PS TS hwell w3 hrp hrt)
  have CE := Lib.hid (show ∀ x ∈ PS, completeR PS TS 300 = true → ∀ W, Below w3.heap.size w3 W → Calls Tryz.prog 54 #[.agg #[.slice pa pn pc, .slice ta tn tc], .int .i64 x.pack] W (SpanPost W (weighP xs known loss x.pack)) from fun x hx hc W hW => by
    obtain ⟨WAY, h1, h2, h3, h4⟩ := hends x hx
    rw [← h4 hc]
    exact ends_r pa pn pc ta tn tc PS TS hwell x.pack WAY h1 h2 h3 W (hrp.below' hW) (hrt.below' hW))
  unfold SpanPost at CE
  obtain ⟨CB, hCB⟩ : ∃ b, completeR PS TS 300 = b := ⟨_, rfl⟩
  rw [hCB] at CC hwe CE
  have HWe := Lib.hid hwe
  have HPl := Lib.hid hrp.len
  clear hrp hrt hwell hwe hends hCB hM HOk HWp
  go_wp2_with fail
  refine CC.out.mono ?_
  rintro e w4 ⟨rfl, hS⟩
  have HB4 := Lib.hid (HB3.out.trans (hS.mono HB3.out.size))
  have HM4 := Lib.hid (HM3.out.below' hS)
  have HS4 := Lib.hid hS
  clear hS CC HB3 HM3 m0 m1
  cases CB with
  | false =>
    have HX := Lib.hid (show WE = 10 ∧ WV = [] from by
      have h2 := HWe.out
      rw [if_neg (by simp)] at h2
      exact ⟨h2, HVn.out (by rw [h2]; decide)⟩)
    go_wp2_with fail
    exact bodyPost_ret (by simp [results, Tryz.results20, go_sem]) rfl (show WeightsPost w WV WE (.returned (.tuple #[.slice none 0 0, .int .i64 10])) w4 from ⟨none, 0, 0, by rw [HX.out.1], by rw [HX.out.2]; exact Rd.empty _ _, HB4.out, fun p e => by cases e⟩)
  | true =>
    have HX := Lib.hid (show WE = 0 ∧ WV = PS.map (fun x => withEnds x (weighP xs known loss x.pack)) from by
      have h2 := HWe.out
      rw [if_pos rfl] at h2
      exact ⟨h2, HVy.out (by trivial) h2⟩)
    clear HWe HVy HVn HEb
    go_wp2_with fail
    go_loopw [11, 12] (fun v i wr => ∃ k : Nat, k ≤ pn ∧ i = .int .i64 k ∧ wr.ownsRow w4.heap.size 42 14 v ((PS.take k).map (fun x => withEnds x (weighP xs known loss x.pack))).length (((PS.take k).map (fun x => withEnds x (weighP xs known loss x.pack))).flatMap Pa.vals) ∧ Below w4.heap.size w4 wr) (fun _ i _ => pn - (intOf i).toNat)
    case atStart => exact ⟨0, Nat.zero_le _, rfl, World.ownsRow_nil _ _ _ _, Below.refl _ _⟩
    case round =>
      obtain ⟨k, hk, rfl, hrow, hB⟩ := hrel
      have HRow := Lib.hid hrow
      have HB := Lib.hid hB
      have HMr := Lib.hid (HM4.out.below' hB)
      clear hrow hB
      have m0 := HMr.out.c0
      have m1 := HMr.out.c1
      by_cases hlt : k < pn
      · have hlt' : (k : Int) < (pn : Int) := by omega
        obtain ⟨b, off, x, hpa, hb, hx, c0, c1, c2, c3, c4, c5, c6, c7, c8, c9, c10, c11, c12, c13⟩ := HMr.out.rp.pa hlt
        have HS3 := Lib.hid (HS4.out.trans (HB.out.mono HS4.out.size))
        have CX := Lib.hid (CE.out x (List.mem_of_getElem? hx) (by trivial))
        have HN := Lib.hid (show (PS.take (k + 1)).map (fun x => withEnds x (weighP xs known loss x.pack)) = (PS.take k).map (fun x => withEnds x (weighP xs known loss x.pack)) ++ [withEnds x (weighP xs known loss x.pack)] from by rw [take_succ_snoc hx, List.map_append]; rfl)
        have hfl : ((PS.take k).map (fun x => withEnds x (weighP xs known loss x.pack))).length ≤ 201 := by rw [List.length_map, List.length_take]; omega
        obtain ⟨RL, hRL⟩ : ∃ L, (PS.take k).map (fun x => withEnds x (weighP xs known loss x.pack)) = L := ⟨_, rfl⟩
        rw [hRL] at HRow HN hfl
        obtain ⟨lo, hlo⟩ : ∃ v, (weighP xs known loss x.pack).1 = v := ⟨_, rfl⟩
        obtain ⟨hi2, hhi⟩ : ∃ v, (weighP xs known loss x.pack).2 = v := ⟨_, rfl⟩
        have HXe := Lib.hid (show (withEnds x (weighP xs known loss x.pack)) = withEnds x (lo, hi2) from by rw [← hlo, ← hhi])
        rw [hlo, hhi] at CX
        rw [HXe.out] at HN
        clear hx hlo hhi hRL HXe
        subst hpa
        go_upto_region 12 with (fail)
        have hyb := BoxG.made wr [.int .i64 x.id, .int .i64 x.known, .int .u8 x.kind, .int .i64 x.loss, .int .i64 x.pack, .int .i64 x.inn, .string ⟨x.mark.toArray⟩, .string ⟨x.goods.toArray⟩, .int .i64 x.low, .int .i64 x.high, .int .i64 x.pieces, .int .i64 x.owner, .int .i64 x.count, .int .i64 x.of] 42
        have hBy := al' (Below.refl wr.heap.size wr) (.cells #[.int .i64 x.id, .int .i64 x.known, .int .u8 x.kind, .int .i64 x.loss, .int .i64 x.pack, .int .i64 x.inn, .string ⟨x.mark.toArray⟩, .string ⟨x.goods.toArray⟩, .int .i64 x.low, .int .i64 x.high, .int .i64 x.pieces, .int .i64 x.owner, .int .i64 x.count, .int .i64 x.of] 42)
        have HB8 := Lib.hid (HB.out.trans (hBy.mono HB.out.size))
        have HM8 := Lib.hid (HMr.out.below' hBy)
        have HRow8 := Lib.hid (own_later' HRow.out hBy)
        have HRy := Lib.hid (fun r e => (HRow.out.lt r e).2)
        have HY := Lib.hid hyb
        have HYw := Lib.hid (show w4.heap.size ≤ wr.heap.size from HB.out.size)
        clear hBy hyb c0 c1 c2 c3 c4 c5 c6 c7 c8 c9 c10 c11 c12 c13 m0 m1 HB HMr HRow hb HS3
        generalize wr.alloc (.cells #[.int .i64 x.id, .int .i64 x.known, .int .u8 x.kind, .int .i64 x.loss, .int .i64 x.pack, .int .i64 x.inn, .string ⟨x.mark.toArray⟩, .string ⟨x.goods.toArray⟩, .int .i64 x.low, .int .i64 x.high, .int .i64 x.pieces, .int .i64 x.owner, .int .i64 x.count, .int .i64 x.of] 42) = w8 at *
        obtain ⟨Y, hY⟩ : ∃ Y, wr.heap.size = Y := ⟨_, rfl⟩
        rw [hY] at HY HRy HYw ⊢
        clear hY
        have y4 : w8.cell? ⟨Y, 4, none⟩ = some (.int .i64 x.pack) := (BoxG.pa (x := x) HY.out).2.2.2.2.1
        have m0 := HM8.out.c0
        have m1 := HM8.out.c1
        go_upto_region 13 with (go_at_call 54; refine (CX.out _ (HS4.out.trans (HB8.out.mono HS4.out.size))).mono ?_; rintro e w9 ⟨rfl, hS⟩; have HS9 := Lib.hid hS; have HY9 := Lib.hid (HY.out.below' hS); have yf := HY9.out.2.1; have yf8 := yf 8; have yf9 := yf (8 + 1); have yl := HY9.out.1; have y8 : w9.cell? ⟨Y, 8, none⟩ = some (.int .i64 x.low) := (BoxG.pa (x := x) HY9.out).2.2.2.2.2.2.2.2.1; have y9 : w9.cell? ⟨Y, 8 + 1, none⟩ = some (.int .i64 x.high) := (BoxG.pa (x := x) HY9.out).2.2.2.2.2.2.2.2.2.1)
        clear y4 m0 m1 yf CX HY
        have HW9 := Lib.hid (ends_box HY9.out lo hi2)
        have HK9 := Lib.hid (show Keeps [Y] w9 ((w9.setCell ⟨Y, 8, none⟩ (.int .i64 lo)).setCell ⟨Y, 8 + 1, none⟩ (.int .i64 hi2)) from (Keeps.setCell w9 ⟨Y, 8, none⟩ _).then_set ⟨Y, 8 + 1, none⟩ _ (.inl (by simp)))
        have HB10 := Lib.hid (HK9.out.below_then (HB8.out.trans (HS9.out.mono HB8.out.size)) (fun z hz => by have h1 := List.mem_singleton.1 hz; have h2 := HYw.out; omega) (Nat.le_refl _))
        have HR10 := Lib.hid (HK9.out.own (own_later' HRow8.out HS9.out) (fun r e hm => by have h1 := HRy.out r e; have h2 := List.mem_singleton.1 hm; omega))
        clear HK9 HY9 HS9 HRow8 HRy HB8 HM8 yf8 yf9 yl y8 y9
        generalize (w9.setCell ⟨Y, 8, none⟩ (.int .i64 lo)).setCell ⟨Y, 8 + 1, none⟩ (.int .i64 hi2) = w10 at *
        obtain ⟨e0, e1, e2, e3, e4, e5, e6, e7, e8, e9, e10, e11, e12, e13⟩ := BoxG.pa (x := withEnds x (lo, hi2)) HW9.out
        dsimp only [withEnds] at e0 e1 e2 e3 e4 e5 e6 e7 e8 e9 e10 e11 e12 e13
        go_wp2_with (at_builtin; refine wpList_append_own _ rfl _ _ 22 rfl w4.heap.size 42 i0 _ 14 128 Tryz.underlying22 hi hz0 hz1 hz2 rfl (by decide) _ _ _ rfl (HR10.out.alloc _) ⟨w10.heap.size, 0, none⟩ 1 1 (Pa.vals (withEnds x (lo, hi2))) rfl rfl (World.news_of_block (cs := #[.int .i64 x.id, .int .i64 x.known, .int .u8 x.kind, .int .i64 x.loss, .int .i64 x.pack, .int .i64 x.inn, .string ⟨x.mark.toArray⟩, .string ⟨x.goods.toArray⟩, .int .i64 lo, .int .i64 hi2, .int .i64 x.pieces, .int .i64 x.owner, .int .i64 x.count, .int .i64 x.of]) (t := 42) (fr := (0, 0)) (heap_alloc_new w10 _)) (by simp [Pa.vals, Value.oneCell']) (by unfold maxLen; omega) (by omega) (Nat.le_trans HB10.out.size (by simp)) ?_; intro v2 w2 hown2 hgrow2 _)
        have HB11 := Lib.hid ((HB10.out.alloc HB10.out.size (.cells #[.int .i64 x.id, .int .i64 x.known, .int .u8 x.kind, .int .i64 x.loss, .int .i64 x.pack, .int .i64 x.inn, .string ⟨x.mark.toArray⟩, .string ⟨x.goods.toArray⟩, .int .i64 lo, .int .i64 hi2, .int .i64 x.pieces, .int .i64 x.owner, .int .i64 x.count, .int .i64 x.of] 42)).grown hgrow2 (Nat.le_trans HB10.out.size (by simp)) (fun k e => (HR10.out.lt k e).1))
        have HO2 := Lib.hid (own_pa_next hown2)
        clear hgrow2 hown2 e0 e1 e2 e3 e4 e5 e6 e7 e8 e9 e10 e11 e12 e13
        go_wp2_with fail
        exact ⟨⟨k + 1, by omega, by go_num, by rw [HN.out, List.length_append]; exact HO2.out, HB11.out⟩, by simp [intOf]; omega⟩
      · have hltg : ¬ (k : Int) < (pn : Int) := by omega
        have HT := Lib.hid (show PS.take k = PS from List.take_of_length_le (by rw [HPl.out]; omega))
        rw [HT.out, ← HX.out.2] at HRow
        have hwl : WV.length ≤ 1000 := by rw [HX.out.2, List.length_map, HPl.out]; omega
        obtain ⟨oa, oc, rfl, hro, hob⟩ := own_open HRow.out rfl (by unfold maxLen; omega)
        have HRo := Lib.hid hro
        have HOb := Lib.hid hob
        have HBf := Lib.hid (HB4.out.trans (HB.out.mono HB4.out.size))
        clear hro hob hlt HRow hwl
        go_wp2_with fail
        exact bodyPost_ret (by simp [results, Tryz.results20, go_sem]) rfl (show WeightsPost w WV WE (.returned (.tuple #[.slice oa WV.length oc, .int .i64 0])) wr from ⟨oa, _, oc, by rw [HX.out.1], HRo.out, HBf.out, fun p e => ⟨Nat.le_trans HB4.out.size (HOb.out p e).1, (HOb.out p e).2.1, (HOb.out p e).2.2⟩⟩)
end Go.Proofs.YtmghbbgnenpcaaaGreatDoor
