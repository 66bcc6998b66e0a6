/- The walk of the package's CheckLineage. -/
import Derived.Test.YtleiapljnjaloaaGreatDoorCCheckD
set_option linter.unusedSimpArgs false
set_option linter.unusedVariables false
namespace Go.Proofs.YtleiapljnjaloaaGreatDoor
open Go.RowKit Go.Shelf
def endB (o : Option Int) (upper : Bool) (endv : Int) : Bool := match o with
 | none => false
 | some v => if upper then decide (v ≤ endv) else decide (v ≥ endv)
def ckLineV (xs : List Pa) (known loss pack : Int) (upper : Bool) (endv : Int) (ids : List Int) : Bool := decide (rootE xs known loss (hasP xs known loss pack) = 0) && (namedB ids (idsM (papersL xs known loss) (totalsL xs known loss) xs) && endB (endM (papersL xs known loss) (totalsL xs known loss) ids pack upper) upper endv)
set_option maxRecDepth 100000 in
set_option maxHeartbeats 8000000 in
theorem checkLineage_any (a : Option Addr) (n cap : Nat) (xs : List Pa) (hsh : ∀ x ∈ xs, x.Short) (known loss pack : Int) (upper : Bool) (endv : Int) (ia : Option Addr) (inn ic : Nat) (ids : List Int) (w : World) (h : Rd Pa.vals 14 w a n xs) (hcap : n ≤ cap)
 (hi : Rd ints 1 w ia inn ids) :
 Calls Tryz.prog 26 #[.slice a n cap, .int .i64 known, .int .i64 loss, .int .i64 pack, .bool upper, .int .i64 endv, .slice ia inn ic] w (CkPost w (ckLineV xs known loss pack upper endv ids) (rootE xs known loss (hasP xs known loss pack))) := by
 have CH := Hd (has_any pack w)
 have hB0 := al' (Below.refl w.heap.size w) (.cells #[.int .i64 pack] 3)
 have hcp : (w.alloc (.cells #[.int .i64 pack] 3)).cell? ⟨w.heap.size, 0, none⟩ = some (.int .i64 pack) := by
  rw [cell_of_row _ _ _ _ _ (0, 0) (heap_alloc_new w _)]; rfl
 have CW := Hd (rooted_any a n cap xs hsh known loss 96 #[.pointer (some ⟨w.heap.size, 0, none⟩)] (fun _ _ => rfl) (hasP xs known loss pack) _ (h.below' hB0) hcap (there_has hcp))
 have HB0 := Hd hB0
 have HR := Hd h
 have HI := Hd hi
 clear h hi hB0 hcp
 go_enter Tryz.func26, Tryz.ntmps26
 go_upto_region 2 with (first
  | (go_at_call 49; refine CH.out.mono ?_; rintro e w2 ⟨rfl, rfl⟩)
  | (go_at_call 65; refine CW.out.mono ?_; rintro e w3 ⟨pa, pn, pc, ta, tn, tc, tp, rfl, hrp, hrt, hB2, htree⟩))
 have hBa := al' (Below.refl w3.heap.size w3) (.cells #[.slice pa pn pc, .slice ta tn tc] 74)
 have hB02 := HB0.out.trans (hB2.mono HB0.out.size)
 have hBw : Below w.heap.size w (w3.alloc (.cells #[.slice pa pn pc, .slice ta tn tc] 74)) := hB02.trans (hBa.mono hB02.size)
 have HBw := Hd hBw
 have HR4 := Hd (HR.out.below' hBw)
 have HI4 := Hd (HI.out.below' hBw)
 by_cases h0 : rootE xs known loss (hasP xs known loss pack) = 0
 case neg =>
  generalize w3.alloc (.cells #[.slice pa pn pc, .slice ta tn tc] 74) = w4 at *
  have HV := Hd (show ckLineV xs known loss pack upper endv ids = false from by unfold ckLineV; rw [decide_eq_false h0, Bool.false_and])
  obtain ⟨oe, hoe⟩ : ∃ c, rootE xs known loss (hasP xs known loss pack) = c := ⟨_, rfl⟩
  have HE := Hd hoe
  rw [hoe] at h0 ⊢
  have h1 : (oe != 0) = true := by simp [h0]
  clear h0 hoe hrp hrt htree hBw hBa hB2 hB02
  go_wp2_with fail
  exact bodyPost_ret (by simp [results, Tryz.results26, go_sem]) rfl (show CkPost w (ckLineV xs known loss pack upper endv ids) (rootE xs known loss (hasP xs known loss pack)) (.returned (.tuple #[.bool false, .int .i64 oe])) w4 from ⟨by rw [HV.out, HE.out], HBw.out⟩)
 obtain ⟨ho, hh⟩ := root_open h0
 obtain ⟨p1, p2⟩ := open_some (known := known) ho
 rw [p1] at hrp
 rw [p2] at hrt
 have hgd := check_good (open_check ho)
 have hmo := mani_ok hgd.1 known loss
 have hT := root_some h0
 have HV := Hd (show ckLineV xs known loss pack upper endv ids = (namedB ids (idsM (papersL xs known loss) (totalsL xs known loss) xs) && endB (endM (papersL xs known loss) (totalsL xs known loss) ids pack upper) upper endv) from by unfold ckLineV; rw [decide_eq_true h0, Bool.true_and])
 unfold rootT at hT
 unfold hasP at hh
 have HE := Hd h0
 rw [h0]
 obtain ⟨PS, hPS⟩ : ∃ P, papersL xs known loss = P := ⟨_, rfl⟩
 obtain ⟨TS, hTS⟩ : ∃ P, totalsL xs known loss = P := ⟨_, rfl⟩
 rw [hPS] at hrp hmo hT HV hh
 rw [hTS] at hrt hmo hT HV
 obtain ⟨e1, e2, hma⟩ := MaAt.made hrp hrt (by have := hmo.ln; omega) (by have := hmo.lt; omega)
 have hnl : n ≤ 1000 := by rw [← HR4.out.len]; have := hgd.2; omega
 have hpl : pn ≤ 1000 := by rw [e1]; have := hmo.ln; omega
 have htl : tn ≤ 1000 := by rw [e2]; have := hmo.lt; omega
 have HIl := Hd (show (idsM PS TS xs).length ≤ 1000 from by rw [idsA_eq]; exact Nat.le_trans (idsA_len _ _) (by have := hgd.2; omega))
 have CE := Hd (show ∀ W, MaAt W w3.heap.size pa pn pc ta tn tc PS TS → Rd ints 1 W ia inn ids → Calls Tryz.prog 51 #[.agg #[.slice pa pn pc, .slice ta tn tc], .slice ia inn ic, .int .i64 pack, .bool upper] W (fun e w' => e = .returned (.tuple #[.int .i64 ((endM PS TS ids pack upper).getD 0), .bool (endM PS TS ids pack upper).isSome]) ∧ Below W.heap.size W w') from fun W hm hi => end_any PS TS hmo hT pack hh ids upper pa pn pc ta tn tc ia inn ic W hm.rp hm.rt hi hm.lp hm.lt)
 obtain ⟨oo, hoo⟩ : ∃ o, endM PS TS ids pack upper = o := ⟨_, rfl⟩
 rw [hoo] at CE HV
 have CI := Hd (show ∀ W, MaAt W w3.heap.size pa pn pc ta tn tc PS TS → Rd Pa.vals 14 W a n xs → Calls Tryz.prog 50 #[.agg #[.slice pa pn pc, .slice ta tn tc], .slice a n cap] W fun e w' => ∃ v, e = .returned v ∧ w'.ownsRow W.heap.size 3 1 v (idsM PS TS xs).length ((idsM PS TS xs).flatMap ints) ∧ Below W.heap.size W w' from fun W hm hr =>
  ids_any pa pn pc ta tn tc PS TS a n cap xs W hm.rp hm.rt hr hpl htl hnl)
 obtain ⟨IDS, hIDS⟩ : ∃ I, idsM PS TS xs = I := ⟨_, rfl⟩
 rw [hIDS] at CI HIl HV
 obtain ⟨nb, hnb⟩ : ∃ b, namedB ids IDS = b := ⟨_, rfl⟩
 have CN := Hd (show ∀ W ja jc, Rd ints 1 W ja IDS.length IDS → Rd ints 1 W ia inn ids → Calls Tryz.prog 69 #[.slice ia inn ic, .slice ja IDS.length jc] W fun e w' => e = .returned (.bool nb) ∧ w' = W from fun W ja jc h1 h2 => by rw [← hnb]; exact named_any ia inn ic ids ja IDS.length jc IDS W h2 h1)
 rw [hnb] at HV
 clear hrp hrt e1 e2 p1 p2 hPS hTS ho hh h0 htree hBw hBa hB2 hB02 hnb hIDS hoo hT hmo hgd hnl hpl htl
 generalize w3.alloc (.cells #[.slice pa pn pc, .slice ta tn tc] 74) = w4 at *
 obtain ⟨M, hM⟩ : ∃ M, w3.heap.size = M := ⟨_, rfl⟩
 rw [hM] at hma CI CE ⊢
 clear hM
 have HMa := Hd hma
 have m0 := hma.c0
 have m1 := hma.c1
 have CI2 := Hd (CI.out w4 hma HR4.out)
 clear hma CI
 cases nb with
 | false =>
   go_wp2_with (first
    | (go_at_call 50; refine CI2.out.mono ?_; rintro e w6 ⟨v6, rfl, hrow6, hB6⟩; obtain ⟨ja, jc, rfl, hjc, hrI, hbI⟩ := Rd.of_own hrow6 ints_length (by decide) rfl (by have := HIl.out; unfold maxLen; omega))
    | (go_at_call 69; refine (CN.out w6 ja jc hrI (HI4.out.below' hB6)).mono ?_; rintro e w7 ⟨rfl, hw7⟩; obtain rfl := hw7.symm; clear hw7))
   exact bodyPost_ret (by simp [results, Tryz.results26, go_sem]) rfl (show CkPost w (ckLineV xs known loss pack upper endv ids) (rootE xs known loss (hasP xs known loss pack)) (.returned (.tuple #[.bool false, .int .i64 0])) w6 from ⟨by rw [HV.out, HE.out]; rfl, HBw.out.trans (hB6.mono HBw.out.size)⟩)
 | true =>
   cases oo with
   | none =>
     simp only [Option.getD_none, Option.isSome_none] at CE
     go_wp2_with (first
      | (go_at_call 50; refine CI2.out.mono ?_; rintro e w6 ⟨v6, rfl, hrow6, hB6⟩; obtain ⟨ja, jc, rfl, hjc, hrI, hbI⟩ := Rd.of_own hrow6 ints_length (by decide) rfl (by have := HIl.out; unfold maxLen; omega); have HMa6 := Hd (HMa.out.below' hB6); have m06 := HMa6.out.c0; have m16 := HMa6.out.c1)
      | (go_at_call 69; refine (CN.out w6 ja jc hrI (HI4.out.below' hB6)).mono ?_; rintro e w7 ⟨rfl, hw7⟩; obtain rfl := hw7.symm; clear hw7)
      | (go_at_call 51; refine (CE.out w6 HMa6.out (HI4.out.below' hB6)).mono ?_; rintro e w8 ⟨rfl, hB8⟩))
     have hBx := HBw.out.trans (hB6.mono HBw.out.size)
     exact bodyPost_ret (by simp [results, Tryz.results26, go_sem]) rfl (show CkPost w (ckLineV xs known loss pack upper endv ids) (rootE xs known loss (hasP xs known loss pack)) (.returned (.tuple #[.bool false, .int .i64 0])) w8 from ⟨by rw [HV.out, HE.out]; rfl, hBx.trans (hB8.mono hBx.size)⟩)
   | some v =>
     simp only [Option.getD_some, Option.isSome_some] at CE
     cases upper with
     | true =>
       have HQ := Hd (show endB (some v) true endv = decide (v ≤ endv) from rfl)
       by_cases hq : v ≤ endv
       · have HQ2 := Hd (HQ.out.trans (decide_eq_true hq))
         go_wp2_with (first
          | (go_at_call 50; refine CI2.out.mono ?_; rintro e w6 ⟨v6, rfl, hrow6, hB6⟩; obtain ⟨ja, jc, rfl, hjc, hrI, hbI⟩ := Rd.of_own hrow6 ints_length (by decide) rfl (by have := HIl.out; unfold maxLen; omega); have HMa6 := Hd (HMa.out.below' hB6); have m06 := HMa6.out.c0; have m16 := HMa6.out.c1)
          | (go_at_call 69; refine (CN.out w6 ja jc hrI (HI4.out.below' hB6)).mono ?_; rintro e w7 ⟨rfl, hw7⟩; obtain rfl := hw7.symm; clear hw7)
          | (go_at_call 51; refine (CE.out w6 HMa6.out (HI4.out.below' hB6)).mono ?_; rintro e w8 ⟨rfl, hB8⟩))
         have hBx := HBw.out.trans (hB6.mono HBw.out.size)
         exact bodyPost_ret (by simp [results, Tryz.results26, go_sem]) rfl (show CkPost w (ckLineV xs known loss pack true endv ids) (rootE xs known loss (hasP xs known loss pack)) (.returned (.tuple #[.bool true, .int .i64 0])) w8 from ⟨by rw [HV.out, HE.out, HQ2.out]; rfl, hBx.trans (hB8.mono hBx.size)⟩)
       · have HQ2 := Hd (HQ.out.trans (decide_eq_false hq))
         have HQ3 := Hd (Int.not_le.1 hq)
         go_wp2_with (first
          | (go_at_call 50; refine CI2.out.mono ?_; rintro e w6 ⟨v6, rfl, hrow6, hB6⟩; obtain ⟨ja, jc, rfl, hjc, hrI, hbI⟩ := Rd.of_own hrow6 ints_length (by decide) rfl (by have := HIl.out; unfold maxLen; omega); have HMa6 := Hd (HMa.out.below' hB6); have m06 := HMa6.out.c0; have m16 := HMa6.out.c1)
          | (go_at_call 69; refine (CN.out w6 ja jc hrI (HI4.out.below' hB6)).mono ?_; rintro e w7 ⟨rfl, hw7⟩; obtain rfl := hw7.symm; clear hw7)
          | (go_at_call 51; refine (CE.out w6 HMa6.out (HI4.out.below' hB6)).mono ?_; rintro e w8 ⟨rfl, hB8⟩))
         have hBx := HBw.out.trans (hB6.mono HBw.out.size)
         exact bodyPost_ret (by simp [results, Tryz.results26, go_sem] <;> exact HQ3.out) rfl (show CkPost w (ckLineV xs known loss pack true endv ids) (rootE xs known loss (hasP xs known loss pack)) (.returned (.tuple #[.bool false, .int .i64 0])) w8 from ⟨by rw [HV.out, HE.out, HQ2.out]; rfl, hBx.trans (hB8.mono hBx.size)⟩)
     | false =>
       have HQ := Hd (show endB (some v) false endv = decide (v ≥ endv) from rfl)
       by_cases hq : v ≥ endv
       · have HQ2 := Hd (HQ.out.trans (decide_eq_true hq))
         go_wp2_with (first
          | (go_at_call 50; refine CI2.out.mono ?_; rintro e w6 ⟨v6, rfl, hrow6, hB6⟩; obtain ⟨ja, jc, rfl, hjc, hrI, hbI⟩ := Rd.of_own hrow6 ints_length (by decide) rfl (by have := HIl.out; unfold maxLen; omega); have HMa6 := Hd (HMa.out.below' hB6); have m06 := HMa6.out.c0; have m16 := HMa6.out.c1)
          | (go_at_call 69; refine (CN.out w6 ja jc hrI (HI4.out.below' hB6)).mono ?_; rintro e w7 ⟨rfl, hw7⟩; obtain rfl := hw7.symm; clear hw7)
          | (go_at_call 51; refine (CE.out w6 HMa6.out (HI4.out.below' hB6)).mono ?_; rintro e w8 ⟨rfl, hB8⟩))
         have hBx := HBw.out.trans (hB6.mono HBw.out.size)
         exact bodyPost_ret (by simp [results, Tryz.results26, go_sem]) rfl (show CkPost w (ckLineV xs known loss pack false endv ids) (rootE xs known loss (hasP xs known loss pack)) (.returned (.tuple #[.bool true, .int .i64 0])) w8 from ⟨by rw [HV.out, HE.out, HQ2.out]; rfl, hBx.trans (hB8.mono hBx.size)⟩)
       · have HQ2 := Hd (HQ.out.trans (decide_eq_false hq))
         have HQ3 := Hd (Int.not_le.1 hq)
         go_wp2_with (first
          | (go_at_call 50; refine CI2.out.mono ?_; rintro e w6 ⟨v6, rfl, hrow6, hB6⟩; obtain ⟨ja, jc, rfl, hjc, hrI, hbI⟩ := Rd.of_own hrow6 ints_length (by decide) rfl (by have := HIl.out; unfold maxLen; omega); have HMa6 := Hd (HMa.out.below' hB6); have m06 := HMa6.out.c0; have m16 := HMa6.out.c1)
          | (go_at_call 69; refine (CN.out w6 ja jc hrI (HI4.out.below' hB6)).mono ?_; rintro e w7 ⟨rfl, hw7⟩; obtain rfl := hw7.symm; clear hw7)
          | (go_at_call 51; refine (CE.out w6 HMa6.out (HI4.out.below' hB6)).mono ?_; rintro e w8 ⟨rfl, hB8⟩))
         have hBx := HBw.out.trans (hB6.mono HBw.out.size)
         exact bodyPost_ret (by simp [results, Tryz.results26, go_sem] <;> exact HQ3.out) rfl (show CkPost w (ckLineV xs known loss pack false endv ids) (rootE xs known loss (hasP xs known loss pack)) (.returned (.tuple #[.bool false, .int .i64 0])) w8 from ⟨by rw [HV.out, HE.out, HQ2.out]; rfl, hBx.trans (hB8.mono hBx.size)⟩)
end Go.Proofs.YtleiapljnjaloaaGreatDoor
