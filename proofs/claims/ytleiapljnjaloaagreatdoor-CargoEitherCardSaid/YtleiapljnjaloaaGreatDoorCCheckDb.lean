/- The walk of the package's CheckDoubt. -/
import Derived.Test.YtleiapljnjaloaaGreatDoorCCheckD
set_option linter.unusedSimpArgs false
set_option linter.unusedVariables false
namespace Go.Proofs.YtleiapljnjaloaaGreatDoor
open Go.RowKit Go.Shelf
set_option maxRecDepth 100000 in
set_option maxHeartbeats 8000000 in
theorem checkDoubt_any (a : Option Addr) (n cap : Nat) (xs : List Pa) (hsh : ∀ x ∈ xs, x.Short) (known loss : Int) (ia : Option Addr) (inn ic : Nat) (ids : List Int) (w : World) (h : Rd Pa.vals 14 w a n xs) (hcap : n ≤ cap)
 (hi : Rd ints 1 w ia inn ids) :
 Calls Tryz.prog 24 #[.slice a n cap, .int .i64 known, .int .i64 loss, .slice ia inn ic] w (CkPost w (ckDoubtV xs known loss ids) (rootE xs known loss true)) := by
 have CW := Hd (rooted_any a n cap xs hsh known loss 47 #[] (fun _ _ => rfl) true w h hcap there_always)
 have HR := Hd h
 have HI := Hd hi
 clear h hi
 go_enter Tryz.func24, Tryz.ntmps24
 go_upto_region 2 with (go_at_call 65; refine CW.out.mono ?_; rintro e w3 ⟨pa, pn, pc, ta, tn, tc, tp, rfl, hrp, hrt, hB2, htree⟩)
 have hBa := al' (Below.refl w3.heap.size w3) (.cells #[.slice pa pn pc, .slice ta tn tc] 74)
 have hBw : Below w.heap.size w (w3.alloc (.cells #[.slice pa pn pc, .slice ta tn tc] 74)) := hB2.trans (hBa.mono hB2.size)
 have HBw := Hd hBw
 have HR4 := Hd (HR.out.below' hBw)
 have HI4 := Hd (HI.out.below' hBw)
 by_cases h0 : rootE xs known loss true = 0
 case neg =>
  generalize w3.alloc (.cells #[.slice pa pn pc, .slice ta tn tc] 74) = w4 at *
  have HV := Hd (show ckDoubtV xs known loss ids = false from by unfold ckDoubtV; rw [decide_eq_false h0, Bool.false_and])
  obtain ⟨oe, hoe⟩ : ∃ c, rootE xs known loss true = c := ⟨_, rfl⟩
  have HE := Hd hoe
  rw [hoe] at h0 ⊢
  have h1 : (oe != 0) = true := by simp [h0]
  clear h0 hoe hrp hrt htree hBw hBa hB2
  go_wp2_with fail
  exact bodyPost_ret (by simp [results, Tryz.results24, go_sem]) rfl (show CkPost w (ckDoubtV xs known loss ids) (rootE xs known loss true) (.returned (.tuple #[.bool false, .int .i64 oe])) w4 from ⟨by rw [HV.out, HE.out], HBw.out⟩)
 obtain ⟨ho, hh⟩ := root_open h0
 obtain ⟨p1, p2⟩ := open_some (known := known) ho
 rw [p1] at hrp
 rw [p2] at hrt
 have hgd := check_good (open_check ho)
 have hmo := mani_ok hgd.1 known loss
 have hT := root_some h0
 have HV := Hd (show ckDoubtV xs known loss ids = (namedB ids (idsM (papersL xs known loss) (totalsL xs known loss) xs) && doubtB (papersL xs known loss) (totalsL xs known loss) ids) from by unfold ckDoubtV; rw [decide_eq_true h0, Bool.true_and])
 unfold rootT at hT
 have HE := Hd h0
 rw [h0]
 obtain ⟨PS, hPS⟩ : ∃ P, papersL xs known loss = P := ⟨_, rfl⟩
 obtain ⟨TS, hTS⟩ : ∃ P, totalsL xs known loss = P := ⟨_, rfl⟩
 rw [hPS] at hrp hmo hT HV
 rw [hTS] at hrt hmo hT HV
 obtain ⟨e1, e2, hma⟩ := MaAt.made hrp hrt (by have := hmo.ln; omega) (by have := hmo.lt; omega)
 have hnl : n ≤ 1000 := by rw [← HR4.out.len]; have := hgd.2; omega
 have hpl : pn ≤ 1000 := by rw [e1]; have := hmo.ln; omega
 have htl : tn ≤ 1000 := by rw [e2]; have := hmo.lt; omega
 have HIl := Hd (show (idsM PS TS xs).length ≤ 1000 from by rw [idsA_eq]; exact Nat.le_trans (idsA_len _ _) (by have := hgd.2; omega))
 have hT2 := tree_same (fun _ => true) (fun i => ids.contains i) hT
 obtain ⟨t0, ht0⟩ := Option.isSome_iff_exists.1 hT2
 have hbd0 := tree_bd hmo _ ht0
 have CT := Hd (show ∀ W, MaAt W w3.heap.size pa pn pc ta tn tc PS TS → Rd ints 1 W ia inn ids → Calls Tryz.prog 68 #[.agg #[.slice pa pn pc, .slice ta tn tc], .slice ia inn ic, .bool false] W (fun e w' => ∃ t : Tr, t.sh = t0 ∧ e = .returned (.pointer (some ⟨t.b, 0, none⟩)) ∧ Below W.heap.size W w' ∧ TreeAt t.bs w' t ∧ t.bs.Nodup ∧ Bd t ∧ ∀ x ∈ t.bs, W.heap.size ≤ x) from fun W hm hi => by
  have CT := tree_any PS TS ⟨hmo.packs, fun x hx => by have := (hmo.tt x hx).1; omega, by have := hmo.ln; omega⟩ ids false pa pn pc ta tn tc ia inn ic W hm.rp hm.rt hi hm.lp hm.lt
  rw [hasB_some] at CT
  refine CT.mono ?_
  rintro e w' ⟨h1, ⟨h2, h3⟩ | ⟨t, h2, h3, h4, h5, h6⟩⟩
  · rw [ht0] at h2; cases h2
  · rw [ht0] at h2
    have h2 := (Option.some.inj h2).symm
    exact ⟨t, h2, h3, h1, h4 [] (by simp), h5, Bd_sh t (by rw [h2]; exact hbd0), h6⟩)
 have CS := Hd (show ∀ (t : Tr) W, t.sh = t0 → TreeAt t.bs W t → t.bs.Nodup → Bd t → Calls Tryz.prog 66 #[.pointer (some ⟨t.b, 0, none⟩)] W (fun e w' => e = .returned (.bool (solveT t0).isSome) ∧ Keeps t.bs W w') from fun t W h1 h2 h3 h4 => (solved_all t.bs t W h2 h4 h3).mono (by
  rintro e w' ⟨g1, g2, g3⟩
  refine ⟨?_, g2⟩
  rw [g1, ← h1, solveT_sh]
  cases solveT t <;> rfl))
 have HD : doubtB PS TS ids = !(solveT t0).isSome := by unfold doubtB; rw [ht0]; simp only [Option.bind_some]; cases solveT t0 <;> rfl
 rw [HD] at HV
 obtain ⟨sb, hsb⟩ : ∃ b, (solveT t0).isSome = b := ⟨_, rfl⟩
 rw [hsb] at CS HV
 have CI := Hd (show ∀ W, MaAt W w3.heap.size pa pn pc ta tn tc PS TS → Rd Pa.vals 14 W a n xs → Calls Tryz.prog 50 #[.agg #[.slice pa pn pc, .slice ta tn tc], .slice a n cap] W fun e w' => ∃ v, e = .returned v ∧ w'.ownsRow W.heap.size 3 1 v (idsM PS TS xs).length ((idsM PS TS xs).flatMap ints) ∧ Below W.heap.size W w' from fun W hm hr =>
  ids_any pa pn pc ta tn tc PS TS a n cap xs W hm.rp hm.rt hr hpl htl hnl)
 obtain ⟨IDS, hIDS⟩ : ∃ I, idsM PS TS xs = I := ⟨_, rfl⟩
 rw [hIDS] at CI HIl HV
 obtain ⟨nb, hnb⟩ : ∃ b, namedB ids IDS = b := ⟨_, rfl⟩
 have CN := Hd (show ∀ W ja jc, Rd ints 1 W ja IDS.length IDS → Rd ints 1 W ia inn ids → Calls Tryz.prog 69 #[.slice ia inn ic, .slice ja IDS.length jc] W fun e w' => e = .returned (.bool nb) ∧ w' = W from fun W ja jc h1 h2 => by rw [← hnb]; exact named_any ia inn ic ids ja IDS.length jc IDS W h2 h1)
 rw [hnb] at HV
 clear hrp hrt e1 e2 p1 p2 hPS hTS ho hh h0 htree hBw hBa hB2 hsb hnb hIDS HD hT hT2 ht0 hbd0 hmo hgd hnl hpl htl
 generalize w3.alloc (.cells #[.slice pa pn pc, .slice ta tn tc] 74) = w4 at *
 obtain ⟨M, hM⟩ : ∃ M, w3.heap.size = M := ⟨_, rfl⟩
 rw [hM] at hma CI CT ⊢
 clear hM
 have HMa := Hd hma
 have m0 := hma.c0
 have m1 := hma.c1
 have CI2 := Hd (CI.out w4 hma HR4.out)
 clear hma CI
 cases nb with
 | false =>
   go_wp2_with (first
    | (go_at_call 50; refine CI2.out.mono ?_; rintro e w6 ⟨v6, rfl, hrow6, hB6⟩; obtain ⟨ja, jc, rfl, hjc, hrI, hbI⟩ := Rd.of_own hrow6 ints_length (by decide) rfl (by have := HIl.out; unfold maxLen; omega))
    | (go_at_call 69; refine (CN.out w6 ja jc hrI (HI4.out.below' hB6)).mono ?_; rintro e w7 ⟨rfl, hw7⟩; obtain rfl := hw7.symm; clear hw7))
   exact bodyPost_ret (by simp [results, Tryz.results24, go_sem]) rfl (show CkPost w (ckDoubtV xs known loss ids) (rootE xs known loss true) (.returned (.tuple #[.bool false, .int .i64 0])) w6 from ⟨by rw [HV.out, HE.out]; rfl, HBw.out.trans (hB6.mono HBw.out.size)⟩)
 | true =>
   go_wp2_with (first
    | (go_at_call 50; refine CI2.out.mono ?_; rintro e w6 ⟨v6, rfl, hrow6, hB6⟩; obtain ⟨ja, jc, rfl, hjc, hrI, hbI⟩ := Rd.of_own hrow6 ints_length (by decide) rfl (by have := HIl.out; unfold maxLen; omega); have HMa6 := Hd (HMa.out.below' hB6); have m06 := HMa6.out.c0; have m16 := HMa6.out.c1)
    | (go_at_call 69; refine (CN.out w6 ja jc hrI (HI4.out.below' hB6)).mono ?_; rintro e w7 ⟨rfl, hw7⟩; obtain rfl := hw7.symm; clear hw7)
    | (go_at_call 68; refine (CT.out w6 HMa6.out (HI4.out.below' hB6)).mono ?_; rintro e w8 ⟨t, hsh, rfl, hB8, hta, htn, htb, htf⟩)
    | (go_at_call 66; refine (CS.out t w8 hsh hta htn htb).mono ?_; rintro e w9 ⟨rfl, hk9⟩))
   have hBx := HBw.out.trans (hB6.mono HBw.out.size)
   exact bodyPost_ret (by simp [results, Tryz.results24, go_sem]) rfl (show CkPost w (ckDoubtV xs known loss ids) (rootE xs known loss true) (.returned (.tuple #[.bool (!sb), .int .i64 0])) w9 from ⟨by rw [HV.out, HE.out]; rfl, hk9.below_then (hBx.trans (hB8.mono hBx.size)) (fun x hx => Nat.le_trans hBx.size (htf x hx)) (Nat.le_refl _)⟩)
end Go.Proofs.YtleiapljnjaloaaGreatDoor
