/- The walk of the reference's Doubt. -/
import Derived.Test.YtleiapljnjaloaaGreatDoorCRLift
import Derived.Test.YtleiapljnjaloaaGreatDoorCRRight
set_option linter.unusedSimpArgs false
set_option linter.unusedVariables false
namespace Go.Proofs.YtleiapljnjaloaaGreatDoor
open Go.RowKit Go.Shelf
theorem lift_well {xs : List Pa} {known loss : Int} (h : rootE xs known loss true = 0) (ids : List Int) : Well (liftPs (papersO xs known loss) ids) (liftTs (totalsO xs known loss) ids) := by
 obtain ⟨h0, hh, t, ht⟩ := rootE_zero h
 obtain ⟨p1, p2⟩ := open_some (known := known) h0
 have hmo := mani_ok (check_good (open_check h0)).1 known loss
 have ht' : treeT (papersL xs known loss) (totalsL xs known loss) (fun _ => true) = some t := ht
 have hT : (treeT (papersL xs known loss) (totalsL xs known loss) (fun _ => true)).isSome = true := by rw [ht']; rfl
 obtain ⟨u, hu⟩ := Option.isSome_iff_exists.1 (tree_same (fun _ => true) (fun i => ids.contains i) hT)
 rw [p1, p2]
 exact well_tree (lift_mani hmo (fun i => ids.contains i)) ((tree_lift _ _ _).trans hu)
theorem doubt_ref {xs : List Pa} {known loss : Int} (h : rootE xs known loss true = 0) :
 Well (papersO xs known loss) (totalsO xs known loss) ∧ doubtIs xs known loss = !completeR (papersO xs known loss) (totalsO xs known loss) 300 ∧
 (completeR (papersO xs known loss) (totalsO xs known loss) 300 = true → doubtV xs known loss = []) ∧
 (completeR (papersO xs known loss) (totalsO xs known loss) 300 = false → doubtV xs known loss = ascR (refL (fun less => !completeR (liftPs (papersO xs known loss) less) (liftTs (totalsO xs known loss) less) 300) (idsA (papersO xs known loss ++ totalsO xs known loss) xs).length (idsA (papersO xs known loss ++ totalsO xs known loss) xs))) := by
 obtain ⟨h0, hh, t, ht⟩ := rootE_zero h
 obtain ⟨p1, p2⟩ := open_some (known := known) h0
 have hmo := mani_ok (check_good (open_check h0)).1 known loss
 have ht' : treeT (papersL xs known loss) (totalsL xs known loss) (fun _ => true) = some t := ht
 have hci := complete_iff hmo ht'
 have hd : doubtIs xs known loss = !completeR (papersL xs known loss) (totalsL xs known loss) 300 := by
  unfold doubtIs
  rw [decide_eq_true h, ht, Bool.true_and, ← hci]
  simp only [Option.bind_some]
  cases solveT t <;> rfl
 rw [p1, p2]
 refine ⟨well_tree hmo ht', hd, fun e => ?_, fun e => ?_⟩
 · unfold doubtV; rw [hd, e]; rfl
 · unfold doubtV; rw [hd, e, doubt_is h]; rfl
def DbPost (w : World) (L : List Int) (D : Bool) (E : Int) (e : Ending) (w' : World) : Prop :=
 ∃ v, e = .returned (.tuple #[v, .bool D, .int .i64 E]) ∧ w'.ownsRow w.heap.size 3 1 v L.length (L.flatMap ints) ∧ Below w.heap.size w w'
set_option maxRecDepth 100000 in
set_option maxHeartbeats 8000000 in
theorem doubt_r (a : Option Addr) (n cap : Nat) (xs : List Pa) (hs : ∀ x ∈ xs, x.Short) (known loss : Int) (w : World) (h : Rd Pa.vals 14 w a n xs) (hcap : n ≤ cap) (hn : n ≤ 1000) :
 Calls Tryz.prog 23 #[.slice a n cap, .int .i64 known, .int .i64 loss] w (DoubtPost w xs known loss) := by
 show Calls Tryz.prog 23 #[.slice a n cap, .int .i64 known, .int .i64 loss] w (DbPost w (doubtV xs known loss) (doubtIs xs known loss) (rootE xs known loss true))
 have CR := Hd (right_r a n cap xs hs known loss 0 w h hcap (by omega))
 rw [right0_E] at CR
 unfold RightPost at CR
 have HLp := Hd (fun h => doubt_ref (xs := xs) (known := known) (loss := loss) h)
 have HLw := Hd (fun h ids => lift_well (xs := xs) (known := known) (loss := loss) h ids)
 have HVn := Hd (show ¬ rootE xs known loss true = 0 → doubtIs xs known loss = false ∧ doubtV xs known loss = [] from fun h => by
  have h1 : doubtIs xs known loss = false := by unfold doubtIs; rw [decide_eq_false h, Bool.false_and]
  exact ⟨h1, by unfold doubtV; rw [h1]; rfl⟩)
 have HR := Hd h
 have HIl := Hd (show (idsA (papersO xs known loss ++ totalsO xs known loss) xs).length ≤ 1000 from Nat.le_trans (idsA_len _ _) (by rw [h.len]; exact hn))
 clear h
 obtain ⟨PS, hPS⟩ : ∃ P, papersO xs known loss = P := ⟨_, rfl⟩
 obtain ⟨TS, hTS⟩ : ∃ P, totalsO xs known loss = P := ⟨_, rfl⟩
 obtain ⟨E, hE⟩ : ∃ P, rootE xs known loss true = P := ⟨_, rfl⟩
 obtain ⟨V, hV⟩ : ∃ P, doubtV xs known loss = P := ⟨_, rfl⟩
 obtain ⟨D, hD⟩ : ∃ P, doubtIs xs known loss = P := ⟨_, rfl⟩
 rw [hPS, hTS] at CR HLp HLw HIl
 rw [hE] at CR HLp HLw HVn ⊢
 rw [hV] at HLp HVn ⊢
 rw [hD] at HLp HVn ⊢
 clear hPS hTS hE hV hD
 go_enter Tryz.func23, Tryz.ntmps23
 go_upto_region 2 with (go_at_call 56; refine CR.out.mono ?_; rintro e w2 ⟨pa, pn, pc, ta, tn, tc, rfl, hS, hok⟩)
 have hM := BoxG.made w2 [.slice pa pn pc, .slice ta tn tc] 91
 have hBm := al' (Below.refl w2.heap.size w2) (.cells #[.slice pa pn pc, .slice ta tn tc] 91)
 have hB3 := hS.trans (hBm.mono hS.size)
 have HB3 := Hd hB3
 have HR3 := Hd (HR.out.below' hB3)
 have HOk := Hd (show E = 0 → pn ≤ 201 ∧ tn ≤ 201 ∧ Rd Pa.vals 14 (w2.alloc (.cells #[.slice pa pn pc, .slice ta tn tc] 91)) pa pn PS ∧ Rd Pa.vals 14 (w2.alloc (.cells #[.slice pa pn pc, .slice ta tn tc] 91)) ta tn TS from fun e => by
  obtain ⟨h1, h2, h3, h4, _, _⟩ := hok e
  exact ⟨h1, h2, h3.below' hBm, h4.below' hBm⟩)
 clear hok hS hBm CR hB3
 generalize w2.alloc (.cells #[.slice pa pn pc, .slice ta tn tc] 91) = w3 at *
 obtain ⟨M, hMe⟩ : ∃ M, w2.heap.size = M := ⟨_, rfl⟩
 rw [hMe] at hM ⊢
 clear hMe
 obtain ⟨m0, m1, _, _⟩ := pair_facts hM
 by_cases h0 : E = 0
 case neg =>
  have h1 : (E != 0) = true := by simp [h0]
  have HX := Hd (HVn.out h0)
  clear h0 hM
  go_wp2_with fail
  exact bodyPost_ret (by simp [results, Tryz.results23, go_sem]) rfl (show DbPost w V D E (.returned (.tuple #[.slice none 0 0, .bool false, .int .i64 E])) w3 from ⟨_, by rw [HX.out.1], by rw [HX.out.2]; exact World.ownsRow_nil _ _ _ _, HB3.out⟩)
 case pos =>
 subst h0
 obtain ⟨hpn, htn, hrp, hrt⟩ := HOk.out rfl
 obtain ⟨hwell, hd, hv1, hv2⟩ := HLp.out rfl
 have HM3 := Hd (show ManR w3 M pa pn pc ta tn tc PS TS from ⟨m0, m1, hrp, hrt⟩)
 have CC0 := Hd (complete_r pa pn pc ta tn tc PS TS hwell w3 hrp hrt)
 have CI := Hd (fun W (hW : Below w3.heap.size w3 W) => ids_r pa pn pc ta tn tc PS TS a n cap xs W (hrp.below' hW) (hrt.below' hW) (HR3.out.below' hW) (by omega) (by omega) hn)
 have CF := Hd (fun ja jn jc IDS W (hW : Below w3.heap.size w3 W) (h : Rd ints 1 W ja jn IDS) => lifted_r pa pn pc ta tn tc PS TS ja jn jc IDS W (hrp.below' hW) (hrt.below' hW) h (by omega) (by omega))
 have CC := Hd (fun IDS pa' pn' pc' ta' tn' tc' W (h1 : Rd Pa.vals 14 W pa' pn' (liftPs PS IDS)) (h2 : Rd Pa.vals 14 W ta' tn' (liftTs TS IDS)) => complete_r pa' pn' pc' ta' tn' tc' _ _ (HLw.out rfl IDS) W h1 h2)
 unfold LiftPost at CF
 obtain ⟨IDS, hIDS⟩ : ∃ I, idsA (PS ++ TS) xs = I := ⟨_, rfl⟩
 rw [hIDS] at CI HIl hv2
 obtain ⟨cb, hcb⟩ : ∃ b, completeR PS TS 300 = b := ⟨_, rfl⟩
 rw [hcb] at CC0 hd hv1 hv2
 obtain ⟨still, hst⟩ : ∃ f : List Int → Bool, (fun less => completeR (liftPs PS less) (liftTs TS less) 300) = f := ⟨_, rfl⟩
 have hst' : ∀ less, completeR (liftPs PS less) (liftTs TS less) 300 = still less := fun less => congrFun hst less
 simp only [hst'] at CC hv2
 have Hv1 := Hd hv1
 have Hv2 := Hd hv2
 clear hst hst' hcb hIDS hrp hrt hwell hv1 hv2 HLw HLp HVn HOk hM
 cases cb with
 | true =>
   have HX := Hd (show D = false ∧ V = [] from ⟨by rw [hd]; rfl, Hv1.out rfl⟩)
   go_wp2_with (go_at_call 57; refine CC0.out.mono ?_; rintro e w4 ⟨rfl, hB4⟩)
   exact bodyPost_ret (by simp [results, Tryz.results23, go_sem]) rfl (show DbPost w V D 0 (.returned (.tuple #[.slice none 0 0, .bool false, .int .i64 0])) w4 from ⟨_, by rw [HX.out.1], by rw [HX.out.2]; exact World.ownsRow_nil _ _ _ _, HB3.out.trans (hB4.mono HB3.out.size)⟩)
 | false =>
 have HX := Hd (show D = true ∧ V = ascR (refL (fun less => !still less) IDS.length IDS) from ⟨by rw [hd]; rfl, Hv2.out rfl⟩)
 clear hd Hv1 Hv2
 go_upto_region 8 with (first
  | (go_at_call 57; refine CC0.out.mono ?_; rintro e w4 ⟨rfl, hB4⟩; have m04 := cell_stays m0 hB4; have m14 := cell_stays m1 hB4)
  | (go_at_call 60; refine (CI.out w4 hB4).mono ?_; rintro e w5 ⟨v5, rfl, hrow5, hB5⟩))
 obtain ⟨ja, jc, rfl, hjc, hrI, _⟩ := Rd.of_own hrow5 ints_length (by decide) rfl (by have := HIl.out; unfold maxLen; omega)
 have HB5 := Hd (hB4.trans (hB5.mono hB4.size))
 have HrI := Hd hrI
 obtain ⟨RES, hRES⟩ : ∃ r, refL (fun less => !still less) IDS.length IDS = r := ⟨_, rfl⟩
 rw [hRES] at HX
 have HRes := Hd hRES
 clear hrow5 hrI hB4 hB5 m04 m14 CC0 CI hRES
 have hIl := HIl.out
 go_upto_region 9 with (fail)
 go_loopw [12, 13] (fun v i wr => ∃ (m : Nat) (p : Int) (K : List Int) (ka : Option Addr) (kc : Nat), m ≤ K.length ∧ K.length ≤ 1000 ∧ p = (m : Int) - 1 ∧ i = .int .i64 p ∧ v = .slice ka K.length kc ∧ K.length ≤ kc ∧ Rd ints 1 wr ka K.length K ∧ refL (fun less => !still less) m K = RES ∧ Below w3.heap.size w3 wr) (fun _ i _ => (intOf i + 1).toNat)
 case atStart => exact ⟨IDS.length, _, IDS, ja, jc, Nat.le_refl _, hIl, rfl, by go_num, rfl, hjc, HrI.out, HRes.out, HB5.out⟩
 case round =>
  obtain ⟨m, p, K, ka, kc, hm, hkl, hp, rfl, rfl, hkc, hrd, hres, hB⟩ := hrel
  have HK := Hd hrd
  have HRs := Hd hres
  have HB := Hd hB
  clear hrd hres hB
  cases m with
  | zero =>
    have g : ¬ (0 : Int) ≤ p := by omega
    have HE := Hd (show K = RES from HRs.out)
    clear hp
    have CA := Hd (asc_r ka K.length kc K wr HK.out hkl)
    go_wp2_with (go_at_call 64; refine CA.out.mono ?_; rintro e w6 ⟨v6, rfl, hrow6, hB6⟩)
    have hb := HB3.out.trans (HB.out.mono HB3.out.size)
    exact bodyPost_ret (by simp [results, Tryz.results23, go_sem]) rfl (show DbPost w V D 0 (.returned (.tuple #[v6, .bool true, .int .i64 0])) w6 from ⟨_, by rw [HX.out.1], by rw [HX.out.2, ← HE.out]; exact ownsRow_mono hrow6 hb.size, hb.trans (hB6.mono hb.size)⟩)
  | succ q =>
    obtain rfl : p = (q : Int) := by omega
    have g : (0 : Int) ≤ (q : Int) := by omega
    obtain ⟨kb, kf, z, rfl, _, _, _⟩ := HK.out.int (i := q) (by omega)
    have CW := Hd (without_r kb kf K.length kc K q wr HK.out (by omega) hkl hkc)
    have hel : (K.eraseIdx q).length = K.length - 1 := by rw [List.length_eraseIdx, if_pos (by omega)]
    have HN := Hd (show refL (fun less => !still less) q (if (!still (K.eraseIdx q)) = true then K.eraseIdx q else K) = RES from HRs.out)
    obtain ⟨LS, hLS⟩ : ∃ l, K.eraseIdx q = l := ⟨_, rfl⟩
    rw [hLS] at CW HN hel
    have HEl := Hd hel
    have m0r := cell_stays HM3.out.c0 HB.out
    have m1r := cell_stays HM3.out.c1 HB.out
    obtain ⟨cb, hcb⟩ : ∃ b, still LS = b := ⟨_, rfl⟩
    have CC2 := Hd (CC.out LS)
    rw [hcb] at CC2 HN
    clear hp hLS hcb HRs hel
    cases cb with
    | true =>
      go_wp2_with (first
       | (go_at_call 61; refine CW.out.mono ?_; rintro e w6 ⟨v6, rfl, hrow6, hB6⟩; obtain ⟨la, lc, rfl, hlc, hrl, _⟩ := Rd.of_own hrow6 ints_length (by decide) rfl (by have := HEl.out; unfold maxLen; omega); have m06 := cell_stays m0r hB6; have m16 := cell_stays m1r hB6)
       | (go_at_call 62; refine (CF.out la LS.length lc LS w6 (HB.out.trans (hB6.mono HB.out.size)) hrl).mono ?_; rintro e w7 ⟨qa, qn, qc, ra, rn, rc, rfl, hq, hr, hB7⟩)
       | (go_at_call 57; refine (CC2.out qa qn qc ra rn rc w7 hq hr).mono ?_; rintro e w8 ⟨rfl, hB8⟩))
      have b7 := hB6.trans (hB7.mono hB6.size)
      have b8 := b7.trans (hB8.mono b7.size)
      exact ⟨⟨q, _, K, _, kc, by omega, hkl, rfl, by go_num, rfl, hkc, HK.out.below' b8, HN.out, HB.out.trans (b8.mono HB.out.size)⟩, by simp [intOf]⟩
    | false =>
      go_wp2_with (first
       | (go_at_call 61; refine CW.out.mono ?_; rintro e w6 ⟨v6, rfl, hrow6, hB6⟩; obtain ⟨la, lc, rfl, hlc, hrl, _⟩ := Rd.of_own hrow6 ints_length (by decide) rfl (by have := HEl.out; unfold maxLen; omega); have m06 := cell_stays m0r hB6; have m16 := cell_stays m1r hB6)
       | (go_at_call 62; refine (CF.out la LS.length lc LS w6 (HB.out.trans (hB6.mono HB.out.size)) hrl).mono ?_; rintro e w7 ⟨qa, qn, qc, ra, rn, rc, rfl, hq, hr, hB7⟩)
       | (go_at_call 57; refine (CC2.out qa qn qc ra rn rc w7 hq hr).mono ?_; rintro e w8 ⟨rfl, hB8⟩))
      have b7 := hB6.trans (hB7.mono hB6.size)
      have b8 := b7.trans (hB8.mono b7.size)
      exact ⟨⟨q, _, LS, _, lc, by have := HEl.out; omega, by have := HEl.out; omega, rfl, by go_num, rfl, hlc, hrl.below' (hB7.trans (hB8.mono hB7.size)), HN.out, HB.out.trans (b8.mono HB.out.size)⟩, by simp [intOf]⟩
end Go.Proofs.YtleiapljnjaloaaGreatDoor
