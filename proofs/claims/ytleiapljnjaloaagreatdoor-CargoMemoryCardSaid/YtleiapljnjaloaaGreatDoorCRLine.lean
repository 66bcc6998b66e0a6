/- What the reference's Lineage and CheckLineage need of a manifest that is right (no dump). -/
import Derived.Test.YtleiapljnjaloaaGreatDoorCRRight
import Derived.Test.YtleiapljnjaloaaGreatDoorCCheckL
import Derived.Test.YtleiapljnjaloaaGreatDoorCRLift
import Derived.Test.YtleiapljnjaloaaGreatDoorCRWeighOne
set_option linter.unusedSimpArgs false
set_option linter.unusedVariables false
namespace Go.Proofs.YtleiapljnjaloaaGreatDoor
open Go.RowKit Go.Shelf
theorem lift_way {xs : List Pa} {known loss pack : Int} (h : rootE xs known loss (hasP xs known loss pack) = 0) (ids : List Int) :
 Well (liftPs (papersO xs known loss) ids) (liftTs (totalsO xs known loss) ids) ∧
 wayR (liftPs (papersO xs known loss) ids) 201 pack [] = some (pathP (papersO xs known loss) 300 pack []) ∧
 (∀ q ∈ pathP (papersO xs known loss) 300 pack [], ∃ x ∈ liftPs (papersO xs known loss) ids, x.pack = q) ∧ 0 < (pathP (papersO xs known loss) 300 pack []).length := by
 obtain ⟨h0, hh, t, ht⟩ := rootE_zero h
 obtain ⟨p1, p2⟩ := open_some (known := known) h0
 have hmo := mani_ok (check_good (open_check h0)).1 known loss
 have ht' : treeT (papersL xs known loss) (totalsL xs known loss) (fun _ => true) = some t := ht
 have hT : (treeT (papersL xs known loss) (totalsL xs known loss) (fun _ => true)).isSome = true := by rw [ht']; rfl
 obtain ⟨u, hu⟩ := Option.isSome_iff_exists.1 (tree_same (fun _ => true) (fun i => ids.contains i) hT)
 rw [p1, p2]
 have hu' := (tree_lift _ _ _).trans hu
 have hmo' := lift_mani hmo (fun i => ids.contains i)
 obtain ⟨w1, w2, w3⟩ := way_plain hmo' hu' (pack := pack) (by rw [ofI_liftP, Option.isSome_map]; exact hh)
 rw [path_lift] at w1 w2 w3
 exact ⟨well_tree hmo' hu', w1, w2, w3⟩
def spanOk (x : Int × Int) (upper : Bool) (endv : Int) : Bool := if upper then decide (x.2 ≤ endv) else decide (x.1 ≥ endv)
theorem line_ref {xs : List Pa} {known loss pack : Int} {upper : Bool} (h : weighE xs known loss (hasP xs known loss pack) = 0) :
 lineV xs known loss pack upper = ascR (refL (fun less => decide (sideR (endsW (liftPs (papersO xs known loss) less) (liftTs (totalsO xs known loss) less) 300 (pathP (papersO xs known loss) 300 pack [])) upper = sideR (weighV xs known loss pack) upper)) (idsA (papersO xs known loss ++ totalsO xs known loss) xs).length (idsA (papersO xs known loss ++ totalsO xs known loss) xs)) := by
 obtain ⟨h0, hh, t, ht⟩ := rootE_zero (weigh_root h)
 obtain ⟨p1, p2⟩ := open_some (known := known) h0
 rw [p1, p2]
 unfold lineV weighV
 rw [if_pos h, if_pos h, lineage_is h]
 rfl
set_option maxRecDepth 100000 in
set_option maxHeartbeats 4000000 in
theorem side_r (lo hi : Int) (upper : Bool) (w : World) : Calls Tryz.prog 63 #[.agg #[.int .i64 lo, .int .i64 hi], .bool upper] w fun e w' => e = .returned (.int .i64 (sideR (lo, hi) upper)) ∧ Below w.heap.size w w' := by
 have hM := BoxG.made w [.int .i64 lo, .int .i64 hi] 24
 have hB := al' (Below.refl w.heap.size w) (.cells #[.int .i64 lo, .int .i64 hi] 24)
 have HB := Hd hB
 go_enter Tryz.func63, Tryz.ntmps63
 go_upto_region 1 with (fail)
 generalize w.alloc (.cells #[.int .i64 lo, .int .i64 hi] 24) = w1 at *
 obtain ⟨M, hMe⟩ : ∃ M, w.heap.size = M := ⟨_, rfl⟩
 have HMe := Hd hMe
 rw [hMe] at hM
 clear hB
 obtain ⟨m0, m1, _, _⟩ := pair_facts hM
 rw [← hMe] at m0 m1
 clear hM hMe
 cases upper <;>
 · go_wp2_with fail
   go_ret
   exact ⟨rfl, HB.out⟩
theorem four_stay {W W' : World} {a b c d : Addr} {u v x y : Value} (h : W.cell? a = some u ∧ W.cell? b = some v ∧ W.cell? c = some x ∧ W.cell? d = some y) (hB : Below W.heap.size W W') : W'.cell? a = some u ∧ W'.cell? b = some v ∧ W'.cell? c = some x ∧ W'.cell? d = some y :=
 ⟨cell_stays h.1 hB, cell_stays h.2.1 hB, cell_stays h.2.2.1 hB, cell_stays h.2.2.2 hB⟩
def LnPost (w : World) (L : List Int) (E : Int) (e : Ending) (w' : World) : Prop :=
 ∃ v, e = .returned (.tuple #[v, .int .i64 E]) ∧ w'.ownsRow w.heap.size 3 1 v L.length (L.flatMap ints) ∧ Below w.heap.size w w'
set_option maxRecDepth 100000 in
set_option maxHeartbeats 8000000 in
theorem lineage_r (a : Option Addr) (n cap : Nat) (xs : List Pa) (hs : ∀ x ∈ xs, x.Short) (known loss pack : Int) (upper : Bool) (w : World) (h : Rd Pa.vals 14 w a n xs) (hcap : n ≤ cap) (hn : n ≤ 1000) :
 Calls Tryz.prog 19 #[.slice a n cap, .int .i64 known, .int .i64 loss, .int .i64 pack, .bool upper] w (LinePost w xs known loss pack upper) := by
 show Calls Tryz.prog 19 #[.slice a n cap, .int .i64 known, .int .i64 loss, .int .i64 pack, .bool upper] w (LnPost w (lineV xs known loss pack upper) (weighE xs known loss (hasP xs known loss pack)))
 have CR := Hd (weigh_r a n cap xs hs known loss pack w h hcap (by omega))
 have CO := Hd (fun W (hW : Below w.heap.size w W) => of_r a n cap xs hs known loss W (h.below' hW) hcap (by omega))
 unfold WeighedPost at CR
 unfold OfPost at CO
 have HLw := Hd (fun h ids => lift_way (xs := xs) (known := known) (loss := loss) (pack := pack) (weigh_root h) ids)
 have HLr := Hd (fun h => line_ref (xs := xs) (known := known) (loss := loss) (pack := pack) (upper := upper) h)
 have HVn := Hd (show ¬ weighE xs known loss (hasP xs known loss pack) = 0 → lineV xs known loss pack upper = [] from fun h => by unfold lineV; rw [if_neg h])
 have HR := Hd h
 have HIl := Hd (show (idsA (papersO xs known loss ++ totalsO xs known loss) xs).length ≤ 1000 from Nat.le_trans (idsA_len _ _) (by rw [h.len]; exact hn))
 clear h
 obtain ⟨PS, hPS⟩ : ∃ P, papersO xs known loss = P := ⟨_, rfl⟩
 obtain ⟨TS, hTS⟩ : ∃ P, totalsO xs known loss = P := ⟨_, rfl⟩
 obtain ⟨E, hE⟩ : ∃ P, weighE xs known loss (hasP xs known loss pack) = P := ⟨_, rfl⟩
 obtain ⟨V, hV⟩ : ∃ P, lineV xs known loss pack upper = P := ⟨_, rfl⟩
 obtain ⟨WV, hWV⟩ : ∃ P, weighV xs known loss pack = P := ⟨_, rfl⟩
 obtain ⟨WAY, hWY⟩ : ∃ P, pathP (papersO xs known loss) 300 pack [] = P := ⟨_, rfl⟩
 rw [hWY] at HLw HLr
 rw [hPS, hTS] at CO HLw HLr HIl
 rw [hE] at CR HLw HLr HVn ⊢
 rw [hV] at HLr HVn ⊢
 rw [hWV] at CR HLr
 clear hPS hTS hE hV hWV hWY
 obtain ⟨lo, hi⟩ := WV
 simp only at CR
 go_enter Tryz.func19, Tryz.ntmps19
 go_upto_region 2 with (go_at_call 34; refine CR.out.mono ?_; rintro e w2 ⟨rfl, hS⟩)
 have hX := BoxG.made w2 [.int .i64 lo, .int .i64 hi] 24
 have HB3 := Hd (hS.trans ((al' (Below.refl w2.heap.size w2) (.cells #[.int .i64 lo, .int .i64 hi] 24)).mono hS.size))
 clear hS CR
 generalize w2.alloc (.cells #[.int .i64 lo, .int .i64 hi] 24) = w3 at *
 obtain ⟨X, hXe⟩ : ∃ M, w2.heap.size = M := ⟨_, rfl⟩
 rw [hXe] at hX ⊢
 clear hXe
 obtain ⟨x0, x1, _, _⟩ := pair_facts hX
 by_cases h0 : E = 0
 case neg =>
  have h1 : (E != 0) = true := by simp [h0]
  have HE := Hd (HVn.out h0)
  clear h0 hX
  go_wp2_with fail
  exact bodyPost_ret (by simp [results, Tryz.results19, go_sem]) rfl (show LnPost w V E (.returned (.tuple #[.slice none 0 0, .int .i64 E])) w3 from ⟨_, rfl, by rw [HE.out]; exact World.ownsRow_nil _ _ _ _, HB3.out⟩)
 case pos =>
 subst h0
 have hLr := HLr.out rfl
 have HL2 := Hd (fun ids => HLw.out rfl ids)
 have HX3 := Hd (show w3.cell? ⟨X, 0, none⟩ = some (.int .i64 lo) ∧ w3.cell? ⟨X, 1, none⟩ = some (.int .i64 hi) from ⟨x0, x1⟩)
 clear hX HVn HLr HLw
 go_upto_region 5 with (go_at_call 59; refine (CO.out w3 HB3.out).mono ?_; rintro e w4 ⟨pa, pn, pc, ta, tn, tc, rfl, hpn, htn, hrp, hrt, hB4⟩)
 have hM := BoxG.made w4 [.slice pa pn pc, .slice ta tn tc] 91
 have hBm := al' (Below.refl w4.heap.size w4) (.cells #[.slice pa pn pc, .slice ta tn tc] 91)
 have HB5 := Hd (hB4.trans (hBm.mono hB4.size))
 have HRp := Hd (hrp.below' hBm)
 have HRt := Hd (hrt.below' hBm)
 clear hrp hrt hB4 hBm CO
 generalize w4.alloc (.cells #[.slice pa pn pc, .slice ta tn tc] 91) = w5 at *
 obtain ⟨M, hMe⟩ : ∃ M, w4.heap.size = M := ⟨_, rfl⟩
 rw [hMe] at hM ⊢
 clear hMe x0 x1
 obtain ⟨m0, m1, _, _⟩ := pair_facts hM
 have HM5 := Hd (show w5.cell? ⟨M, 0, none⟩ = some (.slice pa pn pc) ∧ w5.cell? ⟨M, 1, none⟩ = some (.slice ta tn tc) from ⟨m0, m1⟩)
 have HX5 := Hd (show w5.cell? ⟨X, 0, none⟩ = some (.int .i64 lo) ∧ w5.cell? ⟨X, 1, none⟩ = some (.int .i64 hi) from ⟨cell_stays HX3.out.1 HB5.out, cell_stays HX3.out.2 HB5.out⟩)
 have HBw5 := Hd (HB3.out.trans (HB5.out.mono HB3.out.size))
 have HR5 := Hd (HR.out.below' HBw5.out)
 clear hM HB5 HX3 HB3 HR
 have CI := Hd (ids_r pa pn pc ta tn tc PS TS a n cap xs w5 HRp.out HRt.out HR5.out (by omega) (by omega) hn)
 have CF := Hd (fun ja jn jc IDS W (hW : Below w5.heap.size w5 W) (h : Rd ints 1 W ja jn IDS) => lifted_r pa pn pc ta tn tc PS TS ja jn jc IDS W (HRp.out.below' hW) (HRt.out.below' hW) h (by omega) (by omega))
 have CE := Hd (fun IDS pa' pn' pc' ta' tn' tc' W (h1 : Rd Pa.vals 14 W pa' pn' (liftPs PS IDS)) (h2 : Rd Pa.vals 14 W ta' tn' (liftTs TS IDS)) => ends_r pa' pn' pc' ta' tn' tc' _ _ (HL2.out IDS).1 pack WAY (HL2.out IDS).2.1 (HL2.out IDS).2.2.1 (HL2.out IDS).2.2.2 W h1 h2)
 unfold LiftPost at CF
 unfold SpanPost at CE
 obtain ⟨IDS, hIDS⟩ : ∃ I, idsA (PS ++ TS) xs = I := ⟨_, rfl⟩
 rw [hIDS] at CI HIl hLr
 obtain ⟨EW, hEW⟩ : ∃ f : List Int → Int × Int, (fun less => endsW (liftPs PS less) (liftTs TS less) 300 WAY) = f := ⟨_, rfl⟩
 have hEW' : ∀ less, endsW (liftPs PS less) (liftTs TS less) 300 WAY = EW less := fun less => congrFun hEW less
 simp only [hEW'] at CE hLr
 obtain ⟨sx, hsx⟩ : ∃ v, sideR (lo, hi) upper = v := ⟨_, rfl⟩
 rw [hsx] at hLr
 have HSx := Hd hsx
 obtain ⟨RES, hRES⟩ : ∃ r, refL (fun less => decide (sideR (EW less) upper = sx)) IDS.length IDS = r := ⟨_, rfl⟩
 rw [hRES] at hLr
 have HRes := Hd hRES
 have HX := Hd hLr
 have hIl := HIl.out
 clear hEW hEW' hIDS hsx hRES hLr HL2
 go_upto_region 6 with (go_at_call 60; refine CI.out.mono ?_; rintro e w6 ⟨v6, rfl, hrow6, hB6⟩)
 obtain ⟨ja, jc, rfl, hjc, hrI, _⟩ := Rd.of_own hrow6 ints_length (by decide) rfl (by have := HIl.out; unfold maxLen; omega)
 have HB6 := Hd hB6
 have HrI := Hd hrI
 clear hrow6 hrI hB6 m0 m1 CI
 go_upto_region 7 with (fail)
 go_loopw [15, 16] (fun v i wr => ∃ (m : Nat) (p : Int) (K : List Int) (ka : Option Addr) (kc : Nat), m ≤ K.length ∧ K.length ≤ 1000 ∧ p = (m : Int) - 1 ∧ i = .int .i64 p ∧ v = .slice ka K.length kc ∧ K.length ≤ kc ∧ Rd ints 1 wr ka K.length K ∧ refL (fun less => decide (sideR (EW less) upper = sx)) m K = RES ∧ Below w5.heap.size w5 wr) (fun _ i _ => (intOf i + 1).toNat)
 case atStart => exact ⟨IDS.length, _, IDS, ja, jc, Nat.le_refl _, hIl, rfl, by go_num, rfl, hjc, HrI.out, HRes.out, HB6.out⟩
 case round =>
  obtain ⟨m, p, K, ka, kc, hm, hkl, hp, rfl, rfl, hkc, hrd, hres, hB⟩ := hrel
  have HK := Hd hrd
  have HRs := Hd hres
  have HB := Hd hB
  clear hrd hres hB
  cases m with
  | zero =>
    have g : ¬ (0 : Int) ≤ p := by omega
    have HE := Hd (show K = RES from HRs.out)
    clear hp
    have CA := Hd (asc_r ka K.length kc K wr HK.out hkl)
    go_wp2_with (go_at_call 64; refine CA.out.mono ?_; rintro e w6 ⟨v6, rfl, hrow6, hB6⟩)
    have hb := HBw5.out.trans (HB.out.mono HBw5.out.size)
    exact bodyPost_ret (by simp [results, Tryz.results19, go_sem]) rfl (show LnPost w V 0 (.returned (.tuple #[v6, .int .i64 0])) w6 from ⟨_, rfl, by rw [HX.out, ← HE.out]; exact ownsRow_mono hrow6 hb.size, hb.trans (hB6.mono hb.size)⟩)
  | succ q =>
    obtain rfl : p = (q : Int) := by omega
    have g : (0 : Int) ≤ (q : Int) := by omega
    obtain ⟨kb, kf, z, rfl, _, _, _⟩ := HK.out.int (i := q) (by omega)
    have CW := Hd (without_r kb kf K.length kc K q wr HK.out (by omega) hkl hkc)
    have hel : (K.eraseIdx q).length = K.length - 1 := by rw [List.length_eraseIdx, if_pos (by omega)]
    have HN := Hd (show refL (fun less => decide (sideR (EW less) upper = sx)) q (if (decide (sideR (EW (K.eraseIdx q)) upper = sx)) = true then K.eraseIdx q else K) = RES from HRs.out)
    obtain ⟨LS, hLS⟩ : ∃ l, K.eraseIdx q = l := ⟨_, rfl⟩
    rw [hLS] at CW HN hel
    have HEl := Hd hel
    have m0r := cell_stays HM5.out.1 HB.out
    have m1r := cell_stays HM5.out.2 HB.out
    have HXr := Hd (show wr.cell? ⟨X, 0, none⟩ = some (.int .i64 lo) ∧ wr.cell? ⟨X, 1, none⟩ = some (.int .i64 hi) from ⟨cell_stays HX5.out.1 HB.out, cell_stays HX5.out.2 HB.out⟩)
    have CE2 := Hd (CE.out LS)
    obtain ⟨⟨e1, e2⟩, hew⟩ : ∃ p : Int × Int, EW LS = p := ⟨_, rfl⟩
    rw [hew] at CE2 HN
    simp only at CE2
    obtain ⟨sy, hsy⟩ : ∃ v, sideR (e1, e2) upper = v := ⟨_, rfl⟩
    rw [hsy] at HN
    have C1 := Hd (fun W => side_r e1 e2 upper W)
    have C2 := Hd (fun W => side_r lo hi upper W)
    rw [hsy] at C1
    rw [HSx.out] at C2
    clear hp hLS hew hsy HRs hel
    go_upto_region 11 with (first
     | (go_at_call 61; refine CW.out.mono ?_; rintro e w6 ⟨v6, rfl, hrow6, hB6⟩; obtain ⟨la, lc, rfl, hlc, hrl, _⟩ := Rd.of_own hrow6 ints_length (by decide) rfl (by have := HEl.out; unfold maxLen; omega); have m06 := cell_stays m0r hB6; have m16 := cell_stays m1r hB6)
     | (go_at_call 62; refine (CF.out la LS.length lc LS w6 (HB.out.trans (hB6.mono HB.out.size)) hrl).mono ?_; rintro e w7 ⟨qa, qn, qc, ra, rn, rc, rfl, hq, hr, hB7⟩)
     | (go_at_call 58; refine (CE2.out qa qn qc ra rn rc w7 hq hr).mono ?_; rintro e w8 ⟨rfl, hB8⟩))
    have hY := BoxG.made w8 [.int .i64 e1, .int .i64 e2] 24
    have b7 := hB6.trans (hB7.mono hB6.size)
    have b8 := b7.trans ((al' hB8 (.cells #[.int .i64 e1, .int .i64 e2] 24)).mono b7.size)
    have HL9 := Hd (hrl.below' (hB7.trans ((al' hB8 (.cells #[.int .i64 e1, .int .i64 e2] 24)).mono hB7.size)))
    have HB9 := Hd b8
    clear hq hr hrl hrow6 m0r m1r m06 m16 b7 b8 hB6 hB7 hB8 CW CE2
    generalize w8.alloc (.cells #[.int .i64 e1, .int .i64 e2] 24) = w9 at *
    obtain ⟨Y, hYe⟩ : ∃ M, w8.heap.size = M := ⟨_, rfl⟩
    rw [hYe] at hY ⊢
    clear hYe
    obtain ⟨y0, y1, _, _⟩ := pair_facts hY
    have hc : w9.cell? ⟨X, 0, none⟩ = some (.int .i64 lo) ∧ w9.cell? ⟨X, 1, none⟩ = some (.int .i64 hi) ∧ w9.cell? ⟨Y, 0, none⟩ = some (.int .i64 e1) ∧ w9.cell? ⟨Y, 1, none⟩ = some (.int .i64 e2) := ⟨cell_stays HXr.out.1 HB9.out, cell_stays HXr.out.2 HB9.out, y0, y1⟩
    have HC := Hd hc
    obtain ⟨x0, x1, _, _⟩ := hc
    clear hY
    go_region_held3 (fun w' => w'.cell? ⟨X, 0, none⟩ = some (.int .i64 lo) ∧ w'.cell? ⟨X, 1, none⟩ = some (.int .i64 hi) ∧ w'.cell? ⟨Y, 0, none⟩ = some (.int .i64 e1) ∧ w'.cell? ⟨Y, 1, none⟩ = some (.int .i64 e2))
     (first | go_keep | with_reducible exact four_stay HC.out hb11.out | with_reducible exact four_stay HC.out hb10.out | with_reducible exact four_stay HC.out (dr' (Below.refl _ _)))
     (first
       | (go_at_call 63; with_reducible refine (C2.out w10).mono ?_; rintro e w11 ⟨rfl, hB11⟩; have hb11 := Hd (hb10.out.trans (hB11.mono hb10.out.size)))
       | (go_at_call 63; with_reducible refine (C1.out _).mono ?_; rintro e w10 ⟨rfl, hB10⟩; have hb10 := Hd (show Below w9.heap.size w9 w10 from below_on (dr' (Below.refl _ _)) hB10 (Nat.le_refl _))))
    all_goals
     have HB11 := Hd (HB9.out.trans (hb11.out.mono HB9.out.size))
     have HL11 := Hd (HL9.out.below' hb11.out)
     clear hb10 hb11 hB10 hB11 x0 x1 y0 y1 HC
     by_cases hss : sy = sx
     · have g1 : (sy == sx) = true := by simpa using hss
       have HN2 := Hd (show refL (fun less => decide (sideR (EW less) upper = sx)) q LS = RES from by rw [← HN.out, if_pos (decide_eq_true hss)])
       clear hss
       go_wp2_with fail
       exact ⟨⟨q, _, LS, _, lc, by have := HEl.out; omega, by have := HEl.out; omega, rfl, by go_num, rfl, hlc, HL11.out, HN2.out, HB.out.trans (HB11.out.mono HB.out.size)⟩, by simp [intOf]⟩
     · have g1 : (sy == sx) = false := by simpa using hss
       have HN2 := Hd (show refL (fun less => decide (sideR (EW less) upper = sx)) q K = RES from by rw [← HN.out, if_neg (by simpa using hss)])
       clear hss
       go_wp2_with fail
       exact ⟨⟨q, _, K, _, kc, by omega, hkl, rfl, by go_num, rfl, hkc, HK.out.below' HB11.out, HN2.out, HB.out.trans (HB11.out.mono HB.out.size)⟩, by simp [intOf]⟩
end Go.Proofs.YtleiapljnjaloaaGreatDoor
