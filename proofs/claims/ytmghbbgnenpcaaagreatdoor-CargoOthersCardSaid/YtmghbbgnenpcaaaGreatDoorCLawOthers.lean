/- The law CargoOthers walked. -/
import Derived.Test.YtmghbbgnenpcaaaGreatDoorCWeights
import Derived.Test.YtmghbbgnenpcaaaGreatDoorCAppE
import Derived.Test.YtmghbbgnenpcaaaGreatDoorCTreeE
set_option linter.unusedSimpArgs false
set_option linter.unusedVariables false
namespace Go.Proofs.YtmghbbgnenpcaaaGreatDoor
open Go.RowKit Go.Shelf

theorem doubtV_len (xs : List Pa) (known loss : Int) : (doubtV xs known loss).length ≤ xs.length := by
  unfold doubtV
  split
  · unfold doubtP
    refine Nat.le_trans (leftL_len _ _) ?_
    unfold idsM
    rw [List.length_map]
    exact List.length_filter_le _ _
  · simp
def DoubtPost2 (w : World) (L : List Int) (D : Bool) (E : Int) (e : Ending) (w' : World) : Prop := ∃ a n c, e = .returned (.tuple #[.slice a n c, .bool D, .int .i64 E]) ∧ Rd ints 1 w' a n L ∧ Below w.heap.size w w'
theorem doubt_post {w w' : World} {xs : List Pa} {known loss : Int} {e : Ending} (hl : xs.length ≤ 1000) (h : DoubtPost w xs known loss e w') : DoubtPost2 w (doubtV xs known loss) (doubtIs xs known loss) (rootE xs known loss true) e w' := by
  obtain ⟨v, rfl, ho, hB⟩ := h
  obtain ⟨a, n, c, rfl, hr⟩ := rd_own ho (Nat.le_trans (doubtV_len xs known loss) hl)
  exact ⟨a, n, c, rfl, hr, hB⟩
theorem of_step {x y : Pa} {xs : List Pa} {k : Nat} (h : xs[k]? = some y) : (xs.take (k + 1)).foldl (ofStep x) x.loss = ofStep x ((xs.take k).foldl (ofStep x) x.loss) y := by
  rw [take_succ_snoc h, List.foldl_append]; rfl
set_option maxRecDepth 100000 in
set_option maxHeartbeats 8000000 in
theorem law_others (a : Option Addr) (n cap : Nat) (xs : List Pa) (x : Pa) (known loss : Int) (w : World) (h : Rd Pa.vals 14 w a n xs) (hz : a = none → cap = 0) (hcap : n ≤ cap) (hw : Laid w) :
    Calls Tryz.prog 5 #[.slice a n cap, .agg #[.int .i64 x.id, .int .i64 x.known, .int .u8 x.kind, .int .i64 x.loss, .int .i64 x.pack, .int .i64 x.inn, .string ⟨x.mark.toArray⟩, .string ⟨x.goods.toArray⟩, .int .i64 x.low, .int .i64 x.high, .int .i64 x.pieces, .int .i64 x.owner, .int .i64 x.count, .int .i64 x.of], .int .i64 known, .int .i64 loss] w fun e w' => e = .returned (.bool true) ∧ Below w.heap.size w w' := by
  have CA := Lib.hid (show ∀ W, Below w.heap.size w W → Calls Tryz.prog 12 #[] W fun e w' => e = .returned (.bool true) ∧ Below W.heap.size W w' from fun W hB => alive_any W (hw.below hB))
  have hb := BoxG.made w x.vals 42
  have hB := al' (Below.refl w.heap.size w) (.cells x.vals.toArray 42)
  simp only [Pa.vals] at hb hB
  have HX0 := Lib.hid hb
  have HB := Lib.hid hB
  have HR0 := Lib.hid h
  have Hlen := Lib.hid h.len
  clear hb hB h hw hz
  go_enter Tryz.func5, Tryz.ntmps5
  go_upto_region 1 with (fail)
  generalize w.alloc (.cells #[.int .i64 x.id, .int .i64 x.known, .int .u8 x.kind, .int .i64 x.loss, .int .i64 x.pack, .int .i64 x.inn, .string ⟨x.mark.toArray⟩, .string ⟨x.goods.toArray⟩, .int .i64 x.low, .int .i64 x.high, .int .i64 x.pieces, .int .i64 x.owner, .int .i64 x.count, .int .i64 x.of] 42) = w1 at *
  have HX := Lib.hid (show BoxG w1 w.heap.size x.vals from HX0.out)
  clear HX0
  obtain ⟨F1, hF1⟩ : ∃ b, fewB xs 29 = b := ⟨_, rfl⟩
  go_wp2_with fail
  refine (rfew_any a n cap xs 29 _ (HR0.out.below' HB.out)).mono ?_
  rintro e w2 ⟨rfl, rfl⟩
  rw [hF1]
  cases F1 with
  | false =>
    clear hF1
    go_wp2_with fail
    refine (CA.out _ HB.out).mono ?_
    rintro e w3 ⟨rfl, hS⟩
    have HB' := Lib.hid (below_on HB.out hS (Nat.le_refl _))
    clear hS
    go_wp2_with fail
    go_ret
    exact ⟨rfl, HB'.out⟩
  | true =>
  have HF1 := Lib.hid (few_short hF1)
  clear hF1
  obtain ⟨c0, c1, c2, c3, c4, c5, c6, c7, c8, c9, c10, c11, c12, c13⟩ := HX.out.pa
  have HP := Lib.hid (rd_pa w2 x 42)
  have hS := al' (Below.refl w2.heap.size w2) (.cells #[.int .i64 x.id, .int .i64 x.known, .int .u8 x.kind, .int .i64 x.loss, .int .i64 x.pack, .int .i64 x.inn, .string ⟨x.mark.toArray⟩, .string ⟨x.goods.toArray⟩, .int .i64 x.low, .int .i64 x.high, .int .i64 x.pieces, .int .i64 x.owner, .int .i64 x.count, .int .i64 x.of] 42)
  have HX' := Lib.hid (HX.out.below' hS)
  have HB' := Lib.hid (below_on HB.out hS (Nat.le_refl _))
  clear hS
  obtain ⟨F2, hF2⟩ : ∃ b, fewB [x] 1 = b := ⟨_, rfl⟩
  go_wp2_with fail
  generalize w2.alloc (.cells #[.int .i64 x.id, .int .i64 x.known, .int .u8 x.kind, .int .i64 x.loss, .int .i64 x.pack, .int .i64 x.inn, .string ⟨x.mark.toArray⟩, .string ⟨x.goods.toArray⟩, .int .i64 x.low, .int .i64 x.high, .int .i64 x.pieces, .int .i64 x.owner, .int .i64 x.count, .int .i64 x.of] 42) = w3 at *
  refine (rfew_any _ 1 1 [x] 1 _ HP.out).mono ?_
  rintro e w4 ⟨rfl, rfl⟩
  rw [hF2]
  clear HX HB HP c0 c1 c2 c3 c4 c5 c6 c7 c8 c9 c10 c11 c12 c13
  have HX := Lib.hid HX'.out
  have HB := Lib.hid HB'.out
  clear HX' HB'
  cases F2 with
  | false =>
    clear hF2
    go_wp2_with fail
    refine (CA.out _ HB.out).mono ?_
    rintro e w3 ⟨rfl, hS⟩
    have HB' := Lib.hid (below_on HB.out hS (Nat.le_refl _))
    clear hS
    go_wp2_with fail
    go_ret
    exact ⟨rfl, HB'.out⟩
  | true =>
  have HS := Lib.hid (show ∀ y ∈ xs, y.Short from fun y hy => by have := HF1.out.2 y hy; exact ⟨by omega, by omega⟩)
  have HSx := Lib.hid (show x.Short from by have := (few_short hF2).2 x (by simp); exact ⟨by omega, by omega⟩)
  have hn : n ≤ 29 := by have h1 := HF1.out.1; rw [Hlen.out] at h1; omega
  clear hF2 HF1
  obtain ⟨G, hG⟩ : ∃ I, appE xs x = I := ⟨_, rfl⟩
  obtain ⟨R, hR⟩ : ∃ I, appR xs x = I := ⟨_, rfl⟩
  have C3 := Lib.hid (fun W (hW : Below w.heap.size w W) => (append_any a n cap xs HS.out x HSx.out W (HR0.out.below' hW) hcap).mono (fun _ _ h => app_of h))
  unfold AppPost at C3
  rw [hG, hR] at C3
  have HG := Lib.hid hG
  have HRr := Lib.hid hR
  clear hG hR
  obtain ⟨c0, c1, c2, c3, c4, c5, c6, c7, c8, c9, c10, c11, c12, c13⟩ := HX.out.pa
  go_upto_region 4 with (go_at_call 23; refine (C3.out _ HB.out).mono ?_; rintro e w5 ⟨va, vn, vc, rfl, hva, hvc, hS⟩)
  have HB5 := Lib.hid (HB.out.trans (hS.mono HB.out.size))
  have HX5 := Lib.hid (HX.out.below' hS)
  have HV := Lib.hid hva
  clear hS hva C3 HX HB c0 c1 c2 c3 c4 c5 c6 c7 c8 c9 c10 c11 c12 c13
  obtain ⟨c0, c1, c2, c3, c4, c5, c6, c7, c8, c9, c10, c11, c12, c13⟩ := HX5.out.pa
  go_upto_region 5 with (fail)
  clear c0 c1 c2 c3 c4 c5 c6 c7 c8 c9 c10 c11 c12 c13
  go_wp2_with fail
  go_loopw [11, 44] (fun ov i wr => ∃ k : Nat, k ≤ n ∧ i = .int .i64 k ∧ ov = .int .i64 ((xs.take k).foldl (ofStep x) x.loss) ∧ Below w5.heap.size w5 wr) (fun _ i _ => n - (intOf i).toNat)
  case atStart => exact ⟨0, Nat.zero_le _, rfl, rfl, Below.refl _ _⟩
  case round =>
    obtain ⟨k, hk, rfl, rfl, hB⟩ := hrel
    have HBr := Lib.hid hB
    have HBw := Lib.hid (HB5.out.trans (hB.mono HB5.out.size))
    have HXr := Lib.hid (HX5.out.below' hB)
    clear hB
    obtain ⟨ov, hov⟩ : ∃ v, (xs.take k).foldl (ofStep x) x.loss = v := ⟨_, rfl⟩
    rw [hov]
    by_cases hlt : k < n
    · have hlt' : (k : Int) < (n : Int) := by omega
      obtain ⟨b, off, y, rfl, hb, hy, d0, d1, d2, d3, d4, d5, d6, d7, d8, d9, d10, d11, d12, d13⟩ := (HR0.out.below' HBw.out).pa hlt
      have hst := of_step (x := x) hy
      rw [hov] at hst
      have HSt := Lib.hid hst
      clear hst hy hov
      go_upto_region 8 with (fail)
      have hyb := BoxG.made wr [.int .i64 y.id, .int .i64 y.known, .int .u8 y.kind, .int .i64 y.loss, .int .i64 y.pack, .int .i64 y.inn, .string ⟨y.mark.toArray⟩, .string ⟨y.goods.toArray⟩, .int .i64 y.low, .int .i64 y.high, .int .i64 y.pieces, .int .i64 y.owner, .int .i64 y.count, .int .i64 y.of] 42
      have hBy := al' (Below.refl wr.heap.size wr) (.cells #[.int .i64 y.id, .int .i64 y.known, .int .u8 y.kind, .int .i64 y.loss, .int .i64 y.pack, .int .i64 y.inn, .string ⟨y.mark.toArray⟩, .string ⟨y.goods.toArray⟩, .int .i64 y.low, .int .i64 y.high, .int .i64 y.pieces, .int .i64 y.owner, .int .i64 y.count, .int .i64 y.of] 42)
      have HB8 := Lib.hid (HBr.out.trans (hBy.mono HBr.out.size))
      have HX8 := Lib.hid (HXr.out.below' hBy)
      clear hBy d0 d1 d2 d3 d4 d5 d6 d7 d8 d9 d10 d11 d12 d13 HXr HBr HBw hb
      generalize wr.alloc (.cells #[.int .i64 y.id, .int .i64 y.known, .int .u8 y.kind, .int .i64 y.loss, .int .i64 y.pack, .int .i64 y.inn, .string ⟨y.mark.toArray⟩, .string ⟨y.goods.toArray⟩, .int .i64 y.low, .int .i64 y.high, .int .i64 y.pieces, .int .i64 y.owner, .int .i64 y.count, .int .i64 y.of] 42) = w8 at *
      obtain ⟨Y, hY⟩ : ∃ Y, wr.heap.size = Y := ⟨_, rfl⟩
      rw [hY] at hyb ⊢
      clear hY
      obtain ⟨e0, e1, e2, e3, e4, e5, e6, e7, e8, e9, e10, e11, e12, e13⟩ := BoxG.pa (x := y) hyb
      obtain ⟨c0, c1, c2, c3, c4, c5, c6, c7, c8, c9, c10, c11, c12, c13⟩ := HX8.out.pa
      clear hyb e1 e2 e4 e5 e6 e7 e8 e9 e10 e11 e12 e13 c0 c1 c3 c4 c5 c6 c7 c8 c9 c10 c11 c12
      by_cases h3 : x.kind = 3
      · have q3 : (x.kind == 3) = true := by simp [h3]
        by_cases hi : y.id = x.of
        · have qi : (y.id == x.of) = true := by simp [hi]
          have HE := Lib.hid (show ofStep x ov y = y.loss from by unfold ofStep; rw [if_pos ⟨h3, hi⟩])
          clear h3 hi
          go_wp2_with fail
          exact ⟨⟨k + 1, by omega, by go_num, by rw [HSt.out, HE.out], HB8.out⟩, by simp [intOf]; omega⟩
        · have qi : (y.id == x.of) = false := by simp [hi]
          have HE := Lib.hid (show ofStep x ov y = ov from by unfold ofStep; rw [if_neg (fun h => hi h.2)])
          clear h3 hi
          go_wp2_with fail
          exact ⟨⟨k + 1, by omega, by go_num, by rw [HSt.out, HE.out], HB8.out⟩, by simp [intOf]; omega⟩
      · have q3 : (x.kind == 3) = false := by simp [h3]
        have HE := Lib.hid (show ofStep x ov y = ov from by unfold ofStep; rw [if_neg (fun h => h3 h.1)])
        clear h3
        go_wp2_with fail
        exact ⟨⟨k + 1, by omega, by go_num, by rw [HSt.out, HE.out], HB8.out⟩, by simp [intOf]; omega⟩
    · have hltg : ¬ (k : Int) < (n : Int) := by omega
      have hof : ofO x xs = ov := by
        rw [← hov, List.take_of_length_le (by rw [Hlen.out]; omega)]; rfl
      have HVr := Lib.hid (HV.out.below' HBr.out)
      clear hov hlt HBr HX5 HB5 HV
      obtain ⟨c0, c1, c2, c3, c4, c5, c6, c7, c8, c9, c10, c11, c12, c13⟩ := HXr.out.pa
      clear c0 c2 c3 c4 c5 c6 c7 c8 c9 c10 c11 c12 c13
      by_cases hgo : G = 0 ∧ ¬ (x.known ≤ known ∧ ov = loss)
      case neg =>
        have HOr := Lib.hid hgo
        clear hgo hof
        by_cases hG : G = 0
        · have q1 : (G != 0) = false := by simp [hG]
          have hk1 : x.known ≤ known ∧ ov = loss := Classical.byContradiction fun h => HOr.out ⟨hG, h⟩
          have q2 : decide (x.known ≤ known) = true := decide_eq_true hk1.1
          have q3 : (ov == loss) = true := by simp [hk1.2]
          clear hk1 hG
          go_wp2_with fail
          refine (CA.out _ HBw.out).mono ?_
          rintro e w9 ⟨rfl, hS⟩
          have HBf := Lib.hid (HBw.out.trans (hS.mono HBw.out.size))
          clear hS
          go_wp2_with fail
          go_ret
          exact ⟨rfl, HBf.out⟩
        · have q1 : (G != 0) = true := by simp [hG]
          clear hG
          go_wp2_with fail
          refine (CA.out _ HBw.out).mono ?_
          rintro e w9 ⟨rfl, hS⟩
          have HBf := Lib.hid (HBw.out.trans (hS.mono HBw.out.size))
          clear hS
          go_wp2_with fail
          go_ret
          exact ⟨rfl, HBf.out⟩
      case pos =>
      obtain ⟨hG0, hnk⟩ := hgo
      have hcf : (checkC xs).2 = 0 ∧ followsL xs x = 0 := by
        have h1 := HG.out
        rw [hG0] at h1
        unfold appE at h1
        split at h1
        · rename_i h2; exact ⟨h2, h1⟩
        · rename_i h2; exact absurd h1 h2
      have hRR : R = xs ++ [x] := by rw [← HRr.out]; unfold appR; rw [if_pos hcf.1, if_pos hcf.2]
      have hall := others_all (known := known) (loss := loss) hcf.1 hcf.2 (by
        rw [hof]
        by_cases hk : x.known ≤ known
        · exact .inr (fun e => hnk ⟨hk, e⟩)
        · exact .inl (by omega))
      have HSa : Hid (∀ y ∈ xs ++ [x], y.Short) := Lib.hid (fun y hy => by
        rcases List.mem_append.1 hy with hy | hy
        · exact HS.out y hy
        · rw [List.mem_singleton.1 hy]; exact HSx.out)
      have q1 : (G != 0) = false := by simp [hG0]
      have hwn : (weightsV xs known loss).length ≤ 1000 := by
        unfold weightsV
        split
        · rename_i hh
          have := (mani_ok (check_good hcf.1).1 known loss).ln
          unfold weightsL; rw [List.length_map]; omega
        · simp
      rw [hRR] at HVr
      have C5 := Lib.hid (fun W (hW : Below w.heap.size w W) => weights_any a n cap xs HS.out known loss W (HR0.out.below' hW) hcap)
      have C6 := Lib.hid (fun W (hW : Below wr.heap.size wr W) => weights_any va vn vc (xs ++ [x]) HSa.out known loss W (HVr.out.below' hW) hvc)
      have C7 := Lib.hid (fun W (hW : Below w.heap.size w W) => (doubt_any a n cap xs HS.out known loss W (HR0.out.below' hW) hcap).mono (fun _ _ h => doubt_post (by rw [Hlen.out]; omega) h))
      have C8 := Lib.hid (fun W (hW : Below wr.heap.size wr W) => (doubt_any va vn vc (xs ++ [x]) HSa.out known loss W (HVr.out.below' hW) hvc).mono (fun _ _ h => doubt_post (by rw [List.length_append, Hlen.out]; simp; omega) h))
      obtain ⟨g1, g2, g3, g4, g5⟩ := hall
      rw [g1, g2] at C6
      rw [g3, g4, g5] at C8
      unfold WeightsPost at C5 C6
      unfold DoubtPost2 at C7 C8
      obtain ⟨WV, hWV⟩ : ∃ v, weightsV xs known loss = v := ⟨_, rfl⟩
      obtain ⟨WE, hWE⟩ : ∃ v, weighE xs known loss true = v := ⟨_, rfl⟩
      obtain ⟨DV, hDV⟩ : ∃ v, doubtV xs known loss = v := ⟨_, rfl⟩
      obtain ⟨DI, hDI⟩ : ∃ v, doubtIs xs known loss = v := ⟨_, rfl⟩
      obtain ⟨DE, hDE⟩ : ∃ v, rootE xs known loss true = v := ⟨_, rfl⟩
      rw [hWV, hWE] at C5 C6
      rw [hDV, hDI, hDE] at C7 C8
      have hEE : (WE == WE) = true := by simp
      have hDD : (DI == DI) = true := by simp
      have hFF : (DE == DE) = true := by simp
      have HKn := Lib.hid hnk
      clear g1 g2 g3 g4 g5 hWV hWE hDV hDI hDE hRR hcf hof hG0 hnk hwn HG HRr
      have hk2 : decide (x.known ≤ known) = false ∨ (decide (x.known ≤ known) = true ∧ (ov == loss) = false) := by
        by_cases hk : x.known ≤ known
        · exact .inr ⟨decide_eq_true hk, by rw [beq_eq_false_iff_ne]; exact fun e => HKn.out ⟨hk, e⟩⟩
        · exact .inl (decide_eq_false hk)
      clear HKn
      go_upto_region 11 with (fail)
      go_cut [73] from 61 to 72 (fun v wx => v = .bool false ∧ wx = wr)
      case first =>
        rcases hk2 with q2 | ⟨q2, q3⟩
        · go_wp2_with fail
          all_goals go_meet
          all_goals exact ⟨rfl, rfl⟩
        · go_wp2_with fail
          all_goals go_meet
          all_goals exact ⟨rfl, rfl⟩
      case rest =>
      obtain ⟨rfl, hwx⟩ := hcut
      subst hwx
      clear hk2 q1 c1
      go_wp2_with fail
      refine (C5.out _ HBw.out).mono ?_
      rintro e w13 ⟨a3, n3, c3, rfl, hr3, hS, _⟩
      have HBx := Lib.hid hS
      have H3 := Lib.hid hr3
      clear hS hr3 C5
      go_wp2_with fail
      refine (C6.out _ HBx.out).mono ?_
      rintro e w14 ⟨a4, n4, c4, rfl, hr4, hS, _⟩
      have HBy := Lib.hid (HBx.out.trans (hS.mono HBx.out.size))
      have H3' := Lib.hid (H3.out.below' hS)
      have H4 := Lib.hid hr4
      clear hS hr4 C6 H3 HBx
      go_wp2_with fail
      refine (C7.out _ (HBw.out.trans (HBy.out.mono HBw.out.size))).mono ?_
      rintro e w15 ⟨a5, n5, c5, rfl, hr5, hS⟩
      have HBz := Lib.hid (HBy.out.trans (hS.mono HBy.out.size))
      have H3 := Lib.hid (H3'.out.below' hS)
      have H4' := Lib.hid (H4.out.below' hS)
      have H5 := Lib.hid hr5
      clear hS hr5 C7 H3' H4 HBy
      go_wp2_with fail
      refine (C8.out _ HBz.out).mono ?_
      rintro e w16 ⟨a6, n6, c6, rfl, hr6, hS⟩
      have HBy := Lib.hid (HBz.out.trans (hS.mono HBz.out.size))
      have HBf := Lib.hid (HBw.out.trans (HBy.out.mono HBw.out.size))
      have H3' := Lib.hid (H3.out.below' hS)
      have H4 := Lib.hid (H4'.out.below' hS)
      have H5' := Lib.hid (H5.out.below' hS)
      have H6 := Lib.hid hr6
      clear hS hr6 C8 H3 H4' H5 HBz HBy
      go_wp2_with fail
      refine (CA.out _ HBf.out).mono ?_
      rintro e w17 ⟨rfl, hS⟩
      have HBg := Lib.hid (HBf.out.trans (hS.mono HBf.out.size))
      have CS := Lib.hid (rsame_any a3 a4 n3 n4 c3 c4 WV WV w17 (H3'.out.below' hS) (H4.out.below' hS))
      rw [decide_eq_true rfl] at CS
      have H5 := Lib.hid (H5'.out.below' hS)
      have H6' := Lib.hid (H6.out.below' hS)
      clear hS H3' H4 H5' H6 HBf CA
      go_wp2_with fail
      refine CS.out.mono ?_
      rintro e w18 ⟨rfl, hS⟩
      have HBh := Lib.hid (HBg.out.trans (hS.mono HBg.out.size))
      have CQ := Lib.hid (equalI_any a5 a6 n5 c5 n6 c6 DV DV w18 (H5.out.below' hS) (H6'.out.below' hS))
      rw [decide_eq_true rfl] at CQ
      clear hS H5 H6' HBg CS
      go_wp2_with fail
      refine CQ.out.mono ?_
      rintro e w19 ⟨rfl, hS⟩
      have HBi := Lib.hid (HBh.out.trans (hS.mono HBh.out.size))
      clear hS CQ HBh
      go_wp2_with fail
      go_ret
      exact ⟨rfl, HBi.out⟩
end Go.Proofs.YtmghbbgnenpcaaaGreatDoor
