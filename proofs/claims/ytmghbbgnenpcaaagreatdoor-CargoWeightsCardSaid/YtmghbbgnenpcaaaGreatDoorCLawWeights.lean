/- The law CargoWeights walked. -/
import Derived.Test.YtmghbbgnenpcaaaGreatDoorCRWeights
set_option linter.unusedSimpArgs false
set_option linter.unusedVariables false
namespace Go.Proofs.YtmghbbgnenpcaaaGreatDoor
open Go.RowKit Go.Shelf

set_option maxRecDepth 100000 in
set_option maxHeartbeats 8000000 in
theorem law_weights (a : Option Addr) (n cap : Nat) (xs : List Pa) (known loss pack : Int) (w : World) (h : Rd Pa.vals 14 w a n xs) (hz : a = none → cap = 0) (hcap : n ≤ cap) (hw : Laid w) :
    Calls Tryz.prog 4 #[.slice a n cap, .int .i64 known, .int .i64 loss, .int .i64 pack] w fun e w' => e = .returned (.bool true) ∧ Below w.heap.size w w' := by
  have CA := Lib.hid (show ∀ W, Below w.heap.size w W → Calls Tryz.prog 12 #[] W fun e w' => e = .returned (.bool true) ∧ Below W.heap.size W w' from fun W hB => alive_any W (hw.below hB))
  have CF := Lib.hid (lfew_any a n cap xs w h)
  have HR := Lib.hid h
  have Hlen := Lib.hid h.len
  clear h hw hz
  obtain ⟨F1, hF1⟩ : ∃ b, fewB xs 30 = b := ⟨_, rfl⟩
  rw [hF1] at CF
  have HF := Lib.hid hF1
  clear hF1
  have HB0 := Lib.hid (Below.refl w.heap.size w)
  go_enter Tryz.func4, Tryz.ntmps4
  go_wp2_with fail
  refine CF.out.mono ?_
  rintro e w2 ⟨rfl, hw2⟩
  obtain rfl := hw2.symm
  clear hw2 CF
  have HB := HB0
  clear HB0
  cases F1 with
  | false =>
    go_wp2_with fail
    refine (CA.out _ HB.out).mono ?_
    rintro e w3 ⟨rfl, hS⟩
    have HB' := Lib.hid (HB.out.trans (hS.mono HB.out.size))
    clear hS
    go_wp2_with fail
    go_ret
    exact ⟨rfl, HB'.out⟩
  | true =>
  have HS : ∀ y ∈ xs, y.Short := fun y hy => by have := (few_short HF.out).2 y hy; exact ⟨by omega, by omega⟩
  have hn : n ≤ 1000 := by have h1 := (few_short HF.out).1; rw [Hlen.out] at h1; omega
  have C1 := Lib.hid (fun W (hW : Below w.heap.size w W) => weigh_any a n cap xs HS known loss pack W (HR.out.below' hW) hcap)
  have C2 := Lib.hid (fun W (hW : Below w.heap.size w W) => weigh_r a n cap xs HS known loss pack W (HR.out.below' hW) hcap (by omega))
  have C3 := Lib.hid (fun W (hW : Below w.heap.size w W) => weights_any a n cap xs HS known loss W (HR.out.below' hW) hcap)
  have C4 := Lib.hid (fun W (hW : Below w.heap.size w W) => weights_r a n cap xs HS known loss W (HR.out.below' hW) hcap (by omega))
  unfold WeighedPost at C1 C2
  unfold WeightsPost at C3 C4
  obtain ⟨V1, hV1⟩ : ∃ I, (weighV xs known loss pack).1 = I := ⟨_, rfl⟩
  obtain ⟨V2, hV2⟩ : ∃ I, (weighV xs known loss pack).2 = I := ⟨_, rfl⟩
  obtain ⟨E1, hE1⟩ : ∃ I, weighE xs known loss (hasP xs known loss pack) = I := ⟨_, rfl⟩
  obtain ⟨E2, hE2⟩ : ∃ I, weighE xs known loss true = I := ⟨_, rfl⟩
  obtain ⟨WV, hWV⟩ : ∃ I, weightsV xs known loss = I := ⟨_, rfl⟩
  rw [hV1, hV2, hE1] at C1 C2
  rw [hE2, hWV] at C3 C4
  have hEE : (E1 == E1) = true := by simp
  have hFF : (E2 == E2) = true := by simp
  clear hV1 hV2 hE1 hE2 hWV HF
  go_upto_region 4 with (go_at_call 13; refine (C1.out _ HB.out).mono ?_; rintro e w3 ⟨rfl, hS⟩)
  have hbx := BoxG.made w3 [.int .i64 V1, .int .i64 V2] 26
  have hSx := hS.trans ((al' (Below.refl w3.heap.size w3) (.cells #[.int .i64 V1, .int .i64 V2] 26)).mono hS.size)
  have HB4 := Lib.hid (HB.out.trans (hSx.mono HB.out.size))
  have HX := Lib.hid hbx
  clear hS hSx hbx C1 HB
  generalize w3.alloc (.cells #[.int .i64 V1, .int .i64 V2] 26) = w4 at *
  obtain ⟨X, hXe⟩ : ∃ X, w3.heap.size = X := ⟨_, rfl⟩
  rw [hXe] at HX ⊢
  clear hXe
  go_upto_region 5 with (go_at_call 18; refine (C2.out _ HB4.out).mono ?_; rintro e w5 ⟨rfl, hS⟩)
  have hbx := BoxG.made w5 [.int .i64 V1, .int .i64 V2] 26
  have hSx := hS.trans ((al' (Below.refl w5.heap.size w5) (.cells #[.int .i64 V1, .int .i64 V2] 26)).mono hS.size)
  have HB6 := Lib.hid (HB4.out.trans (hSx.mono HB4.out.size))
  have HX6 := Lib.hid (HX.out.below' hSx)
  have HY := Lib.hid hbx
  clear hS hSx hbx C2 HB4 HX
  generalize w5.alloc (.cells #[.int .i64 V1, .int .i64 V2] 26) = w6 at *
  obtain ⟨Y, hYe⟩ : ∃ Y, w5.heap.size = Y := ⟨_, rfl⟩
  rw [hYe] at HY ⊢
  clear hYe
  go_wp2_with fail
  refine (C3.out _ HB6.out).mono ?_
  rintro e w7 ⟨a3, n3, c3, rfl, hr3, hS, _⟩
  have HB7 := Lib.hid (HB6.out.trans (hS.mono HB6.out.size))
  have HX7 := Lib.hid (HX6.out.below' hS)
  have HY7 := Lib.hid (HY.out.below' hS)
  have H3 := Lib.hid hr3
  clear hS hr3 C3 HB6 HX6 HY
  go_wp2_with fail
  refine (C4.out _ HB7.out).mono ?_
  rintro e w8 ⟨a4, n4, c4, rfl, hr4, hS, _⟩
  have HB8 := Lib.hid (HB7.out.trans (hS.mono HB7.out.size))
  have HX8 := Lib.hid (HX7.out.below' hS)
  have HY8 := Lib.hid (HY7.out.below' hS)
  have H3' := Lib.hid (H3.out.below' hS)
  have H4 := Lib.hid hr4
  clear hS hr4 C4 HB7 HX7 HY7 H3
  go_wp2_with fail
  refine (CA.out _ HB8.out).mono ?_
  rintro e w9 ⟨rfl, hS⟩
  have HB9 := Lib.hid (HB8.out.trans (hS.mono HB8.out.size))
  have CS := Lib.hid (rsame_any a3 a4 n3 n4 c3 c4 WV WV w9 (H3'.out.below' hS) (H4.out.below' hS))
  rw [decide_eq_true rfl] at CS
  obtain ⟨x0, x1, _, _⟩ := pair_facts (HX8.out.below' hS)
  obtain ⟨y0, y1, _, _⟩ := pair_facts (HY8.out.below' hS)
  clear hS HB8 HX8 HY8 H3' H4
  go_wp2_with fail
  refine CS.out.mono ?_
  rintro e w10 ⟨rfl, hS⟩
  have HBf := Lib.hid (HB9.out.trans (hS.mono HB9.out.size))
  clear hS CS HB9
  go_wp2_with fail
  go_ret
  exact ⟨rfl, HBf.out⟩
end Go.Proofs.YtmghbbgnenpcaaaGreatDoor
