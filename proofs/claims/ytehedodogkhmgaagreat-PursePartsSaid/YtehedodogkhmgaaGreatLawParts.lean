/- PurseParts returns true: Upto, OfParcel, Sold, Has, Held and HeldOf return what the reference returns. -/
import Derived.Test.YtehedodogkhmgaaGreatOfParcel
import Derived.Test.YtehedodogkhmgaaGreatRefF
import Derived.Test.YtehedodogkhmgaaGreatPurses
set_option linter.unusedSimpArgs false
set_option linter.unusedVariables false
namespace Go.Proofs.YtehedodogkhmgaaGreat
open Go.RowKit Go.Shelf

theorem HeldPost.pair {w w' : World} {xs : List Po} {e : Ending} (h : HeldPost w xs e w') : Below w.heap.size w w' ∧ e = .returned (.tuple #[.int .i64 (if (checkL xs).2 = 0 then totL xs else 0), .int .i64 (checkL xs).2]) := by
  obtain ⟨hB, ⟨hc, rfl⟩ | ⟨hc, rfl⟩⟩ := h
  · exact ⟨hB, by rw [if_neg hc]⟩
  · exact ⟨hB, by rw [if_pos hc, hc]⟩

set_option maxRecDepth 100000 in
set_option maxHeartbeats 8000000 in
theorem law_parts (a : Option Addr) (n cap : Nat) (xs : List Po) (hour parcel party : Int) (w : World) (h : Rd Po.vals 8 w a n xs) (hw : ∀ p ∈ xs, p.Wf) (hcap : n ≤ cap) (hz : a = none → cap = 0) (_ : I64 hour) (hp2 : I64 parcel) (hp1 : I64 party) :
    Calls Tryz.prog 4 #[.slice a n cap, .int .i64 hour, .int .i64 parcel, .int .i64 party] w fun e w' => e = .returned (.bool true) ∧ Below w.heap.size w w' := by
  have Hl := Lib.hid h.len
  have Hw := Lib.hid hw
  have H0 := Lib.hid h
  have HP1 := Lib.hid hp1
  have HP2 := Lib.hid hp2
  have HB0 := Lib.hid (Below.refl w.heap.size w)
  clear h hw hz hp1 hp2
  go_enter Tryz.func4, Tryz.ntmps4
  by_cases hn : 24 < n
  · have hn' : (24 : Int) < (n : Int) := by omega
    go_wp2_with fail
    refine (purses_any _).mono ?_
    rintro e w1 ⟨rfl, hB⟩
    have HB := Lib.hid hB
    clear hB
    go_wp2_with fail
    go_ret
    exact ⟨rfl, HB.out⟩
  have hn' : ¬ (24 : Int) < (n : Int) := by omega
  obtain ⟨va, hva⟩ : ∃ v, (soldR xs parcel).1 = v := ⟨_, rfl⟩
  obtain ⟨ve, hve⟩ : ∃ v, (soldR xs parcel).2 = v := ⟨_, rfl⟩
  obtain ⟨vc, hvc⟩ : ∃ v, (if askE xs parcel party = 0 then hasL xs party parcel else 0) = v := ⟨_, rfl⟩
  obtain ⟨vg, hvg⟩ : ∃ v, askE xs parcel party = v := ⟨_, rfl⟩
  obtain ⟨vt, hvt⟩ : ∃ v, (if (checkL xs).2 = 0 then totL xs else 0) = v := ⟨_, rfl⟩
  obtain ⟨vk, hvk⟩ : ∃ v, (checkL xs).2 = v := ⟨_, rfl⟩
  obtain ⟨vh, hvh⟩ : ∃ v, (if askE xs parcel 0 = 0 then heldL xs parcel else 0) = v := ⟨_, rfl⟩
  obtain ⟨vi, hvi⟩ : ∃ v, askE xs parcel 0 = v := ⟨_, rfl⟩
  have c1 : ∀ W, Rd Po.vals 8 W a n xs → Calls Tryz.prog 15 #[.slice a n cap, .int .i64 parcel] W fun e w' => Below W.heap.size W w' ∧ e = .returned (.tuple #[.int .i64 va, .int .i64 ve]) := fun W h => by rw [← hva, ← hve]; exact sold_all a n cap xs parcel W h Hw.out HP2.out
  have c2 : ∀ W, Rd Po.vals 8 W a n xs → Calls Tryz.prog 16 #[.slice a n cap, .int .i64 parcel] W fun e w' => Below W.heap.size W w' ∧ e = .returned (.tuple #[.int .i64 va, .int .i64 ve]) := fun W h => by rw [← hva, ← hve]; exact rSold_any a n cap xs parcel W h (by omega) hcap
  have c3 : ∀ W, Rd Po.vals 8 W a n xs → Calls Tryz.prog 17 #[.slice a n cap, .int .i64 party, .int .i64 parcel] W fun e w' => Below W.heap.size W w' ∧ e = .returned (.tuple #[.int .i64 vc, .int .i64 vg]) := fun W h => by rw [← hvc, ← hvg]; exact has_all a n cap xs party parcel W h Hw.out HP1.out HP2.out
  have c4 : ∀ W, Rd Po.vals 8 W a n xs → Calls Tryz.prog 18 #[.slice a n cap, .int .i64 party, .int .i64 parcel] W fun e w' => Below W.heap.size W w' ∧ e = .returned (.tuple #[.int .i64 vc, .int .i64 vg]) := fun W h => by rw [← hvc, ← hvg]; exact rHas_any a n cap xs party parcel W h (by omega) hcap
  have c5 : ∀ W, Rd Po.vals 8 W a n xs → Calls Tryz.prog 19 #[.slice a n cap] W fun e w' => Below W.heap.size W w' ∧ e = .returned (.tuple #[.int .i64 vt, .int .i64 vk]) := fun W h => by rw [← hvt, ← hvk]; exact (held_all a n cap xs W h Hw.out).mono fun _ _ hp => hp.pair
  have c6 : ∀ W, Rd Po.vals 8 W a n xs → Calls Tryz.prog 20 #[.slice a n cap] W fun e w' => Below W.heap.size W w' ∧ e = .returned (.tuple #[.int .i64 vt, .int .i64 vk]) := fun W h => by rw [← hvt, ← hvk]; exact (rHeld_any a n cap xs W h (by omega) hcap).mono fun _ _ hp => hp.pair
  have c7 : ∀ W, Rd Po.vals 8 W a n xs → Calls Tryz.prog 21 #[.slice a n cap, .int .i64 parcel] W fun e w' => Below W.heap.size W w' ∧ e = .returned (.tuple #[.int .i64 vh, .int .i64 vi]) := fun W h => by rw [← hvh, ← hvi]; exact heldOf_all a n cap xs parcel W h Hw.out HP2.out
  have c8 : ∀ W, Rd Po.vals 8 W a n xs → Calls Tryz.prog 22 #[.slice a n cap, .int .i64 parcel] W fun e w' => Below W.heap.size W w' ∧ e = .returned (.tuple #[.int .i64 vh, .int .i64 vi]) := fun W h => by rw [← hvh, ← hvi]; exact rHeldOf_any a n cap xs parcel W h (by omega) hcap
  have C1 := Lib.hid c1
  have C2 := Lib.hid c2
  have C3 := Lib.hid c3
  have C4 := Lib.hid c4
  have C5 := Lib.hid c5
  have C6 := Lib.hid c6
  have C7 := Lib.hid c7
  have C8 := Lib.hid c8
  clear c1 c2 c3 c4 c5 c6 c7 c8 hva hve hvc hvg hvt hvk hvh hvi
  go_wp2_with fail
  refine (C1.out _ H0.out).mono ?_
  rintro e w1 ⟨hB, rfl⟩
  have H1 := Lib.hid (H0.out.below' hB)
  have HB1 := Lib.hid (below_then HB0.out hB (Nat.le_refl _))
  clear hB H0 HB0
  go_wp2_with fail
  refine (C2.out _ H1.out).mono ?_
  rintro e w2 ⟨hB, rfl⟩
  have H2 := Lib.hid (H1.out.below' hB)
  have HB2 := Lib.hid (below_then HB1.out hB (Nat.le_refl _))
  clear hB H1 HB1
  go_wp2_with fail
  refine (C3.out _ H2.out).mono ?_
  rintro e w3 ⟨hB, rfl⟩
  have H3 := Lib.hid (H2.out.below' hB)
  have HB3 := Lib.hid (below_then HB2.out hB (Nat.le_refl _))
  clear hB H2 HB2
  go_wp2_with fail
  refine (C4.out _ H3.out).mono ?_
  rintro e w4 ⟨hB, rfl⟩
  have H4 := Lib.hid (H3.out.below' hB)
  have HB4 := Lib.hid (below_then HB3.out hB (Nat.le_refl _))
  clear hB H3 HB3
  go_wp2_with fail
  refine (C5.out _ H4.out).mono ?_
  rintro e w5 ⟨hB, rfl⟩
  have H5 := Lib.hid (H4.out.below' hB)
  have HB5 := Lib.hid (below_then HB4.out hB (Nat.le_refl _))
  clear hB H4 HB4
  go_wp2_with fail
  refine (C6.out _ H5.out).mono ?_
  rintro e w6 ⟨hB, rfl⟩
  have H6 := Lib.hid (H5.out.below' hB)
  have HB6 := Lib.hid (below_then HB5.out hB (Nat.le_refl _))
  clear hB H5 HB5
  go_wp2_with fail
  refine (C7.out _ H6.out).mono ?_
  rintro e w7 ⟨hB, rfl⟩
  have H7 := Lib.hid (H6.out.below' hB)
  have HB7 := Lib.hid (below_then HB6.out hB (Nat.le_refl _))
  clear hB H6 HB6
  go_wp2_with fail
  refine (C8.out _ H7.out).mono ?_
  rintro e w8 ⟨hB, rfl⟩
  have H8 := Lib.hid (H7.out.below' hB)
  have HB8 := Lib.hid (below_then HB7.out hB (Nat.le_refl _))
  clear hB H7 HB7
  go_wp2_with fail
  refine (purses_any _).mono ?_
  rintro e w9 ⟨rfl, hB⟩
  have H9 := Lib.hid (H8.out.below' hB)
  have HB9 := Lib.hid (below_then HB8.out hB (Nat.le_refl _))
  clear hB H8 HB8
  go_wp2_with fail
  have hl9 : (uptoL xs hour).length ≤ 24 := by
    unfold uptoL someL
    have hl := Hl.out
    split
    · exact Nat.le_trans (List.length_filter_le _ _) (by omega)
    · simp
  refine (upto_any a n cap xs hour _ H9.out (by omega) Hw.out).mono ?_
  rintro e w10 ⟨v, rfl, hrow, hB⟩
  obtain ⟨ba9, bc9, rfl, _, hrd, _⟩ := Rd.of_own hrow po_vals_length (by omega) rfl (by unfold maxLen; omega)
  have HR9 := Lib.hid hrd
  have H10 := Lib.hid (H9.out.below' hB)
  have HB10 := Lib.hid (below_then HB9.out hB (Nat.le_refl _))
  clear hB hrow hrd H9 HB9
  go_wp2_with fail
  refine (rupto_any a n cap xs hour _ H10.out (by omega) hcap).mono ?_
  rintro e w11 ⟨v, rfl, hrow, hB⟩
  obtain ⟨da9, dc9, rfl, _, hrd, _⟩ := Rd.of_own hrow po_vals_length (by omega) rfl (by unfold maxLen; omega)
  have HS9 := Lib.hid (HR9.out.below' hB)
  have HT9 := Lib.hid hrd
  have H11 := Lib.hid (H10.out.below' hB)
  have HB11 := Lib.hid (below_then HB10.out hB (Nat.le_refl _))
  clear hB hrow hrd H10 HB10 HR9
  go_wp2_with fail
  refine (samePostings_any _ _ _ _ _ _ _ _ _ HS9.out HT9.out).mono ?_
  rintro e w12 ⟨rfl, hB⟩
  have hd : decide (uptoL xs hour = uptoL xs hour) = true := by simp
  rw [hd]
  have H12 := Lib.hid (H11.out.below' hB)
  have HB12 := Lib.hid (below_then HB11.out hB (Nat.le_refl _))
  clear hB hd H11 HB11 HS9 HT9
  go_wp2_with fail
  have hl12 : (ofParcelL xs parcel).length ≤ 24 := by
    unfold ofParcelL someL
    have hl := Hl.out
    split
    · exact Nat.le_trans (List.length_filter_le _ _) (by omega)
    · simp
  refine (ofParcel_any a n cap xs parcel _ H12.out (by omega) Hw.out).mono ?_
  rintro e w13 ⟨v, rfl, hrow, hB⟩
  obtain ⟨ba12, bc12, rfl, _, hrd, _⟩ := Rd.of_own hrow po_vals_length (by omega) rfl (by unfold maxLen; omega)
  have HR12 := Lib.hid hrd
  have H13 := Lib.hid (H12.out.below' hB)
  have HB13 := Lib.hid (below_then HB12.out hB (Nat.le_refl _))
  clear hB hrow hrd H12 HB12
  go_wp2_with fail
  refine (rofParcel_any a n cap xs parcel _ H13.out (by omega) hcap).mono ?_
  rintro e w14 ⟨v, rfl, hrow, hB⟩
  obtain ⟨da12, dc12, rfl, _, hrd, _⟩ := Rd.of_own hrow po_vals_length (by omega) rfl (by unfold maxLen; omega)
  have HS12 := Lib.hid (HR12.out.below' hB)
  have HT12 := Lib.hid hrd
  have H14 := Lib.hid (H13.out.below' hB)
  have HB14 := Lib.hid (below_then HB13.out hB (Nat.le_refl _))
  clear hB hrow hrd H13 HB13 HR12
  go_wp2_with fail
  refine (samePostings_any _ _ _ _ _ _ _ _ _ HS12.out HT12.out).mono ?_
  rintro e w15 ⟨rfl, hB⟩
  have hd : decide (ofParcelL xs parcel = ofParcelL xs parcel) = true := by simp
  rw [hd]
  have H15 := Lib.hid (H14.out.below' hB)
  have HB15 := Lib.hid (below_then HB14.out hB (Nat.le_refl _))
  clear hB hd H14 HB14 HS12 HT12
  go_wp2_with fail
  go_ret
  exact ⟨rfl, HB15.out⟩
end Go.Proofs.YtehedodogkhmgaaGreat
