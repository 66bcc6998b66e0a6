/- The law PurseLines walked. -/
import Derived.Test.YtjleembfocghlaaGreatDoorRead
import Derived.Test.YtjleembfocghlaaGreatDoorRRead
import Derived.Test.YtjleembfocghlaaGreatDoorPurses
set_option linter.unusedSimpArgs false
set_option linter.unusedVariables false
namespace Go.Proofs.YtjleembfocghlaaGreatDoor
open Go.RowKit

theorem lineL_le {p : Po} (h : okPo p) : (lineL p).length ≤ 1000 := by
  have e := spl_line h
  unfold okPo at h
  have l0 := dig_le (n := p.id) (by omega)
  have l1 := dig_le (n := p.hour) (by omega)
  have l3 := dig_le (n := p.party) (by omega)
  have l4 := dig_le (n := p.parcel) (by omega)
  have l5 := dig_le (n := p.amount) (by omega)
  have l6 := dig_le (n := p.reason) (by omega)
  have l7 := dig_le (n := p.known) (by omega)
  unfold lineL headL tailL
  split
  · simp only [List.length_append, List.length_cons, List.length_nil]; omega
  · split <;> (simp only [List.length_append, List.length_cons, List.length_nil]; omega)
theorem readL_kind (l : List UInt8) : 0 ≤ (readL l).1.kind ∧ (readL l).1.kind ≤ 255 := by
  unfold readL
  rcases ans_cases (paA (spl l)) l with ⟨p, h1, h2, h3⟩ | h4
  · rw [h3]
    have := ok_kind h1
    show 0 ≤ p.kind ∧ p.kind ≤ 255
    omega
  · rw [h4]; exact ⟨Int.le_refl _, by decide⟩

set_option maxRecDepth 100000 in
set_option maxHeartbeats 4000000 in
theorem law_lines (p : Po) (l : List UInt8) (w : World) (hp : 0 ≤ p.kind ∧ p.kind ≤ 255) (hw : Laid w) :
    Calls Tryz.prog 3 #[.agg #[.int .i64 p.id, .int .i64 p.hour, .int .u8 p.kind, .int .i64 p.party, .int .i64 p.parcel, .int .i64 p.amount, .int .i64 p.reason, .int .i64 p.known], .string ⟨l.toArray⟩] w fun e w' => e = .returned (.bool true) ∧ Below w.heap.size w w' := by
  have hb0 := al' (Below.refl w.heap.size w) (.cells #[.int .i64 p.id, .int .i64 p.hour, .int .u8 p.kind, .int .i64 p.party, .int .i64 p.parcel, .int .i64 p.amount, .int .i64 p.reason, .int .i64 p.known] 23)
  have hbx := BoxF.made w p 23
  have HB := Lib.hid hb0
  have HX := Lib.hid hbx
  have HW := Lib.hid hw
  have HP := Lib.hid hp
  clear hb0 hbx hw hp
  go_enter Tryz.func3, Tryz.ntmps3
  by_cases hn : 200 < l.length
  · have hn' : (200 : Int) < (l.length : Int) := by omega
    go_wp2_with fail
    refine (purses_any _).mono ?_
    rintro e w1 ⟨rfl, hB⟩
    have HB1 := Lib.hid (below_then HB.out hB (Nat.le_refl _))
    clear hB
    go_wp2_with fail
    go_ret
    exact ⟨rfl, HB1.out⟩
  have hn' : ¬ (200 : Int) < (l.length : Int) := by omega
  have hl : l.length ≤ 1000 := by omega
  have HLl := Lib.hid hl
  clear hn hl
  go_upto_region 1 with (fail)
  generalize w.alloc (.cells #[.int .i64 p.id, .int .i64 p.hour, .int .u8 p.kind, .int .i64 p.party, .int .i64 p.parcel, .int .i64 p.amount, .int .i64 p.reason, .int .i64 p.known] 23) = w1 at *
  obtain ⟨B, hBe⟩ : ∃ B, w.heap.size = B := ⟨_, rfl⟩
  have HBe := Lib.hid hBe
  rw [hBe] at HX HB ⊢
  clear hBe
  obtain ⟨c0, c1, c2, c3, c4, c5, c6, c7⟩ := HX.out.1.cells
  go_wp2_with fail
  refine (write_any p _ (HW.out.below (by rw [HBe.out]; exact HB.out)).tab HP.out.1 HP.out.2).mono ?_
  rintro e w2 ⟨rfl, hB⟩
  have HW2 := Lib.hid ((HW.out.below (by rw [HBe.out]; exact HB.out)).below hB)
  have HX2 := Lib.hid (HX.out.below' hB)
  have HB2 := Lib.hid (below_on HB.out hB (Nat.le_of_eq HBe.out.symm))
  clear hB c0 c1 c2 c3 c4 c5 c6 c7 HX HB HW
  obtain ⟨A, hA⟩ : ∃ A, (if chkPo p = 0 then lineL p else []) = A := ⟨_, rfl⟩
  obtain ⟨ce, hce⟩ : ∃ c, chkPo p = c := ⟨_, rfl⟩
  have HA := Lib.hid (And.intro hA hce)
  rw [hA, hce]
  obtain ⟨c0, c1, c2, c3, c4, c5, c6, c7⟩ := HX2.out.1.cells
  simp only [str]
  go_upto_region 4 with (fail)
  go_wp2_with fail
  refine (rwrite_any p _).mono ?_
  rintro e w3 ⟨rfl, hB⟩
  rw [hA, hce]
  clear hA hce
  simp only [str]
  have HW3 := Lib.hid (HW2.out.below hB)
  have HX3 := Lib.hid (HX2.out.below' hB)
  have HB3 := Lib.hid (below_on HB2.out hB (Nat.le_of_eq HBe.out.symm))
  clear hB c0 c1 c2 c3 c4 c5 c6 c7 HX2 HB2 HW2
  go_wp2_with fail
  refine (read_any l HLl.out _ HW3.out).mono ?_
  rintro e w4 ⟨rfl, hB⟩
  obtain ⟨q, hq⟩ : ∃ q, (readL l).1 = q := ⟨_, rfl⟩
  obtain ⟨g, hg⟩ : ∃ g, (readL l).2 = g := ⟨_, rfl⟩
  have HQ := Lib.hid (And.intro hq hg)
  rw [hq, hg]
  have HW4 := Lib.hid (HW3.out.below hB)
  have HX4 := Lib.hid (HX3.out.below' hB)
  have HB4 := Lib.hid (below_on HB3.out hB (Nat.le_of_eq HBe.out.symm))
  clear hB hq hg HW3 HX3 HB3
  go_upto_region 6 with (fail)
  have hX := BoxF.made w4 q 23
  have hB := al' (Below.refl w4.heap.size w4) (.cells #[.int .i64 q.id, .int .i64 q.hour, .int .u8 q.kind, .int .i64 q.party, .int .i64 q.parcel, .int .i64 q.amount, .int .i64 q.reason, .int .i64 q.known] 23)
  have HW5 := Lib.hid (HW4.out.below hB)
  have HB5 := Lib.hid (below_on HB4.out hB (Nat.le_of_eq HBe.out.symm))
  have HX5 := Lib.hid (HX4.out.below' hB)
  generalize w4.alloc (.cells #[.int .i64 q.id, .int .i64 q.hour, .int .u8 q.kind, .int .i64 q.party, .int .i64 q.parcel, .int .i64 q.amount, .int .i64 q.reason, .int .i64 q.known] 23) = w5 at *
  obtain ⟨B5, hB5⟩ : ∃ B, w4.heap.size = B := ⟨_, rfl⟩
  rw [hB5] at hX ⊢
  have HY5 := Lib.hid hX
  clear hX hB hB5 HW4 HB4 HX4
  go_wp2_with fail
  refine (rread_any l HLl.out _).mono ?_
  rintro e w6 ⟨rfl, hB⟩
  rw [HQ.out.1, HQ.out.2]
  have HW6 := Lib.hid (HW5.out.below hB)
  have HB6 := Lib.hid (below_on HB5.out hB (Nat.le_of_eq HBe.out.symm))
  have HX6 := Lib.hid (HX5.out.below' hB)
  have HY6 := Lib.hid (HY5.out.below' hB)
  clear hB HW5 HB5 HX5 HY5
  go_upto_region 7 with (fail)
  have hX := BoxF.made w6 q 23
  have hB := al' (Below.refl w6.heap.size w6) (.cells #[.int .i64 q.id, .int .i64 q.hour, .int .u8 q.kind, .int .i64 q.party, .int .i64 q.parcel, .int .i64 q.amount, .int .i64 q.reason, .int .i64 q.known] 23)
  have HW7 := Lib.hid (HW6.out.below hB)
  have HB7 := Lib.hid (below_on HB6.out hB (Nat.le_of_eq HBe.out.symm))
  have HX7 := Lib.hid (HX6.out.below' hB)
  have HY7 := Lib.hid (HY6.out.below' hB)
  generalize w6.alloc (.cells #[.int .i64 q.id, .int .i64 q.hour, .int .u8 q.kind, .int .i64 q.party, .int .i64 q.parcel, .int .i64 q.amount, .int .i64 q.reason, .int .i64 q.known] 23) = w7 at *
  obtain ⟨B7, hB7⟩ : ∃ B, w6.heap.size = B := ⟨_, rfl⟩
  rw [hB7] at hX ⊢
  have HZ7 := Lib.hid hX
  clear hX hB hB7 HW6 HB6 HX6 HY6
  obtain ⟨c0, c1, c2, c3, c4, c5, c6, c7⟩ := HY7.out.1.cells
  obtain ⟨d0, d1, d2, d3, d4, d5, d6, d7⟩ := HZ7.out.1.cells
  go_upto_region 9 with (fail)
  clear c0 c1 c2 c3 c4 c5 c6 c7 d0 d1 d2 d3 d4 d5 d6 d7
  by_cases hok : okPo p
  case neg =>
    have hce : ce = 1 := HA.out.2.symm.trans (if_neg hok)
    subst hce
    clear hok
    by_cases hg0 : g = 0
    · have hz : (readL l).2 = 0 := HQ.out.2.trans hg0
      subst hg0
      obtain ⟨ok1, ok2⟩ := line_read hz
      rw [HQ.out.1] at ok1 ok2
      have hkq := readL_kind l
      rw [HQ.out.1] at hkq
      have hc : chkPo q = 0 := if_pos ok1
      have HK := Lib.hid (And.intro hkq (And.intro hc ok2))
      clear hz ok1 ok2 hkq hc
      obtain ⟨c0, c1, c2, c3, c4, c5, c6, c7⟩ := HY7.out.1.cells
      go_wp2_with fail
      refine (write_any q _ HW7.out.tab HK.out.1.1 HK.out.1.2).mono ?_
      rintro e wu ⟨rfl, hB⟩
      rw [HK.out.2.1, if_pos rfl, HK.out.2.2]
      simp only [str]
      have HBu := Lib.hid (below_on HB7.out hB (Nat.le_of_eq HBe.out.symm))
      clear hB c0 c1 c2 c3 c4 c5 c6 c7
      go_wp2_with fail
      refine (purses_any _).mono ?_
      rintro e wv ⟨rfl, hB⟩
      have HBv := Lib.hid (below_on HBu.out hB (Nat.le_of_eq HBe.out.symm))
      clear hB
      go_wp2_with fail
      go_ret
      exact ⟨rfl, by rw [HBe.out]; exact HBv.out⟩
    · have hg1 : (g != 0) = true := by simp [hg0]
      clear hg0
      go_wp2_with fail
      refine (purses_any _).mono ?_
      rintro e wv ⟨rfl, hB⟩
      have HBv := Lib.hid (below_on HB7.out hB (Nat.le_of_eq HBe.out.symm))
      clear hB
      go_wp2_with fail
      go_ret
      exact ⟨rfl, by rw [HBe.out]; exact HBv.out⟩
  have hce : ce = 0 := HA.out.2.symm.trans (if_pos hok)
  subst hce
  have hal : lineL p = A := by have := HA.out.1; rw [HA.out.2, if_pos rfl] at this; exact this
  have HR := Lib.hid (show readL A = (p, 0) from by rw [← hal]; exact read_line hok)
  have HAl := Lib.hid (show A.length ≤ 1000 from by rw [← hal]; exact lineL_le hok)
  clear hok hal
  go_wp2_with fail
  refine (read_any A HAl.out _ HW7.out).mono ?_
  rintro e w8 ⟨rfl, hB⟩
  rw [HR.out]
  dsimp only
  have HW8 := Lib.hid (HW7.out.below hB)
  have HB8 := Lib.hid (below_on HB7.out hB (Nat.le_of_eq HBe.out.symm))
  have HX8 := Lib.hid (HX7.out.below' hB)
  have HY8 := Lib.hid (HY7.out.below' hB)
  have HZ8 := Lib.hid (HZ7.out.below' hB)
  clear hB HW7 HB7 HX7 HY7 HZ7
  go_upto_region 11 with (fail)
  have hX := BoxF.made w8 p 23
  have hB := al' (Below.refl w8.heap.size w8) (.cells #[.int .i64 p.id, .int .i64 p.hour, .int .u8 p.kind, .int .i64 p.party, .int .i64 p.parcel, .int .i64 p.amount, .int .i64 p.reason, .int .i64 p.known] 23)
  have HW9 := Lib.hid (HW8.out.below hB)
  have HB9 := Lib.hid (below_on HB8.out hB (Nat.le_of_eq HBe.out.symm))
  have HX9 := Lib.hid (HX8.out.below' hB)
  have HY9 := Lib.hid (HY8.out.below' hB)
  have HZ9 := Lib.hid (HZ8.out.below' hB)
  generalize w8.alloc (.cells #[.int .i64 p.id, .int .i64 p.hour, .int .u8 p.kind, .int .i64 p.party, .int .i64 p.parcel, .int .i64 p.amount, .int .i64 p.reason, .int .i64 p.known] 23) = w9 at *
  obtain ⟨B9, hB9⟩ : ∃ B, w8.heap.size = B := ⟨_, rfl⟩
  rw [hB9] at hX ⊢
  have HV9 := Lib.hid hX
  clear hX hB hB9 HW8 HB8 HX8 HY8 HZ8
  obtain ⟨c0, c1, c2, c3, c4, c5, c6, c7⟩ := HX9.out.1.cells
  obtain ⟨d0, d1, d2, d3, d4, d5, d6, d7⟩ := HV9.out.1.cells
  go_upto_region 13 with (fail)
  clear c0 c1 c2 c3 c4 c5 c6 c7 d0 d1 d2 d3 d4 d5 d6 d7
  by_cases hg0 : g = 0
  · have hz : (readL l).2 = 0 := HQ.out.2.trans hg0
    subst hg0
    obtain ⟨ok1, ok2⟩ := line_read hz
    rw [HQ.out.1] at ok1 ok2
    have hkq := readL_kind l
    rw [HQ.out.1] at hkq
    have hc : chkPo q = 0 := if_pos ok1
    have HK := Lib.hid (And.intro hkq (And.intro hc ok2))
    clear hz ok1 ok2 hkq hc
    obtain ⟨c0, c1, c2, c3, c4, c5, c6, c7⟩ := HY9.out.1.cells
    go_wp2_with fail
    refine (write_any q _ HW9.out.tab HK.out.1.1 HK.out.1.2).mono ?_
    rintro e wu ⟨rfl, hB⟩
    rw [HK.out.2.1, if_pos rfl, HK.out.2.2]
    simp only [str]
    have HBu := Lib.hid (below_on HB9.out hB (Nat.le_of_eq HBe.out.symm))
    clear hB c0 c1 c2 c3 c4 c5 c6 c7
    go_wp2_with fail
    refine (purses_any _).mono ?_
    rintro e wv ⟨rfl, hB⟩
    have HBv := Lib.hid (below_on HBu.out hB (Nat.le_of_eq HBe.out.symm))
    clear hB
    go_wp2_with fail
    go_ret
    exact ⟨rfl, by rw [HBe.out]; exact HBv.out⟩
  · have hg1 : (g != 0) = true := by simp [hg0]
    clear hg0
    go_wp2_with fail
    refine (purses_any _).mono ?_
    rintro e wv ⟨rfl, hB⟩
    have HBv := Lib.hid (below_on HB9.out hB (Nat.le_of_eq HBe.out.symm))
    clear hB
    go_wp2_with fail
    go_ret
    exact ⟨rfl, by rw [HBe.out]; exact HBv.out⟩
end Go.Proofs.YtjleembfocghlaaGreatDoor
