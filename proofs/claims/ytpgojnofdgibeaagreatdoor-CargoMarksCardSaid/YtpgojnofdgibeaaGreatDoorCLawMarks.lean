/- The law CargoMarks walked. -/
import Derived.Test.YtpgojnofdgibeaaGreatDoorCAlive
import Derived.Test.YtpgojnofdgibeaaGreatDoorCRMark
set_option linter.unusedSimpArgs false
set_option linter.unusedVariables false
namespace Go.Proofs.YtpgojnofdgibeaaGreatDoor
open Go.RowKit Go.Shelf

set_option maxRecDepth 100000 in
set_option maxHeartbeats 4000000 in
theorem law_marks (a b : List UInt8) (w : World) (hw : Laid w) :
    Calls Tryz.prog 3 #[.string ⟨a.toArray⟩, .string ⟨b.toArray⟩] w fun e w' => e = .returned (.bool true) ∧ Below w.heap.size w w' := by
  have CA := Lib.hid (show ∀ W, Below w.heap.size w W → Calls Tryz.prog 8 #[] W fun e w' => e = .returned (.bool true) ∧ Below W.heap.size W w' from fun W hB => alive_any W (hw.below hB))
  have HB := Lib.hid (Below.refl w.heap.size w)
  clear hw
  by_cases h1 : 100 < a.length
  · have h1' : (100 : Int) < (a.length : Int) := by omega
    go_enter Tryz.func3, Tryz.ntmps3
    go_wp2_with fail
    refine (CA.out _ HB.out).mono ?_
    rintro e w1 ⟨rfl, hS⟩
    have HB' := Lib.hid (below_on HB.out hS (Nat.le_refl _))
    clear hS HB
    have HB := Lib.hid HB'.out
    clear HB'
    go_wp2_with fail
    go_ret
    exact ⟨rfl, HB.out⟩
  have h1' : ¬ (100 : Int) < (a.length : Int) := by omega
  by_cases h2 : 100 < b.length
  · have h2' : (100 : Int) < (b.length : Int) := by omega
    go_enter Tryz.func3, Tryz.ntmps3
    go_wp2_with fail
    refine (CA.out _ HB.out).mono ?_
    rintro e w1 ⟨rfl, hS⟩
    have HB' := Lib.hid (below_on HB.out hS (Nat.le_refl _))
    clear hS HB
    have HB := Lib.hid HB'.out
    clear HB'
    go_wp2_with fail
    go_ret
    exact ⟨rfl, HB.out⟩
  have h2' : ¬ (100 : Int) < (b.length : Int) := by omega
  have ha : a.length ≤ 9223372036854775806 := by omega
  have hb : b.length ≤ 9223372036854775806 := by omega
  obtain ⟨M, hM⟩ : ∃ M, meetL a b = M := ⟨_, rfl⟩
  obtain ⟨S, hS⟩ : ∃ S, signsL a = S := ⟨_, rfl⟩
  obtain ⟨T, hT⟩ : ∃ T, signsL b = T := ⟨_, rfl⟩
  have C1 := Lib.hid (show ∀ W, Calls Tryz.prog 9 #[.string ⟨a.toArray⟩, .string ⟨b.toArray⟩] W fun e w' => e = .returned (.bool M) ∧ Below W.heap.size W w' from fun W => by rw [← hM]; exact meet_any a b ha hb W)
  have C2 := Lib.hid (show ∀ W, Calls Tryz.prog 10 #[.string ⟨a.toArray⟩, .string ⟨b.toArray⟩] W fun e w' => e = .returned (.bool M) ∧ Below W.heap.size W w' from fun W => by rw [← hM]; exact rmeet_any a b ha hb W)
  have C3 := Lib.hid (show ∀ W, Calls Tryz.prog 9 #[.string ⟨b.toArray⟩, .string ⟨a.toArray⟩] W fun e w' => e = .returned (.bool M) ∧ Below W.heap.size W w' from fun W => by rw [← hM, meetL_comm]; exact meet_any b a hb ha W)
  have C4 := Lib.hid (show ∀ W, Calls Tryz.prog 11 #[.string ⟨a.toArray⟩] W fun e w' => e = .returned (.int .i64 S) ∧ Below W.heap.size W w' from fun W => by rw [← hS]; exact (signs_any a ha W).mono (by rintro e w' ⟨rfl, rfl⟩; exact ⟨rfl, Below.refl _ _⟩))
  have C5 := Lib.hid (show ∀ W, Calls Tryz.prog 12 #[.string ⟨a.toArray⟩] W fun e w' => e = .returned (.int .i64 S) ∧ Below W.heap.size W w' from fun W => by rw [← hS]; exact (rsigns_any a ha W).mono (by rintro e w' ⟨rfl, rfl⟩; exact ⟨rfl, Below.refl _ _⟩))
  have C6 := Lib.hid (show ∀ W, Calls Tryz.prog 11 #[.string ⟨b.toArray⟩] W fun e w' => e = .returned (.int .i64 T) ∧ Below W.heap.size W w' from fun W => by rw [← hT]; exact (signs_any b hb W).mono (by rintro e w' ⟨rfl, rfl⟩; exact ⟨rfl, Below.refl _ _⟩))
  have C7 := Lib.hid (show isMark a = true → ∀ W, Calls Tryz.prog 9 #[.string ⟨a.toArray⟩, .string ⟨a.toArray⟩] W fun e w' => e = .returned (.bool true) ∧ Below W.heap.size W w' from fun h W => by rw [← meetL_self h]; exact meet_any a a ha ha W)
  have hs1 := signsL_le a
  have hs2 := signsL_le b
  rw [hS] at hs1
  rw [hT] at hs2
  have HK := Lib.hid (show M = true → isMark a = true ∧ a.length = b.length from fun h => meetL_mark (hM.trans h))
  have HN := Lib.hid (show ¬ S = 0 → isMark a = true from fun h => by
    cases e : isMark a with
    | true => rfl
    | false => exact absurd (hS.symm.trans (signsL_mark e)) h)
  clear hM hS hT
  obtain ⟨hs1a, hs1b⟩ := hs1
  obtain ⟨hs2a, hs2b⟩ := hs2
  have HL := Lib.hid (And.intro hs2b (And.intro ha hb))
  clear h1 h2 ha hb
  go_enter Tryz.func3, Tryz.ntmps3
  cases M with
  | false =>
    go_wp2_with fail
    refine (C1.out _).mono ?_
    rintro e w1 ⟨rfl, hS⟩
    have HB' := Lib.hid (below_on HB.out hS (Nat.le_refl _))
    clear hS HB
    have HB := Lib.hid HB'.out
    clear HB'
    go_wp2_with fail
    refine (C2.out _).mono ?_
    rintro e w2 ⟨rfl, hS⟩
    have HB' := Lib.hid (below_on HB.out hS (Nat.le_refl _))
    clear hS HB
    have HB := Lib.hid HB'.out
    clear HB'
    go_wp2_with fail
    refine (C4.out _).mono ?_
    rintro e w3 ⟨rfl, hS⟩
    have HB' := Lib.hid (below_on HB.out hS (Nat.le_refl _))
    clear hS HB
    have HB := Lib.hid HB'.out
    clear HB'
    go_wp2_with fail
    refine (C5.out _).mono ?_
    rintro e w4 ⟨rfl, hS⟩
    have HB' := Lib.hid (below_on HB.out hS (Nat.le_refl _))
    clear hS HB
    have HB := Lib.hid HB'.out
    clear HB'
    go_wp2_with fail
    refine (C3.out _).mono ?_
    rintro e w5 ⟨rfl, hS⟩
    have HB' := Lib.hid (below_on HB.out hS (Nat.le_refl _))
    clear hS HB
    have HB := Lib.hid HB'.out
    clear HB'
    go_wp2_with fail
    refine (CA.out _ HB.out).mono ?_
    rintro e w6 ⟨rfl, hS⟩
    have HB' := Lib.hid (below_on HB.out hS (Nat.le_refl _))
    clear hS HB
    have HB := Lib.hid HB'.out
    clear HB'
    go_wp2_with fail
    refine (C4.out _).mono ?_
    rintro e w7 ⟨rfl, hS⟩
    have HB' := Lib.hid (below_on HB.out hS (Nat.le_refl _))
    clear hS HB
    have HB := Lib.hid HB'.out
    clear HB'
    go_wp2_with fail
    refine (C4.out _).mono ?_
    rintro e w8 ⟨rfl, hS⟩
    have HB' := Lib.hid (below_on HB.out hS (Nat.le_refl _))
    clear hS HB
    have HB := Lib.hid HB'.out
    clear HB'
    by_cases hz : S = 0
    · have hz' : (S == 0) = true := by simp [hz]
      clear hz
      go_wp2_with fail
      go_ret
      exact ⟨rfl, HB.out⟩
    · have hz' : (S == 0) = false := by simp [hz]
      have C8 := Lib.hid (C7.out (HN.out hz))
      clear hz
      go_wp2_with fail
      refine (C8.out _).mono ?_
      rintro e w9 ⟨rfl, hS⟩
      have HB' := Lib.hid (below_on HB.out hS (Nat.le_refl _))
      clear hS HB
      have HB := Lib.hid HB'.out
      clear HB'
      go_wp2_with fail
      go_ret
      exact ⟨rfl, HB.out⟩
  | true =>
    obtain ⟨hk1, hk2⟩ := HK.out rfl
    have C8 := Lib.hid (C7.out hk1)
    have hTa : T ≤ (a.length : Int) := by have := HL.out.1; omega
    clear hk1 hk2
    go_wp2_with fail
    refine (C1.out _).mono ?_
    rintro e w1 ⟨rfl, hS⟩
    have HB' := Lib.hid (below_on HB.out hS (Nat.le_refl _))
    clear hS HB
    have HB := Lib.hid HB'.out
    clear HB'
    go_wp2_with fail
    refine (C2.out _).mono ?_
    rintro e w2 ⟨rfl, hS⟩
    have HB' := Lib.hid (below_on HB.out hS (Nat.le_refl _))
    clear hS HB
    have HB := Lib.hid HB'.out
    clear HB'
    go_wp2_with fail
    refine (C4.out _).mono ?_
    rintro e w3 ⟨rfl, hS⟩
    have HB' := Lib.hid (below_on HB.out hS (Nat.le_refl _))
    clear hS HB
    have HB := Lib.hid HB'.out
    clear HB'
    go_wp2_with fail
    refine (C5.out _).mono ?_
    rintro e w4 ⟨rfl, hS⟩
    have HB' := Lib.hid (below_on HB.out hS (Nat.le_refl _))
    clear hS HB
    have HB := Lib.hid HB'.out
    clear HB'
    go_wp2_with fail
    refine (C3.out _).mono ?_
    rintro e w5 ⟨rfl, hS⟩
    have HB' := Lib.hid (below_on HB.out hS (Nat.le_refl _))
    clear hS HB
    have HB := Lib.hid HB'.out
    clear HB'
    go_wp2_with fail
    refine (C8.out _).mono ?_
    rintro e w6 ⟨rfl, hS⟩
    have HB' := Lib.hid (below_on HB.out hS (Nat.le_refl _))
    clear hS HB
    have HB := Lib.hid HB'.out
    clear HB'
    go_wp2_with fail
    refine (C4.out _).mono ?_
    rintro e w7 ⟨rfl, hS⟩
    have HB' := Lib.hid (below_on HB.out hS (Nat.le_refl _))
    clear hS HB
    have HB := Lib.hid HB'.out
    clear HB'
    by_cases hq : S = (a.length : Int)
    · have hq' : (S == (a.length : Int)) = true := by simp [hq]
      have hq2 : ¬ S < T := by omega
      clear hq
      go_wp2_with fail
      refine (C6.out _).mono ?_
      rintro e w8 ⟨rfl, hS⟩
      have HB' := Lib.hid (below_on HB.out hS (Nat.le_refl _))
      clear hS HB
      have HB := Lib.hid HB'.out
      clear HB'
      go_wp2_with fail
      refine (C4.out _).mono ?_
      rintro e w9 ⟨rfl, hS⟩
      have HB' := Lib.hid (below_on HB.out hS (Nat.le_refl _))
      clear hS HB
      have HB := Lib.hid HB'.out
      clear HB'
      go_wp2_with fail
      refine (CA.out _ HB.out).mono ?_
      rintro e w10 ⟨rfl, hS⟩
      have HB' := Lib.hid (below_on HB.out hS (Nat.le_refl _))
      clear hS HB
      have HB := Lib.hid HB'.out
      clear HB'
      go_wp2_with fail
      refine (C4.out _).mono ?_
      rintro e w11 ⟨rfl, hS⟩
      have HB' := Lib.hid (below_on HB.out hS (Nat.le_refl _))
      clear hS HB
      have HB := Lib.hid HB'.out
      clear HB'
      go_wp2_with fail
      refine (C4.out _).mono ?_
      rintro e w12 ⟨rfl, hS⟩
      have HB' := Lib.hid (below_on HB.out hS (Nat.le_refl _))
      clear hS HB
      have HB := Lib.hid HB'.out
      clear HB'
      by_cases hz : S = 0
      · have hz' : (S == 0) = true := by simp [hz]
        clear hz
        go_wp2_with fail
        go_ret
        exact ⟨rfl, HB.out⟩
      · have hz' : (S == 0) = false := by simp [hz]
        have C8 := Lib.hid (C7.out (HN.out hz))
        clear hz
        go_wp2_with fail
        refine (C8.out _).mono ?_
        rintro e w13 ⟨rfl, hS⟩
        have HB' := Lib.hid (below_on HB.out hS (Nat.le_refl _))
        clear hS HB
        have HB := Lib.hid HB'.out
        clear HB'
        go_wp2_with fail
        go_ret
        exact ⟨rfl, HB.out⟩
    · have hq' : (S == (a.length : Int)) = false := by simp [hq]
      clear hq
      go_wp2_with fail
      refine (CA.out _ HB.out).mono ?_
      rintro e w8 ⟨rfl, hS⟩
      have HB' := Lib.hid (below_on HB.out hS (Nat.le_refl _))
      clear hS HB
      have HB := Lib.hid HB'.out
      clear HB'
      go_wp2_with fail
      refine (C4.out _).mono ?_
      rintro e w9 ⟨rfl, hS⟩
      have HB' := Lib.hid (below_on HB.out hS (Nat.le_refl _))
      clear hS HB
      have HB := Lib.hid HB'.out
      clear HB'
      go_wp2_with fail
      refine (C4.out _).mono ?_
      rintro e w10 ⟨rfl, hS⟩
      have HB' := Lib.hid (below_on HB.out hS (Nat.le_refl _))
      clear hS HB
      have HB := Lib.hid HB'.out
      clear HB'
      by_cases hz : S = 0
      · have hz' : (S == 0) = true := by simp [hz]
        clear hz
        go_wp2_with fail
        go_ret
        exact ⟨rfl, HB.out⟩
      · have hz' : (S == 0) = false := by simp [hz]
        have C8 := Lib.hid (C7.out (HN.out hz))
        clear hz
        go_wp2_with fail
        refine (C8.out _).mono ?_
        rintro e w11 ⟨rfl, hS⟩
        have HB' := Lib.hid (below_on HB.out hS (Nat.le_refl _))
        clear hS HB
        have HB := Lib.hid HB'.out
        clear HB'
        go_wp2_with fail
        go_ret
        exact ⟨rfl, HB.out⟩
end Go.Proofs.YtpgojnofdgibeaaGreatDoor
