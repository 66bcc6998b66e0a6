/- The walks of the references' Check, SamePostings. -/
import Derived.Test.YtehedodogkhmgaaGreatRefD
import Derived.StillTailTactics
set_option linter.unusedSimpArgs false
set_option linter.unusedVariables false
namespace Go.Proofs.YtehedodogkhmgaaGreat
open Go.RowKit

theorem ret_two_int {j k : IntKind} {a b c d : Int} (h : a = b) (h' : c = d) : Ending.returned (.tuple #[.int j a, .int k c]) = .returned (.tuple #[.int j b, .int k d]) := by rw [h, h']

set_option maxRecDepth 100000 in
set_option maxHeartbeats 2000000 in
theorem rcheck_any (a : Option Addr) (n cap : Nat) (xs : List Po) (w : World) (h : Rd Po.vals 8 w a n xs) (hn : n ≤ 1000) (hcap : n ≤ cap) :
    Calls Tryz.prog 66 #[.slice a n cap] w fun e w' =>
      e = .returned (.tuple #[.int .i64 (checkL xs).1, .int .i64 (checkL xs).2]) ∧ Below w.heap.size w w' := by
  have Hl := Lib.hid h.len
  go_enter Tryz.func66, Tryz.ntmps66
  go_wp2_with fail
  go_loopw [4] (fun i wr => ∃ k : Nat, k ≤ n ∧ i = .int .i64 k ∧ checkAux (xs.take k) (xs.drop k) = checkL xs ∧ Okl (xs.take k) ∧ Below w.heap.size w wr) (fun i _ => n - (intOf i).toNat)
  case atStart => exact ⟨0, Nat.zero_le _, rfl, rfl, by intro p hp; simp at hp, Below.refl _ _⟩
  case round =>
    obtain ⟨k, hk, rfl, hch, hok, hB⟩ := hrel
    have h1 := h.below' hB
    have Hch := Lib.hid hch
    have Hok := Lib.hid hok
    have HB := Lib.hid hB
    clear hch hok hB h
    by_cases hlt : k < n
    · obtain ⟨b, off, x, rfl, hb, hx, x0, x1, x2, x3, x4, x5, x6, x7⟩ := h1.po hlt
      have Hx := Lib.hid hx
      clear hx
      have hkc : k ≤ cap := by omega
      go_wp2_with fail
      go_still_tail 8, (by kernel_rfl)
      change wpList _ _ _ _ _ wr.drew
      go_wp2_with fail
      refine (refused_any (some ⟨b, off, none⟩) k k (xs.take k) x _ ((h1.below' (drewN_below wr 1)).take hk) (by omega) Hok.out.am).mono ?_
      rintro e w2 ⟨rfl, hB2⟩
      have hB3 := below_then (below_drewN HB.out 1) hB2 (Nat.le_refl _)
      have HB3 := Lib.hid hB3
      clear hB2 hB3
      have hdrop : xs.drop k = x :: xs.drop (k + 1) := by
        have hl : k < xs.length := by rw [Hl.out]; exact hlt
        rw [List.drop_eq_getElem_cons hl]
        have := Hx.out
        rw [List.getElem?_eq_getElem hl] at this
        rw [Option.some.inj this]
      have Hd := Lib.hid hdrop
      clear hdrop
      have Hsn := Lib.hid (take_succ_snoc Hx.out)
      by_cases hr : refusedL (xs.take k) x = 0
      · have hr1 : (refusedL (xs.take k) x != 0) = false := by simp [hr]
        have Hr := Lib.hid hr
        clear hr
        go_wp2_with fail
        refine ⟨⟨k + 1, by omega, by go_num, ?_, ?_, HB3.out⟩, by simp [intOf]; omega⟩
        · have := Hch.out
          rw [Hd.out, checkAux_go Hr.out] at this
          rw [Hsn.out]
          exact this
        · rw [Hsn.out]
          exact Hok.out.snoc (refusedL_ok Hr.out)
      · have hr1 : (refusedL (xs.take k) x != 0) = true := by simp [hr]
        have Hr := Lib.hid hr
        clear hr
        go_wp2_with fail
        go_ret2
        refine ⟨?_, HB3.out⟩
        have := Hch.out
        rw [Hd.out, checkAux_stop Hr.out] at this
        exact ret_two_int (by rw [← this]; simp [Hl.out]; omega) (by rw [← this])
    · go_wp2_with fail
      go_ret2
      refine ⟨?_, HB.out⟩
      have := Hch.out
      rw [List.drop_of_length_le (by rw [Hl.out]; omega), checkAux_end] at this
      exact ret_two_int (by rw [← this]; rfl) (by rw [← this])
end Go.Proofs.YtehedodogkhmgaaGreat
