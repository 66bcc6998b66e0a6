/- A law's right; the beginnings of a book. -/
import Derived.Test.YtehedodogkhmgaaGreatPurses
set_option linter.unusedSimpArgs false
set_option linter.unusedVariables false
namespace Go.Proofs.YtehedodogkhmgaaGreat
open Go.RowKit Go.Shelf

theorem book_take_aux : ∀ (r pre : List Po) (i : Nat), (checkAux pre r).2 = 0 → (checkAux pre (r.take i)).2 = 0
  | [], pre, i, h => by simpa using h
  | p :: r, pre, 0, h => by simp [checkAux]
  | p :: r, pre, i + 1, h => by
    by_cases hr : refusedL pre p = 0
    · rw [checkAux_go hr] at h
      rw [List.take_succ_cons, checkAux_go hr]
      exact book_take_aux r _ i h
    · rw [checkAux_stop hr] at h
      exact absurd h hr
theorem book_take {xs : List Po} (h : (checkL xs).2 = 0) (i : Nat) : (checkL (xs.take i)).2 = 0 := book_take_aux xs [] i h
theorem refusedL_hour {xs : List Po} {p : Po} (h : refusedL xs p = 0) (hx : xs ≠ []) : lastHour xs ≤ p.hour := by
  refine Classical.byContradiction fun hc => ?_
  have hok := refusedL_ok h
  have hl := refusedL_len h
  by_cases hi : noId xs p.id
  · rw [refusedL_time (by omega) hok hi hx (by omega)] at h; omega
  · unfold refusedL at h
    rw [if_neg (by omega), if_neg (by simp [hok]), if_pos hi] at h
    omega
theorem sorted_last {xs : List Po} (h : xs.Pairwise (fun a b => a.hour ≤ b.hour)) : ∀ q ∈ xs, q.hour ≤ lastHour xs := by
  intro q hq
  obtain ⟨i, hi, rfl⟩ := List.getElem_of_mem hq
  have hl : xs.length = (xs.length - 1) + 1 := by omega
  rw [lastHour_at (q := xs[xs.length - 1]) hl (List.getElem?_eq_getElem _)]
  by_cases he : i = xs.length - 1
  · subst he; exact Int.le_refl _
  · exact (List.pairwise_iff_getElem.1 h) i (xs.length - 1) hi (by omega) (by omega)
theorem book_sorted_aux : ∀ (r pre : List Po), (checkAux pre r).2 = 0 → pre.Pairwise (fun a b => a.hour ≤ b.hour) → (pre ++ r).Pairwise (fun a b => a.hour ≤ b.hour)
  | [], pre, _, hp => by simpa using hp
  | p :: r, pre, h, hp => by
    by_cases hr : refusedL pre p = 0
    · rw [checkAux_go hr] at h
      have := book_sorted_aux r (pre ++ [p]) h (List.pairwise_append.2 ⟨hp, by simp, fun a ha b hb => by
        rw [List.mem_singleton.1 hb]
        have h1 := sorted_last hp a ha
        have h2 := refusedL_hour hr (fun e => by rw [e] at ha; simp at ha)
        omega⟩)
      simpa using this
    · rw [checkAux_stop hr] at h
      exact absurd h hr
theorem book_sorted {xs : List Po} (h : (checkL xs).2 = 0) : xs.Pairwise (fun a b => a.hour ≤ b.hour) := by
  have := book_sorted_aux xs [] h List.Pairwise.nil
  simpa using this
theorem filter_prefix : ∀ (xs : List Po) (H : Int), xs.Pairwise (fun a b => a.hour ≤ b.hour) → ∃ k, k ≤ xs.length ∧ xs.filter (fun p => decide (p.hour ≤ H)) = xs.take k ∧ (∀ q, xs[k]? = some q → ¬ q.hour ≤ H)
  | [], H, _ => ⟨0, Nat.le_refl _, by simp, by simp⟩
  | p :: r, H, h => by
    obtain ⟨h1, h2⟩ := List.pairwise_cons.1 h
    by_cases hp : p.hour ≤ H
    · obtain ⟨k, hk, e, hq⟩ := filter_prefix r H h2
      exact ⟨k + 1, by simp; omega, by simp [hp, e], fun q hh => hq q (by simpa using hh)⟩
    · refine ⟨0, Nat.zero_le _, ?_, fun q hh => by simp at hh; subst hh; exact hp⟩
      rw [List.take_zero, List.filter_eq_nil_iff]
      intro q hq
      rcases List.mem_cons.1 hq with rfl | hq
      · simp [hp]
      · have := h1 q hq
        simp; omega
/-- Upto of a book: its beginning. -/
theorem upto_prefix {xs : List Po} (h : (checkL xs).2 = 0) (H : Int) : ∃ k, k ≤ xs.length ∧ uptoL xs H = xs.take k ∧ (∀ q, xs[k]? = some q → ¬ q.hour ≤ H) := by
  obtain ⟨k, hk, e, hq⟩ := filter_prefix xs H (book_sorted h)
  exact ⟨k, hk, by unfold uptoL someL; rw [if_pos h]; exact e, hq⟩

set_option maxHeartbeats 1000000 in
theorem right_any (a : Option Addr) (n cap : Nat) (xs : List Po) (w : World) (h : Rd Po.vals 8 w a n xs) (hw : ∀ p ∈ xs, p.Wf) :
    Calls Tryz.prog 27 #[.slice a n cap] w fun e w' => e = .returned (.bool (decide ((checkL xs).2 = 0))) ∧ Below w.heap.size w w' := by
  go_enter Tryz.func27, Tryz.ntmps27
  go_wp2_with fail
  refine (check_any a n cap xs _ h hw).mono ?_
  rintro e w1 ⟨rfl, hB⟩
  have HB := Lib.hid hB
  clear hB
  by_cases hc : (checkL xs).2 = 0
  · have hc1 : ((checkL xs).2 == 0) = true := by simp [hc]
    have Hc := Lib.hid hc
    clear hc
    go_wp2_with fail
    go_ret
    exact ⟨ret_bool (by simp [Hc.out]), HB.out⟩
  · have hc1 : ((checkL xs).2 == 0) = false := by simp [hc]
    have Hc := Lib.hid hc
    clear hc
    go_wp2_with fail
    go_ret
    exact ⟨ret_bool (by simp [Hc.out]), HB.out⟩
end Go.Proofs.YtehedodogkhmgaaGreat
