/- PurseHours returns true: the beginnings of a book are books, and Upto is one of them. -/
import Derived.Test.YtacpjmgnddpbiaaRefAppend
set_option linter.unusedSimpArgs false
set_option linter.unusedVariables false
namespace Go.Proofs.Ytacpjmgnddpbiaa
open Go.RowKit Go.Shelf

theorem book_take_aux : ∀ (r pre : List Po) (i : Nat), (checkAux pre r).2 = 0 → (checkAux pre (r.take i)).2 = 0
  | [], pre, i, h => by simpa using h
  | p :: r, pre, 0, h => by simp [checkAux]
  | p :: r, pre, i + 1, h => by
    by_cases hr : refusedL pre p = 0
    · rw [checkAux_go hr] at h
      rw [List.take_succ_cons, checkAux_go hr]
      exact book_take_aux r _ i h
    · rw [checkAux_stop hr] at h
      exact absurd h hr
theorem book_take {xs : List Po} (h : (checkL xs).2 = 0) (i : Nat) : (checkL (xs.take i)).2 = 0 := book_take_aux xs [] i h
theorem refusedL_hour {xs : List Po} {p : Po} (h : refusedL xs p = 0) (hx : xs ≠ []) : lastHour xs ≤ p.hour := by
  refine Classical.byContradiction fun hc => ?_
  have hok := refusedL_ok h
  have hl := refusedL_len h
  by_cases hi : noId xs p.id
  · rw [refusedL_time (by omega) hok hi hx (by omega)] at h; omega
  · unfold refusedL at h
    rw [if_neg (by omega), if_neg (by simp [hok]), if_pos hi] at h
    omega
theorem sorted_last {xs : List Po} (h : xs.Pairwise (fun a b => a.hour ≤ b.hour)) : ∀ q ∈ xs, q.hour ≤ lastHour xs := by
  intro q hq
  obtain ⟨i, hi, rfl⟩ := List.getElem_of_mem hq
  have hl : xs.length = (xs.length - 1) + 1 := by omega
  rw [lastHour_at (q := xs[xs.length - 1]) hl (List.getElem?_eq_getElem _)]
  by_cases he : i = xs.length - 1
  · subst he; exact Int.le_refl _
  · exact (List.pairwise_iff_getElem.1 h) i (xs.length - 1) hi (by omega) (by omega)
theorem book_sorted_aux : ∀ (r pre : List Po), (checkAux pre r).2 = 0 → pre.Pairwise (fun a b => a.hour ≤ b.hour) → (pre ++ r).Pairwise (fun a b => a.hour ≤ b.hour)
  | [], pre, _, hp => by simpa using hp
  | p :: r, pre, h, hp => by
    by_cases hr : refusedL pre p = 0
    · rw [checkAux_go hr] at h
      have := book_sorted_aux r (pre ++ [p]) h (List.pairwise_append.2 ⟨hp, by simp, fun a ha b hb => by
        rw [List.mem_singleton.1 hb]
        have h1 := sorted_last hp a ha
        have h2 := refusedL_hour hr (fun e => by rw [e] at ha; simp at ha)
        omega⟩)
      simpa using this
    · rw [checkAux_stop hr] at h
      exact absurd h hr
theorem book_sorted {xs : List Po} (h : (checkL xs).2 = 0) : xs.Pairwise (fun a b => a.hour ≤ b.hour) := by
  have := book_sorted_aux xs [] h List.Pairwise.nil
  simpa using this
theorem filter_prefix : ∀ (xs : List Po) (H : Int), xs.Pairwise (fun a b => a.hour ≤ b.hour) → ∃ k, k ≤ xs.length ∧ xs.filter (fun p => decide (p.hour ≤ H)) = xs.take k ∧ (∀ q, xs[k]? = some q → ¬ q.hour ≤ H)
  | [], H, _ => ⟨0, Nat.le_refl _, by simp, by simp⟩
  | p :: r, H, h => by
    obtain ⟨h1, h2⟩ := List.pairwise_cons.1 h
    by_cases hp : p.hour ≤ H
    · obtain ⟨k, hk, e, hq⟩ := filter_prefix r H h2
      exact ⟨k + 1, by simp; omega, by simp [hp, e], fun q hh => hq q (by simpa using hh)⟩
    · refine ⟨0, Nat.zero_le _, ?_, fun q hh => by simp at hh; subst hh; exact hp⟩
      rw [List.take_zero, List.filter_eq_nil_iff]
      intro q hq
      rcases List.mem_cons.1 hq with rfl | hq
      · simp [hp]
      · have := h1 q hq
        simp; omega
/-- Upto of a book: its beginning. -/
theorem upto_prefix {xs : List Po} (h : (checkL xs).2 = 0) (H : Int) : ∃ k, k ≤ xs.length ∧ uptoL xs H = xs.take k ∧ (∀ q, xs[k]? = some q → ¬ q.hour ≤ H) := by
  obtain ⟨k, hk, e, hq⟩ := filter_prefix xs H (book_sorted h)
  exact ⟨k, hk, by unfold uptoL someL; rw [if_pos h]; exact e, hq⟩

set_option maxHeartbeats 1000000 in
theorem right_any (a : Option Addr) (n cap : Nat) (xs : List Po) (w : World) (h : Rd Po.vals 8 w a n xs) (hw : ∀ p ∈ xs, p.Wf) :
    Calls Try.prog 18 #[.slice a n cap] w fun e w' => e = .returned (.bool (decide ((checkL xs).2 = 0))) ∧ Below w.heap.size w w' := by
  go_enter Try.func18, Try.ntmps18
  go_wp2_with fail
  refine (check_any a n cap xs _ h hw).mono ?_
  rintro e w1 ⟨rfl, hB⟩
  have HB := Lib.hid hB
  clear hB
  by_cases hc : (checkL xs).2 = 0
  · have hc1 : ((checkL xs).2 == 0) = true := by simp [hc]
    have Hc := Lib.hid hc
    clear hc
    go_wp2_with fail
    go_ret
    exact ⟨ret_bool (by simp [Hc.out]), HB.out⟩
  · have hc1 : ((checkL xs).2 == 0) = false := by simp [hc]
    have Hc := Lib.hid hc
    clear hc
    go_wp2_with fail
    go_ret
    exact ⟨ret_bool (by simp [Hc.out]), HB.out⟩

set_option maxRecDepth 100000 in
set_option maxHeartbeats 8000000 in
theorem law_hours (a : Option Addr) (n cap : Nat) (xs : List Po) (hour : Int) (w : World) (h : Rd Po.vals 8 w a n xs) (hw : ∀ p ∈ xs, p.Wf) (hcap : n ≤ cap) (_ : a = none → cap = 0) (_ : I64 hour) :
    Calls Try.prog 5 #[.slice a n cap, .int .i64 hour] w fun e w' => e = .returned (.bool true) ∧ Below w.heap.size w w' := by
  have Hl := Lib.hid h.len
  have Hw := Lib.hid hw
  have H := Lib.hid h
  have hm := h.cap
  unfold maxLen at hm
  clear h hw
  go_enter Try.func5, Try.ntmps5
  by_cases hn : 24 < n
  · have hn' : (24 : Int) < (n : Int) := by omega
    go_wp2_with fail
    refine (purses_any _).mono ?_
    rintro e w1 ⟨rfl, hB⟩
    have HB := Lib.hid hB
    clear hB
    go_wp2_with fail
    go_ret
    exact ⟨rfl, HB.out⟩
  · have hn' : ¬ (24 : Int) < (n : Int) := by omega
    go_wp2_with fail
    refine (right_any a n cap xs _ H.out Hw.out).mono ?_
    rintro e w1 ⟨rfl, hB⟩
    have HB := Lib.hid hB
    have H1 := Lib.hid (H.out.below' hB)
    clear hB
    by_cases hc : (checkL xs).2 = 0
    · have hd : decide ((checkL xs).2 = 0) = true := by simp [hc]
      rw [hd]
      have Hc := Lib.hid hc
      clear hc hd
      go_wp2_with fail
      refine (upto_any a n cap xs hour _ H1.out (by omega) Hw.out).mono ?_
      rintro e w2 ⟨v, rfl, hrow, hB⟩
      obtain ⟨k, hk, he, hq⟩ := upto_prefix Hc.out hour
      rw [he] at hrow
      have hkl : (xs.take k).length = k := by rw [List.length_take]; omega
      rw [hkl] at hrow
      rw [Hl.out] at hk
      obtain ⟨au, cu, rfl, hcu, hu, _⟩ := Rd.of_own hrow po_vals_length (by omega) hkl (by unfold maxLen; omega)
      have H2 := Lib.hid (H1.out.below' hB)
      have HB2 := Lib.hid (below_then HB.out hB (Nat.le_refl _))
      have HU := Lib.hid hu
      have Hq := Lib.hid hq
      have hkc : k ≤ cap := by omega
      clear hB hrow hu hq he hkl H1 HB H
      have Hhk := Lib.hid hk
      have hkn : ¬ (n : Int) < (k : Int) := by omega
      have hkd : decide (n < k) = false := by simp; omega
      go_upto_region 4 with (fail)
      go_wp2_with fail
      refine (samePostings_any au a k k cu cap _ _ _ HU.out (H2.out.take Hhk.out)).mono ?_
      rintro e w3 ⟨rfl, hB⟩
      have hd : decide (xs.take k = xs.take k) = true := by simp
      rw [hd]
      have H3 := Lib.hid (H2.out.below' hB)
      have HB3 := Lib.hid (below_then HB2.out hB (Nat.le_refl _))
      clear hB HU H2 HB2 hd
      by_cases hlt : k < n
      · obtain ⟨b, off, q, rfl, hb, hx, x0, x1, x2, x3, x4, x5, x6, x7⟩ := H3.out.po hlt
        have hqh := Hq.out q hx
        have hlt' : (k : Int) < (n : Int) := by omega
        clear hx x0 x2 x3 x4 x5 x6 x7
        go_upto_region 6 with (fail)
        clear x1
        go_wp2_with fail
        go_loopw [4, 6] (fun _ i wr => ∃ j : Nat, j ≤ n + 1 ∧ i = .int .i64 j ∧ Below w3.heap.size w3 wr) (fun _ i _ => n + 1 - (intOf i).toNat)
        case atStart => exact ⟨0, Nat.zero_le _, rfl, Below.refl _ _⟩
        case round =>
          obtain ⟨j, hj, rfl, hB⟩ := hrel
          have HBr := Lib.hid (below_then HB3.out hB (Nat.le_refl _))
          have H4 := Lib.hid (H3.out.below' hB)
          have HBj := Lib.hid hB
          clear hB
          by_cases hjn : j ≤ n
          · have hjn' : (j : Int) ≤ (n : Int) := by omega
            have hjc : j ≤ cap := by omega
            go_wp2_with fail
            refine (right_any _ j j (xs.take j) _ (H4.out.take hjn) (fun p hp => Hw.out p (List.mem_of_mem_take hp))).mono ?_
            rintro e w5 ⟨rfl, hB⟩
            have hd : decide ((checkL (xs.take j)).2 = 0) = true := by simp [book_take Hc.out j]
            rw [hd]
            have HB5 := Lib.hid (below_then HBj.out hB (Nat.le_refl _))
            clear hB hd
            go_wp2_with fail
            exact ⟨⟨j + 1, by omega, by go_num, HB5.out⟩, by simp [intOf]; omega⟩
          · have hjn' : ¬ (j : Int) ≤ (n : Int) := by omega
            go_wp2_with fail
            refine (purses_any _).mono ?_
            rintro e w5 ⟨rfl, hB⟩
            have HB5 := Lib.hid (below_then HBr.out hB (Nat.le_refl _))
            clear hB
            go_wp2_with fail
            go_ret
            exact ⟨rfl, HB5.out⟩
      · have hlt' : ¬ (k : Int) < (n : Int) := by omega
        go_upto_region 6 with (fail)
        go_wp2_with fail
        go_loopw [4, 6] (fun _ i wr => ∃ j : Nat, j ≤ n + 1 ∧ i = .int .i64 j ∧ Below w3.heap.size w3 wr) (fun _ i _ => n + 1 - (intOf i).toNat)
        case atStart => exact ⟨0, Nat.zero_le _, rfl, Below.refl _ _⟩
        case round =>
          obtain ⟨j, hj, rfl, hB⟩ := hrel
          have HBr := Lib.hid (below_then HB3.out hB (Nat.le_refl _))
          have H4 := Lib.hid (H3.out.below' hB)
          have HBj := Lib.hid hB
          clear hB
          by_cases hjn : j ≤ n
          · have hjn' : (j : Int) ≤ (n : Int) := by omega
            have hjc : j ≤ cap := by omega
            go_wp2_with fail
            refine (right_any _ j j (xs.take j) _ (H4.out.take hjn) (fun p hp => Hw.out p (List.mem_of_mem_take hp))).mono ?_
            rintro e w5 ⟨rfl, hB⟩
            have hd : decide ((checkL (xs.take j)).2 = 0) = true := by simp [book_take Hc.out j]
            rw [hd]
            have HB5 := Lib.hid (below_then HBj.out hB (Nat.le_refl _))
            clear hB hd
            go_wp2_with fail
            exact ⟨⟨j + 1, by omega, by go_num, HB5.out⟩, by simp [intOf]; omega⟩
          · have hjn' : ¬ (j : Int) ≤ (n : Int) := by omega
            go_wp2_with fail
            refine (purses_any _).mono ?_
            rintro e w5 ⟨rfl, hB⟩
            have HB5 := Lib.hid (below_then HBr.out hB (Nat.le_refl _))
            clear hB
            go_wp2_with fail
            go_ret
            exact ⟨rfl, HB5.out⟩
    · have hd : decide ((checkL xs).2 = 0) = false := by simp [hc]
      rw [hd]
      clear hc hd
      go_wp2_with fail
      refine (purses_any _).mono ?_
      rintro e w2 ⟨rfl, hB⟩
      have HB2 := Lib.hid (below_then HB.out hB (Nat.le_refl _))
      clear hB
      go_wp2_with fail
      go_ret
      exact ⟨rfl, HB2.out⟩
end Go.Proofs.Ytacpjmgnddpbiaa
