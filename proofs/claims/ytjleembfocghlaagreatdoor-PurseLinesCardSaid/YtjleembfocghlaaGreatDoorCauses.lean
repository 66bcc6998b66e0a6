/- The walks of CheckCauses. -/
import Derived.Test.YtjleembfocghlaaGreatDoorListed
set_option linter.unusedSimpArgs false
set_option linter.unusedVariables false
namespace Go.Proofs.YtjleembfocghlaaGreatDoor
open Go.RowKit Go.Shelf

set_option maxRecDepth 100000 in
set_option maxHeartbeats 4000000 in
theorem rightCa_any (d : Ca) (w : World) :
    Calls Tryz.prog 75 #[.agg #[.int .i64 d.parcel, .int .i64 d.reason, .int .i64 d.known]] w fun e w' => e = .returned (.bool (okCa d)) ∧ Below w.heap.size w w' := by
  by_cases h1 : 10 ≤ d.parcel
  case neg =>
    have HE := Lib.hid (show okCa d = false by unfold okCa; rw [decide_eq_false_iff_not]; omega)
    go_enter Tryz.func75, Tryz.ntmps75
    go_wp2
    go_ret
    exact ⟨ret_bool HE.out.symm, (Below.refl _ _).alloc (Nat.le_refl _) _⟩
  by_cases h2 : d.parcel ≤ 10000007
  case neg =>
    have HE := Lib.hid (show okCa d = false by unfold okCa; rw [decide_eq_false_iff_not]; omega)
    go_enter Tryz.func75, Tryz.ntmps75
    go_wp2
    go_ret
    exact ⟨ret_bool HE.out.symm, (Below.refl _ _).alloc (Nat.le_refl _) _⟩
  by_cases h3 : 1 ≤ d.reason
  case neg =>
    have HE := Lib.hid (show okCa d = false by unfold okCa; rw [decide_eq_false_iff_not]; omega)
    go_enter Tryz.func75, Tryz.ntmps75
    go_wp2
    go_ret
    exact ⟨ret_bool HE.out.symm, (Below.refl _ _).alloc (Nat.le_refl _) _⟩
  by_cases h4 : d.reason ≤ 1000000
  case neg =>
    have HE := Lib.hid (show okCa d = false by unfold okCa; rw [decide_eq_false_iff_not]; omega)
    go_enter Tryz.func75, Tryz.ntmps75
    go_wp2
    go_ret
    exact ⟨ret_bool HE.out.symm, (Below.refl _ _).alloc (Nat.le_refl _) _⟩
  by_cases h5 : 0 ≤ d.known
  case neg =>
    have HE := Lib.hid (show okCa d = false by unfold okCa; rw [decide_eq_false_iff_not]; omega)
    go_enter Tryz.func75, Tryz.ntmps75
    go_wp2
    go_ret
    exact ⟨ret_bool HE.out.symm, (Below.refl _ _).alloc (Nat.le_refl _) _⟩
  by_cases h6 : d.known ≤ 1000000
  case neg =>
    have HE := Lib.hid (show okCa d = false by unfold okCa; rw [decide_eq_false_iff_not]; omega)
    go_enter Tryz.func75, Tryz.ntmps75
    go_wp2
    go_ret
    exact ⟨ret_bool HE.out.symm, (Below.refl _ _).alloc (Nat.le_refl _) _⟩
  have HE := Lib.hid (show okCa d = true by unfold okCa; rw [decide_eq_true_eq]; omega)
  go_enter Tryz.func75, Tryz.ntmps75
  go_wp2
  go_ret
  exact ⟨ret_bool HE.out.symm, (Below.refl _ _).alloc (Nat.le_refl _) _⟩
set_option maxHeartbeats 1000000 in
theorem lessCa_any (a b : Ca) (w : World) :
    Calls Tryz.prog 76 #[.agg #[.int .i64 a.parcel, .int .i64 a.reason, .int .i64 a.known], .agg #[.int .i64 b.parcel, .int .i64 b.reason, .int .i64 b.known]] w fun e w' => e = .returned (.bool (ltCa a b)) ∧ Below w.heap.size w w' := by
  go_enter Tryz.func76, Tryz.ntmps76
  go_wp2_with fail
  go_ret
  exact ⟨ret_bool rfl, ((Below.refl _ w).alloc (Nat.le_refl _) _).alloc (by simp) _⟩

set_option maxRecDepth 100000 in
set_option maxHeartbeats 4000000 in
theorem checkCauses_listed (a : Option Addr) (n cap : Nat) (xs : List Ca) (w : World) (h : Rd Ca.vals 3 w a n xs) :
    Calls Tryz.prog 74 #[.slice a n cap, .func (.func 75) #[] #[], .func (.func 76) #[] #[]] w fun e w' => e = .returned (.int .i64 (chkCa xs)) ∧ Below w.heap.size w w' := by
  have Hl := Lib.hid h.len
  have hm := h.cap
  unfold maxLen at hm
  by_cases hbig : 400 < n
  · have hd : decide ((400 : Int) < (n : Int)) = true := by simp; omega
    go_enter Tryz.func74, Tryz.ntmps74
    go_wp2_with fail
    go_ret
    exact ⟨ret_int (by unfold chkCa listL; rw [if_pos (by rw [Hl.out]; exact hbig)]), Below.refl _ _⟩
  have hd : decide ((400 : Int) < (n : Int)) = false := by simp; omega
  go_enter Tryz.func74, Tryz.ntmps74
  go_wp2_with fail
  go_loopw [14] (fun i wr => ∃ k : Nat, k ≤ n ∧ i = .int .i64 k ∧ goodB okCa ltCa (prevOf xs k) (xs.drop k) = goodB okCa ltCa none xs ∧ Below w.heap.size w wr) (fun i _ => n - (intOf i).toNat)
  case atStart => exact ⟨0, Nat.zero_le _, rfl, rfl, Below.refl _ _⟩
  case round =>
    obtain ⟨k, hk, rfl, hgd, hB⟩ := hrel
    have h1 := h.below' hB
    have HB := Lib.hid hB
    have Hgd := Lib.hid hgd
    clear hB hgd h
    by_cases hlt : k < n
    · obtain ⟨b, off, x, rfl, hb, hx, x0, x1, x2⟩ := h1.ca hlt
      have Hx := Lib.hid hx
      have Hd := Lib.hid (drop_at hx)
      have hBW : Below w.heap.size w (wr.alloc (.cells #[.int .i64 x.parcel, .int .i64 x.reason, .int .i64 x.known] 45)) := HB.out.alloc HB.out.size _
      have HBW := Lib.hid hBW
      have e0 : (wr.alloc (.cells #[.int .i64 x.parcel, .int .i64 x.reason, .int .i64 x.known] 45)).cell? ⟨wr.heap.size, 0, none⟩ = some (.int .i64 x.parcel) := by simp
      have e1 : (wr.alloc (.cells #[.int .i64 x.parcel, .int .i64 x.reason, .int .i64 x.known] 45)).cell? ⟨wr.heap.size, 1, none⟩ = some (.int .i64 x.reason) := by simp
      have e2 : (wr.alloc (.cells #[.int .i64 x.parcel, .int .i64 x.reason, .int .i64 x.known] 45)).cell? ⟨wr.heap.size, 2, none⟩ = some (.int .i64 x.known) := by simp
      clear hx hBW
      have hx1 := HBW.out.size
      cases hok : okCa x with
      | false =>
        have HR := Lib.hid (show goodB okCa ltCa none xs = false by rw [← Hgd.out, Hd.out]; exact goodB_bad hok)
        have hcon : ∀ W, Calls Tryz.prog 75 #[.agg #[.int .i64 x.parcel, .int .i64 x.reason, .int .i64 x.known]] W fun e w' => e = .returned (.bool false) ∧ Below W.heap.size W w' := fun W => by rw [← hok]; exact rightCa_any x W
        have Hcon := Lib.hid hcon
        clear hok hcon
        go_wp2_with fail
        generalize wr.alloc (.cells #[.int .i64 x.parcel, .int .i64 x.reason, .int .i64 x.known] 45) = W at *
        have f0 : ∀ p : Later W, p.w.cell? ⟨wr.heap.size, 0, none⟩ = some (.int .i64 x.parcel) := fun p => p.cell e0
        have f1 : ∀ p : Later W, p.w.cell? ⟨wr.heap.size, 1, none⟩ = some (.int .i64 x.reason) := fun p => p.cell e1
        have f2 : ∀ p : Later W, p.w.cell? ⟨wr.heap.size, 2, none⟩ = some (.int .i64 x.known) := fun p => p.cell e2
        refine wp_region_later (by kernel_rfl) (by kernel_rfl) ?_
        repeat (go_big_quiet_step ((go_at_call 75; exact Calls.later_of (Hcon.out _))))
        refine wpQuiet_nil ?_
        intro _ hw'
        obtain ⟨⟨wq, hBq⟩, hw''⟩ := hw'
        subst hw''
        have HBq := Lib.hid (below_then HBW.out hBq (Nat.le_refl _))
        clear hBq f0 f1 f2
        go_wp2_with fail
        go_ret
        exact ⟨ret_int (by unfold chkCa listL; rw [if_neg (by rw [Hl.out]; exact hbig), if_neg (by rw [HR.out]; simp)]), HBq.out⟩
      | true =>
        have hcon : ∀ W, Calls Tryz.prog 75 #[.agg #[.int .i64 x.parcel, .int .i64 x.reason, .int .i64 x.known]] W fun e w' => e = .returned (.bool true) ∧ Below W.heap.size W w' := fun W => by rw [← hok]; exact rightCa_any x W
        have Hcon := Lib.hid hcon
        have Hok := Lib.hid hok
        clear hok hcon
        cases k with
        | zero =>
          simp only [Nat.zero_mul, Nat.add_zero] at x0 x1 x2
          have HR := Lib.hid (show goodB okCa ltCa (prevOf xs (0 + 1)) (xs.drop (0 + 1)) = goodB okCa ltCa none xs by rw [← Hgd.out, Hd.out, prevOf_zero, goodB_none Hok.out, prevOf_succ, Hx.out])
          go_wp2_with fail
          generalize wr.alloc (.cells #[.int .i64 x.parcel, .int .i64 x.reason, .int .i64 x.known] 45) = W at *
          have f0 : ∀ p : Later W, p.w.cell? ⟨wr.heap.size, 0, none⟩ = some (.int .i64 x.parcel) := fun p => p.cell e0
          have f1 : ∀ p : Later W, p.w.cell? ⟨wr.heap.size, 1, none⟩ = some (.int .i64 x.reason) := fun p => p.cell e1
          have f2 : ∀ p : Later W, p.w.cell? ⟨wr.heap.size, 2, none⟩ = some (.int .i64 x.known) := fun p => p.cell e2
          refine wp_region_later (by kernel_rfl) (by kernel_rfl) ?_
          repeat (go_big_quiet_step ((go_at_call 75; exact Calls.later_of (Hcon.out _))))
          refine wpQuiet_nil ?_
          intro _ hw'
          obtain ⟨⟨wq, hBq⟩, hw''⟩ := hw'
          subst hw''
          have HBq := Lib.hid (below_then HBW.out hBq (Nat.le_refl _))
          clear hBq f0 f1 f2
          go_wp2_with fail
          exact ⟨⟨0 + 1, by omega, by go_num, HR.out, HBq.out⟩, by simp [intOf]; omega⟩
        | succ m =>
          obtain ⟨b', off', y, hbb, _, hy, y0, y1, y2⟩ := h1.ca (show m < n by omega)
          cases hbb
          have hyl := World.block_lt_of_cell? _ _ y0
          have g0 : (wr.alloc (.cells #[.int .i64 x.parcel, .int .i64 x.reason, .int .i64 x.known] 45)).cell? ⟨b, off + m * 3, none⟩ = some (.int .i64 y.parcel) := (World.cell?_alloc_lt _ _ _ (by exact hyl)).trans y0
          have g1 : (wr.alloc (.cells #[.int .i64 x.parcel, .int .i64 x.reason, .int .i64 x.known] 45)).cell? ⟨b, off + m * 3 + 1, none⟩ = some (.int .i64 y.reason) := (World.cell?_alloc_lt _ _ _ (by exact hyl)).trans y1
          have g2 : (wr.alloc (.cells #[.int .i64 x.parcel, .int .i64 x.reason, .int .i64 x.known] 45)).cell? ⟨b, off + m * 3 + 2, none⟩ = some (.int .i64 y.known) := (World.cell?_alloc_lt _ _ _ (by exact hyl)).trans y2
          have Hy := Lib.hid hy
          have hl0 : (0 : Int) ≤ (m : Int) := Int.natCast_nonneg _
          have hl1 : (m : Int) < (n : Int) := by omega
          clear hy
          cases hlt2 : ltCa y x with
          | true =>
            have HR := Lib.hid (show goodB okCa ltCa (prevOf xs (m + 1 + 1)) (xs.drop (m + 1 + 1)) = goodB okCa ltCa none xs by rw [← Hgd.out, Hd.out, prevOf_succ xs (m + 1), prevOf_succ xs m, Hy.out, Hx.out, goodB_some Hok.out hlt2])
            have hcon2 : ∀ W, Calls Tryz.prog 76 #[.agg #[.int .i64 y.parcel, .int .i64 y.reason, .int .i64 y.known], .agg #[.int .i64 x.parcel, .int .i64 x.reason, .int .i64 x.known]] W fun e w' => e = .returned (.bool true) ∧ Below W.heap.size W w' := fun W => by rw [← hlt2]; exact lessCa_any y x W
            have Hcon2 := Lib.hid hcon2
            clear hcon2 hlt2
            go_wp2_with fail
            generalize wr.alloc (.cells #[.int .i64 x.parcel, .int .i64 x.reason, .int .i64 x.known] 45) = W at *
            have f0 : ∀ p : Later W, p.w.cell? ⟨wr.heap.size, 0, none⟩ = some (.int .i64 x.parcel) := fun p => p.cell e0
            have f1 : ∀ p : Later W, p.w.cell? ⟨wr.heap.size, 1, none⟩ = some (.int .i64 x.reason) := fun p => p.cell e1
            have f2 : ∀ p : Later W, p.w.cell? ⟨wr.heap.size, 2, none⟩ = some (.int .i64 x.known) := fun p => p.cell e2
            have d0 : ∀ p : Later W, p.w.cell? ⟨b, off + m * 3, none⟩ = some (.int .i64 y.parcel) := fun p => p.cell g0
            have d1 : ∀ p : Later W, p.w.cell? ⟨b, off + m * 3 + 1, none⟩ = some (.int .i64 y.reason) := fun p => p.cell g1
            have d2 : ∀ p : Later W, p.w.cell? ⟨b, off + m * 3 + 2, none⟩ = some (.int .i64 y.known) := fun p => p.cell g2
            refine wp_region_later (by kernel_rfl) (by kernel_rfl) ?_
            repeat (go_big_quiet_step ((first | (go_at_call 75; exact Calls.later_of (Hcon.out _)) | (go_at_call 76; exact Calls.later_of (Hcon2.out _)))))
            refine wpQuiet_nil ?_
            intro _ hw'
            obtain ⟨⟨wq, hBq⟩, hw''⟩ := hw'
            subst hw''
            have HBq := Lib.hid (below_then HBW.out hBq (Nat.le_refl _))
            clear hBq f0 f1 f2 d0 d1 d2
            go_wp2_with fail
            exact ⟨⟨m + 1 + 1, by omega, by go_num, HR.out, HBq.out⟩, by simp [intOf]; omega⟩
          | false =>
            have HR := Lib.hid (show goodB okCa ltCa none xs = false by rw [← Hgd.out, Hd.out, prevOf_succ xs m, Hy.out]; exact goodB_not hlt2)
            have hcon2 : ∀ W, Calls Tryz.prog 76 #[.agg #[.int .i64 y.parcel, .int .i64 y.reason, .int .i64 y.known], .agg #[.int .i64 x.parcel, .int .i64 x.reason, .int .i64 x.known]] W fun e w' => e = .returned (.bool false) ∧ Below W.heap.size W w' := fun W => by rw [← hlt2]; exact lessCa_any y x W
            have Hcon2 := Lib.hid hcon2
            clear hcon2 hlt2
            go_wp2_with fail
            generalize wr.alloc (.cells #[.int .i64 x.parcel, .int .i64 x.reason, .int .i64 x.known] 45) = W at *
            have f0 : ∀ p : Later W, p.w.cell? ⟨wr.heap.size, 0, none⟩ = some (.int .i64 x.parcel) := fun p => p.cell e0
            have f1 : ∀ p : Later W, p.w.cell? ⟨wr.heap.size, 1, none⟩ = some (.int .i64 x.reason) := fun p => p.cell e1
            have f2 : ∀ p : Later W, p.w.cell? ⟨wr.heap.size, 2, none⟩ = some (.int .i64 x.known) := fun p => p.cell e2
            have d0 : ∀ p : Later W, p.w.cell? ⟨b, off + m * 3, none⟩ = some (.int .i64 y.parcel) := fun p => p.cell g0
            have d1 : ∀ p : Later W, p.w.cell? ⟨b, off + m * 3 + 1, none⟩ = some (.int .i64 y.reason) := fun p => p.cell g1
            have d2 : ∀ p : Later W, p.w.cell? ⟨b, off + m * 3 + 2, none⟩ = some (.int .i64 y.known) := fun p => p.cell g2
            refine wp_region_later (by kernel_rfl) (by kernel_rfl) ?_
            repeat (go_big_quiet_step ((first | (go_at_call 75; exact Calls.later_of (Hcon.out _)) | (go_at_call 76; exact Calls.later_of (Hcon2.out _)))))
            refine wpQuiet_nil ?_
            intro _ hw'
            obtain ⟨⟨wq, hBq⟩, hw''⟩ := hw'
            subst hw''
            have HBq := Lib.hid (below_then HBW.out hBq (Nat.le_refl _))
            clear hBq f0 f1 f2 d0 d1 d2
            go_wp2_with fail
            go_ret
            exact ⟨ret_int (by unfold chkCa listL; rw [if_neg (by rw [Hl.out]; exact hbig), if_neg (by rw [HR.out]; simp)]), HBq.out⟩
    · go_wp2_with fail
      go_ret
      have hg := Hgd.out
      rw [List.drop_of_length_le (by rw [Hl.out]; omega)] at hg
      exact ⟨ret_int (by unfold chkCa listL; rw [if_neg (by rw [Hl.out]; exact hbig), if_pos (by rw [← hg]; rfl)]), HB.out⟩

set_option maxHeartbeats 1000000 in
theorem checkCauses_any (a : Option Addr) (n cap : Nat) (xs : List Ca) (w : World) (h : Rd Ca.vals 3 w a n xs) :
    Calls Tryz.prog 39 #[.slice a n cap] w fun e w' => e = .returned (.int .i64 (chkCa xs)) ∧ Below w.heap.size w w' := by
  go_enter Tryz.func39, Tryz.ntmps39
  go_wp2_with fail
  refine (checkCauses_listed a n cap xs _ h).mono ?_
  rintro e w1 ⟨rfl, hB⟩
  have HB := Lib.hid hB
  clear hB
  go_wp2_with fail
  go_ret
  exact ⟨rfl, HB.out⟩
end Go.Proofs.YtjleembfocghlaaGreatDoor
