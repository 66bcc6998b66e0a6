/- The walks of CheckDues, CheckCauses. -/
import Derived.Test.YtjleembfocghlaaGreatDoorDues
import Derived.Test.YtjleembfocghlaaGreatDoorLater
set_option linter.unusedSimpArgs false
set_option linter.unusedVariables false
namespace Go.Proofs.YtjleembfocghlaaGreatDoor
open Go.RowKit Go.Shelf

theorem cell_keep {W W' : World} {a : Addr} {v : Value} (h : W.cell? a = some v) (hB : Below W.heap.size W W') : W'.cell? a = some v := (hB.cell (World.block_lt_of_cell? W a h)).trans h
def prevOf {α : Type} (xs : List α) (k : Nat) : Option α := if k = 0 then none else xs[k - 1]?
theorem prevOf_zero {α : Type} (xs : List α) : prevOf xs 0 = none := rfl
theorem prevOf_succ {α : Type} (xs : List α) (k : Nat) : prevOf xs (k + 1) = xs[k]? := rfl
theorem drop_at {α : Type} {xs : List α} {k : Nat} {x : α} (h : xs[k]? = some x) : xs.drop k = x :: xs.drop (k + 1) := by
  have hl : k < xs.length := (List.getElem?_eq_some_iff.1 h).1
  rw [List.drop_eq_getElem_cons hl]
  rw [List.getElem?_eq_getElem hl] at h
  rw [Option.some.inj h]
theorem goodB_bad {α : Type} {ok : α → Bool} {lt : α → α → Bool} {prev : Option α} {x : α} {r : List α} (h : ok x = false) : goodB ok lt prev (x :: r) = false := by simp [goodB, h]
theorem goodB_none {α : Type} {ok : α → Bool} {lt : α → α → Bool} {x : α} {r : List α} (h : ok x = true) : goodB ok lt none (x :: r) = goodB ok lt (some x) r := by simp [goodB, h]
theorem goodB_some {α : Type} {ok : α → Bool} {lt : α → α → Bool} {x y : α} {r : List α} (h : ok x = true) (h2 : lt y x = true) : goodB ok lt (some y) (x :: r) = goodB ok lt (some x) r := by simp [goodB, h, h2]
theorem goodB_not {α : Type} {ok : α → Bool} {lt : α → α → Bool} {x y : α} {r : List α} (h2 : lt y x = false) : goodB ok lt (some y) (x :: r) = false := by simp [goodB, h2]

set_option maxRecDepth 100000 in
set_option maxHeartbeats 4000000 in
theorem lessDu_any (a b : Du) (w : World) :
    Calls Tryz.prog 72 #[.agg #[.int .i64 a.party, .int .i64 a.parcel, .int .i64 a.amount], .agg #[.int .i64 b.party, .int .i64 b.parcel, .int .i64 b.amount]] w fun e w' => e = .returned (.bool (ltDu a b)) ∧ Below w.heap.size w w' := by
  have hb0 : Below w.heap.size w ((w.alloc (.cells #[.int .i64 a.party, .int .i64 a.parcel, .int .i64 a.amount] 41)).alloc (.cells #[.int .i64 b.party, .int .i64 b.parcel, .int .i64 b.amount] 41)) := ((Below.refl _ w).alloc (Nat.le_refl _) _).alloc (by simp) _
  have e0 : ((w.alloc (.cells #[.int .i64 a.party, .int .i64 a.parcel, .int .i64 a.amount] 41)).alloc (.cells #[.int .i64 b.party, .int .i64 b.parcel, .int .i64 b.amount] 41)).cell? ⟨w.heap.size, 0, none⟩ = some (.int .i64 a.party) := by simp
  have e1 : ((w.alloc (.cells #[.int .i64 a.party, .int .i64 a.parcel, .int .i64 a.amount] 41)).alloc (.cells #[.int .i64 b.party, .int .i64 b.parcel, .int .i64 b.amount] 41)).cell? ⟨w.heap.size, 1, none⟩ = some (.int .i64 a.parcel) := by simp
  have e2 : ((w.alloc (.cells #[.int .i64 a.party, .int .i64 a.parcel, .int .i64 a.amount] 41)).alloc (.cells #[.int .i64 b.party, .int .i64 b.parcel, .int .i64 b.amount] 41)).cell? ⟨w.heap.size, 2, none⟩ = some (.int .i64 a.amount) := by simp
  have e3 : ((w.alloc (.cells #[.int .i64 a.party, .int .i64 a.parcel, .int .i64 a.amount] 41)).alloc (.cells #[.int .i64 b.party, .int .i64 b.parcel, .int .i64 b.amount] 41)).cell? ⟨w.heap.size + 1, 0, none⟩ = some (.int .i64 b.party) := by simp
  have e4 : ((w.alloc (.cells #[.int .i64 a.party, .int .i64 a.parcel, .int .i64 a.amount] 41)).alloc (.cells #[.int .i64 b.party, .int .i64 b.parcel, .int .i64 b.amount] 41)).cell? ⟨w.heap.size + 1, 1, none⟩ = some (.int .i64 b.parcel) := by simp
  have e5 : ((w.alloc (.cells #[.int .i64 a.party, .int .i64 a.parcel, .int .i64 a.amount] 41)).alloc (.cells #[.int .i64 b.party, .int .i64 b.parcel, .int .i64 b.amount] 41)).cell? ⟨w.heap.size + 1, 2, none⟩ = some (.int .i64 b.amount) := by simp
  have HB := Lib.hid hb0
  clear hb0
  go_enter Tryz.func72, Tryz.ntmps72
  go_wp2_with fail
  generalize ((w.alloc (.cells #[.int .i64 a.party, .int .i64 a.parcel, .int .i64 a.amount] 41)).alloc (.cells #[.int .i64 b.party, .int .i64 b.parcel, .int .i64 b.amount] 41)) = W at *
  go_region_held3 (fun w' => (w'.cell? ⟨w.heap.size, 0, none⟩ = some (.int .i64 a.party) ∧ w'.cell? ⟨w.heap.size, 1, none⟩ = some (.int .i64 a.parcel) ∧ w'.cell? ⟨w.heap.size, 2, none⟩ = some (.int .i64 a.amount) ∧
      w'.cell? ⟨w.heap.size + 1, 0, none⟩ = some (.int .i64 b.party) ∧ w'.cell? ⟨w.heap.size + 1, 1, none⟩ = some (.int .i64 b.parcel) ∧ w'.cell? ⟨w.heap.size + 1, 2, none⟩ = some (.int .i64 b.amount)) ∧ Below w.heap.size w w')
    (first | (refine ⟨?_, HB.out⟩; go_keep) | (refine ⟨?_, below_drewN HB.out 1⟩; go_keep) | ((repeat' apply And.intro) <;> first | (refine cell_keep ?_ hBk; simp [*]) | exact below_then (by simp [*]) hBk (Nat.le_refl _)))
    (first
      | (go_at_call_of 46 (Value.agg #[.int .i64 a.party, .int .i64 a.parcel, .int .i64 a.amount]); refine (of_any a _).mono ?_; rintro e w' ⟨rfl, hBk⟩)
      | (go_at_call_of 46 (Value.agg #[.int .i64 b.party, .int .i64 b.parcel, .int .i64 b.amount]); refine (of_any b _).mono ?_; rintro e w' ⟨rfl, hBk⟩)
      | (go_at_call 73; refine (compare_any (a.parcel, a.party) (b.parcel, b.party) _).mono ?_; rintro e w' ⟨rfl, hBk⟩))
  go_wp2_with fail
  go_ret
  refine ⟨ret_bool rfl, ?_⟩
  simp [*]

set_option maxRecDepth 100000 in
set_option maxHeartbeats 4000000 in
theorem checkDues_listed (a : Option Addr) (n cap : Nat) (xs : List Du) (w : World) (h : Rd Du.vals 3 w a n xs) :
    Calls Tryz.prog 70 #[.slice a n cap, .func (.func 71) #[] #[], .func (.func 72) #[] #[]] w fun e w' => e = .returned (.int .i64 (chkDu xs)) ∧ Below w.heap.size w w' := by
  have Hl := Lib.hid h.len
  have hm := h.cap
  unfold maxLen at hm
  by_cases hbig : 400 < n
  · have hd : decide ((400 : Int) < (n : Int)) = true := by simp; omega
    go_enter Tryz.func70, Tryz.ntmps70
    go_wp2_with fail
    go_ret
    exact ⟨ret_int (by unfold chkDu listL; rw [if_pos (by rw [Hl.out]; exact hbig)]), Below.refl _ _⟩
  have hd : decide ((400 : Int) < (n : Int)) = false := by simp; omega
  go_enter Tryz.func70, Tryz.ntmps70
  go_wp2_with fail
  go_loopw [14] (fun i wr => ∃ k : Nat, k ≤ n ∧ i = .int .i64 k ∧ goodB okDu ltDu (prevOf xs k) (xs.drop k) = goodB okDu ltDu none xs ∧ Below w.heap.size w wr) (fun i _ => n - (intOf i).toNat)
  case atStart => exact ⟨0, Nat.zero_le _, rfl, rfl, Below.refl _ _⟩
  case round =>
    obtain ⟨k, hk, rfl, hgd, hB⟩ := hrel
    have h1 := h.below' hB
    have HB := Lib.hid hB
    have Hgd := Lib.hid hgd
    clear hB hgd h
    by_cases hlt : k < n
    · obtain ⟨b, off, x, rfl, hb, hx, x0, x1, x2⟩ := h1.du hlt
      have Hx := Lib.hid hx
      have Hd := Lib.hid (drop_at hx)
      have hBW : Below w.heap.size w (wr.alloc (.cells #[.int .i64 x.party, .int .i64 x.parcel, .int .i64 x.amount] 41)) := HB.out.alloc HB.out.size _
      have HBW := Lib.hid hBW
      have e0 : (wr.alloc (.cells #[.int .i64 x.party, .int .i64 x.parcel, .int .i64 x.amount] 41)).cell? ⟨wr.heap.size, 0, none⟩ = some (.int .i64 x.party) := by simp
      have e1 : (wr.alloc (.cells #[.int .i64 x.party, .int .i64 x.parcel, .int .i64 x.amount] 41)).cell? ⟨wr.heap.size, 1, none⟩ = some (.int .i64 x.parcel) := by simp
      have e2 : (wr.alloc (.cells #[.int .i64 x.party, .int .i64 x.parcel, .int .i64 x.amount] 41)).cell? ⟨wr.heap.size, 2, none⟩ = some (.int .i64 x.amount) := by simp
      clear hx hBW
      have hx1 := HBW.out.size
      cases hok : okDu x with
      | false =>
        have HR := Lib.hid (show goodB okDu ltDu none xs = false by rw [← Hgd.out, Hd.out]; exact goodB_bad hok)
        have hcon : ∀ W, Calls Tryz.prog 71 #[.agg #[.int .i64 x.party, .int .i64 x.parcel, .int .i64 x.amount]] W fun e w' => e = .returned (.bool false) ∧ Below W.heap.size W w' := fun W => by rw [← hok]; exact rightDu_any x W
        have Hcon := Lib.hid hcon
        clear hok hcon
        go_wp2_with fail
        generalize wr.alloc (.cells #[.int .i64 x.party, .int .i64 x.parcel, .int .i64 x.amount] 41) = W at *
        have f0 : ∀ p : Later W, p.w.cell? ⟨wr.heap.size, 0, none⟩ = some (.int .i64 x.party) := fun p => p.cell e0
        have f1 : ∀ p : Later W, p.w.cell? ⟨wr.heap.size, 1, none⟩ = some (.int .i64 x.parcel) := fun p => p.cell e1
        have f2 : ∀ p : Later W, p.w.cell? ⟨wr.heap.size, 2, none⟩ = some (.int .i64 x.amount) := fun p => p.cell e2
        refine wp_region_later (by kernel_rfl) (by kernel_rfl) ?_
        repeat (go_big_quiet_step ((go_at_call 71; exact Calls.later_of (Hcon.out _))))
        refine wpQuiet_nil ?_
        intro _ hw'
        obtain ⟨⟨wq, hBq⟩, hw''⟩ := hw'
        subst hw''
        have HBq := Lib.hid (below_then HBW.out hBq (Nat.le_refl _))
        clear hBq f0 f1 f2
        go_wp2_with fail
        go_ret
        exact ⟨ret_int (by unfold chkDu listL; rw [if_neg (by rw [Hl.out]; exact hbig), if_neg (by rw [HR.out]; simp)]), HBq.out⟩
      | true =>
        have hcon : ∀ W, Calls Tryz.prog 71 #[.agg #[.int .i64 x.party, .int .i64 x.parcel, .int .i64 x.amount]] W fun e w' => e = .returned (.bool true) ∧ Below W.heap.size W w' := fun W => by rw [← hok]; exact rightDu_any x W
        have Hcon := Lib.hid hcon
        have Hok := Lib.hid hok
        clear hok hcon
        cases k with
        | zero =>
          simp only [Nat.zero_mul, Nat.add_zero] at x0 x1 x2
          have HR := Lib.hid (show goodB okDu ltDu (prevOf xs (0 + 1)) (xs.drop (0 + 1)) = goodB okDu ltDu none xs by rw [← Hgd.out, Hd.out, prevOf_zero, goodB_none Hok.out, prevOf_succ, Hx.out])
          go_wp2_with fail
          generalize wr.alloc (.cells #[.int .i64 x.party, .int .i64 x.parcel, .int .i64 x.amount] 41) = W at *
          have f0 : ∀ p : Later W, p.w.cell? ⟨wr.heap.size, 0, none⟩ = some (.int .i64 x.party) := fun p => p.cell e0
          have f1 : ∀ p : Later W, p.w.cell? ⟨wr.heap.size, 1, none⟩ = some (.int .i64 x.parcel) := fun p => p.cell e1
          have f2 : ∀ p : Later W, p.w.cell? ⟨wr.heap.size, 2, none⟩ = some (.int .i64 x.amount) := fun p => p.cell e2
          refine wp_region_later (by kernel_rfl) (by kernel_rfl) ?_
          repeat (go_big_quiet_step ((go_at_call 71; exact Calls.later_of (Hcon.out _))))
          refine wpQuiet_nil ?_
          intro _ hw'
          obtain ⟨⟨wq, hBq⟩, hw''⟩ := hw'
          subst hw''
          have HBq := Lib.hid (below_then HBW.out hBq (Nat.le_refl _))
          clear hBq f0 f1 f2
          go_wp2_with fail
          exact ⟨⟨0 + 1, by omega, by go_num, HR.out, HBq.out⟩, by simp [intOf]; omega⟩
        | succ m =>
          obtain ⟨b', off', y, hbb, _, hy, y0, y1, y2⟩ := h1.du (show m < n by omega)
          cases hbb
          have hyl := World.block_lt_of_cell? _ _ y0
          have g0 : (wr.alloc (.cells #[.int .i64 x.party, .int .i64 x.parcel, .int .i64 x.amount] 41)).cell? ⟨b, off + m * 3, none⟩ = some (.int .i64 y.party) := (World.cell?_alloc_lt _ _ _ (by exact hyl)).trans y0
          have g1 : (wr.alloc (.cells #[.int .i64 x.party, .int .i64 x.parcel, .int .i64 x.amount] 41)).cell? ⟨b, off + m * 3 + 1, none⟩ = some (.int .i64 y.parcel) := (World.cell?_alloc_lt _ _ _ (by exact hyl)).trans y1
          have g2 : (wr.alloc (.cells #[.int .i64 x.party, .int .i64 x.parcel, .int .i64 x.amount] 41)).cell? ⟨b, off + m * 3 + 2, none⟩ = some (.int .i64 y.amount) := (World.cell?_alloc_lt _ _ _ (by exact hyl)).trans y2
          have Hy := Lib.hid hy
          have hl0 : (0 : Int) ≤ (m : Int) := Int.natCast_nonneg _
          have hl1 : (m : Int) < (n : Int) := by omega
          clear hy
          cases hlt2 : ltDu y x with
          | true =>
            have HR := Lib.hid (show goodB okDu ltDu (prevOf xs (m + 1 + 1)) (xs.drop (m + 1 + 1)) = goodB okDu ltDu none xs by rw [← Hgd.out, Hd.out, prevOf_succ xs (m + 1), prevOf_succ xs m, Hy.out, Hx.out, goodB_some Hok.out hlt2])
            have hcon2 : ∀ W, Calls Tryz.prog 72 #[.agg #[.int .i64 y.party, .int .i64 y.parcel, .int .i64 y.amount], .agg #[.int .i64 x.party, .int .i64 x.parcel, .int .i64 x.amount]] W fun e w' => e = .returned (.bool true) ∧ Below W.heap.size W w' := fun W => by rw [← hlt2]; exact lessDu_any y x W
            have Hcon2 := Lib.hid hcon2
            clear hcon2 hlt2
            go_wp2_with fail
            generalize wr.alloc (.cells #[.int .i64 x.party, .int .i64 x.parcel, .int .i64 x.amount] 41) = W at *
            have f0 : ∀ p : Later W, p.w.cell? ⟨wr.heap.size, 0, none⟩ = some (.int .i64 x.party) := fun p => p.cell e0
            have f1 : ∀ p : Later W, p.w.cell? ⟨wr.heap.size, 1, none⟩ = some (.int .i64 x.parcel) := fun p => p.cell e1
            have f2 : ∀ p : Later W, p.w.cell? ⟨wr.heap.size, 2, none⟩ = some (.int .i64 x.amount) := fun p => p.cell e2
            have d0 : ∀ p : Later W, p.w.cell? ⟨b, off + m * 3, none⟩ = some (.int .i64 y.party) := fun p => p.cell g0
            have d1 : ∀ p : Later W, p.w.cell? ⟨b, off + m * 3 + 1, none⟩ = some (.int .i64 y.parcel) := fun p => p.cell g1
            have d2 : ∀ p : Later W, p.w.cell? ⟨b, off + m * 3 + 2, none⟩ = some (.int .i64 y.amount) := fun p => p.cell g2
            refine wp_region_later (by kernel_rfl) (by kernel_rfl) ?_
            repeat (go_big_quiet_step ((first | (go_at_call 71; exact Calls.later_of (Hcon.out _)) | (go_at_call 72; exact Calls.later_of (Hcon2.out _)))))
            refine wpQuiet_nil ?_
            intro _ hw'
            obtain ⟨⟨wq, hBq⟩, hw''⟩ := hw'
            subst hw''
            have HBq := Lib.hid (below_then HBW.out hBq (Nat.le_refl _))
            clear hBq f0 f1 f2 d0 d1 d2
            go_wp2_with fail
            exact ⟨⟨m + 1 + 1, by omega, by go_num, HR.out, HBq.out⟩, by simp [intOf]; omega⟩
          | false =>
            have HR := Lib.hid (show goodB okDu ltDu none xs = false by rw [← Hgd.out, Hd.out, prevOf_succ xs m, Hy.out]; exact goodB_not hlt2)
            have hcon2 : ∀ W, Calls Tryz.prog 72 #[.agg #[.int .i64 y.party, .int .i64 y.parcel, .int .i64 y.amount], .agg #[.int .i64 x.party, .int .i64 x.parcel, .int .i64 x.amount]] W fun e w' => e = .returned (.bool false) ∧ Below W.heap.size W w' := fun W => by rw [← hlt2]; exact lessDu_any y x W
            have Hcon2 := Lib.hid hcon2
            clear hcon2 hlt2
            go_wp2_with fail
            generalize wr.alloc (.cells #[.int .i64 x.party, .int .i64 x.parcel, .int .i64 x.amount] 41) = W at *
            have f0 : ∀ p : Later W, p.w.cell? ⟨wr.heap.size, 0, none⟩ = some (.int .i64 x.party) := fun p => p.cell e0
            have f1 : ∀ p : Later W, p.w.cell? ⟨wr.heap.size, 1, none⟩ = some (.int .i64 x.parcel) := fun p => p.cell e1
            have f2 : ∀ p : Later W, p.w.cell? ⟨wr.heap.size, 2, none⟩ = some (.int .i64 x.amount) := fun p => p.cell e2
            have d0 : ∀ p : Later W, p.w.cell? ⟨b, off + m * 3, none⟩ = some (.int .i64 y.party) := fun p => p.cell g0
            have d1 : ∀ p : Later W, p.w.cell? ⟨b, off + m * 3 + 1, none⟩ = some (.int .i64 y.parcel) := fun p => p.cell g1
            have d2 : ∀ p : Later W, p.w.cell? ⟨b, off + m * 3 + 2, none⟩ = some (.int .i64 y.amount) := fun p => p.cell g2
            refine wp_region_later (by kernel_rfl) (by kernel_rfl) ?_
            repeat (go_big_quiet_step ((first | (go_at_call 71; exact Calls.later_of (Hcon.out _)) | (go_at_call 72; exact Calls.later_of (Hcon2.out _)))))
            refine wpQuiet_nil ?_
            intro _ hw'
            obtain ⟨⟨wq, hBq⟩, hw''⟩ := hw'
            subst hw''
            have HBq := Lib.hid (below_then HBW.out hBq (Nat.le_refl _))
            clear hBq f0 f1 f2 d0 d1 d2
            go_wp2_with fail
            go_ret
            exact ⟨ret_int (by unfold chkDu listL; rw [if_neg (by rw [Hl.out]; exact hbig), if_neg (by rw [HR.out]; simp)]), HBq.out⟩
    · go_wp2_with fail
      go_ret
      have hg := Hgd.out
      rw [List.drop_of_length_le (by rw [Hl.out]; omega)] at hg
      exact ⟨ret_int (by unfold chkDu listL; rw [if_neg (by rw [Hl.out]; exact hbig), if_pos (by rw [← hg]; rfl)]), HB.out⟩

set_option maxHeartbeats 1000000 in
theorem checkDues_any (a : Option Addr) (n cap : Nat) (xs : List Du) (w : World) (h : Rd Du.vals 3 w a n xs) :
    Calls Tryz.prog 38 #[.slice a n cap] w fun e w' => e = .returned (.int .i64 (chkDu xs)) ∧ Below w.heap.size w w' := by
  go_enter Tryz.func38, Tryz.ntmps38
  go_wp2_with fail
  refine (checkDues_listed a n cap xs _ h).mono ?_
  rintro e w1 ⟨rfl, hB⟩
  have HB := Lib.hid hB
  clear hB
  go_wp2_with fail
  go_ret
  exact ⟨rfl, HB.out⟩
end Go.Proofs.YtjleembfocghlaaGreatDoor
