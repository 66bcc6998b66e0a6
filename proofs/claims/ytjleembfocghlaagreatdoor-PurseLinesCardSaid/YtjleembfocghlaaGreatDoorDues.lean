/- The walks of what compares dues and causes. -/
import Derived.Test.YtjleembfocghlaaGreatDoorAsk
import Derived.Sort.Grow
set_option linter.unusedSimpArgs false
set_option linter.unusedVariables false
namespace Go.Proofs.YtjleembfocghlaaGreatDoor
open Go.RowKit Go.Shelf

/-- each element is right and greater than the one before -/
def goodB {α : Type} (ok : α → Bool) (lt : α → α → Bool) : Option α → List α → Bool
  | _, [] => true
  | prev, x :: r => (ok x && (match prev with | none => true | some y => lt y x)) && goodB ok lt (some x) r
def listL {α : Type} (ok : α → Bool) (lt : α → α → Bool) (xs : List α) : Int := if 400 < xs.length then 2 else if goodB ok lt none xs = true then 0 else 1
def okDu (d : Du) : Bool := decide ((10 ≤ d.parcel ∧ d.parcel ≤ 10000007) ∧ (0 ≤ d.party ∧ d.party ≤ 40) ∧ (0 ≤ d.amount ∧ d.amount ≤ 1000000000))
def cmpI (a b : Int) : Int := if a < b then -1 else if b < a then 1 else 0
def orI (x y : Int) : Int := if x = 0 then y else x
def cmpAcc (a b : Int × Int) : Int := orI (cmpI a.1 b.1) (cmpI a.2 b.2)
def ltDu (a b : Du) : Bool := decide (cmpAcc (a.parcel, a.party) (b.parcel, b.party) < 0)
def okCa (c : Ca) : Bool := decide ((10 ≤ c.parcel ∧ c.parcel ≤ 10000007) ∧ (1 ≤ c.reason ∧ c.reason ≤ 1000000) ∧ (0 ≤ c.known ∧ c.known ≤ 1000000))
def ltCa (a b : Ca) : Bool := decide (a.parcel < b.parcel)
def chkDu (d : List Du) : Int := listL okDu ltDu d
def chkCa (c : List Ca) : Int := listL okCa ltCa c

set_option maxHeartbeats 1000000 in
theorem of_any (d : Du) (w : World) :
    Calls Tryz.prog 46 #[.agg #[.int .i64 d.party, .int .i64 d.parcel, .int .i64 d.amount]] w fun e w' => e = .returned (.agg #[.int .i64 d.parcel, .int .i64 d.party]) ∧ Below w.heap.size w w' := by
  go_enter Tryz.func46, Tryz.ntmps46
  go_wp2_with fail
  refine bodyPost_ret (v := .agg #[.int .i64 d.parcel, .int .i64 d.party]) (by simp [results, Tryz.results46, go_sem]) rfl ⟨rfl, ?_⟩
  exact ((Below.refl _ _).alloc (Nat.le_refl _) _).alloc (by simp) _

set_option maxHeartbeats 1000000 in
theorem compareInt_any (a b : Int) (w : World) : Calls Tryz.prog 95 #[.int .i64 a, .int .i64 b] w fun e w' => e = .returned (.int .i64 (cmpI a b)) ∧ w' = w := by
  have h1 : ∀ x : Int, (x != x) = false := fun x => by simp
  have ha := h1 a
  have hb := h1 b
  clear h1
  by_cases hab : a < b
  · have HE := Lib.hid (show cmpI a b = -1 by unfold cmpI; rw [if_pos hab])
    go_enter Tryz.func95, Tryz.ntmps95
    go_wp2
    go_ret
    exact ⟨ret_int HE.out.symm, rfl⟩
  · by_cases hba : b < a
    · have HE := Lib.hid (show cmpI a b = 1 by unfold cmpI; rw [if_neg hab, if_pos hba])
      go_enter Tryz.func95, Tryz.ntmps95
      go_wp2
      go_ret
      exact ⟨ret_int HE.out.symm, rfl⟩
    · have HE := Lib.hid (show cmpI a b = 0 by unfold cmpI; rw [if_neg hab, if_neg hba])
      go_enter Tryz.func95, Tryz.ntmps95
      go_wp2
      go_ret
      exact ⟨ret_int HE.out.symm, rfl⟩

set_option maxHeartbeats 1000000 in
theorem or2_any (b cap : Nat) (x y : Int) (w : World) (hx : w.cell? ⟨b, 0, none⟩ = some (.int .i64 x)) (hy : w.cell? ⟨b, 1, none⟩ = some (.int .i64 y)) :
    Calls Tryz.prog 94 #[.slice (some ⟨b, 0, none⟩) 2 cap] w fun e w' => e = .returned (.int .i64 (orI x y)) ∧ w' = w := by
  by_cases hx0 : x = 0
  · subst hx0
    by_cases hy0 : y = 0
    · subst hy0
      go_enter Tryz.func94, Tryz.ntmps94
      go_wp2
      refine wp_loop_rounds 3 ?_
      rw [rounds_succ]
      go_wp2
      rw [rounds_succ]
      go_wp2
      rw [rounds_succ]
      go_wp2
      go_ret
      exact ⟨rfl, rfl⟩
    · have hd : (y != 0) = true := by simp [hy0]
      clear hy0
      go_enter Tryz.func94, Tryz.ntmps94
      go_wp2
      refine wp_loop_rounds 2 ?_
      rw [rounds_succ]
      go_wp2
      rw [rounds_succ]
      go_wp2
      go_ret
      exact ⟨ret_int rfl, rfl⟩
  · have hd : (x != 0) = true := by simp [hx0]
    have Hx := Lib.hid hx0
    clear hx0
    go_enter Tryz.func94, Tryz.ntmps94
    go_wp2
    refine wp_loop_rounds 1 ?_
    rw [rounds_succ]
    go_wp2
    go_ret
    exact ⟨ret_int (by unfold orI; rw [if_neg Hx.out]), rfl⟩

set_option maxRecDepth 100000 in
set_option maxHeartbeats 4000000 in
theorem compare_grow (a b : Int × Int) (w : World) :
    Calls Tryz.prog 73 #[.agg #[.int .i64 a.1, .int .i64 a.2], .agg #[.int .i64 b.1, .int .i64 b.2]] w fun e w' => e = .returned (.int .i64 (cmpAcc a b)) ∧ ∃ q os', w' = Sort.grow (w.drewN q) os' := by
  have e0 : ((w.alloc (.cells #[.int .i64 a.1, .int .i64 a.2] 81)).alloc (.cells #[.int .i64 b.1, .int .i64 b.2] 81)).cell? ⟨w.heap.size, 0, none⟩ = some (.int .i64 a.1) := by simp
  have e1 : ((w.alloc (.cells #[.int .i64 a.1, .int .i64 a.2] 81)).alloc (.cells #[.int .i64 b.1, .int .i64 b.2] 81)).cell? ⟨w.heap.size, 1, none⟩ = some (.int .i64 a.2) := by simp
  have e2 : ((w.alloc (.cells #[.int .i64 a.1, .int .i64 a.2] 81)).alloc (.cells #[.int .i64 b.1, .int .i64 b.2] 81)).cell? ⟨w.heap.size + 1, 0, none⟩ = some (.int .i64 b.1) := by simp
  have e3 : ((w.alloc (.cells #[.int .i64 a.1, .int .i64 a.2] 81)).alloc (.cells #[.int .i64 b.1, .int .i64 b.2] 81)).cell? ⟨w.heap.size + 1, 1, none⟩ = some (.int .i64 b.2) := by simp
  go_enter Tryz.func73, Tryz.ntmps73
  go_wp2_with fail
  have HW := Lib.hid (show ((w.alloc (.cells #[.int .i64 a.1, .int .i64 a.2] 81)).alloc (.cells #[.int .i64 b.1, .int .i64 b.2] 81)) = Sort.grow w #[.cells #[.int .i64 a.1, .int .i64 a.2] 81, .cells #[.int .i64 b.1, .int .i64 b.2] 81] by rw [Sort.alloc_eq_grow, Sort.alloc_eq_grow, Sort.grow_grow]; rfl)
  generalize ((w.alloc (.cells #[.int .i64 a.1, .int .i64 a.2] 81)).alloc (.cells #[.int .i64 b.1, .int .i64 b.2] 81)) = W at *
  have hz : w.heap.size + 1 < W.heap.size := World.block_lt_of_cell? W _ e2
  go_region_held3 (fun w' => w'.cell? ⟨w.heap.size, 0, none⟩ = some (.int .i64 a.1) ∧ w'.cell? ⟨w.heap.size, 1, none⟩ = some (.int .i64 a.2) ∧ w'.cell? ⟨w.heap.size + 1, 0, none⟩ = some (.int .i64 b.1) ∧ w'.cell? ⟨w.heap.size + 1, 1, none⟩ = some (.int .i64 b.2))
    (go_keep)
    (first
      | (go_at_call 95; refine (compareInt_any _ _ _).mono ?_; rintro e w' ⟨rfl, rfl⟩)
      | (go_at_call 94; refine (or2_any _ _ (cmpI a.1 b.1) (cmpI a.2 b.2) _ (by simp) (by simp)).mono ?_; rintro e w' ⟨rfl, rfl⟩))
  go_wp2_with fail
  go_ret
  exact ⟨ret_int rfl, 1, _, by rw [HW.out, Sort.alloc_eq_grow, Sort.grow_grow, Sort.drew_grow]; rfl⟩

theorem below_of_grow (w : World) (q : Nat) (os : Array Obj) : Below w.heap.size w (Sort.grow (w.drewN q) os) :=
  ⟨rfl, rfl, rfl, by simp [Sort.grow], fun k hk => by simp [Sort.grow, World.drewN, hk, Array.getElem?_append]⟩
theorem compare_any (a b : Int × Int) (w : World) :
    Calls Tryz.prog 73 #[.agg #[.int .i64 a.1, .int .i64 a.2], .agg #[.int .i64 b.1, .int .i64 b.2]] w fun e w' => e = .returned (.int .i64 (cmpAcc a b)) ∧ Below w.heap.size w w' :=
  (compare_grow a b w).mono fun _ _ ⟨he, q, os, hw⟩ => ⟨he, by rw [hw]; exact below_of_grow w q os⟩

set_option maxRecDepth 100000 in
set_option maxHeartbeats 4000000 in
theorem rightDu_any (d : Du) (w : World) :
    Calls Tryz.prog 71 #[.agg #[.int .i64 d.party, .int .i64 d.parcel, .int .i64 d.amount]] w fun e w' => e = .returned (.bool (okDu d)) ∧ Below w.heap.size w w' := by
  by_cases h1 : 10 ≤ d.parcel
  case neg =>
    have HE := Lib.hid (show okDu d = false by unfold okDu; rw [decide_eq_false_iff_not]; omega)
    go_enter Tryz.func71, Tryz.ntmps71
    go_wp2
    go_ret
    exact ⟨ret_bool HE.out.symm, (Below.refl _ _).alloc (Nat.le_refl _) _⟩
  by_cases h2 : d.parcel ≤ 10000007
  case neg =>
    have HE := Lib.hid (show okDu d = false by unfold okDu; rw [decide_eq_false_iff_not]; omega)
    go_enter Tryz.func71, Tryz.ntmps71
    go_wp2
    go_ret
    exact ⟨ret_bool HE.out.symm, (Below.refl _ _).alloc (Nat.le_refl _) _⟩
  by_cases h3 : 0 ≤ d.party
  case neg =>
    have HE := Lib.hid (show okDu d = false by unfold okDu; rw [decide_eq_false_iff_not]; omega)
    go_enter Tryz.func71, Tryz.ntmps71
    go_wp2
    go_ret
    exact ⟨ret_bool HE.out.symm, (Below.refl _ _).alloc (Nat.le_refl _) _⟩
  by_cases h4 : d.party ≤ 40
  case neg =>
    have HE := Lib.hid (show okDu d = false by unfold okDu; rw [decide_eq_false_iff_not]; omega)
    go_enter Tryz.func71, Tryz.ntmps71
    go_wp2
    go_ret
    exact ⟨ret_bool HE.out.symm, (Below.refl _ _).alloc (Nat.le_refl _) _⟩
  by_cases h5 : 0 ≤ d.amount
  case neg =>
    have HE := Lib.hid (show okDu d = false by unfold okDu; rw [decide_eq_false_iff_not]; omega)
    go_enter Tryz.func71, Tryz.ntmps71
    go_wp2
    go_ret
    exact ⟨ret_bool HE.out.symm, (Below.refl _ _).alloc (Nat.le_refl _) _⟩
  by_cases h6 : d.amount ≤ 1000000000
  case neg =>
    have HE := Lib.hid (show okDu d = false by unfold okDu; rw [decide_eq_false_iff_not]; omega)
    go_enter Tryz.func71, Tryz.ntmps71
    go_wp2
    go_ret
    exact ⟨ret_bool HE.out.symm, (Below.refl _ _).alloc (Nat.le_refl _) _⟩
  have HE := Lib.hid (show okDu d = true by unfold okDu; rw [decide_eq_true_eq]; omega)
  go_enter Tryz.func71, Tryz.ntmps71
  go_wp2
  go_ret
  exact ⟨ret_bool HE.out.symm, (Below.refl _ _).alloc (Nat.le_refl _) _⟩
end Go.Proofs.YtjleembfocghlaaGreatDoor
