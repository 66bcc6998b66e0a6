/- The walk of the law's few. -/
import Derived.Test.YtehedodogkhmgaaGreatPurses
set_option linter.unusedSimpArgs false
set_option linter.unusedVariables false
namespace Go.Proofs.YtehedodogkhmgaaGreat
open Go.RowKit Go.Shelf

/-- the sizes that the laws ask -/
def fewB (n n' n'' : Nat) : Prop := n ≤ 24 ∧ (n' ≤ 20 ∨ (400 < n' ∧ n' ≤ 405)) ∧ (n'' ≤ 20 ∨ (400 < n'' ∧ n'' ≤ 405))
instance (n n' n'' : Nat) : Decidable (fewB n n' n'') := by unfold fewB; infer_instance
set_option maxHeartbeats 4000000 in
theorem few_any (a : Option Addr) (n cap : Nat) (a' : Option Addr) (n' cap' : Nat) (a'' : Option Addr) (n'' cap'' : Nat) (w : World) :
    Calls Tryz.prog 10 #[.slice a n cap, .slice a' n' cap', .slice a'' n'' cap''] w fun e w' => e = .returned (.bool (decide (fewB n n' n''))) ∧ w' = w := by
  by_cases h1 : n ≤ 24
  · have h' : n' ≤ 20 ∨ (20 < n' ∧ n' ≤ 400) ∨ (400 < n' ∧ n' ≤ 405) ∨ 405 < n' := by omega
    have h'' : n'' ≤ 20 ∨ (20 < n'' ∧ n'' ≤ 400) ∨ (400 < n'' ∧ n'' ≤ 405) ∨ 405 < n'' := by omega
    rcases h' with h' | h' | h' | h' <;> rcases h'' with h'' | h'' | h'' | h''
    all_goals
      go_enter Tryz.func10, Tryz.ntmps10
      go_wp2_with fail
      go_ret
      refine ⟨ret_bool ?_, rfl⟩
      rw [Bool.eq_iff_iff, decide_eq_true_iff (p := fewB n n' n'')]; unfold fewB; simp only [Bool.or_eq_true, Bool.and_eq_true, decide_eq_true_eq, Bool.false_eq_true, Bool.true_eq_false, true_iff, false_iff, iff_true, iff_false]; omega
  · go_enter Tryz.func10, Tryz.ntmps10
    go_wp2_with fail
    go_ret
    refine ⟨ret_bool ?_, rfl⟩
    rw [Bool.eq_iff_iff, decide_eq_true_iff (p := fewB n n' n'')]; unfold fewB; simp only [Bool.or_eq_true, Bool.and_eq_true, decide_eq_true_eq, Bool.false_eq_true, Bool.true_eq_false, true_iff, false_iff, iff_true, iff_false]; omega
end Go.Proofs.YtehedodogkhmgaaGreat
