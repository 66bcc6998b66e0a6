/- The walk of the chest's take: a deferred closure recovers what the refusals give up with. -/
import Derived.Test.YtehedodogkhmgaaGreatBack
import Derived.Test.YtehedodogkhmgaaGreatRefF
import Derived.Recover
import Derived.Laws.EntriesVeiled
set_option linter.unusedSimpArgs false
set_option linter.unusedVariables false
namespace Go.Proofs.YtehedodogkhmgaaGreat
open Go.RowKit
open Go.Maps (Keyed)

set_option maxRecDepth 100000 in
set_option maxHeartbeats 1000000 in
theorem catch_refusal (b : Nat) (x e : Int) (older : List PanicEntry) (w : World) (hc : w.cell? ⟨b, 0, none⟩ = some (.int .i64 x)) (hz : w.frozen? ⟨b, 0, none⟩ = false) :
    CallsD Tryz.prog 131 #[.pointer (some ⟨b, 0, none⟩)] (.panicking ({ v := refusalV e, recovered := false } :: older)) w fun r u' w' =>
      r = .returned (.tuple #[]) ∧ u' = .panicking ({ v := refusalV e, recovered := true } :: older) ∧ w' = (w.setCell ⟨b, 0, none⟩ (.int .i64 e)).alloc (.cells #[.int .i64 e] 149) := by
  have hlt : b < w.heap.size := World.block_lt_of_cell? w _ hc
  refine callsD_of_wpS Tryz.func131 rfl fun c₀ cs hu => ?_
  simp only [Tryz.ntmps131, List.size_toArray, List.length_cons, List.length_nil, Nat.reduceAdd, Nat.reduceSub, Array.replicate_succ, Array.replicate_zero, List.push_toArray, List.append_toArray, List.nil_append, List.cons_append]
  apply wpS_seq
  apply wpS_region
  simp [wpOpsS, go_sem, recoverD, hu, Exit.thenS]
  refine wpS_of_wp ?_
  unfold refusalV
  have hta : ∀ W, (Instr.typeAssert (.iface 149 (.agg #[.int .i64 e])) 20 149 true).run Tryz.prog W = .ok (.tuple #[.agg #[.int .i64 e], .bool true]) W := fun _ => by kernel_rfl
  go_wp2_with fail
  refine ⟨rfl, _, rfl, _, results_none rfl _ _ _, rfl, rfl, rfl⟩
set_option maxRecDepth 100000 in
set_option maxHeartbeats 1000000 in
theorem catch_nothing (b : Nat) (w : World) :
    CallsD Tryz.prog 131 #[.pointer (some ⟨b, 0, none⟩)] .returning w fun e u' w' => e = .returned (.tuple #[]) ∧ u' = .returning ∧ w' = w := by
  refine callsD_of_wpS Tryz.func131 rfl fun c₀ cs hu => ?_
  simp only [Tryz.ntmps131, List.size_toArray, List.length_cons, List.length_nil, Nat.reduceAdd, Nat.reduceSub, Array.replicate_succ, Array.replicate_zero, List.push_toArray, List.append_toArray, List.nil_append, List.cons_append]
  apply wpS_seq
  apply wpS_region
  simp [wpOpsS, go_sem, recoverD, hu, Exit.thenS]
  refine wpS_of_wp ?_
  go_wp2_with fail
  refine ⟨rfl, _, by cases c₀; simp only at hu; subst hu; rfl, _, results_none rfl _ _ _, rfl, rfl, rfl⟩
set_option maxHeartbeats 1000000 in
theorem takes_any (w : World) : Calls Tryz.prog 134 #[] w fun r w' => r = .returned (.agg #[.nilFunc, .func (.func 143) #[] #[], .func (.func 144) #[] #[], .func (.func 145) #[] #[]]) ∧ Below w.heap.size w w' := by
  go_enter Tryz.func134, Tryz.ntmps134
  go_wp2_with fail
  refine bodyPost_ret (v := .agg #[.nilFunc, .func (.func 143) #[] #[], .func (.func 144) #[] #[], .func (.func 145) #[] #[]]) (by simp [results, Tryz.results134, go_sem]) rfl ⟨rfl, ?_⟩
  exact (Below.refl _ _).alloc (Nat.le_refl _) _
end Go.Proofs.YtehedodogkhmgaaGreat
