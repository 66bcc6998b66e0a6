/- The walk of the references' SamePostings. -/
import Derived.Test.YtjleembfocghlaaGreatDoorRefE
set_option linter.unusedSimpArgs false
set_option linter.unusedVariables false
namespace Go.Proofs.YtjleembfocghlaaGreatDoor
open Go.RowKit

theorem po_eq_iff (p q : Po) : p = q ↔ p.id = q.id ∧ p.hour = q.hour ∧ p.kind = q.kind ∧ p.party = q.party ∧ p.parcel = q.parcel ∧ p.amount = q.amount ∧ p.reason = q.reason ∧ p.known = q.known := by
  cases p; cases q; simp

theorem eqPo_run (p q : Po) (w : World) : (Op.equalIn 10000 23 (.agg #[.int .i64 p.id, .int .i64 p.hour, .int .u8 p.kind, .int .i64 p.party, .int .i64 p.parcel, .int .i64 p.amount, .int .i64 p.reason, .int .i64 p.known])
    (.agg #[.int .i64 q.id, .int .i64 q.hour, .int .u8 q.kind, .int .i64 q.party, .int .i64 q.parcel, .int .i64 q.amount, .int .i64 q.reason, .int .i64 q.known])).run Tryz.prog w = .ok (decide (p = q)) w := by
  go_simp
  by_cases h : p = q
  · subst h
    simp
  · have h' := h
    rw [po_eq_iff] at h'
    simp only [h, decide_false]
    repeat' split
    all_goals first | rfl | (exfalso; apply h'; refine ⟨?_, ?_, ?_, ?_, ?_, ?_, ?_, ?_⟩ <;> assumption)

theorem neqPo_run (p q : Po) (w : World) : (binOp .neq 23 (.agg #[.int .i64 p.id, .int .i64 p.hour, .int .u8 p.kind, .int .i64 p.party, .int .i64 p.parcel, .int .i64 p.amount, .int .i64 p.reason, .int .i64 p.known])
    (.agg #[.int .i64 q.id, .int .i64 q.hour, .int .u8 q.kind, .int .i64 q.party, .int .i64 q.parcel, .int .i64 q.amount, .int .i64 q.reason, .int .i64 q.known])).run Tryz.prog w = .ok (.bool (!(decide (p = q)))) w := by
  simp only [binOp]
  simp [Op.equal, Op.maxDepth, eqPo_run]

end Go.Proofs.YtjleembfocghlaaGreatDoor
