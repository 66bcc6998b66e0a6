/- The walks of the references' small functions. -/
import Derived.Test.YtjleembfocghlaaGreatDoorPlain
import Derived.Test.YtjleembfocghlaaGreatDoorChecked
import Derived.Deep.QuietTactic
import Derived.BigQuiet
set_option linter.unusedSimpArgs false
set_option linter.unusedVariables false
namespace Go.Proofs.YtjleembfocghlaaGreatDoor
open Go.RowKit

set_option maxHeartbeats 1000000 in
theorem rcheckPosting_any (p : Po) (w : World) :
    Calls Tryz.prog 21 #[.agg #[.int .i64 p.id, .int .i64 p.hour, .int .u8 p.kind, .int .i64 p.party, .int .i64 p.parcel, .int .i64 p.amount, .int .i64 p.reason, .int .i64 p.known]] w fun e w' => e = .returned (.int .i64 (chkPo p)) ∧ Below w.heap.size w w' := by
  go_enter Tryz.func21, Tryz.ntmps21
  go_wp2
  all_goals
    try simp only [bne_iff_ne, ne_eq, bne_eq_false_iff_eq, beq_iff_eq, beq_eq_false_iff_ne] at *
    go_ret
    refine ⟨ret_int ?_, (Below.refl _ _).alloc (Nat.le_refl _) _⟩
    first | exact chk_of1 (by unfold okPo; omega) | exact chk_of0 (by unfold okPo; omega)

set_option maxHeartbeats 2000000 in
theorem checkPosting_any (p : Po) (w : World) (hk0 : 0 ≤ p.kind) (hk1 : p.kind ≤ 255) :
    Calls Tryz.prog 17 #[.agg #[.int .i64 p.id, .int .i64 p.hour, .int .u8 p.kind, .int .i64 p.party, .int .i64 p.parcel, .int .i64 p.amount, .int .i64 p.reason, .int .i64 p.known]] w fun e w' => e = .returned (.int .i64 (chkPo p)) ∧ Below w.heap.size w w' := by
  go_enter Tryz.func17, Tryz.ntmps17
  go_wp2
  all_goals
    try simp only [bne_iff_ne, ne_eq, bne_eq_false_iff_eq, beq_iff_eq, beq_eq_false_iff_ne] at *
    go_ret
    refine ⟨ret_int ?_, (Below.refl _ _).alloc (Nat.le_refl _) _⟩
    first | exact chk_of1 (by unfold okPo; omega) | exact chk_of0 (by unfold okPo; omega)

end Go.Proofs.YtjleembfocghlaaGreatDoor

/- The walks of the references' held, last. -/
namespace Go.Proofs.YtjleembfocghlaaGreatDoor
open Go.RowKit

end Go.Proofs.YtjleembfocghlaaGreatDoor

/- The walk of the references' last. -/
namespace Go.Proofs.YtjleembfocghlaaGreatDoor
open Go.RowKit

end Go.Proofs.YtjleembfocghlaaGreatDoor

/- The walk of the references' refused. -/
namespace Go.Proofs.YtjleembfocghlaaGreatDoor
open Go.RowKit

end Go.Proofs.YtjleembfocghlaaGreatDoor
