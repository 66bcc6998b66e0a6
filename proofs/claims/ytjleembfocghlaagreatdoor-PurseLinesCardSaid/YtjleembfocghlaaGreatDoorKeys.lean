/- The key types of this program's maps. -/
import Derived.Test.YtjleembfocghlaaGreatDoorMaps
import Derived.Test.YtjleembfocghlaaGreatDoorChecked
import Derived.DeepKeys4
import Derived.KernelRfl
set_option linter.unusedSimpArgs false
set_option linter.unusedVariables false
namespace Go.Proofs.YtjleembfocghlaaGreatDoor
open Go.RowKit
open Go.Maps (Keyed)

theorem laidOut_ok : laidOutB Tryz.prog = true := by kernel_rfl
theorem intKeyed : Keyed Tryz.prog 3 := Maps.int_keyed Tryz.underlying3
theorem accKeyed : Keyed Tryz.prog 81 := Keyed.of_law (deep_law_laid laidOut_ok (m := 2) (by omega) (of_decide_eq_true (by kernel_rfl)) (by kernel_rfl) (by kernel_rfl))

/-- a number of 64 bits -/
def I64 (x : Int) : Prop := -9223372036854775808 ≤ x ∧ x ≤ 9223372036854775807
theorem I64.wf {x : Int} (h : I64 x) : (Lit.int .i64 x).wf = true := WalkArith.wf_i64 h
def kInt (x : Int) : Value := .int .i64 x
def kAcc (x : Int × Int) : Value := .agg #[.int .i64 x.1, .int .i64 x.2]
theorem kInt_inj : ∀ x y, kInt x = kInt y → x = y := fun x y h => by unfold kInt at h; injection h
theorem kAcc_inj : ∀ x y, kAcc x = kAcc y → x = y := fun x y h => by
  obtain ⟨a, b⟩ := x; obtain ⟨c, d⟩ := y
  unfold kAcc at h
  simp at h
  simp [h.1, h.2]
theorem kInt_key {x : Int} (h : I64 x) : ∃ l, keyOf Tryz.prog 3 (kInt x) = some l := ⟨_, Maps.keyOf_int_mk Tryz.underlying3 h.wf⟩
theorem kAcc_key {x : Int × Int} (h1 : I64 x.1) (h2 : I64 x.2) : ∃ l, keyOf Tryz.prog 81 (kAcc x) = some l := by
  have hw1 := h1.wf
  have hw2 := h2.wf
  have hty : Tryz.prog.keyType 81 = true := by kernel_rfl
  have hcz : Tryz.prog.cellsOf 81 = 2 := by kernel_rfl
  have hci : Tryz.prog.cellsOf 3 = 1 := by kernel_rfl
  have hrow : (81 : Nat) < Tryz.prog.types.size := of_decide_eq_true (by kernel_rfl)
  obtain ⟨d, hd⟩ : ∃ d, Tryz.prog.types.size = d + 1 := ⟨Tryz.prog.types.size - 1, by omega⟩
  have hf : (Value.agg #[Value.int .i64 x.1, Value.int .i64 x.2]).formed Tryz.prog 81 = true := by
    simp [Value.formed, Tryz.underlying81, hcz]
  have hi : ∀ y : Int, (Lit.int .i64 y).wf = true → Tryz.prog.keyLits (d + 1) 3 [.int .i64 y] = some [.int .i64 y] := fun y hy => by
    simp [Program.keyLits, Tryz.underlying3, hy]
  unfold kAcc
  simp only [keyOf, Tryz.underlying81, hty, hf, hd, Bool.and_self, if_true]
  have hk : Tryz.prog.keyLits (d + 1 + 1) 81 (Value.agg #[Value.int .i64 x.1, Value.int .i64 x.2]).cells.toList = some [.int .i64 x.1, .int .i64 x.2] := by
    unfold Program.keyLits
    simp [Tryz.underlying81, hcz, hci, hi _ hw1, hi _ hw2, Value.cells]
  rw [hk]
  exact ⟨_, rfl⟩
end Go.Proofs.YtjleembfocghlaaGreatDoor
