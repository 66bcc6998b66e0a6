/- The walk of the reference's Write. -/
import Derived.Test.YtjleembfocghlaaGreatDoorDigits
import Derived.Test.YtjleembfocghlaaGreatDoorRefD
import Derived.Test.YtjleembfocghlaaGreatDoorLater
import Derived.BigQuiet
import Derived.Deep.Cut
set_option linter.unusedSimpArgs false
set_option linter.unusedVariables false
namespace Go.Proofs.YtjleembfocghlaaGreatDoor
open Go.RowKit

/-- the digits of a number that is not negative -/
def dig (n : Int) : List UInt8 := Lib.decDigits n.toNat
def headL (p : Po) : List UInt8 := dig p.id ++ [32] ++ dig p.hour
def tailL (p : Po) : List UInt8 := dig p.parcel ++ [32] ++ dig p.amount ++ [32] ++ dig p.reason ++ [32] ++ dig p.known
/-- the line of a posting -/
def lineL (p : Po) : List UInt8 :=
  if p.kind = 1 then headL p ++ [32, 115, 97, 108, 101, 32] ++ tailL p
  else if p.kind = 2 then headL p ++ [32, 112, 97, 121, 32] ++ dig p.party ++ [32] ++ tailL p
  else headL p ++ [32, 98, 97, 99, 107, 32] ++ dig p.party ++ [32] ++ tailL p
theorem dig_le {n : Int} (h1 : n ≤ 1000000000000) : (dig n).length ≤ 13 := decDigits_le 12 _ (by omega)
theorem run_add (a b : List UInt8) (h : a.length + b.length ≤ 1000000) (w : World) : (binOp .add 9 (.string ⟨a.toArray⟩) (.string ⟨b.toArray⟩)).run Tryz.prog w = .ok (.string ⟨(a ++ b).toArray⟩) w := by
  rw [← str_append]
  have h1 : (⟨a.toArray⟩ : ByteArray).size = a.length := by simp [ByteArray.size]
  have h2 : (⟨b.toArray⟩ : ByteArray).size = b.length := by simp [ByteArray.size]
  simp only [binOp]
  exact run_string_add_sum w ⟨a.toArray⟩ ⟨b.toArray⟩ (by omega)

theorem cell_stays {W W' : World} {a : Addr} {v : Value} (h : W.cell? a = some v) (hB : Below W.heap.size W W') : W'.cell? a = some v := (hB.cell (World.block_lt_of_cell? _ _ h)).trans h
theorem below_on {B : Nat} {w w1 w2 : World} (h : Below B w w1) (h2 : Below w1.heap.size w1 w2) (hB : B ≤ w.heap.size) : Below B w w2 := h.trans (h2.mono (Nat.le_trans hB h.size))
def WritePost (w : World) (p : Po) (e : Ending) (w' : World) : Prop :=
  e = .returned (.tuple #[str (if chkPo p = 0 then lineL p else []), .int .i64 (chkPo p)]) ∧ Below w.heap.size w w'

set_option maxRecDepth 100000 in
set_option maxHeartbeats 4000000 in
theorem rwrite_any (p : Po) (w : World) :
    Calls Tryz.prog 6 #[.agg #[.int .i64 p.id, .int .i64 p.hour, .int .u8 p.kind, .int .i64 p.party, .int .i64 p.parcel, .int .i64 p.amount, .int .i64 p.reason, .int .i64 p.known]] w (WritePost w p) := by
  have bx := BoxPo.made w p 23
  have hb := (Below.refl w.heap.size w).alloc (Nat.le_refl _) (.cells #[.int .i64 p.id, .int .i64 p.hour, .int .u8 p.kind, .int .i64 p.party, .int .i64 p.parcel, .int .i64 p.amount, .int .i64 p.reason, .int .i64 p.known] 23)
  go_enter Tryz.func6, Tryz.ntmps6
  go_upto_region 1 with (fail)
  generalize w.alloc (.cells #[.int .i64 p.id, .int .i64 p.hour, .int .u8 p.kind, .int .i64 p.party, .int .i64 p.parcel, .int .i64 p.amount, .int .i64 p.reason, .int .i64 p.known] 23) = w1 at *
  obtain ⟨c0, c1, c2, c3, c4, c5, c6, c7⟩ := bx.cells
  have HB := Lib.hid hb
  clear hb
  go_wp2_with fail
  refine (rcheckPosting_any p _).mono ?_
  rintro e w2 ⟨rfl, hB⟩
  obtain ⟨ce, hce⟩ : ∃ c, chkPo p = c := ⟨_, rfl⟩
  rw [hce]
  have Hce := Lib.hid hce
  have HB2 := Lib.hid (below_then HB.out hB (Nat.le_refl _))
  have bx2 := bx.below' hB
  clear hB hce bx HB c0 c1 c2 c3 c4 c5 c6 c7
  by_cases h0 : ce = 0
  case neg =>
    have h1 : (ce != 0) = true := by simp [h0]
    have hc1 : ce = 1 := by
      have h2 := Hce.out
      unfold chkPo at h2
      split at h2 <;> omega
    subst hc1
    go_wp2_with fail
    go_ret2
    exact ⟨by rw [Hce.out, if_neg h0]; rfl, HB2.out⟩
  subst h0
  have hok : okPo p := by
    refine Classical.byContradiction fun h => ?_
    have h1 := Hce.out
    unfold chkPo at h1
    rw [if_neg h] at h1
    omega
  unfold okPo at hok
  obtain ⟨c0, c1, c2, c3, c4, c5, c6, c7⟩ := bx2.cells
  obtain ⟨D0, d0⟩ : ∃ D, dig p.id = D := ⟨_, rfl⟩
  obtain ⟨D1, d1⟩ : ∃ D, dig p.hour = D := ⟨_, rfl⟩
  obtain ⟨D3, d3⟩ : ∃ D, dig p.party = D := ⟨_, rfl⟩
  obtain ⟨D4, d4⟩ : ∃ D, dig p.parcel = D := ⟨_, rfl⟩
  obtain ⟨D5, d5⟩ : ∃ D, dig p.amount = D := ⟨_, rfl⟩
  obtain ⟨D6, d6⟩ : ∃ D, dig p.reason = D := ⟨_, rfl⟩
  obtain ⟨D7, d7⟩ : ∃ D, dig p.known = D := ⟨_, rfl⟩
  have l0 : D0.length ≤ 13 := by rw [← d0]; exact dig_le (by omega)
  have l1 : D1.length ≤ 13 := by rw [← d1]; exact dig_le (by omega)
  have l3 : D3.length ≤ 13 := by rw [← d3]; exact dig_le (by omega)
  have l4 : D4.length ≤ 13 := by rw [← d4]; exact dig_le (by omega)
  have l5 : D5.length ≤ 13 := by rw [← d5]; exact dig_le (by omega)
  have l6 : D6.length ≤ 13 := by rw [← d6]; exact dig_le (by omega)
  have l7 : D7.length ≤ 13 := by rw [← d7]; exact dig_le (by omega)
  have C0 := Lib.hid (show ∀ W, Calls Tryz.prog 22 #[.int .i64 p.id] W fun e w' => e = .returned (.string ⟨D0.toArray⟩) ∧ Below W.heap.size W w' from fun W => by rw [← d0]; exact digits_any _ p.id W (Nat.le_refl _) (by omega) (by omega))
  have C1 := Lib.hid (show ∀ W, Calls Tryz.prog 22 #[.int .i64 p.hour] W fun e w' => e = .returned (.string ⟨D1.toArray⟩) ∧ Below W.heap.size W w' from fun W => by rw [← d1]; exact digits_any _ p.hour W (Nat.le_refl _) (by omega) (by omega))
  have C3 := Lib.hid (show ∀ W, Calls Tryz.prog 22 #[.int .i64 p.party] W fun e w' => e = .returned (.string ⟨D3.toArray⟩) ∧ Below W.heap.size W w' from fun W => by rw [← d3]; exact digits_any _ p.party W (Nat.le_refl _) (by omega) (by omega))
  have C4 := Lib.hid (show ∀ W, Calls Tryz.prog 22 #[.int .i64 p.parcel] W fun e w' => e = .returned (.string ⟨D4.toArray⟩) ∧ Below W.heap.size W w' from fun W => by rw [← d4]; exact digits_any _ p.parcel W (Nat.le_refl _) (by omega) (by omega))
  have C5 := Lib.hid (show ∀ W, Calls Tryz.prog 22 #[.int .i64 p.amount] W fun e w' => e = .returned (.string ⟨D5.toArray⟩) ∧ Below W.heap.size W w' from fun W => by rw [← d5]; exact digits_any _ p.amount W (Nat.le_refl _) (by omega) (by omega))
  have C6 := Lib.hid (show ∀ W, Calls Tryz.prog 22 #[.int .i64 p.reason] W fun e w' => e = .returned (.string ⟨D6.toArray⟩) ∧ Below W.heap.size W w' from fun W => by rw [← d6]; exact digits_any _ p.reason W (Nat.le_refl _) (by omega) (by omega))
  have C7 := Lib.hid (show ∀ W, Calls Tryz.prog 22 #[.int .i64 p.known] W fun e w' => e = .returned (.string ⟨D7.toArray⟩) ∧ Below W.heap.size W w' from fun W => by rw [← d7]; exact digits_any _ p.known W (Nat.le_refl _) (by omega) (by omega))
  have HH := Lib.hid (show headL p = D0 ++ [32] ++ D1 by unfold headL; rw [d0, d1])
  have HT := Lib.hid (show tailL p = D4 ++ [32] ++ D5 ++ [32] ++ D6 ++ [32] ++ D7 by unfold tailL; rw [d4, d5, d6, d7])
  have HD3 := Lib.hid d3
  clear d0 d1 d3 d4 d5 d6 d7 bx2
  have k0 : ∀ z : Later w2, z.w.cell? ⟨w.heap.size, 0, none⟩ = some (.int .i64 p.id) := fun z => z.cell c0
  have k1 : ∀ z : Later w2, z.w.cell? ⟨w.heap.size, 1, none⟩ = some (.int .i64 p.hour) := fun z => z.cell c1
  have HC := Lib.hid (And.intro c2 (And.intro c3 (And.intro c4 (And.intro c5 (And.intro c6 c7)))))
  clear c0 c1 c2 c3 c4 c5 c6 c7
  go_upto_region 3 with (fail)
  refine wp_region_later (by kernel_rfl) (by kernel_rfl) ?_
  repeat (go_big_quiet_step ((first | (go_at_call 22; first | with_reducible exact Calls.later_of (C0.out _) | with_reducible exact Calls.later_of (C1.out _)))))
  refine wpQuiet_nil ?_
  intro wz hw'
  obtain ⟨⟨w3, hW⟩, hw''⟩ := hw'
  obtain rfl : w3 = wz := hw''.symm
  clear hw'' k0 k1
  have hS1 : (⟨D0.toArray⟩ ++ ⟨#[32]⟩ ++ ⟨D1.toArray⟩ : ByteArray) = ⟨(headL p).toArray⟩ := by
    rw [HH.out]; exact (congrArg (· ++ _) (str_append D0 [32])).trans (str_append _ _)
  rw [hS1]
  obtain ⟨H, hH⟩ : ∃ H, headL p = H := ⟨_, rfl⟩
  have hHl : H.length ≤ 40 := by rw [← hH, HH.out]; simp; omega
  rw [hH]
  have HHe := Lib.hid hH
  have HB3 := Lib.hid (below_then HB2.out hW (Nat.le_refl _))
  obtain ⟨c2, c3, c4, c5, c6, c7⟩ := HC.out
  have d2 := cell_stays c2 hW
  have d3 := cell_stays c3 hW
  have d4 := cell_stays c4 hW
  have d5 := cell_stays c5 hW
  have d6 := cell_stays c6 hW
  have d7 := cell_stays c7 hW
  have HC3 := Lib.hid (And.intro d2 d3)
  clear hS1 hH hW c2 c3 c4 c5 c6 c7 HC d2 d3
  have k4 : ∀ z : Later w3, z.w.cell? ⟨w.heap.size, 4, none⟩ = some (.int .i64 p.parcel) := fun z => z.cell d4
  have k5 : ∀ z : Later w3, z.w.cell? ⟨w.heap.size, 5, none⟩ = some (.int .i64 p.amount) := fun z => z.cell d5
  have k6 : ∀ z : Later w3, z.w.cell? ⟨w.heap.size, 6, none⟩ = some (.int .i64 p.reason) := fun z => z.cell d6
  have k7 : ∀ z : Later w3, z.w.cell? ⟨w.heap.size, 7, none⟩ = some (.int .i64 p.known) := fun z => z.cell d7
  clear d4 d5 d6 d7
  go_upto_region 4 with (fail)
  refine wp_region_later (by kernel_rfl) (by kernel_rfl) ?_
  repeat (go_big_quiet_step ((first | (go_at_call 22; first | with_reducible exact Calls.later_of (C4.out _) | with_reducible exact Calls.later_of (C5.out _) | with_reducible exact Calls.later_of (C6.out _) | with_reducible exact Calls.later_of (C7.out _)))))
  refine wpQuiet_nil ?_
  intro wz hw'
  obtain ⟨⟨w4, hW⟩, hw''⟩ := hw'
  obtain rfl : w4 = wz := hw''.symm
  clear hw'' k4 k5 k6 k7
  have hS2 : (⟨D4.toArray⟩ ++ ⟨#[32]⟩ ++ ⟨D5.toArray⟩ ++ ⟨#[32]⟩ ++ ⟨D6.toArray⟩ ++ ⟨#[32]⟩ ++ ⟨D7.toArray⟩ : ByteArray) = ⟨(tailL p).toArray⟩ := by
    rw [HT.out]
    simp only [← str_append]
  rw [hS2]
  obtain ⟨T, hT⟩ : ∃ T, tailL p = T := ⟨_, rfl⟩
  have hTl : T.length ≤ 60 := by rw [← hT, HT.out]; simp; omega
  rw [hT]
  have HTe := Lib.hid hT
  have HB4 := Lib.hid (below_on HB3.out hW (Nat.le_refl _))
  obtain ⟨c2, c3⟩ := HC3.out
  have d2 := cell_stays c2 hW
  have d3 := cell_stays c3 hW
  clear hS2 hT hW c2 c3 HC3 C0 C1 C4 C5 C6 C7
  by_cases q1 : p.kind = 1
  · have e1 : (p.kind == 1) = true := by simp [q1]
    have HL := Lib.hid (show lineL p = H ++ [32, 115, 97, 108, 101, 32] ++ T by unfold lineL; rw [if_pos q1, HHe.out, HTe.out])
    clear q1
    go_wp2_with fail
    have hS : (⟨H.toArray⟩ ++ ⟨#[32, 115, 97, 108, 101, 32]⟩ ++ ⟨T.toArray⟩ : ByteArray) = ⟨(H ++ [32, 115, 97, 108, 101, 32] ++ T).toArray⟩ := by simp only [← str_append]
    rw [hS]
    clear hS
    go_ret2
    exact ⟨by rw [Hce.out, if_pos rfl, HL.out]; rfl, HB4.out⟩
  have e1 : (p.kind == 1) = false := by simp [q1]
  by_cases q2 : p.kind = 2
  · have e2 : (p.kind == 2) = true := by simp [q2]
    have HL := Lib.hid (show lineL p = H ++ [32, 112, 97, 121, 32] ++ D3 ++ [32] ++ T by unfold lineL; rw [if_neg q1, if_pos q2, HHe.out, HTe.out, HD3.out])
    clear q1 q2
    go_wp2_with fail
    refine (C3.out _).mono ?_
    rintro e w5 ⟨rfl, hB⟩
    have HB5 := Lib.hid (below_on HB4.out hB (Nat.le_refl _))
    clear hB
    go_wp2_with fail
    have hS : (⟨H.toArray⟩ ++ ⟨#[32, 112, 97, 121, 32]⟩ ++ ⟨D3.toArray⟩ ++ ⟨#[32]⟩ ++ ⟨T.toArray⟩ : ByteArray) = ⟨(H ++ [32, 112, 97, 121, 32] ++ D3 ++ [32] ++ T).toArray⟩ := by simp only [← str_append]
    rw [hS]
    clear hS
    go_ret2
    exact ⟨by rw [Hce.out, if_pos rfl, HL.out]; rfl, HB5.out⟩
  have e2 : (p.kind == 2) = false := by simp [q2]
  have HL := Lib.hid (show lineL p = H ++ [32, 98, 97, 99, 107, 32] ++ D3 ++ [32] ++ T by unfold lineL; rw [if_neg q1, if_neg q2, HHe.out, HTe.out, HD3.out])
  clear q1 q2
  go_wp2_with fail
  refine (C3.out _).mono ?_
  rintro e w5 ⟨rfl, hB⟩
  have HB5 := Lib.hid (below_on HB4.out hB (Nat.le_refl _))
  clear hB
  go_wp2_with fail
  have hS : (⟨H.toArray⟩ ++ ⟨#[32, 98, 97, 99, 107, 32]⟩ ++ ⟨D3.toArray⟩ ++ ⟨#[32]⟩ ++ ⟨T.toArray⟩ : ByteArray) = ⟨(H ++ [32, 98, 97, 99, 107, 32] ++ D3 ++ [32] ++ T).toArray⟩ := by simp only [← str_append]
  rw [hS]
  clear hS
  go_ret2
  exact ⟨by rw [Hce.out, if_pos rfl, HL.out]; rfl, HB5.out⟩
end Go.Proofs.YtjleembfocghlaaGreatDoor
