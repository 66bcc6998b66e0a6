/- The walk of the chest's back. -/
import Derived.Test.YtjleembfocghlaaGreatDoorPay
set_option linter.unusedSimpArgs false
set_option linter.unusedVariables false
namespace Go.Proofs.YtjleembfocghlaaGreatDoor
open Go.RowKit
open Go.Maps (Keyed)

def backS (s : Ch) (p : Po) : Ch :=
  { s with held := mput s.held p.parcel (getI s.held p.parcel + p.amount), has := mput s.has (p.parcel, p.party) (getI s.has (p.parcel, p.party) - p.amount) }

set_option maxRecDepth 100000 in
set_option maxHeartbeats 4000000 in
theorem back_none (L : Lay) (s : Ch) (p : Po) (w : World) (hp : p.Wf) (h : ChAt w L s) (hs : (mget s.sold p.parcel).isSome = false) :
    Calls Tryz.prog 93 #[.pointer (some ⟨L.c, 0, none⟩), .agg #[.int .i64 p.id, .int .i64 p.hour, .int .u8 p.kind, .int .i64 p.party, .int .i64 p.parcel, .int .i64 p.amount, .int .i64 p.reason, .int .i64 p.known]] w fun r w' =>
      r = .panicked [{ v := refusalV 5, recovered := false }] ∧ OnlyL L w w' := by
  go_enter Tryz.func93, Tryz.ntmps93
  go_wp2_with fail
  have hbx := BoxPo.made w p 23
  have hch := h.alloc (.cells #[.int .i64 p.id, .int .i64 p.hour, .int .u8 p.kind, .int .i64 p.party, .int .i64 p.parcel, .int .i64 p.amount, .int .i64 p.reason, .int .i64 p.known] 23)
  have HO := Lib.hid (onlyL_of_below ((Below.refl w.heap.size w).alloc (Nat.le_refl _) (.cells #[.int .i64 p.id, .int .i64 p.hour, .int .u8 p.kind, .int .i64 p.party, .int .i64 p.parcel, .int .i64 p.amount, .int .i64 p.reason, .int .i64 p.known] 23)) L)
  generalize (w.alloc (.cells #[.int .i64 p.id, .int .i64 p.hour, .int .u8 p.kind, .int .i64 p.party, .int .i64 p.parcel, .int .i64 p.amount, .int .i64 p.reason, .int .i64 p.known] 23)) = W at *
  have hmem : ∀ k, L.mem k → w.heap.size ≠ k := fun k hk e => by have := h.mem_lt hk; omega
  have Hmem := Lib.hid hmem
  obtain ⟨q0, q1, q2, q3, q4, q5, q6, q7⟩ := hbx.cells
  obtain ⟨c0, c1, c2, c3, c4, c5, c6⟩ := hch.cs
  have Hlt := Lib.hid (fun k hk => h.mem_lt (k := k) hk)
  clear h hmem
  have l1 : ∀ n, (Instr.lookup 72 (.map (some L.sold)) (.int .i64 p.parcel) true).run Tryz.prog (W.drewN n) = .ok (.tuple #[.int .i64 (getI s.sold p.parcel), .bool false]) (W.drewN n) := fun n => by
    rw [look_int_ok (hch.sold.drewN n) hp.parcel, hs]
  go_quiet (fail)
  clear l1
  go_wp2_with fail
  refine (unless_no 5 _).mono ?_
  rintro r w2 ⟨rfl, rfl⟩
  go_wp2_with fail
  exact ⟨rfl, rfl, HO.out.trans (onlyL_of_below (drewN_below _ _) L)⟩

set_option maxRecDepth 100000 in
set_option maxHeartbeats 4000000 in
theorem back_poor (L : Lay) (s : Ch) (p : Po) (w : World) (hp : p.Wf) (h : ChAt w L s) (hs : (mget s.sold p.parcel).isSome = true) (ha : getI s.has (p.parcel, p.party) < p.amount) :
    Calls Tryz.prog 93 #[.pointer (some ⟨L.c, 0, none⟩), .agg #[.int .i64 p.id, .int .i64 p.hour, .int .u8 p.kind, .int .i64 p.party, .int .i64 p.parcel, .int .i64 p.amount, .int .i64 p.reason, .int .i64 p.known]] w fun r w' =>
      r = .panicked [{ v := refusalV 70, recovered := false }] ∧ OnlyL L w w' := by
  go_enter Tryz.func93, Tryz.ntmps93
  go_wp2_with fail
  have hbx := BoxPo.made w p 23
  have hch := h.alloc (.cells #[.int .i64 p.id, .int .i64 p.hour, .int .u8 p.kind, .int .i64 p.party, .int .i64 p.parcel, .int .i64 p.amount, .int .i64 p.reason, .int .i64 p.known] 23)
  have HO := Lib.hid (onlyL_of_below ((Below.refl w.heap.size w).alloc (Nat.le_refl _) (.cells #[.int .i64 p.id, .int .i64 p.hour, .int .u8 p.kind, .int .i64 p.party, .int .i64 p.parcel, .int .i64 p.amount, .int .i64 p.reason, .int .i64 p.known] 23)) L)
  generalize (w.alloc (.cells #[.int .i64 p.id, .int .i64 p.hour, .int .u8 p.kind, .int .i64 p.party, .int .i64 p.parcel, .int .i64 p.amount, .int .i64 p.reason, .int .i64 p.known] 23)) = W at *
  have hmem : ∀ k, L.mem k → w.heap.size ≠ k := fun k hk e => by have := h.mem_lt hk; omega
  have Hmem := Lib.hid hmem
  obtain ⟨q0, q1, q2, q3, q4, q5, q6, q7⟩ := hbx.cells
  obtain ⟨c0, c1, c2, c3, c4, c5, c6⟩ := hch.cs
  have Hlt := Lib.hid (fun k hk => h.mem_lt (k := k) hk)
  clear h hmem
  have l1 : ∀ n, (Instr.lookup 72 (.map (some L.sold)) (.int .i64 p.parcel) true).run Tryz.prog (W.drewN n) = .ok (.tuple #[.int .i64 (getI s.sold p.parcel), .bool true]) (W.drewN n) := fun n => by
    rw [look_int_ok (hch.sold.drewN n) hp.parcel, hs]
  go_quiet (fail)
  clear l1
  go_wp2_with fail
  refine (unless_yes 5 _).mono ?_
  rintro r w2 ⟨rfl, rfl⟩
  have hch := hch.drewN nq
  have hbx := hbx.drewN nq
  have HO := Lib.hid (HO.out.trans (onlyL_of_below (drewN_below _ nq) L))
  clear q0 q1 q2 q3 q4 q5 q6 q7 c0 c1 c2 c3 c4 c5 c6
  generalize W.drewN nq = W at *
  obtain ⟨q0, q1, q2, q3, q4, q5, q6, q7⟩ := hbx.cells
  obtain ⟨c0, c1, c2, c3, c4, c5, c6⟩ := hch.cs
  go_wp2_with fail
  have hmemA : ∀ k, L.mem k → W.heap.size ≠ k := fun k hk e => by have := hch.mem_lt hk; omega
  have HmemA := Lib.hid hmemA
  have hAB : w.heap.size < W.heap.size := hbx.1
  have hch := (hch.alloc (.cells #[.int .i64 p.parcel, .int .i64 p.party] 81))
  have hba : BoxAcc (W.alloc (.cells #[.int .i64 p.parcel, .int .i64 p.party] 81)) W.heap.size p.parcel p.party := BoxAcc.made W p.parcel p.party 81
  have hbx := hbx.below' ((Below.refl W.heap.size W).alloc (Nat.le_refl _) (.cells #[.int .i64 p.parcel, .int .i64 p.party] 81))
  have HO := Lib.hid (HO.out.trans (onlyL_of_below ((Below.refl W.heap.size W).alloc (Nat.le_refl _) (.cells #[.int .i64 p.parcel, .int .i64 p.party] 81)) L))
  clear q0 q1 q2 q3 q4 q5 q6 q7 c0 c1 c2 c3 c4 c5 c6
  clear hmemA
  generalize W.heap.size = A at *
  change ChAt (W.alloc (.cells #[.int .i64 p.parcel, .int .i64 p.party] 81)) L s at hch
  change BoxPo (W.alloc (.cells #[.int .i64 p.parcel, .int .i64 p.party] 81)) w.heap.size p at hbx
  change Hid (OnlyL L w (W.alloc (.cells #[.int .i64 p.parcel, .int .i64 p.party] 81))) at HO
  generalize (W.alloc (.cells #[.int .i64 p.parcel, .int .i64 p.party] 81)) = W at *
  obtain ⟨q0, q1, q2, q3, q4, q5, q6, q7⟩ := hbx.cells
  obtain ⟨c0, c1, c2, c3, c4, c5, c6⟩ := hch.cs
  obtain ⟨a0, a1⟩ := hba.acc
  have l4 : (Instr.lookup 74 (.map (some L.has)) (.agg #[.int .i64 p.parcel, .int .i64 p.party]) false).run Tryz.prog W.drew = .ok (.int .i64 (getI s.has (p.parcel, p.party))) W.drew := look_acc hch.drew.has hp.parcel hp.party
  have hd4 : decide (p.amount ≤ getI s.has (p.parcel, p.party)) = false := by simp; omega
  go_still_tail 9, (by kernel_rfl)
  change wpList _ _ _ _ _ W.drew
  go_wp2_with fail
  refine (unless_no 70 _).mono ?_
  rintro r w2 ⟨rfl, rfl⟩
  go_wp2_with fail
  exact ⟨rfl, rfl, HO.out.trans (onlyL_of_below below_drew1 L)⟩

set_option maxRecDepth 100000 in
set_option maxHeartbeats 4000000 in
theorem back_reason (L : Lay) (s : Ch) (p : Po) (w : World) (hp : p.Wf) (h : ChAt w L s) (hs : (mget s.sold p.parcel).isSome = true) (ha : p.amount ≤ getI s.has (p.parcel, p.party)) (q : Po) (hq : getP s.last (p.parcel, p.party) = q) (hk : p.known ≤ q.known) :
    Calls Tryz.prog 93 #[.pointer (some ⟨L.c, 0, none⟩), .agg #[.int .i64 p.id, .int .i64 p.hour, .int .u8 p.kind, .int .i64 p.party, .int .i64 p.parcel, .int .i64 p.amount, .int .i64 p.reason, .int .i64 p.known]] w fun r w' =>
      r = .panicked [{ v := refusalV 71, recovered := false }] ∧ OnlyL L w w' := by
  go_enter Tryz.func93, Tryz.ntmps93
  go_wp2_with fail
  have hbx := BoxPo.made w p 23
  have hch := h.alloc (.cells #[.int .i64 p.id, .int .i64 p.hour, .int .u8 p.kind, .int .i64 p.party, .int .i64 p.parcel, .int .i64 p.amount, .int .i64 p.reason, .int .i64 p.known] 23)
  have HO := Lib.hid (onlyL_of_below ((Below.refl w.heap.size w).alloc (Nat.le_refl _) (.cells #[.int .i64 p.id, .int .i64 p.hour, .int .u8 p.kind, .int .i64 p.party, .int .i64 p.parcel, .int .i64 p.amount, .int .i64 p.reason, .int .i64 p.known] 23)) L)
  generalize (w.alloc (.cells #[.int .i64 p.id, .int .i64 p.hour, .int .u8 p.kind, .int .i64 p.party, .int .i64 p.parcel, .int .i64 p.amount, .int .i64 p.reason, .int .i64 p.known] 23)) = W at *
  have hmem : ∀ k, L.mem k → w.heap.size ≠ k := fun k hk e => by have := h.mem_lt hk; omega
  have Hmem := Lib.hid hmem
  obtain ⟨q0, q1, q2, q3, q4, q5, q6, q7⟩ := hbx.cells
  obtain ⟨c0, c1, c2, c3, c4, c5, c6⟩ := hch.cs
  have Hlt := Lib.hid (fun k hk => h.mem_lt (k := k) hk)
  clear h hmem
  have Hq0 := Lib.hid hq
  clear hq
  have l1 : ∀ n, (Instr.lookup 72 (.map (some L.sold)) (.int .i64 p.parcel) true).run Tryz.prog (W.drewN n) = .ok (.tuple #[.int .i64 (getI s.sold p.parcel), .bool true]) (W.drewN n) := fun n => by
    rw [look_int_ok (hch.sold.drewN n) hp.parcel, hs]
  go_quiet (fail)
  clear l1
  go_wp2_with fail
  refine (unless_yes 5 _).mono ?_
  rintro r w2 ⟨rfl, rfl⟩
  have hch := hch.drewN nq
  have hbx := hbx.drewN nq
  have HO := Lib.hid (HO.out.trans (onlyL_of_below (drewN_below _ nq) L))
  clear q0 q1 q2 q3 q4 q5 q6 q7 c0 c1 c2 c3 c4 c5 c6
  generalize W.drewN nq = W at *
  obtain ⟨q0, q1, q2, q3, q4, q5, q6, q7⟩ := hbx.cells
  obtain ⟨c0, c1, c2, c3, c4, c5, c6⟩ := hch.cs
  go_wp2_with fail
  have hmemA : ∀ k, L.mem k → W.heap.size ≠ k := fun k hk e => by have := hch.mem_lt hk; omega
  have HmemA := Lib.hid hmemA
  have hAB : w.heap.size < W.heap.size := hbx.1
  have hch := (hch.alloc (.cells #[.int .i64 p.parcel, .int .i64 p.party] 81))
  have hba : BoxAcc (W.alloc (.cells #[.int .i64 p.parcel, .int .i64 p.party] 81)) W.heap.size p.parcel p.party := BoxAcc.made W p.parcel p.party 81
  have hbx := hbx.below' ((Below.refl W.heap.size W).alloc (Nat.le_refl _) (.cells #[.int .i64 p.parcel, .int .i64 p.party] 81))
  have HO := Lib.hid (HO.out.trans (onlyL_of_below ((Below.refl W.heap.size W).alloc (Nat.le_refl _) (.cells #[.int .i64 p.parcel, .int .i64 p.party] 81)) L))
  clear q0 q1 q2 q3 q4 q5 q6 q7 c0 c1 c2 c3 c4 c5 c6
  clear hmemA
  generalize W.heap.size = A at *
  change ChAt (W.alloc (.cells #[.int .i64 p.parcel, .int .i64 p.party] 81)) L s at hch
  change BoxPo (W.alloc (.cells #[.int .i64 p.parcel, .int .i64 p.party] 81)) w.heap.size p at hbx
  change Hid (OnlyL L w (W.alloc (.cells #[.int .i64 p.parcel, .int .i64 p.party] 81))) at HO
  generalize (W.alloc (.cells #[.int .i64 p.parcel, .int .i64 p.party] 81)) = W at *
  obtain ⟨q0, q1, q2, q3, q4, q5, q6, q7⟩ := hbx.cells
  obtain ⟨c0, c1, c2, c3, c4, c5, c6⟩ := hch.cs
  obtain ⟨a0, a1⟩ := hba.acc
  have l4 : (Instr.lookup 74 (.map (some L.has)) (.agg #[.int .i64 p.parcel, .int .i64 p.party]) false).run Tryz.prog W.drew = .ok (.int .i64 (getI s.has (p.parcel, p.party))) W.drew := look_acc hch.drew.has hp.parcel hp.party
  have hd4 : decide (p.amount ≤ getI s.has (p.parcel, p.party)) = true := by simp; omega
  go_still_tail 9, (by kernel_rfl)
  change wpList _ _ _ _ _ W.drew
  go_wp2_with fail
  refine (unless_yes 70 _).mono ?_
  rintro r w2 ⟨rfl, rfl⟩
  clear l4 hd4
  go_wp2_with fail
  have hch := hch.drew
  have hbx := hbx.drewN 1
  have hba := hba.drewN 1
  have HO := Lib.hid (HO.out.trans (onlyL_of_below below_drew1 L))
  change BoxPo W.drew w.heap.size p at hbx
  change BoxAcc W.drew A p.parcel p.party at hba
  clear q0 q1 q2 q3 q4 q5 q6 q7 c0 c1 c2 c3 c4 c5 c6 a0 a1
  generalize W.drew = W at *
  obtain ⟨q0, q1, q2, q3, q4, q5, q6, q7⟩ := hbx.cells
  obtain ⟨c0, c1, c2, c3, c4, c5, c6⟩ := hch.cs
  obtain ⟨a0, a1⟩ := hba.acc
  have l5 : (Instr.lookup 75 (.map (some L.last)) (.agg #[.int .i64 p.parcel, .int .i64 p.party]) false).run Tryz.prog W.drew = .ok (.agg #[.int .i64 q.id, .int .i64 q.hour, .int .u8 q.kind, .int .i64 q.party, .int .i64 q.parcel, .int .i64 q.amount, .int .i64 q.reason, .int .i64 q.known]) W.drew := look_last hch.drew.last hp.parcel hp.party Hq0.out
  have hd5 : decide (q.known < p.known) = false := by simp; omega
  have hf5 : ∀ W, (Instr.field 23 (.agg #[.int .i64 q.id, .int .i64 q.hour, .int .u8 q.kind, .int .i64 q.party, .int .i64 q.parcel, .int .i64 q.amount, .int .i64 q.reason, .int .i64 q.known]) 7).run Tryz.prog W = .ok (.int .i64 q.known) W := fun W => by kernel_rfl
  go_still_tail 10, (by kernel_rfl)
  change wpList _ _ _ _ _ W.drew
  go_wp2_with fail
  refine (unless_no 71 _).mono ?_
  rintro r w2 ⟨rfl, rfl⟩
  go_wp2_with fail
  exact ⟨rfl, rfl, HO.out.trans (onlyL_of_below below_drew1 L)⟩

set_option maxRecDepth 100000 in
set_option maxHeartbeats 4000000 in
theorem back_ok (L : Lay) (s : Ch) (p : Po) (w : World) (hp : p.Wf) (h : ChAt w L s) (hs : (mget s.sold p.parcel).isSome = true) (ha : p.amount ≤ getI s.has (p.parcel, p.party)) (q : Po) (hq : getP s.last (p.parcel, p.party) = q) (hk : q.known < p.known) (hb1 : 0 ≤ p.amount ∧ p.amount ≤ 1000000000) (hb2 : -1000000000000000 ≤ getI s.held p.parcel ∧ getI s.held p.parcel ≤ 1000000000000000) (hb3 : getI s.has (p.parcel, p.party) ≤ 1000000000000000) :
    Calls Tryz.prog 93 #[.pointer (some ⟨L.c, 0, none⟩), .agg #[.int .i64 p.id, .int .i64 p.hour, .int .u8 p.kind, .int .i64 p.party, .int .i64 p.parcel, .int .i64 p.amount, .int .i64 p.reason, .int .i64 p.known]] w fun r w' =>
      r = .returned (.tuple #[]) ∧ ChAt w' L (backS s p) ∧ OnlyL L w w' := by
  go_enter Tryz.func93, Tryz.ntmps93
  go_wp2_with fail
  have hbx := BoxPo.made w p 23
  have hch := h.alloc (.cells #[.int .i64 p.id, .int .i64 p.hour, .int .u8 p.kind, .int .i64 p.party, .int .i64 p.parcel, .int .i64 p.amount, .int .i64 p.reason, .int .i64 p.known] 23)
  have HO := Lib.hid (onlyL_of_below ((Below.refl w.heap.size w).alloc (Nat.le_refl _) (.cells #[.int .i64 p.id, .int .i64 p.hour, .int .u8 p.kind, .int .i64 p.party, .int .i64 p.parcel, .int .i64 p.amount, .int .i64 p.reason, .int .i64 p.known] 23)) L)
  generalize (w.alloc (.cells #[.int .i64 p.id, .int .i64 p.hour, .int .u8 p.kind, .int .i64 p.party, .int .i64 p.parcel, .int .i64 p.amount, .int .i64 p.reason, .int .i64 p.known] 23)) = W at *
  have hmem : ∀ k, L.mem k → w.heap.size ≠ k := fun k hk e => by have := h.mem_lt hk; omega
  have Hmem := Lib.hid hmem
  obtain ⟨q0, q1, q2, q3, q4, q5, q6, q7⟩ := hbx.cells
  obtain ⟨c0, c1, c2, c3, c4, c5, c6⟩ := hch.cs
  have Hlt := Lib.hid (fun k hk => h.mem_lt (k := k) hk)
  clear h hmem
  have Hq0 := Lib.hid hq
  clear hq
  have l1 : ∀ n, (Instr.lookup 72 (.map (some L.sold)) (.int .i64 p.parcel) true).run Tryz.prog (W.drewN n) = .ok (.tuple #[.int .i64 (getI s.sold p.parcel), .bool true]) (W.drewN n) := fun n => by
    rw [look_int_ok (hch.sold.drewN n) hp.parcel, hs]
  go_quiet (fail)
  clear l1
  go_wp2_with fail
  refine (unless_yes 5 _).mono ?_
  rintro r w2 ⟨rfl, rfl⟩
  have hch := hch.drewN nq
  have hbx := hbx.drewN nq
  have HO := Lib.hid (HO.out.trans (onlyL_of_below (drewN_below _ nq) L))
  clear q0 q1 q2 q3 q4 q5 q6 q7 c0 c1 c2 c3 c4 c5 c6
  generalize W.drewN nq = W at *
  obtain ⟨q0, q1, q2, q3, q4, q5, q6, q7⟩ := hbx.cells
  obtain ⟨c0, c1, c2, c3, c4, c5, c6⟩ := hch.cs
  go_wp2_with fail
  have hmemA : ∀ k, L.mem k → W.heap.size ≠ k := fun k hk e => by have := hch.mem_lt hk; omega
  have HmemA := Lib.hid hmemA
  have hAB : w.heap.size < W.heap.size := hbx.1
  have hch := (hch.alloc (.cells #[.int .i64 p.parcel, .int .i64 p.party] 81))
  have hba : BoxAcc (W.alloc (.cells #[.int .i64 p.parcel, .int .i64 p.party] 81)) W.heap.size p.parcel p.party := BoxAcc.made W p.parcel p.party 81
  have hbx := hbx.below' ((Below.refl W.heap.size W).alloc (Nat.le_refl _) (.cells #[.int .i64 p.parcel, .int .i64 p.party] 81))
  have HO := Lib.hid (HO.out.trans (onlyL_of_below ((Below.refl W.heap.size W).alloc (Nat.le_refl _) (.cells #[.int .i64 p.parcel, .int .i64 p.party] 81)) L))
  clear q0 q1 q2 q3 q4 q5 q6 q7 c0 c1 c2 c3 c4 c5 c6
  clear hmemA
  generalize W.heap.size = A at *
  change ChAt (W.alloc (.cells #[.int .i64 p.parcel, .int .i64 p.party] 81)) L s at hch
  change BoxPo (W.alloc (.cells #[.int .i64 p.parcel, .int .i64 p.party] 81)) w.heap.size p at hbx
  change Hid (OnlyL L w (W.alloc (.cells #[.int .i64 p.parcel, .int .i64 p.party] 81))) at HO
  generalize (W.alloc (.cells #[.int .i64 p.parcel, .int .i64 p.party] 81)) = W at *
  obtain ⟨q0, q1, q2, q3, q4, q5, q6, q7⟩ := hbx.cells
  obtain ⟨c0, c1, c2, c3, c4, c5, c6⟩ := hch.cs
  obtain ⟨a0, a1⟩ := hba.acc
  have l4 : (Instr.lookup 74 (.map (some L.has)) (.agg #[.int .i64 p.parcel, .int .i64 p.party]) false).run Tryz.prog W.drew = .ok (.int .i64 (getI s.has (p.parcel, p.party))) W.drew := look_acc hch.drew.has hp.parcel hp.party
  have hd4 : decide (p.amount ≤ getI s.has (p.parcel, p.party)) = true := by simp; omega
  go_still_tail 9, (by kernel_rfl)
  change wpList _ _ _ _ _ W.drew
  go_wp2_with fail
  refine (unless_yes 70 _).mono ?_
  rintro r w2 ⟨rfl, rfl⟩
  clear l4 hd4
  go_wp2_with fail
  have hch := hch.drew
  have hbx := hbx.drewN 1
  have hba := hba.drewN 1
  have HO := Lib.hid (HO.out.trans (onlyL_of_below below_drew1 L))
  change BoxPo W.drew w.heap.size p at hbx
  change BoxAcc W.drew A p.parcel p.party at hba
  clear q0 q1 q2 q3 q4 q5 q6 q7 c0 c1 c2 c3 c4 c5 c6 a0 a1
  generalize W.drew = W at *
  obtain ⟨q0, q1, q2, q3, q4, q5, q6, q7⟩ := hbx.cells
  obtain ⟨c0, c1, c2, c3, c4, c5, c6⟩ := hch.cs
  obtain ⟨a0, a1⟩ := hba.acc
  have l5 : (Instr.lookup 75 (.map (some L.last)) (.agg #[.int .i64 p.parcel, .int .i64 p.party]) false).run Tryz.prog W.drew = .ok (.agg #[.int .i64 q.id, .int .i64 q.hour, .int .u8 q.kind, .int .i64 q.party, .int .i64 q.parcel, .int .i64 q.amount, .int .i64 q.reason, .int .i64 q.known]) W.drew := look_last hch.drew.last hp.parcel hp.party Hq0.out
  have hd5 : decide (q.known < p.known) = true := by simp; omega
  have hf5 : ∀ W, (Instr.field 23 (.agg #[.int .i64 q.id, .int .i64 q.hour, .int .u8 q.kind, .int .i64 q.party, .int .i64 q.parcel, .int .i64 q.amount, .int .i64 q.reason, .int .i64 q.known]) 7).run Tryz.prog W = .ok (.int .i64 q.known) W := fun W => by kernel_rfl
  go_still_tail 10, (by kernel_rfl)
  change wpList _ _ _ _ _ W.drew
  go_wp2_with fail
  refine (unless_yes 71 _).mono ?_
  rintro r w2 ⟨rfl, rfl⟩
  clear l5 hd5 hf5
  go_wp2_with fail
  have hch := hch.drew
  have hbx := hbx.drewN 1
  have hba := hba.drewN 1
  have HO := Lib.hid (HO.out.trans (onlyL_of_below below_drew1 L))
  change BoxPo W.drew w.heap.size p at hbx
  change BoxAcc W.drew A p.parcel p.party at hba
  clear q0 q1 q2 q3 q4 q5 q6 q7 c0 c1 c2 c3 c4 c5 c6 a0 a1
  generalize W.drew = W at *
  obtain ⟨q0, q1, q2, q3, q4, q5, q6, q7⟩ := hbx.cells
  obtain ⟨c0, c1, c2, c3, c4, c5, c6⟩ := hch.cs
  obtain ⟨a0, a1⟩ := hba.acc
  have l6 : (Instr.lookup 72 (.map (some L.held)) (.int .i64 p.parcel) false).run Tryz.prog W.drew = .ok (.int .i64 (getI s.held p.parcel)) W.drew := look_int hch.held.drew hp.parcel
  obtain ⟨wn, en, mn, gn, zn⟩ := update_int hch.drew.held hp.parcel (getI s.held p.parcel + p.amount)
  have hch' := hch.drew.setHeld mn gn
  have hbx' := (hbx.drewN 1).grown gn (Hmem.out _ (.inr (.inr (.inr (.inl rfl)))))
  have hba' := (hba.drewN 1).grown gn (HmemA.out _ (.inr (.inr (.inr (.inl rfl)))))
  have HO' := Lib.hid ((HO.out.trans (onlyL_of_below below_drew1 L)).trans (onlyL_of_grown gn (.inr (.inr (.inr (.inl rfl))))))
  clear mn gn zn hch hbx hba HO
  have hwr : IntKind.i64.wrap (getI s.held p.parcel + p.amount) = (getI s.held p.parcel + p.amount) := IntWalk.i64_in _ (by omega)
  go_still_tail 10, (by kernel_rfl)
  change wpList _ _ _ _ _ W.drew
  go_wp2_with fail
  clear en hwr l6
  clear q0 q1 q2 q3 q4 q5 q6 q7 c0 c1 c2 c3 c4 c5 c6 a0 a1
  have hch := hch'
  have hbx := hbx'
  have hba := hba'
  have HO := HO'
  clear hch' hbx' hba' HO'
  generalize wn = W at *
  obtain ⟨q0, q1, q2, q3, q4, q5, q6, q7⟩ := hbx.cells
  obtain ⟨c0, c1, c2, c3, c4, c5, c6⟩ := hch.cs
  obtain ⟨a0, a1⟩ := hba.acc
  have l6 : (Instr.lookup 74 (.map (some L.has)) (.agg #[.int .i64 p.parcel, .int .i64 p.party]) false).run Tryz.prog W.drew = .ok (.int .i64 (getI s.has (p.parcel, p.party))) W.drew := look_acc hch.drew.has hp.parcel hp.party
  obtain ⟨w5, s5, e5, m5, st5, g5, z5⟩ := entry_acc hch.drew.has hp.parcel hp.party
  have ch5 := hch.drew.setHas m5 g5
  have l6' : (Instr.lookup 74 (.map (some L.has)) (.agg #[.int .i64 p.parcel, .int .i64 p.party]) false).run Tryz.prog w5 = .ok (.int .i64 (getI s.has (p.parcel, p.party))) w5 := by
    have := look_acc ch5.has hp.parcel hp.party
    rwa [getI_mput] at this
  have bx5 := (hbx.drewN 1).grown g5 (Hmem.out _ (.inr (.inr (.inr (.inr (.inl rfl))))))
  have ba5 := (hba.drewN 1).grown g5 (HmemA.out _ (.inr (.inr (.inr (.inr (.inl rfl))))))
  obtain ⟨w6, e6, m6, g6, z6⟩ := store_acc ch5.has st5 (getI s.has (p.parcel, p.party) - p.amount)
  have ch6 := ch5.setHas m6 g6
  have bx6 := bx5.grown g6 (Hmem.out _ (.inr (.inr (.inr (.inr (.inl rfl))))))
  have ba6 := ba5.grown g6 (HmemA.out _ (.inr (.inr (.inr (.inr (.inl rfl))))))
  have HO6 := Lib.hid (((HO.out.trans (onlyL_of_below below_drew1 L)).trans (onlyL_of_grown g5 (.inr (.inr (.inr (.inr (.inl rfl))))))).trans (onlyL_of_grown g6 (.inr (.inr (.inr (.inr (.inl rfl)))))))
  have k5 : w5.cell? ⟨w.heap.size, 5, none⟩ = some (.int .i64 p.amount) ∧ w5.cell? ⟨A, 0, none⟩ = some (.int .i64 p.parcel) ∧ w5.cell? ⟨A, 1, none⟩ = some (.int .i64 p.party) ∧ w5.cell? ⟨L.c, 5, none⟩ = some (.map (some L.has)) :=
    ⟨bx5.cells.2.2.2.2.2.1, ba5.acc.1, ba5.acc.2, ch5.cs.2.2.2.2.2.1⟩
  have k6 : w6.cell? ⟨w.heap.size, 5, none⟩ = some (.int .i64 p.amount) ∧ w6.cell? ⟨A, 0, none⟩ = some (.int .i64 p.parcel) ∧ w6.cell? ⟨A, 1, none⟩ = some (.int .i64 p.party) ∧ w6.cell? ⟨L.c, 5, none⟩ = some (.map (some L.has)) :=
    ⟨bx6.cells.2.2.2.2.2.1, ba6.acc.1, ba6.acc.2, ch6.cs.2.2.2.2.2.1⟩
  rw [mput_mput] at m6
  have ch6 := ch5.setHas m6 g6
  have hwr : IntKind.i64.wrap (getI s.has (p.parcel, p.party) - p.amount) = getI s.has (p.parcel, p.party) - p.amount := IntWalk.i64_in _ (by omega)
  clear m5 m6 st5 g5 g6 z5 z6 ch5 bx5 ba5 hch hbx hba HO
  go_region_held3 (fun w' => w'.cell? ⟨w.heap.size, 5, none⟩ = some (.int .i64 p.amount) ∧ w'.cell? ⟨A, 0, none⟩ = some (.int .i64 p.parcel) ∧ w'.cell? ⟨A, 1, none⟩ = some (.int .i64 p.party) ∧ w'.cell? ⟨L.c, 5, none⟩ = some (.map (some L.has)))
    (first | assumption | go_keep) (fail)
  all_goals
    go_wp2_with fail
    go_end0
    exact ⟨rfl, ch6, HO6.out⟩
end Go.Proofs.YtjleembfocghlaaGreatDoor
