/- The walk of the chest's sale. -/
import Derived.Test.YtjleembfocghlaaGreatDoorChest
import Derived.Test.YtjleembfocghlaaGreatDoorOps
set_option linter.unusedSimpArgs false
set_option linter.unusedVariables false
namespace Go.Proofs.YtjleembfocghlaaGreatDoor
open Go.RowKit
open Go.Maps (Keyed)

/-- the numbers of a posting are numbers -/
structure Po.Wf (p : Po) : Prop where
  id : I64 p.id
  hour : I64 p.hour
  kind : 0 ≤ p.kind ∧ p.kind ≤ 255
  party : I64 p.party
  parcel : I64 p.parcel
  amount : I64 p.amount
  reason : I64 p.reason
  known : I64 p.known

set_option maxRecDepth 100000 in
set_option maxHeartbeats 2000000 in
theorem sale_twice (L : Lay) (s : Ch) (p : Po) (w : World) (hp : p.Wf) (h : ChAt w L s) (hs : (mget s.sold p.parcel).isSome = true) :
    Calls Tryz.prog 91 #[.pointer (some ⟨L.c, 0, none⟩), .agg #[.int .i64 p.id, .int .i64 p.hour, .int .u8 p.kind, .int .i64 p.party, .int .i64 p.parcel, .int .i64 p.amount, .int .i64 p.reason, .int .i64 p.known]] w fun r w' =>
      r = .panicked [{ v := refusalV 6, recovered := false }] ∧ Below w.heap.size w w' := by
  go_enter Tryz.func91, Tryz.ntmps91
  go_wp2_with fail
  have hbx := BoxPo.made w p 23
  have hch := h.alloc (.cells #[.int .i64 p.id, .int .i64 p.hour, .int .u8 p.kind, .int .i64 p.party, .int .i64 p.parcel, .int .i64 p.amount, .int .i64 p.reason, .int .i64 p.known] 23)
  have HB := Lib.hid ((Below.refl w.heap.size w).alloc (Nat.le_refl _) (.cells #[.int .i64 p.id, .int .i64 p.hour, .int .u8 p.kind, .int .i64 p.party, .int .i64 p.parcel, .int .i64 p.amount, .int .i64 p.reason, .int .i64 p.known] 23))
  generalize (w.alloc (.cells #[.int .i64 p.id, .int .i64 p.hour, .int .u8 p.kind, .int .i64 p.party, .int .i64 p.parcel, .int .i64 p.amount, .int .i64 p.reason, .int .i64 p.known] 23)) = W at *
  obtain ⟨q0, q1, q2, q3, q4, q5, q6, q7⟩ := hbx.cells
  obtain ⟨c0, c1, c2, c3, c4, c5, c6⟩ := hch.cs
  have l1 : ∀ n, (Instr.lookup 72 (.map (some L.sold)) (.int .i64 p.parcel) true).run Tryz.prog (W.drewN n) = .ok (.tuple #[.int .i64 (getI s.sold p.parcel), .bool true]) (W.drewN n) := fun n => by
    rw [look_int_ok (hch.sold.drewN n) hp.parcel, hs]
  clear h hs
  go_quiet (fail)
  go_wp2_with fail
  refine (unless_no 6 _).mono ?_
  rintro r w2 ⟨rfl, rfl⟩
  go_wp2_with fail
  exact ⟨rfl, rfl, below_drewN HB.out _⟩

def saleS (s : Ch) (p : Po) : Ch := { s with sold := mput s.sold p.parcel p.amount, held := mput s.held p.parcel p.amount }

set_option maxRecDepth 100000 in
set_option maxHeartbeats 4000000 in
theorem sale_ok (L : Lay) (s : Ch) (p : Po) (w : World) (hp : p.Wf) (h : ChAt w L s) (hs : (mget s.sold p.parcel).isSome = false) :
    Calls Tryz.prog 91 #[.pointer (some ⟨L.c, 0, none⟩), .agg #[.int .i64 p.id, .int .i64 p.hour, .int .u8 p.kind, .int .i64 p.party, .int .i64 p.parcel, .int .i64 p.amount, .int .i64 p.reason, .int .i64 p.known]] w fun r w' =>
      r = .returned (.tuple #[]) ∧ ChAt w' L (saleS s p) ∧ OnlyL L w w' := by
  go_enter Tryz.func91, Tryz.ntmps91
  go_wp2_with fail
  have hbx := BoxPo.made w p 23
  have hch := h.alloc (.cells #[.int .i64 p.id, .int .i64 p.hour, .int .u8 p.kind, .int .i64 p.party, .int .i64 p.parcel, .int .i64 p.amount, .int .i64 p.reason, .int .i64 p.known] 23)
  have HB := Lib.hid ((Below.refl w.heap.size w).alloc (Nat.le_refl _) (.cells #[.int .i64 p.id, .int .i64 p.hour, .int .u8 p.kind, .int .i64 p.party, .int .i64 p.parcel, .int .i64 p.amount, .int .i64 p.reason, .int .i64 p.known] 23))
  generalize (w.alloc (.cells #[.int .i64 p.id, .int .i64 p.hour, .int .u8 p.kind, .int .i64 p.party, .int .i64 p.parcel, .int .i64 p.amount, .int .i64 p.reason, .int .i64 p.known] 23)) = W at *
  obtain ⟨q0, q1, q2, q3, q4, q5, q6, q7⟩ := hbx.cells
  obtain ⟨c0, c1, c2, c3, c4, c5, c6⟩ := hch.cs
  have l1 : ∀ n, (Instr.lookup 72 (.map (some L.sold)) (.int .i64 p.parcel) true).run Tryz.prog (W.drewN n) = .ok (.tuple #[.int .i64 (getI s.sold p.parcel), .bool false]) (W.drewN n) := fun n => by
    rw [look_int_ok (hch.sold.drewN n) hp.parcel, hs]
  have hlt : w.heap.size ≠ L.sold ∧ w.heap.size ≠ L.held := ⟨fun e => by have := h.mem_lt (k := L.sold) (.inr (.inr (.inl rfl))); omega, fun e => by have := h.mem_lt (k := L.held) (.inr (.inr (.inr (.inl rfl)))); omega⟩
  have Hlt := Lib.hid hlt
  have Hok := Lib.hid h.ok
  clear h hs hlt
  go_quiet (fail)
  go_wp2_with fail
  refine (unless_yes 6 _).mono ?_
  rintro r w2 ⟨rfl, rfl⟩
  go_wp2_with fail
  have hch1 := hch.drewN nq
  have hbx1 := hbx.drewN nq
  have HB1 := Lib.hid (below_drewN HB.out nq)
  clear l1 q0 q1 q2 q3 q4 q5 q6 q7 c0 c1 c2 c3 c4 c5 c6 HB hch hbx
  generalize W.drewN nq = W2 at *
  obtain ⟨q0, q1, q2, q3, q4, q5, q6, q7⟩ := hbx1.cells
  obtain ⟨c0, c1, c2, c3, c4, c5, c6⟩ := hch1.cs
  have hch' := hch1.drew
  have hbx' := hbx1.drewN 1
  obtain ⟨w1, s1, e1, m1, st1, g1, z1⟩ := entry_int hch'.sold hp.parcel
  have ch1 := hch'.setSold m1 g1
  have bx1 := hbx'.grown g1 Hlt.out.1
  obtain ⟨w2, e2, m2, g2, z2⟩ := store_int ch1.sold st1 p.amount
  have ch2 := ch1.setSold m2 g2
  have bx2 := bx1.grown g2 Hlt.out.1
  obtain ⟨w3, s3, e3, m3, st3, g3, z3⟩ := entry_int ch2.held hp.parcel
  have ch3 := ch2.setHeld m3 g3
  have bx3 := bx2.grown g3 Hlt.out.2
  obtain ⟨w4, e4, m4, g4, z4⟩ := store_int ch3.held st3 p.amount
  have ch4 := ch3.setHeld m4 g4
  have bx4 := bx3.grown g4 Hlt.out.2
  have k1 : w1.cell? ⟨w.heap.size, 4, none⟩ = some (.int .i64 p.parcel) ∧ w1.cell? ⟨w.heap.size, 5, none⟩ = some (.int .i64 p.amount) ∧ w1.cell? ⟨L.c, 3, none⟩ = some (.map (some L.sold)) ∧ w1.cell? ⟨L.c, 4, none⟩ = some (.map (some L.held)) :=
    ⟨bx1.cells.2.2.2.2.1, bx1.cells.2.2.2.2.2.1, ch1.cs.2.2.2.1, ch1.cs.2.2.2.2.1⟩
  have k2 : w2.cell? ⟨w.heap.size, 4, none⟩ = some (.int .i64 p.parcel) ∧ w2.cell? ⟨w.heap.size, 5, none⟩ = some (.int .i64 p.amount) ∧ w2.cell? ⟨L.c, 3, none⟩ = some (.map (some L.sold)) ∧ w2.cell? ⟨L.c, 4, none⟩ = some (.map (some L.held)) :=
    ⟨bx2.cells.2.2.2.2.1, bx2.cells.2.2.2.2.2.1, ch2.cs.2.2.2.1, ch2.cs.2.2.2.2.1⟩
  have k3 : w3.cell? ⟨w.heap.size, 4, none⟩ = some (.int .i64 p.parcel) ∧ w3.cell? ⟨w.heap.size, 5, none⟩ = some (.int .i64 p.amount) ∧ w3.cell? ⟨L.c, 3, none⟩ = some (.map (some L.sold)) ∧ w3.cell? ⟨L.c, 4, none⟩ = some (.map (some L.held)) :=
    ⟨bx3.cells.2.2.2.2.1, bx3.cells.2.2.2.2.2.1, ch3.cs.2.2.2.1, ch3.cs.2.2.2.2.1⟩
  have k4 : w4.cell? ⟨w.heap.size, 4, none⟩ = some (.int .i64 p.parcel) ∧ w4.cell? ⟨w.heap.size, 5, none⟩ = some (.int .i64 p.amount) ∧ w4.cell? ⟨L.c, 3, none⟩ = some (.map (some L.sold)) ∧ w4.cell? ⟨L.c, 4, none⟩ = some (.map (some L.held)) :=
    ⟨bx4.cells.2.2.2.2.1, bx4.cells.2.2.2.2.2.1, ch4.cs.2.2.2.1, ch4.cs.2.2.2.2.1⟩
  have hfin : ChAt w4 L (saleS s p) := by
    have := ch4
    simp only [mput_mput] at this
    exact this
  have hon : OnlyL L w w4 := (onlyL_of_below (below_drewN HB1.out 1) L).trans (((((onlyL_of_grown g1 (.inr (.inr (.inl rfl)))).trans (onlyL_of_grown g2 (.inr (.inr (.inl rfl))))).trans (onlyL_of_grown g3 (.inr (.inr (.inr (.inl rfl)))))).trans (onlyL_of_grown g4 (.inr (.inr (.inr (.inl rfl)))))))
  have Hfin := Lib.hid hfin
  have Hon := Lib.hid hon
  clear hfin hon m1 m2 m3 m4 st1 st3 g1 g2 g3 g4 z1 z2 z3 z4 ch1 ch2 ch3 ch4 bx1 bx2 bx3 bx4 hbx' hch' hch1 hbx1
  go_region_held3 (fun w' => w'.cell? ⟨w.heap.size, 4, none⟩ = some (.int .i64 p.parcel) ∧ w'.cell? ⟨w.heap.size, 5, none⟩ = some (.int .i64 p.amount) ∧
      w'.cell? ⟨L.c, 3, none⟩ = some (.map (some L.sold)) ∧ w'.cell? ⟨L.c, 4, none⟩ = some (.map (some L.held)))
    (first | assumption | go_keep) (fail)
  go_wp2_with fail
  go_end0
  exact ⟨rfl, Hfin.out, Hon.out⟩
end Go.Proofs.YtjleembfocghlaaGreatDoor

/- The walk of the chest's pay. -/
set_option linter.unusedSimpArgs false
set_option linter.unusedVariables false
namespace Go.Proofs.YtjleembfocghlaaGreatDoor
open Go.RowKit
open Go.Maps (Keyed)

/-- The account of a posting lies at the beginning of block B. -/
def BoxAcc (w : World) (B : Nat) (x y : Int) : Prop := B < w.heap.size ∧ w.cell? ⟨B, 0, none⟩ = some (.int .i64 x) ∧ w.cell? ⟨B, 1, none⟩ = some (.int .i64 y)
theorem BoxAcc.acc {w : World} {B : Nat} {x y : Int} (h : BoxAcc w B x y) : w.cell? ⟨B, 0, none⟩ = some (.int .i64 x) ∧ w.cell? ⟨B, 1, none⟩ = some (.int .i64 y) := h.2
theorem BoxAcc.made (w : World) (x y : Int) (T : TypeId) : BoxAcc (w.alloc (.cells #[.int .i64 x, .int .i64 y] T)) w.heap.size x y :=
  ⟨by simp, by rw [cell_of_row _ _ 0 _ T (0, 0) (heap_alloc_new w _)]; rfl, by rw [cell_of_row _ _ 1 _ T (0, 0) (heap_alloc_new w _)]; rfl⟩
theorem BoxAcc.below' {w w' : World} {B : Nat} {x y : Int} (h : BoxAcc w B x y) (hb : Below w.heap.size w w') : BoxAcc w' B x y :=
  ⟨Nat.lt_of_lt_of_le h.1 hb.size, (hb.cell (p := ⟨B, 0, none⟩) h.1).trans h.2.1, (hb.cell (p := ⟨B, 1, none⟩) h.1).trans h.2.2⟩
theorem BoxAcc.drewN {w : World} {B : Nat} {x y : Int} (h : BoxAcc w B x y) (m : Nat) : BoxAcc (w.drewN m) B x y := h
theorem BoxAcc.grown {w w' : World} {B b : Nat} {x y : Int} (h : BoxAcc w B x y) (hg : w.grownBy w' (some b)) (hne : B ≠ b) : BoxAcc w' B x y :=
  ⟨Nat.lt_of_lt_of_le h.1 hg.size, (World.cell?_of_block (a := ⟨B, 0, none⟩) (hg.block B h.1 (fun e => hne (by injection e)))).trans h.2.1,
    (World.cell?_of_block (a := ⟨B, 1, none⟩) (hg.block B h.1 (fun e => hne (by injection e)))).trans h.2.2⟩
theorem below_drew1 {w : World} : Below w.heap.size w w.drew := drewN_below w 1

set_option maxRecDepth 100000 in
set_option maxHeartbeats 4000000 in
theorem pay_none (L : Lay) (s : Ch) (p : Po) (w : World) (hp : p.Wf) (h : ChAt w L s) (hs : (mget s.sold p.parcel).isSome = false) :
    Calls Tryz.prog 92 #[.pointer (some ⟨L.c, 0, none⟩), .agg #[.int .i64 p.id, .int .i64 p.hour, .int .u8 p.kind, .int .i64 p.party, .int .i64 p.parcel, .int .i64 p.amount, .int .i64 p.reason, .int .i64 p.known]] w fun r w' =>
      r = .panicked [{ v := refusalV 5, recovered := false }] ∧ OnlyL L w w' := by
  go_enter Tryz.func92, Tryz.ntmps92
  go_wp2_with fail
  have hbx := BoxPo.made w p 23
  have hch := h.alloc (.cells #[.int .i64 p.id, .int .i64 p.hour, .int .u8 p.kind, .int .i64 p.party, .int .i64 p.parcel, .int .i64 p.amount, .int .i64 p.reason, .int .i64 p.known] 23)
  have HO := Lib.hid (onlyL_of_below ((Below.refl w.heap.size w).alloc (Nat.le_refl _) (.cells #[.int .i64 p.id, .int .i64 p.hour, .int .u8 p.kind, .int .i64 p.party, .int .i64 p.parcel, .int .i64 p.amount, .int .i64 p.reason, .int .i64 p.known] 23)) L)
  generalize (w.alloc (.cells #[.int .i64 p.id, .int .i64 p.hour, .int .u8 p.kind, .int .i64 p.party, .int .i64 p.parcel, .int .i64 p.amount, .int .i64 p.reason, .int .i64 p.known] 23)) = W at *
  have hmem : ∀ k, L.mem k → w.heap.size ≠ k := fun k hk e => by have := h.mem_lt hk; omega
  have Hmem := Lib.hid hmem
  obtain ⟨q0, q1, q2, q3, q4, q5, q6, q7⟩ := hbx.cells
  obtain ⟨c0, c1, c2, c3, c4, c5, c6⟩ := hch.cs
  have Hlt := Lib.hid (fun k hk => h.mem_lt (k := k) hk)
  clear h hmem
  have l1 : ∀ n, (Instr.lookup 72 (.map (some L.sold)) (.int .i64 p.parcel) true).run Tryz.prog (W.drewN n) = .ok (.tuple #[.int .i64 (getI s.sold p.parcel), .bool false]) (W.drewN n) := fun n => by
    rw [look_int_ok (hch.sold.drewN n) hp.parcel, hs]
  go_quiet (fail)
  clear l1
  go_wp2_with fail
  refine (unless_no 5 _).mono ?_
  rintro r w2 ⟨rfl, rfl⟩
  go_wp2_with fail
  exact ⟨rfl, rfl, HO.out.trans (onlyL_of_below (drewN_below _ _) L)⟩

set_option maxRecDepth 100000 in
set_option maxHeartbeats 4000000 in
theorem pay_poor (L : Lay) (s : Ch) (p : Po) (w : World) (hp : p.Wf) (h : ChAt w L s) (hs : (mget s.sold p.parcel).isSome = true) (ha : getI s.held p.parcel < p.amount) :
    Calls Tryz.prog 92 #[.pointer (some ⟨L.c, 0, none⟩), .agg #[.int .i64 p.id, .int .i64 p.hour, .int .u8 p.kind, .int .i64 p.party, .int .i64 p.parcel, .int .i64 p.amount, .int .i64 p.reason, .int .i64 p.known]] w fun r w' =>
      r = .panicked [{ v := refusalV 70, recovered := false }] ∧ OnlyL L w w' := by
  go_enter Tryz.func92, Tryz.ntmps92
  go_wp2_with fail
  have hbx := BoxPo.made w p 23
  have hch := h.alloc (.cells #[.int .i64 p.id, .int .i64 p.hour, .int .u8 p.kind, .int .i64 p.party, .int .i64 p.parcel, .int .i64 p.amount, .int .i64 p.reason, .int .i64 p.known] 23)
  have HO := Lib.hid (onlyL_of_below ((Below.refl w.heap.size w).alloc (Nat.le_refl _) (.cells #[.int .i64 p.id, .int .i64 p.hour, .int .u8 p.kind, .int .i64 p.party, .int .i64 p.parcel, .int .i64 p.amount, .int .i64 p.reason, .int .i64 p.known] 23)) L)
  generalize (w.alloc (.cells #[.int .i64 p.id, .int .i64 p.hour, .int .u8 p.kind, .int .i64 p.party, .int .i64 p.parcel, .int .i64 p.amount, .int .i64 p.reason, .int .i64 p.known] 23)) = W at *
  have hmem : ∀ k, L.mem k → w.heap.size ≠ k := fun k hk e => by have := h.mem_lt hk; omega
  have Hmem := Lib.hid hmem
  obtain ⟨q0, q1, q2, q3, q4, q5, q6, q7⟩ := hbx.cells
  obtain ⟨c0, c1, c2, c3, c4, c5, c6⟩ := hch.cs
  have Hlt := Lib.hid (fun k hk => h.mem_lt (k := k) hk)
  clear h hmem
  have l1 : ∀ n, (Instr.lookup 72 (.map (some L.sold)) (.int .i64 p.parcel) true).run Tryz.prog (W.drewN n) = .ok (.tuple #[.int .i64 (getI s.sold p.parcel), .bool true]) (W.drewN n) := fun n => by
    rw [look_int_ok (hch.sold.drewN n) hp.parcel, hs]
  go_quiet (fail)
  clear l1
  go_wp2_with fail
  refine (unless_yes 5 _).mono ?_
  rintro r w2 ⟨rfl, rfl⟩
  go_wp2_with fail
  have hch := hch.drewN nq
  have hbx := hbx.drewN nq
  have HO := Lib.hid (HO.out.trans (onlyL_of_below (drewN_below _ nq) L))
  clear q0 q1 q2 q3 q4 q5 q6 q7 c0 c1 c2 c3 c4 c5 c6
  generalize W.drewN nq = W at *
  obtain ⟨q0, q1, q2, q3, q4, q5, q6, q7⟩ := hbx.cells
  obtain ⟨c0, c1, c2, c3, c4, c5, c6⟩ := hch.cs
  have l3 : (Instr.lookup 72 (.map (some L.held)) (.int .i64 p.parcel) false).run Tryz.prog W.drew = .ok (.int .i64 (getI s.held p.parcel)) W.drew := look_int hch.held.drew hp.parcel
  have hd : decide (p.amount ≤ getI s.held p.parcel) = false := by simp; omega
  go_still_tail 10, (by kernel_rfl)
  change wpList _ _ _ _ _ W.drew
  go_wp2_with fail
  refine (unless_no 70 _).mono ?_
  rintro r w2 ⟨rfl, rfl⟩
  go_wp2_with fail
  exact ⟨rfl, rfl, HO.out.trans (onlyL_of_below below_drew1 L)⟩

def payS (s : Ch) (p : Po) : Ch :=
  { s with held := mput s.held p.parcel (getI s.held p.parcel - p.amount), has := mput s.has (p.parcel, p.party) (getI s.has (p.parcel, p.party) + p.amount), last := mput s.last (p.parcel, p.party) p }

set_option maxRecDepth 100000 in
set_option maxHeartbeats 4000000 in
theorem pay_ok (L : Lay) (s : Ch) (p : Po) (w : World) (hp : p.Wf) (h : ChAt w L s) (hs : (mget s.sold p.parcel).isSome = true) (ha : p.amount ≤ getI s.held p.parcel) (hb1 : 0 ≤ p.amount ∧ p.amount ≤ 1000000000) (hb2 : getI s.held p.parcel ≤ 1000000000000000) (hb3 : -1000000000000000 ≤ getI s.has (p.parcel, p.party) ∧ getI s.has (p.parcel, p.party) ≤ 1000000000000000) :
    Calls Tryz.prog 92 #[.pointer (some ⟨L.c, 0, none⟩), .agg #[.int .i64 p.id, .int .i64 p.hour, .int .u8 p.kind, .int .i64 p.party, .int .i64 p.parcel, .int .i64 p.amount, .int .i64 p.reason, .int .i64 p.known]] w fun r w' =>
      r = .returned (.tuple #[]) ∧ ChAt w' L (payS s p) ∧ OnlyL L w w' := by
  go_enter Tryz.func92, Tryz.ntmps92
  go_wp2_with fail
  have hbx := BoxPo.made w p 23
  have hch := h.alloc (.cells #[.int .i64 p.id, .int .i64 p.hour, .int .u8 p.kind, .int .i64 p.party, .int .i64 p.parcel, .int .i64 p.amount, .int .i64 p.reason, .int .i64 p.known] 23)
  have HO := Lib.hid (onlyL_of_below ((Below.refl w.heap.size w).alloc (Nat.le_refl _) (.cells #[.int .i64 p.id, .int .i64 p.hour, .int .u8 p.kind, .int .i64 p.party, .int .i64 p.parcel, .int .i64 p.amount, .int .i64 p.reason, .int .i64 p.known] 23)) L)
  generalize (w.alloc (.cells #[.int .i64 p.id, .int .i64 p.hour, .int .u8 p.kind, .int .i64 p.party, .int .i64 p.parcel, .int .i64 p.amount, .int .i64 p.reason, .int .i64 p.known] 23)) = W at *
  have hmem : ∀ k, L.mem k → w.heap.size ≠ k := fun k hk e => by have := h.mem_lt hk; omega
  have Hmem := Lib.hid hmem
  obtain ⟨q0, q1, q2, q3, q4, q5, q6, q7⟩ := hbx.cells
  obtain ⟨c0, c1, c2, c3, c4, c5, c6⟩ := hch.cs
  have Hlt := Lib.hid (fun k hk => h.mem_lt (k := k) hk)
  clear h hmem
  have l1 : ∀ n, (Instr.lookup 72 (.map (some L.sold)) (.int .i64 p.parcel) true).run Tryz.prog (W.drewN n) = .ok (.tuple #[.int .i64 (getI s.sold p.parcel), .bool true]) (W.drewN n) := fun n => by
    rw [look_int_ok (hch.sold.drewN n) hp.parcel, hs]
  go_quiet (fail)
  clear l1
  go_wp2_with fail
  refine (unless_yes 5 _).mono ?_
  rintro r w2 ⟨rfl, rfl⟩
  go_wp2_with fail
  have hch := hch.drewN nq
  have hbx := hbx.drewN nq
  have HO := Lib.hid (HO.out.trans (onlyL_of_below (drewN_below _ nq) L))
  clear q0 q1 q2 q3 q4 q5 q6 q7 c0 c1 c2 c3 c4 c5 c6
  generalize W.drewN nq = W at *
  obtain ⟨q0, q1, q2, q3, q4, q5, q6, q7⟩ := hbx.cells
  obtain ⟨c0, c1, c2, c3, c4, c5, c6⟩ := hch.cs
  have l3 : (Instr.lookup 72 (.map (some L.held)) (.int .i64 p.parcel) false).run Tryz.prog W.drew = .ok (.int .i64 (getI s.held p.parcel)) W.drew := look_int hch.held.drew hp.parcel
  have hd : decide (p.amount ≤ getI s.held p.parcel) = true := by simp; omega
  go_still_tail 10, (by kernel_rfl)
  change wpList _ _ _ _ _ W.drew
  go_wp2_with fail
  refine (unless_yes 70 _).mono ?_
  rintro r w2 ⟨rfl, rfl⟩
  clear l3
  go_wp2_with fail
  have hmemA : ∀ k, L.mem k → W.heap.size ≠ k := fun k hk e => by have := hch.mem_lt hk; omega
  have HmemA := Lib.hid hmemA
  have hAB : w.heap.size < W.heap.size := hbx.1
  have hch := (hch.alloc (.cells #[.int .i64 p.parcel, .int .i64 p.party] 81)).drew
  have hba : BoxAcc (W.alloc (.cells #[.int .i64 p.parcel, .int .i64 p.party] 81)).drew W.heap.size p.parcel p.party := (BoxAcc.made W p.parcel p.party 81).drewN 1
  have hbx := (hbx.below' ((Below.refl W.heap.size W).alloc (Nat.le_refl _) (.cells #[.int .i64 p.parcel, .int .i64 p.party] 81))).drewN 1
  have HO := Lib.hid (HO.out.trans (onlyL_of_below (below_drewN ((Below.refl W.heap.size W).alloc (Nat.le_refl _) (.cells #[.int .i64 p.parcel, .int .i64 p.party] 81)) 1) L))
  clear q0 q1 q2 q3 q4 q5 q6 q7 c0 c1 c2 c3 c4 c5 c6
  clear hmemA
  generalize W.heap.size = A at *
  change ChAt (W.alloc (.cells #[.int .i64 p.parcel, .int .i64 p.party] 81)).drew L s at hch
  change BoxPo (W.alloc (.cells #[.int .i64 p.parcel, .int .i64 p.party] 81)).drew w.heap.size p at hbx
  change Hid (OnlyL L w (W.alloc (.cells #[.int .i64 p.parcel, .int .i64 p.party] 81)).drew) at HO
  generalize (W.alloc (.cells #[.int .i64 p.parcel, .int .i64 p.party] 81)).drew = W at *
  obtain ⟨q0, q1, q2, q3, q4, q5, q6, q7⟩ := hbx.cells
  obtain ⟨c0, c1, c2, c3, c4, c5, c6⟩ := hch.cs
  obtain ⟨a0, a1⟩ := hba.acc
  have l5 : (Instr.lookup 72 (.map (some L.held)) (.int .i64 p.parcel) false).run Tryz.prog W.drew = .ok (.int .i64 (getI s.held p.parcel)) W.drew := look_int hch.held.drew hp.parcel
  obtain ⟨wn, en, mn, gn, zn⟩ := update_int hch.drew.held hp.parcel (getI s.held p.parcel - p.amount)
  have hch' := hch.drew.setHeld mn gn
  have hbx' := (hbx.drewN 1).grown gn (Hmem.out _ (.inr (.inr (.inr (.inl rfl)))))
  have hba' := (hba.drewN 1).grown gn (HmemA.out _ (.inr (.inr (.inr (.inl rfl)))))
  have HO' := Lib.hid ((HO.out.trans (onlyL_of_below below_drew1 L)).trans (onlyL_of_grown gn (.inr (.inr (.inr (.inl rfl))))))
  clear mn gn zn hch hbx hba HO
  have hwr : IntKind.i64.wrap (getI s.held p.parcel - p.amount) = (getI s.held p.parcel - p.amount) := IntWalk.i64_in _ (by omega)
  go_still_tail 10, (by kernel_rfl)
  change wpList _ _ _ _ _ W.drew
  go_wp2_with fail
  clear en hwr l5
  clear q0 q1 q2 q3 q4 q5 q6 q7 c0 c1 c2 c3 c4 c5 c6 a0 a1
  have hch := hch'
  have hbx := hbx'
  have hba := hba'
  have HO := HO'
  clear hch' hbx' hba' HO'
  generalize wn = W at *
  obtain ⟨q0, q1, q2, q3, q4, q5, q6, q7⟩ := hbx.cells
  obtain ⟨c0, c1, c2, c3, c4, c5, c6⟩ := hch.cs
  obtain ⟨a0, a1⟩ := hba.acc
  have l6 : (Instr.lookup 74 (.map (some L.has)) (.agg #[.int .i64 p.parcel, .int .i64 p.party]) false).run Tryz.prog W.drew = .ok (.int .i64 (getI s.has (p.parcel, p.party))) W.drew := look_acc hch.drew.has hp.parcel hp.party
  obtain ⟨w5, s5, e5, m5, st5, g5, z5⟩ := entry_acc hch.drew.has hp.parcel hp.party
  have ch5 := hch.drew.setHas m5 g5
  have l6' : (Instr.lookup 74 (.map (some L.has)) (.agg #[.int .i64 p.parcel, .int .i64 p.party]) false).run Tryz.prog w5 = .ok (.int .i64 (getI s.has (p.parcel, p.party))) w5 := by
    have := look_acc ch5.has hp.parcel hp.party
    rwa [getI_mput] at this
  have bx5 := (hbx.drewN 1).grown g5 (Hmem.out _ (.inr (.inr (.inr (.inr (.inl rfl))))))
  have ba5 := (hba.drewN 1).grown g5 (HmemA.out _ (.inr (.inr (.inr (.inr (.inl rfl))))))
  obtain ⟨w6, e6, m6, g6, z6⟩ := store_acc ch5.has st5 (getI s.has (p.parcel, p.party) + p.amount)
  have ch6 := ch5.setHas m6 g6
  have bx6 := bx5.grown g6 (Hmem.out _ (.inr (.inr (.inr (.inr (.inl rfl))))))
  have ba6 := ba5.grown g6 (HmemA.out _ (.inr (.inr (.inr (.inr (.inl rfl))))))
  have HO6 := Lib.hid (((HO.out.trans (onlyL_of_below below_drew1 L)).trans (onlyL_of_grown g5 (.inr (.inr (.inr (.inr (.inl rfl))))))).trans (onlyL_of_grown g6 (.inr (.inr (.inr (.inr (.inl rfl)))))))
  have k5 : w5.cell? ⟨w.heap.size, 5, none⟩ = some (.int .i64 p.amount) ∧ w5.cell? ⟨A, 0, none⟩ = some (.int .i64 p.parcel) ∧ w5.cell? ⟨A, 1, none⟩ = some (.int .i64 p.party) ∧ w5.cell? ⟨L.c, 5, none⟩ = some (.map (some L.has)) :=
    ⟨bx5.cells.2.2.2.2.2.1, ba5.acc.1, ba5.acc.2, ch5.cs.2.2.2.2.2.1⟩
  have k6 : w6.cell? ⟨w.heap.size, 5, none⟩ = some (.int .i64 p.amount) ∧ w6.cell? ⟨A, 0, none⟩ = some (.int .i64 p.parcel) ∧ w6.cell? ⟨A, 1, none⟩ = some (.int .i64 p.party) ∧ w6.cell? ⟨L.c, 5, none⟩ = some (.map (some L.has)) :=
    ⟨bx6.cells.2.2.2.2.2.1, ba6.acc.1, ba6.acc.2, ch6.cs.2.2.2.2.2.1⟩
  rw [mput_mput] at m6
  have ch6 := ch5.setHas m6 g6
  have hwr : IntKind.i64.wrap (getI s.has (p.parcel, p.party) + p.amount) = getI s.has (p.parcel, p.party) + p.amount := IntWalk.i64_in _ (by omega)
  clear m5 m6 st5 g5 g6 z5 z6 ch5 bx5 ba5 hch hbx hba HO
  go_region_held3 (fun w' => w'.cell? ⟨w.heap.size, 5, none⟩ = some (.int .i64 p.amount) ∧ w'.cell? ⟨A, 0, none⟩ = some (.int .i64 p.parcel) ∧ w'.cell? ⟨A, 1, none⟩ = some (.int .i64 p.party) ∧ w'.cell? ⟨L.c, 5, none⟩ = some (.map (some L.has)))
    (first | assumption | go_keep) (fail)
  clear q0 q1 q2 q3 q4 q5 q6 q7 c0 c1 c2 c3 c4 c5 c6 a0 a1
  all_goals
    obtain ⟨wn, en, mn, gn, zn⟩ := update_last ch6.drew.last hp.parcel hp.party p
    have hch' := ch6.drew.setLast mn gn
    have HO' := Lib.hid ((HO6.out.trans (onlyL_of_below below_drew1 L)).trans (onlyL_of_grown gn (.inr (.inr (.inr (.inr (.inr rfl)))))))
    obtain ⟨q0, q1, q2, q3, q4, q5, q6, q7⟩ := bx6.cells
    obtain ⟨c0, c1, c2, c3, c4, c5, c6⟩ := ch6.cs
    obtain ⟨a0, a1⟩ := ba6.acc
    clear mn gn zn ch6 bx6 ba6 HO6 l6 l6' e5 e6 k5 k6 hwr
    go_wp2_with fail
    go_still_tail 6, (by kernel_rfl)
    change wpList _ _ _ _ _ w6.drew
    go_wp2_with fail
    go_end0
    exact ⟨rfl, hch', HO'.out⟩
end Go.Proofs.YtjleembfocghlaaGreatDoor
