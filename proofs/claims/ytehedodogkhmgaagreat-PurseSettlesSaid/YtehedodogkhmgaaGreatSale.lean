/- The walk of the chest's sale. -/
import Derived.Test.YtehedodogkhmgaaGreatChest
import Derived.Test.YtehedodogkhmgaaGreatOps
set_option linter.unusedSimpArgs false
set_option linter.unusedVariables false
namespace Go.Proofs.YtehedodogkhmgaaGreat
open Go.RowKit
open Go.Maps (Keyed)

/-- the numbers of a posting are numbers -/
structure Po.Wf (p : Po) : Prop where
  id : I64 p.id
  hour : I64 p.hour
  kind : 0 ≤ p.kind ∧ p.kind ≤ 255
  party : I64 p.party
  parcel : I64 p.parcel
  amount : I64 p.amount
  reason : I64 p.reason
  known : I64 p.known

set_option maxRecDepth 100000 in
set_option maxHeartbeats 2000000 in
theorem sale_twice (L : Lay) (s : Ch) (p : Po) (w : World) (hp : p.Wf) (h : ChAt w L s) (hs : (mget s.sold p.parcel).isSome = true) :
    Calls Tryz.prog 143 #[.pointer (some ⟨L.c, 0, none⟩), .agg #[.int .i64 p.id, .int .i64 p.hour, .int .u8 p.kind, .int .i64 p.party, .int .i64 p.parcel, .int .i64 p.amount, .int .i64 p.reason, .int .i64 p.known]] w fun r w' =>
      r = .panicked [{ v := refusalV 6, recovered := false }] ∧ Below w.heap.size w w' := by
  go_enter Tryz.func143, Tryz.ntmps143
  go_wp2_with fail
  have hbx := BoxPo.made w p 63
  have hch := h.alloc (.cells #[.int .i64 p.id, .int .i64 p.hour, .int .u8 p.kind, .int .i64 p.party, .int .i64 p.parcel, .int .i64 p.amount, .int .i64 p.reason, .int .i64 p.known] 63)
  have HB := Lib.hid ((Below.refl w.heap.size w).alloc (Nat.le_refl _) (.cells #[.int .i64 p.id, .int .i64 p.hour, .int .u8 p.kind, .int .i64 p.party, .int .i64 p.parcel, .int .i64 p.amount, .int .i64 p.reason, .int .i64 p.known] 63))
  generalize (w.alloc (.cells #[.int .i64 p.id, .int .i64 p.hour, .int .u8 p.kind, .int .i64 p.party, .int .i64 p.parcel, .int .i64 p.amount, .int .i64 p.reason, .int .i64 p.known] 63)) = W at *
  obtain ⟨q0, q1, q2, q3, q4, q5, q6, q7⟩ := hbx.cells
  obtain ⟨c0, c1, c2, c3, c4, c5, c6⟩ := hch.cs
  have l1 : ∀ n, (Instr.lookup 77 (.map (some L.sold)) (.int .i64 p.parcel) true).run Tryz.prog (W.drewN n) = .ok (.tuple #[.int .i64 (getI s.sold p.parcel), .bool true]) (W.drewN n) := fun n => by
    rw [look_int_ok (hch.sold.drewN n) hp.parcel, hs]
  clear h hs
  go_quiet (fail)
  go_wp2_with fail
  refine (unless_no 6 _).mono ?_
  rintro r w2 ⟨rfl, rfl⟩
  go_wp2_with fail
  exact ⟨rfl, rfl, below_drewN HB.out _⟩

def saleS (s : Ch) (p : Po) : Ch := { s with sold := mput s.sold p.parcel p.amount, held := mput s.held p.parcel p.amount }

set_option maxRecDepth 100000 in
set_option maxHeartbeats 4000000 in
theorem sale_ok (L : Lay) (s : Ch) (p : Po) (w : World) (hp : p.Wf) (h : ChAt w L s) (hs : (mget s.sold p.parcel).isSome = false) :
    Calls Tryz.prog 143 #[.pointer (some ⟨L.c, 0, none⟩), .agg #[.int .i64 p.id, .int .i64 p.hour, .int .u8 p.kind, .int .i64 p.party, .int .i64 p.parcel, .int .i64 p.amount, .int .i64 p.reason, .int .i64 p.known]] w fun r w' =>
      r = .returned (.tuple #[]) ∧ ChAt w' L (saleS s p) ∧ OnlyL L w w' := by
  go_enter Tryz.func143, Tryz.ntmps143
  go_wp2_with fail
  have hbx := BoxPo.made w p 63
  have hch := h.alloc (.cells #[.int .i64 p.id, .int .i64 p.hour, .int .u8 p.kind, .int .i64 p.party, .int .i64 p.parcel, .int .i64 p.amount, .int .i64 p.reason, .int .i64 p.known] 63)
  have HB := Lib.hid ((Below.refl w.heap.size w).alloc (Nat.le_refl _) (.cells #[.int .i64 p.id, .int .i64 p.hour, .int .u8 p.kind, .int .i64 p.party, .int .i64 p.parcel, .int .i64 p.amount, .int .i64 p.reason, .int .i64 p.known] 63))
  generalize (w.alloc (.cells #[.int .i64 p.id, .int .i64 p.hour, .int .u8 p.kind, .int .i64 p.party, .int .i64 p.parcel, .int .i64 p.amount, .int .i64 p.reason, .int .i64 p.known] 63)) = W at *
  obtain ⟨q0, q1, q2, q3, q4, q5, q6, q7⟩ := hbx.cells
  obtain ⟨c0, c1, c2, c3, c4, c5, c6⟩ := hch.cs
  have l1 : ∀ n, (Instr.lookup 77 (.map (some L.sold)) (.int .i64 p.parcel) true).run Tryz.prog (W.drewN n) = .ok (.tuple #[.int .i64 (getI s.sold p.parcel), .bool false]) (W.drewN n) := fun n => by
    rw [look_int_ok (hch.sold.drewN n) hp.parcel, hs]
  have hlt : w.heap.size ≠ L.sold ∧ w.heap.size ≠ L.held := ⟨fun e => by have := h.mem_lt (k := L.sold) (.inr (.inr (.inl rfl))); omega, fun e => by have := h.mem_lt (k := L.held) (.inr (.inr (.inr (.inl rfl)))); omega⟩
  have Hlt := Lib.hid hlt
  have Hok := Lib.hid h.ok
  clear h hs hlt
  go_quiet (fail)
  go_wp2_with fail
  refine (unless_yes 6 _).mono ?_
  rintro r w2 ⟨rfl, rfl⟩
  go_wp2_with fail
  have hch1 := hch.drewN nq
  have hbx1 := hbx.drewN nq
  have HB1 := Lib.hid (below_drewN HB.out nq)
  clear l1 q0 q1 q2 q3 q4 q5 q6 q7 c0 c1 c2 c3 c4 c5 c6 HB hch hbx
  generalize W.drewN nq = W2 at *
  obtain ⟨q0, q1, q2, q3, q4, q5, q6, q7⟩ := hbx1.cells
  obtain ⟨c0, c1, c2, c3, c4, c5, c6⟩ := hch1.cs
  have hch' := hch1.drew
  have hbx' := hbx1.drewN 1
  obtain ⟨w1, s1, e1, m1, st1, g1, z1⟩ := entry_int hch'.sold hp.parcel
  have ch1 := hch'.setSold m1 g1
  have bx1 := hbx'.grown g1 Hlt.out.1
  obtain ⟨w2, e2, m2, g2, z2⟩ := store_int ch1.sold st1 p.amount
  have ch2 := ch1.setSold m2 g2
  have bx2 := bx1.grown g2 Hlt.out.1
  obtain ⟨w3, s3, e3, m3, st3, g3, z3⟩ := entry_int ch2.held hp.parcel
  have ch3 := ch2.setHeld m3 g3
  have bx3 := bx2.grown g3 Hlt.out.2
  obtain ⟨w4, e4, m4, g4, z4⟩ := store_int ch3.held st3 p.amount
  have ch4 := ch3.setHeld m4 g4
  have bx4 := bx3.grown g4 Hlt.out.2
  have k1 : w1.cell? ⟨w.heap.size, 4, none⟩ = some (.int .i64 p.parcel) ∧ w1.cell? ⟨w.heap.size, 5, none⟩ = some (.int .i64 p.amount) ∧ w1.cell? ⟨L.c, 3, none⟩ = some (.map (some L.sold)) ∧ w1.cell? ⟨L.c, 4, none⟩ = some (.map (some L.held)) :=
    ⟨bx1.cells.2.2.2.2.1, bx1.cells.2.2.2.2.2.1, ch1.cs.2.2.2.1, ch1.cs.2.2.2.2.1⟩
  have k2 : w2.cell? ⟨w.heap.size, 4, none⟩ = some (.int .i64 p.parcel) ∧ w2.cell? ⟨w.heap.size, 5, none⟩ = some (.int .i64 p.amount) ∧ w2.cell? ⟨L.c, 3, none⟩ = some (.map (some L.sold)) ∧ w2.cell? ⟨L.c, 4, none⟩ = some (.map (some L.held)) :=
    ⟨bx2.cells.2.2.2.2.1, bx2.cells.2.2.2.2.2.1, ch2.cs.2.2.2.1, ch2.cs.2.2.2.2.1⟩
  have k3 : w3.cell? ⟨w.heap.size, 4, none⟩ = some (.int .i64 p.parcel) ∧ w3.cell? ⟨w.heap.size, 5, none⟩ = some (.int .i64 p.amount) ∧ w3.cell? ⟨L.c, 3, none⟩ = some (.map (some L.sold)) ∧ w3.cell? ⟨L.c, 4, none⟩ = some (.map (some L.held)) :=
    ⟨bx3.cells.2.2.2.2.1, bx3.cells.2.2.2.2.2.1, ch3.cs.2.2.2.1, ch3.cs.2.2.2.2.1⟩
  have k4 : w4.cell? ⟨w.heap.size, 4, none⟩ = some (.int .i64 p.parcel) ∧ w4.cell? ⟨w.heap.size, 5, none⟩ = some (.int .i64 p.amount) ∧ w4.cell? ⟨L.c, 3, none⟩ = some (.map (some L.sold)) ∧ w4.cell? ⟨L.c, 4, none⟩ = some (.map (some L.held)) :=
    ⟨bx4.cells.2.2.2.2.1, bx4.cells.2.2.2.2.2.1, ch4.cs.2.2.2.1, ch4.cs.2.2.2.2.1⟩
  have hfin : ChAt w4 L (saleS s p) := by
    have := ch4
    simp only [mput_mput] at this
    exact this
  have hon : OnlyL L w w4 := (onlyL_of_below (below_drewN HB1.out 1) L).trans (((((onlyL_of_grown g1 (.inr (.inr (.inl rfl)))).trans (onlyL_of_grown g2 (.inr (.inr (.inl rfl))))).trans (onlyL_of_grown g3 (.inr (.inr (.inr (.inl rfl)))))).trans (onlyL_of_grown g4 (.inr (.inr (.inr (.inl rfl)))))))
  have Hfin := Lib.hid hfin
  have Hon := Lib.hid hon
  clear hfin hon m1 m2 m3 m4 st1 st3 g1 g2 g3 g4 z1 z2 z3 z4 ch1 ch2 ch3 ch4 bx1 bx2 bx3 bx4 hbx' hch' hch1 hbx1
  go_region_held3 (fun w' => w'.cell? ⟨w.heap.size, 4, none⟩ = some (.int .i64 p.parcel) ∧ w'.cell? ⟨w.heap.size, 5, none⟩ = some (.int .i64 p.amount) ∧
      w'.cell? ⟨L.c, 3, none⟩ = some (.map (some L.sold)) ∧ w'.cell? ⟨L.c, 4, none⟩ = some (.map (some L.held)))
    (first | assumption | go_keep) (fail)
  go_wp2_with fail
  go_end0
  exact ⟨rfl, Hfin.out, Hon.out⟩
end Go.Proofs.YtehedodogkhmgaaGreat
