/- The walk of LastPay. -/
import Derived.Test.YtehedodogkhmgaaGreatAsk
import Derived.Deep.Cut
set_option linter.unusedSimpArgs false
set_option linter.unusedVariables false
namespace Go.Proofs.YtehedodogkhmgaaGreat
open Go.RowKit Go.Shelf

theorem frz0 {w : World} {g : Nat} {t : TypeId} {cs : Array Value} (h : w.heap[g]? = some (.cells cs t (0, 0))) (i : Nat) : w.frozen? ⟨g, i, none⟩ = false := by simp [World.frozen?, h]
def poV (q : Po) : Value := .agg #[.int .i64 q.id, .int .i64 q.hour, .int .u8 q.kind, .int .i64 q.party, .int .i64 q.parcel, .int .i64 q.amount, .int .i64 q.reason, .int .i64 q.known]
/-- eight cells written over -/
def put8 (w : World) (B : Nat) (p : Po) : World :=
  (((((((w.setCell ⟨B, 0, none⟩ (.int .i64 p.id)).setCell ⟨B, 1, none⟩ (.int .i64 p.hour)).setCell ⟨B, 2, none⟩ (.int .u8 p.kind)).setCell ⟨B, 3, none⟩ (.int .i64 p.party)).setCell ⟨B, 4, none⟩ (.int .i64 p.parcel)).setCell ⟨B, 5, none⟩ (.int .i64 p.amount)).setCell ⟨B, 6, none⟩ (.int .i64 p.reason)).setCell ⟨B, 7, none⟩ (.int .i64 p.known)
theorem cell_off {w : World} {B i j : Nat} {u v : Value} (h : w.cell? ⟨B, j, none⟩ = some u) (hij : i ≠ j) : (w.setCell ⟨B, i, none⟩ v).cell? ⟨B, j, none⟩ = some u := by
  rw [World.cell?_setCell_other _ _ _ _ (by simp [hij])]; exact h
theorem cell_on {w : World} {B j : Nat} {u v : Value} (h : w.cell? ⟨B, j, none⟩ = some u) : (w.setCell ⟨B, j, none⟩ v).cell? ⟨B, j, none⟩ = some v :=
  World.cell?_setCell_same' _ _ _ (by rw [h]; rfl)
theorem put8_cells {w : World} {B : Nat} {q : Po} (h : BoxPo w B q) (p : Po) : BoxPo (put8 w B p) B p := by
  obtain ⟨h0, h1, h2, h3, h4, h5, h6, h7⟩ := h.cells
  have e : ∀ j, j < 8 → (put8 w B p).cell? ⟨B, j, none⟩ = p.vals[j]? := by
    intro j hj
    unfold put8
    have h' : j = 0 ∨ j = 1 ∨ j = 2 ∨ j = 3 ∨ j = 4 ∨ j = 5 ∨ j = 6 ∨ j = 7 := by omega
    rcases h' with rfl | rfl | rfl | rfl | rfl | rfl | rfl | rfl
    · exact cell_off (cell_off (cell_off (cell_off (cell_off (cell_off (cell_off (cell_on h0) (by decide)) (by decide)) (by decide)) (by decide)) (by decide)) (by decide)) (by decide)
    · exact cell_off (cell_off (cell_off (cell_off (cell_off (cell_off (cell_on (cell_off h1 (by decide))) (by decide)) (by decide)) (by decide)) (by decide)) (by decide)) (by decide)
    · exact cell_off (cell_off (cell_off (cell_off (cell_off (cell_on (cell_off (cell_off h2 (by decide)) (by decide))) (by decide)) (by decide)) (by decide)) (by decide)) (by decide)
    · exact cell_off (cell_off (cell_off (cell_off (cell_on (cell_off (cell_off (cell_off h3 (by decide)) (by decide)) (by decide))) (by decide)) (by decide)) (by decide)) (by decide)
    · exact cell_off (cell_off (cell_off (cell_on (cell_off (cell_off (cell_off (cell_off h4 (by decide)) (by decide)) (by decide)) (by decide))) (by decide)) (by decide)) (by decide)
    · exact cell_off (cell_off (cell_on (cell_off (cell_off (cell_off (cell_off (cell_off h5 (by decide)) (by decide)) (by decide)) (by decide)) (by decide))) (by decide)) (by decide)
    · exact cell_off (cell_on (cell_off (cell_off (cell_off (cell_off (cell_off (cell_off h6 (by decide)) (by decide)) (by decide)) (by decide)) (by decide)) (by decide))) (by decide)
    · exact cell_on (cell_off (cell_off (cell_off (cell_off (cell_off (cell_off (cell_off h7 (by decide)) (by decide)) (by decide)) (by decide)) (by decide)) (by decide)) (by decide))
  exact ⟨World.block_lt_of_cell? _ _ (e 0 (by omega)), e⟩
theorem put8_below {w0 w : World} {C B : Nat} (h : Below C w0 w) (hB : C ≤ B) (p : Po) : Below C w0 (put8 w B p) := by
  unfold put8
  exact (((((((h.setCell (p := ⟨B, 0, none⟩) hB _).setCell (p := ⟨B, 1, none⟩) hB _).setCell (p := ⟨B, 2, none⟩) hB _).setCell (p := ⟨B, 3, none⟩) hB _).setCell (p := ⟨B, 4, none⟩) hB _).setCell (p := ⟨B, 5, none⟩) hB _).setCell (p := ⟨B, 6, none⟩) hB _).setCell (p := ⟨B, 7, none⟩) hB _

def LastPost (w : World) (xs : List Po) (party parcel : Int) (e : Ending) (w' : World) : Prop :=
  Below w.heap.size w w' ∧ e = .returned (.tuple #[poV (if askE xs parcel party = 0 then (lastL xs party parcel).getD zPo else zPo), .bool (if askE xs parcel party = 0 then (lastL xs party parcel).isSome else false), .int .i64 (askE xs parcel party)])

set_option maxRecDepth 100000 in
set_option maxHeartbeats 4000000 in
theorem lastPay_all (a : Option Addr) (n cap : Nat) (xs : List Po) (party parcel : Int) (w : World) (h : Rd Po.vals 8 w a n xs) (hw : ∀ p ∈ xs, p.Wf) (hp1 : I64 party) (hp2 : I64 parcel) :
    Calls Tryz.prog 48 #[.slice a n cap, .int .i64 party, .int .i64 parcel] w (LastPost w xs party parcel) := by
  have hb0 := (Below.refl w.heap.size w).alloc (Nat.le_refl _) (.cells #[.int .i64 0, .int .i64 0, .int .u8 0, .int .i64 0, .int .i64 0, .int .i64 0, .int .i64 0, .int .i64 0] 63)
  have h1 := h.below' hb0
  have Hbx := Lib.hid (BoxPo.made w zPo 63)
  have Hz : ∀ j, (w.alloc (.cells #[.int .i64 0, .int .i64 0, .int .u8 0, .int .i64 0, .int .i64 0, .int .i64 0, .int .i64 0, .int .i64 0] 63)).frozen? ⟨w.heap.size, j, none⟩ = false := fun j => frz0 (heap_alloc_new w _) j
  have HZ := Lib.hid Hz
  have Hb0 := Lib.hid hb0
  clear hb0 Hz
  go_enter Tryz.func48, Tryz.ntmps48
  go_wp2_with fail
  refine (asked_any a n cap xs parcel party _ h1 hw).mono ?_
  rintro e w1 ⟨hB, ⟨hc, rfl⟩ | ⟨hc, L, s, rfl, hch, hbk, hL⟩⟩
  · have HB := Lib.hid (below_then Hb0.out hB (Nat.le_refl _))
    have Hc := Lib.hid hc
    have hc1 : (askE xs parcel party != 0) = true := by simp [hc]
    have hbx := Hbx.out.below' hB
    have HX := Lib.hid hbx
    obtain ⟨z0, z1, z2, z3, z4, z5, z6, z7⟩ := hbx.cells
    have zf : ∀ j, w1.frozen? ⟨w.heap.size, j, none⟩ = false := fun j => (hB.frozen (p := ⟨w.heap.size, j, none⟩) (show w.heap.size < _ by simp)).trans (HZ.out j)
    have zf0 := zf 0
    have zf1 := zf 1
    have zf2 := zf 2
    have zf3 := zf 3
    have zf4 := zf 4
    have zf5 := zf 5
    have zf6 := zf 6
    have zf7 := zf 7
    have zl := hbx.1
    clear hB hc h h1 zf hbx
    go_wp2_with fail
    have HY := And.intro (put8_cells HX.out zPo) (put8_below HB.out (Nat.le_refl _) zPo)
    change BoxPo ((((((((w1.setCell ⟨w.heap.size, 0, none⟩ (.int .i64 0)).setCell ⟨w.heap.size, 1, none⟩ (.int .i64 0)).setCell ⟨w.heap.size, 2, none⟩ (.int .u8 0)).setCell ⟨w.heap.size, 3, none⟩ (.int .i64 0)).setCell ⟨w.heap.size, 4, none⟩ (.int .i64 0)).setCell ⟨w.heap.size, 5, none⟩ (.int .i64 0)).setCell ⟨w.heap.size, 6, none⟩ (.int .i64 0)).setCell ⟨w.heap.size, 7, none⟩ (.int .i64 0)) w.heap.size ⟨0, 0, 0, 0, 0, 0, 0, 0⟩ ∧ Below w.heap.size w ((((((((w1.setCell ⟨w.heap.size, 0, none⟩ (.int .i64 0)).setCell ⟨w.heap.size, 1, none⟩ (.int .i64 0)).setCell ⟨w.heap.size, 2, none⟩ (.int .u8 0)).setCell ⟨w.heap.size, 3, none⟩ (.int .i64 0)).setCell ⟨w.heap.size, 4, none⟩ (.int .i64 0)).setCell ⟨w.heap.size, 5, none⟩ (.int .i64 0)).setCell ⟨w.heap.size, 6, none⟩ (.int .i64 0)).setCell ⟨w.heap.size, 7, none⟩ (.int .i64 0)) at HY
    generalize ((((((((w1.setCell ⟨w.heap.size, 0, none⟩ (.int .i64 0)).setCell ⟨w.heap.size, 1, none⟩ (.int .i64 0)).setCell ⟨w.heap.size, 2, none⟩ (.int .u8 0)).setCell ⟨w.heap.size, 3, none⟩ (.int .i64 0)).setCell ⟨w.heap.size, 4, none⟩ (.int .i64 0)).setCell ⟨w.heap.size, 5, none⟩ (.int .i64 0)).setCell ⟨w.heap.size, 6, none⟩ (.int .i64 0)).setCell ⟨w.heap.size, 7, none⟩ (.int .i64 0)) = W3 at *
    obtain ⟨HY, HBY⟩ := HY
    have zl3 := HY.1
    obtain ⟨r0, r1, r2, r3, r4, r5, r6, r7⟩ := HY.cells
    dsimp only at r0 r1 r2 r3 r4 r5 r6 r7
    have Hres := Lib.hid HBY
    clear HBY HY z0 z1 z2 z3 z4 z5 z6 z7 zf0 zf1 zf2 zf3 zf4 zf5 zf6 zf7
    refine bodyPost_ret (v := .tuple #[.agg #[.int .i64 0, .int .i64 0, .int .u8 0, .int .i64 0, .int .i64 0, .int .i64 0, .int .i64 0, .int .i64 0], .bool false, .int .i64 (askE xs parcel party)]) (by simp [results, Tryz.results48, go_sem, zl3, r0, r1, r2, r3, r4, r5, r6, r7]) rfl ⟨Hres.out, ?_⟩
    rw [if_neg Hc.out, if_neg Hc.out]
    rfl
  · obtain ⟨c0, c1, c2, c3, c4, c5, c6⟩ := hch.cs
    obtain ⟨q, hq⟩ : ∃ q, getP s.last (parcel, party) = q := ⟨_, rfl⟩
    have l1 := look_last_ok hch.last hp2 hp1 hq
    have HQ := Lib.hid (show q = (lastL xs party parcel).getD zPo by rw [← hq]; unfold getP; rw [hbk.last])
    have HS := Lib.hid (show (mget s.last (parcel, party)).isSome = (lastL xs party parcel).isSome by rw [hbk.last])
    have HB := Lib.hid (below_then Hb0.out hB (Nat.le_refl _))
    have Hc := Lib.hid hc
    have hbx := Hbx.out.below' hB
    have HX := Lib.hid hbx
    obtain ⟨z0, z1, z2, z3, z4, z5, z6, z7⟩ := hbx.cells
    have zf : ∀ j, w1.frozen? ⟨w.heap.size, j, none⟩ = false := fun j => (hB.frozen (p := ⟨w.heap.size, j, none⟩) (show w.heap.size < _ by simp)).trans (HZ.out j)
    have ZF := Lib.hid zf
    have zl := hbx.1
    clear hB hc h h1 zf hbx hch hbk hq z0 z1 z2 z3 z4 z5 z6 z7
    go_upto_region 5 with (fail)
    have hb2 : Below w1.heap.size w1 (w1.alloc (.cells #[.int .i64 q.id, .int .i64 q.hour, .int .u8 q.kind, .int .i64 q.party, .int .i64 q.parcel, .int .i64 q.amount, .int .i64 q.reason, .int .i64 q.known] 63)) := (Below.refl _ w1).alloc (Nat.le_refl _) _
    have hbx2 := HX.out.below' hb2
    have hq2 := BoxPo.made w1 q 63
    have zf : ∀ j, (w1.alloc (.cells #[.int .i64 q.id, .int .i64 q.hour, .int .u8 q.kind, .int .i64 q.party, .int .i64 q.parcel, .int .i64 q.amount, .int .i64 q.reason, .int .i64 q.known] 63)).frozen? ⟨w.heap.size, j, none⟩ = false := fun j => (hb2.frozen (p := ⟨w.heap.size, j, none⟩) zl).trans (ZF.out j)
    have HB2 := Lib.hid (below_then HB.out hb2 (Nat.le_refl _))
    generalize w1.alloc (.cells #[.int .i64 q.id, .int .i64 q.hour, .int .u8 q.kind, .int .i64 q.party, .int .i64 q.parcel, .int .i64 q.amount, .int .i64 q.reason, .int .i64 q.known] 63) = W2 at *
    obtain ⟨z0, z1, z2, z3, z4, z5, z6, z7⟩ := hbx2.cells
    obtain ⟨y0, y1, y2, y3, y4, y5, y6, y7⟩ := hq2.cells
    have zl2 := hbx2.1
    have yl2 := hq2.1
    have HX2 := Lib.hid hbx2
    have zf0 := zf 0
    have zf1 := zf 1
    have zf2 := zf 2
    have zf3 := zf 3
    have zf4 := zf 4
    have zf5 := zf 5
    have zf6 := zf 6
    have zf7 := zf 7
    clear zf hb2 hbx2 hq2 l1 c0 c1 c2 c3 c4 c5 c6
    go_wp2_with fail
    have HY := And.intro (put8_cells HX2.out q) (put8_below HB2.out (Nat.le_refl _) q)
    change BoxPo ((((((((W2.setCell ⟨w.heap.size, 0, none⟩ (.int .i64 q.id)).setCell ⟨w.heap.size, 1, none⟩ (.int .i64 q.hour)).setCell ⟨w.heap.size, 2, none⟩ (.int .u8 q.kind)).setCell ⟨w.heap.size, 3, none⟩ (.int .i64 q.party)).setCell ⟨w.heap.size, 4, none⟩ (.int .i64 q.parcel)).setCell ⟨w.heap.size, 5, none⟩ (.int .i64 q.amount)).setCell ⟨w.heap.size, 6, none⟩ (.int .i64 q.reason)).setCell ⟨w.heap.size, 7, none⟩ (.int .i64 q.known)) w.heap.size q ∧ Below w.heap.size w ((((((((W2.setCell ⟨w.heap.size, 0, none⟩ (.int .i64 q.id)).setCell ⟨w.heap.size, 1, none⟩ (.int .i64 q.hour)).setCell ⟨w.heap.size, 2, none⟩ (.int .u8 q.kind)).setCell ⟨w.heap.size, 3, none⟩ (.int .i64 q.party)).setCell ⟨w.heap.size, 4, none⟩ (.int .i64 q.parcel)).setCell ⟨w.heap.size, 5, none⟩ (.int .i64 q.amount)).setCell ⟨w.heap.size, 6, none⟩ (.int .i64 q.reason)).setCell ⟨w.heap.size, 7, none⟩ (.int .i64 q.known)) at HY
    generalize ((((((((W2.setCell ⟨w.heap.size, 0, none⟩ (.int .i64 q.id)).setCell ⟨w.heap.size, 1, none⟩ (.int .i64 q.hour)).setCell ⟨w.heap.size, 2, none⟩ (.int .u8 q.kind)).setCell ⟨w.heap.size, 3, none⟩ (.int .i64 q.party)).setCell ⟨w.heap.size, 4, none⟩ (.int .i64 q.parcel)).setCell ⟨w.heap.size, 5, none⟩ (.int .i64 q.amount)).setCell ⟨w.heap.size, 6, none⟩ (.int .i64 q.reason)).setCell ⟨w.heap.size, 7, none⟩ (.int .i64 q.known)) = W3 at *
    obtain ⟨HY, HBY⟩ := HY
    have zl3 := HY.1
    obtain ⟨r0, r1, r2, r3, r4, r5, r6, r7⟩ := HY.cells
    have Hres := Lib.hid HBY
    clear HBY HY z0 z1 z2 z3 z4 z5 z6 z7 zf0 zf1 zf2 zf3 zf4 zf5 zf6 zf7 y0 y1 y2 y3 y4 y5 y6 y7
    refine bodyPost_ret (v := .tuple #[.agg #[.int .i64 q.id, .int .i64 q.hour, .int .u8 q.kind, .int .i64 q.party, .int .i64 q.parcel, .int .i64 q.amount, .int .i64 q.reason, .int .i64 q.known], .bool (mget s.last (parcel, party)).isSome, .int .i64 0]) (by simp [results, Tryz.results48, go_sem, zl3, r0, r1, r2, r3, r4, r5, r6, r7]) rfl ⟨Hres.out, ?_⟩
    rw [if_pos Hc.out, if_pos Hc.out, Hc.out, HS.out, ← HQ.out]
    rfl
end Go.Proofs.YtehedodogkhmgaaGreat
