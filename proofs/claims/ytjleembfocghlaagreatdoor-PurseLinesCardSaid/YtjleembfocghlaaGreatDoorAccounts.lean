/- The walk of the chest's accounts. -/
import Derived.Test.YtjleembfocghlaaGreatDoorDelete
set_option linter.unusedSimpArgs false
set_option linter.unusedVariables false
namespace Go.Proofs.YtjleembfocghlaaGreatDoor
open Go.RowKit Go.Shelf

/-- numbers of postings are of 64 bits -/
theorem Bk.hasI64 {s : Ch} {xs : List Po} (h : Bk s xs) {k : Int × Int} (hk : k ∈ s.has.map (·.1)) : I64 k.1 ∧ I64 k.2 := by
  obtain ⟨p, hp, rfl⟩ := h.hask k hk
  have := h.okl p hp
  unfold okPo at this
  unfold I64
  dsimp only
  omega

set_option maxRecDepth 100000 in
set_option maxHeartbeats 2000000 in
theorem accounts1_any (x : Int × Int) (Bc : Nat) (L : Lay) (s : Ch) (w : World) (hc : w.cell? ⟨Bc, 0, none⟩ = some (.pointer (some ⟨L.c, 0, none⟩))) (h : ChAt w L s) (h1 : I64 x.1) (h2 : I64 x.2) :
    Calls Tryz.prog 99 #[.agg #[.int .i64 x.1, .int .i64 x.2], .pointer (some ⟨Bc, 0, none⟩)] w fun e w' => e = .returned (.bool (decide (getI s.has x = 0))) ∧ Below w.heap.size w w' := by
  have hBc : Bc < w.heap.size := World.block_lt_of_cell? _ _ hc
  have hch := h.alloc (.cells #[.int .i64 x.1, .int .i64 x.2] 81)
  have e0 : (w.alloc (.cells #[.int .i64 x.1, .int .i64 x.2] 81)).cell? ⟨w.heap.size, 0, none⟩ = some (.int .i64 x.1) := by simp
  have e1 : (w.alloc (.cells #[.int .i64 x.1, .int .i64 x.2] 81)).cell? ⟨w.heap.size, 1, none⟩ = some (.int .i64 x.2) := by simp
  have e2 : (w.alloc (.cells #[.int .i64 x.1, .int .i64 x.2] 81)).cell? ⟨Bc, 0, none⟩ = some (.pointer (some ⟨L.c, 0, none⟩)) := by rw [World.cell?_alloc_lt _ _ _ (by exact hBc)]; exact hc
  have HB := Lib.hid ((Below.refl w.heap.size w).alloc (Nat.le_refl _) (.cells #[.int .i64 x.1, .int .i64 x.2] 81))
  clear h hc
  go_enter Tryz.func99, Tryz.ntmps99
  go_wp2_with fail
  generalize w.alloc (.cells #[.int .i64 x.1, .int .i64 x.2] 81) = W at *
  obtain ⟨c0, c1, c2, c3, c4, c5, c6⟩ := hch.cs
  have l1 : ∀ n, (Instr.lookup 74 (.map (some L.has)) (.agg #[.int .i64 x.1, .int .i64 x.2]) false).run Tryz.prog (W.drewN n) = .ok (.int .i64 (getI s.has (x.1, x.2))) (W.drewN n) := fun n => look_acc (hch.has.drewN n) h1 h2
  clear hch
  go_quiet (fail)
  go_wp2_with fail
  go_ret
  refine ⟨ret_bool ?_, below_drewN HB.out _⟩
  exact Bool.eq_iff_iff.2 (by simp)

def AccPost (w : World) (xs : List Po) (e : Ending) (w' : World) : Prop :=
  ∃ v, e = .returned v ∧ w'.ownsRow w.heap.size 81 2 v (accL xs).length ((accL xs).flatMap accs) ∧ Below w.heap.size w w'

set_option maxRecDepth 100000 in
set_option maxHeartbeats 2000000 in
theorem accounts_any (L : Lay) (s : Ch) (xs : List Po) (w : World) (h : ChAt w L s) (hbk : Bk s xs) :
    Calls Tryz.prog 79 #[.pointer (some ⟨L.c, 0, none⟩)] w (AccPost w xs) := by
  have bx := Boxed.new w 64 (.pointer (some ⟨L.c, 0, none⟩))
  have hch := h.alloc (.cells #[.pointer (some ⟨L.c, 0, none⟩)] 64)
  have HB := Lib.hid ((Below.refl w.heap.size w).alloc (Nat.le_refl _) (.cells #[.pointer (some ⟨L.c, 0, none⟩)] 64))
  obtain ⟨c0, c1, c2, c3, c4, c5, c6⟩ := hch.cs
  clear h
  go_enter Tryz.func79, Tryz.ntmps79
  go_wp2_with fail
  refine (keys_any (some L.has) _).mono ?_
  rintro e w1 ⟨rfl, rfl⟩
  generalize w.alloc (.cells #[.pointer (some ⟨L.c, 0, none⟩)] 64) = W at *
  have bk := Boxed.new W 74 (.map (some L.has))
  have hm1 := hch.has.alloc (.cells #[.map (some L.has)] 74)
  have hch1 := hch.alloc (.cells #[.map (some L.has)] 74)
  have bx1 := bx.alloc (.cells #[.map (some L.has)] 74)
  have HB1 := Lib.hid (HB.out.alloc HB.out.size (.cells #[.map (some L.has)] 74))
  generalize W.alloc (.cells #[.map (some L.has)] 74) = W1 at *
  have hnd := hm1.nodup
  have hlen := hbk.hasLen hnd
  have hl4 := hbk.len
  have Hch1 := Lib.hid hch1
  have Hbx1 := Lib.hid bx1
  clear c0 c1 c2 c3 c4 c5 c6 hch hch1 bx bx1
  go_wp2_with fail
  refine (sortedAcc_any 117 _ (enters_of Tryz.func117 (by kernel_rfl) rfl) _ _ s.has.length (by rw [List.length_map] at hlen; omega) (fun ys hS => by have := hS.length_eq; rw [List.length_map] at this hlen; omega) W1 W1 (Below.refl _ _)
    (keys_stops 4 (by omega) W.heap.size L.has s.has W1 bk.cell hm1)).mono ?_
  rintro e w2 ⟨v, ys, ts, rfl, hS, hp, hs, hrow, hB2⟩
  have hpt : ts.Perm (s.has.map (·.1)) := hp.trans hS
  have hacc := accL_of hbk hnd hpt hs
  have htl : ts.length ≤ 1000000 := by have := hpt.length_eq; omega
  have HB2 := Lib.hid (below_then HB1.out hB2 (Nat.le_refl _))
  have HS2 := Lib.hid hB2
  have HA := Lib.hid hacc
  have HI := Lib.hid (show ∀ x ∈ ts, I64 x.1 ∧ I64 x.2 from fun x hx => hbk.hasI64 (hpt.mem_iff.1 hx))
  have HR := Lib.hid hrow
  clear hS hp hs hrow hB2 hacc hpt hlen hnd hm1 hbk bk
  go_wp2_with fail
  refine (deleteAcc_any 99 #[.pointer (some ⟨w.heap.size, 0, none⟩)] (enters_of Tryz.func99 (by kernel_rfl) rfl) (fun a => decide (getI s.has a = 0)) W1.heap.size v ts w2 HR.out htl ?_).mono ?_
  · intro W' x hx hg
    have hlo : Below W1.heap.size W1 W' := HS2.out.grown hg HS2.out.size (fun k e => (HR.out.lt k e).1)
    exact accounts1_any x w.heap.size L s W' ((hlo.cell (p := ⟨w.heap.size, 0, none⟩) Hbx1.out.lt).trans Hbx1.out.cell) (Hch1.out.below' hlo) (HI.out x hx).1 (HI.out x hx).2
  · rintro e w3 ⟨v', rfl, hrow3, hg3⟩
    have HR3 := Lib.hid hrow3
    have HG3 := Lib.hid hg3
    clear hrow3 hg3
    go_wp2_with fail
    go_ret
    have hr := HR3.out
    rw [HA.out] at hr
    exact ⟨v', rfl, ownsRow_mono hr HB1.out.size, HB2.out.grown HG3.out HB2.out.size (fun k e => Nat.le_trans HB1.out.size (HR.out.lt k e).1)⟩
end Go.Proofs.YtjleembfocghlaaGreatDoor
