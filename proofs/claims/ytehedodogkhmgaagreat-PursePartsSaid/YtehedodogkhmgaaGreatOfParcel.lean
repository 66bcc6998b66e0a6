/- The walk of purse's OfParcel. -/
import Derived.Test.YtehedodogkhmgaaGreatRefH
set_option linter.unusedSimpArgs false
set_option linter.unusedVariables false
namespace Go.Proofs.YtehedodogkhmgaaGreat
open Go.RowKit Go.Shelf

set_option maxHeartbeats 1000000 in
theorem ofParcel1_any (p : Po) (Bh : Nat) (hour : Int) (w : World) (hc : w.cell? ⟨Bh, 0, none⟩ = some (.int .i64 hour)) :
    Calls Tryz.prog 84 #[.agg #[.int .i64 p.id, .int .i64 p.hour, .int .u8 p.kind, .int .i64 p.party, .int .i64 p.parcel, .int .i64 p.amount, .int .i64 p.reason, .int .i64 p.known], .pointer (some ⟨Bh, 0, none⟩)] w fun e W' =>
      e = .returned (.bool (decide (p.parcel = hour))) ∧ Below w.heap.size w W' := by
  have hlt : Bh < w.heap.size := World.block_lt_of_cell? _ _ hc
  go_enter Tryz.func84, Tryz.ntmps84
  by_cases hq : p.parcel = hour
  · have hq1 : (p.parcel == hour) = true := by simp [hq]
    have HQ := Lib.hid hq
    clear hq
    go_wp2_with fail
    go_ret
    exact ⟨ret_bool (by simp [HQ.out]), (Below.refl _ _).alloc (Nat.le_refl _) _⟩
  · have hq1 : (p.parcel == hour) = false := by simp [hq]
    have HQ := Lib.hid hq
    clear hq
    go_wp2_with fail
    go_ret
    exact ⟨ret_bool (by simp [HQ.out]), (Below.refl _ _).alloc (Nat.le_refl _) _⟩

set_option maxRecDepth 100000 in
set_option maxHeartbeats 2000000 in
theorem ofParcel_any (a : Option Addr) (n cap : Nat) (xs : List Po) (hour : Int) (w : World) (h : Rd Po.vals 8 w a n xs) (hn : n ≤ 1000000) (hw : ∀ p ∈ xs, p.Wf) :
    Calls Tryz.prog 25 #[.slice a n cap, .int .i64 hour] w fun e W' =>
      ∃ v, e = .returned v ∧ W'.ownsRow w.heap.size 63 8 v (ofParcelL xs hour).length ((ofParcelL xs hour).flatMap Po.vals) ∧ Below w.heap.size w W' := by
  go_enter Tryz.func25, Tryz.ntmps25
  go_wp2_with fail
  refine (some_any a n cap _ _ _).mono ?_
  rintro e w1 ⟨rfl, rfl⟩
  go_wp2_with fail
  have hb : Below w.heap.size w (((w.alloc (.cells #[.int .i64 hour] 3)).alloc (.cells #[.slice a n cap] 22)).alloc (.cells #[.func (.func 84) #[] #[.pointer (some ⟨w.heap.size, 0, none⟩)]] 111)) :=
    (((Below.refl _ w).alloc (Nat.le_refl _) _).alloc (by simp) _).alloc (by simp; omega) _
  have b0 := ((Boxed.new w 3 (.int .i64 hour)).alloc (.cells #[.slice a n cap] 22)).alloc (.cells #[.func (.func 84) #[] #[.pointer (some ⟨w.heap.size, 0, none⟩)]] 111)
  have b1 := (Boxed.new (w.alloc (.cells #[.int .i64 hour] 3)) 22 (.slice a n cap)).alloc (.cells #[.func (.func 84) #[] #[.pointer (some ⟨w.heap.size, 0, none⟩)]] 111)
  have b2 := Boxed.new ((w.alloc (.cells #[.int .i64 hour] 3)).alloc (.cells #[.slice a n cap] 22)) 111 (.func (.func 84) #[] #[.pointer (some ⟨w.heap.size, 0, none⟩)])
  simp only [World.size_alloc] at b1 b2
  generalize hW : ((w.alloc (.cells #[.int .i64 hour] 3)).alloc (.cells #[.slice a n cap] 22)).alloc (.cells #[.func (.func 84) #[] #[.pointer (some ⟨w.heap.size, 0, none⟩)]] 111) = W at *
  clear hW
  have hq : Wants 84 #[.pointer (some ⟨w.heap.size, 0, none⟩)] xs (fun p => decide (p.parcel = hour)) W := fun W' p hp hB =>
    ofParcel1_any p w.heap.size hour W' ((hB.cell (p := ⟨w.heap.size, 0, none⟩) b0.lt).trans b0.cell)
  refine (collectPo_any (α := PoOf xs) (·.1) 120 _ (enters_of Tryz.func120 (by kernel_rfl) rfl) _ _ n hn W.heap.size W W (Nat.le_refl _) (Below.refl _ _)
    (some_stops 4 (by omega) (w.heap.size + 1) (w.heap.size + 1 + 1) a n cap xs _ _ _ W (enters_of Tryz.func84 (by kernel_rfl) rfl) b1.cell b2.cell (h.below' hb) hw hq)).mono ?_
  rintro e w1 ⟨v, ys, rfl, hS, hrow, hB⟩
  have HB := Lib.hid (hb.trans (hB.mono hb.size))
  have HR := Lib.hid (ownsRow_mono hrow hb.size)
  have hlen : ys.length = (ofParcelL xs hour).length := by
    have : (ys.map (·.1)).length = ys.length := List.length_map _
    rw [← this, hS]; rfl
  have Hlen := Lib.hid hlen
  have HS := Lib.hid hS
  clear hB hrow hS hlen b0 b1 b2 hq
  go_wp2_with fail
  go_ret
  refine ⟨v, rfl, ?_, HB.out⟩
  have := HR.out
  rw [HS.out, Hlen.out] at this
  exact this
end Go.Proofs.YtehedodogkhmgaaGreat
