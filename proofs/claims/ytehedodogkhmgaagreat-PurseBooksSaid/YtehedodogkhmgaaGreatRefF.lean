/- The walk of the references' SamePostings. -/
import Derived.Test.YtehedodogkhmgaaGreatRefE
set_option linter.unusedSimpArgs false
set_option linter.unusedVariables false
namespace Go.Proofs.YtehedodogkhmgaaGreat
open Go.RowKit

theorem po_eq_iff (p q : Po) : p = q ↔ p.id = q.id ∧ p.hour = q.hour ∧ p.kind = q.kind ∧ p.party = q.party ∧ p.parcel = q.parcel ∧ p.amount = q.amount ∧ p.reason = q.reason ∧ p.known = q.known := by
  cases p; cases q; simp

theorem eqPo_run (p q : Po) (w : World) : (Op.equalIn 10000 63 (.agg #[.int .i64 p.id, .int .i64 p.hour, .int .u8 p.kind, .int .i64 p.party, .int .i64 p.parcel, .int .i64 p.amount, .int .i64 p.reason, .int .i64 p.known])
    (.agg #[.int .i64 q.id, .int .i64 q.hour, .int .u8 q.kind, .int .i64 q.party, .int .i64 q.parcel, .int .i64 q.amount, .int .i64 q.reason, .int .i64 q.known])).run Tryz.prog w = .ok (decide (p = q)) w := by
  go_simp
  by_cases h : p = q
  · subst h
    simp
  · have h' := h
    rw [po_eq_iff] at h'
    simp only [h, decide_false]
    repeat' split
    all_goals first | rfl | (exfalso; apply h'; refine ⟨?_, ?_, ?_, ?_, ?_, ?_, ?_, ?_⟩ <;> assumption)

theorem neqPo_run (p q : Po) (w : World) : (binOp .neq 63 (.agg #[.int .i64 p.id, .int .i64 p.hour, .int .u8 p.kind, .int .i64 p.party, .int .i64 p.parcel, .int .i64 p.amount, .int .i64 p.reason, .int .i64 p.known])
    (.agg #[.int .i64 q.id, .int .i64 q.hour, .int .u8 q.kind, .int .i64 q.party, .int .i64 q.parcel, .int .i64 q.amount, .int .i64 q.reason, .int .i64 q.known])).run Tryz.prog w = .ok (.bool (!(decide (p = q)))) w := by
  simp only [binOp]
  simp [Op.equal, Op.maxDepth, eqPo_run]

set_option maxRecDepth 100000 in
set_option maxHeartbeats 2000000 in
theorem samePostings_any (a a' : Option Addr) (n n' cap cap' : Nat) (xs ys : List Po) (w : World) (h : Rd Po.vals 8 w a n xs) (h' : Rd Po.vals 8 w a' n' ys) :
    Calls Tryz.prog 14 #[.slice a n cap, .slice a' n' cap'] w fun e w' => e = .returned (.bool (decide (xs = ys))) ∧ Below w.heap.size w w' := by
  by_cases hnn : n = n'
  case neg =>
    have hd : ((n : Int) != n') = true := by simp; omega
    have hx : xs ≠ ys := fun e => hnn (by rw [← h.len, ← h'.len, e])
    go_enter Tryz.func14, Tryz.ntmps14
    go_wp2_with fail
    go_ret
    exact ⟨ret_bool (by simp [hx]), Below.refl _ _⟩
  subst hnn
  have hd : ((n : Int) != n) = false := by simp
  have Hl := Lib.hid h.len
  have Hl' := Lib.hid h'.len
  have hm := h.cap
  unfold maxLen at hm
  go_enter Tryz.func14, Tryz.ntmps14
  go_wp2_with fail
  go_loopw [5] (fun i wr => ∃ k : Nat, k ≤ n ∧ i = .int .i64 k ∧ xs.take k = ys.take k ∧ Rd Po.vals 8 wr a n xs ∧ Rd Po.vals 8 wr a' n ys ∧ Below w.heap.size w wr) (fun i _ => n - (intOf i).toNat)
  case atStart => exact ⟨0, Nat.zero_le _, rfl, rfl, h, h', Below.refl _ _⟩
  case round =>
    obtain ⟨k, hk, rfl, he, h1, h1', hB⟩ := hrel
    have He := Lib.hid he
    have HB := Lib.hid hB
    clear he hB h h'
    by_cases hlt : k < n
    · obtain ⟨b, off, x, rfl, hb, hx, x0, x1, x2, x3, x4, x5, x6, x7⟩ := h1.po hlt
      obtain ⟨b', off', y, rfl, hb', hy, y0, y1, y2, y3, y4, y5, y6, y7⟩ := h1'.po hlt
      have Hx := Lib.hid hx
      have Hy := Lib.hid hy
      clear hx hy
      have Hsn := Lib.hid (take_succ_snoc Hx.out)
      have Hsn' := Lib.hid (take_succ_snoc Hy.out)
      by_cases hxy : x = y
      · have hne : ∀ W, (binOp .neq 63 (.agg #[.int .i64 x.id, .int .i64 x.hour, .int .u8 x.kind, .int .i64 x.party, .int .i64 x.parcel, .int .i64 x.amount, .int .i64 x.reason, .int .i64 x.known])
          (.agg #[.int .i64 y.id, .int .i64 y.hour, .int .u8 y.kind, .int .i64 y.party, .int .i64 y.parcel, .int .i64 y.amount, .int .i64 y.reason, .int .i64 y.known])).run Tryz.prog W = .ok (.bool false) W := fun W => by rw [neqPo_run]; simp [hxy]
        have Hxy := Lib.hid hxy
        clear hxy
        go_wp2_with fail
        go_quiet (fail)
        go_wp2_with fail
        exact ⟨⟨k + 1, by omega, by go_num, by rw [Hsn.out, Hsn'.out, He.out, Hxy.out], h1.drewN _, h1'.drewN _, below_drewN HB.out _⟩, by simp [intOf]; omega⟩
      · have hne : ∀ W, (binOp .neq 63 (.agg #[.int .i64 x.id, .int .i64 x.hour, .int .u8 x.kind, .int .i64 x.party, .int .i64 x.parcel, .int .i64 x.amount, .int .i64 x.reason, .int .i64 x.known])
          (.agg #[.int .i64 y.id, .int .i64 y.hour, .int .u8 y.kind, .int .i64 y.party, .int .i64 y.parcel, .int .i64 y.amount, .int .i64 y.reason, .int .i64 y.known])).run Tryz.prog W = .ok (.bool true) W := fun W => by rw [neqPo_run]; simp [hxy]
        have Hxy := Lib.hid hxy
        clear hxy
        go_wp2_with fail
        go_quiet (fail)
        go_wp2_with fail
        go_ret
        refine ⟨ret_bool ?_, below_drewN HB.out _⟩
        have : xs ≠ ys := fun e => Hxy.out (by have h1 := Hx.out; have h2 := Hy.out; rw [e] at h1; exact Option.some.inj (h1.symm.trans h2))
        simp [this]
    · go_wp2_with fail
      go_ret
      refine ⟨ret_bool ?_, HB.out⟩
      have := He.out
      rw [List.take_of_length_le (by rw [Hl.out]; omega), List.take_of_length_le (by rw [Hl'.out]; omega)] at this
      simp [this]

end Go.Proofs.YtehedodogkhmgaaGreat
