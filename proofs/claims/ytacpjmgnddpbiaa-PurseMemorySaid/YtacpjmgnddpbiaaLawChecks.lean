/- PurseChecks returns true, whatever the postings. -/
import Derived.Test.YtacpjmgnddpbiaaRefAppend
set_option linter.unusedSimpArgs false
set_option linter.unusedVariables false
namespace Go.Proofs.Ytacpjmgnddpbiaa
open Go.RowKit Go.Shelf

def appE (xs : List Po) (p : Po) : Int := if (checkL xs).2 = 0 then refusedL xs p else (checkL xs).2
def appL (xs : List Po) (p : Po) : List Po := if appE xs p = 0 then xs ++ [p] else []
theorem AppendPost.rd {w w' : World} {xs : List Po} {p : Po} {e : Ending} (h : AppendPost w xs p e w') :
    Below w.heap.size w w' ∧ ∃ a n c, e = .returned (.tuple #[.slice a n c, .int .i64 (appE xs p)]) ∧ Rd Po.vals 8 w' a n (appL xs p) ∧ n ≤ c ∧ (∀ q, a = some q → w.heap.size ≤ q.block) := by
  obtain ⟨hB, ⟨hc, rfl⟩ | ⟨hc, hr, rfl⟩ | ⟨hc, hr, v, rfl, hrow⟩⟩ := h
  · have h1 : appE xs p = (checkL xs).2 := by unfold appE; rw [if_neg hc]
    have h2 : appL xs p = [] := by unfold appL; rw [h1, if_neg hc]
    exact ⟨hB, none, 0, 0, by rw [h1], by rw [h2]; exact Rd.empty _ _, Nat.le_refl _, fun q e => by cases e⟩
  · have h1 : appE xs p = refusedL xs p := by unfold appE; rw [if_pos hc]
    have h2 : appL xs p = [] := by unfold appL; rw [h1, if_neg hr]
    exact ⟨hB, none, 0, 0, by rw [h1], by rw [h2]; exact Rd.empty _ _, Nat.le_refl _, fun q e => by cases e⟩
  · have h1 : appE xs p = 0 := by unfold appE; rw [if_pos hc]; exact hr
    have h2 : appL xs p = xs ++ [p] := by unfold appL; rw [if_pos h1]
    have hl := refusedL_len hr
    obtain ⟨a, c, rfl, hcap, hrd, hlow⟩ := Rd.of_own hrow po_vals_length (by omega) (by simp) (by unfold maxLen; omega)
    exact ⟨hB, a, _, c, by rw [h1], by rw [h2]; exact hrd, hcap, fun q e => (hlow q e).1⟩

set_option maxRecDepth 100000 in
set_option maxHeartbeats 8000000 in
theorem law_checks (a : Option Addr) (n cap : Nat) (xs : List Po) (p : Po) (w : World) (h : Rd Po.vals 8 w a n xs) (hw : ∀ p ∈ xs, p.Wf) (hp : p.Wf) (hcap : n ≤ cap) (hz : a = none → cap = 0) :
    Calls Try.prog 3 #[.slice a n cap, .agg #[.int .i64 p.id, .int .i64 p.hour, .int .u8 p.kind, .int .i64 p.party, .int .i64 p.parcel, .int .i64 p.amount, .int .i64 p.reason, .int .i64 p.known]] w fun e w' => e = .returned (.bool true) ∧ Below w.heap.size w w' := by
  have hb0 := (Below.refl w.heap.size w).alloc (Nat.le_refl _) (.cells #[.int .i64 p.id, .int .i64 p.hour, .int .u8 p.kind, .int .i64 p.party, .int .i64 p.parcel, .int .i64 p.amount, .int .i64 p.reason, .int .i64 p.known] 24)
  have h1 := h.below' hb0
  have hbx := BoxPo.made w p 24
  have Hb0 := Lib.hid hb0
  have Hl := Lib.hid h.len
  have Hz := Lib.hid hz
  have Hw := Lib.hid hw
  have Hp := Lib.hid hp
  have hm := h.cap
  unfold maxLen at hm
  clear hb0 h hz hw hp
  go_enter Try.func3, Try.ntmps3
  by_cases hn : 24 < n
  · have hn' : (24 : Int) < (n : Int) := by omega
    go_wp2_with fail
    refine (purses_any _).mono ?_
    rintro e w1 ⟨rfl, hB⟩
    have HB := Lib.hid (below_then Hb0.out hB (Nat.le_refl _))
    clear hB hbx h1
    go_wp2_with fail
    go_ret
    exact ⟨rfl, HB.out⟩
  · have hn' : ¬ (24 : Int) < (n : Int) := by omega
    have H1 := Lib.hid h1
    have Hbx := Lib.hid hbx
    clear h1 hbx
    go_wp2_with fail
    refine (check_any a n cap xs _ H1.out Hw.out).mono ?_
    rintro e w1 ⟨rfl, hB⟩
    have H2 := Lib.hid (H1.out.below' hB)
    have Hbx2 := Lib.hid (Hbx.out.below' hB)
    have HB2 := Lib.hid (below_then Hb0.out hB (Nat.le_refl _))
    clear hB H1 Hbx Hb0
    go_wp2_with fail
    refine (rcheck_any a n cap xs _ H2.out (by omega) hcap).mono ?_
    rintro e w2 ⟨rfl, hB⟩
    have H3 := Lib.hid (H2.out.below' hB)
    have hbx3 := Hbx2.out.below' hB
    have HB3 := Lib.hid (below_then HB2.out hB (Nat.le_refl _))
    clear hB H2 Hbx2 HB2
    obtain ⟨q0, q1, q2, q3, q4, q5, q6, q7⟩ := hbx3.cells
    go_wp2_with fail
    refine (append_any a n cap xs p _ H3.out Hw.out Hp.out).mono ?_
    rintro e w3 hap
    obtain ⟨hB, a1, n1, c1, rfl, hr1, _, _⟩ := hap.rd
    have H4 := Lib.hid (H3.out.below' hB)
    have hbx4 := hbx3.below' hB
    have HB4 := Lib.hid (below_then HB3.out hB (Nat.le_refl _))
    have HR1 := Lib.hid hr1
    clear hB H3 hbx3 HB3 hap hr1 q0 q1 q2 q3 q4 q5 q6 q7
    obtain ⟨q0, q1, q2, q3, q4, q5, q6, q7⟩ := hbx4.cells
    go_wp2_with fail
    refine (rappend_any a n cap xs p _ H4.out (by omega) hcap Hz.out).mono ?_
    rintro e w4 hap
    obtain ⟨hB, a2, n2, c2, rfl, hr2, _, _⟩ := hap.rd
    have hbx5 := hbx4.below' hB
    have HB5 := Lib.hid (below_then HB4.out hB (Nat.le_refl _))
    have hr1' := HR1.out.below' hB
    clear hB H4 hbx4 HB4 hap HR1 q0 q1 q2 q3 q4 q5 q6 q7
    go_wp2_with fail
    have hsame : ∀ p : Later w4, Calls Try.prog 14 #[.slice a1 n1 c1, .slice a2 n2 c2] p.w fun e w' => e = .returned (.bool true) ∧ Below p.w.heap.size p.w w' := fun p => by
      have := samePostings_any a1 a2 n1 n2 c1 c2 _ _ p.w (hr1'.below' p.hB) (hr2.below' p.hB)
      simpa using this
    have Hsame := Lib.hid hsame
    obtain ⟨q0, q1, q2, q3, q4, q5, q6, q7⟩ := hbx5.cells
    have f0 : ∀ r : Later w4, r.w.cell? ⟨w.heap.size, 0, none⟩ = some (.int .i64 p.id) := fun r => r.cell q0
    have f1 : ∀ r : Later w4, r.w.cell? ⟨w.heap.size, 1, none⟩ = some (.int .i64 p.hour) := fun r => r.cell q1
    have f2 : ∀ r : Later w4, r.w.cell? ⟨w.heap.size, 2, none⟩ = some (.int .u8 p.kind) := fun r => r.cell q2
    have f3 : ∀ r : Later w4, r.w.cell? ⟨w.heap.size, 3, none⟩ = some (.int .i64 p.party) := fun r => r.cell q3
    have f4 : ∀ r : Later w4, r.w.cell? ⟨w.heap.size, 4, none⟩ = some (.int .i64 p.parcel) := fun r => r.cell q4
    have f5 : ∀ r : Later w4, r.w.cell? ⟨w.heap.size, 5, none⟩ = some (.int .i64 p.amount) := fun r => r.cell q5
    have f6 : ∀ r : Later w4, r.w.cell? ⟨w.heap.size, 6, none⟩ = some (.int .i64 p.reason) := fun r => r.cell q6
    have f7 : ∀ r : Later w4, r.w.cell? ⟨w.heap.size, 7, none⟩ = some (.int .i64 p.known) := fun r => r.cell q7
    clear hsame hr1' hr2 hbx5 q0 q1 q2 q3 q4 q5 q6 q7
    refine wp_region_later (by kernel_rfl) (by kernel_rfl) ?_
    repeat (go_big_quiet_step ((first | (go_at_call 9; exact Calls.later_of (purses_any _)) | (go_at_call 14; exact Calls.later_of (Hsame.out _)) | (go_at_call 15; exact Calls.later_of (checkPosting_any p _ Hp.out.kind.1 Hp.out.kind.2)) | (go_at_call 16; exact Calls.later_of (rcheckPosting_any p _)))))
    refine wpQuiet_nil ?_
    intro _ hw'
    obtain ⟨⟨wq, hBq⟩, hw''⟩ := hw'
    subst hw''
    have HBq := Lib.hid (below_then HB5.out hBq (Nat.le_refl _))
    clear hBq f0 f1 f2 f3 f4 f5 f6 f7
    go_wp2_with fail
    go_ret
    exact ⟨rfl, HBq.out⟩
end Go.Proofs.Ytacpjmgnddpbiaa
