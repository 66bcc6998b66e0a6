/- Rows of a law's own: copies, and elements that are written over; the law's few. -/
import Derived.Test.YtacpjmgnddpbiaaLawHours
import Derived.Test.YtacpjmgnddpbiaaLawChecks
set_option linter.unusedSimpArgs false
set_option linter.unusedVariables false
namespace Go.Proofs.Ytacpjmgnddpbiaa
open Go.RowKit Go.Shelf

/-- a slice over a row of postings that the call itself made -/
structure OwnPo (w : World) (base : Nat) (a : Option Addr) (n cap : Nat) (ys : List Po) : Prop where
  rd : Rd Po.vals 8 w a n ys
  hc : n ≤ cap
  hz : a = none → cap = 0
  blk : ∀ q, a = some q → ∃ (g : Nat) (cs : Array Value), q = ⟨g, 0, none⟩ ∧ base ≤ g ∧ w.heap[g]? = some (.cells cs 24 (0, 0)) ∧ n * 8 ≤ cs.size
theorem OwnPo.of_own {w : World} {base : Nat} {v : Value} {n : Nat} {ys : List Po} (h : w.ownsRow base 24 8 v n (ys.flatMap Po.vals)) (hn : ys.length = n) (hm : n ≤ maxLen) : ∃ a cap, v = .slice a n cap ∧ OwnPo w base a n cap ys := by
  have h0 := h
  rcases h.2 with ⟨rfl, rfl⟩ | ⟨g, cap, cur, rfl, hb, hg, hc, _, hs, ht⟩
  · exact ⟨none, 0, rfl, ⟨⟨hn, hm, fun i hi => absurd hi (by omega)⟩, Nat.le_refl _, fun _ => rfl, fun q e => by cases e⟩⟩
  · obtain ⟨a, c, he, hcap, hrd, _⟩ := Rd.of_own h0 po_vals_length (by decide) hn hm
    cases he
    exact ⟨_, _, rfl, ⟨hrd, hc, (fun e => by cases e), fun q e => by cases e; exact ⟨g, cur, rfl, hb, hg, by rw [hs]; exact Nat.mul_le_mul_right 8 hc⟩⟩⟩
theorem OwnPo.lt {w : World} {base : Nat} {a : Option Addr} {n cap : Nat} {ys : List Po} (h : OwnPo w base a n cap ys) : ∀ q, a = some q → base ≤ q.block ∧ q.block < w.heap.size := fun q e => by
  obtain ⟨g, cs, rfl, hb, hg, _⟩ := h.blk q e
  exact ⟨hb, (Array.getElem?_eq_some_iff.1 hg).1⟩
theorem OwnPo.later {w w' : World} {base : Nat} {a : Option Addr} {n cap : Nat} {ys : List Po} (h : OwnPo w base a n cap ys) (hB : Below w.heap.size w w') : OwnPo w' base a n cap ys :=
  ⟨h.rd.below' hB, h.hc, h.hz, fun q e => by
    obtain ⟨g, cs, he, hb, hg, hs⟩ := h.blk q e
    exact ⟨g, cs, he, hb, (hB.block g (Array.getElem?_eq_some_iff.1 hg).1).trans hg, hs⟩⟩

/-- the sizes that the laws ask -/
def fewB (n n' n'' : Nat) : Prop := n ≤ 24 ∧ (n' ≤ 20 ∨ (400 < n' ∧ n' ≤ 405)) ∧ (n'' ≤ 20 ∨ (400 < n'' ∧ n'' ≤ 405))
instance (n n' n'' : Nat) : Decidable (fewB n n' n'') := by unfold fewB; infer_instance
set_option maxHeartbeats 4000000 in
theorem few_any (a : Option Addr) (n cap : Nat) (a' : Option Addr) (n' cap' : Nat) (a'' : Option Addr) (n'' cap'' : Nat) (w : World) :
    Calls Try.prog 20 #[.slice a n cap, .slice a' n' cap', .slice a'' n'' cap''] w fun e w' => e = .returned (.bool (decide (fewB n n' n''))) ∧ w' = w := by
  by_cases h1 : n ≤ 24
  · have h' : n' ≤ 20 ∨ (20 < n' ∧ n' ≤ 400) ∨ (400 < n' ∧ n' ≤ 405) ∨ 405 < n' := by omega
    have h'' : n'' ≤ 20 ∨ (20 < n'' ∧ n'' ≤ 400) ∨ (400 < n'' ∧ n'' ≤ 405) ∨ 405 < n'' := by omega
    rcases h' with h' | h' | h' | h' <;> rcases h'' with h'' | h'' | h'' | h''
    all_goals
      go_enter Try.func20, Try.ntmps20
      go_wp2_with fail
      go_ret
      refine ⟨ret_bool ?_, rfl⟩
      rw [Bool.eq_iff_iff, decide_eq_true_iff (p := fewB n n' n'')]; unfold fewB; simp only [Bool.or_eq_true, Bool.and_eq_true, decide_eq_true_eq, Bool.false_eq_true, Bool.true_eq_false, true_iff, false_iff, iff_true, iff_false]; omega
  · go_enter Try.func20, Try.ntmps20
    go_wp2_with fail
    go_ret
    refine ⟨ret_bool ?_, rfl⟩
    rw [Bool.eq_iff_iff, decide_eq_true_iff (p := fewB n n' n'')]; unfold fewB; simp only [Bool.or_eq_true, Bool.and_eq_true, decide_eq_true_eq, Bool.false_eq_true, Bool.true_eq_false, true_iff, false_iff, iff_true, iff_false]; omega

theorem wpList_append_copy {P : Program} (w : World) {ops : Array Oper} {rest : List Oper} {o : Oper} {a : Act} {Q : Exit → Act → World → Prop} (hgd : o.guard = none) (s x : Operand) (t : TypeId)
    (ho : o.op = .call { callee := .builtin .append, args := #[s, x], argTypes := #[t, t] })
    (base : Nat) (e : TypeId) (i : TypeInfo) (z : Value) (bytes : Nat) (ht : P.underlying t = some (.slice e)) (hi : P.info? e = some i) (hz : i.zero = some z)
    (hsize : i.size = 8) (hby : i.bytes = bytes) (hzs : z.cells.size = 8) (v : Value) (hs : a.eval s = v) (hown : w.ownsRow base e 8 v 0 [])
    (ap : Option Addr) (m c : Nat) (ys : List Po) (hx : a.eval x = .slice ap m c) (hrd : Rd Po.vals 8 w ap m ys) (hn : ap = none → c = 0) (h63 : m ≤ 100000) (hb : bytes ≤ 1000) (hbase : base ≤ w.heap.size)
    (h : ∀ v' w', w'.ownsRow base e 8 v' m (ys.flatMap Po.vals) → w.grownBy w' v.ownBlock → wpList P ops Q rest (a.put o.dst v') w') : wpList P ops Q (o :: rest) a w := by
  cases ap with
  | none =>
    obtain ⟨rfl, rfl⟩ := hrd.nil_of
    obtain rfl := hn rfl
    exact wpList_append_own_none hgd s x t ho base e i 8 ht hi v 0 [] hs hown hx (h v w hown ⟨rfl, rfl, rfl, Nat.le_refl _, fun _ _ _ => rfl⟩)
  | some ad =>
    refine wpList_append_own w hgd s x t ho base e i z 8 bytes ht hi hz hsize hby hzs (by decide) v 0 [] hs hown ad m c (ys.flatMap Po.vals) hx (by rw [flat_length po_vals_length, hrd.len]) (Rd.news hrd po_vals_length) (po_one _) (by unfold maxLen; omega)
      (Nat.le_trans (Nat.mul_le_mul (show 0 + m ≤ 100000 by omega) hb) (by decide)) hbase fun v' w' h1 h2 _ => h v' w' (by simpa using h1) h2

theorem set_block {w : World} {g : Nat} {cs : Array Value} {t : TypeId} (h : w.heap[g]? = some (.cells cs t (0, 0))) (i : Nat) (v : Value) :
    ∃ cs' : Array Value, (w.setCell ⟨g, i, none⟩ v).heap[g]? = some (.cells cs' t (0, 0)) ∧ cs'.size = cs.size := by
  have hlt := (Array.getElem?_eq_some_iff.1 h).1
  refine ⟨cs.set! i v, ?_, by simp⟩
  simp [World.setCell, Array.getElem?_modify, h]
def zap : List Value := [.int .i64 (-7), .int .i64 0, .int .u8 0, .int .i64 0, .int .i64 0, .int .i64 0, .int .i64 0, .int .i64 0]
end Go.Proofs.Ytacpjmgnddpbiaa
