/- The walks of slices.AppendSeq and slices.Collect of postings; Upto. -/
import Derived.Test.YtjleembfocghlaaGreatDoorSome
set_option linter.unusedSimpArgs false
set_option linter.unusedVariables false
namespace Go.Proofs.YtjleembfocghlaaGreatDoor
open Go.RowKit Go.Shelf
attribute [local go_sem] Oper.semAt_some

set_option maxRecDepth 100000 in
set_option maxHeartbeats 4000000 in
theorem appendSeqPo_in (m : Nat) (hm : 2 ≤ m) {α : Type} (pr : α → Po) (gf : Nat) (lb : Array Value) (eg : ∀ args w, (callFunc gf args).run Tryz.prog w = .ok (.enter gf args) w) (S Sp : List α → Prop) (N : Nat) (hN : N ≤ 1000000) (n0 : Nat) (w0 w : World)
    (hn0 : n0 ≤ w.heap.size) (hw0 : Below w0.heap.size w0 w) (hseq : SeqStopsK Fence.wide (m - 1) Tryz.prog gf lb (fun x => #[vPo (pr x)]) (Below n0) S Sp N w0) :
    CallsIn Fence.wide m Tryz.prog 64 #[.slice none 0 0, .func (.func gf) #[] lb] w fun e W' =>
      ∃ v ys, e = .returned v ∧ S ys ∧ W'.ownsRow w.heap.size 23 8 v ys.length ((ys.map pr).flatMap Po.vals) ∧ Below w.heap.size w W' := by
  have h1 : 1 ≤ m := by omega
  obtain ⟨i0, hi, hz0, hz1, hz2⟩ := info_parts info_po
  refine callsIn_of_wp_marks Tryz.func64 rfl trivial ?_ rfl
  simp only [Tryz.ntmps64, List.size_toArray, List.length_cons, List.length_nil, Nat.reduceAdd, Nat.reduceSub, Array.replicate_succ, Array.replicate_zero, List.push_toArray, List.append_toArray, List.nil_append, List.cons_append]
  gi_wp2
  have bS := Boxed.new w 31 (.slice none 0 0)
  have hB0 : Below w.heap.size w (w.alloc (.cells #[.slice none 0 0] 31)) := (Below.refl _ w).alloc (Nat.le_refl _) _
  have hsz : (w.alloc (.cells #[.slice none 0 0] 31)).heap.size = w.heap.size + 1 := by simp
  obtain ⟨W0, hW0⟩ : ∃ W0, w.alloc (.cells #[.slice none 0 0] 31) = W0 := ⟨_, rfl⟩
  rw [hW0] at bS hB0 hsz ⊢
  clear hW0
  refine wpIn_rangeFunc_ownH rfl h1 (gf := gf) (lb := lb) rfl trivial eg hseq belowK_t (belowK_b (by omega)) (hw0.trans (hB0.mono hw0.size)) (fun _ => rfl)
    (fun pre W => (∃ v, Boxed W w.heap.size 31 v ∧ W.ownsRow w.heap.size 23 8 v pre.length ((pre.map pr).flatMap Po.vals) ∧ True) ∧ Below w.heap.size w W)
    (fun _ _ _ => False)
    (OwnFrom.and (Own.from (holdsRow_own w.heap.size w.heap.size 31 23 8 (fun pre : List α => pre.length) (fun pre => (pre.map pr).flatMap Po.vals) (fun _ _ => True)) _) (ownFrom_below (Nat.le_refl _) (by omega)))
    (fun _ _ _ _ _ hs _ _ => hs)
    ⟨⟨_, bS, World.ownsRow_nil _ _ _ _, trivial⟩, hB0⟩
    (fun x a' W => ∃ Bx, w.heap.size < Bx ∧ W.heap[Bx]? = some (.cells #[.int .i64 (pr x).id, .int .i64 (pr x).hour, .int .u8 (pr x).kind, .int .i64 (pr x).party, .int .i64 (pr x).parcel, .int .i64 (pr x).amount, .int .i64 (pr x).reason, .int .i64 (pr x).known] 23 (0, 0)) ∧
      a' = { tmps := #[.slice none 0 0, .func (.func gf) #[] lb, .pointer (some ⟨w.heap.size, 0, none⟩), undef, .slice none 0 0, .pointer (some ⟨Bx, 0, none⟩), .func (.func gf) #[] lb, vPo (pr x), undef, undef, undef, undef, undef], defers := [] })
    (fun x a' _ X Y row hs hg hr => by
      obtain ⟨Bx, h1, h2, h3⟩ := hs
      refine ⟨Bx, h1, (hg.block Bx (Array.getElem?_eq_some_iff.1 h2).1 (fun e => ?_)).trans h2, h3⟩
      obtain ⟨_, o, ho, hc⟩ := hr Bx e.symm
      rw [h2] at ho; cases ho; cases hc)
    ?assign ?body ?done ?stop
  case assign =>
    rintro l pre x W K ⟨⟨v, hv, hrow, _⟩, hB1⟩ hK
    unfold vPo
    gi_wp2
    exact hK _ _ ((KeepsOthers.alloc _ _).from _) ((Below.refl _ W).alloc (Nat.le_trans hn0 hB1.size) _) ⟨⟨v, hv.alloc _, hrow.alloc _, trivial⟩, hB1.alloc hB1.size _⟩ ⟨W.heap.size, hv.lt, heap_alloc_new W _, rfl⟩
  case body =>
    rintro l pre x a' W hl hr ⟨⟨v, hv, hrow, _⟩, hB1⟩ ⟨Bx, hBx, bX, rfl⟩ hlt
    have hc := hv.cell
    have q0 : W.cell? ⟨Bx, 0, none⟩ = some (.int .i64 (pr x).id) := by rw [cell_of_row _ _ _ _ _ (0, 0) bX]; rfl
    have q1 : W.cell? ⟨Bx, 1, none⟩ = some (.int .i64 (pr x).hour) := by rw [cell_of_row _ _ _ _ _ (0, 0) bX]; rfl
    have q2 : W.cell? ⟨Bx, 2, none⟩ = some (.int .u8 (pr x).kind) := by rw [cell_of_row _ _ _ _ _ (0, 0) bX]; rfl
    have q3 : W.cell? ⟨Bx, 3, none⟩ = some (.int .i64 (pr x).party) := by rw [cell_of_row _ _ _ _ _ (0, 0) bX]; rfl
    have q4 : W.cell? ⟨Bx, 4, none⟩ = some (.int .i64 (pr x).parcel) := by rw [cell_of_row _ _ _ _ _ (0, 0) bX]; rfl
    have q5 : W.cell? ⟨Bx, 5, none⟩ = some (.int .i64 (pr x).amount) := by rw [cell_of_row _ _ _ _ _ (0, 0) bX]; rfl
    have q6 : W.cell? ⟨Bx, 6, none⟩ = some (.int .i64 (pr x).reason) := by rw [cell_of_row _ _ _ _ _ (0, 0) bX]; rfl
    have q7 : W.cell? ⟨Bx, 7, none⟩ = some (.int .i64 (pr x).known) := by rw [cell_of_row _ _ _ _ _ (0, 0) bX]; rfl
    gi_wp2_with (gi_at_builtin; refine wpListIn_append_own _ rfl _ _ 31 rfl w.heap.size 23 i0 _ 8 64 Tryz.underlying31 hi hz0 hz1 hz2 rfl (by decide) _ _ _ rfl (hrow.alloc _) ⟨W.heap.size, 0, none⟩ 1 1 (Po.vals (pr x)) rfl rfl (World.news_of_block (cs := #[.int .i64 (pr x).id, .int .i64 (pr x).hour, .int .u8 (pr x).kind, .int .i64 (pr x).party, .int .i64 (pr x).parcel, .int .i64 (pr x).amount, .int .i64 (pr x).reason, .int .i64 (pr x).known]) (t := 23) (fr := (0, 0)) (heap_alloc_new _ _)) (by simp [Po.vals, Value.oneCell']) (by unfold maxLen; omega) (by omega) (by have := hB1.size; simp; omega) ?_; intro v' w1 hown' hgrow _; obtain ⟨g', cap', rfl⟩ := ownsRow_succ hown'; obtain ⟨hv1, hv2, hr2, hk2, hb2⟩ := hv.appended (by decide) hrow hB1.size (Nat.le_refl _) hown' hgrow; have hc1 := hv1.cell; have hf1 := hv1.frozen)
    exact ⟨hk2.from _, hb2.mono hn0, ⟨_, hv2, by simpa using hr2, trivial⟩, hB1.trans hb2⟩
  case done =>
    rintro D ys W hD hS ⟨⟨v, hv, hrow, _⟩, hB1⟩ hK
    have hc := hv.cell
    gi_wp2
    refine ⟨by simp, .inl ⟨_, _, rfl, run_takeDeferred hK, ?_⟩⟩
    exact ⟨_, results_tmp rfl _ _ _, v, ys, rfl, hS, ownsRow_putObj hrow _ hK rfl, hB1.trans (belowK_b (w := w) (Nat.le_refl _) W D _ _ (by omega) hK rfl rfl)⟩
  case stop =>
    rintro D c pre W _ _ h _
    exact h.elim

theorem appendSeqPo_any {α : Type} (pr : α → Po) (gf : Nat) (lb : Array Value) (eg : ∀ args w, (callFunc gf args).run Tryz.prog w = .ok (.enter gf args) w) (S Sp : List α → Prop) (N : Nat) (hN : N ≤ 1000000) (n0 : Nat) (w0 w : World)
    (hn0 : n0 ≤ w.heap.size) (hw0 : Below w0.heap.size w0 w) (hseq : SeqStopsK Fence.wide 4 Tryz.prog gf lb (fun x => #[vPo (pr x)]) (Below n0) S Sp N w0) :
    Calls Tryz.prog 64 #[.slice none 0 0, .func (.func gf) #[] lb] w fun e W' =>
      ∃ v ys, e = .returned v ∧ S ys ∧ W'.ownsRow w.heap.size 23 8 v ys.length ((ys.map pr).flatMap Po.vals) ∧ Below w.heap.size w W' :=
  callsIn_wide.1 (appendSeqPo_in 5 (by omega) pr gf lb eg S Sp N hN n0 w0 w hn0 hw0 hseq)

set_option maxHeartbeats 1000000 in
theorem collectPo_any {α : Type} (pr : α → Po) (gf : Nat) (lb : Array Value) (eg : ∀ args w, (callFunc gf args).run Tryz.prog w = .ok (.enter gf args) w) (S Sp : List α → Prop) (N : Nat) (hN : N ≤ 1000000) (n0 : Nat) (w0 w : World)
    (hn0 : n0 ≤ w.heap.size) (hw0 : Below w0.heap.size w0 w) (hseq : SeqStopsK Fence.wide 4 Tryz.prog gf lb (fun x => #[vPo (pr x)]) (Below n0) S Sp N w0) :
    Calls Tryz.prog 33 #[.func (.func gf) #[] lb] w fun e W' =>
      ∃ v ys, e = .returned v ∧ S ys ∧ W'.ownsRow w.heap.size 23 8 v ys.length ((ys.map pr).flatMap Po.vals) ∧ Below w.heap.size w W' := by
  go_enter Tryz.func33, Tryz.ntmps33
  go_wp2_with fail
  refine (appendSeqPo_any pr gf lb eg S Sp N hN n0 w0 _ hn0 hw0 hseq).mono ?_
  rintro e w1 ⟨v, ys, rfl, hS, hrow, hB⟩
  have HB := Lib.hid hB
  have HR := Lib.hid hrow
  clear hB hrow
  go_wp2_with fail
  go_ret
  exact ⟨v, ys, rfl, hS, HR.out, HB.out⟩

/-- what of a book stands up to an hour -/
def uptoL (xs : List Po) (hour : Int) : List Po := someL xs (fun p => decide (p.hour ≤ hour))

set_option maxHeartbeats 1000000 in
theorem upto1_any (p : Po) (Bh : Nat) (hour : Int) (w : World) (hc : w.cell? ⟨Bh, 0, none⟩ = some (.int .i64 hour)) :
    Calls Tryz.prog 35 #[.agg #[.int .i64 p.id, .int .i64 p.hour, .int .u8 p.kind, .int .i64 p.party, .int .i64 p.parcel, .int .i64 p.amount, .int .i64 p.reason, .int .i64 p.known], .pointer (some ⟨Bh, 0, none⟩)] w fun e W' =>
      e = .returned (.bool (decide (p.hour ≤ hour))) ∧ Below w.heap.size w W' := by
  have hlt : Bh < w.heap.size := World.block_lt_of_cell? _ _ hc
  go_enter Tryz.func35, Tryz.ntmps35
  go_wp2_with fail
  go_ret
  exact ⟨rfl, (Below.refl _ _).alloc (Nat.le_refl _) _⟩

set_option maxRecDepth 100000 in
set_option maxHeartbeats 2000000 in
theorem upto_any (a : Option Addr) (n cap : Nat) (xs : List Po) (hour : Int) (w : World) (h : Rd Po.vals 8 w a n xs) (hn : n ≤ 1000000) (hw : ∀ p ∈ xs, p.Wf) :
    Calls Tryz.prog 13 #[.slice a n cap, .int .i64 hour] w fun e W' =>
      ∃ v, e = .returned v ∧ W'.ownsRow w.heap.size 23 8 v (uptoL xs hour).length ((uptoL xs hour).flatMap Po.vals) ∧ Below w.heap.size w W' := by
  go_enter Tryz.func13, Tryz.ntmps13
  go_wp2_with fail
  refine (some_any a n cap _ _ _).mono ?_
  rintro e w1 ⟨rfl, rfl⟩
  go_wp2_with fail
  have hb : Below w.heap.size w (((w.alloc (.cells #[.int .i64 hour] 3)).alloc (.cells #[.slice a n cap] 31)).alloc (.cells #[.func (.func 35) #[] #[.pointer (some ⟨w.heap.size, 0, none⟩)]] 85)) :=
    (((Below.refl _ w).alloc (Nat.le_refl _) _).alloc (by simp) _).alloc (by simp; omega) _
  have b0 := ((Boxed.new w 3 (.int .i64 hour)).alloc (.cells #[.slice a n cap] 31)).alloc (.cells #[.func (.func 35) #[] #[.pointer (some ⟨w.heap.size, 0, none⟩)]] 85)
  have b1 := (Boxed.new (w.alloc (.cells #[.int .i64 hour] 3)) 31 (.slice a n cap)).alloc (.cells #[.func (.func 35) #[] #[.pointer (some ⟨w.heap.size, 0, none⟩)]] 85)
  have b2 := Boxed.new ((w.alloc (.cells #[.int .i64 hour] 3)).alloc (.cells #[.slice a n cap] 31)) 85 (.func (.func 35) #[] #[.pointer (some ⟨w.heap.size, 0, none⟩)])
  simp only [World.size_alloc] at b1 b2
  generalize hW : ((w.alloc (.cells #[.int .i64 hour] 3)).alloc (.cells #[.slice a n cap] 31)).alloc (.cells #[.func (.func 35) #[] #[.pointer (some ⟨w.heap.size, 0, none⟩)]] 85) = W at *
  clear hW
  have hq : Wants 35 #[.pointer (some ⟨w.heap.size, 0, none⟩)] xs (fun p => decide (p.hour ≤ hour)) W := fun W' p hp hB =>
    upto1_any p w.heap.size hour W' ((hB.cell (p := ⟨w.heap.size, 0, none⟩) b0.lt).trans b0.cell)
  refine (collectPo_any (α := PoOf xs) (·.1) 65 _ (enters_of Tryz.func65 (by kernel_rfl) rfl) _ _ n hn W.heap.size W W (Nat.le_refl _) (Below.refl _ _)
    (some_stops 4 (by omega) (w.heap.size + 1) (w.heap.size + 1 + 1) a n cap xs _ _ _ W (enters_of Tryz.func35 (by kernel_rfl) rfl) b1.cell b2.cell (h.below' hb) hw hq)).mono ?_
  rintro e w1 ⟨v, ys, rfl, hS, hrow, hB⟩
  have HB := Lib.hid (hb.trans (hB.mono hb.size))
  have HR := Lib.hid (ownsRow_mono hrow hb.size)
  have hlen : ys.length = (uptoL xs hour).length := by
    have : (ys.map (·.1)).length = ys.length := List.length_map _
    rw [← this, hS]; rfl
  have Hlen := Lib.hid hlen
  have HS := Lib.hid hS
  clear hB hrow hS hlen b0 b1 b2 hq
  go_wp2_with fail
  go_ret
  refine ⟨v, rfl, ?_, HB.out⟩
  have := HR.out
  rw [HS.out, Hlen.out] at this
  exact this
end Go.Proofs.YtjleembfocghlaaGreatDoor
