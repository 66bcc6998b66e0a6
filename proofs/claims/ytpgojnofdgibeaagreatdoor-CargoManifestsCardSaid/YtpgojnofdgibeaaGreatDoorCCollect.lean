/- slices.AppendSeq and slices.Collect of papers; the package's Counting. -/
import Derived.Test.YtpgojnofdgibeaaGreatDoorCLastM
import Derived.Test.YtpgojnofdgibeaaGreatDoorCRMan
import Derived.Test.YtpgojnofdgibeaaGreatDoorCCheck
set_option linter.unusedSimpArgs false
set_option linter.unusedVariables false
namespace Go.Proofs.YtpgojnofdgibeaaGreatDoor
open Go.RowKit Go.Shelf
attribute [local go_sem] Oper.semAt_some

set_option maxRecDepth 100000 in
set_option maxHeartbeats 4000000 in
theorem appendSeqPa_in (m : Nat) (hm : 2 ≤ m) {α : Type} (pr : α → Pa) (gf : Nat) (lb : Array Value) (eg : ∀ args w, (callFunc gf args).run Tryz.prog w = .ok (.enter gf args) w) (S Sp : List α → Prop) (N : Nat) (hN : N ≤ 1000000) (n0 : Nat) (w0 w : World)
    (hn0 : n0 ≤ w.heap.size) (hw0 : Below w0.heap.size w0 w) (hseq : SeqStopsK Fence.wide (m - 1) Tryz.prog gf lb (fun x => #[vPa (pr x)]) (Below n0) S Sp N w0) :
    CallsIn Fence.wide m Tryz.prog 123 #[.slice none 0 0, .func (.func gf) #[] lb] w fun e W' =>
      ∃ v ys, e = .returned v ∧ S ys ∧ W'.ownsRow w.heap.size 28 14 v ys.length ((ys.map pr).flatMap Pa.vals) ∧ Below w.heap.size w W' := by
  have h1 : 1 ≤ m := by omega
  obtain ⟨i0, hi, hz0, hz1, hz2⟩ := info_parts info_pa
  refine callsIn_of_wp_marks Tryz.func123 rfl trivial ?_ rfl
  simp only [Tryz.ntmps123, List.size_toArray, List.length_cons, List.length_nil, Nat.reduceAdd, Nat.reduceSub, Array.replicate_succ, Array.replicate_zero, List.push_toArray, List.append_toArray, List.nil_append, List.cons_append]
  gi_wp2
  have bS := Boxed.new w 30 (.slice none 0 0)
  have hB0 : Below w.heap.size w (w.alloc (.cells #[.slice none 0 0] 30)) := (Below.refl _ w).alloc (Nat.le_refl _) _
  have hsz : (w.alloc (.cells #[.slice none 0 0] 30)).heap.size = w.heap.size + 1 := by simp
  obtain ⟨W0, hW0⟩ : ∃ W0, w.alloc (.cells #[.slice none 0 0] 30) = W0 := ⟨_, rfl⟩
  rw [hW0] at bS hB0 hsz ⊢
  clear hW0
  refine wpIn_rangeFunc_ownH rfl h1 (gf := gf) (lb := lb) rfl trivial eg hseq belowK_t (belowK_b (by omega)) (hw0.trans (hB0.mono hw0.size)) (fun _ => rfl)
    (fun pre W => (∃ v, Boxed W w.heap.size 30 v ∧ W.ownsRow w.heap.size 28 14 v pre.length ((pre.map pr).flatMap Pa.vals) ∧ True) ∧ Below w.heap.size w W)
    (fun _ _ _ => False)
    (OwnFrom.and (Own.from (holdsRow_own w.heap.size w.heap.size 30 28 14 (fun pre : List α => pre.length) (fun pre => (pre.map pr).flatMap Pa.vals) (fun _ _ => True)) _) (ownFrom_below (Nat.le_refl _) (by omega)))
    (fun _ _ _ _ _ hs _ _ => hs)
    ⟨⟨_, bS, World.ownsRow_nil _ _ _ _, trivial⟩, hB0⟩
    (fun x a' W => ∃ Bx, w.heap.size < Bx ∧ W.heap[Bx]? = some (.cells #[.int .i64 (pr x).id, .int .i64 (pr x).known, .int .u8 (pr x).kind, .int .i64 (pr x).loss, .int .i64 (pr x).pack, .int .i64 (pr x).inn, .string ⟨(pr x).mark.toArray⟩, .string ⟨(pr x).goods.toArray⟩, .int .i64 (pr x).low, .int .i64 (pr x).high, .int .i64 (pr x).pieces, .int .i64 (pr x).owner, .int .i64 (pr x).count, .int .i64 (pr x).of] 28 (0, 0)) ∧
      a' = { tmps := #[.slice none 0 0, .func (.func gf) #[] lb, .pointer (some ⟨w.heap.size, 0, none⟩), undef, .slice none 0 0, .pointer (some ⟨Bx, 0, none⟩), .func (.func gf) #[] lb, vPa (pr x), undef, undef, undef, undef, undef], defers := [] })
    (fun x a' _ X Y row hs hg hr => by
      obtain ⟨Bx, h1, h2, h3⟩ := hs
      refine ⟨Bx, h1, (hg.block Bx (Array.getElem?_eq_some_iff.1 h2).1 (fun e => ?_)).trans h2, h3⟩
      obtain ⟨_, o, ho, hc⟩ := hr Bx e.symm
      rw [h2] at ho; cases ho; cases hc)
    ?assign ?body ?done ?stop
  case assign =>
    rintro l pre x W K ⟨⟨v, hv, hrow, _⟩, hB1⟩ hK
    unfold vPa
    gi_wp2
    exact hK _ _ ((KeepsOthers.alloc _ _).from _) ((Below.refl _ W).alloc (Nat.le_trans hn0 hB1.size) _) ⟨⟨v, hv.alloc _, hrow.alloc _, trivial⟩, hB1.alloc hB1.size _⟩ ⟨W.heap.size, hv.lt, heap_alloc_new W _, rfl⟩
  case body =>
    rintro l pre x a' W hl hr ⟨⟨v, hv, hrow, _⟩, hB1⟩ ⟨Bx, hBx, bX, rfl⟩ hlt
    have hc := hv.cell
    have q0 : W.cell? ⟨Bx, 0, none⟩ = some (.int .i64 (pr x).id) := by rw [cell_of_row _ _ _ _ _ (0, 0) bX]; rfl
    have q1 : W.cell? ⟨Bx, 1, none⟩ = some (.int .i64 (pr x).known) := by rw [cell_of_row _ _ _ _ _ (0, 0) bX]; rfl
    have q2 : W.cell? ⟨Bx, 2, none⟩ = some (.int .u8 (pr x).kind) := by rw [cell_of_row _ _ _ _ _ (0, 0) bX]; rfl
    have q3 : W.cell? ⟨Bx, 3, none⟩ = some (.int .i64 (pr x).loss) := by rw [cell_of_row _ _ _ _ _ (0, 0) bX]; rfl
    have q4 : W.cell? ⟨Bx, 4, none⟩ = some (.int .i64 (pr x).pack) := by rw [cell_of_row _ _ _ _ _ (0, 0) bX]; rfl
    have q5 : W.cell? ⟨Bx, 5, none⟩ = some (.int .i64 (pr x).inn) := by rw [cell_of_row _ _ _ _ _ (0, 0) bX]; rfl
    have q6 : W.cell? ⟨Bx, 6, none⟩ = some (.string ⟨(pr x).mark.toArray⟩) := by rw [cell_of_row _ _ _ _ _ (0, 0) bX]; rfl
    have q7 : W.cell? ⟨Bx, 7, none⟩ = some (.string ⟨(pr x).goods.toArray⟩) := by rw [cell_of_row _ _ _ _ _ (0, 0) bX]; rfl
    have q8 : W.cell? ⟨Bx, 8, none⟩ = some (.int .i64 (pr x).low) := by rw [cell_of_row _ _ _ _ _ (0, 0) bX]; rfl
    have q9 : W.cell? ⟨Bx, 9, none⟩ = some (.int .i64 (pr x).high) := by rw [cell_of_row _ _ _ _ _ (0, 0) bX]; rfl
    have q10 : W.cell? ⟨Bx, 10, none⟩ = some (.int .i64 (pr x).pieces) := by rw [cell_of_row _ _ _ _ _ (0, 0) bX]; rfl
    have q11 : W.cell? ⟨Bx, 11, none⟩ = some (.int .i64 (pr x).owner) := by rw [cell_of_row _ _ _ _ _ (0, 0) bX]; rfl
    have q12 : W.cell? ⟨Bx, 12, none⟩ = some (.int .i64 (pr x).count) := by rw [cell_of_row _ _ _ _ _ (0, 0) bX]; rfl
    have q13 : W.cell? ⟨Bx, 13, none⟩ = some (.int .i64 (pr x).of) := by rw [cell_of_row _ _ _ _ _ (0, 0) bX]; rfl
    gi_wp2_with (gi_at_builtin; refine wpListIn_append_own _ rfl _ _ 30 rfl w.heap.size 28 i0 _ 14 128 Tryz.underlying30 hi hz0 hz1 hz2 rfl (by decide) _ _ _ rfl (hrow.alloc _) ⟨W.heap.size, 0, none⟩ 1 1 (Pa.vals (pr x)) rfl rfl (World.news_of_block (cs := #[.int .i64 (pr x).id, .int .i64 (pr x).known, .int .u8 (pr x).kind, .int .i64 (pr x).loss, .int .i64 (pr x).pack, .int .i64 (pr x).inn, .string ⟨(pr x).mark.toArray⟩, .string ⟨(pr x).goods.toArray⟩, .int .i64 (pr x).low, .int .i64 (pr x).high, .int .i64 (pr x).pieces, .int .i64 (pr x).owner, .int .i64 (pr x).count, .int .i64 (pr x).of]) (t := 28) (fr := (0, 0)) (heap_alloc_new _ _)) (by simp [Pa.vals, Value.oneCell']) (by unfold maxLen; omega) (by omega) (by have := hB1.size; simp; omega) ?_; intro v' w1 hown' hgrow _; obtain ⟨g', cap', rfl⟩ := ownsRow_succ hown'; obtain ⟨hv1, hv2, hr2, hk2, hb2⟩ := hv.appended (by decide) hrow hB1.size (Nat.le_refl _) hown' hgrow; have hc1 := hv1.cell; have hf1 := hv1.frozen)
    exact ⟨hk2.from _, hb2.mono hn0, ⟨_, hv2, by simpa using hr2, trivial⟩, hB1.trans hb2⟩
  case done =>
    rintro D ys W hD hS ⟨⟨v, hv, hrow, _⟩, hB1⟩ hK
    have hc := hv.cell
    gi_wp2
    refine ⟨by simp, .inl ⟨_, _, rfl, run_takeDeferred hK, ?_⟩⟩
    exact ⟨_, results_tmp rfl _ _ _, v, ys, rfl, hS, ownsRow_putObj hrow _ hK rfl, hB1.trans (belowK_b (w := w) (Nat.le_refl _) W D _ _ (by omega) hK rfl rfl)⟩
  case stop =>
    rintro D c pre W _ _ h _
    exact h.elim

theorem appendSeqPa_any {α : Type} (pr : α → Pa) (gf : Nat) (lb : Array Value) (eg : ∀ args w, (callFunc gf args).run Tryz.prog w = .ok (.enter gf args) w) (S Sp : List α → Prop) (N : Nat) (hN : N ≤ 1000000) (n0 : Nat) (w0 w : World)
    (hn0 : n0 ≤ w.heap.size) (hw0 : Below w0.heap.size w0 w) (hseq : SeqStopsK Fence.wide 4 Tryz.prog gf lb (fun x => #[vPa (pr x)]) (Below n0) S Sp N w0) :
    Calls Tryz.prog 123 #[.slice none 0 0, .func (.func gf) #[] lb] w fun e W' =>
      ∃ v ys, e = .returned v ∧ S ys ∧ W'.ownsRow w.heap.size 28 14 v ys.length ((ys.map pr).flatMap Pa.vals) ∧ Below w.heap.size w W' :=
  callsIn_wide.1 (appendSeqPa_in 5 (by omega) pr gf lb eg S Sp N hN n0 w0 w hn0 hw0 hseq)

set_option maxHeartbeats 1000000 in
theorem collectPa_any {α : Type} (pr : α → Pa) (gf : Nat) (lb : Array Value) (eg : ∀ args w, (callFunc gf args).run Tryz.prog w = .ok (.enter gf args) w) (S Sp : List α → Prop) (N : Nat) (hN : N ≤ 1000000) (n0 : Nat) (w0 w : World)
    (hn0 : n0 ≤ w.heap.size) (hw0 : Below w0.heap.size w0 w) (hseq : SeqStopsK Fence.wide 4 Tryz.prog gf lb (fun x => #[vPa (pr x)]) (Below n0) S Sp N w0) :
    Calls Tryz.prog 83 #[.func (.func gf) #[] lb] w fun e W' =>
      ∃ v ys, e = .returned v ∧ S ys ∧ W'.ownsRow w.heap.size 28 14 v ys.length ((ys.map pr).flatMap Pa.vals) ∧ Below w.heap.size w W' := by
  go_enter Tryz.func83, Tryz.ntmps83
  go_wp2_with fail
  refine (appendSeqPa_any pr gf lb eg S Sp N hN n0 w0 _ hn0 hw0 hseq).mono ?_
  rintro e w1 ⟨v, ys, rfl, hS, hrow, hB⟩
  have HB := Lib.hid hB
  have HR := Lib.hid hrow
  clear hB hrow
  go_wp2_with fail
  go_ret
  exact ⟨v, ys, rfl, hS, HR.out, HB.out⟩


theorem but_is (n : Nat) : But n n = Below n := by
  funext w w'
  exact propext ⟨fun h => ⟨h.os, h.tape, h.output, h.size, fun k hk => h.block k hk (by omega)⟩, fun h => ⟨h.os, h.tape, h.output, h.size, fun k hk _ => h.block k hk⟩⟩
set_option maxRecDepth 100000 in
set_option maxHeartbeats 8000000 in
theorem countings_any (a : Option Addr) (n cap : Nat) (xs : List Pa) (hs : ∀ x ∈ xs, x.Short) (known : Int) (w : World) (h : Rd Pa.vals 14 w a n xs) (hcap : n ≤ cap) (hn : n ≤ 1000) :
    Calls Tryz.prog 39 #[.slice a n cap, .int .i64 known] w (ListPost w (countR xs known)) := by
  have CC := Lib.hid (check_any a n cap xs hs w h hcap)
  have HR := Lib.hid h
  have HG := Lib.hid (fun h0 : (checkC xs).2 = 0 => (check_good h0).1)
  have hcr : countR xs known = if (checkC xs).2 = 0 then countL xs known else [] := rfl
  clear h
  obtain ⟨I, hI⟩ : ∃ I, (checkC xs).1 = I := ⟨_, rfl⟩
  obtain ⟨E, hE⟩ : ∃ I, (checkC xs).2 = I := ⟨_, rfl⟩
  rw [hI, hE] at CC
  rw [hE] at HG hcr
  have HC := Lib.hid hcr
  clear hI hE hcr
  go_enter Tryz.func39, Tryz.ntmps39
  go_wp2_with fail
  refine CC.out.mono ?_
  rintro e w2 ⟨rfl, hB2⟩
  have HB2 := Lib.hid hB2
  clear hB2 CC
  by_cases h0 : E = 0
  case neg =>
    have h1 : (E != 0) = true := by simp [h0]
    have HV := Lib.hid (show countR xs known = [] from by rw [HC.out, if_neg h0])
    clear h0
    go_wp2_with fail
    go_ret
    exact ⟨_, rfl, by rw [HV.out]; exact World.ownsRow_nil _ _ _ _, HB2.out⟩
  case pos =>
    subst h0
    have HV := Lib.hid (show countR xs known = countL xs known from by rw [HC.out, if_pos rfl])
    have HF := Lib.hid (HG.out rfl)
    have HR2 := Lib.hid (HR.out.below' HB2.out)
    have CN := Lib.hid (counting_any a n cap xs (fun x hx => (formed_bd (HF.out x hx)).1) known w2 HR2.out hn)
    unfold CountPost at CN
    clear HC HG
    go_wp2_with fail
    refine CN.out.mono ?_
    rintro e w3 ⟨hB3, B1, B2, B3, bm, rfl, hc, g1, g2, g3, g4⟩
    have HR3 := Lib.hid (HR2.out.below' hB3)
    have HB3 := Lib.hid (HB2.out.trans (hB3.mono HB2.out.size))
    have HC := Lib.hid hc
    clear hB3 hc CN g1 g2 g3 g4
    have hlow : 0 < n → ∀ p, a = some p → p.block < w3.heap.size := fun h0 p e => by
      obtain ⟨b, off, x, e2, hb, _⟩ := HR3.out.pa h0
      rw [e] at e2
      injection e2 with e2
      rw [e2]; exact hb
    have hst := counting_stops w3.heap.size 4 (by omega) B1 B2 B3 bm a n cap xs (fun x hx => (formed_bd (HF.out x hx)).2.1) known w3 HC.out HR3.out hlow (Nat.le_refl _) (Nat.ne_of_lt (World.block_lt_of_cell? _ _ HC.out.c1)) (by exact Nat.ne_of_lt (World.block_lt_of_cell? _ _ HC.out.c2)) (by exact Nat.ne_of_lt (World.block_lt_of_cell? _ _ HC.out.c3)) (by have := HC.out.mp.lt; omega)
    rw [but_is] at hst
    have HSt := Lib.hid hst
    clear hst hlow
    go_wp2_with fail
    refine (collectPa_any (α := PaOf xs) (·.1) 124 _ (enters_of Tryz.func124 (by kernel_rfl) rfl) _ _ n (by omega) w3.heap.size w3 w3 (Nat.le_refl _) (Below.refl _ _) HSt.out).mono ?_
    rintro e w4 ⟨v, ys, rfl, hS, hrow, hB⟩
    have hlen : ys.length = (countL xs known).length := by
      have : (ys.map (·.1)).length = ys.length := List.length_map _
      rw [← this, hS]
    rw [hS, hlen] at hrow
    have HB := Lib.hid (HB3.out.trans (hB.mono HB3.out.size))
    have HRow := Lib.hid (ownsRow_mono hrow HB3.out.size)
    clear hB hrow hS hlen HSt
    go_wp2_with fail
    go_ret
    exact ⟨_, rfl, by rw [HV.out]; exact HRow.out, HB.out⟩
end Go.Proofs.YtpgojnofdgibeaaGreatDoor
