/- The walks of maps.Keys, slices.AppendSeq and slices.Collect of accounts. -/
import Derived.Test.YtjleembfocghlaaGreatDoorCauses
set_option linter.unusedSimpArgs false
set_option linter.unusedVariables false
namespace Go.Proofs.YtjleembfocghlaaGreatDoor
open Go.RowKit Go.Shelf
attribute [local go_sem] Oper.semAt_some

theorem abides_below' {β : Type} {B : Nat} {J : β → World → Prop} (hJ : AbidesFrom B J) {s : β} {W : World} {n : Nat} (h : J s W) (_ : W.heap.size = n) (o : Obj) : J s (W.alloc o) :=
  hJ s W _ none h (World.grownBy_alloc W o none) (fun r e => by cases e)

set_option maxRecDepth 100000 in
set_option maxHeartbeats 2000000 in
theorem keys1_in (q : Nat) (hq : 1 ≤ q) (l Bm b : Nat) (m : List ((Int × Int) × Int)) (J Jx : List (Int × Int) → World → Prop)
    (hY : ∀ pre x W, J pre W → pre.length < m.length → YieldAt Fence.wide (q - 1) Tryz.prog l #[kAcc x] W fun e W' =>
      (e = .returned (.bool true) ∧ J (pre ++ [x]) W' ∧ KeepsWalks W W') ∨ (e = .returned (.bool false) ∧ Jx (pre ++ [x]) W'))
    (W : World) (hJ : AbidesFrom W.heap.size J) (hm : W.cell? ⟨Bm, 0, none⟩ = some (.map (some b))) (hown : MapT Tryz.prog 81 kAcc vInt W b m) (h0 : J [] W) :
    CallsIn Fence.wide q Tryz.prog 117 #[.func (.yield l) #[] #[], .pointer (some ⟨Bm, 0, none⟩)] W fun e W' => (∃ v, e = .returned v) ∧
      ((∃ xs : List (Int × Int), xs.Perm (m.map (·.1)) ∧ J xs W') ∨ (∃ pre : List (Int × Int), True ∧ Jx pre W')) := by
  refine callsIn_of_wp Tryz.func117 rfl trivial ?_ rfl
  simp only [Tryz.ntmps117, List.size_toArray, List.length_cons, List.length_nil, Nat.reduceAdd, Nat.reduceSub, Array.replicate_succ, Array.replicate_zero, List.push_toArray, List.append_toArray, List.nil_append, List.cons_append]
  gi_wp2_with (gi_at_range; refine wpListIn_range_T _ rfl _ 74 rfl Tryz.underlying74 rfl hown ?_; intro w0 hrg0 hg0 hs0)
  go_frame
  gi_loopw [3] (fun _ wr => ∃ js : List Nat, RangeT kAcc vInt wr b W.heap.size m js ∧ J ((picks m js).map (·.1)) wr) (fun _ wr => wr.rangeLeft b W.heap.size)
  case atStart => exact ⟨[], hrg0, hJ [] W w0 none h0 hg0 (fun r e => by cases e)⟩
  case round =>
    obtain ⟨js, hrg, hJs⟩ := hrel
    gi_wp2_with (gi_at_next; refine wpListIn_next_T _ rfl _ rfl rfl hrg ?_ ?_)
    · intro hp
      gi_wp2
      go_end0
      exact ⟨⟨_, rfl⟩, .inl ⟨_, hp.map _, hJs⟩⟩
    · intro j x1 x2 y w2 hj hx hl hrg2 hlt hg2 hs2 hen
      have hpl := picks_length hrg.bound.2
      have hJ2 := hJ _ wr w2 (some W.heap.size) hJs hg2 (fun r e => by cases e; exact ⟨Nat.le_refl _, hrg.iter_walk⟩)
      have hJ2a := abides_below' hJ hJ2 hs2 (.cells #[.int .i64 x1, .int .i64 x2] 81)
      obtain ⟨fn, tmps, assign, body, hy, hR⟩ := hY _ (x1, x2) _ hJ2a (by rw [List.length_map, hpl]; exact hl)
      have Hsn := Lib.hid (show (picks m (js ++ [j])).map (·.1) = (picks m js).map (·.1) ++ [(x1, x2)] by rw [picks_snoc hx]; simp)
      have Hlt := Lib.hid hlt
      clear hs2 hpl hlt hl hx
      simp only [kAcc, vInt] at hen
      dsimp only [kAcc] at hy
      gi_wp2
      refine hR.mono ?_
      rintro e W3 (⟨rfl, hJ3, hk3⟩ | ⟨rfl, hJx3⟩)
      · have hrg3 := (hrg2.of_walks (KeepsWalks.alloc _ _)).of_walks hk3
        have he : W3.rangeLeft b W.heap.size = w2.rangeLeft b W.heap.size := (hrg2.left_walks ((KeepsWalks.alloc _ _).trans hk3))
        have He := Lib.hid he
        clear he hk3
        gi_wp2
        go_roundw
        case rel => exact ⟨_, hrg3, by rw [Hsn.out]; exact hJ3⟩
        case measure => rw [He.out]; exact Hlt.out
      · gi_wp2
        refine bodyPost_ret (results_none rfl _ _ _) rfl ?_
        exact ⟨⟨_, rfl⟩, .inr ⟨_, trivial, hJx3⟩⟩

theorem keys_stops (q : Nat) (hq : 1 ≤ q) (Bm b : Nat) (m : List ((Int × Int) × Int)) (w : World) (hm : w.cell? ⟨Bm, 0, none⟩ = some (.map (some b))) (hown : MapT Tryz.prog 81 kAcc vInt w b m) :
    SeqStopsK Fence.wide q Tryz.prog 117 #[.pointer (some ⟨Bm, 0, none⟩)] (fun x : Int × Int => #[kAcc x]) KeepsWalks (fun xs => xs.Perm (m.map (·.1))) (fun _ => True) m.length w :=
  fun l J Jx W hW hJ hJx hY h0 => by
    refine (keys1_in q hq l Bm b m J Jx hY W hJ ((hW.cell (p := ⟨Bm, 0, none⟩) (World.block_lt_of_cell? _ _ hm)).trans hm) (hown.below' hW) h0)

set_option maxHeartbeats 1000000 in
theorem keys_any (b : Option Nat) (w : World) :
    Calls Tryz.prog 98 #[.map b] w fun e w' => e = .returned (.func (.func 117) #[] #[.pointer (some ⟨w.heap.size, 0, none⟩)]) ∧ w' = w.alloc (.cells #[.map b] 74) := by
  go_enter Tryz.func98, Tryz.ntmps98
  go_wp2_with fail
  go_ret
  exact ⟨rfl, rfl⟩

theorem info_acc : (Tryz.prog.info? 81).map (fun i => (i.zero, i.size, i.bytes)) = some (some (.agg #[.int .i64 0, .int .i64 0]), 2, 16) := by kernel_rfl

set_option maxRecDepth 100000 in
set_option maxHeartbeats 4000000 in
theorem appendSeqAcc_in (m : Nat) (hm : 2 ≤ m) {α : Type} (pr : α → Int × Int) (gf : Nat) (lb : Array Value) (eg : ∀ args w, (callFunc gf args).run Tryz.prog w = .ok (.enter gf args) w) (S Sp : List α → Prop) (N : Nat) (hN : N ≤ 1000000) (w0 w : World)
    (hw0 : Below w0.heap.size w0 w) (hseq : SeqStopsK Fence.wide (m - 1) Tryz.prog gf lb (fun x => #[kAcc (pr x)]) KeepsWalks S Sp N w0) :
    CallsIn Fence.wide m Tryz.prog 130 #[.slice none 0 0, .func (.func gf) #[] lb] w fun e W' =>
      ∃ v ys, e = .returned v ∧ S ys ∧ W'.ownsRow w.heap.size 81 2 v ys.length ((ys.map pr).flatMap accs) ∧ Below w.heap.size w W' := by
  have h1 : 1 ≤ m := by omega
  obtain ⟨i0, hi, hz0, hz1, hz2⟩ := info_parts info_acc
  refine callsIn_of_wp_marks Tryz.func130 rfl trivial ?_ rfl
  simp only [Tryz.ntmps130, List.size_toArray, List.length_cons, List.length_nil, Nat.reduceAdd, Nat.reduceSub, Array.replicate_succ, Array.replicate_zero, List.push_toArray, List.append_toArray, List.nil_append, List.cons_append]
  gi_wp2
  have bS := Boxed.new w 124 (.slice none 0 0)
  have hB0 : Below w.heap.size w (w.alloc (.cells #[.slice none 0 0] 124)) := (Below.refl _ w).alloc (Nat.le_refl _) _
  have hsz : (w.alloc (.cells #[.slice none 0 0] 124)).heap.size = w.heap.size + 1 := by simp
  obtain ⟨W0, hW0⟩ : ∃ W0, w.alloc (.cells #[.slice none 0 0] 124) = W0 := ⟨_, rfl⟩
  rw [hW0] at bS hB0 hsz ⊢
  clear hW0
  refine wpIn_rangeFunc_ownH rfl h1 (gf := gf) (lb := lb) rfl trivial eg hseq walksK_t walksK_b (hw0.trans (hB0.mono hw0.size)) (fun _ => rfl)
    (fun pre W => (∃ v, Boxed W w.heap.size 124 v ∧ W.ownsRow w.heap.size 81 2 v pre.length ((pre.map pr).flatMap accs) ∧ True) ∧ Below w.heap.size w W)
    (fun _ _ _ => False)
    (OwnFrom.and (Own.from (holdsRow_own w.heap.size w.heap.size 124 81 2 (fun pre : List α => pre.length) (fun pre => (pre.map pr).flatMap accs) (fun _ _ => True)) _) (ownFrom_below (Nat.le_refl _) (by omega)))
    (fun _ _ _ _ _ hs _ _ => hs)
    ⟨⟨_, bS, World.ownsRow_nil _ _ _ _, trivial⟩, hB0⟩
    (fun x a' W => ∃ Bx, w.heap.size < Bx ∧ W.heap[Bx]? = some (.cells #[.int .i64 (pr x).1, .int .i64 (pr x).2] 81 (0, 0)) ∧
      a' = { tmps := #[.slice none 0 0, .func (.func gf) #[] lb, .pointer (some ⟨w.heap.size, 0, none⟩), undef, .slice none 0 0, .pointer (some ⟨Bx, 0, none⟩), .func (.func gf) #[] lb, kAcc (pr x), undef, undef, undef, undef, undef], defers := [] })
    (fun x a' _ X Y row hs hg hr => by
      obtain ⟨Bx, h1, h2, h3⟩ := hs
      refine ⟨Bx, h1, (hg.block Bx (Array.getElem?_eq_some_iff.1 h2).1 (fun e => ?_)).trans h2, h3⟩
      obtain ⟨_, o, ho, hc⟩ := hr Bx e.symm
      rw [h2] at ho; cases ho; cases hc)
    ?assign ?body ?done ?stop
  case assign =>
    rintro l pre x W K ⟨⟨v, hv, hrow, _⟩, hB1⟩ hK
    unfold kAcc
    gi_wp2
    exact hK _ _ ((KeepsOthers.alloc _ _).from _) (KeepsWalks.alloc _ _) ⟨⟨v, hv.alloc _, hrow.alloc _, trivial⟩, hB1.alloc hB1.size _⟩ ⟨W.heap.size, hv.lt, heap_alloc_new W _, rfl⟩
  case body =>
    rintro l pre x a' W hl hr ⟨⟨v, hv, hrow, _⟩, hB1⟩ ⟨Bx, hBx, bX, rfl⟩ hlt
    have hc := hv.cell
    have q0 : W.cell? ⟨Bx, 0, none⟩ = some (.int .i64 (pr x).1) := by rw [cell_of_row _ _ _ _ _ (0, 0) bX]; rfl
    have q1 : W.cell? ⟨Bx, 1, none⟩ = some (.int .i64 (pr x).2) := by rw [cell_of_row _ _ _ _ _ (0, 0) bX]; rfl
    gi_wp2_with (gi_at_builtin; refine wpListIn_append_own _ rfl _ _ 124 rfl w.heap.size 81 i0 _ 2 16 Tryz.underlying124 hi hz0 hz1 hz2 rfl (by decide) _ _ _ rfl (hrow.alloc _) ⟨W.heap.size, 0, none⟩ 1 1 (accs (pr x)) rfl rfl (World.news_of_block (cs := #[.int .i64 (pr x).1, .int .i64 (pr x).2]) (t := 81) (fr := (0, 0)) (heap_alloc_new _ _)) (by simp [accs, Value.oneCell']) (by unfold maxLen; omega) (by omega) (by have := hB1.size; simp; omega) ?_; intro v' w1 hown' hgrow _; obtain ⟨g', cap', rfl⟩ := ownsRow_succ hown'; obtain ⟨hv1, hv2, hr2, hk2, hb2⟩ := hv.appended (by decide) hrow hB1.size (Nat.le_refl _) hown' hgrow; have hw2 := (KeepsWalks.alloc W _).trans (KeepsWalks.of_grownBy hgrow (ownsRow_not_walk (hrow.alloc _))); have hc1 := hv1.cell; have hf1 := hv1.frozen)
    exact ⟨hk2.from _, hw2.trans (KeepsWalks.setCell _ _ _), ⟨_, hv2, by simpa using hr2, trivial⟩, hB1.trans hb2⟩
  case done =>
    rintro D ys W hD hS ⟨⟨v, hv, hrow, _⟩, hB1⟩ hK
    have hc := hv.cell
    gi_wp2
    refine ⟨by simp, .inl ⟨_, _, rfl, run_takeDeferred hK, ?_⟩⟩
    exact ⟨_, results_tmp rfl _ _ _, v, ys, rfl, hS, ownsRow_putObj hrow _ hK rfl, hB1.trans (belowK_b (w := w) (Nat.le_refl _) W D _ _ (by omega) hK rfl rfl)⟩
  case stop =>
    rintro D c pre W _ _ h _
    exact h.elim

set_option maxHeartbeats 1000000 in
theorem collectAcc_any (gf : Nat) (lb : Array Value) (eg : ∀ args w, (callFunc gf args).run Tryz.prog w = .ok (.enter gf args) w) (S Sp : List (Int × Int) → Prop) (N : Nat) (hN : N ≤ 1000000) (w0 w : World)
    (hw0 : Below w0.heap.size w0 w) (hseq : SeqStopsK Fence.wide 4 Tryz.prog gf lb (fun x : Int × Int => #[kAcc x]) KeepsWalks S Sp N w0) :
    Calls Tryz.prog 115 #[.func (.func gf) #[] lb] w fun e W' =>
      ∃ v ys, e = .returned v ∧ S ys ∧ W'.ownsRow w.heap.size 81 2 v ys.length (ys.flatMap accs) ∧ Below w.heap.size w W' := by
  go_enter Tryz.func115, Tryz.ntmps115
  go_wp2_with fail
  refine (callsIn_wide.1 (appendSeqAcc_in 5 (by omega) (fun x => x) gf lb eg S Sp N hN w0 _ hw0 hseq)).mono ?_
  rintro e w1 ⟨v, ys, rfl, hS, hrow, hB⟩
  have HB := Lib.hid hB
  have HR := Lib.hid hrow
  clear hB hrow
  go_wp2_with fail
  go_ret
  have hr := HR.out
  simp only [List.map_id'] at hr
  exact ⟨v, ys, rfl, hS, hr, HB.out⟩
end Go.Proofs.YtjleembfocghlaaGreatDoor
