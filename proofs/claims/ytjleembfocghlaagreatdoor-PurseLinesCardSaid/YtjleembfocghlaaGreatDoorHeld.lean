/- The walks of maps.Values, slices.Collect of ints, sum. -/
import Derived.Test.YtjleembfocghlaaGreatDoorCollect
import Derived.Test.YtjleembfocghlaaGreatDoorRange
import Derived.RangeFuncOne
set_option linter.unusedSimpArgs false
set_option linter.unusedVariables false
namespace Go.Proofs.YtjleembfocghlaaGreatDoor
open Go.RowKit Go.Shelf
attribute [local go_sem] Oper.semAt_some

set_option maxRecDepth 100000 in
set_option maxHeartbeats 2000000 in
theorem values1_in (q : Nat) (hq : 1 ≤ q) (l Bm b : Nat) (m : List (Int × Int)) (J Jx : List Int → World → Prop)
    (hY : ∀ pre x W, J pre W → pre.length < m.length → YieldAt Fence.wide (q - 1) Tryz.prog l #[.int .i64 x] W fun e W' =>
      (e = .returned (.bool true) ∧ J (pre ++ [x]) W' ∧ KeepsWalks W W') ∨ (e = .returned (.bool false) ∧ Jx (pre ++ [x]) W'))
    (W : World) (hJ : AbidesFrom W.heap.size J) (hm : W.cell? ⟨Bm, 0, none⟩ = some (.map (some b))) (hown : MapT Tryz.prog 3 kInt vInt W b m) (h0 : J [] W) :
    CallsIn Fence.wide q Tryz.prog 63 #[.func (.yield l) #[] #[], .pointer (some ⟨Bm, 0, none⟩)] W fun e W' => (∃ v, e = .returned v) ∧
      ((∃ xs : List Int, xs.Perm (m.map (·.2)) ∧ J xs W') ∨ (∃ pre : List Int, True ∧ Jx pre W')) := by
  refine callsIn_of_wp Tryz.func63 rfl trivial ?_ rfl
  simp only [Tryz.ntmps63, List.size_toArray, List.length_cons, List.length_nil, Nat.reduceAdd, Nat.reduceSub, Array.replicate_succ, Array.replicate_zero, List.push_toArray, List.append_toArray, List.nil_append, List.cons_append]
  gi_wp2_with (gi_at_range; refine wpListIn_range_T _ rfl _ 72 rfl Tryz.underlying72 rfl hown ?_; intro w0 hrg0 hg0 hs0)
  go_frame
  gi_loopw [4] (fun _ wr => ∃ js : List Nat, RangeT kInt vInt wr b W.heap.size m js ∧ J ((picks m js).map (·.2)) wr) (fun _ wr => wr.rangeLeft b W.heap.size)
  case atStart => exact ⟨[], hrg0, hJ [] W w0 none h0 hg0 (fun r e => by cases e)⟩
  case round =>
    obtain ⟨js, hrg, hJs⟩ := hrel
    gi_wp2_with (gi_at_next; refine wpListIn_next_T _ rfl _ rfl rfl hrg ?_ ?_)
    · intro hp
      gi_wp2
      go_end0
      exact ⟨⟨_, rfl⟩, .inl ⟨_, hp.map _, hJs⟩⟩
    · intro j y x w2 hj hx hl hrg2 hlt hg2 hs2 hen
      have hpl := picks_length hrg.bound.2
      have hJ2 := hJ _ wr w2 (some W.heap.size) hJs hg2 (fun r e => by cases e; exact ⟨Nat.le_refl _, hrg.iter_walk⟩)
      obtain ⟨fn, tmps, assign, body, hy, hR⟩ := hY _ x w2 hJ2 (by rw [List.length_map, hpl]; exact hl)
      have Hsn := Lib.hid (show (picks m (js ++ [j])).map (·.2) = (picks m js).map (·.2) ++ [x] by rw [picks_snoc hx]; simp)
      have Hlt := Lib.hid hlt
      clear hs2 hpl hlt hl hx
      simp only [kInt, vInt] at hen
      gi_wp2
      refine hR.mono ?_
      rintro e W3 (⟨rfl, hJ3, hk3⟩ | ⟨rfl, hJx3⟩)
      · have hrg3 := hrg2.of_walks hk3
        have he : W3.rangeLeft b W.heap.size = w2.rangeLeft b W.heap.size := hrg2.left_walks hk3
        have He := Lib.hid he
        clear he hk3
        gi_wp2
        go_roundw
        case rel => exact ⟨_, hrg3, by rw [Hsn.out]; exact hJ3⟩
        case measure => rw [He.out]; exact Hlt.out
      · gi_wp2
        refine bodyPost_ret (results_none rfl _ _ _) rfl ?_
        exact ⟨⟨_, rfl⟩, .inr ⟨_, trivial, hJx3⟩⟩

theorem values_stops (q : Nat) (hq : 1 ≤ q) (Bm b : Nat) (m : List (Int × Int)) (w : World) (hm : w.cell? ⟨Bm, 0, none⟩ = some (.map (some b))) (hown : MapT Tryz.prog 3 kInt vInt w b m) :
    SeqStopsK Fence.wide q Tryz.prog 63 #[.pointer (some ⟨Bm, 0, none⟩)] (fun x : Int => #[.int .i64 x]) KeepsWalks (fun xs => xs.Perm (m.map (·.2))) (fun _ => True) m.length w :=
  fun l J Jx W hW hJ hJx hY h0 => by
    refine (values1_in q hq l Bm b m J Jx hY W hJ ((hW.cell (p := ⟨Bm, 0, none⟩) (World.block_lt_of_cell? _ _ hm)).trans hm) (hown.below' hW) h0)

set_option maxHeartbeats 1000000 in
theorem values_any (b : Option Nat) (w : World) :
    Calls Tryz.prog 31 #[.map b] w fun e w' => e = .returned (.func (.func 63) #[] #[.pointer (some ⟨w.heap.size, 0, none⟩)]) ∧ w' = w.alloc (.cells #[.map b] 72) := by
  go_enter Tryz.func31, Tryz.ntmps31
  go_wp2_with fail
  go_ret
  exact ⟨rfl, rfl⟩

theorem info_int : (Tryz.prog.info? 3).map (fun i => (i.zero, i.size, i.bytes)) = some (some (.int .i64 0), 1, 8) := by kernel_rfl

set_option maxRecDepth 100000 in
set_option maxHeartbeats 4000000 in
theorem appendSeqInt_in (q : Nat) (hq : 2 ≤ q) (gf : Nat) (lb : Array Value) (eg : ∀ args w, (callFunc gf args).run Tryz.prog w = .ok (.enter gf args) w) (S Sp : List Int → Prop) (N : Nat) (hN : N ≤ 1000000) (w0 w : World)
    (hw0 : Below w0.heap.size w0 w) (hseq : SeqStopsK Fence.wide (q - 1) Tryz.prog gf lb (fun x : Int => #[.int .i64 x]) KeepsWalks S Sp N w0) :
    CallsIn Fence.wide q Tryz.prog 62 #[.slice none 0 0, .func (.func gf) #[] lb] w fun e W' =>
      ∃ v ys, e = .returned v ∧ S ys ∧ W'.ownsRow w.heap.size 3 1 v ys.length (ys.flatMap ints) ∧ Below w.heap.size w W' := by
  have h1 : 1 ≤ q := by omega
  obtain ⟨i0, hi, hz0, hz1, hz2⟩ := info_parts info_int
  refine callsIn_of_wp_marks Tryz.func62 rfl trivial ?_ rfl
  simp only [Tryz.ntmps62, List.size_toArray, List.length_cons, List.length_nil, Nat.reduceAdd, Nat.reduceSub, Array.replicate_succ, Array.replicate_zero, List.push_toArray, List.append_toArray, List.nil_append, List.cons_append]
  gi_wp2
  have bS := Boxed.new w 54 (.slice none 0 0)
  have hB0 : Below w.heap.size w (w.alloc (.cells #[.slice none 0 0] 54)) := (Below.refl _ w).alloc (Nat.le_refl _) _
  have hsz : (w.alloc (.cells #[.slice none 0 0] 54)).heap.size = w.heap.size + 1 := by simp
  obtain ⟨W0, hW0⟩ : ∃ W0, w.alloc (.cells #[.slice none 0 0] 54) = W0 := ⟨_, rfl⟩
  rw [hW0] at bS hB0 hsz ⊢
  clear hW0
  refine wpIn_rangeFunc_ownG rfl h1 (gf := gf) (lb := lb) rfl trivial eg hseq walksK_t walksK_b (hw0.trans (hB0.mono hw0.size)) (fun _ => rfl)
    (fun pre W => (∃ v, Boxed W w.heap.size 54 v ∧ W.ownsRow w.heap.size 3 1 v pre.length (pre.flatMap ints) ∧ True) ∧ Below w.heap.size w W)
    (fun _ _ _ => False)
    (OwnFrom.and (Own.from (holdsRow_own w.heap.size w.heap.size 54 3 1 (fun pre : List Int => pre.length) (fun pre => pre.flatMap ints) (fun _ _ => True)) _) (ownFrom_below (Nat.le_refl _) (by omega)))
    (fun _ _ _ _ _ hs _ _ => hs)
    ⟨⟨_, bS, World.ownsRow_nil _ _ _ _, trivial⟩, hB0⟩
    (fun x => { tmps := #[.slice none 0 0, .func (.func gf) #[] lb, .pointer (some ⟨w.heap.size, 0, none⟩), undef, .slice none 0 0, .int .i64 x, .func (.func gf) #[] lb, .int .i64 x, undef, undef, undef, undef, undef], defers := [] })
    ?assign ?body ?done ?stop
  case assign =>
    intro l x W K hK
    gi_wp2
    exact hK
  case body =>
    rintro l pre x W ⟨⟨v, hv, hrow, _⟩, hB1⟩ hlt
    have hc := hv.cell
    gi_wp2_with (gi_at_builtin; refine wpListIn_append_own _ rfl _ _ 54 rfl w.heap.size 3 i0 _ 1 8 Tryz.underlying54 hi hz0 hz1 hz2 rfl (by decide) _ _ _ rfl (hrow.alloc _) ⟨W.heap.size, 0, none⟩ 1 1 (ints x) rfl rfl (cell_one_new _ _ _) (by simp [ints, Value.oneCell']) (by unfold maxLen; omega) (by omega) (by have := hB1.size; simp; omega) ?_; intro v' w1 hown' hgrow _; obtain ⟨g', cap', rfl⟩ := ownsRow_succ hown'; obtain ⟨hv1, hv2, hr2, hk2, hb2⟩ := hv.appended (by decide) hrow hB1.size (Nat.le_refl _) hown' hgrow; have hw2 := (KeepsWalks.alloc W _).trans (KeepsWalks.of_grownBy hgrow (ownsRow_not_walk (hrow.alloc _))); have hc1 := hv1.cell; have hf1 := hv1.frozen)
    exact ⟨hk2.from _, hw2.trans (KeepsWalks.setCell _ _ _), ⟨_, hv2, by simpa using hr2, trivial⟩, hB1.trans hb2⟩
  case done =>
    rintro D ys W hD hS ⟨⟨v, hv, hrow, _⟩, hB1⟩ hK
    have hc := hv.cell
    gi_wp2
    refine ⟨by simp, .inl ⟨_, _, rfl, run_takeDeferred hK, ?_⟩⟩
    exact ⟨_, results_tmp rfl _ _ _, v, ys, rfl, hS, ownsRow_putObj hrow _ hK rfl, hB1.trans (belowK_b (w := w) (Nat.le_refl _) W D _ _ (by omega) hK rfl rfl)⟩
  case stop =>
    rintro D c pre W _ _ h _
    exact h.elim

set_option maxHeartbeats 1000000 in
theorem collectInt_any (gf : Nat) (lb : Array Value) (eg : ∀ args w, (callFunc gf args).run Tryz.prog w = .ok (.enter gf args) w) (S Sp : List Int → Prop) (N : Nat) (hN : N ≤ 1000000) (w0 w : World)
    (hw0 : Below w0.heap.size w0 w) (hseq : SeqStopsK Fence.wide 4 Tryz.prog gf lb (fun x : Int => #[.int .i64 x]) KeepsWalks S Sp N w0) :
    Calls Tryz.prog 30 #[.func (.func gf) #[] lb] w fun e W' =>
      ∃ v ys, e = .returned v ∧ S ys ∧ W'.ownsRow w.heap.size 3 1 v ys.length (ys.flatMap ints) ∧ Below w.heap.size w W' := by
  go_enter Tryz.func30, Tryz.ntmps30
  go_wp2_with fail
  refine (callsIn_wide.1 (appendSeqInt_in 5 (by omega) gf lb eg S Sp N hN w0 _ hw0 hseq)).mono ?_
  rintro e w1 ⟨v, ys, rfl, hS, hrow, hB⟩
  have HB := Lib.hid hB
  have HR := Lib.hid hrow
  clear hB hrow
  go_wp2_with fail
  go_ret
  exact ⟨v, ys, rfl, hS, HR.out, HB.out⟩

theorem Rd.int {w : World} {a : Option Addr} {n : Nat} {xs : List Int} (h : Rd ints 1 w a n xs) {i : Nat} (hi : i < n) : ∃ b off x, a = some ⟨b, off, none⟩ ∧ b < w.heap.size ∧ xs[i]? = some x ∧ w.cell? ⟨b, off + i, none⟩ = some (.int .i64 x) := by
  obtain ⟨b, off, x, h1, h2, h3, h4⟩ := h.read i hi
  exact ⟨b, off, x, h1, h2, h3, by have := h4 0 (by omega); simpa [ints] using this⟩
theorem sum_bound {xs : List Int} {c : Int} (hc : 0 ≤ c) (h : ∀ x ∈ xs, -c ≤ x ∧ x ≤ c) : -(c * xs.length) ≤ xs.sum ∧ xs.sum ≤ c * xs.length := by
  induction xs with
  | nil => simp
  | cons x r ih =>
    have h1 := h x (by simp)
    have h2 := ih fun y hy => h y (by simp [hy])
    simp only [List.sum_cons, List.length_cons]
    rw [show c * ((r.length + 1 : Nat) : Int) = c * (r.length : Int) + c by push_cast; rw [Int.mul_add, Int.mul_one]]
    omega

set_option maxHeartbeats 1000000 in
theorem sum_any (a : Option Addr) (n cap : Nat) (xs : List Int) (w : World) (h : Rd ints 1 w a n xs) (hn : n ≤ 100000) (hx : ∀ x ∈ xs, -1000000000000 ≤ x ∧ x ≤ 1000000000000) :
    Calls Tryz.prog 29 #[.slice a n cap] w fun e w' => e = .returned (.int .i64 xs.sum) ∧ w' = w := by
  have Hl := Lib.hid h.len
  go_enter Tryz.func29, Tryz.ntmps29
  go_wp2
  go_loop [3, 8] (fun s i => ∃ k : Nat, k ≤ n ∧ i = .int .i64 k ∧ s = .int .i64 (xs.take k).sum) (fun _ i => n - (intOf i).toNat)
  case atStart => exact ⟨0, Nat.zero_le _, rfl, rfl⟩
  case round =>
    obtain ⟨k, hk, rfl, rfl⟩ := hrel
    by_cases hlt : k < n
    · obtain ⟨b, off, x, rfl, hb, hxx, x0⟩ := h.int hlt
      have hsn : (xs.take (k + 1)).sum = (xs.take k).sum + x := by rw [take_succ_snoc hxx]; simp
      have Hsn := Lib.hid hsn
      have hx1 := hx x (List.mem_of_getElem? hxx)
      have hbd := sum_bound (c := 1000000000000) (by omega) (xs := xs.take k) (fun y hy => hx y (List.mem_of_mem_take hy))
      have hlk : (xs.take k).length ≤ 100000 := by rw [List.length_take]; omega
      have hbd1 : -100000000000000000 ≤ (xs.take k).sum ∧ (xs.take k).sum ≤ 100000000000000000 := by
        generalize ((xs.take k).length : Nat) = L at *
        omega
      generalize (xs.take k).sum = S0 at *
      clear hsn hxx hbd hlk hx h
      go_wp2
      refine ⟨⟨k + 1, by omega, by go_num, by rw [Hsn.out]⟩, by simp [intOf]; omega⟩
    · go_wp2
      go_ret
      exact ⟨ret_int (by rw [List.take_of_length_le (by rw [Hl.out]; omega)]), rfl⟩
end Go.Proofs.YtjleembfocghlaaGreatDoor
