/- The walk of maps.Keys at map[int]int. -/
import Derived.Test.YtehedodogkhmgaaGreatHeld
set_option linter.unusedSimpArgs false
set_option linter.unusedVariables false
namespace Go.Proofs.YtehedodogkhmgaaGreat
open Go.RowKit Go.Shelf
attribute [local go_sem] Oper.semAt_some

set_option maxRecDepth 100000 in
set_option maxHeartbeats 2000000 in
theorem keysI1_in (q : Nat) (hq : 1 ≤ q) (l Bm b : Nat) (m : List (Int × Int)) (J Jx : List Int → World → Prop)
    (hY : ∀ pre x W, J pre W → pre.length < m.length → YieldAt Fence.wide (q - 1) Tryz.prog l #[.int .i64 x] W fun e W' =>
      (e = .returned (.bool true) ∧ J (pre ++ [x]) W' ∧ KeepsWalks W W') ∨ (e = .returned (.bool false) ∧ Jx (pre ++ [x]) W'))
    (W : World) (hJ : AbidesFrom W.heap.size J) (hm : W.cell? ⟨Bm, 0, none⟩ = some (.map (some b))) (hown : MapT Tryz.prog 3 kInt vInt W b m) (h0 : J [] W) :
    CallsIn Fence.wide q Tryz.prog 122 #[.func (.yield l) #[] #[], .pointer (some ⟨Bm, 0, none⟩)] W fun e W' => (∃ v, e = .returned v) ∧
      ((∃ xs : List Int, xs.Perm (m.map (·.1)) ∧ J xs W') ∨ (∃ pre : List Int, True ∧ Jx pre W')) := by
  refine callsIn_of_wp Tryz.func122 rfl trivial ?_ rfl
  simp only [Tryz.ntmps122, List.size_toArray, List.length_cons, List.length_nil, Nat.reduceAdd, Nat.reduceSub, Array.replicate_succ, Array.replicate_zero, List.push_toArray, List.append_toArray, List.nil_append, List.cons_append]
  gi_wp2_with (gi_at_range; refine wpListIn_range_T _ rfl _ 77 rfl Tryz.underlying77 rfl hown ?_; intro w0 hrg0 hg0 hs0)
  go_frame
  gi_loopw [3] (fun _ wr => ∃ js : List Nat, RangeT kInt vInt wr b W.heap.size m js ∧ J ((picks m js).map (·.1)) wr) (fun _ wr => wr.rangeLeft b W.heap.size)
  case atStart => exact ⟨[], hrg0, hJ [] W w0 none h0 hg0 (fun r e => by cases e)⟩
  case round =>
    obtain ⟨js, hrg, hJs⟩ := hrel
    gi_wp2_with (gi_at_next; refine wpListIn_next_T _ rfl _ rfl rfl hrg ?_ ?_)
    · intro hp
      gi_wp2
      go_end0
      exact ⟨⟨_, rfl⟩, .inl ⟨_, hp.map _, hJs⟩⟩
    · intro j x y w2 hj hx hl hrg2 hlt hg2 hs2 hen
      have hpl := picks_length hrg.bound.2
      have hJ2 := hJ _ wr w2 (some W.heap.size) hJs hg2 (fun r e => by cases e; exact ⟨Nat.le_refl _, hrg.iter_walk⟩)
      obtain ⟨fn, tmps, assign, body, hy, hR⟩ := hY _ x w2 hJ2 (by rw [List.length_map, hpl]; exact hl)
      have Hsn := Lib.hid (show (picks m (js ++ [j])).map (·.1) = (picks m js).map (·.1) ++ [x] by rw [picks_snoc hx]; simp)
      have Hlt := Lib.hid hlt
      clear hs2 hpl hlt hl hx
      simp only [kInt, vInt] at hen
      gi_wp2
      refine hR.mono ?_
      rintro e W3 (⟨rfl, hJ3, hk3⟩ | ⟨rfl, hJx3⟩)
      · have hrg3 := hrg2.of_walks hk3
        have he : W3.rangeLeft b W.heap.size = w2.rangeLeft b W.heap.size := hrg2.left_walks hk3
        have He := Lib.hid he
        clear he hk3
        gi_wp2
        go_roundw
        case rel => exact ⟨_, hrg3, by rw [Hsn.out]; exact hJ3⟩
        case measure => rw [He.out]; exact Hlt.out
      · gi_wp2
        refine bodyPost_ret (results_none rfl _ _ _) rfl ?_
        exact ⟨⟨_, rfl⟩, .inr ⟨_, trivial, hJx3⟩⟩

theorem keysI_stops (q : Nat) (hq : 1 ≤ q) (Bm b : Nat) (m : List (Int × Int)) (w : World) (hm : w.cell? ⟨Bm, 0, none⟩ = some (.map (some b))) (hown : MapT Tryz.prog 3 kInt vInt w b m) :
    SeqStopsK Fence.wide q Tryz.prog 122 #[.pointer (some ⟨Bm, 0, none⟩)] (fun x : Int => #[.int .i64 x]) KeepsWalks (fun xs => xs.Perm (m.map (·.1))) (fun _ => True) m.length w :=
  fun l J Jx W hW hJ hJx hY h0 => by
    refine (keysI1_in q hq l Bm b m J Jx hY W hJ ((hW.cell (p := ⟨Bm, 0, none⟩) (World.block_lt_of_cell? _ _ hm)).trans hm) (hown.below' hW) h0)

set_option maxHeartbeats 1000000 in
theorem keysI_any (b : Option Nat) (w : World) :
    Calls Tryz.prog 87 #[.map b] w fun e w' => e = .returned (.func (.func 122) #[] #[.pointer (some ⟨w.heap.size, 0, none⟩)]) ∧ w' = w.alloc (.cells #[.map b] 77) := by
  go_enter Tryz.func87, Tryz.ntmps87
  go_wp2_with fail
  go_ret
  exact ⟨rfl, rfl⟩
end Go.Proofs.YtehedodogkhmgaaGreat
