/- The walks of slices.Sort and slices.Sorted of ints. -/
import Derived.Test.YtehedodogkhmgaaGreatKeysInt
import Derived.Test.YtehedodogkhmgaaGreatAccL
import Derived.Shelf.SortM.Plain
import Derived.Shelf.SortM.SortNone
import Derived.Shelf.SlIterI.Sorted
set_option linter.unusedSimpArgs false
set_option linter.unusedVariables false
namespace Go.Proofs.YtehedodogkhmgaaGreat
open Go.RowKit Go.Shelf Go.Sort

def sortI_ren : Go.Shelf.Ren := ⟨fun | 5 => 121 | 8 => 137 | 7 => 136 | 19 => 155 | 20 => 156 | 10 => 146 | 11 => 147 | 12 => 148 | 13 => 149 | 14 => 150 | 15 => 151 | 16 => 152 | 17 => 153 | 18 => 154 | 30 => 159 | 31 => 160 | 32 => 161 | 33 => 162 | 34 => 163 | 35 => 138 | 40 => 172 | n => n, fun | 23 => 39 | 25 => 3 | 3 => 3 | 32 => 156 | 22 => 39 | 0 => 0 | 44 => 170 | 46 => 172 | 4 => 4 | 36 => 163 | 35 => 162 | 41 => 101 | 5 => 5 | 9 => 9 | 53 => 175 | 57 => 179 | 63 => 186 | 64 => 187 | n => n, fun | n => n⟩
theorem sortI : Go.Proofs.SlLaysM.n5 Tryz.prog sortI_ren := {
    mixed := by kernel_rfl,
    f5 := ⟨Tryz.f121.name, by decide, Tryz.func121.trans (congrArg some (by kernel_rfl))⟩,
    f7 := ⟨Tryz.f136.name, by decide, Tryz.func136.trans (congrArg some (by kernel_rfl))⟩,
    f8 := Tryz.func137.trans (congrArg some (by kernel_rfl)),
    f10 := ⟨Tryz.f146.name, by decide, Tryz.func146.trans (congrArg some (by kernel_rfl))⟩,
    f11 := ⟨Tryz.f147.name, by decide, Tryz.func147.trans (congrArg some (by kernel_rfl))⟩,
    f12 := ⟨Tryz.f148.name, by decide, Tryz.func148.trans (congrArg some (by kernel_rfl))⟩,
    f13 := ⟨Tryz.f149.name, by decide, Tryz.func149.trans (congrArg some (by kernel_rfl))⟩,
    f14 := ⟨Tryz.f150.name, by decide, Tryz.func150.trans (congrArg some (by kernel_rfl))⟩,
    f15 := ⟨Tryz.f151.name, by decide, Tryz.func151.trans (congrArg some (by kernel_rfl))⟩,
    f16 := ⟨Tryz.f152.name, by decide, Tryz.func152.trans (congrArg some (by kernel_rfl))⟩,
    f17 := ⟨Tryz.f153.name, by decide, Tryz.func153.trans (congrArg some (by kernel_rfl))⟩,
    f18 := ⟨Tryz.f154.name, by decide, Tryz.func154.trans (congrArg some (by kernel_rfl))⟩,
    f19 := Tryz.func155.trans (congrArg some (by kernel_rfl)),
    f20 := Tryz.func156.trans (congrArg some (by kernel_rfl)),
    f30 := ⟨Tryz.f159.name, by decide, Tryz.func159.trans (congrArg some (by kernel_rfl))⟩,
    f31 := Tryz.func160.trans (congrArg some (by kernel_rfl)),
    f32 := Tryz.func161.trans (congrArg some (by kernel_rfl)),
    f33 := ⟨Tryz.f162.name, by decide, Tryz.func162.trans (congrArg some (by kernel_rfl))⟩,
    f34 := ⟨Tryz.f163.name, by decide, Tryz.func163.trans (congrArg some (by kernel_rfl))⟩,
    f35 := ⟨Tryz.f138.name, by decide, Tryz.func138.trans (congrArg some (by kernel_rfl))⟩,
    f40 := ⟨Tryz.f172.name, by decide, Tryz.func172.trans (congrArg some (by kernel_rfl))⟩,
    t0 := Tryz.underlying0,
    a0 := Tryz.isAgg0,
    z0 := Tryz.sizeOf0,
    v0 := Tryz.zeroValue0,
    t3 := Tryz.underlying3,
    a3 := Tryz.isAgg3,
    z3 := Tryz.sizeOf3,
    v3 := Tryz.zeroValue3,
    t4 := Tryz.underlying4,
    a4 := Tryz.isAgg4,
    z4 := Tryz.sizeOf4,
    v4 := Tryz.zeroValue4,
    t5 := Tryz.underlying5,
    a5 := Tryz.isAgg5,
    z5 := Tryz.sizeOf5,
    v5 := Tryz.zeroValue5,
    t9 := Tryz.underlying9,
    a9 := Tryz.isAgg9,
    z9 := Tryz.sizeOf9,
    v9 := Tryz.zeroValue9,
    t22 := Tryz.underlying39,
    a22 := Tryz.isAgg39,
    z22 := Tryz.sizeOf39,
    v22 := Tryz.zeroValue39,
    t23 := Tryz.underlying39,
    a23 := Tryz.isAgg39,
    z23 := Tryz.sizeOf39,
    v23 := Tryz.zeroValue39,
    t25 := Tryz.underlying3,
    a25 := Tryz.isAgg3,
    z25 := Tryz.sizeOf3,
    v25 := Tryz.zeroValue3,
    t32 := Tryz.underlying156,
    a32 := Tryz.isAgg156,
    z32 := Tryz.sizeOf156,
    v32 := Tryz.zeroValue156,
    t35 := Tryz.underlying162,
    a35 := Tryz.isAgg162,
    z35 := Tryz.sizeOf162,
    v35 := Tryz.zeroValue162,
    t36 := Tryz.underlying163,
    a36 := Tryz.isAgg163,
    z36 := Tryz.sizeOf163,
    v36 := Tryz.zeroValue163,
    t41 := Tryz.underlying101,
    a41 := Tryz.isAgg101,
    z41 := Tryz.sizeOf101,
    v41 := Tryz.zeroValue101,
    t44 := Tryz.underlying170,
    a44 := Tryz.isAgg170,
    z44 := Tryz.sizeOf170,
    v44 := Tryz.zeroValue170,
    t46 := Tryz.underlying172,
    a46 := Tryz.isAgg172,
    z46 := Tryz.sizeOf172,
    v46 := Tryz.zeroValue172,
    t53 := Tryz.underlying175,
    a53 := Tryz.isAgg175,
    z53 := Tryz.sizeOf175,
    v53 := Tryz.zeroValue175,
    t57 := Tryz.underlying179,
    a57 := Tryz.isAgg179,
    z57 := Tryz.sizeOf179,
    v57 := Tryz.zeroValue179,
    t63 := Tryz.underlying186,
    a63 := Tryz.isAgg186,
    z63 := Tryz.sizeOf186,
    v63 := Tryz.zeroValue186,
    t64 := Tryz.underlying187,
    a64 := Tryz.isAgg187,
    z64 := Tryz.sizeOf187,
    v64 := Tryz.zeroValue187 }

theorem flat_ints (ss : List Int) : ss.flatMap ints = ss.map (Value.int .i64) := by
  induction ss with
  | nil => rfl
  | cons x r ih => rw [List.flatMap_cons, ih]; rfl
theorem sortI_any (w : World) (base : Nat) (v : Value) (ss : List Int) (hrow : w.ownsRow base 3 1 v ss.length (ss.flatMap ints)) (hn : ss.length ≤ 1000000) :
    Calls Tryz.prog 121 #[v] w fun e w' => e = .returned (.tuple #[]) ∧
      w'.ownsRow base 3 1 v ss.length ((ss.mergeSort (fun x y => decide (x ≤ y))).flatMap ints) ∧ w.grownBy w' v.ownBlock := by
  rcases hrow.2 with ⟨rfl, hz⟩ | ⟨gb, cap, cur, rfl, hbase, hgb, r1, r2, r3, r4⟩
  · have hss : ss = [] := List.eq_nil_of_length_eq_zero hz
    subst hss
    refine (AnyM.slices_Sort_int_none (P := Tryz.prog) (ρ := sortI_ren) { sortI with } none 0 w).mono ?_
    rintro e w' ⟨rfl, rfl⟩
    exact ⟨rfl, by simpa using hrow, ⟨rfl, rfl, rfl, Nat.le_refl _, fun _ _ _ => rfl⟩⟩
  · rw [flat_ints] at r4
    have hH : Holds encZ w gb 0 ss.toArray := holds_of_block_i hgb (by simpa using r4)
    have hgl : gb < w.heap.size := (Array.getElem?_eq_some_iff.1 hgb).1
    refine (AnyM.slices_Sort_int (P := Tryz.prog) (ρ := sortI_ren) { sortI with } gb 0 cap ss w hH hgl (by omega)).mono ?_
    rintro e w' ⟨rfl, n, os, rfl⟩
    refine ⟨rfl, ?_, grownBy_sorted_i _⟩
    rw [flat_ints]
    exact ownsRow_sorted_i (by simp) hbase hgb r1 r2 r3
set_option maxHeartbeats 1000000 in
theorem sortedI_any (gf : Nat) (lb : Array Value) (eg : ∀ args w, (callFunc gf args).run Tryz.prog w = .ok (.enter gf args) w) (S Sp : List Int → Prop) (N : Nat) (hN : N ≤ 1000000) (hSN : ∀ ys, S ys → ys.length ≤ 1000000) (w0 w : World)
    (hw0 : Below w0.heap.size w0 w) (hseq : SeqStopsK Fence.wide 4 Tryz.prog gf lb (fun x : Int => #[.int .i64 x]) KeepsWalks S Sp N w0) :
    Calls Tryz.prog 86 #[.func (.func gf) #[] lb] w fun e W' =>
      ∃ (v : Value) (ys : List Int), e = .returned v ∧ S ys ∧ W'.ownsRow w.heap.size 3 1 v ys.length ((ys.mergeSort (fun x y => decide (x ≤ y))).flatMap ints) ∧ Below w.heap.size w W' := by
  go_enter Tryz.func86, Tryz.ntmps86
  go_wp2_with fail
  refine (collectInt_any gf lb eg S Sp N hN w0 _ hw0 hseq).mono ?_
  rintro e w1 ⟨v, ys, rfl, hS, hrow, hB⟩
  have hylen := hSN ys hS
  have HB := Lib.hid hB
  have HR := Lib.hid hrow
  clear hB hrow
  go_wp2_with fail
  refine (sortI_any _ _ v ys HR.out hylen).mono ?_
  rintro e w2 ⟨rfl, hrow, hg⟩
  have Hg := Lib.hid hg
  have HR2 := Lib.hid hrow
  clear hrow hg
  go_wp2_with fail
  go_ret
  exact ⟨v, ys, rfl, hS, HR2.out, HB.out.grown Hg.out HB.out.size (fun k e => (HR.out.lt k e).1)⟩
end Go.Proofs.YtehedodogkhmgaaGreat
