/- The walks of slices.SortFunc and slices.SortedFunc of accounts. -/
import Derived.Test.YtjleembfocghlaaGreatDoorKeysIt
import Derived.Test.YtjleembfocghlaaGreatDoorAccL
import Derived.Shelf.SlSortCmp.WholeK
import Derived.Shelf.SlSortCmp.NoneTotal
set_option linter.unusedSimpArgs false
set_option linter.unusedVariables false
namespace Go.Proofs.YtjleembfocghlaaGreatDoor
open Go.RowKit Go.Shelf Go.Sort

def sortA_ren : Go.Shelf.Ren := ⟨fun | 6 => 116 | 15 => 132 | 14 => 131 | 28 => 145 | 29 => 119 | 20 => 137 | 21 => 138 | 22 => 139 | 23 => 140 | 24 => 141 | 25 => 142 | 26 => 143 | 27 => 144 | 46 => 146 | 47 => 147 | 48 => 148 | 49 => 149 | 50 => 150 | 57 => 151 | n => n, fun | 22 => 124 | 24 => 81 | 25 => 118 | 3 => 3 | 39 => 159 | 0 => 0 | 53 => 170 | 55 => 145 | 4 => 4 | 46 => 189 | 45 => 188 | 50 => 164 | 5 => 5 | 9 => 9 | 66 => 196 | 70 => 200 | 76 => 202 | 77 => 203 | n => n, fun | n => n⟩
theorem sortA : Go.Proofs.SlLaysF0.n6 Tryz.prog sortA_ren := {
    mixed := by kernel_rfl,
    f6 := ⟨Tryz.f116.name, by decide, Tryz.func116.trans (congrArg some (by kernel_rfl))⟩,
    f14 := ⟨Tryz.f131.name, by decide, Tryz.func131.trans (congrArg some (by kernel_rfl))⟩,
    f15 := Tryz.func132.trans (congrArg some (by kernel_rfl)),
    f20 := ⟨Tryz.f137.name, by decide, Tryz.func137.trans (congrArg some (by kernel_rfl))⟩,
    f21 := ⟨Tryz.f138.name, by decide, Tryz.func138.trans (congrArg some (by kernel_rfl))⟩,
    f22 := ⟨Tryz.f139.name, by decide, Tryz.func139.trans (congrArg some (by kernel_rfl))⟩,
    f23 := ⟨Tryz.f140.name, by decide, Tryz.func140.trans (congrArg some (by kernel_rfl))⟩,
    f24 := ⟨Tryz.f141.name, by decide, Tryz.func141.trans (congrArg some (by kernel_rfl))⟩,
    f25 := ⟨Tryz.f142.name, by decide, Tryz.func142.trans (congrArg some (by kernel_rfl))⟩,
    f26 := ⟨Tryz.f143.name, by decide, Tryz.func143.trans (congrArg some (by kernel_rfl))⟩,
    f27 := ⟨Tryz.f144.name, by decide, Tryz.func144.trans (congrArg some (by kernel_rfl))⟩,
    f28 := Tryz.func145.trans (congrArg some (by kernel_rfl)),
    f29 := Tryz.func119.trans (congrArg some (by kernel_rfl)),
    f46 := ⟨Tryz.f146.name, by decide, Tryz.func146.trans (congrArg some (by kernel_rfl))⟩,
    f47 := Tryz.func147.trans (congrArg some (by kernel_rfl)),
    f48 := Tryz.func148.trans (congrArg some (by kernel_rfl)),
    f49 := ⟨Tryz.f149.name, by decide, Tryz.func149.trans (congrArg some (by kernel_rfl))⟩,
    f50 := ⟨Tryz.f150.name, by decide, Tryz.func150.trans (congrArg some (by kernel_rfl))⟩,
    f57 := ⟨Tryz.f151.name, by decide, Tryz.func151.trans (congrArg some (by kernel_rfl))⟩,
    t0 := Tryz.underlying0,
    a0 := Tryz.isAgg0,
    z0 := Tryz.sizeOf0,
    v0 := Tryz.zeroValue0,
    t3 := Tryz.underlying3,
    a3 := Tryz.isAgg3,
    z3 := Tryz.sizeOf3,
    v3 := Tryz.zeroValue3,
    t4 := Tryz.underlying4,
    a4 := Tryz.isAgg4,
    z4 := Tryz.sizeOf4,
    v4 := Tryz.zeroValue4,
    t5 := Tryz.underlying5,
    a5 := Tryz.isAgg5,
    z5 := Tryz.sizeOf5,
    v5 := Tryz.zeroValue5,
    t9 := Tryz.underlying9,
    a9 := Tryz.isAgg9,
    z9 := Tryz.sizeOf9,
    v9 := Tryz.zeroValue9,
    t22 := Tryz.underlying124,
    a22 := Tryz.isAgg124,
    z22 := Tryz.sizeOf124,
    v22 := Tryz.zeroValue124,
    t25 := Tryz.underlying118,
    a25 := Tryz.isAgg118,
    z25 := Tryz.sizeOf118,
    v25 := Tryz.zeroValue118,
    t39 := Tryz.underlying159,
    a39 := Tryz.isAgg159,
    z39 := Tryz.sizeOf159,
    v39 := Tryz.zeroValue159,
    t45 := Tryz.underlying188,
    a45 := Tryz.isAgg188,
    z45 := Tryz.sizeOf188,
    v45 := Tryz.zeroValue188,
    t46 := Tryz.underlying189,
    a46 := Tryz.isAgg189,
    z46 := Tryz.sizeOf189,
    v46 := Tryz.zeroValue189,
    t50 := Tryz.underlying164,
    a50 := Tryz.isAgg164,
    z50 := Tryz.sizeOf164,
    v50 := Tryz.zeroValue164,
    t53 := Tryz.underlying170,
    a53 := Tryz.isAgg170,
    z53 := Tryz.sizeOf170,
    v53 := Tryz.zeroValue170,
    t55 := Tryz.underlying145,
    a55 := Tryz.isAgg145,
    z55 := Tryz.sizeOf145,
    v55 := Tryz.zeroValue145,
    t66 := Tryz.underlying196,
    a66 := Tryz.isAgg196,
    z66 := Tryz.sizeOf196,
    v66 := Tryz.zeroValue196,
    t70 := Tryz.underlying200,
    a70 := Tryz.isAgg200,
    z70 := Tryz.sizeOf200,
    v70 := Tryz.zeroValue200,
    t76 := Tryz.underlying202,
    a76 := Tryz.isAgg202,
    z76 := Tryz.sizeOf202,
    v76 := Tryz.zeroValue202,
    t77 := Tryz.underlying203,
    a77 := Tryz.isAgg203,
    z77 := Tryz.sizeOf203,
    v77 := Tryz.zeroValue203 }

theorem flatK_accs (d : Array (Int × Int)) : flatK accs 2 d = (d.toList.flatMap accs).toArray := by
  apply Array.ext'
  apply List.ext_getElem?
  intro t
  by_cases ht : t < d.size * 2
  · have hi : t / 2 < d.size := by omega
    have h1 := flat_at accs_length d.toList (t / 2) d[t / 2] (t % 2) (by simp [hi]) (by omega)
    rw [show t / 2 * 2 + t % 2 = t by omega] at h1
    have h2 := get_flatK accs 2 d t ht
    have hs : t < (flatK accs 2 d).size := by simp [ht]
    rw [getElem!_pos (flatK accs 2 d) t hs, getElem!_pos d (t / 2) hi] at h2
    have h3 : t % 2 < (accs d[t / 2]).length := by rw [accs_length]; omega
    rw [getElem!_pos (accs d[t / 2]) (t % 2) h3] at h2
    rw [List.getElem?_eq_getElem h3] at h1
    rw [Array.getElem?_toList, Array.getElem?_eq_getElem hs, h2, List.toList_toArray, h1]
  · rw [List.getElem?_eq_none (by simp; omega), List.getElem?_eq_none (by simp [flat_length accs_length]; omega)]
theorem holdsK_of_block {w : World} {g : Nat} {cur : Array Value} {e : TypeId} {ss : List (Int × Int)} (hb : w.heap[g]? = some (.cells cur e (0, 0))) (ht : cur.toList.take (ss.length * 2) = ss.flatMap accs) : HoldsK accs 2 w g 0 ss.toArray := by
  intro j hj
  rw [size_flatK] at hj
  have hj' : j < ss.length * 2 := by simpa using hj
  refine ⟨?_, by simp [World.frozen?, hb]⟩
  have h1 : (cur.toList.take (ss.length * 2))[j]? = (ss.flatMap accs)[j]? := by rw [ht]
  rw [List.getElem?_take_of_lt hj'] at h1
  simp only [World.cell?, hb, Nat.zero_add]
  simp only [Option.isSome_none, Bool.false_eq_true, if_false]
  rw [← Array.getElem?_toList, h1, flatK_accs]
  have hl : j < (ss.flatMap accs).length := by rw [flat_length accs_length]; exact hj'
  simp only [id]
  rw [List.getElem?_eq_getElem hl, getElem!_pos _ _ (by simpa using hl)]
  simp
theorem heap_sortedK {w : World} {g n : Nat} {os : Array Obj} {cur : Array Value} {e : TypeId} {fr : Nat × Nat} (d : Array (Int × Int)) (hb : w.heap[g]? = some (.cells cur e fr)) :
    (sortWorldK accs 2 w g 0 n d os).heap[g]? = some (.cells (putCells id 0 (flatK accs 2 d) cur) e fr) := by
  have hg : g < w.heap.size := (Array.getElem?_eq_some_iff.1 hb).1
  unfold sortWorldK putRowK
  rw [heap_grow_old _ _ (by simpa using hg)]
  simp [putRow, mapBlock, Sort.ahead, Array.getElem?_modify, hb, onCells]
theorem grownBy_sortedK {w : World} {g n : Nat} {os : Array Obj} (d : Array (Int × Int)) : w.grownBy (sortWorldK accs 2 w g 0 n d os) (some g) := by
  unfold sortWorldK putRowK
  refine ⟨rfl, rfl, rfl, by simp, fun k hk hne => ?_⟩
  rw [heap_grow_old _ _ (by simpa using hk)]
  have : g ≠ k := fun e => hne (by rw [e])
  simp [putRow, mapBlock, Sort.ahead, Array.getElem?_modify, this]
theorem take_putCellsV (cur : Array Value) (vs : List Value) (h : vs.length ≤ cur.size) : (putCells id 0 vs.toArray cur).toList.take vs.length = vs := by
  apply List.ext_getElem?
  intro j
  by_cases hj : j < vs.length
  · rw [List.getElem?_take_of_lt hj, Array.getElem?_toList]
    simp [putCells, hj, show j < cur.size by omega]
  · rw [List.getElem?_take_eq_none (by omega), List.getElem?_eq_none (by omega)]
theorem ownsRow_sortedK {w : World} {base g cap n m : Nat} {e : TypeId} {os : Array Obj} {cur : Array Value} {ts : List (Int × Int)} (hl : ts.length = m) (hbase : base ≤ g) (hb : w.heap[g]? = some (.cells cur e (0, 0)))
    (h1 : m ≤ cap) (h2 : cap ≤ maxLen) (h3 : cur.size = cap * 2) :
    (sortWorldK accs 2 w g 0 n ts.toArray os).ownsRow base e 2 (.slice (some ⟨g, 0, none⟩) m cap) m (ts.flatMap accs) := by
  have hf := flat_length accs_length ts
  refine ⟨by rw [hf, hl], .inr ⟨g, cap, _, rfl, hbase, heap_sortedK _ hb, h1, h2, by simp [putCells, h3], ?_⟩⟩
  rw [flatK_accs, ← hl, ← hf]
  exact take_putCellsV cur _ (by rw [hf, h3]; omega)

theorem cmpI_lt (a b : Int) : cmpI a b < 0 ↔ a < b := by unfold cmpI; split <;> (try split) <;> omega
theorem cmpI_eq (a b : Int) : cmpI a b = 0 ↔ a = b := by unfold cmpI; split <;> (try split) <;> omega
theorem cmpAcc_lt (a b : Int × Int) : cmpAcc a b < 0 ↔ accLt a b := by
  unfold cmpAcc orI accLt
  by_cases h : cmpI a.1 b.1 = 0
  · rw [if_pos h, cmpI_lt]
    have := (cmpI_eq _ _).1 h
    omega
  · rw [if_neg h, cmpI_lt]
    have : a.1 ≠ b.1 := fun e => h ((cmpI_eq _ _).2 e)
    omega
theorem ltAcc (x y : Int × Int) : ltOf cmpAcc x y = decide (accLt x y) := by
  unfold ltOf
  by_cases h : accLt x y
  · simp [(cmpAcc_lt x y).2 h, h]
  · simp [h, fun e => h ((cmpAcc_lt x y).1 e)]
    have : ¬ cmpAcc x y < 0 := fun e => h ((cmpAcc_lt x y).1 e)
    omega
theorem swoAcc : SWO (ltOf cmpAcc) where
  irrefl x := by rw [ltAcc]; simp [accLt]
  trans x y z h1 h2 := by rw [ltAcc, decide_eq_true_eq] at *; unfold accLt at *; omega
  ntrans x y z h1 h2 := by rw [ltAcc, decide_eq_false_iff_not] at *; unfold accLt at *; omega
theorem cmpLaysAcc (blk off size : Nat) (w : World) : CmpLays Tryz.prog 73 #[] accs 2 cmpAcc blk off size w :=
  fun _ _ _ _ x y => compare_grow x y _

set_option maxHeartbeats 1000000 in
theorem sortAcc_any (w : World) (base : Nat) (v : Value) (ss : List (Int × Int)) (hrow : w.ownsRow base 81 2 v ss.length (ss.flatMap accs)) (hn : ss.length ≤ 1000000) :
    Calls Tryz.prog 116 #[v, .func (.func 73) #[] #[]] w fun e w' => e = .returned (.tuple #[]) ∧ ∃ ts : List (Int × Int), ts.Perm ss ∧ ts.Pairwise (fun x y => ¬ accLt y x) ∧
      w'.ownsRow base 81 2 v ts.length (ts.flatMap accs) ∧ w.grownBy w' v.ownBlock := by
  rcases hrow.2 with ⟨rfl, hz⟩ | ⟨gb, cap, cur, rfl, hbase, hgb, r1, r2, r3, r4⟩
  · have hss : ss = [] := List.eq_nil_of_length_eq_zero hz
    subst hss
    refine (AnyF.slices_SortFunc_none (P := Tryz.prog) (ρ := sortA_ren) { sortA with } none 0 (.func (.func 73) #[] #[]) w).mono ?_
    rintro e w' ⟨rfl, rfl⟩
    exact ⟨rfl, [], List.Perm.refl _, List.Pairwise.nil, hrow, ⟨rfl, rfl, rfl, Nat.le_refl _, fun _ _ _ => rfl⟩⟩
  · have hH : HoldsK accs 2 w gb 0 ss.toArray := holdsK_of_block hgb r4
    have hgl : gb < w.heap.size := (Array.getElem?_eq_some_iff.1 hgb).1
    have eg : ∀ args w, (callFunc 73 args).run Tryz.prog w = .ok (.enter 73 args) w := enters_of Tryz.func73 (by kernel_rfl) rfl
    have hcon := AnyQ.slices_SortFunc sortA 2 Tryz.isAgg81 Tryz.sizeOf81 accs accs_length (fun x v hv => by simp [accs] at hv; rcases hv with rfl | rfl <;> rfl) cmpAcc swoAcc 73 #[] gb 0 cap ss.toArray w eg (cmpLaysAcc gb 0 _ w) hH hgl (by simp; omega)
    refine Calls.mono hcon ?_
    rintro e w' ⟨rfl, d', n, os, hp, hs, rfl⟩
    have hsz : d'.size = ss.length := by rw [hp.1]; simp
    have hl : d'.toList.length = ss.length := by simpa using hsz
    refine ⟨rfl, d'.toList, ?_, ?_, ?_, ?_⟩
    · have h2 := hp.2.2
      rw [show (ss.toArray.extract 0 ss.toArray.size) = ss.toArray from Array.extract_size, show d'.extract 0 ss.toArray.size = d' from by rw [← hp.1]; exact Array.extract_size] at h2
      exact h2
    · rw [List.pairwise_iff_getElem]
      intro i j hi hj hij
      have hi' : i < d'.size := by simpa using hi
      have hj' : j < d'.size := by simpa using hj
      have := hs i j (Nat.zero_le _) hij (by rw [← hp.1]; exact hj')
      rw [ltAcc, getElem!_pos d' j hj', getElem!_pos d' i hi'] at this
      simpa using this
    · have := ownsRow_sortedK (w := w) (n := n) (os := os) (ts := d'.toList) hl hbase hgb r1 r2 r3
      rw [hl]
      simpa using this
    · exact grownBy_sortedK _

set_option maxHeartbeats 1000000 in
theorem sortedAcc_any (gf : Nat) (lb : Array Value) (eg : ∀ args w, (callFunc gf args).run Tryz.prog w = .ok (.enter gf args) w) (S Sp : List (Int × Int) → Prop) (N : Nat) (hN : N ≤ 1000000) (hSN : ∀ ys, S ys → ys.length ≤ 1000000) (w0 w : World)
    (hw0 : Below w0.heap.size w0 w) (hseq : SeqStopsK Fence.wide 4 Tryz.prog gf lb (fun x : Int × Int => #[kAcc x]) KeepsWalks S Sp N w0) :
    Calls Tryz.prog 97 #[.func (.func gf) #[] lb, .func (.func 73) #[] #[]] w fun e W' =>
      ∃ (v : Value) (ys ts : List (Int × Int)), e = .returned v ∧ S ys ∧ ts.Perm ys ∧ ts.Pairwise (fun x y => ¬ accLt y x) ∧ W'.ownsRow w.heap.size 81 2 v ts.length (ts.flatMap accs) ∧ Below w.heap.size w W' := by
  go_enter Tryz.func97, Tryz.ntmps97
  go_wp2_with fail
  refine (collectAcc_any gf lb eg S Sp N hN w0 _ hw0 hseq).mono ?_
  rintro e w1 ⟨v, ys, rfl, hS, hrow, hB⟩
  have hylen := hSN ys hS
  have HB := Lib.hid hB
  have HR := Lib.hid hrow
  clear hB hrow
  go_wp2_with fail
  refine (sortAcc_any _ _ v ys HR.out hylen).mono ?_
  rintro e w2 ⟨rfl, ts, hp, hs, hrow, hg⟩
  have Hg := Lib.hid hg
  have HR2 := Lib.hid hrow
  have Hp := Lib.hid hp
  have Hs := Lib.hid hs
  clear hrow hg hp hs
  go_wp2_with fail
  go_ret
  exact ⟨v, ys, ts, rfl, hS, Hp.out, Hs.out, HR2.out, HB.out.grown Hg.out HB.out.size (fun k e => (HR.out.lt k e).1)⟩
end Go.Proofs.YtjleembfocghlaaGreatDoor
