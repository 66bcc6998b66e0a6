/- The walks of slices.SortFunc and slices.SortedFunc of accounts. -/
import Derived.Test.YtehedodogkhmgaaGreatKeysIt
import Derived.Test.YtehedodogkhmgaaGreatAccL
import Derived.Shelf.SlSortCmp.WholeK
import Derived.Shelf.SlSortCmp.NoneTotal
set_option linter.unusedSimpArgs false
set_option linter.unusedVariables false
namespace Go.Proofs.YtehedodogkhmgaaGreat
open Go.RowKit Go.Shelf Go.Sort

def sortA_ren : Go.Shelf.Ren := ⟨fun | 6 => 141 | 15 => 137 | 14 => 158 | 28 => 155 | 29 => 156 | 20 => 164 | 21 => 165 | 22 => 166 | 23 => 167 | 24 => 168 | 25 => 169 | 26 => 170 | 27 => 171 | 46 => 173 | 47 => 160 | 48 => 161 | 49 => 174 | 50 => 175 | 57 => 176 | n => n, fun | 22 => 122 | 24 => 90 | 25 => 114 | 3 => 3 | 39 => 156 | 0 => 0 | 53 => 170 | 55 => 172 | 4 => 4 | 46 => 163 | 45 => 162 | 50 => 101 | 5 => 5 | 9 => 9 | 66 => 175 | 70 => 179 | 76 => 186 | 77 => 187 | n => n, fun | n => n⟩
theorem sortA : Go.Proofs.SlLaysF0.n6 Tryz.prog sortA_ren := {
    mixed := by kernel_rfl,
    f6 := ⟨Tryz.f141.name, by decide, Tryz.func141.trans (congrArg some (by kernel_rfl))⟩,
    f14 := ⟨Tryz.f158.name, by decide, Tryz.func158.trans (congrArg some (by kernel_rfl))⟩,
    f15 := Tryz.func137.trans (congrArg some (by kernel_rfl)),
    f20 := ⟨Tryz.f164.name, by decide, Tryz.func164.trans (congrArg some (by kernel_rfl))⟩,
    f21 := ⟨Tryz.f165.name, by decide, Tryz.func165.trans (congrArg some (by kernel_rfl))⟩,
    f22 := ⟨Tryz.f166.name, by decide, Tryz.func166.trans (congrArg some (by kernel_rfl))⟩,
    f23 := ⟨Tryz.f167.name, by decide, Tryz.func167.trans (congrArg some (by kernel_rfl))⟩,
    f24 := ⟨Tryz.f168.name, by decide, Tryz.func168.trans (congrArg some (by kernel_rfl))⟩,
    f25 := ⟨Tryz.f169.name, by decide, Tryz.func169.trans (congrArg some (by kernel_rfl))⟩,
    f26 := ⟨Tryz.f170.name, by decide, Tryz.func170.trans (congrArg some (by kernel_rfl))⟩,
    f27 := ⟨Tryz.f171.name, by decide, Tryz.func171.trans (congrArg some (by kernel_rfl))⟩,
    f28 := Tryz.func155.trans (congrArg some (by kernel_rfl)),
    f29 := Tryz.func156.trans (congrArg some (by kernel_rfl)),
    f46 := ⟨Tryz.f173.name, by decide, Tryz.func173.trans (congrArg some (by kernel_rfl))⟩,
    f47 := Tryz.func160.trans (congrArg some (by kernel_rfl)),
    f48 := Tryz.func161.trans (congrArg some (by kernel_rfl)),
    f49 := ⟨Tryz.f174.name, by decide, Tryz.func174.trans (congrArg some (by kernel_rfl))⟩,
    f50 := ⟨Tryz.f175.name, by decide, Tryz.func175.trans (congrArg some (by kernel_rfl))⟩,
    f57 := ⟨Tryz.f176.name, by decide, Tryz.func176.trans (congrArg some (by kernel_rfl))⟩,
    t0 := Tryz.underlying0,
    a0 := Tryz.isAgg0,
    z0 := Tryz.sizeOf0,
    v0 := Tryz.zeroValue0,
    t3 := Tryz.underlying3,
    a3 := Tryz.isAgg3,
    z3 := Tryz.sizeOf3,
    v3 := Tryz.zeroValue3,
    t4 := Tryz.underlying4,
    a4 := Tryz.isAgg4,
    z4 := Tryz.sizeOf4,
    v4 := Tryz.zeroValue4,
    t5 := Tryz.underlying5,
    a5 := Tryz.isAgg5,
    z5 := Tryz.sizeOf5,
    v5 := Tryz.zeroValue5,
    t9 := Tryz.underlying9,
    a9 := Tryz.isAgg9,
    z9 := Tryz.sizeOf9,
    v9 := Tryz.zeroValue9,
    t22 := Tryz.underlying122,
    a22 := Tryz.isAgg122,
    z22 := Tryz.sizeOf122,
    v22 := Tryz.zeroValue122,
    t25 := Tryz.underlying114,
    a25 := Tryz.isAgg114,
    z25 := Tryz.sizeOf114,
    v25 := Tryz.zeroValue114,
    t39 := Tryz.underlying156,
    a39 := Tryz.isAgg156,
    z39 := Tryz.sizeOf156,
    v39 := Tryz.zeroValue156,
    t45 := Tryz.underlying162,
    a45 := Tryz.isAgg162,
    z45 := Tryz.sizeOf162,
    v45 := Tryz.zeroValue162,
    t46 := Tryz.underlying163,
    a46 := Tryz.isAgg163,
    z46 := Tryz.sizeOf163,
    v46 := Tryz.zeroValue163,
    t50 := Tryz.underlying101,
    a50 := Tryz.isAgg101,
    z50 := Tryz.sizeOf101,
    v50 := Tryz.zeroValue101,
    t53 := Tryz.underlying170,
    a53 := Tryz.isAgg170,
    z53 := Tryz.sizeOf170,
    v53 := Tryz.zeroValue170,
    t55 := Tryz.underlying172,
    a55 := Tryz.isAgg172,
    z55 := Tryz.sizeOf172,
    v55 := Tryz.zeroValue172,
    t66 := Tryz.underlying175,
    a66 := Tryz.isAgg175,
    z66 := Tryz.sizeOf175,
    v66 := Tryz.zeroValue175,
    t70 := Tryz.underlying179,
    a70 := Tryz.isAgg179,
    z70 := Tryz.sizeOf179,
    v70 := Tryz.zeroValue179,
    t76 := Tryz.underlying186,
    a76 := Tryz.isAgg186,
    z76 := Tryz.sizeOf186,
    v76 := Tryz.zeroValue186,
    t77 := Tryz.underlying187,
    a77 := Tryz.isAgg187,
    z77 := Tryz.sizeOf187,
    v77 := Tryz.zeroValue187 }

theorem flatK_accs (d : Array (Int × Int)) : flatK accs 2 d = (d.toList.flatMap accs).toArray := by
  apply Array.ext'
  apply List.ext_getElem?
  intro t
  by_cases ht : t < d.size * 2
  · have hi : t / 2 < d.size := by omega
    have h1 := flat_at accs_length d.toList (t / 2) d[t / 2] (t % 2) (by simp [hi]) (by omega)
    rw [show t / 2 * 2 + t % 2 = t by omega] at h1
    have h2 := get_flatK accs 2 d t ht
    have hs : t < (flatK accs 2 d).size := by simp [ht]
    rw [getElem!_pos (flatK accs 2 d) t hs, getElem!_pos d (t / 2) hi] at h2
    have h3 : t % 2 < (accs d[t / 2]).length := by rw [accs_length]; omega
    rw [getElem!_pos (accs d[t / 2]) (t % 2) h3] at h2
    rw [List.getElem?_eq_getElem h3] at h1
    rw [Array.getElem?_toList, Array.getElem?_eq_getElem hs, h2, List.toList_toArray, h1]
  · rw [List.getElem?_eq_none (by simp; omega), List.getElem?_eq_none (by simp [flat_length accs_length]; omega)]
theorem holdsK_of_block {w : World} {g : Nat} {cur : Array Value} {e : TypeId} {ss : List (Int × Int)} (hb : w.heap[g]? = some (.cells cur e (0, 0))) (ht : cur.toList.take (ss.length * 2) = ss.flatMap accs) : HoldsK accs 2 w g 0 ss.toArray := by
  intro j hj
  rw [size_flatK] at hj
  have hj' : j < ss.length * 2 := by simpa using hj
  refine ⟨?_, by simp [World.frozen?, hb]⟩
  have h1 : (cur.toList.take (ss.length * 2))[j]? = (ss.flatMap accs)[j]? := by rw [ht]
  rw [List.getElem?_take_of_lt hj'] at h1
  simp only [World.cell?, hb, Nat.zero_add]
  simp only [Option.isSome_none, Bool.false_eq_true, if_false]
  rw [← Array.getElem?_toList, h1, flatK_accs]
  have hl : j < (ss.flatMap accs).length := by rw [flat_length accs_length]; exact hj'
  simp only [id]
  rw [List.getElem?_eq_getElem hl, getElem!_pos _ _ (by simpa using hl)]
  simp
theorem heap_sortedK {w : World} {g n : Nat} {os : Array Obj} {cur : Array Value} {e : TypeId} {fr : Nat × Nat} (d : Array (Int × Int)) (hb : w.heap[g]? = some (.cells cur e fr)) :
    (sortWorldK accs 2 w g 0 n d os).heap[g]? = some (.cells (putCells id 0 (flatK accs 2 d) cur) e fr) := by
  have hg : g < w.heap.size := (Array.getElem?_eq_some_iff.1 hb).1
  unfold sortWorldK putRowK
  rw [heap_grow_old _ _ (by simpa using hg)]
  simp [putRow, mapBlock, Sort.ahead, Array.getElem?_modify, hb, onCells]
theorem grownBy_sortedK {w : World} {g n : Nat} {os : Array Obj} (d : Array (Int × Int)) : w.grownBy (sortWorldK accs 2 w g 0 n d os) (some g) := by
  unfold sortWorldK putRowK
  refine ⟨rfl, rfl, rfl, by simp, fun k hk hne => ?_⟩
  rw [heap_grow_old _ _ (by simpa using hk)]
  have : g ≠ k := fun e => hne (by rw [e])
  simp [putRow, mapBlock, Sort.ahead, Array.getElem?_modify, this]
theorem take_putCellsV (cur : Array Value) (vs : List Value) (h : vs.length ≤ cur.size) : (putCells id 0 vs.toArray cur).toList.take vs.length = vs := by
  apply List.ext_getElem?
  intro j
  by_cases hj : j < vs.length
  · rw [List.getElem?_take_of_lt hj, Array.getElem?_toList]
    simp [putCells, hj, show j < cur.size by omega]
  · rw [List.getElem?_take_eq_none (by omega), List.getElem?_eq_none (by omega)]
theorem ownsRow_sortedK {w : World} {base g cap n m : Nat} {e : TypeId} {os : Array Obj} {cur : Array Value} {ts : List (Int × Int)} (hl : ts.length = m) (hbase : base ≤ g) (hb : w.heap[g]? = some (.cells cur e (0, 0)))
    (h1 : m ≤ cap) (h2 : cap ≤ maxLen) (h3 : cur.size = cap * 2) :
    (sortWorldK accs 2 w g 0 n ts.toArray os).ownsRow base e 2 (.slice (some ⟨g, 0, none⟩) m cap) m (ts.flatMap accs) := by
  have hf := flat_length accs_length ts
  refine ⟨by rw [hf, hl], .inr ⟨g, cap, _, rfl, hbase, heap_sortedK _ hb, h1, h2, by simp [putCells, h3], ?_⟩⟩
  rw [flatK_accs, ← hl, ← hf]
  exact take_putCellsV cur _ (by rw [hf, h3]; omega)

theorem cmpI_lt (a b : Int) : cmpI a b < 0 ↔ a < b := by unfold cmpI; split <;> (try split) <;> omega
theorem cmpI_eq (a b : Int) : cmpI a b = 0 ↔ a = b := by unfold cmpI; split <;> (try split) <;> omega
theorem cmpAcc_lt (a b : Int × Int) : cmpAcc a b < 0 ↔ accLt a b := by
  unfold cmpAcc orI accLt
  by_cases h : cmpI a.1 b.1 = 0
  · rw [if_pos h, cmpI_lt]
    have := (cmpI_eq _ _).1 h
    omega
  · rw [if_neg h, cmpI_lt]
    have : a.1 ≠ b.1 := fun e => h ((cmpI_eq _ _).2 e)
    omega
theorem ltAcc (x y : Int × Int) : ltOf cmpAcc x y = decide (accLt x y) := by
  unfold ltOf
  by_cases h : accLt x y
  · simp [(cmpAcc_lt x y).2 h, h]
  · simp [h, fun e => h ((cmpAcc_lt x y).1 e)]
    have : ¬ cmpAcc x y < 0 := fun e => h ((cmpAcc_lt x y).1 e)
    omega
theorem swoAcc : SWO (ltOf cmpAcc) where
  irrefl x := by rw [ltAcc]; simp [accLt]
  trans x y z h1 h2 := by rw [ltAcc, decide_eq_true_eq] at *; unfold accLt at *; omega
  ntrans x y z h1 h2 := by rw [ltAcc, decide_eq_false_iff_not] at *; unfold accLt at *; omega
theorem cmpLaysAcc (blk off size : Nat) (w : World) : CmpLays Tryz.prog 93 #[] accs 2 cmpAcc blk off size w :=
  fun _ _ _ _ x y => compare_grow x y _

set_option maxHeartbeats 1000000 in
theorem sortAcc_any (w : World) (base : Nat) (v : Value) (ss : List (Int × Int)) (hrow : w.ownsRow base 90 2 v ss.length (ss.flatMap accs)) (hn : ss.length ≤ 1000000) :
    Calls Tryz.prog 141 #[v, .func (.func 93) #[] #[]] w fun e w' => e = .returned (.tuple #[]) ∧ ∃ ts : List (Int × Int), ts.Perm ss ∧ ts.Pairwise (fun x y => ¬ accLt y x) ∧
      w'.ownsRow base 90 2 v ts.length (ts.flatMap accs) ∧ w.grownBy w' v.ownBlock := by
  rcases hrow.2 with ⟨rfl, hz⟩ | ⟨gb, cap, cur, rfl, hbase, hgb, r1, r2, r3, r4⟩
  · have hss : ss = [] := List.eq_nil_of_length_eq_zero hz
    subst hss
    refine (AnyF.slices_SortFunc_none (P := Tryz.prog) (ρ := sortA_ren) { sortA with } none 0 (.func (.func 93) #[] #[]) w).mono ?_
    rintro e w' ⟨rfl, rfl⟩
    exact ⟨rfl, [], List.Perm.refl _, List.Pairwise.nil, hrow, ⟨rfl, rfl, rfl, Nat.le_refl _, fun _ _ _ => rfl⟩⟩
  · have hH : HoldsK accs 2 w gb 0 ss.toArray := holdsK_of_block hgb r4
    have hgl : gb < w.heap.size := (Array.getElem?_eq_some_iff.1 hgb).1
    have eg : ∀ args w, (callFunc 93 args).run Tryz.prog w = .ok (.enter 93 args) w := enters_of Tryz.func93 (by kernel_rfl) rfl
    have hcon := AnyQ.slices_SortFunc sortA 2 Tryz.isAgg90 Tryz.sizeOf90 accs accs_length (fun x v hv => by simp [accs] at hv; rcases hv with rfl | rfl <;> rfl) cmpAcc swoAcc 93 #[] gb 0 cap ss.toArray w eg (cmpLaysAcc gb 0 _ w) hH hgl (by simp; omega)
    refine Calls.mono hcon ?_
    rintro e w' ⟨rfl, d', n, os, hp, hs, rfl⟩
    have hsz : d'.size = ss.length := by rw [hp.1]; simp
    have hl : d'.toList.length = ss.length := by simpa using hsz
    refine ⟨rfl, d'.toList, ?_, ?_, ?_, ?_⟩
    · have h2 := hp.2.2
      rw [show (ss.toArray.extract 0 ss.toArray.size) = ss.toArray from Array.extract_size, show d'.extract 0 ss.toArray.size = d' from by rw [← hp.1]; exact Array.extract_size] at h2
      exact h2
    · rw [List.pairwise_iff_getElem]
      intro i j hi hj hij
      have hi' : i < d'.size := by simpa using hi
      have hj' : j < d'.size := by simpa using hj
      have := hs i j (Nat.zero_le _) hij (by rw [← hp.1]; exact hj')
      rw [ltAcc, getElem!_pos d' j hj', getElem!_pos d' i hi'] at this
      simpa using this
    · have := ownsRow_sortedK (w := w) (n := n) (os := os) (ts := d'.toList) hl hbase hgb r1 r2 r3
      rw [hl]
      simpa using this
    · exact grownBy_sortedK _

set_option maxHeartbeats 1000000 in
theorem sortedAcc_any (gf : Nat) (lb : Array Value) (eg : ∀ args w, (callFunc gf args).run Tryz.prog w = .ok (.enter gf args) w) (S Sp : List (Int × Int) → Prop) (N : Nat) (hN : N ≤ 1000000) (hSN : ∀ ys, S ys → ys.length ≤ 1000000) (w0 w : World)
    (hw0 : Below w0.heap.size w0 w) (hseq : SeqStopsK Fence.wide 4 Tryz.prog gf lb (fun x : Int × Int => #[kAcc x]) KeepsWalks S Sp N w0) :
    Calls Tryz.prog 127 #[.func (.func gf) #[] lb, .func (.func 93) #[] #[]] w fun e W' =>
      ∃ (v : Value) (ys ts : List (Int × Int)), e = .returned v ∧ S ys ∧ ts.Perm ys ∧ ts.Pairwise (fun x y => ¬ accLt y x) ∧ W'.ownsRow w.heap.size 90 2 v ts.length (ts.flatMap accs) ∧ Below w.heap.size w W' := by
  go_enter Tryz.func127, Tryz.ntmps127
  go_wp2_with fail
  refine (collectAcc_any gf lb eg S Sp N hN w0 _ hw0 hseq).mono ?_
  rintro e w1 ⟨v, ys, rfl, hS, hrow, hB⟩
  have hylen := hSN ys hS
  have HB := Lib.hid hB
  have HR := Lib.hid hrow
  clear hB hrow
  go_wp2_with fail
  refine (sortAcc_any _ _ v ys HR.out hylen).mono ?_
  rintro e w2 ⟨rfl, ts, hp, hs, hrow, hg⟩
  have Hg := Lib.hid hg
  have HR2 := Lib.hid hrow
  have Hp := Lib.hid hp
  have Hs := Lib.hid hs
  clear hrow hg hp hs
  go_wp2_with fail
  go_ret
  exact ⟨v, ys, ts, rfl, hS, Hp.out, Hs.out, HR2.out, HB.out.grown Hg.out HB.out.size (fun k e => (HR.out.lt k e).1)⟩
end Go.Proofs.YtehedodogkhmgaaGreat
