/- The walks of slices.SortFunc and slices.SortedFunc of accounts. -/
import Derived.Test.YtacpjmgnddpbiaaKeysIt
import Derived.Test.YtacpjmgnddpbiaaAccL
import Derived.Shelf.SlSortCmp.WholeK
import Derived.Shelf.SlSortCmp.NoneTotal
set_option linter.unusedSimpArgs false
set_option linter.unusedVariables false
namespace Go.Proofs.Ytacpjmgnddpbiaa
open Go.RowKit Go.Shelf Go.Sort

def sortA_ren : Go.Shelf.Ren := ⟨fun | 6 => 90 | 15 => 94 | 14 => 93 | 28 => 103 | 29 => 104 | 20 => 95 | 21 => 96 | 22 => 97 | 23 => 98 | 24 => 99 | 25 => 100 | 26 => 101 | 27 => 102 | 46 => 105 | 47 => 106 | 48 => 107 | 49 => 108 | 50 => 109 | 57 => 110 | n => n, fun | 22 => 116 | 24 => 90 | 25 => 110 | 3 => 3 | 39 => 34 | 0 => 0 | 53 => 141 | 55 => 143 | 4 => 4 | 46 => 135 | 45 => 134 | 50 => 126 | 5 => 5 | 9 => 9 | 66 => 144 | 70 => 148 | 76 => 150 | 77 => 151 | n => n, fun | n => n⟩
theorem sortA : Go.Proofs.SlLaysF0.n6 Try.prog sortA_ren := {
    mixed := by kernel_rfl,
    f6 := ⟨Try.f90.name, by decide, Try.func90.trans (congrArg some (by kernel_rfl))⟩,
    f14 := ⟨Try.f93.name, by decide, Try.func93.trans (congrArg some (by kernel_rfl))⟩,
    f15 := Try.func94.trans (congrArg some (by kernel_rfl)),
    f20 := ⟨Try.f95.name, by decide, Try.func95.trans (congrArg some (by kernel_rfl))⟩,
    f21 := ⟨Try.f96.name, by decide, Try.func96.trans (congrArg some (by kernel_rfl))⟩,
    f22 := ⟨Try.f97.name, by decide, Try.func97.trans (congrArg some (by kernel_rfl))⟩,
    f23 := ⟨Try.f98.name, by decide, Try.func98.trans (congrArg some (by kernel_rfl))⟩,
    f24 := ⟨Try.f99.name, by decide, Try.func99.trans (congrArg some (by kernel_rfl))⟩,
    f25 := ⟨Try.f100.name, by decide, Try.func100.trans (congrArg some (by kernel_rfl))⟩,
    f26 := ⟨Try.f101.name, by decide, Try.func101.trans (congrArg some (by kernel_rfl))⟩,
    f27 := ⟨Try.f102.name, by decide, Try.func102.trans (congrArg some (by kernel_rfl))⟩,
    f28 := Try.func103.trans (congrArg some (by kernel_rfl)),
    f29 := Try.func104.trans (congrArg some (by kernel_rfl)),
    f46 := ⟨Try.f105.name, by decide, Try.func105.trans (congrArg some (by kernel_rfl))⟩,
    f47 := Try.func106.trans (congrArg some (by kernel_rfl)),
    f48 := Try.func107.trans (congrArg some (by kernel_rfl)),
    f49 := ⟨Try.f108.name, by decide, Try.func108.trans (congrArg some (by kernel_rfl))⟩,
    f50 := ⟨Try.f109.name, by decide, Try.func109.trans (congrArg some (by kernel_rfl))⟩,
    f57 := ⟨Try.f110.name, by decide, Try.func110.trans (congrArg some (by kernel_rfl))⟩,
    t0 := Try.underlying0,
    a0 := Try.isAgg0,
    z0 := Try.sizeOf0,
    v0 := Try.zeroValue0,
    t3 := Try.underlying3,
    a3 := Try.isAgg3,
    z3 := Try.sizeOf3,
    v3 := Try.zeroValue3,
    t4 := Try.underlying4,
    a4 := Try.isAgg4,
    z4 := Try.sizeOf4,
    v4 := Try.zeroValue4,
    t5 := Try.underlying5,
    a5 := Try.isAgg5,
    z5 := Try.sizeOf5,
    v5 := Try.zeroValue5,
    t9 := Try.underlying9,
    a9 := Try.isAgg9,
    z9 := Try.sizeOf9,
    v9 := Try.zeroValue9,
    t22 := Try.underlying116,
    a22 := Try.isAgg116,
    z22 := Try.sizeOf116,
    v22 := Try.zeroValue116,
    t25 := Try.underlying110,
    a25 := Try.isAgg110,
    z25 := Try.sizeOf110,
    v25 := Try.zeroValue110,
    t39 := Try.underlying34,
    a39 := Try.isAgg34,
    z39 := Try.sizeOf34,
    v39 := Try.zeroValue34,
    t45 := Try.underlying134,
    a45 := Try.isAgg134,
    z45 := Try.sizeOf134,
    v45 := Try.zeroValue134,
    t46 := Try.underlying135,
    a46 := Try.isAgg135,
    z46 := Try.sizeOf135,
    v46 := Try.zeroValue135,
    t50 := Try.underlying126,
    a50 := Try.isAgg126,
    z50 := Try.sizeOf126,
    v50 := Try.zeroValue126,
    t53 := Try.underlying141,
    a53 := Try.isAgg141,
    z53 := Try.sizeOf141,
    v53 := Try.zeroValue141,
    t55 := Try.underlying143,
    a55 := Try.isAgg143,
    z55 := Try.sizeOf143,
    v55 := Try.zeroValue143,
    t66 := Try.underlying144,
    a66 := Try.isAgg144,
    z66 := Try.sizeOf144,
    v66 := Try.zeroValue144,
    t70 := Try.underlying148,
    a70 := Try.isAgg148,
    z70 := Try.sizeOf148,
    v70 := Try.zeroValue148,
    t76 := Try.underlying150,
    a76 := Try.isAgg150,
    z76 := Try.sizeOf150,
    v76 := Try.zeroValue150,
    t77 := Try.underlying151,
    a77 := Try.isAgg151,
    z77 := Try.sizeOf151,
    v77 := Try.zeroValue151 }

theorem flatK_accs (d : Array (Int × Int)) : flatK accs 2 d = (d.toList.flatMap accs).toArray := by
  apply Array.ext'
  apply List.ext_getElem?
  intro t
  by_cases ht : t < d.size * 2
  · have hi : t / 2 < d.size := by omega
    have h1 := flat_at accs_length d.toList (t / 2) d[t / 2] (t % 2) (by simp [hi]) (by omega)
    rw [show t / 2 * 2 + t % 2 = t by omega] at h1
    have h2 := get_flatK accs 2 d t ht
    have hs : t < (flatK accs 2 d).size := by simp [ht]
    rw [getElem!_pos (flatK accs 2 d) t hs, getElem!_pos d (t / 2) hi] at h2
    have h3 : t % 2 < (accs d[t / 2]).length := by rw [accs_length]; omega
    rw [getElem!_pos (accs d[t / 2]) (t % 2) h3] at h2
    rw [List.getElem?_eq_getElem h3] at h1
    rw [Array.getElem?_toList, Array.getElem?_eq_getElem hs, h2, List.toList_toArray, h1]
  · rw [List.getElem?_eq_none (by simp; omega), List.getElem?_eq_none (by simp [flat_length accs_length]; omega)]
theorem holdsK_of_block {w : World} {g : Nat} {cur : Array Value} {e : TypeId} {ss : List (Int × Int)} (hb : w.heap[g]? = some (.cells cur e (0, 0))) (ht : cur.toList.take (ss.length * 2) = ss.flatMap accs) : HoldsK accs 2 w g 0 ss.toArray := by
  intro j hj
  rw [size_flatK] at hj
  have hj' : j < ss.length * 2 := by simpa using hj
  refine ⟨?_, by simp [World.frozen?, hb]⟩
  have h1 : (cur.toList.take (ss.length * 2))[j]? = (ss.flatMap accs)[j]? := by rw [ht]
  rw [List.getElem?_take_of_lt hj'] at h1
  simp only [World.cell?, hb, Nat.zero_add]
  simp only [Option.isSome_none, Bool.false_eq_true, if_false]
  rw [← Array.getElem?_toList, h1, flatK_accs]
  have hl : j < (ss.flatMap accs).length := by rw [flat_length accs_length]; exact hj'
  simp only [id]
  rw [List.getElem?_eq_getElem hl, getElem!_pos _ _ (by simpa using hl)]
  simp
theorem heap_sortedK {w : World} {g n : Nat} {os : Array Obj} {cur : Array Value} {e : TypeId} {fr : Nat × Nat} (d : Array (Int × Int)) (hb : w.heap[g]? = some (.cells cur e fr)) :
    (sortWorldK accs 2 w g 0 n d os).heap[g]? = some (.cells (putCells id 0 (flatK accs 2 d) cur) e fr) := by
  have hg : g < w.heap.size := (Array.getElem?_eq_some_iff.1 hb).1
  unfold sortWorldK putRowK
  rw [heap_grow_old _ _ (by simpa using hg)]
  simp [putRow, mapBlock, Sort.ahead, Array.getElem?_modify, hb, onCells]
theorem grownBy_sortedK {w : World} {g n : Nat} {os : Array Obj} (d : Array (Int × Int)) : w.grownBy (sortWorldK accs 2 w g 0 n d os) (some g) := by
  unfold sortWorldK putRowK
  refine ⟨rfl, rfl, rfl, by simp, fun k hk hne => ?_⟩
  rw [heap_grow_old _ _ (by simpa using hk)]
  have : g ≠ k := fun e => hne (by rw [e])
  simp [putRow, mapBlock, Sort.ahead, Array.getElem?_modify, this]
theorem take_putCellsV (cur : Array Value) (vs : List Value) (h : vs.length ≤ cur.size) : (putCells id 0 vs.toArray cur).toList.take vs.length = vs := by
  apply List.ext_getElem?
  intro j
  by_cases hj : j < vs.length
  · rw [List.getElem?_take_of_lt hj, Array.getElem?_toList]
    simp [putCells, hj, show j < cur.size by omega]
  · rw [List.getElem?_take_eq_none (by omega), List.getElem?_eq_none (by omega)]
theorem ownsRow_sortedK {w : World} {base g cap n m : Nat} {e : TypeId} {os : Array Obj} {cur : Array Value} {ts : List (Int × Int)} (hl : ts.length = m) (hbase : base ≤ g) (hb : w.heap[g]? = some (.cells cur e (0, 0)))
    (h1 : m ≤ cap) (h2 : cap ≤ maxLen) (h3 : cur.size = cap * 2) :
    (sortWorldK accs 2 w g 0 n ts.toArray os).ownsRow base e 2 (.slice (some ⟨g, 0, none⟩) m cap) m (ts.flatMap accs) := by
  have hf := flat_length accs_length ts
  refine ⟨by rw [hf, hl], .inr ⟨g, cap, _, rfl, hbase, heap_sortedK _ hb, h1, h2, by simp [putCells, h3], ?_⟩⟩
  rw [flatK_accs, ← hl, ← hf]
  exact take_putCellsV cur _ (by rw [hf, h3]; omega)

theorem cmpI_lt (a b : Int) : cmpI a b < 0 ↔ a < b := by unfold cmpI; split <;> (try split) <;> omega
theorem cmpI_eq (a b : Int) : cmpI a b = 0 ↔ a = b := by unfold cmpI; split <;> (try split) <;> omega
theorem cmpAcc_lt (a b : Int × Int) : cmpAcc a b < 0 ↔ accLt a b := by
  unfold cmpAcc orI accLt
  by_cases h : cmpI a.1 b.1 = 0
  · rw [if_pos h, cmpI_lt]
    have := (cmpI_eq _ _).1 h
    omega
  · rw [if_neg h, cmpI_lt]
    have : a.1 ≠ b.1 := fun e => h ((cmpI_eq _ _).2 e)
    omega
theorem ltAcc (x y : Int × Int) : ltOf cmpAcc x y = decide (accLt x y) := by
  unfold ltOf
  by_cases h : accLt x y
  · simp [(cmpAcc_lt x y).2 h, h]
  · simp [h, fun e => h ((cmpAcc_lt x y).1 e)]
    have : ¬ cmpAcc x y < 0 := fun e => h ((cmpAcc_lt x y).1 e)
    omega
theorem swoAcc : SWO (ltOf cmpAcc) where
  irrefl x := by rw [ltAcc]; simp [accLt]
  trans x y z h1 h2 := by rw [ltAcc, decide_eq_true_eq] at *; unfold accLt at *; omega
  ntrans x y z h1 h2 := by rw [ltAcc, decide_eq_false_iff_not] at *; unfold accLt at *; omega
theorem cmpLaysAcc (blk off size : Nat) (w : World) : CmpLays Try.prog 71 #[] accs 2 cmpAcc blk off size w :=
  fun _ _ _ _ x y => compare_grow x y _

set_option maxHeartbeats 1000000 in
theorem sortAcc_any (w : World) (base : Nat) (v : Value) (ss : List (Int × Int)) (hrow : w.ownsRow base 90 2 v ss.length (ss.flatMap accs)) (hn : ss.length ≤ 1000000) :
    Calls Try.prog 90 #[v, .func (.func 71) #[] #[]] w fun e w' => e = .returned (.tuple #[]) ∧ ∃ ts : List (Int × Int), ts.Perm ss ∧ ts.Pairwise (fun x y => ¬ accLt y x) ∧
      w'.ownsRow base 90 2 v ts.length (ts.flatMap accs) ∧ w.grownBy w' v.ownBlock := by
  rcases hrow.2 with ⟨rfl, hz⟩ | ⟨gb, cap, cur, rfl, hbase, hgb, r1, r2, r3, r4⟩
  · have hss : ss = [] := List.eq_nil_of_length_eq_zero hz
    subst hss
    refine (AnyF.slices_SortFunc_none (P := Try.prog) (ρ := sortA_ren) { sortA with } none 0 (.func (.func 71) #[] #[]) w).mono ?_
    rintro e w' ⟨rfl, rfl⟩
    exact ⟨rfl, [], List.Perm.refl _, List.Pairwise.nil, hrow, ⟨rfl, rfl, rfl, Nat.le_refl _, fun _ _ _ => rfl⟩⟩
  · have hH : HoldsK accs 2 w gb 0 ss.toArray := holdsK_of_block hgb r4
    have hgl : gb < w.heap.size := (Array.getElem?_eq_some_iff.1 hgb).1
    have eg : ∀ args w, (callFunc 71 args).run Try.prog w = .ok (.enter 71 args) w := enters_of Try.func71 (by kernel_rfl) rfl
    have hcon := AnyQ.slices_SortFunc sortA 2 Try.isAgg90 Try.sizeOf90 accs accs_length (fun x v hv => by simp [accs] at hv; rcases hv with rfl | rfl <;> rfl) cmpAcc swoAcc 71 #[] gb 0 cap ss.toArray w eg (cmpLaysAcc gb 0 _ w) hH hgl (by simp; omega)
    refine Calls.mono hcon ?_
    rintro e w' ⟨rfl, d', n, os, hp, hs, rfl⟩
    have hsz : d'.size = ss.length := by rw [hp.1]; simp
    have hl : d'.toList.length = ss.length := by simpa using hsz
    refine ⟨rfl, d'.toList, ?_, ?_, ?_, ?_⟩
    · have h2 := hp.2.2
      rw [show (ss.toArray.extract 0 ss.toArray.size) = ss.toArray from Array.extract_size, show d'.extract 0 ss.toArray.size = d' from by rw [← hp.1]; exact Array.extract_size] at h2
      exact h2
    · rw [List.pairwise_iff_getElem]
      intro i j hi hj hij
      have hi' : i < d'.size := by simpa using hi
      have hj' : j < d'.size := by simpa using hj
      have := hs i j (Nat.zero_le _) hij (by rw [← hp.1]; exact hj')
      rw [ltAcc, getElem!_pos d' j hj', getElem!_pos d' i hi'] at this
      simpa using this
    · have := ownsRow_sortedK (w := w) (n := n) (os := os) (ts := d'.toList) hl hbase hgb r1 r2 r3
      rw [hl]
      simpa using this
    · exact grownBy_sortedK _

set_option maxHeartbeats 1000000 in
theorem sortedAcc_any (gf : Nat) (lb : Array Value) (eg : ∀ args w, (callFunc gf args).run Try.prog w = .ok (.enter gf args) w) (S Sp : List (Int × Int) → Prop) (N : Nat) (hN : N ≤ 1000000) (hSN : ∀ ys, S ys → ys.length ≤ 1000000) (w0 w : World)
    (hw0 : Below w0.heap.size w0 w) (hseq : SeqStopsK Fence.wide 4 Try.prog gf lb (fun x : Int × Int => #[kAcc x]) KeepsWalks S Sp N w0) :
    Calls Try.prog 84 #[.func (.func gf) #[] lb, .func (.func 71) #[] #[]] w fun e W' =>
      ∃ (v : Value) (ys ts : List (Int × Int)), e = .returned v ∧ S ys ∧ ts.Perm ys ∧ ts.Pairwise (fun x y => ¬ accLt y x) ∧ W'.ownsRow w.heap.size 90 2 v ts.length (ts.flatMap accs) ∧ Below w.heap.size w W' := by
  go_enter Try.func84, Try.ntmps84
  go_wp2_with fail
  refine (collectAcc_any gf lb eg S Sp N hN w0 _ hw0 hseq).mono ?_
  rintro e w1 ⟨v, ys, rfl, hS, hrow, hB⟩
  have hylen := hSN ys hS
  have HB := Lib.hid hB
  have HR := Lib.hid hrow
  clear hB hrow
  go_wp2_with fail
  refine (sortAcc_any _ _ v ys HR.out hylen).mono ?_
  rintro e w2 ⟨rfl, ts, hp, hs, hrow, hg⟩
  have Hg := Lib.hid hg
  have HR2 := Lib.hid hrow
  have Hp := Lib.hid hp
  have Hs := Lib.hid hs
  clear hrow hg hp hs
  go_wp2_with fail
  go_ret
  exact ⟨v, ys, ts, rfl, hS, Hp.out, Hs.out, HR2.out, HB.out.grown Hg.out HB.out.size (fun k e => (HR.out.lt k e).1)⟩
end Go.Proofs.Ytacpjmgnddpbiaa
