/- The walk of slices.SortFunc of papers, by their packages. -/
import Derived.Test.YtehplmeckfinoaaGreatDoorCMiss
import Derived.Test.YtehplmeckfinoaaGreatDoorCModel
import Derived.Shelf.SlSortCmp.WholeK
import Derived.Shelf.SlSortCmp.NoneTotal
set_option linter.unusedSimpArgs false
set_option linter.unusedVariables false
namespace Go.Proofs.YtehplmeckfinoaaGreatDoor
open Go.RowKit Go.Shelf Go.Sort
def sortP_ren : Go.Shelf.Ren := ⟨fun | 6 => 126 | 15 => 131 | 14 => 140 | 28 => 156 | 29 => 157 | 20 => 170 | 21 => 171 | 22 => 172 | 23 => 173 | 24 => 174 | 25 => 175 | 26 => 176 | 27 => 177 | 46 => 196 | 47 => 184 | 48 => 185 | 49 => 197 | 50 => 198 | 57 => 205 | n => n, fun | 22 => 22 | 24 => 42 | 25 => 168 | 3 => 3 | 39 => 173 | 0 => 0 | 53 => 188 | 55 => 190 | 4 => 4 | 46 => 182 | 45 => 181 | 50 => 87 | 5 => 5 | 9 => 9 | 66 => 213 | 70 => 217 | 76 => 230 | 77 => 231 | n => n, fun | n => n⟩
theorem sortP : Go.Proofs.SlLaysF0.n6 Tryz.prog sortP_ren := {
 mixed := by kernel_rfl,
 f6 := ⟨Tryz.f126.name, by decide, Tryz.func126.trans (congrArg some (by kernel_rfl))⟩,
 f14 := ⟨Tryz.f140.name, by decide, Tryz.func140.trans (congrArg some (by kernel_rfl))⟩,
 f15 := Tryz.func131.trans (congrArg some (by kernel_rfl)),
 f20 := ⟨Tryz.f170.name, by decide, Tryz.func170.trans (congrArg some (by kernel_rfl))⟩,
 f21 := ⟨Tryz.f171.name, by decide, Tryz.func171.trans (congrArg some (by kernel_rfl))⟩,
 f22 := ⟨Tryz.f172.name, by decide, Tryz.func172.trans (congrArg some (by kernel_rfl))⟩,
 f23 := ⟨Tryz.f173.name, by decide, Tryz.func173.trans (congrArg some (by kernel_rfl))⟩,
 f24 := ⟨Tryz.f174.name, by decide, Tryz.func174.trans (congrArg some (by kernel_rfl))⟩,
 f25 := ⟨Tryz.f175.name, by decide, Tryz.func175.trans (congrArg some (by kernel_rfl))⟩,
 f26 := ⟨Tryz.f176.name, by decide, Tryz.func176.trans (congrArg some (by kernel_rfl))⟩,
 f27 := ⟨Tryz.f177.name, by decide, Tryz.func177.trans (congrArg some (by kernel_rfl))⟩,
 f28 := Tryz.func156.trans (congrArg some (by kernel_rfl)),
 f29 := Tryz.func157.trans (congrArg some (by kernel_rfl)),
 f46 := ⟨Tryz.f196.name, by decide, Tryz.func196.trans (congrArg some (by kernel_rfl))⟩,
 f47 := Tryz.func184.trans (congrArg some (by kernel_rfl)),
 f48 := Tryz.func185.trans (congrArg some (by kernel_rfl)),
 f49 := ⟨Tryz.f197.name, by decide, Tryz.func197.trans (congrArg some (by kernel_rfl))⟩,
 f50 := ⟨Tryz.f198.name, by decide, Tryz.func198.trans (congrArg some (by kernel_rfl))⟩,
 f57 := ⟨Tryz.f205.name, by decide, Tryz.func205.trans (congrArg some (by kernel_rfl))⟩,
 t0 := Tryz.underlying0,
 a0 := Tryz.isAgg0,
 z0 := Tryz.sizeOf0,
 v0 := Tryz.zeroValue0,
 t3 := Tryz.underlying3,
 a3 := Tryz.isAgg3,
 z3 := Tryz.sizeOf3,
 v3 := Tryz.zeroValue3,
 t4 := Tryz.underlying4,
 a4 := Tryz.isAgg4,
 z4 := Tryz.sizeOf4,
 v4 := Tryz.zeroValue4,
 t5 := Tryz.underlying5,
 a5 := Tryz.isAgg5,
 z5 := Tryz.sizeOf5,
 v5 := Tryz.zeroValue5,
 t9 := Tryz.underlying9,
 a9 := Tryz.isAgg9,
 z9 := Tryz.sizeOf9,
 v9 := Tryz.zeroValue9,
 t22 := Tryz.underlying22,
 a22 := Tryz.isAgg22,
 z22 := Tryz.sizeOf22,
 v22 := Tryz.zeroValue22,
 t25 := Tryz.underlying168,
 a25 := Tryz.isAgg168,
 z25 := Tryz.sizeOf168,
 v25 := Tryz.zeroValue168,
 t39 := Tryz.underlying173,
 a39 := Tryz.isAgg173,
 z39 := Tryz.sizeOf173,
 v39 := Tryz.zeroValue173,
 t45 := Tryz.underlying181,
 a45 := Tryz.isAgg181,
 z45 := Tryz.sizeOf181,
 v45 := Tryz.zeroValue181,
 t46 := Tryz.underlying182,
 a46 := Tryz.isAgg182,
 z46 := Tryz.sizeOf182,
 v46 := Tryz.zeroValue182,
 t50 := Tryz.underlying87,
 a50 := Tryz.isAgg87,
 z50 := Tryz.sizeOf87,
 v50 := Tryz.zeroValue87,
 t53 := Tryz.underlying188,
 a53 := Tryz.isAgg188,
 z53 := Tryz.sizeOf188,
 v53 := Tryz.zeroValue188,
 t55 := Tryz.underlying190,
 a55 := Tryz.isAgg190,
 z55 := Tryz.sizeOf190,
 v55 := Tryz.zeroValue190,
 t66 := Tryz.underlying213,
 a66 := Tryz.isAgg213,
 z66 := Tryz.sizeOf213,
 v66 := Tryz.zeroValue213,
 t70 := Tryz.underlying217,
 a70 := Tryz.isAgg217,
 z70 := Tryz.sizeOf217,
 v70 := Tryz.zeroValue217,
 t76 := Tryz.underlying230,
 a76 := Tryz.isAgg230,
 z76 := Tryz.sizeOf230,
 v76 := Tryz.zeroValue230,
 t77 := Tryz.underlying231,
 a77 := Tryz.isAgg231,
 z77 := Tryz.sizeOf231,
 v77 := Tryz.zeroValue231 }
instance : Inhabited Pa := ⟨pa0⟩
theorem flatK_pas (d : Array Pa) : flatK Pa.vals 14 d = (d.toList.flatMap Pa.vals).toArray := by
 apply Array.ext'
 apply List.ext_getElem?
 intro t
 by_cases ht : t < d.size * 14
 · have hi : t / 14 < d.size := by omega
   have h1 := flat_at Pa.vals_length d.toList (t / 14) d[t / 14] (t % 14) (by simp [hi]) (by omega)
   rw [show t / 14 * 14 + t % 14 = t by omega] at h1
   have h2 := get_flatK Pa.vals 14 d t ht
   have hs : t < (flatK Pa.vals 14 d).size := by simp [ht]
   rw [getElem!_pos (flatK Pa.vals 14 d) t hs, getElem!_pos d (t / 14) hi] at h2
   have h3 : t % 14 < (Pa.vals d[t / 14]).length := by rw [Pa.vals_length]; omega
   rw [getElem!_pos (Pa.vals d[t / 14]) (t % 14) h3] at h2
   rw [List.getElem?_eq_getElem h3] at h1
   rw [Array.getElem?_toList, Array.getElem?_eq_getElem hs, h2, List.toList_toArray, h1]
 · rw [List.getElem?_eq_none (by simp; omega), List.getElem?_eq_none (by simp [flat_length Pa.vals_length]; omega)]
theorem holdsK_of_block {w : World} {g : Nat} {cur : Array Value} {e : TypeId} {ss : List Pa} (hb : w.heap[g]? = some (.cells cur e (0, 0))) (ht : cur.toList.take (ss.length * 14) = ss.flatMap Pa.vals) : HoldsK Pa.vals 14 w g 0 ss.toArray := by
 intro j hj
 rw [size_flatK] at hj
 have hj' : j < ss.length * 14 := by simpa using hj
 refine ⟨?_, by simp [World.frozen?, hb]⟩
 have h1 : (cur.toList.take (ss.length * 14))[j]? = (ss.flatMap Pa.vals)[j]? := by rw [ht]
 rw [List.getElem?_take_of_lt hj'] at h1
 simp only [World.cell?, hb, Nat.zero_add]
 simp only [Option.isSome_none, Bool.false_eq_true, if_false]
 rw [← Array.getElem?_toList, h1, flatK_pas]
 have hl : j < (ss.flatMap Pa.vals).length := by rw [flat_length Pa.vals_length]; exact hj'
 simp only [id]
 rw [List.getElem?_eq_getElem hl, getElem!_pos _ _ (by simpa using hl)]
 simp
theorem heap_sortedK {w : World} {g n : Nat} {os : Array Obj} {cur : Array Value} {e : TypeId} {fr : Nat × Nat} (d : Array Pa) (hb : w.heap[g]? = some (.cells cur e fr)) :
 (sortWorldK Pa.vals 14 w g 0 n d os).heap[g]? = some (.cells (putCells id 0 (flatK Pa.vals 14 d) cur) e fr) := by
 have hg : g < w.heap.size := (Array.getElem?_eq_some_iff.1 hb).1
 unfold sortWorldK putRowK
 rw [heap_grow_old _ _ (by simpa using hg)]
 simp [putRow, mapBlock, Sort.ahead, Array.getElem?_modify, hb, onCells]
theorem grownBy_sortedK {w : World} {g n : Nat} {os : Array Obj} (d : Array Pa) : w.grownBy (sortWorldK Pa.vals 14 w g 0 n d os) (some g) := by
 unfold sortWorldK putRowK
 refine ⟨rfl, rfl, rfl, by simp, fun k hk hne => ?_⟩
 rw [heap_grow_old _ _ (by simpa using hk)]
 have : g ≠ k := fun e => hne (by rw [e])
 simp [putRow, mapBlock, Sort.ahead, Array.getElem?_modify, this]
theorem take_putCellsV (cur : Array Value) (vs : List Value) (h : vs.length ≤ cur.size) : (putCells id 0 vs.toArray cur).toList.take vs.length = vs := by
 apply List.ext_getElem?
 intro j
 by_cases hj : j < vs.length
 · rw [List.getElem?_take_of_lt hj, Array.getElem?_toList]
   simp [putCells, hj, show j < cur.size by omega]
 · rw [List.getElem?_take_eq_none (by omega), List.getElem?_eq_none (by omega)]
theorem ownsRow_sortedK {w : World} {base g cap n m : Nat} {e : TypeId} {os : Array Obj} {cur : Array Value} {ts : List Pa} (hl : ts.length = m) (hbase : base ≤ g) (hb : w.heap[g]? = some (.cells cur e (0, 0)))
 (h1 : m ≤ cap) (h2 : cap ≤ maxLen) (h3 : cur.size = cap * 14) :
 (sortWorldK Pa.vals 14 w g 0 n ts.toArray os).ownsRow base e 14 (.slice (some ⟨g, 0, none⟩) m cap) m (ts.flatMap Pa.vals) := by
 have hf := flat_length Pa.vals_length ts
 refine ⟨by rw [hf, hl], .inr ⟨g, cap, _, rfl, hbase, heap_sortedK _ hb, h1, h2, by simp [putCells, h3], ?_⟩⟩
 rw [flatK_pas, ← hl, ← hf]
 exact take_putCellsV cur _ (by rw [hf, h3]; omega)
def cmpI (x y : Int) : Int := if x < y then -1 else if y < x then 1 else 0
theorem cmpI_lt (a b : Int) : cmpI a b < 0 ↔ a < b := by unfold cmpI; split <;> (try split) <;> omega
def cmpPa (x y : Pa) : Int := cmpI x.pack y.pack
theorem cmpPa_lt (a b : Pa) : cmpPa a b < 0 ↔ a.pack < b.pack := cmpI_lt _ _
theorem ltPa (x y : Pa) : ltOf cmpPa x y = decide (x.pack < y.pack) := by
 unfold ltOf
 by_cases h : x.pack < y.pack
 · simp [(cmpPa_lt x y).2 h, h]
 · have : ¬ cmpPa x y < 0 := fun e => h ((cmpPa_lt x y).1 e)
   simp [h]; omega
theorem swoPa : SWO (ltOf cmpPa) where
 irrefl x := by rw [ltPa]; simp
 trans x y z h1 h2 := by rw [ltPa, decide_eq_true_eq] at *; omega
 ntrans x y z h1 h2 := by rw [ltPa, decide_eq_false_iff_not] at *; omega
set_option maxRecDepth 100000 in
theorem compareInt_any (a b : Int) (w : World) : Calls Tryz.prog 125 #[.int .i64 a, .int .i64 b] w fun e w' => e = .returned (.int .i64 (cmpI a b)) ∧ w' = w := by
 have h1 : ∀ x : Int, (x != x) = false := fun x => by simp
 have ha := h1 a
 have hb := h1 b
 clear h1
 by_cases hab : a < b
 · have HE := Hd (show cmpI a b = -1 by unfold cmpI; rw [if_pos hab])
   go_enter Tryz.func125, Tryz.ntmps125
   go_wp2
   go_ret
   exact ⟨ret_int HE.out.symm, rfl⟩
 · by_cases hba : b < a
   · have HE := Hd (show cmpI a b = 1 by unfold cmpI; rw [if_neg hab, if_pos hba])
     go_enter Tryz.func125, Tryz.ntmps125
     go_wp2
     go_ret
     exact ⟨ret_int HE.out.symm, rfl⟩
   · have HE := Hd (show cmpI a b = 0 by unfold cmpI; rw [if_neg hab, if_neg hba])
     go_enter Tryz.func125, Tryz.ntmps125
     go_wp2
     go_ret
     exact ⟨ret_int HE.out.symm, rfl⟩
set_option maxRecDepth 100000 in
set_option maxHeartbeats 4000000 in
theorem order_grow (a b : Pa) (w : World) :
 Calls Tryz.prog 124 #[.agg #[.int .i64 a.id, .int .i64 a.known, .int .u8 a.kind, .int .i64 a.loss, .int .i64 a.pack, .int .i64 a.inn, .string ⟨a.mark.toArray⟩, .string ⟨a.goods.toArray⟩, .int .i64 a.low, .int .i64 a.high, .int .i64 a.pieces, .int .i64 a.owner, .int .i64 a.count, .int .i64 a.of], .agg #[.int .i64 b.id, .int .i64 b.known, .int .u8 b.kind, .int .i64 b.loss, .int .i64 b.pack, .int .i64 b.inn, .string ⟨b.mark.toArray⟩, .string ⟨b.goods.toArray⟩, .int .i64 b.low, .int .i64 b.high, .int .i64 b.pieces, .int .i64 b.owner, .int .i64 b.count, .int .i64 b.of]] w fun e w' => e = .returned (.int .i64 (cmpPa a b)) ∧ ∃ q os', w' = Sort.grow (w.drewN q) os' := by
 have e0 : ((w.alloc (.cells #[.int .i64 a.id, .int .i64 a.known, .int .u8 a.kind, .int .i64 a.loss, .int .i64 a.pack, .int .i64 a.inn, .string ⟨a.mark.toArray⟩, .string ⟨a.goods.toArray⟩, .int .i64 a.low, .int .i64 a.high, .int .i64 a.pieces, .int .i64 a.owner, .int .i64 a.count, .int .i64 a.of] 42)).alloc (.cells #[.int .i64 b.id, .int .i64 b.known, .int .u8 b.kind, .int .i64 b.loss, .int .i64 b.pack, .int .i64 b.inn, .string ⟨b.mark.toArray⟩, .string ⟨b.goods.toArray⟩, .int .i64 b.low, .int .i64 b.high, .int .i64 b.pieces, .int .i64 b.owner, .int .i64 b.count, .int .i64 b.of] 42)).cell? ⟨w.heap.size, 4, none⟩ = some (.int .i64 a.pack) := by simp
 have e1 : ((w.alloc (.cells #[.int .i64 a.id, .int .i64 a.known, .int .u8 a.kind, .int .i64 a.loss, .int .i64 a.pack, .int .i64 a.inn, .string ⟨a.mark.toArray⟩, .string ⟨a.goods.toArray⟩, .int .i64 a.low, .int .i64 a.high, .int .i64 a.pieces, .int .i64 a.owner, .int .i64 a.count, .int .i64 a.of] 42)).alloc (.cells #[.int .i64 b.id, .int .i64 b.known, .int .u8 b.kind, .int .i64 b.loss, .int .i64 b.pack, .int .i64 b.inn, .string ⟨b.mark.toArray⟩, .string ⟨b.goods.toArray⟩, .int .i64 b.low, .int .i64 b.high, .int .i64 b.pieces, .int .i64 b.owner, .int .i64 b.count, .int .i64 b.of] 42)).cell? ⟨w.heap.size + 1, 4, none⟩ = some (.int .i64 b.pack) := by simp
 have HW := Hd (show ((w.alloc (.cells #[.int .i64 a.id, .int .i64 a.known, .int .u8 a.kind, .int .i64 a.loss, .int .i64 a.pack, .int .i64 a.inn, .string ⟨a.mark.toArray⟩, .string ⟨a.goods.toArray⟩, .int .i64 a.low, .int .i64 a.high, .int .i64 a.pieces, .int .i64 a.owner, .int .i64 a.count, .int .i64 a.of] 42)).alloc (.cells #[.int .i64 b.id, .int .i64 b.known, .int .u8 b.kind, .int .i64 b.loss, .int .i64 b.pack, .int .i64 b.inn, .string ⟨b.mark.toArray⟩, .string ⟨b.goods.toArray⟩, .int .i64 b.low, .int .i64 b.high, .int .i64 b.pieces, .int .i64 b.owner, .int .i64 b.count, .int .i64 b.of] 42)) = Sort.grow w #[.cells #[.int .i64 a.id, .int .i64 a.known, .int .u8 a.kind, .int .i64 a.loss, .int .i64 a.pack, .int .i64 a.inn, .string ⟨a.mark.toArray⟩, .string ⟨a.goods.toArray⟩, .int .i64 a.low, .int .i64 a.high, .int .i64 a.pieces, .int .i64 a.owner, .int .i64 a.count, .int .i64 a.of] 42, .cells #[.int .i64 b.id, .int .i64 b.known, .int .u8 b.kind, .int .i64 b.loss, .int .i64 b.pack, .int .i64 b.inn, .string ⟨b.mark.toArray⟩, .string ⟨b.goods.toArray⟩, .int .i64 b.low, .int .i64 b.high, .int .i64 b.pieces, .int .i64 b.owner, .int .i64 b.count, .int .i64 b.of] 42] from by rw [Sort.alloc_eq_grow, Sort.alloc_eq_grow, Sort.grow_grow]; rfl)
 go_enter Tryz.func124, Tryz.ntmps124
 go_upto_region 1 with (fail)
 generalize ((w.alloc (.cells #[.int .i64 a.id, .int .i64 a.known, .int .u8 a.kind, .int .i64 a.loss, .int .i64 a.pack, .int .i64 a.inn, .string ⟨a.mark.toArray⟩, .string ⟨a.goods.toArray⟩, .int .i64 a.low, .int .i64 a.high, .int .i64 a.pieces, .int .i64 a.owner, .int .i64 a.count, .int .i64 a.of] 42)).alloc (.cells #[.int .i64 b.id, .int .i64 b.known, .int .u8 b.kind, .int .i64 b.loss, .int .i64 b.pack, .int .i64 b.inn, .string ⟨b.mark.toArray⟩, .string ⟨b.goods.toArray⟩, .int .i64 b.low, .int .i64 b.high, .int .i64 b.pieces, .int .i64 b.owner, .int .i64 b.count, .int .i64 b.of] 42)) = W at *
 have hz : w.heap.size + 1 < W.heap.size := World.block_lt_of_cell? W _ e1
 go_wp2_with (first | (go_at_call 125; refine (compareInt_any _ _ _).mono ?_; rintro e w' ⟨rfl, rfl⟩))
 go_ret
 exact ⟨ret_int rfl, 0, _, by rw [HW.out]; rfl⟩
theorem cmpLaysPa (blk off size : Nat) (w : World) : CmpLays Tryz.prog 124 #[] Pa.vals 14 cmpPa blk off size w :=
 fun _ _ _ _ x y => order_grow x y _
set_option maxHeartbeats 1000000 in
theorem sortPa_any (w : World) (base : Nat) (v : Value) (ss : List Pa) (hrow : w.ownsRow base 42 14 v ss.length (ss.flatMap Pa.vals)) (hn : ss.length ≤ 1000000) :
 Calls Tryz.prog 126 #[v, .func (.func 124) #[] #[]] w fun e w' => e = .returned (.tuple #[]) ∧ ∃ ts : List Pa, ts.Perm ss ∧ ts.Pairwise (fun x y => ¬ y.pack < x.pack) ∧
  w'.ownsRow base 42 14 v ts.length (ts.flatMap Pa.vals) ∧ w.grownBy w' v.ownBlock := by
 rcases hrow.2 with ⟨rfl, hz⟩ | ⟨gb, cap, cur, rfl, hbase, hgb, r1, r2, r3, r4⟩
 · have hss : ss = [] := List.eq_nil_of_length_eq_zero hz
   subst hss
   refine (AnyF.slices_SortFunc_none (P := Tryz.prog) (ρ := sortP_ren) { sortP with } none 0 (.func (.func 124) #[] #[]) w).mono ?_
   rintro e w' ⟨rfl, rfl⟩
   exact ⟨rfl, [], List.Perm.refl _, List.Pairwise.nil, hrow, ⟨rfl, rfl, rfl, Nat.le_refl _, fun _ _ _ => rfl⟩⟩
 · have hH : HoldsK Pa.vals 14 w gb 0 ss.toArray := holdsK_of_block hgb r4
   have hgl : gb < w.heap.size := (Array.getElem?_eq_some_iff.1 hgb).1
   have eg : ∀ args w, (callFunc 124 args).run Tryz.prog w = .ok (.enter 124 args) w := enters_of Tryz.func124 (by kernel_rfl) rfl
   have hcon := AnyQ.slices_SortFunc sortP 14 Tryz.isAgg42 Tryz.sizeOf42 Pa.vals Pa.vals_length (fun x v hv => pa_one [x] v (by simpa using hv)) cmpPa swoPa 124 #[] gb 0 cap ss.toArray w eg (cmpLaysPa gb 0 _ w) hH hgl (by simp; omega)
   refine Calls.mono hcon ?_
   rintro e w' ⟨rfl, d', n, os, hp, hs, rfl⟩
   have hsz : d'.size = ss.length := by rw [hp.1]; simp
   have hl : d'.toList.length = ss.length := by simpa using hsz
   refine ⟨rfl, d'.toList, ?_, ?_, ?_, ?_⟩
   · have h2 := hp.2.2
     rw [show (ss.toArray.extract 0 ss.toArray.size) = ss.toArray from Array.extract_size, show d'.extract 0 ss.toArray.size = d' from by rw [← hp.1]; exact Array.extract_size] at h2
     exact h2
   · rw [List.pairwise_iff_getElem]
     intro i j hi hj hij
     have hi' : i < d'.size := by simpa using hi
     have hj' : j < d'.size := by simpa using hj
     have := hs i j (Nat.zero_le _) hij (by rw [← hp.1]; exact hj')
     rw [ltPa, getElem!_pos d' j hj', getElem!_pos d' i hi'] at this
     simpa using this
   · have := ownsRow_sortedK (w := w) (n := n) (os := os) (ts := d'.toList) hl hbase hgb r1 r2 r3
     rw [hl]
     simpa using this
   · exact grownBy_sortedK _
end Go.Proofs.YtehplmeckfinoaaGreatDoor
