/- The walks of of, and of a manifest's paper and total. -/
import Derived.Test.YtehplmeckfinoaaGreatDoorCAppend
import Derived.Test.YtehplmeckfinoaaGreatDoorCNums
import Derived.Deep.Cut
import Derived.Deep.RegionHeld3
set_option linter.unusedSimpArgs false
set_option linter.unusedVariables false
namespace Go.Proofs.YtehplmeckfinoaaGreatDoor
open Go.RowKit Go.Shelf
def ofL (xs : List Pa) (pack : Int) : Option Pa := xs.find? (fun y => decide (y.pack = pack))
def ofV (o : Option Pa) : Pa := o.getD pa0
theorem ofL_none {xs : List Pa} {pack : Int} (h : xs.any (fun y => decide (y.pack = pack)) = false) : ofL xs pack = none := by
 unfold ofL
 rw [List.find?_eq_none]
 intro x hx e
 have := (List.any_eq_true (p := fun y : Pa => decide (y.pack = pack))).2 ⟨x, hx, e⟩
 rw [h] at this; cases this
theorem ofL_some {xs : List Pa} {pack : Int} (h : xs.any (fun y => decide (y.pack = pack)) = true) : ∃ (i : Nat) (x : Pa), idxP (fun y => decide (y.pack = pack)) xs = (i : Int) ∧ xs[i]? = some x ∧ ofL xs pack = some x := by
 have h0 := idxP_ge h
 unfold idxP at h0 ⊢
 cases e : xs.findIdx? (fun y => decide (y.pack = pack)) with
 | none => rw [e] at h0; simp at h0
 | some i =>
   obtain ⟨hi, hp, hlt⟩ := List.findIdx?_eq_some_iff_getElem.1 e
   refine ⟨i, xs[i], rfl, List.getElem?_eq_getElem hi, ?_⟩
   unfold ofL
   rw [List.find?_eq_some_iff_getElem]
   exact ⟨hp, i, hi, rfl, fun j hj => by simpa using hlt j hj⟩
set_option maxRecDepth 100000 in
theorem of1_any (y : Pa) (pack : Int) (B : Nat) (w : World) (hlt : B < w.heap.size) (h : w.cell? ⟨B, 0, none⟩ = some (.int .i64 pack)) :
 Calls Tryz.prog 113 #[.agg #[.int .i64 y.id, .int .i64 y.known, .int .u8 y.kind, .int .i64 y.loss, .int .i64 y.pack, .int .i64 y.inn, .string ⟨y.mark.toArray⟩, .string ⟨y.goods.toArray⟩, .int .i64 y.low, .int .i64 y.high, .int .i64 y.pieces, .int .i64 y.owner, .int .i64 y.count, .int .i64 y.of], .pointer (some ⟨B, 0, none⟩)] w fun e w' => e = .returned (.bool (decide (y.pack = pack))) ∧ Below w.heap.size w w' := by
 have HB := Hd (al' (Below.refl w.heap.size w) (.cells #[.int .i64 y.id, .int .i64 y.known, .int .u8 y.kind, .int .i64 y.loss, .int .i64 y.pack, .int .i64 y.inn, .string ⟨y.mark.toArray⟩, .string ⟨y.goods.toArray⟩, .int .i64 y.low, .int .i64 y.high, .int .i64 y.pieces, .int .i64 y.owner, .int .i64 y.count, .int .i64 y.of] 42))
 by_cases hp : y.pack = pack
 · have q : (y.pack == pack) = true := by simpa using hp
   rw [decide_eq_true hp]
   clear hp
   go_enter Tryz.func113, Tryz.ntmps113
   go_wp2_with fail
   go_ret
   exact ⟨rfl, HB.out⟩
 · have q : (y.pack == pack) = false := by simpa using hp
   rw [decide_eq_false hp]
   clear hp
   go_enter Tryz.func113, Tryz.ntmps113
   go_wp2_with fail
   go_ret
   exact ⟨rfl, HB.out⟩
set_option maxRecDepth 100000 in
set_option maxHeartbeats 4000000 in
theorem of_any (a : Option Addr) (n cap : Nat) (xs : List Pa) (pack : Int) (w : World) (h : Rd Pa.vals 14 w a n xs) :
 Calls Tryz.prog 86 #[.slice a n cap, .int .i64 pack] w fun e w' => e = .returned (.tuple #[.agg #[.int .i64 (ofV (ofL xs pack)).id, .int .i64 (ofV (ofL xs pack)).known, .int .u8 (ofV (ofL xs pack)).kind, .int .i64 (ofV (ofL xs pack)).loss, .int .i64 (ofV (ofL xs pack)).pack, .int .i64 (ofV (ofL xs pack)).inn, .string ⟨(ofV (ofL xs pack)).mark.toArray⟩, .string ⟨(ofV (ofL xs pack)).goods.toArray⟩, .int .i64 (ofV (ofL xs pack)).low, .int .i64 (ofV (ofL xs pack)).high, .int .i64 (ofV (ofL xs pack)).pieces, .int .i64 (ofV (ofL xs pack)).owner, .int .i64 (ofV (ofL xs pack)).count, .int .i64 (ofV (ofL xs pack)).of], .bool (ofL xs pack).isSome]) ∧ Below w.heap.size w w' := by
 have HR := Hd h
 have Hl := Hd h.len
 have hm := h.cap
 unfold maxLen at hm
 clear h
 go_enter Tryz.func86, Tryz.ntmps86
 have hc : ((w.alloc (.cells #[.int .i64 pack] 3)).alloc (.cells #[.int .i64 0, .int .i64 0, .int .u8 0, .int .i64 0, .int .i64 0, .int .i64 0, .string ⟨#[]⟩, .string ⟨#[]⟩, .int .i64 0, .int .i64 0, .int .i64 0, .int .i64 0, .int .i64 0, .int .i64 0] 42)).cell? ⟨w.heap.size, 0, none⟩ = some (.int .i64 pack) := cell_stays (by rw [cell_of_row _ _ _ _ _ (0, 0) (heap_alloc_new w _)]; rfl) (al' (Below.refl _ _) _)
 have hbx : BoxG ((w.alloc (.cells #[.int .i64 pack] 3)).alloc (.cells #[.int .i64 0, .int .i64 0, .int .u8 0, .int .i64 0, .int .i64 0, .int .i64 0, .string ⟨#[]⟩, .string ⟨#[]⟩, .int .i64 0, .int .i64 0, .int .i64 0, .int .i64 0, .int .i64 0, .int .i64 0] 42)) (w.heap.size + 1) pa0.vals := by
  have := BoxG.made (w.alloc (.cells #[.int .i64 pack] 3)) pa0.vals 42
  simpa [Pa.vals, pa0] using this
 have hB : Below w.heap.size w ((w.alloc (.cells #[.int .i64 pack] 3)).alloc (.cells #[.int .i64 0, .int .i64 0, .int .u8 0, .int .i64 0, .int .i64 0, .int .i64 0, .string ⟨#[]⟩, .string ⟨#[]⟩, .int .i64 0, .int .i64 0, .int .i64 0, .int .i64 0, .int .i64 0, .int .i64 0] 42)) := al' (al' (Below.refl _ _) _) _
 have hr := HR.out.below' hB
 go_upto_region 1 with (fail)
 generalize (w.alloc (.cells #[.int .i64 pack] 3)).alloc (.cells #[.int .i64 0, .int .i64 0, .int .u8 0, .int .i64 0, .int .i64 0, .int .i64 0, .string ⟨#[]⟩, .string ⟨#[]⟩, .int .i64 0, .int .i64 0, .int .i64 0, .int .i64 0, .int .i64 0, .int .i64 0] 42) = w2 at *
 obtain ⟨B4, hB4⟩ : ∃ B, w.heap.size + 1 = B := ⟨_, rfl⟩
 have HLe := Hd (show w.heap.size ≤ B4 from by omega)
 rw [hB4] at hbx ⊢
 have HX2 := Hd hbx
 have HB2 := Hd hB
 have HR2 := Hd hr
 have HC2 := Hd hc
 clear hbx hB hr hc hB4 HR
 go_wp2_with fail
 refine (having_any 113 #[.pointer (some ⟨w.heap.size, 0, none⟩)] (enters_of Tryz.func113 (by kernel_rfl) rfl) (fun y => decide (y.pack = pack)) a n cap xs w2 HR2.out (fun W y _ hBW => of1_any y pack w.heap.size W (World.block_lt_of_cell? _ _ (cell_stays HC2.out hBW)) (cell_stays HC2.out hBW))).mono ?_
 rintro e w3 ⟨rfl, hB⟩
 have HX3 := Hd (HX2.out.below' hB)
 have HB3 := Hd (HB2.out.trans (hB.mono HB2.out.size))
 have HR3 := Hd (HR2.out.below' hB)
 clear hB HX2 HB2 HR2 HC2
 cases h1 : xs.any (fun y => decide (y.pack = pack)) with
 | false =>
   have HE := Hd (ofL_none h1)
   rw [idxP_none h1]
   clear h1
   obtain ⟨d0, d1, d2, d3, d4, d5, d6, d7, d8, d9, d10, d11, d12, d13⟩ := HX3.out.pa
   simp only [pa0] at d0 d1 d2 d3 d4 d5 d6 d7 d8 d9 d10 d11 d12 d13
   obtain ⟨f0, f1, f2, f3, f4, f5, f6, f7, f8, f9, f10, f11, f12, f13⟩ := HX3.out.fr
   go_wp2_with fail
   have hz : BoxG ((((((((((((((w3.setCell ⟨B4, 0, none⟩ (.int .i64 0)).setCell ⟨B4, 1, none⟩ (.int .i64 0)).setCell ⟨B4, 2, none⟩ (.int .u8 0)).setCell ⟨B4, 3, none⟩ (.int .i64 0)).setCell ⟨B4, 4, none⟩ (.int .i64 0)).setCell ⟨B4, 5, none⟩ (.int .i64 0)).setCell ⟨B4, 6, none⟩ (.string ⟨#[]⟩)).setCell ⟨B4, 7, none⟩ (.string ⟨#[]⟩)).setCell ⟨B4, 8, none⟩ (.int .i64 0)).setCell ⟨B4, 9, none⟩ (.int .i64 0)).setCell ⟨B4, 10, none⟩ (.int .i64 0)).setCell ⟨B4, 11, none⟩ (.int .i64 0)).setCell ⟨B4, 12, none⟩ (.int .i64 0)).setCell ⟨B4, 13, none⟩ (.int .i64 0)) B4 (Pa.vals pa0) := ((((((((((((((HX3.out.set 0 (.int .i64 0) (by simp [Pa.vals])).set 1 (.int .i64 0) (by simp [Pa.vals])).set 2 (.int .u8 0) (by simp [Pa.vals])).set 3 (.int .i64 0) (by simp [Pa.vals])).set 4 (.int .i64 0) (by simp [Pa.vals])).set 5 (.int .i64 0) (by simp [Pa.vals])).set 6 (.string ⟨#[]⟩) (by simp [Pa.vals])).set 7 (.string ⟨#[]⟩) (by simp [Pa.vals])).set 8 (.int .i64 0) (by simp [Pa.vals])).set 9 (.int .i64 0) (by simp [Pa.vals])).set 10 (.int .i64 0) (by simp [Pa.vals])).set 11 (.int .i64 0) (by simp [Pa.vals])).set 12 (.int .i64 0) (by simp [Pa.vals])).set 13 (.int .i64 0) (by simp [Pa.vals]))
   have hb5 := ((((((((((((((HB3.out.setCell (p := ⟨B4, 0, none⟩) HLe.out (.int .i64 0)).setCell (p := ⟨B4, 1, none⟩) HLe.out (.int .i64 0)).setCell (p := ⟨B4, 2, none⟩) HLe.out (.int .u8 0)).setCell (p := ⟨B4, 3, none⟩) HLe.out (.int .i64 0)).setCell (p := ⟨B4, 4, none⟩) HLe.out (.int .i64 0)).setCell (p := ⟨B4, 5, none⟩) HLe.out (.int .i64 0)).setCell (p := ⟨B4, 6, none⟩) HLe.out (.string ⟨#[]⟩)).setCell (p := ⟨B4, 7, none⟩) HLe.out (.string ⟨#[]⟩)).setCell (p := ⟨B4, 8, none⟩) HLe.out (.int .i64 0)).setCell (p := ⟨B4, 9, none⟩) HLe.out (.int .i64 0)).setCell (p := ⟨B4, 10, none⟩) HLe.out (.int .i64 0)).setCell (p := ⟨B4, 11, none⟩) HLe.out (.int .i64 0)).setCell (p := ⟨B4, 12, none⟩) HLe.out (.int .i64 0)).setCell (p := ⟨B4, 13, none⟩) HLe.out (.int .i64 0))
   clear d0 d1 d2 d3 d4 d5 d6 d7 d8 d9 d10 d11 d12 d13 f0 f1 f2 f3 f4 f5 f6 f7 f8 f9 f10 f11 f12 f13
   generalize ((((((((((((((w3.setCell ⟨B4, 0, none⟩ (.int .i64 0)).setCell ⟨B4, 1, none⟩ (.int .i64 0)).setCell ⟨B4, 2, none⟩ (.int .u8 0)).setCell ⟨B4, 3, none⟩ (.int .i64 0)).setCell ⟨B4, 4, none⟩ (.int .i64 0)).setCell ⟨B4, 5, none⟩ (.int .i64 0)).setCell ⟨B4, 6, none⟩ (.string ⟨#[]⟩)).setCell ⟨B4, 7, none⟩ (.string ⟨#[]⟩)).setCell ⟨B4, 8, none⟩ (.int .i64 0)).setCell ⟨B4, 9, none⟩ (.int .i64 0)).setCell ⟨B4, 10, none⟩ (.int .i64 0)).setCell ⟨B4, 11, none⟩ (.int .i64 0)).setCell ⟨B4, 12, none⟩ (.int .i64 0)).setCell ⟨B4, 13, none⟩ (.int .i64 0)) = W5 at *
   have zl3 := hz.1
   obtain ⟨r0, r1, r2, r3, r4, r5, r6, r7, r8, r9, r10, r11, r12, r13⟩ := hz.pa
   simp only [pa0] at r0 r1 r2 r3 r4 r5 r6 r7 r8 r9 r10 r11 r12 r13
   have HB5 := Hd hb5
   clear hb5 hz
   refine bodyPost_ret (v := .tuple #[.agg #[.int .i64 0, .int .i64 0, .int .u8 0, .int .i64 0, .int .i64 0, .int .i64 0, .string ⟨#[]⟩, .string ⟨#[]⟩, .int .i64 0, .int .i64 0, .int .i64 0, .int .i64 0, .int .i64 0, .int .i64 0], .bool false]) (by simp [results, Tryz.results86, go_sem, zl3, r0, r1, r2, r3, r4, r5, r6, r7, r8, r9, r10, r11, r12, r13]) rfl ⟨?_, HB5.out⟩
   rw [HE.out]; rfl
 | true =>
   obtain ⟨i, x, hix, hx, ho⟩ := ofL_some h1
   have HE := Hd ho
   rw [hix]
   have hin : i < n := by
    have := (List.getElem?_eq_some_iff.1 hx).1
    rw [Hl.out] at this; exact this
   have hin' : (i : Int) < (n : Int) := by omega
   have hi0 : ¬ (i : Int) < 0 := by omega
   have h2' := HR3.out.pa hin
   obtain ⟨b, off, x', rfl, hb, hx', c0, c1, c2, c3, c4, c5, c6, c7, c8, c9, c10, c11, c12, c13⟩ := h2'
   obtain rfl : x = x' := by rw [hx] at hx'; exact Option.some.inj hx'
   obtain ⟨d0, d1, d2, d3, d4, d5, d6, d7, d8, d9, d10, d11, d12, d13⟩ := HX3.out.pa
   simp only [pa0] at d0 d1 d2 d3 d4 d5 d6 d7 d8 d9 d10 d11 d12 d13
   obtain ⟨f0, f1, f2, f3, f4, f5, f6, f7, f8, f9, f10, f11, f12, f13⟩ := HX3.out.fr
   clear h1 hix hx hx' ho
   go_wp2_with fail
   clear c0 c1 c2 c3 c4 c5 c6 c7 c8 c9 c10 c11 c12 c13
   have hz : BoxG ((((((((((((((w3.setCell ⟨B4, 0, none⟩ (.int .i64 x.id)).setCell ⟨B4, 1, none⟩ (.int .i64 x.known)).setCell ⟨B4, 2, none⟩ (.int .u8 x.kind)).setCell ⟨B4, 3, none⟩ (.int .i64 x.loss)).setCell ⟨B4, 4, none⟩ (.int .i64 x.pack)).setCell ⟨B4, 5, none⟩ (.int .i64 x.inn)).setCell ⟨B4, 6, none⟩ (.string ⟨x.mark.toArray⟩)).setCell ⟨B4, 7, none⟩ (.string ⟨x.goods.toArray⟩)).setCell ⟨B4, 8, none⟩ (.int .i64 x.low)).setCell ⟨B4, 9, none⟩ (.int .i64 x.high)).setCell ⟨B4, 10, none⟩ (.int .i64 x.pieces)).setCell ⟨B4, 11, none⟩ (.int .i64 x.owner)).setCell ⟨B4, 12, none⟩ (.int .i64 x.count)).setCell ⟨B4, 13, none⟩ (.int .i64 x.of)) B4 (Pa.vals x) := ((((((((((((((HX3.out.set 0 (.int .i64 x.id) (by simp [Pa.vals])).set 1 (.int .i64 x.known) (by simp [Pa.vals])).set 2 (.int .u8 x.kind) (by simp [Pa.vals])).set 3 (.int .i64 x.loss) (by simp [Pa.vals])).set 4 (.int .i64 x.pack) (by simp [Pa.vals])).set 5 (.int .i64 x.inn) (by simp [Pa.vals])).set 6 (.string ⟨x.mark.toArray⟩) (by simp [Pa.vals])).set 7 (.string ⟨x.goods.toArray⟩) (by simp [Pa.vals])).set 8 (.int .i64 x.low) (by simp [Pa.vals])).set 9 (.int .i64 x.high) (by simp [Pa.vals])).set 10 (.int .i64 x.pieces) (by simp [Pa.vals])).set 11 (.int .i64 x.owner) (by simp [Pa.vals])).set 12 (.int .i64 x.count) (by simp [Pa.vals])).set 13 (.int .i64 x.of) (by simp [Pa.vals]))
   have hb5 := ((((((((((((((HB3.out.setCell (p := ⟨B4, 0, none⟩) HLe.out (.int .i64 x.id)).setCell (p := ⟨B4, 1, none⟩) HLe.out (.int .i64 x.known)).setCell (p := ⟨B4, 2, none⟩) HLe.out (.int .u8 x.kind)).setCell (p := ⟨B4, 3, none⟩) HLe.out (.int .i64 x.loss)).setCell (p := ⟨B4, 4, none⟩) HLe.out (.int .i64 x.pack)).setCell (p := ⟨B4, 5, none⟩) HLe.out (.int .i64 x.inn)).setCell (p := ⟨B4, 6, none⟩) HLe.out (.string ⟨x.mark.toArray⟩)).setCell (p := ⟨B4, 7, none⟩) HLe.out (.string ⟨x.goods.toArray⟩)).setCell (p := ⟨B4, 8, none⟩) HLe.out (.int .i64 x.low)).setCell (p := ⟨B4, 9, none⟩) HLe.out (.int .i64 x.high)).setCell (p := ⟨B4, 10, none⟩) HLe.out (.int .i64 x.pieces)).setCell (p := ⟨B4, 11, none⟩) HLe.out (.int .i64 x.owner)).setCell (p := ⟨B4, 12, none⟩) HLe.out (.int .i64 x.count)).setCell (p := ⟨B4, 13, none⟩) HLe.out (.int .i64 x.of))
   clear d0 d1 d2 d3 d4 d5 d6 d7 d8 d9 d10 d11 d12 d13 f0 f1 f2 f3 f4 f5 f6 f7 f8 f9 f10 f11 f12 f13
   generalize ((((((((((((((w3.setCell ⟨B4, 0, none⟩ (.int .i64 x.id)).setCell ⟨B4, 1, none⟩ (.int .i64 x.known)).setCell ⟨B4, 2, none⟩ (.int .u8 x.kind)).setCell ⟨B4, 3, none⟩ (.int .i64 x.loss)).setCell ⟨B4, 4, none⟩ (.int .i64 x.pack)).setCell ⟨B4, 5, none⟩ (.int .i64 x.inn)).setCell ⟨B4, 6, none⟩ (.string ⟨x.mark.toArray⟩)).setCell ⟨B4, 7, none⟩ (.string ⟨x.goods.toArray⟩)).setCell ⟨B4, 8, none⟩ (.int .i64 x.low)).setCell ⟨B4, 9, none⟩ (.int .i64 x.high)).setCell ⟨B4, 10, none⟩ (.int .i64 x.pieces)).setCell ⟨B4, 11, none⟩ (.int .i64 x.owner)).setCell ⟨B4, 12, none⟩ (.int .i64 x.count)).setCell ⟨B4, 13, none⟩ (.int .i64 x.of)) = W5 at *
   have zl3 := hz.1
   obtain ⟨r0, r1, r2, r3, r4, r5, r6, r7, r8, r9, r10, r11, r12, r13⟩ := hz.pa
   have HB5 := Hd hb5
   clear hb5 hz
   refine bodyPost_ret (v := .tuple #[.agg #[.int .i64 x.id, .int .i64 x.known, .int .u8 x.kind, .int .i64 x.loss, .int .i64 x.pack, .int .i64 x.inn, .string ⟨x.mark.toArray⟩, .string ⟨x.goods.toArray⟩, .int .i64 x.low, .int .i64 x.high, .int .i64 x.pieces, .int .i64 x.owner, .int .i64 x.count, .int .i64 x.of], .bool true]) (by simp [results, Tryz.results86, go_sem, zl3, r0, r1, r2, r3, r4, r5, r6, r7, r8, r9, r10, r11, r12, r13]) rfl ⟨?_, HB5.out⟩
   rw [HE.out]; rfl
set_option maxRecDepth 100000 in
set_option maxHeartbeats 4000000 in
theorem paper_any (a : Option Addr) (n cap : Nat) (a2 : Option Addr) (n2 cap2 : Nat) (xs : List Pa) (pack : Int) (w : World) (h : Rd Pa.vals 14 w a n xs) :
 Calls Tryz.prog 48 #[.agg #[.slice a n cap, .slice a2 n2 cap2], .int .i64 pack] w fun e w' => e = .returned (.tuple #[.agg #[.int .i64 (ofV (ofL xs pack)).id, .int .i64 (ofV (ofL xs pack)).known, .int .u8 (ofV (ofL xs pack)).kind, .int .i64 (ofV (ofL xs pack)).loss, .int .i64 (ofV (ofL xs pack)).pack, .int .i64 (ofV (ofL xs pack)).inn, .string ⟨(ofV (ofL xs pack)).mark.toArray⟩, .string ⟨(ofV (ofL xs pack)).goods.toArray⟩, .int .i64 (ofV (ofL xs pack)).low, .int .i64 (ofV (ofL xs pack)).high, .int .i64 (ofV (ofL xs pack)).pieces, .int .i64 (ofV (ofL xs pack)).owner, .int .i64 (ofV (ofL xs pack)).count, .int .i64 (ofV (ofL xs pack)).of], .bool (ofL xs pack).isSome]) ∧ Below w.heap.size w w' := by
 have HR := Hd h
 clear h
 obtain ⟨q, hq⟩ : ∃ q, ofV (ofL xs pack) = q := ⟨_, rfl⟩
 obtain ⟨bb, hbb⟩ : ∃ b, (ofL xs pack).isSome = b := ⟨_, rfl⟩
 have CO := Hd (show ∀ W, Rd Pa.vals 14 W a n xs → Calls Tryz.prog 86 #[.slice a n cap, .int .i64 pack] W fun e w' => e = .returned (.tuple #[.agg #[.int .i64 q.id, .int .i64 q.known, .int .u8 q.kind, .int .i64 q.loss, .int .i64 q.pack, .int .i64 q.inn, .string ⟨q.mark.toArray⟩, .string ⟨q.goods.toArray⟩, .int .i64 q.low, .int .i64 q.high, .int .i64 q.pieces, .int .i64 q.owner, .int .i64 q.count, .int .i64 q.of], .bool bb]) ∧ Below W.heap.size W w' from fun W hW => by
  rw [← hq, ← hbb]; exact of_any a n cap xs pack W hW)
 rw [hq, hbb]
 clear hq hbb
 have hbx : BoxG ((w.alloc (.cells #[.slice a n cap, .slice a2 n2 cap2] 62)).alloc (.cells #[.int .i64 0, .int .i64 0, .int .u8 0, .int .i64 0, .int .i64 0, .int .i64 0, .string ⟨#[]⟩, .string ⟨#[]⟩, .int .i64 0, .int .i64 0, .int .i64 0, .int .i64 0, .int .i64 0, .int .i64 0] 42)) (w.heap.size + 1) pa0.vals := by
  have := BoxG.made (w.alloc (.cells #[.slice a n cap, .slice a2 n2 cap2] 62)) pa0.vals 42
  simpa [Pa.vals, pa0] using this
 have hB : Below w.heap.size w ((w.alloc (.cells #[.slice a n cap, .slice a2 n2 cap2] 62)).alloc (.cells #[.int .i64 0, .int .i64 0, .int .u8 0, .int .i64 0, .int .i64 0, .int .i64 0, .string ⟨#[]⟩, .string ⟨#[]⟩, .int .i64 0, .int .i64 0, .int .i64 0, .int .i64 0, .int .i64 0, .int .i64 0] 42)) := al' (al' (Below.refl _ _) _) _
 have hm : ((w.alloc (.cells #[.slice a n cap, .slice a2 n2 cap2] 62)).alloc (.cells #[.int .i64 0, .int .i64 0, .int .u8 0, .int .i64 0, .int .i64 0, .int .i64 0, .string ⟨#[]⟩, .string ⟨#[]⟩, .int .i64 0, .int .i64 0, .int .i64 0, .int .i64 0, .int .i64 0, .int .i64 0] 42)).cell? ⟨w.heap.size, 0, none⟩ = some (.slice a n cap) := cell_stays (by rw [cell_of_row _ _ _ _ _ (0, 0) (heap_alloc_new w _)]; rfl) (al' (Below.refl _ _) _)
 have hr := HR.out.below' hB
 go_enter Tryz.func48, Tryz.ntmps48
 go_upto_region 1 with (fail)
 generalize (w.alloc (.cells #[.slice a n cap, .slice a2 n2 cap2] 62)).alloc (.cells #[.int .i64 0, .int .i64 0, .int .u8 0, .int .i64 0, .int .i64 0, .int .i64 0, .string ⟨#[]⟩, .string ⟨#[]⟩, .int .i64 0, .int .i64 0, .int .i64 0, .int .i64 0, .int .i64 0, .int .i64 0] 42) = w2 at *
 obtain ⟨B4, hB4⟩ : ∃ B, w.heap.size + 1 = B := ⟨_, rfl⟩
 have HLe := Hd (show w.heap.size ≤ B4 from by omega)
 rw [hB4] at hbx ⊢
 have HX2 := Hd hbx
 have HB2 := Hd hB
 have HR2 := Hd hr
 clear hbx hB hr hB4 HR
 go_wp2_with fail
 refine (CO.out _ HR2.out).mono ?_
 rintro e w3 ⟨rfl, hB⟩
 have HX3 := Hd (HX2.out.below' hB)
 have HB3 := Hd (HB2.out.trans (hB.mono HB2.out.size))
 clear hB HX2 HB2 HR2 CO hm
 obtain ⟨d0, d1, d2, d3, d4, d5, d6, d7, d8, d9, d10, d11, d12, d13⟩ := HX3.out.pa
 simp only [pa0] at d0 d1 d2 d3 d4 d5 d6 d7 d8 d9 d10 d11 d12 d13
 obtain ⟨f0, f1, f2, f3, f4, f5, f6, f7, f8, f9, f10, f11, f12, f13⟩ := HX3.out.fr
 go_wp2_with fail
 have hz : BoxG ((((((((((((((w3.setCell ⟨B4, 0, none⟩ (.int .i64 q.id)).setCell ⟨B4, 1, none⟩ (.int .i64 q.known)).setCell ⟨B4, 2, none⟩ (.int .u8 q.kind)).setCell ⟨B4, 3, none⟩ (.int .i64 q.loss)).setCell ⟨B4, 4, none⟩ (.int .i64 q.pack)).setCell ⟨B4, 5, none⟩ (.int .i64 q.inn)).setCell ⟨B4, 6, none⟩ (.string ⟨q.mark.toArray⟩)).setCell ⟨B4, 7, none⟩ (.string ⟨q.goods.toArray⟩)).setCell ⟨B4, 8, none⟩ (.int .i64 q.low)).setCell ⟨B4, 9, none⟩ (.int .i64 q.high)).setCell ⟨B4, 10, none⟩ (.int .i64 q.pieces)).setCell ⟨B4, 11, none⟩ (.int .i64 q.owner)).setCell ⟨B4, 12, none⟩ (.int .i64 q.count)).setCell ⟨B4, 13, none⟩ (.int .i64 q.of)) B4 (Pa.vals q) := ((((((((((((((HX3.out.set 0 (.int .i64 q.id) (by simp [Pa.vals])).set 1 (.int .i64 q.known) (by simp [Pa.vals])).set 2 (.int .u8 q.kind) (by simp [Pa.vals])).set 3 (.int .i64 q.loss) (by simp [Pa.vals])).set 4 (.int .i64 q.pack) (by simp [Pa.vals])).set 5 (.int .i64 q.inn) (by simp [Pa.vals])).set 6 (.string ⟨q.mark.toArray⟩) (by simp [Pa.vals])).set 7 (.string ⟨q.goods.toArray⟩) (by simp [Pa.vals])).set 8 (.int .i64 q.low) (by simp [Pa.vals])).set 9 (.int .i64 q.high) (by simp [Pa.vals])).set 10 (.int .i64 q.pieces) (by simp [Pa.vals])).set 11 (.int .i64 q.owner) (by simp [Pa.vals])).set 12 (.int .i64 q.count) (by simp [Pa.vals])).set 13 (.int .i64 q.of) (by simp [Pa.vals]))
 have hb5 := ((((((((((((((HB3.out.setCell (p := ⟨B4, 0, none⟩) HLe.out (.int .i64 q.id)).setCell (p := ⟨B4, 1, none⟩) HLe.out (.int .i64 q.known)).setCell (p := ⟨B4, 2, none⟩) HLe.out (.int .u8 q.kind)).setCell (p := ⟨B4, 3, none⟩) HLe.out (.int .i64 q.loss)).setCell (p := ⟨B4, 4, none⟩) HLe.out (.int .i64 q.pack)).setCell (p := ⟨B4, 5, none⟩) HLe.out (.int .i64 q.inn)).setCell (p := ⟨B4, 6, none⟩) HLe.out (.string ⟨q.mark.toArray⟩)).setCell (p := ⟨B4, 7, none⟩) HLe.out (.string ⟨q.goods.toArray⟩)).setCell (p := ⟨B4, 8, none⟩) HLe.out (.int .i64 q.low)).setCell (p := ⟨B4, 9, none⟩) HLe.out (.int .i64 q.high)).setCell (p := ⟨B4, 10, none⟩) HLe.out (.int .i64 q.pieces)).setCell (p := ⟨B4, 11, none⟩) HLe.out (.int .i64 q.owner)).setCell (p := ⟨B4, 12, none⟩) HLe.out (.int .i64 q.count)).setCell (p := ⟨B4, 13, none⟩) HLe.out (.int .i64 q.of))
 clear d0 d1 d2 d3 d4 d5 d6 d7 d8 d9 d10 d11 d12 d13 f0 f1 f2 f3 f4 f5 f6 f7 f8 f9 f10 f11 f12 f13
 generalize ((((((((((((((w3.setCell ⟨B4, 0, none⟩ (.int .i64 q.id)).setCell ⟨B4, 1, none⟩ (.int .i64 q.known)).setCell ⟨B4, 2, none⟩ (.int .u8 q.kind)).setCell ⟨B4, 3, none⟩ (.int .i64 q.loss)).setCell ⟨B4, 4, none⟩ (.int .i64 q.pack)).setCell ⟨B4, 5, none⟩ (.int .i64 q.inn)).setCell ⟨B4, 6, none⟩ (.string ⟨q.mark.toArray⟩)).setCell ⟨B4, 7, none⟩ (.string ⟨q.goods.toArray⟩)).setCell ⟨B4, 8, none⟩ (.int .i64 q.low)).setCell ⟨B4, 9, none⟩ (.int .i64 q.high)).setCell ⟨B4, 10, none⟩ (.int .i64 q.pieces)).setCell ⟨B4, 11, none⟩ (.int .i64 q.owner)).setCell ⟨B4, 12, none⟩ (.int .i64 q.count)).setCell ⟨B4, 13, none⟩ (.int .i64 q.of)) = W5 at *
 have zl3 := hz.1
 obtain ⟨r0, r1, r2, r3, r4, r5, r6, r7, r8, r9, r10, r11, r12, r13⟩ := hz.pa
 have HB5 := Hd hb5
 clear hb5 hz
 refine bodyPost_ret (v := .tuple #[.agg #[.int .i64 q.id, .int .i64 q.known, .int .u8 q.kind, .int .i64 q.loss, .int .i64 q.pack, .int .i64 q.inn, .string ⟨q.mark.toArray⟩, .string ⟨q.goods.toArray⟩, .int .i64 q.low, .int .i64 q.high, .int .i64 q.pieces, .int .i64 q.owner, .int .i64 q.count, .int .i64 q.of], .bool bb]) (by simp [results, Tryz.results48, go_sem, zl3, r0, r1, r2, r3, r4, r5, r6, r7, r8, r9, r10, r11, r12, r13]) rfl ⟨?_, HB5.out⟩
 rfl
set_option maxRecDepth 100000 in
set_option maxHeartbeats 4000000 in
theorem total_any (a : Option Addr) (n cap : Nat) (a2 : Option Addr) (n2 cap2 : Nat) (xs : List Pa) (pack : Int) (w : World) (h : Rd Pa.vals 14 w a2 n2 xs) :
 Calls Tryz.prog 58 #[.agg #[.slice a n cap, .slice a2 n2 cap2], .int .i64 pack] w fun e w' => e = .returned (.tuple #[.agg #[.int .i64 (ofV (ofL xs pack)).id, .int .i64 (ofV (ofL xs pack)).known, .int .u8 (ofV (ofL xs pack)).kind, .int .i64 (ofV (ofL xs pack)).loss, .int .i64 (ofV (ofL xs pack)).pack, .int .i64 (ofV (ofL xs pack)).inn, .string ⟨(ofV (ofL xs pack)).mark.toArray⟩, .string ⟨(ofV (ofL xs pack)).goods.toArray⟩, .int .i64 (ofV (ofL xs pack)).low, .int .i64 (ofV (ofL xs pack)).high, .int .i64 (ofV (ofL xs pack)).pieces, .int .i64 (ofV (ofL xs pack)).owner, .int .i64 (ofV (ofL xs pack)).count, .int .i64 (ofV (ofL xs pack)).of], .bool (ofL xs pack).isSome]) ∧ Below w.heap.size w w' := by
 have HR := Hd h
 clear h
 obtain ⟨q, hq⟩ : ∃ q, ofV (ofL xs pack) = q := ⟨_, rfl⟩
 obtain ⟨bb, hbb⟩ : ∃ b, (ofL xs pack).isSome = b := ⟨_, rfl⟩
 have CO := Hd (show ∀ W, Rd Pa.vals 14 W a2 n2 xs → Calls Tryz.prog 86 #[.slice a2 n2 cap2, .int .i64 pack] W fun e w' => e = .returned (.tuple #[.agg #[.int .i64 q.id, .int .i64 q.known, .int .u8 q.kind, .int .i64 q.loss, .int .i64 q.pack, .int .i64 q.inn, .string ⟨q.mark.toArray⟩, .string ⟨q.goods.toArray⟩, .int .i64 q.low, .int .i64 q.high, .int .i64 q.pieces, .int .i64 q.owner, .int .i64 q.count, .int .i64 q.of], .bool bb]) ∧ Below W.heap.size W w' from fun W hW => by
  rw [← hq, ← hbb]; exact of_any a2 n2 cap2 xs pack W hW)
 rw [hq, hbb]
 clear hq hbb
 have hbx : BoxG ((w.alloc (.cells #[.slice a n cap, .slice a2 n2 cap2] 62)).alloc (.cells #[.int .i64 0, .int .i64 0, .int .u8 0, .int .i64 0, .int .i64 0, .int .i64 0, .string ⟨#[]⟩, .string ⟨#[]⟩, .int .i64 0, .int .i64 0, .int .i64 0, .int .i64 0, .int .i64 0, .int .i64 0] 42)) (w.heap.size + 1) pa0.vals := by
  have := BoxG.made (w.alloc (.cells #[.slice a n cap, .slice a2 n2 cap2] 62)) pa0.vals 42
  simpa [Pa.vals, pa0] using this
 have hB : Below w.heap.size w ((w.alloc (.cells #[.slice a n cap, .slice a2 n2 cap2] 62)).alloc (.cells #[.int .i64 0, .int .i64 0, .int .u8 0, .int .i64 0, .int .i64 0, .int .i64 0, .string ⟨#[]⟩, .string ⟨#[]⟩, .int .i64 0, .int .i64 0, .int .i64 0, .int .i64 0, .int .i64 0, .int .i64 0] 42)) := al' (al' (Below.refl _ _) _) _
 have hm : ((w.alloc (.cells #[.slice a n cap, .slice a2 n2 cap2] 62)).alloc (.cells #[.int .i64 0, .int .i64 0, .int .u8 0, .int .i64 0, .int .i64 0, .int .i64 0, .string ⟨#[]⟩, .string ⟨#[]⟩, .int .i64 0, .int .i64 0, .int .i64 0, .int .i64 0, .int .i64 0, .int .i64 0] 42)).cell? ⟨w.heap.size, 1, none⟩ = some (.slice a2 n2 cap2) := cell_stays (by rw [cell_of_row _ _ _ _ _ (0, 0) (heap_alloc_new w _)]; rfl) (al' (Below.refl _ _) _)
 have hr := HR.out.below' hB
 go_enter Tryz.func58, Tryz.ntmps58
 go_upto_region 1 with (fail)
 generalize (w.alloc (.cells #[.slice a n cap, .slice a2 n2 cap2] 62)).alloc (.cells #[.int .i64 0, .int .i64 0, .int .u8 0, .int .i64 0, .int .i64 0, .int .i64 0, .string ⟨#[]⟩, .string ⟨#[]⟩, .int .i64 0, .int .i64 0, .int .i64 0, .int .i64 0, .int .i64 0, .int .i64 0] 42) = w2 at *
 obtain ⟨B4, hB4⟩ : ∃ B, w.heap.size + 1 = B := ⟨_, rfl⟩
 have HLe := Hd (show w.heap.size ≤ B4 from by omega)
 rw [hB4] at hbx ⊢
 have HX2 := Hd hbx
 have HB2 := Hd hB
 have HR2 := Hd hr
 clear hbx hB hr hB4 HR
 go_wp2_with fail
 refine (CO.out _ HR2.out).mono ?_
 rintro e w3 ⟨rfl, hB⟩
 have HX3 := Hd (HX2.out.below' hB)
 have HB3 := Hd (HB2.out.trans (hB.mono HB2.out.size))
 clear hB HX2 HB2 HR2 CO hm
 obtain ⟨d0, d1, d2, d3, d4, d5, d6, d7, d8, d9, d10, d11, d12, d13⟩ := HX3.out.pa
 simp only [pa0] at d0 d1 d2 d3 d4 d5 d6 d7 d8 d9 d10 d11 d12 d13
 obtain ⟨f0, f1, f2, f3, f4, f5, f6, f7, f8, f9, f10, f11, f12, f13⟩ := HX3.out.fr
 go_wp2_with fail
 have hz : BoxG ((((((((((((((w3.setCell ⟨B4, 0, none⟩ (.int .i64 q.id)).setCell ⟨B4, 1, none⟩ (.int .i64 q.known)).setCell ⟨B4, 2, none⟩ (.int .u8 q.kind)).setCell ⟨B4, 3, none⟩ (.int .i64 q.loss)).setCell ⟨B4, 4, none⟩ (.int .i64 q.pack)).setCell ⟨B4, 5, none⟩ (.int .i64 q.inn)).setCell ⟨B4, 6, none⟩ (.string ⟨q.mark.toArray⟩)).setCell ⟨B4, 7, none⟩ (.string ⟨q.goods.toArray⟩)).setCell ⟨B4, 8, none⟩ (.int .i64 q.low)).setCell ⟨B4, 9, none⟩ (.int .i64 q.high)).setCell ⟨B4, 10, none⟩ (.int .i64 q.pieces)).setCell ⟨B4, 11, none⟩ (.int .i64 q.owner)).setCell ⟨B4, 12, none⟩ (.int .i64 q.count)).setCell ⟨B4, 13, none⟩ (.int .i64 q.of)) B4 (Pa.vals q) := ((((((((((((((HX3.out.set 0 (.int .i64 q.id) (by simp [Pa.vals])).set 1 (.int .i64 q.known) (by simp [Pa.vals])).set 2 (.int .u8 q.kind) (by simp [Pa.vals])).set 3 (.int .i64 q.loss) (by simp [Pa.vals])).set 4 (.int .i64 q.pack) (by simp [Pa.vals])).set 5 (.int .i64 q.inn) (by simp [Pa.vals])).set 6 (.string ⟨q.mark.toArray⟩) (by simp [Pa.vals])).set 7 (.string ⟨q.goods.toArray⟩) (by simp [Pa.vals])).set 8 (.int .i64 q.low) (by simp [Pa.vals])).set 9 (.int .i64 q.high) (by simp [Pa.vals])).set 10 (.int .i64 q.pieces) (by simp [Pa.vals])).set 11 (.int .i64 q.owner) (by simp [Pa.vals])).set 12 (.int .i64 q.count) (by simp [Pa.vals])).set 13 (.int .i64 q.of) (by simp [Pa.vals]))
 have hb5 := ((((((((((((((HB3.out.setCell (p := ⟨B4, 0, none⟩) HLe.out (.int .i64 q.id)).setCell (p := ⟨B4, 1, none⟩) HLe.out (.int .i64 q.known)).setCell (p := ⟨B4, 2, none⟩) HLe.out (.int .u8 q.kind)).setCell (p := ⟨B4, 3, none⟩) HLe.out (.int .i64 q.loss)).setCell (p := ⟨B4, 4, none⟩) HLe.out (.int .i64 q.pack)).setCell (p := ⟨B4, 5, none⟩) HLe.out (.int .i64 q.inn)).setCell (p := ⟨B4, 6, none⟩) HLe.out (.string ⟨q.mark.toArray⟩)).setCell (p := ⟨B4, 7, none⟩) HLe.out (.string ⟨q.goods.toArray⟩)).setCell (p := ⟨B4, 8, none⟩) HLe.out (.int .i64 q.low)).setCell (p := ⟨B4, 9, none⟩) HLe.out (.int .i64 q.high)).setCell (p := ⟨B4, 10, none⟩) HLe.out (.int .i64 q.pieces)).setCell (p := ⟨B4, 11, none⟩) HLe.out (.int .i64 q.owner)).setCell (p := ⟨B4, 12, none⟩) HLe.out (.int .i64 q.count)).setCell (p := ⟨B4, 13, none⟩) HLe.out (.int .i64 q.of))
 clear d0 d1 d2 d3 d4 d5 d6 d7 d8 d9 d10 d11 d12 d13 f0 f1 f2 f3 f4 f5 f6 f7 f8 f9 f10 f11 f12 f13
 generalize ((((((((((((((w3.setCell ⟨B4, 0, none⟩ (.int .i64 q.id)).setCell ⟨B4, 1, none⟩ (.int .i64 q.known)).setCell ⟨B4, 2, none⟩ (.int .u8 q.kind)).setCell ⟨B4, 3, none⟩ (.int .i64 q.loss)).setCell ⟨B4, 4, none⟩ (.int .i64 q.pack)).setCell ⟨B4, 5, none⟩ (.int .i64 q.inn)).setCell ⟨B4, 6, none⟩ (.string ⟨q.mark.toArray⟩)).setCell ⟨B4, 7, none⟩ (.string ⟨q.goods.toArray⟩)).setCell ⟨B4, 8, none⟩ (.int .i64 q.low)).setCell ⟨B4, 9, none⟩ (.int .i64 q.high)).setCell ⟨B4, 10, none⟩ (.int .i64 q.pieces)).setCell ⟨B4, 11, none⟩ (.int .i64 q.owner)).setCell ⟨B4, 12, none⟩ (.int .i64 q.count)).setCell ⟨B4, 13, none⟩ (.int .i64 q.of)) = W5 at *
 have zl3 := hz.1
 obtain ⟨r0, r1, r2, r3, r4, r5, r6, r7, r8, r9, r10, r11, r12, r13⟩ := hz.pa
 have HB5 := Hd hb5
 clear hb5 hz
 refine bodyPost_ret (v := .tuple #[.agg #[.int .i64 q.id, .int .i64 q.known, .int .u8 q.kind, .int .i64 q.loss, .int .i64 q.pack, .int .i64 q.inn, .string ⟨q.mark.toArray⟩, .string ⟨q.goods.toArray⟩, .int .i64 q.low, .int .i64 q.high, .int .i64 q.pieces, .int .i64 q.owner, .int .i64 q.count, .int .i64 q.of], .bool bb]) (by simp [results, Tryz.results58, go_sem, zl3, r0, r1, r2, r3, r4, r5, r6, r7, r8, r9, r10, r11, r12, r13]) rfl ⟨?_, HB5.out⟩
 rfl
def insideL (xs : List Pa) (pack : Int) : List Int := (xs.filter (fun x => decide (x.inn = pack))).map (·.pack)
theorem insideL_yes {xs : List Pa} {k : Nat} {x : Pa} {pack : Int} (hx : xs[k]? = some x) (h : x.inn = pack) : insideL (xs.take (k + 1)) pack = insideL (xs.take k) pack ++ [x.pack] := by
 unfold insideL; rw [take_succ_snoc hx, List.filter_append, List.map_append]; simp [h]
theorem insideL_no {xs : List Pa} {k : Nat} {x : Pa} {pack : Int} (hx : xs[k]? = some x) (h : ¬ x.inn = pack) : insideL (xs.take (k + 1)) pack = insideL (xs.take k) pack := by
 unfold insideL; rw [take_succ_snoc hx, List.filter_append, List.map_append]; simp [h]
theorem insideL_len (xs : List Pa) (pack : Int) : (insideL xs pack).length ≤ xs.length := by
 unfold insideL; rw [List.length_map]; exact List.length_filter_le _ _
theorem own_int_next {w : World} {t : TypeId} {base : Nat} {v : Value} {ws : List Int} {x : Int} (h : w.ownsRow base t 1 v (ws.length + 1) (ws.flatMap ints ++ ints x)) : w.ownsRow base t 1 v (ws ++ [x]).length ((ws ++ [x]).flatMap ints) := by
 rw [List.length_append, List.flatMap_append]
 simpa using h
set_option maxRecDepth 100000 in
set_option maxHeartbeats 4000000 in
theorem inside_any (a : Option Addr) (n cap : Nat) (a2 : Option Addr) (n2 cap2 : Nat) (xs : List Pa) (pack : Int) (w : World) (h : Rd Pa.vals 14 w a n xs) (hn : n ≤ 1000) :
 Calls Tryz.prog 59 #[.agg #[.slice a n cap, .slice a2 n2 cap2], .int .i64 pack] w fun e w' => ∃ v, e = .returned v ∧ w'.ownsRow w.heap.size 3 1 v (insideL xs pack).length ((insideL xs pack).flatMap ints) ∧ Below w.heap.size w w' := by
 obtain ⟨j0, hj0, hy0, hy1, hy2⟩ := info_parts info_int
 have HR := Hd h
 have Hl := Hd h.len
 clear h
 have hB := al' (Below.refl w.heap.size w) (.cells #[.slice a n cap, .slice a2 n2 cap2] 62)
 have hm : (w.alloc (.cells #[.slice a n cap, .slice a2 n2 cap2] 62)).cell? ⟨w.heap.size, 0, none⟩ = some (.slice a n cap) := by rw [cell_of_row _ _ _ _ _ (0, 0) (heap_alloc_new w _)]; rfl
 have hr := HR.out.below' hB
 go_enter Tryz.func59, Tryz.ntmps59
 go_upto_region 1 with (fail)
 generalize w.alloc (.cells #[.slice a n cap, .slice a2 n2 cap2] 62) = w1 at *
 have HB1 := Hd hB
 have HR1 := Hd hr
 clear hB hr HR
 go_wp2_with fail
 go_loopw [5, 11] (fun v i wr => ∃ k : Nat, k ≤ n ∧ i = .int .i64 k ∧ wr.ownsRow w1.heap.size 3 1 v (insideL (xs.take k) pack).length ((insideL (xs.take k) pack).flatMap ints) ∧ Below w1.heap.size w1 wr) (fun _ i _ => n - (intOf i).toNat)
 case atStart => exact ⟨0, Nat.zero_le _, rfl, World.ownsRow_nil _ _ _ _, Below.refl _ _⟩
 case round =>
  obtain ⟨k, hk, rfl, hrow, hB⟩ := hrel
  have h1 := HR1.out.below' hB
  have HB := Hd hB
  have HRow := Hd hrow
  clear hB hrow hm
  by_cases hlt : k < n
  · have hlt' : (k : Int) < (n : Int) := by omega
    have h2' := h1.pa hlt
    obtain ⟨b, off, x, rfl, hb, hx, c0, c1, c2, c3, c4, c5, c6, c7, c8, c9, c10, c11, c12, c13⟩ := h2'
    have Hx := Hd hx
    clear hx h1
    go_upto_region 5 with (fail)
    have hBx := al' (Below.refl wr.heap.size wr) (.cells #[.int .i64 x.id, .int .i64 x.known, .int .u8 x.kind, .int .i64 x.loss, .int .i64 x.pack, .int .i64 x.inn, .string ⟨x.mark.toArray⟩, .string ⟨x.goods.toArray⟩, .int .i64 x.low, .int .i64 x.high, .int .i64 x.pieces, .int .i64 x.owner, .int .i64 x.count, .int .i64 x.of] 42)
    have hbx := BoxG.made wr x.vals 42
    simp only [Pa.vals] at hbx
    have HB2 := Hd (HB.out.trans (hBx.mono HB.out.size))
    have HRow2 := Hd (own_later' HRow.out hBx)
    clear c0 c1 c2 c3 c4 c5 c6 c7 c8 c9 c10 c11 c12 c13 hBx
    generalize wr.alloc (.cells #[.int .i64 x.id, .int .i64 x.known, .int .u8 x.kind, .int .i64 x.loss, .int .i64 x.pack, .int .i64 x.inn, .string ⟨x.mark.toArray⟩, .string ⟨x.goods.toArray⟩, .int .i64 x.low, .int .i64 x.high, .int .i64 x.pieces, .int .i64 x.owner, .int .i64 x.count, .int .i64 x.of] 42) = w2 at *
    obtain ⟨B2, hB2⟩ : ∃ B, wr.heap.size = B := ⟨_, rfl⟩
    rw [hB2] at hbx ⊢
    obtain ⟨c0, c1, c2, c3, c4, c5, c6, c7, c8, c9, c10, c11, c12, c13⟩ := BoxG.pa (x := x) hbx
    clear hbx hB2 HB HRow
    by_cases hp : x.inn = pack
    · have q : (x.inn == pack) = true := by simpa using hp
      have HS := Hd (insideL_yes Hx.out hp)
      have hlk : (insideL (xs.take k) pack).length ≤ 1000 := Nat.le_trans (insideL_len _ _) (by rw [List.length_take]; omega)
      obtain ⟨NS, hNS⟩ : ∃ N, insideL (xs.take k) pack = N := ⟨_, rfl⟩
      rw [hNS] at HRow2 HS hlk
      clear hp hNS
      go_wp2_with (at_builtin; go_loud (refine wpList_append_own _ rfl _ _ 43 rfl w1.heap.size 3 j0 _ 1 8 Tryz.underlying43 hj0 hy0 hy1 hy2 rfl (by decide) _ _ _ rfl (HRow2.out.alloc _) ⟨w2.heap.size, 0, none⟩ 1 1 (ints x.pack) rfl rfl (cell_one_new _ _ _) (by simp [ints, Value.oneCell']) (by unfold maxLen; omega) (by omega) (Nat.le_trans HB2.out.size (by simp)) ?_; intro v9 w9 hown9 hgrow9 _))
      have HB9 := Hd ((HB2.out.alloc HB2.out.size (.cells #[.int .i64 x.pack] 3)).grown hgrow9 (Nat.le_trans HB2.out.size (by simp)) (fun j e => (HRow2.out.lt j e).1))
      have HO9 := Hd (own_int_next hown9)
      clear hown9 hgrow9
      go_wp2_with fail
      exact ⟨⟨k + 1, by omega, by go_num, by rw [HS.out]; exact HO9.out, HB9.out⟩, by simp [intOf]; omega⟩
    · have q : (x.inn == pack) = false := by simpa using hp
      have HS := Hd (insideL_no Hx.out hp)
      clear hp
      go_wp2_with fail
      exact ⟨⟨k + 1, by omega, by go_num, by rw [HS.out]; exact HRow2.out, HB2.out⟩, by simp [intOf]; omega⟩
  · have hltg : ¬ (k : Int) < (n : Int) := by omega
    have HW := Hd (show xs.take k = xs from List.take_of_length_le (by rw [Hl.out]; omega))
    rw [HW.out] at HRow
    clear hlt h1
    go_wp2_with fail
    go_ret
    exact ⟨_, rfl, ownsRow_mono HRow.out HB1.out.size, HB1.out.trans (HB.out.mono HB1.out.size)⟩
theorem always_any (a : Option Addr) (n cap : Nat) (a2 : Option Addr) (n2 cap2 : Nat) (w : World) :
 Calls Tryz.prog 27 #[.agg #[.slice a n cap, .slice a2 n2 cap2]] w fun e w' => e = .returned (.bool true) ∧ Below w.heap.size w w' := by
 have HB := Hd (al' (Below.refl w.heap.size w) (.cells #[.slice a n cap, .slice a2 n2 cap2] 62))
 go_enter Tryz.func27, Tryz.ntmps27
 go_wp2_with fail
 go_ret
 exact ⟨rfl, HB.out⟩
theorem has_any (pack : Int) (w : World) :
 Calls Tryz.prog 33 #[.int .i64 pack] w fun e w' => e = .returned (.func (.func 68) #[] #[.pointer (some ⟨w.heap.size, 0, none⟩)]) ∧ w' = w.alloc (.cells #[.int .i64 pack] 3) := by
 go_enter Tryz.func33, Tryz.ntmps33
 go_wp2_with fail
 go_ret
 exact ⟨rfl, rfl⟩
set_option maxRecDepth 100000 in
set_option maxHeartbeats 4000000 in
theorem has1_any (a : Option Addr) (n cap : Nat) (a2 : Option Addr) (n2 cap2 : Nat) (xs : List Pa) (pack : Int) (B : Nat) (w : World) (h : Rd Pa.vals 14 w a n xs) (hc : w.cell? ⟨B, 0, none⟩ = some (.int .i64 pack)) :
 Calls Tryz.prog 68 #[.agg #[.slice a n cap, .slice a2 n2 cap2], .pointer (some ⟨B, 0, none⟩)] w fun e w' => e = .returned (.bool (ofL xs pack).isSome) ∧ Below w.heap.size w w' := by
 have hlt := World.block_lt_of_cell? _ _ hc
 have hB := al' (Below.refl w.heap.size w) (.cells #[.slice a n cap, .slice a2 n2 cap2] 62)
 have HR := Hd (h.below' hB)
 have hc1 := cell_stays hc hB
 have hm0 : (w.alloc (.cells #[.slice a n cap, .slice a2 n2 cap2] 62)).cell? ⟨w.heap.size, 0, none⟩ = some (.slice a n cap) := by rw [cell_of_row _ _ _ _ _ (0, 0) (heap_alloc_new w _)]; rfl
 have hm1 : (w.alloc (.cells #[.slice a n cap, .slice a2 n2 cap2] 62)).cell? ⟨w.heap.size, 1, none⟩ = some (.slice a2 n2 cap2) := by rw [cell_of_row _ _ _ _ _ (0, 0) (heap_alloc_new w _)]; rfl
 obtain ⟨q, hq⟩ : ∃ q, ofV (ofL xs pack) = q := ⟨_, rfl⟩
 obtain ⟨bb, hbb⟩ : ∃ b, (ofL xs pack).isSome = b := ⟨_, rfl⟩
 have CO := Hd (show ∀ W, Rd Pa.vals 14 W a n xs → Calls Tryz.prog 48 #[.agg #[.slice a n cap, .slice a2 n2 cap2], .int .i64 pack] W fun e w' => e = .returned (.tuple #[.agg #[.int .i64 q.id, .int .i64 q.known, .int .u8 q.kind, .int .i64 q.loss, .int .i64 q.pack, .int .i64 q.inn, .string ⟨q.mark.toArray⟩, .string ⟨q.goods.toArray⟩, .int .i64 q.low, .int .i64 q.high, .int .i64 q.pieces, .int .i64 q.owner, .int .i64 q.count, .int .i64 q.of], .bool bb]) ∧ Below W.heap.size W w' from fun W hW => by
  rw [← hq, ← hbb]; exact paper_any a n cap a2 n2 cap2 xs pack W hW)
 rw [hbb]
 clear hq hbb h hc
 go_enter Tryz.func68, Tryz.ntmps68
 go_upto_region 1 with (fail)
 generalize w.alloc (.cells #[.slice a n cap, .slice a2 n2 cap2] 62) = w1 at *
 have HB1 := Hd hB
 clear hB
 go_wp2_with fail
 refine (CO.out _ HR.out).mono ?_
 rintro e w3 ⟨rfl, hB⟩
 have HB3 := Hd ((HB1.out.trans (hB.mono HB1.out.size)).alloc (Nat.le_trans HB1.out.size hB.size) (.cells #[.int .i64 q.id, .int .i64 q.known, .int .u8 q.kind, .int .i64 q.loss, .int .i64 q.pack, .int .i64 q.inn, .string ⟨q.mark.toArray⟩, .string ⟨q.goods.toArray⟩, .int .i64 q.low, .int .i64 q.high, .int .i64 q.pieces, .int .i64 q.owner, .int .i64 q.count, .int .i64 q.of] 42))
 clear hB HB1 CO hm0 hm1 hc1 HR
 go_wp2_with fail
 go_ret
 exact ⟨rfl, HB3.out⟩
set_option maxRecDepth 100000 in
set_option maxHeartbeats 4000000 in
theorem missing1_any (a : Option Addr) (n cap : Nat) (a2 : Option Addr) (n2 cap2 : Nat) (xs : List Pa) (pack : Int) (B : Nat) (w : World) (h : Rd Pa.vals 14 w a n xs) (hc : w.cell? ⟨B, 0, none⟩ = some (.int .i64 pack)) :
 Calls Tryz.prog 47 #[.agg #[.slice a n cap, .slice a2 n2 cap2], .pointer (some ⟨B, 0, none⟩)] w fun e w' => e = .returned (.bool (decide (pack = 0) || (ofL xs pack).isSome)) ∧ Below w.heap.size w w' := by
 have hB := al' (Below.refl w.heap.size w) (.cells #[.slice a n cap, .slice a2 n2 cap2] 62)
 have HR := Hd (h.below' hB)
 have hc1 := cell_stays hc hB
 have hlt := World.block_lt_of_cell? _ _ hc
 have hm0 : (w.alloc (.cells #[.slice a n cap, .slice a2 n2 cap2] 62)).cell? ⟨w.heap.size, 0, none⟩ = some (.slice a n cap) := by rw [cell_of_row _ _ _ _ _ (0, 0) (heap_alloc_new w _)]; rfl
 have hm1 : (w.alloc (.cells #[.slice a n cap, .slice a2 n2 cap2] 62)).cell? ⟨w.heap.size, 1, none⟩ = some (.slice a2 n2 cap2) := by rw [cell_of_row _ _ _ _ _ (0, 0) (heap_alloc_new w _)]; rfl
 clear h hc
 go_enter Tryz.func47, Tryz.ntmps47
 go_upto_region 1 with (fail)
 generalize w.alloc (.cells #[.slice a n cap, .slice a2 n2 cap2] 62) = w1 at *
 have HB1 := Hd hB
 clear hB
 by_cases hp : pack = 0
 · subst hp
   have HE := Hd (show (decide ((0 : Int) = 0) || (ofL xs 0).isSome) = true from by rw [decide_eq_true rfl]; rfl)
   have k0 : ∀ z : Later w1, z.w.cell? ⟨B, 0, none⟩ = some (.int .i64 0) := fun z => z.cell hc1
   refine wp_region_later (by kernel_rfl) (by kernel_rfl) ?_
   repeat (go_big_quiet_step (fail))
   refine wpQuiet_nil ?_
   intro wz hw'
   obtain ⟨⟨W, hW⟩, hw2⟩ := hw'
   obtain rfl : W = wz := hw2.symm
   have HBW := Hd (HB1.out.trans (hW.mono HB1.out.size))
   clear hw2 hW k0
   go_wp2_with fail
   go_ret
   exact ⟨by first | rfl | simp, HBW.out⟩
 · have q : (pack == 0) = false := by simpa using hp
   obtain ⟨bb, hbb⟩ : ∃ b, (ofL xs pack).isSome = b := ⟨_, rfl⟩
   have HE := Hd (show (decide (pack = 0) || (ofL xs pack).isSome) = bb from by rw [decide_eq_false hp, hbb]; rfl)
   have C1 := Hd (show ∀ (W : World) (K : Nat), Below w1.heap.size w1 W → W.cell? ⟨K, 0, none⟩ = some (.int .i64 pack) → Calls Tryz.prog 68 #[.agg #[.slice a n cap, .slice a2 n2 cap2], .pointer (some ⟨K, 0, none⟩)] W fun e w' => e = .returned (.bool bb) ∧ Below W.heap.size W w' from fun W K hW hK => by
    rw [← hbb]; exact has1_any a n cap a2 n2 cap2 xs pack K W (HR.out.below' hW) hK)
   have C0 := Hd (show ∀ W, Calls Tryz.prog 33 #[.int .i64 pack] W fun e w' => ∃ K, e = .returned (.func (.func 68) #[] #[.pointer (some ⟨K, 0, none⟩)]) ∧ Below W.heap.size W w' ∧ w'.cell? ⟨K, 0, none⟩ = some (.int .i64 pack) from fun W => (has_any pack W).mono (by
    rintro e w' ⟨rfl, rfl⟩
    exact ⟨_, rfl, al' (Below.refl _ _) _, by rw [cell_of_row _ _ _ _ _ (0, 0) (heap_alloc_new W _)]; rfl⟩))
   clear hp hbb
   go_region_held3 (fun w' => w'.cell? ⟨B, 0, none⟩ = some (.int .i64 pack) ∧ w'.cell? ⟨w.heap.size, 0, none⟩ = some (.slice a n cap) ∧ w'.cell? ⟨w.heap.size, 1, none⟩ = some (.slice a2 n2 cap2))
    (first | go_keep | exact ⟨cell_stays hc1 hb7.out, cell_stays hm0 hb7.out, cell_stays hm1 hb7.out⟩ | exact ⟨cell_stays hc1 hb5, cell_stays hm0 hb5, cell_stays hm1 hb5⟩)
    (first
      | (go_at_call 33; refine (C0.out _).mono ?_; rintro e w5 ⟨K, rfl, hB5, hk5⟩; have hb5 := below_then (dr' (Below.refl w1.heap.size w1)) hB5 (Nat.le_refl _))
      | (go_at_call 68; refine (C1.out _ _ hb5 hk5).mono ?_; rintro e w6 ⟨rfl, hb6⟩; have hb7 := Hd (below_then hb5 hb6 (Nat.le_refl _))))
   have HB7 := Hd (HB1.out.trans (hb7.out.mono HB1.out.size))
   clear hb5 hb6 hB5 hk5
   go_wp2_with fail
   go_ret
   exact ⟨by rw [HE.out] <;> rfl, HB7.out⟩
end Go.Proofs.YtehplmeckfinoaaGreatDoor
