/- The walk of Write. -/
import Derived.Test.YtehplmeckfinoaaGreatDoorCNums
import Derived.Test.YtehplmeckfinoaaGreatDoorCGood
import Derived.Deep.RegionHeld3
import Derived.Deep.Cut
set_option linter.unusedSimpArgs false
set_option linter.unusedVariables false
namespace Go.Proofs.YtehplmeckfinoaaGreatDoor
open Go.RowKit Go.Shelf
def wordP (k : Int) : List UInt8 := if k = 1 then [112, 97, 99, 107, 97, 103, 101] else if k = 2 then [116, 111, 116, 97, 108] else [118, 111, 105, 100]
def tailP (x : Pa) : List UInt8 := if x.kind = 1 then numL [x.loss, x.pack, x.inn] ++ [32] ++ x.mark ++ [32] ++ x.goods ++ [32] ++ numL [x.low, x.high, x.pieces, x.owner] else if x.kind = 2 then numL [x.loss, x.pack, x.count, x.low, x.high] else numL [x.of]
def headP (x : Pa) : List UInt8 := numL [x.id, x.known] ++ [32] ++ wordP x.kind ++ [32]
def writeP (x : Pa) : List UInt8 := headP x ++ tailP x
def keep14 (B : Nat) (x : Pa) (kd : Int) (w' : World) : Prop := w'.cell? ⟨B, 0, none⟩ = some (.int .i64 x.id) ∧ w'.cell? ⟨B, 1, none⟩ = some (.int .i64 x.known) ∧ w'.cell? ⟨B, 2, none⟩ = some (.int .u8 kd) ∧ w'.cell? ⟨B, 3, none⟩ = some (.int .i64 x.loss) ∧ w'.cell? ⟨B, 4, none⟩ = some (.int .i64 x.pack) ∧ w'.cell? ⟨B, 5, none⟩ = some (.int .i64 x.inn) ∧ w'.cell? ⟨B, 6, none⟩ = some (.string ⟨x.mark.toArray⟩) ∧ w'.cell? ⟨B, 7, none⟩ = some (.string ⟨x.goods.toArray⟩) ∧ w'.cell? ⟨B, 8, none⟩ = some (.int .i64 x.low) ∧ w'.cell? ⟨B, 9, none⟩ = some (.int .i64 x.high) ∧ w'.cell? ⟨B, 10, none⟩ = some (.int .i64 x.pieces) ∧ w'.cell? ⟨B, 11, none⟩ = some (.int .i64 x.owner) ∧ w'.cell? ⟨B, 12, none⟩ = some (.int .i64 x.count) ∧ w'.cell? ⟨B, 13, none⟩ = some (.int .i64 x.of)
theorem keep14_below {B : Nat} {x : Pa} {kd : Int} {w w' : World} (h : keep14 B x kd w) (hB : Below w.heap.size w w') : keep14 B x kd w' := by
 have e : ∀ j, B < w.heap.size → w'.cell? ⟨B, j, none⟩ = w.cell? ⟨B, j, none⟩ := fun j hl => hB.cell (p := ⟨B, j, none⟩) hl
 have hl : B < w.heap.size := World.block_lt_of_cell? w _ h.1
 unfold keep14 at h ⊢
 simp only [e _ hl]
 exact h
theorem nums_made {W0 : World} {cs : Array Value} {xs : List Int} (hx : ∀ x ∈ xs, 0 ≤ x ∧ x ≤ 1000000000000) (h0 : 0 < xs.length) (hn : xs.length ≤ 1000) (hcs : cs = (xs.map (Value.int .i64)).toArray) (ht : Tab W0) :
 Calls Tryz.prog 93 #[.slice (some ⟨W0.heap.size, 0, none⟩) xs.length xs.length] (W0.alloc (.cells cs 3)) fun e w' => e = .returned (.string ⟨(numL xs).toArray⟩) ∧ Below (W0.heap.size + 1) (W0.alloc (.cells cs 3)) w' := by
 subst hcs
 have hb := heap_alloc_new W0 (.cells (xs.map (Value.int .i64)).toArray 3)
 have hr : Rd ints 1 (W0.alloc (.cells (xs.map (Value.int .i64)).toArray 3)) (some ⟨W0.heap.size, 0, none⟩) xs.length xs := by
  refine ⟨rfl, by unfold maxLen; omega, fun i hi => ⟨W0.heap.size, 0, xs[i], rfl, by simp, List.getElem?_eq_getElem hi, fun j hj => ?_⟩⟩
  obtain rfl : j = 0 := by omega
  rw [cell_of_row _ _ _ _ _ (0, 0) hb]
  simp [ints, hi]
 refine (nums_any (some ⟨W0.heap.size, 0, none⟩) xs.length xs.length xs hx _ hr h0 hn (ht.below (al' (Below.refl _ _) _))).mono ?_
 rintro e w' ⟨rfl, hB⟩
 refine ⟨rfl, ?_⟩
 simpa using hB
theorem numL_len {xs : List Int} (hx : ∀ x ∈ xs, 0 ≤ x ∧ x ≤ 1000000000000) : (numL xs).length ≤ xs.length * 14 := by
 have := join_len (xs.map dig) 13 (by intro y hy; obtain ⟨z, hz, rfl⟩ := List.mem_map.1 hy; exact dig_le (hx z hz).2)
 rw [List.length_map] at this
 exact this
theorem idxw1 (W : World) : (Instr.index 133 (.agg #[.string ⟨#[]⟩, .string ⟨#[112, 97, 99, 107, 97, 103, 101]⟩, .string ⟨#[116, 111, 116, 97, 108]⟩, .string ⟨#[118, 111, 105, 100]⟩]) (.int .u8 1)).run Tryz.prog W = .ok (.string ⟨#[112, 97, 99, 107, 97, 103, 101]⟩) W := by kernel_rfl
theorem idxw2 (W : World) : (Instr.index 133 (.agg #[.string ⟨#[]⟩, .string ⟨#[112, 97, 99, 107, 97, 103, 101]⟩, .string ⟨#[116, 111, 116, 97, 108]⟩, .string ⟨#[118, 111, 105, 100]⟩]) (.int .u8 2)).run Tryz.prog W = .ok (.string ⟨#[116, 111, 116, 97, 108]⟩) W := by kernel_rfl
theorem idxw3 (W : World) : (Instr.index 133 (.agg #[.string ⟨#[]⟩, .string ⟨#[112, 97, 99, 107, 97, 103, 101]⟩, .string ⟨#[116, 111, 116, 97, 108]⟩, .string ⟨#[118, 111, 105, 100]⟩]) (.int .u8 3)).run Tryz.prog W = .ok (.string ⟨#[118, 111, 105, 100]⟩) W := by kernel_rfl
theorem size_str (a : List UInt8) : (⟨a.toArray⟩ : ByteArray).size = a.length := by simp [ByteArray.size]
theorem add_facts {A B C : ByteArray} (a b : List UInt8) (hA : ⟨a.toArray⟩ = A) (hB : ⟨b.toArray⟩ = B) (hC : ⟨(a ++ b).toArray⟩ = C) (h : a.length + b.length ≤ 1000000) : (¬ 9223372036854775807 < A.size + b.length) ∧ (¬ 9223372036854775807 < A.size + B.size) ∧ A ++ B = C := by
 subst hA hB hC
 rw [size_str, size_str, str_append]
 exact ⟨by omega, by omega, rfl⟩
theorem nums_block {W : World} {Bk : Nat} {cs : Array Value} {xs : List Int} (hx : ∀ x ∈ xs, 0 ≤ x ∧ x ≤ 1000000000000) (h0 : 0 < xs.length) (hn : xs.length ≤ 1000) (hcs : cs = (xs.map (Value.int .i64)).toArray) (hb : W.heap[Bk]? = some (.cells cs 3 (0, 0))) (ht : Tab W) :
 Calls Tryz.prog 93 #[.slice (some ⟨Bk, 0, none⟩) xs.length xs.length] W fun e w' => e = .returned (.string ⟨(numL xs).toArray⟩) ∧ Below W.heap.size W w' := by
 subst hcs
 have hr : Rd ints 1 W (some ⟨Bk, 0, none⟩) xs.length xs := by
  refine ⟨rfl, by unfold maxLen; omega, fun i hi => ⟨Bk, 0, xs[i], rfl, (Array.getElem?_eq_some_iff.1 hb).1, List.getElem?_eq_getElem hi, fun j hj => ?_⟩⟩
  obtain rfl : j = 0 := by omega
  rw [cell_of_row _ _ _ _ _ (0, 0) hb]
  simp [ints, hi]
 exact nums_any (some ⟨Bk, 0, none⟩) xs.length xs.length xs hx _ hr h0 hn ht
theorem blk0 (w : World) (c : Array Value) (t : TypeId) : (w.alloc (.cells c t)).heap[w.heap.size]? = some (.cells c t (0, 0)) := heap_alloc_new w _
theorem blk1 (w : World) (c1 c2 : Array Value) (t : TypeId) : ((w.alloc (.cells c1 t)).alloc (.cells c2 t)).heap[w.heap.size + 1]? = some (.cells c2 t (0, 0)) := by
 have h := heap_alloc_new (w.alloc (.cells c1 t)) (.cells c2 t)
 rw [World.size_alloc] at h
 exact h
theorem blk0' (w : World) (c1 c2 : Array Value) (t : TypeId) : ((w.alloc (.cells c1 t)).alloc (.cells c2 t)).heap[w.heap.size]? = some (.cells c1 t (0, 0)) :=
 ((al' (Below.refl (w.alloc (.cells c1 t)).heap.size (w.alloc (.cells c1 t))) (.cells c2 t)).block w.heap.size (by rw [World.size_alloc]; exact Nat.lt_succ_self _)).trans (blk0 w c1 t)
theorem drew_heap (w : World) : w.drew.heap = w.heap := rfl
theorem blk0d (w : World) (c : Array Value) (t : TypeId) : (w.alloc (.cells c t)).drew.heap[w.heap.size]? = some (.cells c t (0, 0)) := by rw [drew_heap]; exact blk0 w c t
theorem blk1d (w : World) (c1 c2 : Array Value) (t : TypeId) : ((w.alloc (.cells c1 t)).alloc (.cells c2 t)).drew.heap[w.heap.size + 1]? = some (.cells c2 t (0, 0)) := by rw [drew_heap]; exact blk1 w c1 c2 t
theorem blk0d' (w : World) (c1 c2 : Array Value) (t : TypeId) : ((w.alloc (.cells c1 t)).alloc (.cells c2 t)).drew.heap[w.heap.size]? = some (.cells c1 t (0, 0)) := by rw [drew_heap]; exact blk0' w c1 c2 t
def keepT (B : Nat) (x : Pa) (w' : World) : Prop := w'.cell? ⟨B, 3, none⟩ = some (.int .i64 x.loss) ∧ w'.cell? ⟨B, 4, none⟩ = some (.int .i64 x.pack) ∧ w'.cell? ⟨B, 5, none⟩ = some (.int .i64 x.inn) ∧ w'.cell? ⟨B, 6, none⟩ = some (.string ⟨x.mark.toArray⟩) ∧ w'.cell? ⟨B, 7, none⟩ = some (.string ⟨x.goods.toArray⟩) ∧ w'.cell? ⟨B, 8, none⟩ = some (.int .i64 x.low) ∧ w'.cell? ⟨B, 9, none⟩ = some (.int .i64 x.high) ∧ w'.cell? ⟨B, 10, none⟩ = some (.int .i64 x.pieces) ∧ w'.cell? ⟨B, 11, none⟩ = some (.int .i64 x.owner)
theorem keepT_below {B : Nat} {x : Pa} {w w' : World} (h : keepT B x w) (hB : Below w.heap.size w w') : keepT B x w' := by
 have e : ∀ j, B < w.heap.size → w'.cell? ⟨B, j, none⟩ = w.cell? ⟨B, j, none⟩ := fun j hl => hB.cell (p := ⟨B, j, none⟩) hl
 have hl : B < w.heap.size := World.block_lt_of_cell? w _ h.1
 unfold keepT at h ⊢
 simp only [e _ hl]
 exact h
def WritePost (w : World) (x : Pa) (e : Ending) (w' : World) : Prop :=
 Below w.heap.size w w' ∧ ((formedP x ∧ e = .returned (.tuple #[.string ⟨(writeP x).toArray⟩, .int .i64 0])) ∨ (¬ formedP x ∧ e = .returned (.tuple #[.string ⟨#[]⟩, .int .i64 1])))
set_option maxRecDepth 100000 in
set_option maxHeartbeats 4000000 in
theorem write_any (x : Pa) (hs : x.Short) (w : World) (ht : Tab w) :
 Calls Tryz.prog 52 #[.agg #[.int .i64 x.id, .int .i64 x.known, .int .u8 x.kind, .int .i64 x.loss, .int .i64 x.pack, .int .i64 x.inn, .string ⟨x.mark.toArray⟩, .string ⟨x.goods.toArray⟩, .int .i64 x.low, .int .i64 x.high, .int .i64 x.pieces, .int .i64 x.owner, .int .i64 x.count, .int .i64 x.of]] w (WritePost w x) := by
 have hBx := al' (Below.refl w.heap.size w) (.cells #[.int .i64 x.id, .int .i64 x.known, .int .u8 x.kind, .int .i64 x.loss, .int .i64 x.pack, .int .i64 x.inn, .string ⟨x.mark.toArray⟩, .string ⟨x.goods.toArray⟩, .int .i64 x.low, .int .i64 x.high, .int .i64 x.pieces, .int .i64 x.owner, .int .i64 x.count, .int .i64 x.of] 42)
 have hbx := BoxG.made w x.vals 42
 simp only [Pa.vals] at hbx
 have HB1 := Hd hBx
 have HT1 := Hd (ht.below hBx)
 clear ht
 go_enter Tryz.func52, Tryz.ntmps52
 go_upto_region 1 with (fail)
 generalize w.alloc (.cells #[.int .i64 x.id, .int .i64 x.known, .int .u8 x.kind, .int .i64 x.loss, .int .i64 x.pack, .int .i64 x.inn, .string ⟨x.mark.toArray⟩, .string ⟨x.goods.toArray⟩, .int .i64 x.low, .int .i64 x.high, .int .i64 x.pieces, .int .i64 x.owner, .int .i64 x.count, .int .i64 x.of] 42) = w1 at *
 obtain ⟨B, hBe⟩ : ∃ B, w.heap.size = B := ⟨_, rfl⟩
 rw [hBe] at hbx ⊢
 have HBe := Hd hBe
 have Hbx := Hd hbx
 obtain ⟨c0, c1, c2, c3, c4, c5, c6, c7, c8, c9, c10, c11, c12, c13⟩ := BoxG.pa (x := x) hbx
 have bl := hbx.1
 have CF := Hd (formed_any x hs w1)
 by_cases hf : formedP x
 case neg =>
  have hd : decide (formedP x) = false := by simp [hf]
  rw [hd] at CF
  have HN := Hd hf
  clear hf hd hbx hBx
  go_wp2_with (go_at_call 92; refine CF.out.mono ?_; rintro e w2 ⟨rfl, hB2⟩)
  exact bodyPost_ret (by simp [results, Tryz.results52, go_sem]) rfl (show WritePost w x (.returned (.tuple #[.string ⟨#[]⟩, .int .i64 1])) w2 from ⟨HB1.out.trans (hB2.mono HB1.out.size), .inr ⟨HN.out, rfl⟩⟩)
 have hd : decide (formedP x) = true := by simp [hf]
 rw [hd] at CF
 have HF := Hd hf
 have hid : (0 ≤ x.id ∧ x.id ≤ 1000000000000) ∧ (0 ≤ x.known ∧ x.known ≤ 1000000000000) := by have h1 := hf.1; have h2 := hf.2.1; omega
 have hk : x.kind = 1 ∨ x.kind = 2 ∨ x.kind = 3 := by rcases hf.2.2 with h | h | h; exact .inl h.1; exact .inr (.inl h.1); exact .inr (.inr h.1)
 obtain ⟨kd, hkd⟩ : ∃ k, x.kind = k := ⟨_, rfl⟩
 have HKd := Hd hkd
 rw [hkd] at c2 hk CF ⊢
 clear hd hf hbx hBx hkd
 go_upto_region 4 with (go_at_call 92; refine CF.out.mono ?_; rintro e w2 ⟨rfl, hB2⟩)
 have hst := keep14_below (B := B) (x := x) (kd := kd) ⟨c0, c1, c2, c3, c4, c5, c6, c7, c8, c9, c10, c11, c12, c13⟩ hB2
 have HSt := Hd hst
 have HT2 := Hd (HT1.out.below hB2)
 have HB2 := Hd (HB1.out.trans (hB2.mono HB1.out.size))
 clear c0 c1 c2 c3 c4 c5 c6 c7 c8 c9 c10 c11 c12 c13 CF hB2 bl Hbx HT1 HB1
 obtain ⟨c0, c1, c2, c3, c4, c5, c6, c7, c8, c9, c10, c11, c12, c13⟩ := hst
 clear c3 c4 c5 c6 c7 c8 c9 c10 c11 c12 c13
 have CN := Hd (show ∀ W, Below w2.heap.size w2 W → Calls Tryz.prog 93 #[.slice (some ⟨W.heap.size, 0, none⟩) 2 2] (W.alloc (.cells #[.int .i64 x.id, .int .i64 x.known] 3)) fun e w' => e = .returned (.string ⟨(numL [x.id, x.known]).toArray⟩) ∧ Below (W.heap.size + 1) (W.alloc (.cells #[.int .i64 x.id, .int .i64 x.known] 3)) w' from fun W hW =>
  nums_made (xs := [x.id, x.known]) (by intro y hy; simp only [List.mem_cons, List.not_mem_nil, or_false] at hy; rcases hy with rfl | rfl <;> omega) (by simp) (by simp) rfl (HT2.out.below hW))
 have bl := World.block_lt_of_cell? _ _ c0
 have hnl := numL_len (xs := [x.id, x.known]) (by intro y hy; simp only [List.mem_cons, List.not_mem_nil, or_false] at hy; rcases hy with rfl | rfl <;> omega)
 simp only [List.length_cons, List.length_nil] at hnl
 obtain ⟨N1, hN1⟩ : ∃ A, (⟨(numL [x.id, x.known]).toArray⟩ : ByteArray) = A := ⟨_, rfl⟩
 obtain ⟨A1, hA1⟩ : ∃ A, (⟨(numL [x.id, x.known] ++ [32]).toArray⟩ : ByteArray) = A := ⟨_, rfl⟩
 obtain ⟨k1, _, e1⟩ := add_facts (A := N1) (B := ⟨#[32]⟩) (C := A1) _ [32] hN1 rfl hA1 (by simp only [List.length_cons, List.length_nil]; omega)
 simp only [List.length_cons, List.length_nil] at k1
 rw [hN1] at CN
 have HS := Hd hs
 clear hs
 rcases hk with rfl | rfl | rfl
 · obtain ⟨A2, hA2⟩ : ∃ A, (⟨(numL [x.id, x.known] ++ [32] ++ [112, 97, 99, 107, 97, 103, 101]).toArray⟩ : ByteArray) = A := ⟨_, rfl⟩
   obtain ⟨A3, hA3⟩ : ∃ A, (⟨(numL [x.id, x.known] ++ [32] ++ [112, 97, 99, 107, 97, 103, 101] ++ [32]).toArray⟩ : ByteArray) = A := ⟨_, rfl⟩
   obtain ⟨k2, _, e2⟩ := add_facts (A := A1) (B := ⟨#[112, 97, 99, 107, 97, 103, 101]⟩) (C := A2) _ [112, 97, 99, 107, 97, 103, 101] hA1 rfl hA2 (by simp only [List.length_append, List.length_cons, List.length_nil]; omega)
   obtain ⟨k3, _, e3⟩ := add_facts (A := A2) (B := ⟨#[32]⟩) (C := A3) _ [32] hA2 rfl hA3 (by simp only [List.length_append, List.length_cons, List.length_nil]; omega)
   simp only [List.length_cons, List.length_nil] at k2 k3
   have HA3 := Hd (show (⟨(headP x).toArray⟩ : ByteArray) = A3 from by rw [← hA3]; unfold headP wordP; rw [HKd.out]; simp only [if_true, Nat.reduceEqDiff, reduceIte, Int.reduceEq, if_false])
   have HHl := Hd (show (headP x).length ≤ 60 from by unfold headP wordP; rw [HKd.out]; simp only [reduceIte, Int.reduceEq, if_false, if_true, List.length_append, List.length_cons, List.length_nil]; omega)
   clear hA3 hA2 hA1 hN1
   have ix := idxw1
   go_region_held3 (fun w' => w'.cell? ⟨B, 0, none⟩ = some (.int .i64 x.id) ∧ w'.cell? ⟨B, 1, none⟩ = some (.int .i64 x.known) ∧ w'.cell? ⟨B, 2, none⟩ = some (.int .u8 1))
    (first | go_keep | exact ⟨cell_stays c0 hb7.out, cell_stays c1 hb7.out, cell_stays c2 hb7.out⟩ | exact ⟨cell_stays c0 hb5.out, cell_stays c1 hb5.out, cell_stays c2 hb5.out⟩)
    (first
      | (go_at_call 93; refine (CN.out _ (dr' (Below.refl _ _))).mono ?_; rintro e w5 ⟨rfl, hB5⟩; have hb5 := Hd (show Below w2.heap.size w2 w5 from (al' (dr' (Below.refl w2.heap.size w2)) _).trans (hB5.mono (by simp))))
      | (go_at_call 89; refine (words_any _).mono ?_; rintro e w6 ⟨rfl, hb6⟩; have hb7 := Hd (below_then hb5.out hb6 (Nat.le_refl _))))
   have hst6 := keep14_below HSt.out hb7.out
   have hf := HF.out
   unfold formedP at hf
   have hkx := HKd.out
   have hBw6 := Hd (HB2.out.trans (hb7.out.mono HB2.out.size))
   have HT6 := Hd (HT2.out.below hb7.out)
   have HBe6 := Hd hb7.out
   clear hb5 hb6 hb7 hB5 k1 k2 k3 e1 e2 e3 ix CN c0 c1 c2 bl hnl
   have hmk : x.mark.length ≤ 1000 := by
    have : isMark x.mark = true := by rcases hf.2.2 with h | h | h; exact h.2.2.2.2.2.1; exact absurd (hkx.symm.trans h.1) (by decide); exact absurd (hkx.symm.trans h.1) (by decide)
    simp only [isMark, within, Bool.and_eq_true, decide_eq_true_eq] at this; omega
   have hgd : x.goods.length ≤ 1000 := by
    have : isName x.goods = true := by rcases hf.2.2 with h | h | h; exact h.2.2.2.2.2.2.1; exact absurd (hkx.symm.trans h.1) (by decide); exact absurd (hkx.symm.trans h.1) (by decide)
    simp only [isName, within, Bool.and_eq_true, decide_eq_true_eq] at this; omega
   have HNm := (show ∀ y ∈ [x.loss, x.pack, x.inn], 0 ≤ y ∧ y ≤ 1000000000000 from by intro y hy; simp only [List.mem_cons, List.not_mem_nil, or_false] at hy; omega)
   have LNm := numL_len HNm
   simp only [List.length_cons, List.length_nil] at LNm
   obtain ⟨Nm, Em⟩ : ∃ A, (⟨(numL [x.loss, x.pack, x.inn]).toArray⟩ : ByteArray) = A := ⟨_, rfl⟩
   have CNm := Hd (show ∀ W Bk, W.heap[Bk]? = some (.cells #[.int .i64 x.loss, .int .i64 x.pack, .int .i64 x.inn] 3 (0, 0)) → Below w6.heap.size w6 W → Calls Tryz.prog 93 #[.slice (some ⟨Bk, 0, none⟩) 3 3] W fun e w' => e = .returned (.string Nm) ∧ Below W.heap.size W w' from fun W Bk hb hW => by
    rw [← Em]; exact nums_block (xs := [x.loss, x.pack, x.inn]) HNm (by simp) (by simp) rfl hb (HT6.out.below hW))
   have HNq := (show ∀ y ∈ [x.low, x.high, x.pieces, x.owner], 0 ≤ y ∧ y ≤ 1000000000000 from by intro y hy; simp only [List.mem_cons, List.not_mem_nil, or_false] at hy; omega)
   have LNq := numL_len HNq
   simp only [List.length_cons, List.length_nil] at LNq
   obtain ⟨Nq, Eq⟩ : ∃ A, (⟨(numL [x.low, x.high, x.pieces, x.owner]).toArray⟩ : ByteArray) = A := ⟨_, rfl⟩
   have CNq := Hd (show ∀ W Bk, W.heap[Bk]? = some (.cells #[.int .i64 x.low, .int .i64 x.high, .int .i64 x.pieces, .int .i64 x.owner] 3 (0, 0)) → Below w6.heap.size w6 W → Calls Tryz.prog 93 #[.slice (some ⟨Bk, 0, none⟩) 4 4] W fun e w' => e = .returned (.string Nq) ∧ Below W.heap.size W w' from fun W Bk hb hW => by
    rw [← Eq]; exact nums_block (xs := [x.low, x.high, x.pieces, x.owner]) HNq (by simp) (by simp) rfl hb (HT6.out.below hW))
   obtain ⟨A4, hA4⟩ : ∃ A, (⟨(headP x ++ numL [x.loss, x.pack, x.inn]).toArray⟩ : ByteArray) = A := ⟨_, rfl⟩
   obtain ⟨k4, k4', e4⟩ := add_facts (A := A3) (B := Nm) (C := A4) (headP x) (numL [x.loss, x.pack, x.inn]) HA3.out Em hA4 (by (try simp only [List.length_append, List.length_cons, List.length_nil]); have := HHl.out; omega)
   try simp only [List.length_cons, List.length_nil] at k4
   obtain ⟨A5, hA5⟩ : ∃ A, (⟨(headP x ++ numL [x.loss, x.pack, x.inn] ++ [32]).toArray⟩ : ByteArray) = A := ⟨_, rfl⟩
   obtain ⟨k5, k5', e5⟩ := add_facts (A := A4) (B := ⟨#[32]⟩) (C := A5) (headP x ++ numL [x.loss, x.pack, x.inn]) ([32]) hA4 rfl hA5 (by (try simp only [List.length_append, List.length_cons, List.length_nil]); have := HHl.out; omega)
   try simp only [List.length_cons, List.length_nil] at k5
   obtain ⟨A6, hA6⟩ : ∃ A, (⟨(headP x ++ numL [x.loss, x.pack, x.inn] ++ [32] ++ x.mark).toArray⟩ : ByteArray) = A := ⟨_, rfl⟩
   obtain ⟨k6, k6', e6⟩ := add_facts (A := A5) (B := ⟨x.mark.toArray⟩) (C := A6) (headP x ++ numL [x.loss, x.pack, x.inn] ++ [32]) (x.mark) hA5 rfl hA6 (by (try simp only [List.length_append, List.length_cons, List.length_nil]); have := HHl.out; omega)
   try simp only [List.length_cons, List.length_nil] at k6
   obtain ⟨A7, hA7⟩ : ∃ A, (⟨(headP x ++ numL [x.loss, x.pack, x.inn] ++ [32] ++ x.mark ++ [32]).toArray⟩ : ByteArray) = A := ⟨_, rfl⟩
   obtain ⟨k7, k7', e7⟩ := add_facts (A := A6) (B := ⟨#[32]⟩) (C := A7) (headP x ++ numL [x.loss, x.pack, x.inn] ++ [32] ++ x.mark) ([32]) hA6 rfl hA7 (by (try simp only [List.length_append, List.length_cons, List.length_nil]); have := HHl.out; omega)
   try simp only [List.length_cons, List.length_nil] at k7
   obtain ⟨A8, hA8⟩ : ∃ A, (⟨(headP x ++ numL [x.loss, x.pack, x.inn] ++ [32] ++ x.mark ++ [32] ++ x.goods).toArray⟩ : ByteArray) = A := ⟨_, rfl⟩
   obtain ⟨k8, k8', e8⟩ := add_facts (A := A7) (B := ⟨x.goods.toArray⟩) (C := A8) (headP x ++ numL [x.loss, x.pack, x.inn] ++ [32] ++ x.mark ++ [32]) (x.goods) hA7 rfl hA8 (by (try simp only [List.length_append, List.length_cons, List.length_nil]); have := HHl.out; omega)
   try simp only [List.length_cons, List.length_nil] at k8
   obtain ⟨A9, hA9⟩ : ∃ A, (⟨(headP x ++ numL [x.loss, x.pack, x.inn] ++ [32] ++ x.mark ++ [32] ++ x.goods ++ [32]).toArray⟩ : ByteArray) = A := ⟨_, rfl⟩
   obtain ⟨k9, k9', e9⟩ := add_facts (A := A8) (B := ⟨#[32]⟩) (C := A9) (headP x ++ numL [x.loss, x.pack, x.inn] ++ [32] ++ x.mark ++ [32] ++ x.goods) ([32]) hA8 rfl hA9 (by (try simp only [List.length_append, List.length_cons, List.length_nil]); have := HHl.out; omega)
   try simp only [List.length_cons, List.length_nil] at k9
   obtain ⟨A10, hA10⟩ : ∃ A, (⟨(headP x ++ numL [x.loss, x.pack, x.inn] ++ [32] ++ x.mark ++ [32] ++ x.goods ++ [32] ++ numL [x.low, x.high, x.pieces, x.owner]).toArray⟩ : ByteArray) = A := ⟨_, rfl⟩
   obtain ⟨k10, k10', e10⟩ := add_facts (A := A9) (B := Nq) (C := A10) (headP x ++ numL [x.loss, x.pack, x.inn] ++ [32] ++ x.mark ++ [32] ++ x.goods ++ [32]) (numL [x.low, x.high, x.pieces, x.owner]) hA9 Eq hA10 (by (try simp only [List.length_append, List.length_cons, List.length_nil]); have := HHl.out; omega)
   try simp only [List.length_cons, List.length_nil] at k10
   have HA10 := Hd (show (⟨(writeP x).toArray⟩ : ByteArray) = A10 from by rw [← hA10]; unfold writeP tailP; rw [hkx]; simp [List.append_assoc])
   obtain ⟨c0, c1, c2, c3, c4, c5, c6, c7, c8, c9, c10, c11, c12, c13⟩ := hst6
   have bl := World.block_lt_of_cell? _ _ c0
   have HK6 := Hd (show keepT B x w6 from ⟨c3, c4, c5, c6, c7, c8, c9, c10, c11⟩)
   clear hf hkx hA4 hA5 hA6 hA7 hA8 hA9 hA10 Em Eq HNm HNq LNm LNq hmk hgd
   go_upto_region 7 with (fail)
   clear c0 c1 c2 c3 c4 c5 c6 c7 c8 c9 c10 c11 c12 c13
   obtain ⟨c3, c4, c5, c6, c7, c8, c9, c10, c11⟩ := HK6.out
   go_region_held3 (fun w' => w'.cell? ⟨B, 3, none⟩ = some (.int .i64 x.loss) ∧ w'.cell? ⟨B, 4, none⟩ = some (.int .i64 x.pack) ∧ w'.cell? ⟨B, 5, none⟩ = some (.int .i64 x.inn) ∧ w'.cell? ⟨B, 6, none⟩ = some (.string ⟨x.mark.toArray⟩) ∧ w'.cell? ⟨B, 7, none⟩ = some (.string ⟨x.goods.toArray⟩) ∧ w'.cell? ⟨B, 8, none⟩ = some (.int .i64 x.low) ∧ w'.cell? ⟨B, 9, none⟩ = some (.int .i64 x.high) ∧ w'.cell? ⟨B, 10, none⟩ = some (.int .i64 x.pieces) ∧ w'.cell? ⟨B, 11, none⟩ = some (.int .i64 x.owner))
    ((refine keepT_below HK6.out ?_; first | with_reducible apply dr' (Below.refl _ _) | with_reducible apply hb9.out | with_reducible apply hb8.out | with_reducible apply al' hb8.out | with_reducible apply dr' (al' (Below.refl _ _) _) | with_reducible apply dr' (al' (al' (Below.refl _ _) _) _) | with_reducible apply al' (dr' (Below.refl _ _)) | with_reducible apply al' (dr' (al' (Below.refl _ _) _))))
    (first
      | (go_at_call 93; with_reducible refine (CNm.out _ _ (blk0d w6 _ _) (dr' (al' (Below.refl _ _) _))).mono ?_; rintro e w8 ⟨rfl, hB8⟩; have hb8 := Hd (show Below w6.heap.size w6 w8 from below_on (dr' (al' (Below.refl _ _) _)) hB8 (Nat.le_refl _)))
      | (go_at_call 93; with_reducible refine (CNm.out _ _ (blk0d' w6 _ _ _) (dr' (al' (al' (Below.refl _ _) _) _))).mono ?_; rintro e w8 ⟨rfl, hB8⟩; have hb8 := Hd (show Below w6.heap.size w6 w8 from below_on (dr' (al' (al' (Below.refl _ _) _) _)) hB8 (Nat.le_refl _)))
      | (go_at_call 93; with_reducible refine (CNm.out _ _ (blk1d w6 _ _ _) (dr' (al' (al' (Below.refl _ _) _) _))).mono ?_; rintro e w8 ⟨rfl, hB8⟩; have hb8 := Hd (show Below w6.heap.size w6 w8 from below_on (dr' (al' (al' (Below.refl _ _) _) _)) hB8 (Nat.le_refl _)))
      | (go_at_call 93; with_reducible refine (CNq.out _ _ (heap_alloc_new w8 _) (al' hb8.out _)).mono ?_; rintro e w9 ⟨rfl, hB9⟩; have hb9 := Hd (show Below w6.heap.size w6 w9 from below_on (al' hb8.out _) hB9 (Nat.le_refl _)))
      | (go_at_call 93; with_reducible refine (CNq.out w8 _ ((hB8.block _ (by simp)).trans (blk1d w6 _ _ _)) hb8.out).mono ?_; rintro e w9 ⟨rfl, hB9⟩; have hb9 := Hd (show Below w6.heap.size w6 w9 from below_on hb8.out hB9 (Nat.le_refl _)))
      | (go_at_call 93; with_reducible refine (CNq.out w8 _ ((hB8.block _ (by simp; omega)).trans (blk0d' w6 _ _ _)) hb8.out).mono ?_; rintro e w9 ⟨rfl, hB9⟩; have hb9 := Hd (show Below w6.heap.size w6 w9 from below_on hb8.out hB9 (Nat.le_refl _))))
   all_goals
    have HB9 := Hd hb9.out
    clear hB8 hB9 hb8 hb9
    go_wp2_with fail
    exact bodyPost_ret (by simp [results, Tryz.results52, go_sem]) rfl (show WritePost w x (.returned (.tuple #[.string A10, .int .i64 0])) w9 from ⟨hBw6.out.trans (HB9.out.mono hBw6.out.size), .inl ⟨HF.out, by rw [HA10.out]⟩⟩)
 · obtain ⟨A2, hA2⟩ : ∃ A, (⟨(numL [x.id, x.known] ++ [32] ++ [116, 111, 116, 97, 108]).toArray⟩ : ByteArray) = A := ⟨_, rfl⟩
   obtain ⟨A3, hA3⟩ : ∃ A, (⟨(numL [x.id, x.known] ++ [32] ++ [116, 111, 116, 97, 108] ++ [32]).toArray⟩ : ByteArray) = A := ⟨_, rfl⟩
   obtain ⟨k2, _, e2⟩ := add_facts (A := A1) (B := ⟨#[116, 111, 116, 97, 108]⟩) (C := A2) _ [116, 111, 116, 97, 108] hA1 rfl hA2 (by simp only [List.length_append, List.length_cons, List.length_nil]; omega)
   obtain ⟨k3, _, e3⟩ := add_facts (A := A2) (B := ⟨#[32]⟩) (C := A3) _ [32] hA2 rfl hA3 (by simp only [List.length_append, List.length_cons, List.length_nil]; omega)
   simp only [List.length_cons, List.length_nil] at k2 k3
   have HA3 := Hd (show (⟨(headP x).toArray⟩ : ByteArray) = A3 from by rw [← hA3]; unfold headP wordP; rw [HKd.out]; simp only [if_true, Nat.reduceEqDiff, reduceIte, Int.reduceEq, if_false])
   have HHl := Hd (show (headP x).length ≤ 60 from by unfold headP wordP; rw [HKd.out]; simp only [reduceIte, Int.reduceEq, if_false, if_true, List.length_append, List.length_cons, List.length_nil]; omega)
   clear hA3 hA2 hA1 hN1
   have ix := idxw2
   go_region_held3 (fun w' => w'.cell? ⟨B, 0, none⟩ = some (.int .i64 x.id) ∧ w'.cell? ⟨B, 1, none⟩ = some (.int .i64 x.known) ∧ w'.cell? ⟨B, 2, none⟩ = some (.int .u8 2))
    (first | go_keep | exact ⟨cell_stays c0 hb7.out, cell_stays c1 hb7.out, cell_stays c2 hb7.out⟩ | exact ⟨cell_stays c0 hb5.out, cell_stays c1 hb5.out, cell_stays c2 hb5.out⟩)
    (first
      | (go_at_call 93; refine (CN.out _ (dr' (Below.refl _ _))).mono ?_; rintro e w5 ⟨rfl, hB5⟩; have hb5 := Hd (show Below w2.heap.size w2 w5 from (al' (dr' (Below.refl w2.heap.size w2)) _).trans (hB5.mono (by simp))))
      | (go_at_call 89; refine (words_any _).mono ?_; rintro e w6 ⟨rfl, hb6⟩; have hb7 := Hd (below_then hb5.out hb6 (Nat.le_refl _))))
   have hst6 := keep14_below HSt.out hb7.out
   have hf := HF.out
   unfold formedP at hf
   have hkx := HKd.out
   have hBw6 := Hd (HB2.out.trans (hb7.out.mono HB2.out.size))
   have HT6 := Hd (HT2.out.below hb7.out)
   have HBe6 := Hd hb7.out
   clear hb5 hb6 hb7 hB5 k1 k2 k3 e1 e2 e3 ix CN c0 c1 c2 bl hnl
   have HNn := (show ∀ y ∈ [x.loss, x.pack, x.count, x.low, x.high], 0 ≤ y ∧ y ≤ 1000000000000 from by intro y hy; simp only [List.mem_cons, List.not_mem_nil, or_false] at hy; omega)
   have CNn := Hd (nums_made (W0 := w6) (xs := [x.loss, x.pack, x.count, x.low, x.high]) HNn (by simp) (by simp) rfl HT6.out)
   have LNn := numL_len HNn
   simp only [List.length_cons, List.length_nil] at LNn
   obtain ⟨Nn, En⟩ : ∃ A, (⟨(numL [x.loss, x.pack, x.count, x.low, x.high]).toArray⟩ : ByteArray) = A := ⟨_, rfl⟩
   rw [En] at CNn
   obtain ⟨c0, c1, c2, c3, c4, c5, c6, c7, c8, c9, c10, c11, c12, c13⟩ := hst6
   have bl := World.block_lt_of_cell? _ _ c0
   obtain ⟨A4, hA4⟩ : ∃ A, (⟨(headP x ++ numL [x.loss, x.pack, x.count, x.low, x.high]).toArray⟩ : ByteArray) = A := ⟨_, rfl⟩
   obtain ⟨k4, k4', e4⟩ := add_facts (A := A3) (B := Nn) (C := A4) (headP x) (numL [x.loss, x.pack, x.count, x.low, x.high]) HA3.out En hA4 (by have := HHl.out; omega)
   have HA4 := Hd (show (⟨(writeP x).toArray⟩ : ByteArray) = A4 from by rw [← hA4]; unfold writeP tailP; rw [hkx]; rfl)
   clear hf hkx hA4 En HNn LNn
   simp only [List.length_cons, List.length_nil] at CNn
   go_wp2_with (go_at_call 93; refine CNn.out.mono ?_; rintro e w8 ⟨rfl, hB8⟩)
   exact bodyPost_ret (by simp [results, Tryz.results52, go_sem]) rfl (show WritePost w x (.returned (.tuple #[.string A4, .int .i64 0])) w8 from ⟨(al' hBw6.out _).trans (hB8.mono (Nat.le_trans hBw6.out.size (Nat.le_succ _))), .inl ⟨HF.out, by rw [HA4.out]⟩⟩)
 · obtain ⟨A2, hA2⟩ : ∃ A, (⟨(numL [x.id, x.known] ++ [32] ++ [118, 111, 105, 100]).toArray⟩ : ByteArray) = A := ⟨_, rfl⟩
   obtain ⟨A3, hA3⟩ : ∃ A, (⟨(numL [x.id, x.known] ++ [32] ++ [118, 111, 105, 100] ++ [32]).toArray⟩ : ByteArray) = A := ⟨_, rfl⟩
   obtain ⟨k2, _, e2⟩ := add_facts (A := A1) (B := ⟨#[118, 111, 105, 100]⟩) (C := A2) _ [118, 111, 105, 100] hA1 rfl hA2 (by simp only [List.length_append, List.length_cons, List.length_nil]; omega)
   obtain ⟨k3, _, e3⟩ := add_facts (A := A2) (B := ⟨#[32]⟩) (C := A3) _ [32] hA2 rfl hA3 (by simp only [List.length_append, List.length_cons, List.length_nil]; omega)
   simp only [List.length_cons, List.length_nil] at k2 k3
   have HA3 := Hd (show (⟨(headP x).toArray⟩ : ByteArray) = A3 from by rw [← hA3]; unfold headP wordP; rw [HKd.out]; simp only [if_true, Nat.reduceEqDiff, reduceIte, Int.reduceEq, if_false])
   have HHl := Hd (show (headP x).length ≤ 60 from by unfold headP wordP; rw [HKd.out]; simp only [reduceIte, Int.reduceEq, if_false, if_true, List.length_append, List.length_cons, List.length_nil]; omega)
   clear hA3 hA2 hA1 hN1
   have ix := idxw3
   go_region_held3 (fun w' => w'.cell? ⟨B, 0, none⟩ = some (.int .i64 x.id) ∧ w'.cell? ⟨B, 1, none⟩ = some (.int .i64 x.known) ∧ w'.cell? ⟨B, 2, none⟩ = some (.int .u8 3))
    (first | go_keep | exact ⟨cell_stays c0 hb7.out, cell_stays c1 hb7.out, cell_stays c2 hb7.out⟩ | exact ⟨cell_stays c0 hb5.out, cell_stays c1 hb5.out, cell_stays c2 hb5.out⟩)
    (first
      | (go_at_call 93; refine (CN.out _ (dr' (Below.refl _ _))).mono ?_; rintro e w5 ⟨rfl, hB5⟩; have hb5 := Hd (show Below w2.heap.size w2 w5 from (al' (dr' (Below.refl w2.heap.size w2)) _).trans (hB5.mono (by simp))))
      | (go_at_call 89; refine (words_any _).mono ?_; rintro e w6 ⟨rfl, hb6⟩; have hb7 := Hd (below_then hb5.out hb6 (Nat.le_refl _))))
   have hst6 := keep14_below HSt.out hb7.out
   have hf := HF.out
   unfold formedP at hf
   have hkx := HKd.out
   have hBw6 := Hd (HB2.out.trans (hb7.out.mono HB2.out.size))
   have HT6 := Hd (HT2.out.below hb7.out)
   have HBe6 := Hd hb7.out
   clear hb5 hb6 hb7 hB5 k1 k2 k3 e1 e2 e3 ix CN c0 c1 c2 bl hnl
   have HNn := (show ∀ y ∈ [x.of], 0 ≤ y ∧ y ≤ 1000000000000 from by intro y hy; simp only [List.mem_cons, List.not_mem_nil, or_false] at hy; omega)
   have CNn := Hd (nums_made (W0 := w6) (xs := [x.of]) HNn (by simp) (by simp) rfl HT6.out)
   have LNn := numL_len HNn
   simp only [List.length_cons, List.length_nil] at LNn
   obtain ⟨Nn, En⟩ : ∃ A, (⟨(numL [x.of]).toArray⟩ : ByteArray) = A := ⟨_, rfl⟩
   rw [En] at CNn
   obtain ⟨c0, c1, c2, c3, c4, c5, c6, c7, c8, c9, c10, c11, c12, c13⟩ := hst6
   have bl := World.block_lt_of_cell? _ _ c0
   obtain ⟨A4, hA4⟩ : ∃ A, (⟨(headP x ++ numL [x.of]).toArray⟩ : ByteArray) = A := ⟨_, rfl⟩
   obtain ⟨k4, k4', e4⟩ := add_facts (A := A3) (B := Nn) (C := A4) (headP x) (numL [x.of]) HA3.out En hA4 (by have := HHl.out; omega)
   have HA4 := Hd (show (⟨(writeP x).toArray⟩ : ByteArray) = A4 from by rw [← hA4]; unfold writeP tailP; rw [hkx]; rfl)
   clear hf hkx hA4 En HNn LNn
   simp only [List.length_cons, List.length_nil] at CNn
   go_wp2_with (go_at_call 93; refine CNn.out.mono ?_; rintro e w8 ⟨rfl, hB8⟩)
   exact bodyPost_ret (by simp [results, Tryz.results52, go_sem]) rfl (show WritePost w x (.returned (.tuple #[.string A4, .int .i64 0])) w8 from ⟨(al' hBw6.out _).trans (hB8.mono (Nat.le_trans hBw6.out.size (Nat.le_succ _))), .inl ⟨HF.out, by rw [HA4.out]⟩⟩)
end Go.Proofs.YtehplmeckfinoaaGreatDoor
