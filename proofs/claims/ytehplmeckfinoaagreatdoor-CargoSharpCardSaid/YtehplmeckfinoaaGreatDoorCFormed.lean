/- Blocks of cells that may be written; the walk of formed. -/
import Derived.Test.YtehplmeckfinoaaGreatDoorCMark
import Derived.Deep.Cut
set_option linter.unusedSimpArgs false
set_option linter.unusedVariables false
namespace Go.Proofs.YtehplmeckfinoaaGreatDoor
open Go.RowKit
def BoxG (w : World) (B : Nat) (cs : List Value) : Prop := B < w.heap.size ∧ (∀ j, w.frozen? ⟨B, j, none⟩ = false) ∧ ∀ j, j < cs.length → w.cell? ⟨B, j, none⟩ = cs[j]?
theorem frz0 {w : World} {g : Nat} {t : TypeId} {cs : Array Value} (h : w.heap[g]? = some (.cells cs t (0, 0))) (i : Nat) : w.frozen? ⟨g, i, none⟩ = false := by simp [World.frozen?, h]
theorem BoxG.made (w : World) (cs : List Value) (T : TypeId) : BoxG (w.alloc (.cells cs.toArray T)) w.heap.size cs :=
 ⟨by simp, fun j => frz0 (heap_alloc_new w _) j, fun j hj => by rw [cell_of_row _ _ _ _ _ (0, 0) (heap_alloc_new w _)]; simp⟩
theorem BoxG.below' {w w' : World} {B : Nat} {cs : List Value} (h : BoxG w B cs) (hB : Below w.heap.size w w') : BoxG w' B cs :=
 ⟨Nat.lt_of_lt_of_le h.1 hB.size, fun j => (hB.frozen (p := ⟨B, j, none⟩) h.1).trans (h.2.1 j), fun j hj => (hB.cell (p := ⟨B, j, none⟩) h.1).trans (h.2.2 j hj)⟩
theorem cell_off {w : World} {B i j : Nat} {u v : Value} (h : w.cell? ⟨B, j, none⟩ = some u) (hij : i ≠ j) : (w.setCell ⟨B, i, none⟩ v).cell? ⟨B, j, none⟩ = some u := by
 rw [World.cell?_setCell_other _ _ _ _ (by simp [hij])]; exact h
theorem cell_on {w : World} {B j : Nat} {u v : Value} (h : w.cell? ⟨B, j, none⟩ = some u) : (w.setCell ⟨B, j, none⟩ v).cell? ⟨B, j, none⟩ = some v :=
 World.cell?_setCell_same' _ _ _ (by rw [h]; rfl)
theorem BoxG.set {w : World} {B : Nat} {cs : List Value} (h : BoxG w B cs) (i : Nat) (v : Value) (hi : i < cs.length) : BoxG (w.setCell ⟨B, i, none⟩ v) B (cs.set i v) := by
 refine ⟨by have := h.1; simpa [World.setCell] using this, fun j => by rw [World.frozen?_setCell]; exact h.2.1 j, fun j hj => ?_⟩
 rw [List.length_set] at hj
 by_cases e : i = j
 · subst e
   rw [List.getElem?_set_self hj]
   have := h.2.2 i hj
   rw [List.getElem?_eq_getElem hj] at this
   exact cell_on this
 · rw [List.getElem?_set_ne e]
   have := h.2.2 j hj
   rw [List.getElem?_eq_getElem hj] at this ⊢
   exact cell_off this e
theorem BoxG.aside {w : World} {A B : Nat} {cs : List Value} (h : BoxG w A cs) (hn : A ≠ B) (i : Nat) (v : Value) : BoxG (w.setCell ⟨B, i, none⟩ v) A cs :=
 ⟨by have := h.1; simpa [World.setCell] using this, fun j => by rw [World.frozen?_setCell]; exact h.2.1 j, fun j hj => by
  rw [World.cell?_setCell_other _ _ _ _ (fun e => hn (congrArg Addr.block e).symm)]; exact h.2.2 j hj⟩
theorem dr' {B : Nat} {w w' : World} (h : Below B w w') : Below B w w'.drew := below_drewN h 1
theorem al' {w w' : World} (h : Below w.heap.size w w') (o : Obj) : Below w.heap.size w (w'.alloc o) := h.alloc h.size o
theorem cell_stays {W W' : World} {a : Addr} {v : Value} (h : W.cell? a = some v) (hB : Below W.heap.size W W') : W'.cell? a = some v := (hB.cell (World.block_lt_of_cell? _ _ h)).trans h
theorem BoxG.pa {w : World} {B : Nat} {x : Pa} (h : BoxG w B x.vals) :
 w.cell? ⟨B, 0, none⟩ = some (.int .i64 x.id) ∧ w.cell? ⟨B, 1, none⟩ = some (.int .i64 x.known) ∧ w.cell? ⟨B, 2, none⟩ = some (.int .u8 x.kind) ∧ w.cell? ⟨B, 3, none⟩ = some (.int .i64 x.loss) ∧ w.cell? ⟨B, 4, none⟩ = some (.int .i64 x.pack) ∧ w.cell? ⟨B, 5, none⟩ = some (.int .i64 x.inn) ∧ w.cell? ⟨B, 6, none⟩ = some (.string ⟨x.mark.toArray⟩) ∧ w.cell? ⟨B, 7, none⟩ = some (.string ⟨x.goods.toArray⟩) ∧ w.cell? ⟨B, 8, none⟩ = some (.int .i64 x.low) ∧ w.cell? ⟨B, 9, none⟩ = some (.int .i64 x.high) ∧ w.cell? ⟨B, 10, none⟩ = some (.int .i64 x.pieces) ∧ w.cell? ⟨B, 11, none⟩ = some (.int .i64 x.owner) ∧ w.cell? ⟨B, 12, none⟩ = some (.int .i64 x.count) ∧ w.cell? ⟨B, 13, none⟩ = some (.int .i64 x.of) :=
 ⟨h.2.2 0 (show 0 < 14 by decide), h.2.2 1 (show 1 < 14 by decide), h.2.2 2 (show 2 < 14 by decide), h.2.2 3 (show 3 < 14 by decide), h.2.2 4 (show 4 < 14 by decide), h.2.2 5 (show 5 < 14 by decide), h.2.2 6 (show 6 < 14 by decide), h.2.2 7 (show 7 < 14 by decide), h.2.2 8 (show 8 < 14 by decide), h.2.2 9 (show 9 < 14 by decide), h.2.2 10 (show 10 < 14 by decide), h.2.2 11 (show 11 < 14 by decide), h.2.2 12 (show 12 < 14 by decide), h.2.2 13 (show 13 < 14 by decide)⟩
theorem BoxG.fr {w : World} {B : Nat} {cs : List Value} (h : BoxG w B cs) :
 w.frozen? ⟨B, 0, none⟩ = false ∧ w.frozen? ⟨B, 1, none⟩ = false ∧ w.frozen? ⟨B, 2, none⟩ = false ∧ w.frozen? ⟨B, 3, none⟩ = false ∧ w.frozen? ⟨B, 4, none⟩ = false ∧ w.frozen? ⟨B, 5, none⟩ = false ∧ w.frozen? ⟨B, 6, none⟩ = false ∧ w.frozen? ⟨B, 7, none⟩ = false ∧ w.frozen? ⟨B, 8, none⟩ = false ∧ w.frozen? ⟨B, 9, none⟩ = false ∧ w.frozen? ⟨B, 10, none⟩ = false ∧ w.frozen? ⟨B, 11, none⟩ = false ∧ w.frozen? ⟨B, 12, none⟩ = false ∧ w.frozen? ⟨B, 13, none⟩ = false :=
 ⟨h.2.1 0, h.2.1 1, h.2.1 2, h.2.1 3, h.2.1 4, h.2.1 5, h.2.1 6, h.2.1 7, h.2.1 8, h.2.1 9, h.2.1 10, h.2.1 11, h.2.1 12, h.2.1 13⟩
def Pa.Short (x : Pa) : Prop := x.mark.length ≤ 9223372036854775806 ∧ x.goods.length ≤ 9223372036854775806
theorem formed_1 {x : Pa} (k : x.kind = 1) (h : (1 ≤ x.id ∧ x.id ≤ 1000000) ∧ (0 ≤ x.known ∧ x.known ≤ 1000000)) :
 formedP x ↔ ((within x.loss 1 20 && within x.pack 1 200 && within x.inn 0 200 && (x.inn != x.pack) && isMark x.mark && isName x.goods && spanB x.low x.high 1 100000 && within x.pieces 1 20 && within x.owner 1 40) = true ∧ x.count = 0 ∧ x.of = 0) := by
 simp only [formedP, within, spanB, Bool.and_eq_true, decide_eq_true_eq, bne_iff_ne, k]
 constructor
 · rintro ⟨_, _, ⟨_, a1, a2, a3, a4, a5, a6, a7, a8, a9, a10, a11⟩ | h1 | h1⟩
   · exact ⟨⟨⟨⟨⟨⟨⟨⟨⟨a1, a2⟩, a3⟩, a4⟩, a5⟩, a6⟩, a7⟩, a8⟩, a9⟩, a10, a11⟩
   · exact absurd h1.1 (by decide)
   · exact absurd h1.1 (by decide)
 · rintro ⟨⟨⟨⟨⟨⟨⟨⟨⟨a1, a2⟩, a3⟩, a4⟩, a5⟩, a6⟩, a7⟩, a8⟩, a9⟩, a10, a11⟩
   exact ⟨h.1, h.2, .inl ⟨trivial, a1, a2, a3, a4, a5, a6, a7, a8, a9, a10, a11⟩⟩
theorem formed_2 {x : Pa} (k : x.kind = 2) (h : (1 ≤ x.id ∧ x.id ≤ 1000000) ∧ (0 ≤ x.known ∧ x.known ≤ 1000000)) :
 formedP x ↔ ((within x.loss 1 20 && within x.pack 0 200 && within x.count 0 40 && spanB x.low x.high 0 10000000) = true ∧ x.inn = 0 ∧ x.mark = [] ∧ x.goods = [] ∧ x.pieces = 0 ∧ x.owner = 0 ∧ x.of = 0) := by
 simp only [formedP, within, spanB, Bool.and_eq_true, decide_eq_true_eq, k]
 constructor
 · rintro ⟨_, _, h1 | ⟨_, a1, a2, a3, a4, a5⟩ | h1⟩
   · exact absurd h1.1 (by decide)
   · exact ⟨⟨⟨⟨a1, a2⟩, a3⟩, a4⟩, a5⟩
   · exact absurd h1.1 (by decide)
 · rintro ⟨⟨⟨⟨a1, a2⟩, a3⟩, a4⟩, a5⟩
   exact ⟨h.1, h.2, .inr (.inl ⟨trivial, a1, a2, a3, a4, a5⟩)⟩
theorem formed_3 {x : Pa} (k : x.kind = 3) (h : (1 ≤ x.id ∧ x.id ≤ 1000000) ∧ (0 ≤ x.known ∧ x.known ≤ 1000000)) :
 formedP x ↔ (within x.of 1 1000000 = true ∧ x.loss = 0 ∧ x.pack = 0 ∧ x.inn = 0 ∧ x.mark = [] ∧ x.goods = [] ∧ x.low = 0 ∧ x.high = 0 ∧ x.pieces = 0 ∧ x.owner = 0 ∧ x.count = 0) := by
 simp only [formedP, within, decide_eq_true_eq, k]
 constructor
 · rintro ⟨_, _, h1 | h1 | ⟨_, a1, a2⟩⟩
   · exact absurd h1.1 (by decide)
   · exact absurd h1.1 (by decide)
   · exact ⟨a1, a2⟩
 · rintro ⟨a1, a2⟩
   exact ⟨h.1, h.2, .inr (.inr ⟨trivial, a1, a2⟩)⟩
set_option maxRecDepth 100000 in
set_option maxHeartbeats 4000000 in
theorem formed_any (x : Pa) (hx : x.Short) (w : World) : Calls Tryz.prog 92 #[.agg #[.int .i64 x.id, .int .i64 x.known, .int .u8 x.kind, .int .i64 x.loss, .int .i64 x.pack, .int .i64 x.inn, .string ⟨x.mark.toArray⟩, .string ⟨x.goods.toArray⟩, .int .i64 x.low, .int .i64 x.high, .int .i64 x.pieces, .int .i64 x.owner, .int .i64 x.count, .int .i64 x.of]] w fun e w' => e = .returned (.bool (decide (formedP x))) ∧ Below w.heap.size w w' := by
 have hb := BoxG.made w x.vals 42
 have hB := al' (Below.refl w.heap.size w) (.cells x.vals.toArray 42)
 simp only [Pa.vals] at hb hB
 have HX0 := Hd hb
 have HB0 := Hd hB
 have HSh := Hd hx
 clear hb hB hx
 go_enter Tryz.func92, Tryz.ntmps92
 go_upto_region 1 with (fail)
 generalize w.alloc (.cells #[.int .i64 x.id, .int .i64 x.known, .int .u8 x.kind, .int .i64 x.loss, .int .i64 x.pack, .int .i64 x.inn, .string ⟨x.mark.toArray⟩, .string ⟨x.goods.toArray⟩, .int .i64 x.low, .int .i64 x.high, .int .i64 x.pieces, .int .i64 x.owner, .int .i64 x.count, .int .i64 x.of] 42) = w1 at *
 have HX1 := Hd (show BoxG w1 w.heap.size x.vals from HX0.out)
 obtain ⟨c0, c1, c2, c3, c4, c5, c6, c7, c8, c9, c10, c11, c12, c13⟩ := HX1.out.pa
 clear HX0
 have CW := Hd (fun n a b W => within_any n a b W)
 by_cases hid : 1 ≤ x.id ∧ x.id ≤ 1000000
 case neg =>
  have HE := Hd (show decide (formedP x) = false from decide_eq_false (fun h => hid h.1))
  have h1 : within x.id 1 1000000 = false := decide_eq_false hid
  clear hid
  go_wp2_with fail
  refine (CW.out _ _ _ _).mono ?_
  rintro e w' ⟨rfl, rfl⟩
  rw [h1]
  go_wp2_with fail
  go_ret
  exact ⟨by rw [HE.out] <;> rfl, HB0.out⟩
 have h1 : within x.id 1 1000000 = true := decide_eq_true hid
 go_wp2_with fail
 refine (CW.out _ _ _ _).mono ?_
 rintro e w' ⟨rfl, rfl⟩
 rw [h1]
 by_cases hkn : 0 ≤ x.known ∧ x.known ≤ 1000000
 case neg =>
  have HE := Hd (show decide (formedP x) = false from decide_eq_false (fun h => hkn h.2.1))
  have h2 : within x.known 0 1000000 = false := decide_eq_false hkn
  clear hid hkn h1
  go_wp2_with fail
  refine (CW.out _ _ _ _).mono ?_
  rintro e w' ⟨rfl, rfl⟩
  rw [h2]
  go_wp2_with fail
  go_ret
  exact ⟨by rw [HE.out] <;> rfl, HB0.out⟩
 have h2 : within x.known 0 1000000 = true := decide_eq_true hkn
 have HIK := Hd (And.intro hid hkn)
 clear hid hkn h1
 go_wp2_with fail
 refine (CW.out _ _ _ _).mono ?_
 rintro e w' ⟨rfl, rfl⟩
 rw [h2]
 clear h2
 go_upto_region 5 with (fail)
 -- BEHIND THE COPY
 have hb := BoxG.made w' (Pa.vals { x with id := 0, known := 0, kind := 0 }) 42
 have hB := al' (Below.refl w'.heap.size w') (.cells (Pa.vals { x with id := 0, known := 0, kind := 0 }).toArray 42)
 have hy := HX1.out.below' hB
 have hB2 := HB0.out.alloc HB0.out.size (.cells (Pa.vals { x with id := 0, known := 0, kind := 0 }).toArray 42)
 have hlt : w.heap.size < w'.heap.size := HX1.out.1
 simp only [Pa.vals] at hb hB hy hB2
 generalize w'.alloc (.cells #[.int .i64 0, .int .i64 0, .int .u8 0, .int .i64 x.loss, .int .i64 x.pack, .int .i64 x.inn, .string ⟨x.mark.toArray⟩, .string ⟨x.goods.toArray⟩, .int .i64 x.low, .int .i64 x.high, .int .i64 x.pieces, .int .i64 x.owner, .int .i64 x.count, .int .i64 x.of] 42) = w2 at *
 obtain ⟨B2, hB2e⟩ : ∃ B, w'.heap.size = B := ⟨_, rfl⟩
 rw [hB2e] at hb hlt ⊢
 have HX2 := Hd (show BoxG w2 w.heap.size x.vals from hy)
 have HY2 := Hd (show BoxG w2 B2 (Pa.vals { x with id := 0, known := 0, kind := 0 }) from hb)
 have HB2 := Hd hB2
 have HLT := Hd hlt
 clear hb hB hy hB2 hlt hB2e HB0 HX1 c0 c1 c2 c3 c4 c5 c6 c7 c8 c9 c10 c11 c12 c13
 obtain ⟨c0, c1, c2, c3, c4, c5, c6, c7, c8, c9, c10, c11, c12, c13⟩ := HX2.out.pa
 by_cases k1 : x.kind = 1
 case pos =>
  have e1 : (x.kind == 1) = true := by simp [k1]
  have HK := Hd k1
  clear k1
  go_upto_region 8 with (fail)
  clear e1
  obtain ⟨A8, hA⟩ : ∃ b, (within x.loss 1 20 && within x.pack 1 200 && within x.inn 0 200 && (x.inn != x.pack)) = b := ⟨_, rfl⟩
  go_cut [4] from 22 (fun s4 wx => s4 = .bool A8 ∧ BoxG wx w.heap.size x.vals ∧ BoxG wx B2 (Pa.vals { x with id := 0, known := 0, kind := 0 }) ∧ Below w.heap.size w wx)
  case first =>
   obtain ⟨b0, hb0⟩ : ∃ b, within x.loss 1 20 = b := ⟨_, rfl⟩
   go_wp2_with fail
   refine (CW.out _ _ _ _).mono ?_
   rintro e w2 ⟨rfl, rfl⟩
   rw [hb0]
   cases b0 with
   | false =>
     go_wp2_with fail
     go_meet
     case rel => exact ⟨by rw [← hA] <;> simp [hb0], HX2.out, HY2.out, HB2.out⟩
   | true =>
   obtain ⟨b1, hb1⟩ : ∃ b, within x.pack 1 200 = b := ⟨_, rfl⟩
   go_wp2_with fail
   refine (CW.out _ _ _ _).mono ?_
   rintro e w2 ⟨rfl, rfl⟩
   rw [hb1]
   cases b1 with
   | false =>
     go_wp2_with fail
     go_meet
     case rel => exact ⟨by rw [← hA] <;> simp [hb0, hb1], HX2.out, HY2.out, HB2.out⟩
   | true =>
   obtain ⟨b2, hb2⟩ : ∃ b, within x.inn 0 200 = b := ⟨_, rfl⟩
   go_wp2_with fail
   refine (CW.out _ _ _ _).mono ?_
   rintro e w2 ⟨rfl, rfl⟩
   rw [hb2]
   cases b2 with
   | false =>
     go_wp2_with fail
     go_meet
     case rel => exact ⟨by rw [← hA] <;> simp [hb0, hb1, hb2], HX2.out, HY2.out, HB2.out⟩
   | true =>
   by_cases hne : x.inn = x.pack
   · have hne1 : (x.inn != x.pack) = false := by simp [hne]
     clear hne
     go_wp2_with fail
     go_meet
     case rel => exact ⟨by rw [← hA, hne1]; simp [hb0, hb1, hb2], HX2.out, HY2.out, HB2.out⟩
   · have hne1 : (x.inn != x.pack) = true := by simp [hne]
     clear hne
     go_wp2_with fail
     go_meet
     case rel => exact ⟨by rw [← hA, hne1]; simp [hb0, hb1, hb2], HX2.out, HY2.out, HB2.out⟩
  case rest =>
  obtain ⟨rfl, hx2, hy2, hb2⟩ := hcut
  rename World => w2
  have HX2 := Hd hx2
  have HY2 := Hd hy2
  have HB2 := Hd hb2
  clear hx2 hy2 hb2 c0 c1 c2 c3 c4 c5 c6 c7 c8 c9 c10 c11 c12 c13
  obtain ⟨c0, c1, c2, c3, c4, c5, c6, c7, c8, c9, c10, c11, c12, c13⟩ := HX2.out.pa
  obtain ⟨A9, hA9⟩ : ∃ b, (A8 && isMark x.mark && isName x.goods && spanB x.low x.high 1 100000 && within x.pieces 1 20 && within x.owner 1 40) = b := ⟨_, rfl⟩
  go_upto_region 9 with (fail)
  go_cut [4] from 22 (fun s4 wx => s4 = .bool A9 ∧ BoxG wx w.heap.size x.vals ∧ BoxG wx B2 (Pa.vals { x with id := 0, known := 0, kind := 0 }) ∧ Below w.heap.size w wx)
  case first =>
   cases A8 with
   | false =>
     go_wp2_with fail
     go_meet
     case rel => exact ⟨by rw [← hA9] <;> simp, HX2.out, HY2.out, HB2.out⟩
   | true =>
   obtain ⟨b0, hb0⟩ : ∃ b, isMark x.mark = b := ⟨_, rfl⟩
   go_wp2_with fail
   refine (isMark_any x.mark HSh.out.1 _).mono ?_
   rintro e w2 ⟨rfl, rfl⟩
   rw [hb0]
   cases b0 with
   | false =>
     go_wp2_with fail
     go_meet
     case rel => exact ⟨by rw [← hA9] <;> simp [hb0], HX2.out, HY2.out, HB2.out⟩
   | true =>
   obtain ⟨b1, hb1⟩ : ∃ b, isName x.goods = b := ⟨_, rfl⟩
   go_wp2_with fail
   refine (isName_any x.goods HSh.out.2 _).mono ?_
   rintro e w2 ⟨rfl, rfl⟩
   rw [hb1]
   cases b1 with
   | false =>
     go_wp2_with fail
     go_meet
     case rel => exact ⟨by rw [← hA9] <;> simp [hb0, hb1], HX2.out, HY2.out, HB2.out⟩
   | true =>
   obtain ⟨b2, hb2⟩ : ∃ b, spanB x.low x.high 1 100000 = b := ⟨_, rfl⟩
   go_wp2_with fail
   refine (spanB_any x.low x.high _ _ _).mono ?_
   rintro e w3 ⟨rfl, hB⟩
   have HX3 := Hd (HX2.out.below' hB)
   have HY3 := Hd (HY2.out.below' hB)
   have HB3 := Hd (HB2.out.trans (hB.mono HB2.out.size))
   clear hB c0 c1 c2 c3 c4 c5 c6 c7 c8 c9 c10 c11 c12 c13
   obtain ⟨c0, c1, c2, c3, c4, c5, c6, c7, c8, c9, c10, c11, c12, c13⟩ := HX3.out.pa
   rw [hb2]
   cases b2 with
   | false =>
     go_wp2_with fail
     go_meet
     case rel => exact ⟨by rw [← hA9] <;> simp [hb0, hb1, hb2], HX3.out, HY3.out, HB3.out⟩
   | true =>
   obtain ⟨b3, hb3⟩ : ∃ b, within x.pieces 1 20 = b := ⟨_, rfl⟩
   go_wp2_with fail
   refine (CW.out _ _ _ _).mono ?_
   rintro e w3 ⟨rfl, rfl⟩
   rw [hb3]
   cases b3 with
   | false =>
     go_wp2_with fail
     go_meet
     case rel => exact ⟨by rw [← hA9] <;> simp [hb0, hb1, hb2, hb3], HX3.out, HY3.out, HB3.out⟩
   | true =>
   obtain ⟨b4, hb4⟩ : ∃ b, within x.owner 1 40 = b := ⟨_, rfl⟩
   go_wp2_with fail
   refine (CW.out _ _ _ _).mono ?_
   rintro e w3 ⟨rfl, rfl⟩
   rw [hb4]
   cases b4 with
   | false =>
     go_wp2_with fail
     go_meet
     case rel => exact ⟨by rw [← hA9] <;> simp [hb0, hb1, hb2, hb3, hb4], HX3.out, HY3.out, HB3.out⟩
   | true =>
     go_wp2_with fail
     go_meet
     case rel => exact ⟨by rw [← hA9] <;> simp [hb0, hb1, hb2, hb3, hb4], HX3.out, HY3.out, HB3.out⟩
  case rest =>
  obtain ⟨rfl, hx2, hy2, hb2⟩ := hcut
  rename World => w2
  have HX2 := Hd hx2
  have HY2 := Hd hy2
  have HB2 := Hd hb2
  clear hx2 hy2 hb2 c0 c1 c2 c3 c4 c5 c6 c7 c8 c9 c10 c11 c12 c13
  obtain ⟨c0, c1, c2, c3, c4, c5, c6, c7, c8, c9, c10, c11, c12, c13⟩ := HX2.out.pa
  rw [← hA] at hA9
  obtain ⟨d0, d1, d2, d3, d4, d5, d6, d7, d8, d9, d10, d11, d12, d13⟩ := HY2.out.pa
  dsimp only at d0 d1 d2 d3 d4 d5 d6 d7 d8 d9 d10 d11 d12 d13
  obtain ⟨g0, g1, g2, g3, g4, g5, g6, g7, g8, g9, g10, g11, g12, g13⟩ := HY2.out.fr
  go_upto_region 17 with (fail)
  have hz : BoxG (((((((((w2.setCell ⟨B2, 3, none⟩ (.int .i64 0)).setCell ⟨B2, 4, none⟩ (.int .i64 0)).setCell ⟨B2, 5, none⟩ (.int .i64 0)).setCell ⟨B2, 6, none⟩ (.string ⟨#[]⟩)).setCell ⟨B2, 7, none⟩ (.string ⟨#[]⟩)).setCell ⟨B2, 8, none⟩ (.int .i64 0)).setCell ⟨B2, 9, none⟩ (.int .i64 0)).setCell ⟨B2, 10, none⟩ (.int .i64 0)).setCell ⟨B2, 11, none⟩ (.int .i64 0)) B2 (Pa.vals { x with id := 0, known := 0, kind := 0, loss := 0, pack := 0, inn := 0, mark := [], goods := [], low := 0, high := 0, pieces := 0, owner := 0 }) := (((((((((HY2.out.set 3 (.int .i64 0) (by simp [Pa.vals])).set 4 (.int .i64 0) (by simp [Pa.vals])).set 5 (.int .i64 0) (by simp [Pa.vals])).set 6 (.string ⟨#[]⟩) (by simp [Pa.vals])).set 7 (.string ⟨#[]⟩) (by simp [Pa.vals])).set 8 (.int .i64 0) (by simp [Pa.vals])).set 9 (.int .i64 0) (by simp [Pa.vals])).set 10 (.int .i64 0) (by simp [Pa.vals])).set 11 (.int .i64 0) (by simp [Pa.vals]))
  have hb5 := (((((((((HB2.out.setCell (p := ⟨B2, 3, none⟩) (Nat.le_of_lt HLT.out) (.int .i64 0)).setCell (p := ⟨B2, 4, none⟩) (Nat.le_of_lt HLT.out) (.int .i64 0)).setCell (p := ⟨B2, 5, none⟩) (Nat.le_of_lt HLT.out) (.int .i64 0)).setCell (p := ⟨B2, 6, none⟩) (Nat.le_of_lt HLT.out) (.string ⟨#[]⟩)).setCell (p := ⟨B2, 7, none⟩) (Nat.le_of_lt HLT.out) (.string ⟨#[]⟩)).setCell (p := ⟨B2, 8, none⟩) (Nat.le_of_lt HLT.out) (.int .i64 0)).setCell (p := ⟨B2, 9, none⟩) (Nat.le_of_lt HLT.out) (.int .i64 0)).setCell (p := ⟨B2, 10, none⟩) (Nat.le_of_lt HLT.out) (.int .i64 0)).setCell (p := ⟨B2, 11, none⟩) (Nat.le_of_lt HLT.out) (.int .i64 0))
  clear c0 c1 c2 c3 c4 c5 c6 c7 c8 c9 c10 c11 c12 c13 d0 d1 d2 d3 d4 d5 d6 d7 d8 d9 d10 d11 d12 d13 g0 g1 g2 g3 g4 g5 g6 g7 g8 g9 g10 g11 g12 g13
  generalize (((((((((w2.setCell ⟨B2, 3, none⟩ (.int .i64 0)).setCell ⟨B2, 4, none⟩ (.int .i64 0)).setCell ⟨B2, 5, none⟩ (.int .i64 0)).setCell ⟨B2, 6, none⟩ (.string ⟨#[]⟩)).setCell ⟨B2, 7, none⟩ (.string ⟨#[]⟩)).setCell ⟨B2, 8, none⟩ (.int .i64 0)).setCell ⟨B2, 9, none⟩ (.int .i64 0)).setCell ⟨B2, 10, none⟩ (.int .i64 0)).setCell ⟨B2, 11, none⟩ (.int .i64 0)) = w5 at *
  obtain ⟨d0, d1, d2, d3, d4, d5, d6, d7, d8, d9, d10, d11, d12, d13⟩ := hz.pa
  dsimp only at d0 d1 d2 d3 d4 d5 d6 d7 d8 d9 d10 d11 d12 d13
  have HB5 := Hd hb5
  clear hb5 hz
  have HF := Hd (show formedP x ↔ (A9 = true ∧ x.count = 0 ∧ x.of = 0) from by rw [← hA9]; exact formed_1 HK.out HIK.out)
  cases A9 with
  | false =>
    have HE := Hd (show decide (formedP x) = false from decide_eq_false (fun h => by have := (HF.out.1 h).1; cases this))
    go_wp2_with fail
    go_ret
    exact ⟨by rw [HE.out] <;> rfl, HB5.out⟩
  | true =>
    by_cases z_count : x.count = 0
    case neg =>
     have HE := Hd (show decide (formedP x) = false from decide_eq_false (fun h => by have := HF.out.1 h; exact z_count (by simp_all)))
     have q_count : (x.count == 0) = false := by simp [z_count]
     clear z_count
     go_wp2_with fail
     go_ret
     exact ⟨by rw [HE.out] <;> rfl, HB5.out⟩
    have q_count : (x.count == 0) = true := by simp [z_count]
    have Z_count := Hd z_count
    clear z_count
    by_cases z_of : x.of = 0
    case neg =>
     have HE := Hd (show decide (formedP x) = false from decide_eq_false (fun h => by have := HF.out.1 h; exact z_of (by simp_all)))
     have q_of : (x.of == 0) = false := by simp [z_of]
     clear z_of
     go_wp2_with fail
     go_ret
     exact ⟨by rw [HE.out] <;> rfl, HB5.out⟩
    have q_of : (x.of == 0) = true := by simp [z_of]
    have Z_of := Hd z_of
    clear z_of
    have HE := Hd (show decide (formedP x) = true from decide_eq_true (HF.out.2 ⟨rfl, Z_count.out, Z_of.out⟩))
    go_wp2_with fail
    go_ret
    exact ⟨by rw [HE.out] <;> rfl, HB5.out⟩
 have e1 : (x.kind == 1) = false := by simp [k1]
 have HK1 := Hd k1
 clear k1
 by_cases k2 : x.kind = 2
 case pos =>
  have e2 : (x.kind == 2) = true := by simp [k2]
  have HK := Hd k2
  clear k2
  go_upto_region 12 with (fail)
  clear e1 e2
  obtain ⟨A2, hA⟩ : ∃ b, (within x.loss 1 20 && within x.pack 0 200 && within x.count 0 40 && spanB x.low x.high 0 10000000) = b := ⟨_, rfl⟩
  go_cut [4] from 22 (fun s4 wx => s4 = .bool A2 ∧ BoxG wx w.heap.size x.vals ∧ BoxG wx B2 (Pa.vals { x with id := 0, known := 0, kind := 0 }) ∧ Below w.heap.size w wx)
  case first =>
   obtain ⟨b0, hb0⟩ : ∃ b, within x.loss 1 20 = b := ⟨_, rfl⟩
   go_wp2_with fail
   refine (CW.out _ _ _ _).mono ?_
   rintro e w2 ⟨rfl, rfl⟩
   rw [hb0]
   cases b0 with
   | false =>
     go_wp2_with fail
     go_meet
     case rel => exact ⟨by rw [← hA] <;> simp [hb0], HX2.out, HY2.out, HB2.out⟩
   | true =>
   obtain ⟨b1, hb1⟩ : ∃ b, within x.pack 0 200 = b := ⟨_, rfl⟩
   go_wp2_with fail
   refine (CW.out _ _ _ _).mono ?_
   rintro e w2 ⟨rfl, rfl⟩
   rw [hb1]
   cases b1 with
   | false =>
     go_wp2_with fail
     go_meet
     case rel => exact ⟨by rw [← hA] <;> simp [hb0, hb1], HX2.out, HY2.out, HB2.out⟩
   | true =>
   obtain ⟨b2, hb2⟩ : ∃ b, within x.count 0 40 = b := ⟨_, rfl⟩
   go_wp2_with fail
   refine (CW.out _ _ _ _).mono ?_
   rintro e w2 ⟨rfl, rfl⟩
   rw [hb2]
   cases b2 with
   | false =>
     go_wp2_with fail
     go_meet
     case rel => exact ⟨by rw [← hA] <;> simp [hb0, hb1, hb2], HX2.out, HY2.out, HB2.out⟩
   | true =>
   obtain ⟨b3, hb3⟩ : ∃ b, spanB x.low x.high 0 10000000 = b := ⟨_, rfl⟩
   go_wp2_with fail
   refine (spanB_any x.low x.high _ _ _).mono ?_
   rintro e w3 ⟨rfl, hB⟩
   have HX3 := Hd (HX2.out.below' hB)
   have HY3 := Hd (HY2.out.below' hB)
   have HB3 := Hd (HB2.out.trans (hB.mono HB2.out.size))
   clear hB c0 c1 c2 c3 c4 c5 c6 c7 c8 c9 c10 c11 c12 c13
   obtain ⟨c0, c1, c2, c3, c4, c5, c6, c7, c8, c9, c10, c11, c12, c13⟩ := HX3.out.pa
   rw [hb3]
   cases b3 with
   | false =>
     go_wp2_with fail
     go_meet
     case rel => exact ⟨by rw [← hA] <;> simp [hb0, hb1, hb2, hb3], HX3.out, HY3.out, HB3.out⟩
   | true =>
     go_wp2_with fail
     go_meet
     case rel => exact ⟨by rw [← hA] <;> simp [hb0, hb1, hb2, hb3], HX3.out, HY3.out, HB3.out⟩
  case rest =>
  obtain ⟨rfl, hx2, hy2, hb2⟩ := hcut
  rename World => w2
  have HX2 := Hd hx2
  have HY2 := Hd hy2
  have HB2 := Hd hb2
  clear hx2 hy2 hb2 c0 c1 c2 c3 c4 c5 c6 c7 c8 c9 c10 c11 c12 c13
  obtain ⟨c0, c1, c2, c3, c4, c5, c6, c7, c8, c9, c10, c11, c12, c13⟩ := HX2.out.pa
  obtain ⟨d0, d1, d2, d3, d4, d5, d6, d7, d8, d9, d10, d11, d12, d13⟩ := HY2.out.pa
  dsimp only at d0 d1 d2 d3 d4 d5 d6 d7 d8 d9 d10 d11 d12 d13
  obtain ⟨g0, g1, g2, g3, g4, g5, g6, g7, g8, g9, g10, g11, g12, g13⟩ := HY2.out.fr
  go_upto_region 17 with (fail)
  have hz : BoxG (((((w2.setCell ⟨B2, 3, none⟩ (.int .i64 0)).setCell ⟨B2, 4, none⟩ (.int .i64 0)).setCell ⟨B2, 12, none⟩ (.int .i64 0)).setCell ⟨B2, 8, none⟩ (.int .i64 0)).setCell ⟨B2, 9, none⟩ (.int .i64 0)) B2 (Pa.vals { x with id := 0, known := 0, kind := 0, loss := 0, pack := 0, count := 0, low := 0, high := 0 }) := (((((HY2.out.set 3 (.int .i64 0) (by simp [Pa.vals])).set 4 (.int .i64 0) (by simp [Pa.vals])).set 12 (.int .i64 0) (by simp [Pa.vals])).set 8 (.int .i64 0) (by simp [Pa.vals])).set 9 (.int .i64 0) (by simp [Pa.vals]))
  have hb5 := (((((HB2.out.setCell (p := ⟨B2, 3, none⟩) (Nat.le_of_lt HLT.out) (.int .i64 0)).setCell (p := ⟨B2, 4, none⟩) (Nat.le_of_lt HLT.out) (.int .i64 0)).setCell (p := ⟨B2, 12, none⟩) (Nat.le_of_lt HLT.out) (.int .i64 0)).setCell (p := ⟨B2, 8, none⟩) (Nat.le_of_lt HLT.out) (.int .i64 0)).setCell (p := ⟨B2, 9, none⟩) (Nat.le_of_lt HLT.out) (.int .i64 0))
  clear c0 c1 c2 c3 c4 c5 c6 c7 c8 c9 c10 c11 c12 c13 d0 d1 d2 d3 d4 d5 d6 d7 d8 d9 d10 d11 d12 d13 g0 g1 g2 g3 g4 g5 g6 g7 g8 g9 g10 g11 g12 g13
  generalize (((((w2.setCell ⟨B2, 3, none⟩ (.int .i64 0)).setCell ⟨B2, 4, none⟩ (.int .i64 0)).setCell ⟨B2, 12, none⟩ (.int .i64 0)).setCell ⟨B2, 8, none⟩ (.int .i64 0)).setCell ⟨B2, 9, none⟩ (.int .i64 0)) = w5 at *
  obtain ⟨d0, d1, d2, d3, d4, d5, d6, d7, d8, d9, d10, d11, d12, d13⟩ := hz.pa
  dsimp only at d0 d1 d2 d3 d4 d5 d6 d7 d8 d9 d10 d11 d12 d13
  have HB5 := Hd hb5
  clear hb5 hz
  have HF := Hd (show formedP x ↔ (A2 = true ∧ x.inn = 0 ∧ x.mark = [] ∧ x.goods = [] ∧ x.pieces = 0 ∧ x.owner = 0 ∧ x.of = 0) from by rw [← hA]; exact formed_2 HK.out HIK.out)
  cases A2 with
  | false =>
    have HE := Hd (show decide (formedP x) = false from decide_eq_false (fun h => by have := (HF.out.1 h).1; cases this))
    go_wp2_with fail
    go_ret
    exact ⟨by rw [HE.out] <;> rfl, HB5.out⟩
  | true =>
    by_cases z_inn : x.inn = 0
    case neg =>
     have HE := Hd (show decide (formedP x) = false from decide_eq_false (fun h => by have := HF.out.1 h; exact z_inn (by simp_all)))
     have q_inn : (x.inn == 0) = false := by simp [z_inn]
     clear z_inn
     go_wp2_with fail
     go_ret
     exact ⟨by rw [HE.out] <;> rfl, HB5.out⟩
    have q_inn : (x.inn == 0) = true := by simp [z_inn]
    have Z_inn := Hd z_inn
    clear z_inn
    by_cases z_mark : x.mark = []
    case neg =>
     have HE := Hd (show decide (formedP x) = false from decide_eq_false (fun h => by have := HF.out.1 h; exact z_mark (by simp_all)))
     have q_mark : (x.mark == []) = false := by simp [z_mark]
     clear z_mark
     go_wp2_with fail
     go_ret
     exact ⟨by rw [HE.out] <;> rfl, HB5.out⟩
    have q_mark : (x.mark == []) = true := by simp [z_mark]
    have Z_mark := Hd z_mark
    clear z_mark
    by_cases z_goods : x.goods = []
    case neg =>
     have HE := Hd (show decide (formedP x) = false from decide_eq_false (fun h => by have := HF.out.1 h; exact z_goods (by simp_all)))
     have q_goods : (x.goods == []) = false := by simp [z_goods]
     clear z_goods
     go_wp2_with fail
     go_ret
     exact ⟨by rw [HE.out] <;> rfl, HB5.out⟩
    have q_goods : (x.goods == []) = true := by simp [z_goods]
    have Z_goods := Hd z_goods
    clear z_goods
    by_cases z_pieces : x.pieces = 0
    case neg =>
     have HE := Hd (show decide (formedP x) = false from decide_eq_false (fun h => by have := HF.out.1 h; exact z_pieces (by simp_all)))
     have q_pieces : (x.pieces == 0) = false := by simp [z_pieces]
     clear z_pieces
     go_wp2_with fail
     go_ret
     exact ⟨by rw [HE.out] <;> rfl, HB5.out⟩
    have q_pieces : (x.pieces == 0) = true := by simp [z_pieces]
    have Z_pieces := Hd z_pieces
    clear z_pieces
    by_cases z_owner : x.owner = 0
    case neg =>
     have HE := Hd (show decide (formedP x) = false from decide_eq_false (fun h => by have := HF.out.1 h; exact z_owner (by simp_all)))
     have q_owner : (x.owner == 0) = false := by simp [z_owner]
     clear z_owner
     go_wp2_with fail
     go_ret
     exact ⟨by rw [HE.out] <;> rfl, HB5.out⟩
    have q_owner : (x.owner == 0) = true := by simp [z_owner]
    have Z_owner := Hd z_owner
    clear z_owner
    by_cases z_of : x.of = 0
    case neg =>
     have HE := Hd (show decide (formedP x) = false from decide_eq_false (fun h => by have := HF.out.1 h; exact z_of (by simp_all)))
     have q_of : (x.of == 0) = false := by simp [z_of]
     clear z_of
     go_wp2_with fail
     go_ret
     exact ⟨by rw [HE.out] <;> rfl, HB5.out⟩
    have q_of : (x.of == 0) = true := by simp [z_of]
    have Z_of := Hd z_of
    clear z_of
    have HE := Hd (show decide (formedP x) = true from decide_eq_true (HF.out.2 ⟨rfl, Z_inn.out, Z_mark.out, Z_goods.out, Z_pieces.out, Z_owner.out, Z_of.out⟩))
    go_wp2_with fail
    go_ret
    exact ⟨by rw [HE.out] <;> rfl, HB5.out⟩
 have e2 : (x.kind == 2) = false := by simp [k2]
 have HK2 := Hd k2
 clear k2
 by_cases k3 : x.kind = 3
 case pos =>
  have e3 : (x.kind == 3) = true := by simp [k3]
  have HK := Hd k3
  clear k3
  go_upto_region 15 with (fail)
  clear e1 e2 e3
  obtain ⟨A3, hA⟩ : ∃ b, within x.of 1 1000000 = b := ⟨_, rfl⟩
  go_cut [4] from 22 (fun s4 wx => s4 = .bool A3 ∧ BoxG wx w.heap.size x.vals ∧ BoxG wx B2 (Pa.vals { x with id := 0, known := 0, kind := 0 }) ∧ Below w.heap.size w wx)
  case first =>
   obtain ⟨b0, hb0⟩ : ∃ b, within x.of 1 1000000 = b := ⟨_, rfl⟩
   go_wp2_with fail
   refine (CW.out _ _ _ _).mono ?_
   rintro e w2 ⟨rfl, rfl⟩
   rw [hb0]
   cases b0 with
   | false =>
     go_wp2_with fail
     go_meet
     case rel => exact ⟨by rw [← hA] <;> simp [hb0], HX2.out, HY2.out, HB2.out⟩
   | true =>
     go_wp2_with fail
     go_meet
     case rel => exact ⟨by rw [← hA] <;> simp [hb0], HX2.out, HY2.out, HB2.out⟩
  case rest =>
  obtain ⟨rfl, hx2, hy2, hb2⟩ := hcut
  rename World => w2
  have HX2 := Hd hx2
  have HY2 := Hd hy2
  have HB2 := Hd hb2
  clear hx2 hy2 hb2 c0 c1 c2 c3 c4 c5 c6 c7 c8 c9 c10 c11 c12 c13
  obtain ⟨c0, c1, c2, c3, c4, c5, c6, c7, c8, c9, c10, c11, c12, c13⟩ := HX2.out.pa
  obtain ⟨d0, d1, d2, d3, d4, d5, d6, d7, d8, d9, d10, d11, d12, d13⟩ := HY2.out.pa
  dsimp only at d0 d1 d2 d3 d4 d5 d6 d7 d8 d9 d10 d11 d12 d13
  obtain ⟨g0, g1, g2, g3, g4, g5, g6, g7, g8, g9, g10, g11, g12, g13⟩ := HY2.out.fr
  go_upto_region 17 with (fail)
  have hz : BoxG (w2.setCell ⟨B2, 13, none⟩ (.int .i64 0)) B2 (Pa.vals { x with id := 0, known := 0, kind := 0, of := 0 }) := (HY2.out.set 13 (.int .i64 0) (by simp [Pa.vals]))
  have hb5 := (HB2.out.setCell (p := ⟨B2, 13, none⟩) (Nat.le_of_lt HLT.out) (.int .i64 0))
  clear c0 c1 c2 c3 c4 c5 c6 c7 c8 c9 c10 c11 c12 c13 d0 d1 d2 d3 d4 d5 d6 d7 d8 d9 d10 d11 d12 d13 g0 g1 g2 g3 g4 g5 g6 g7 g8 g9 g10 g11 g12 g13
  generalize (w2.setCell ⟨B2, 13, none⟩ (.int .i64 0)) = w5 at *
  obtain ⟨d0, d1, d2, d3, d4, d5, d6, d7, d8, d9, d10, d11, d12, d13⟩ := hz.pa
  dsimp only at d0 d1 d2 d3 d4 d5 d6 d7 d8 d9 d10 d11 d12 d13
  have HB5 := Hd hb5
  clear hb5 hz
  have HF := Hd (show formedP x ↔ (A3 = true ∧ x.loss = 0 ∧ x.pack = 0 ∧ x.inn = 0 ∧ x.mark = [] ∧ x.goods = [] ∧ x.low = 0 ∧ x.high = 0 ∧ x.pieces = 0 ∧ x.owner = 0 ∧ x.count = 0) from by rw [← hA]; exact formed_3 HK.out HIK.out)
  cases A3 with
  | false =>
    have HE := Hd (show decide (formedP x) = false from decide_eq_false (fun h => by have := (HF.out.1 h).1; cases this))
    go_wp2_with fail
    go_ret
    exact ⟨by rw [HE.out] <;> rfl, HB5.out⟩
  | true =>
    by_cases z_loss : x.loss = 0
    case neg =>
     have HE := Hd (show decide (formedP x) = false from decide_eq_false (fun h => by have := HF.out.1 h; exact z_loss (by simp_all)))
     have q_loss : (x.loss == 0) = false := by simp [z_loss]
     clear z_loss
     go_wp2_with fail
     go_ret
     exact ⟨by rw [HE.out] <;> rfl, HB5.out⟩
    have q_loss : (x.loss == 0) = true := by simp [z_loss]
    have Z_loss := Hd z_loss
    clear z_loss
    by_cases z_pack : x.pack = 0
    case neg =>
     have HE := Hd (show decide (formedP x) = false from decide_eq_false (fun h => by have := HF.out.1 h; exact z_pack (by simp_all)))
     have q_pack : (x.pack == 0) = false := by simp [z_pack]
     clear z_pack
     go_wp2_with fail
     go_ret
     exact ⟨by rw [HE.out] <;> rfl, HB5.out⟩
    have q_pack : (x.pack == 0) = true := by simp [z_pack]
    have Z_pack := Hd z_pack
    clear z_pack
    by_cases z_inn : x.inn = 0
    case neg =>
     have HE := Hd (show decide (formedP x) = false from decide_eq_false (fun h => by have := HF.out.1 h; exact z_inn (by simp_all)))
     have q_inn : (x.inn == 0) = false := by simp [z_inn]
     clear z_inn
     go_wp2_with fail
     go_ret
     exact ⟨by rw [HE.out] <;> rfl, HB5.out⟩
    have q_inn : (x.inn == 0) = true := by simp [z_inn]
    have Z_inn := Hd z_inn
    clear z_inn
    by_cases z_mark : x.mark = []
    case neg =>
     have HE := Hd (show decide (formedP x) = false from decide_eq_false (fun h => by have := HF.out.1 h; exact z_mark (by simp_all)))
     have q_mark : (x.mark == []) = false := by simp [z_mark]
     clear z_mark
     go_wp2_with fail
     go_ret
     exact ⟨by rw [HE.out] <;> rfl, HB5.out⟩
    have q_mark : (x.mark == []) = true := by simp [z_mark]
    have Z_mark := Hd z_mark
    clear z_mark
    by_cases z_goods : x.goods = []
    case neg =>
     have HE := Hd (show decide (formedP x) = false from decide_eq_false (fun h => by have := HF.out.1 h; exact z_goods (by simp_all)))
     have q_goods : (x.goods == []) = false := by simp [z_goods]
     clear z_goods
     go_wp2_with fail
     go_ret
     exact ⟨by rw [HE.out] <;> rfl, HB5.out⟩
    have q_goods : (x.goods == []) = true := by simp [z_goods]
    have Z_goods := Hd z_goods
    clear z_goods
    by_cases z_low : x.low = 0
    case neg =>
     have HE := Hd (show decide (formedP x) = false from decide_eq_false (fun h => by have := HF.out.1 h; exact z_low (by simp_all)))
     have q_low : (x.low == 0) = false := by simp [z_low]
     clear z_low
     go_wp2_with fail
     go_ret
     exact ⟨by rw [HE.out] <;> rfl, HB5.out⟩
    have q_low : (x.low == 0) = true := by simp [z_low]
    have Z_low := Hd z_low
    clear z_low
    by_cases z_high : x.high = 0
    case neg =>
     have HE := Hd (show decide (formedP x) = false from decide_eq_false (fun h => by have := HF.out.1 h; exact z_high (by simp_all)))
     have q_high : (x.high == 0) = false := by simp [z_high]
     clear z_high
     go_wp2_with fail
     go_ret
     exact ⟨by rw [HE.out] <;> rfl, HB5.out⟩
    have q_high : (x.high == 0) = true := by simp [z_high]
    have Z_high := Hd z_high
    clear z_high
    by_cases z_pieces : x.pieces = 0
    case neg =>
     have HE := Hd (show decide (formedP x) = false from decide_eq_false (fun h => by have := HF.out.1 h; exact z_pieces (by simp_all)))
     have q_pieces : (x.pieces == 0) = false := by simp [z_pieces]
     clear z_pieces
     go_wp2_with fail
     go_ret
     exact ⟨by rw [HE.out] <;> rfl, HB5.out⟩
    have q_pieces : (x.pieces == 0) = true := by simp [z_pieces]
    have Z_pieces := Hd z_pieces
    clear z_pieces
    by_cases z_owner : x.owner = 0
    case neg =>
     have HE := Hd (show decide (formedP x) = false from decide_eq_false (fun h => by have := HF.out.1 h; exact z_owner (by simp_all)))
     have q_owner : (x.owner == 0) = false := by simp [z_owner]
     clear z_owner
     go_wp2_with fail
     go_ret
     exact ⟨by rw [HE.out] <;> rfl, HB5.out⟩
    have q_owner : (x.owner == 0) = true := by simp [z_owner]
    have Z_owner := Hd z_owner
    clear z_owner
    by_cases z_count : x.count = 0
    case neg =>
     have HE := Hd (show decide (formedP x) = false from decide_eq_false (fun h => by have := HF.out.1 h; exact z_count (by simp_all)))
     have q_count : (x.count == 0) = false := by simp [z_count]
     clear z_count
     go_wp2_with fail
     go_ret
     exact ⟨by rw [HE.out] <;> rfl, HB5.out⟩
    have q_count : (x.count == 0) = true := by simp [z_count]
    have Z_count := Hd z_count
    clear z_count
    have HE := Hd (show decide (formedP x) = true from decide_eq_true (HF.out.2 ⟨rfl, Z_loss.out, Z_pack.out, Z_inn.out, Z_mark.out, Z_goods.out, Z_low.out, Z_high.out, Z_pieces.out, Z_owner.out, Z_count.out⟩))
    go_wp2_with fail
    go_ret
    exact ⟨by rw [HE.out] <;> rfl, HB5.out⟩
 have e3 : (x.kind == 3) = false := by simp [k3]
 have HE := Hd (show decide (formedP x) = false from decide_eq_false (fun h => by
  rcases h.2.2 with h1 | h1 | h1
  · exact HK1.out h1.1
  · exact HK2.out h1.1
  · exact k3 h1.1))
 clear k3
 go_wp2_with fail
 go_ret
 exact ⟨by rw [HE.out] <;> rfl, HB2.out⟩
end Go.Proofs.YtehplmeckfinoaaGreatDoor
