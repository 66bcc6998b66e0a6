/- The walk of Read's inner function, and of what Read calls. -/
import Derived.Test.YtjleembfocghlaaGreatDoorWrite
set_option linter.unusedSimpArgs false
set_option linter.unusedVariables false
namespace Go.Proofs.YtjleembfocghlaaGreatDoor
open Go.RowKit

theorem frz0 {w : World} {g : Nat} {t : TypeId} {cs : Array Value} (h : w.heap[g]? = some (.cells cs t (0, 0))) (i : Nat) : w.frozen? ⟨g, i, none⟩ = false := by simp [World.frozen?, h]
/-- eight cells written over -/
def put8 (w : World) (B : Nat) (p : Po) : World :=
  (((((((w.setCell ⟨B, 0, none⟩ (.int .i64 p.id)).setCell ⟨B, 1, none⟩ (.int .i64 p.hour)).setCell ⟨B, 2, none⟩ (.int .u8 p.kind)).setCell ⟨B, 3, none⟩ (.int .i64 p.party)).setCell ⟨B, 4, none⟩ (.int .i64 p.parcel)).setCell ⟨B, 5, none⟩ (.int .i64 p.amount)).setCell ⟨B, 6, none⟩ (.int .i64 p.reason)).setCell ⟨B, 7, none⟩ (.int .i64 p.known)
theorem cell_off {w : World} {B i j : Nat} {u v : Value} (h : w.cell? ⟨B, j, none⟩ = some u) (hij : i ≠ j) : (w.setCell ⟨B, i, none⟩ v).cell? ⟨B, j, none⟩ = some u := by
  rw [World.cell?_setCell_other _ _ _ _ (by simp [hij])]; exact h
theorem cell_on {w : World} {B j : Nat} {u v : Value} (h : w.cell? ⟨B, j, none⟩ = some u) : (w.setCell ⟨B, j, none⟩ v).cell? ⟨B, j, none⟩ = some v :=
  World.cell?_setCell_same' _ _ _ (by rw [h]; rfl)
theorem put8_cells {w : World} {B : Nat} {q : Po} (h : BoxPo w B q) (p : Po) : BoxPo (put8 w B p) B p := by
  obtain ⟨h0, h1, h2, h3, h4, h5, h6, h7⟩ := h.cells
  have e : ∀ j, j < 8 → (put8 w B p).cell? ⟨B, j, none⟩ = p.vals[j]? := by
    intro j hj
    unfold put8
    have h' : j = 0 ∨ j = 1 ∨ j = 2 ∨ j = 3 ∨ j = 4 ∨ j = 5 ∨ j = 6 ∨ j = 7 := by omega
    rcases h' with rfl | rfl | rfl | rfl | rfl | rfl | rfl | rfl
    · exact cell_off (cell_off (cell_off (cell_off (cell_off (cell_off (cell_off (cell_on h0) (by decide)) (by decide)) (by decide)) (by decide)) (by decide)) (by decide)) (by decide)
    · exact cell_off (cell_off (cell_off (cell_off (cell_off (cell_off (cell_on (cell_off h1 (by decide))) (by decide)) (by decide)) (by decide)) (by decide)) (by decide)) (by decide)
    · exact cell_off (cell_off (cell_off (cell_off (cell_off (cell_on (cell_off (cell_off h2 (by decide)) (by decide))) (by decide)) (by decide)) (by decide)) (by decide)) (by decide)
    · exact cell_off (cell_off (cell_off (cell_off (cell_on (cell_off (cell_off (cell_off h3 (by decide)) (by decide)) (by decide))) (by decide)) (by decide)) (by decide)) (by decide)
    · exact cell_off (cell_off (cell_off (cell_on (cell_off (cell_off (cell_off (cell_off h4 (by decide)) (by decide)) (by decide)) (by decide))) (by decide)) (by decide)) (by decide)
    · exact cell_off (cell_off (cell_on (cell_off (cell_off (cell_off (cell_off (cell_off h5 (by decide)) (by decide)) (by decide)) (by decide)) (by decide))) (by decide)) (by decide)
    · exact cell_off (cell_on (cell_off (cell_off (cell_off (cell_off (cell_off (cell_off h6 (by decide)) (by decide)) (by decide)) (by decide)) (by decide)) (by decide))) (by decide)
    · exact cell_on (cell_off (cell_off (cell_off (cell_off (cell_off (cell_off (cell_off h7 (by decide)) (by decide)) (by decide)) (by decide)) (by decide)) (by decide)) (by decide))
  exact ⟨World.block_lt_of_cell? _ _ (e 0 (by omega)), e⟩
theorem put8_below {w0 w : World} {C B : Nat} (h : Below C w0 w) (hB : C ≤ B) (p : Po) : Below C w0 (put8 w B p) := by
  unfold put8
  exact (((((((h.setCell (p := ⟨B, 0, none⟩) hB _).setCell (p := ⟨B, 1, none⟩) hB _).setCell (p := ⟨B, 2, none⟩) hB _).setCell (p := ⟨B, 3, none⟩) hB _).setCell (p := ⟨B, 4, none⟩) hB _).setCell (p := ⟨B, 5, none⟩) hB _).setCell (p := ⟨B, 6, none⟩) hB _).setCell (p := ⟨B, 7, none⟩) hB _

/-- a posting's box that may be written -/
def BoxF (w : World) (B : Nat) (p : Po) : Prop := BoxPo w B p ∧ ∀ j, w.frozen? ⟨B, j, none⟩ = false
theorem BoxF.made (w : World) (p : Po) (T : TypeId) : BoxF (w.alloc (.cells #[.int .i64 p.id, .int .i64 p.hour, .int .u8 p.kind, .int .i64 p.party, .int .i64 p.parcel, .int .i64 p.amount, .int .i64 p.reason, .int .i64 p.known] T)) w.heap.size p :=
  ⟨BoxPo.made w p T, fun j => frz0 (heap_alloc_new w _) j⟩
theorem BoxF.below' {w w' : World} {B : Nat} {p : Po} (h : BoxF w B p) (hB : Below w.heap.size w w') : BoxF w' B p :=
  ⟨h.1.below' hB, fun j => (hB.frozen (p := ⟨B, j, none⟩) h.1.1).trans (h.2 j)⟩
theorem BoxF.put {w : World} {B : Nat} {q : Po} (h : BoxF w B q) (p : Po) : BoxF (put8 w B p) B p :=
  ⟨put8_cells h.1 p, fun j => by unfold put8; simp only [World.frozen?_setCell]; exact h.2 j⟩
theorem BoxF.all {w : World} {B : Nat} {p : Po} (h : BoxF w B p) :
    w.cell? ⟨B, 0, none⟩ = some (.int .i64 p.id) ∧ w.cell? ⟨B, 1, none⟩ = some (.int .i64 p.hour) ∧ w.cell? ⟨B, 2, none⟩ = some (.int .u8 p.kind) ∧ w.cell? ⟨B, 3, none⟩ = some (.int .i64 p.party) ∧ w.cell? ⟨B, 4, none⟩ = some (.int .i64 p.parcel) ∧ w.cell? ⟨B, 5, none⟩ = some (.int .i64 p.amount) ∧ w.cell? ⟨B, 6, none⟩ = some (.int .i64 p.reason) ∧ w.cell? ⟨B, 7, none⟩ = some (.int .i64 p.known) ∧
    w.frozen? ⟨B, 0, none⟩ = false ∧ w.frozen? ⟨B, 1, none⟩ = false ∧ w.frozen? ⟨B, 2, none⟩ = false ∧ w.frozen? ⟨B, 3, none⟩ = false ∧ w.frozen? ⟨B, 4, none⟩ = false ∧ w.frozen? ⟨B, 5, none⟩ = false ∧ w.frozen? ⟨B, 6, none⟩ = false ∧ w.frozen? ⟨B, 7, none⟩ = false := by
  obtain ⟨c0, c1, c2, c3, c4, c5, c6, c7⟩ := h.1.cells
  exact ⟨c0, c1, c2, c3, c4, c5, c6, c7, h.2 0, h.2 1, h.2 2, h.2 3, h.2 4, h.2 5, h.2 6, h.2 7⟩
/-- what is read of the laid variables -/
structure Laid (w : World) : Prop where
  syn : ∃ ev, w.cell? ⟨0, 0, none⟩ = some ev ∧ (ev = .nilIface ∨ ∃ te pe, ev = .iface te pe)
  rng : ∃ ev, w.cell? ⟨1, 0, none⟩ = some ev ∧ (ev = .nilIface ∨ ∃ te pe, ev = .iface te pe)
  max : ∃ m, w.cell? ⟨3, 0, none⟩ = some (.int .i64 m)
  tab : Tab w
theorem Laid.below {w w' : World} (h : Laid w) (hB : Below w.heap.size w w') : Laid w' := by
  obtain ⟨⟨a, a1, a2⟩, ⟨b, b1, b2⟩, ⟨m, m1⟩, t⟩ := h
  exact ⟨⟨a, cell_stays a1 hB, a2⟩, ⟨b, cell_stays b1 hB, b2⟩, ⟨m, cell_stays m1 hB⟩, t.below hB⟩

theorem atoi_any (x : List UInt8) (hx : x.length ≤ 1000) (w : World) (h : Laid w) :
    Calls Tryz.prog 26 #[.string ⟨x.toArray⟩] w fun e w' => ∃ ev, e = .returned (.tuple #[.int .i64 (atoiV x), ev]) ∧ Below w.heap.size w w' := by
  have hs : (⟨x.toArray⟩ : ByteArray).size = x.length := by simp [ByteArray.size]
  unfold atoiV
  split
  · rename_i v hv
    refine (Tryz.strconv_Atoi_ok ⟨x.toArray⟩ (by omega) v (by simpa using hv) w).mono ?_
    rintro e w' ⟨rfl, hw⟩
    refine ⟨_, rfl, ?_⟩
    rcases hw with rfl | ⟨t, rfl⟩
    · exact Below.refl _ _
    · exact Lib.bytesWorld_below _ _ _
  · rename_i hv
    obtain ⟨ev, h1, h2⟩ := h.rng
    refine (Tryz.strconv_Atoi_range ⟨x.toArray⟩ (by omega) (by simpa using hv) ev w h1 h2).mono ?_
    rintro e w' ⟨N, rfl, _, _, hB⟩
    have he : (⟨x.toArray⟩ : ByteArray).data.toList = x := by simp
    rw [he]
    exact ⟨_, rfl, hB⟩
  · rename_i hv1 hv2
    obtain ⟨ev, h1, h2⟩ := h.syn
    refine (Tryz.strconv_Atoi_syntax ⟨x.toArray⟩ (by omega) (by simpa using hv1) (by simpa using hv2) ev w h1 h2).mono ?_
    rintro e w' ⟨N, rfl, _, _, hB⟩
    exact ⟨_, rfl, hB⟩

theorem split_any (l : List UInt8) (hl : l.length ≤ 1000) (w : World) (h : Laid w) :
    Calls Tryz.prog 23 #[.string ⟨l.toArray⟩, .string ⟨#[32]⟩] w fun e w' => e = .returned (.slice (some ⟨w.heap.size, 0, none⟩) (spl l).length (spl l).length) ∧ w' = w.alloc (.cells ((spl l).flatMap strs).toArray 9) := by
  obtain ⟨m, hm⟩ := h.max
  have hs : (⟨l.toArray⟩ : ByteArray).size = l.length := by simp [ByteArray.size]
  refine (Tryz.strings_Split ⟨l.toArray⟩ ⟨#[32]⟩ m w (by omega) hm (by decide)).mono ?_
  rintro e w' ⟨rfl, rfl⟩
  have h1 : (Lib.splitB ⟨#[32]⟩ 0 (Lib.countB ⟨l.toArray⟩ ⟨#[32]⟩) ⟨l.toArray⟩).map (·.data.toList) = spl l := by
    rw [Lib.splitB_data]
    simp [spl, Lib.split]
  have h2 := Lib.splitB_all ⟨#[32]⟩ (by decide) 0 _ ⟨l.toArray⟩ rfl
  have h3 : (spl l).length = Lib.countB ⟨l.toArray⟩ ⟨#[32]⟩ + 1 := by rw [← h1, List.length_map, h2]
  have h4 : (Lib.splitB ⟨#[32]⟩ 0 (Lib.countB ⟨l.toArray⟩ ⟨#[32]⟩) ⟨l.toArray⟩).map Value.string = (spl l).flatMap strs := by
    rw [← h1]
    generalize Lib.splitB ⟨#[32]⟩ 0 (Lib.countB ⟨l.toArray⟩ ⟨#[32]⟩) ⟨l.toArray⟩ = q
    induction q with
    | nil => rfl
    | cons a q ih => rw [List.map_cons, ih, List.map_cons, List.flatMap_cons]; simp [strs]
  rw [h3, h4]
  exact ⟨rfl, rfl⟩
theorem Rd.str {w : World} {a : Option Addr} {n : Nat} {xs : List (List UInt8)} (h : Rd strs 1 w a n xs) {i : Nat} (hi : i < n) : ∃ b off x, a = some ⟨b, off, none⟩ ∧ b < w.heap.size ∧ xs[i]? = some x ∧ w.cell? ⟨b, off + i, none⟩ = some (.string ⟨x.toArray⟩) := by
  obtain ⟨b, off, x, h1, h2, h3, h4⟩ := h.read i hi
  exact ⟨b, off, x, h1, h2, h3, by have := h4 0 (by omega); simpa [strs] using this⟩

set_option maxRecDepth 100000 in
set_option maxHeartbeats 2000000 in
theorem number_any (S : Nat) (ws : List (List UInt8)) (n c : Nat) (B : Nat) (i : Nat) (x : List UInt8) (w : World) (hl : Laid w) (hb : w.cell? ⟨B, 0, none⟩ = some (.slice (some ⟨S, 0, none⟩) n c))
    (hr : Rd strs 1 w (some ⟨S, 0, none⟩) n ws) (hx : ws[i]? = some x) (hlen : x.length ≤ 1000) :
    Calls Tryz.prog 25 #[.int .i64 i, .pointer (some ⟨B, 0, none⟩)] w fun e w' => e = .returned (.int .i64 (atoiV x)) ∧ Below w.heap.size w w' := by
  have hi : i < n := by
    have := (List.getElem?_eq_some_iff.1 hx).1
    rw [hr.len] at this; exact this
  obtain ⟨b, off, y, h1, hlt, h3, x0⟩ := hr.str hi
  cases h1
  rw [hx] at h3
  cases h3
  rw [Nat.zero_add] at x0
  have hi' : (i : Int) < (n : Int) := by omega
  have hi0 : (0 : Int) ≤ (i : Int) := by omega
  have HL := Lib.hid hl
  have hcap := hr.cap
  clear hl hr hx
  go_enter Tryz.func25, Tryz.ntmps25
  go_wp2_with fail
  refine (atoi_any x hlen _ HL.out).mono ?_
  rintro e w1 ⟨ev, rfl, hB⟩
  have HB := Lib.hid hB
  clear hB
  go_wp2_with fail
  go_ret
  exact ⟨rfl, HB.out⟩
def ReadPost (w : World) (q : Po × Int) (e : Ending) (w' : World) : Prop :=
  e = .returned (.tuple #[.agg #[.int .i64 q.1.id, .int .i64 q.1.hour, .int .u8 q.1.kind, .int .i64 q.1.party, .int .i64 q.1.parcel, .int .i64 q.1.amount, .int .i64 q.1.reason, .int .i64 q.1.known], .int .i64 q.2]) ∧ Below w.heap.size w w'
theorem bl1 (w : World) (o : Obj) : Below w.heap.size w (w.alloc o).drew := dr' (al' (Below.refl _ w) o)
theorem below_dr {B : Nat} {w w' : World} (h : Below B w.drew w') : Below B w w' := (below_drewN (Below.refl B w) 1).trans h
theorem zboxF {W W' : World} {T : TypeId} (hB : Below (W.alloc (.cells #[.int .i64 0, .int .i64 0, .int .u8 0, .int .i64 0, .int .i64 0, .int .i64 0, .int .i64 0, .int .i64 0] T)).drew.heap.size (W.alloc (.cells #[.int .i64 0, .int .i64 0, .int .u8 0, .int .i64 0, .int .i64 0, .int .i64 0, .int .i64 0, .int .i64 0] T)).drew W') : BoxF W' W.heap.size po0 := (BoxF.made W po0 T).below' (below_dr hB)
theorem zboxG {W W' : World} {T : TypeId} (hB : Below (W.alloc (.cells #[.int .i64 0, .int .i64 0, .int .u8 0, .int .i64 0, .int .i64 0, .int .i64 0, .int .i64 0, .int .i64 0] T)).heap.size (W.alloc (.cells #[.int .i64 0, .int .i64 0, .int .u8 0, .int .i64 0, .int .i64 0, .int .i64 0, .int .i64 0, .int .i64 0] T)) W') : BoxF W' W.heap.size po0 := (BoxF.made W po0 T).below' hB
theorem below8g {C : Nat} {w w' : World} (h : Below C w w') {B : Nat} (hB : C ≤ B) (a b c d e f g i : Value) : Below C w ((((((((w'.setCell ⟨B, 0, none⟩ a).setCell ⟨B, 1, none⟩ b).setCell ⟨B, 2, none⟩ c).setCell ⟨B, 3, none⟩ d).setCell ⟨B, 4, none⟩ e).setCell ⟨B, 5, none⟩ f).setCell ⟨B, 6, none⟩ g).setCell ⟨B, 7, none⟩ i) :=
  (((((((h.setCell (p := ⟨B, 0, none⟩) hB _).setCell (p := ⟨B, 1, none⟩) hB _).setCell (p := ⟨B, 2, none⟩) hB _).setCell (p := ⟨B, 3, none⟩) hB _).setCell (p := ⟨B, 4, none⟩) hB _).setCell (p := ⟨B, 5, none⟩) hB _).setCell (p := ⟨B, 6, none⟩) hB _).setCell (p := ⟨B, 7, none⟩) hB _
theorem BoxF.set3 {w : World} {B : Nat} {a b c d e f g h : Int} (hb : BoxF w B ⟨a, b, c, d, e, f, g, h⟩) (v : Int) : BoxF (w.setCell ⟨B, 3, none⟩ (.int .i64 v)) B ⟨a, b, c, v, e, f, g, h⟩ := by
  obtain ⟨c0, c1, c2, c3, c4, c5, c6, c7⟩ := hb.1.cells
  refine ⟨⟨by simpa [World.setCell] using hb.1.1, fun j hj => ?_⟩, fun j => by rw [World.frozen?_setCell]; exact hb.2 j⟩
  have h' : j = 0 ∨ j = 1 ∨ j = 2 ∨ j = 3 ∨ j = 4 ∨ j = 5 ∨ j = 6 ∨ j = 7 := by omega
  rcases h' with rfl | rfl | rfl | rfl | rfl | rfl | rfl | rfl
  · exact cell_off c0 (by decide)
  · exact cell_off c1 (by decide)
  · exact cell_off c2 (by decide)
  · exact cell_on c3
  · exact cell_off c4 (by decide)
  · exact cell_off c5 (by decide)
  · exact cell_off c6 (by decide)
  · exact cell_off c7 (by decide)
theorem BoxF.set4 {w : World} {B : Nat} {a b c d e f g h : Int} (hb : BoxF w B ⟨a, b, c, d, e, f, g, h⟩) (s t u v : Int) : BoxF ((((w.setCell ⟨B, 4, none⟩ (.int .i64 s)).setCell ⟨B, 5, none⟩ (.int .i64 t)).setCell ⟨B, 6, none⟩ (.int .i64 u)).setCell ⟨B, 7, none⟩ (.int .i64 v)) B ⟨a, b, c, d, s, t, u, v⟩ := by
  obtain ⟨c0, c1, c2, c3, c4, c5, c6, c7⟩ := hb.1.cells
  refine ⟨⟨by simpa [World.setCell] using hb.1.1, fun j hj => ?_⟩, fun j => by simp only [World.frozen?_setCell]; exact hb.2 j⟩
  have h' : j = 0 ∨ j = 1 ∨ j = 2 ∨ j = 3 ∨ j = 4 ∨ j = 5 ∨ j = 6 ∨ j = 7 := by omega
  rcases h' with rfl | rfl | rfl | rfl | rfl | rfl | rfl | rfl
  · exact cell_off (cell_off (cell_off (cell_off c0 (by decide)) (by decide)) (by decide)) (by decide)
  · exact cell_off (cell_off (cell_off (cell_off c1 (by decide)) (by decide)) (by decide)) (by decide)
  · exact cell_off (cell_off (cell_off (cell_off c2 (by decide)) (by decide)) (by decide)) (by decide)
  · exact cell_off (cell_off (cell_off (cell_off c3 (by decide)) (by decide)) (by decide)) (by decide)
  · exact cell_off (cell_off (cell_off (cell_on c4) (by decide)) (by decide)) (by decide)
  · exact cell_off (cell_off (cell_on (cell_off c5 (by decide))) (by decide)) (by decide)
  · exact cell_off (cell_on (cell_off (cell_off c6 (by decide)) (by decide))) (by decide)
  · exact cell_on (cell_off (cell_off (cell_off c7 (by decide)) (by decide)) (by decide))
theorem kindI_bd (x : List UInt8) : 0 ≤ kindI x ∧ kindI x ≤ 3 := by unfold kindI; (repeat' split) <;> omega
theorem neq_str {l l2 : List UInt8} (h : ¬ l2 = l) (w : World) : (binOp .neq 9 (.string ⟨l2.toArray⟩) (.string ⟨l.toArray⟩)).run Tryz.prog w = .ok (.bool true) w := by
  simp [go_sem]
  exact h
theorem wrap_small {k : Int} (h0 : 0 ≤ k) (h1 : k ≤ 3) : IntKind.u8.wrap k = k := by
  have : k = 0 ∨ k = 1 ∨ k = 2 ∨ k = 3 := by omega
  rcases this with rfl | rfl | rfl | rfl <;> rfl
theorem list7 {α : Type} {ws : List α} (h : ws.length = 7) : ∃ a0 a1 a2 a3 a4 a5 a6, ws = [a0, a1, a2, a3, a4, a5, a6] := by
  match ws, h with
  | [a0, a1, a2, a3, a4, a5, a6], _ => exact ⟨a0, a1, a2, a3, a4, a5, a6, rfl⟩
theorem list8 {α : Type} {ws : List α} (h : ws.length = 8) : ∃ a0 a1 a2 a3 a4 a5 a6 a7, ws = [a0, a1, a2, a3, a4, a5, a6, a7] := by
  match ws, h with
  | [a0, a1, a2, a3, a4, a5, a6, a7], _ => exact ⟨a0, a1, a2, a3, a4, a5, a6, a7, rfl⟩
theorem rd_words (w : World) (ws : List (List UInt8)) (n : Nat) (hn : ws.length = n) (hm : n ≤ maxLen) (e : TypeId) :
    Rd strs 1 (w.alloc (.cells (ws.flatMap strs).toArray e)) (some ⟨w.heap.size, 0, none⟩) n ws := by
  obtain ⟨a, cap, h1, h2, h3, h4⟩ := Rd.of_own (E := strs) (k := 1) (own_words w (Nat.le_refl _) ws n hn hm e) strs_length (by decide) hn hm
  cases h1
  exact h3
theorem cut_len : ∀ (r acc : List UInt8), (cutL acc r).length ≤ r.length + 1
  | [], acc => by simp [cutL]
  | c :: r, acc => by
    rw [cutL]
    split
    · have := cut_len r []; simp only [List.length_cons]; omega
    · have := cut_len r (acc ++ [c]); simp only [List.length_cons]; omega
theorem cut_mem : ∀ (r acc : List UInt8), ∀ x ∈ cutL acc r, x.length ≤ acc.length + r.length
  | [], acc, x, h => by simp [cutL] at h; subst h; simp
  | c :: r, acc, x, h => by
    rw [cutL] at h
    split at h
    · rcases List.mem_cons.1 h with rfl | h
      · omega
      · have := cut_mem r [] x h; simp at this ⊢; omega
    · have := cut_mem r (acc ++ [c]) x h; simp at this ⊢; omega
theorem spl_len (l : List UInt8) : (spl l).length ≤ l.length + 1 := by rw [← cut_is]; exact cut_len l []
theorem spl_mem_len (l : List UInt8) : ∀ x ∈ spl l, x.length ≤ l.length := by
  intro x hx
  rw [← cut_is] at hx
  have := cut_mem l [] x hx
  simpa using this
end Go.Proofs.YtjleembfocghlaaGreatDoor
