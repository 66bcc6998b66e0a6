/- The map operations of this program in the walk's own spelling. -/
import Derived.Test.YtjleembfocghlaaGreatDoorChest
import Derived.Deep.RegionHeld3
set_option linter.unusedSimpArgs false
set_option linter.unusedVariables false
namespace Go.Proofs.YtjleembfocghlaaGreatDoor
open Go.RowKit
open Go.Maps (Keyed)

theorem getI_mput {κ : Type} [DecidableEq κ] (m : List (κ × Int)) (k : κ) (v : Int) : getI (mput m k v) k = v := by
  unfold getI; rw [mget_mput, if_pos rfl]; rfl
theorem getI_mput_ne {κ : Type} [DecidableEq κ] (m : List (κ × Int)) {k k' : κ} (v : Int) (h : k ≠ k') : getI (mput m k v) k' = getI m k' := by
  unfold getI; rw [mget_mput, if_neg h]
section
variable {w : World} {b : Nat}
theorem entry_int {m : List (Int × Int)} (h : MapT Tryz.prog 3 kInt vInt w b m) {x : Int} (hx : I64 x) :
    ∃ (w' : World) (s : Nat), (Instr.mapEntry 72 (.map (some b)) (.int .i64 x)).run Tryz.prog w = .ok (.tuple #[.int .i64 (getI m x), .int .i64 (s : Int)]) w' ∧
      MapT Tryz.prog 3 kInt vInt w' b (mput m x (getI m x)) ∧ Stamp kInt w' b x s ∧ w.grownBy w' (some b) ∧ w'.heap.size = w.heap.size := by
  obtain ⟨l, hl⟩ := kInt_key hx
  obtain ⟨w', s, h1, h2, h3, h4, h5⟩ := h.entry (z := 0) intKeyed Tryz.underlying72 kInt_inj (zeroInt w) hl
  exact ⟨w', s, h1, h2, h3, h4, h5⟩
theorem store_int {m : List (Int × Int)} (h : MapT Tryz.prog 3 kInt vInt w b m) {x : Int} {s : Nat} (hs : Stamp kInt w b x s) (v : Int) :
    ∃ w' : World, (Instr.entryStore 72 (.map (some b)) (.int .i64 (s : Int)) (.int .i64 v)).run Tryz.prog w = .ok () w' ∧
      MapT Tryz.prog 3 kInt vInt w' b (mput m x v) ∧ w.grownBy w' (some b) ∧ w'.heap.size = w.heap.size := by
  obtain ⟨w', h1, h2, h3, h4⟩ := h.store (T := 72) kInt_inj hs v
  exact ⟨w', h1, h2, h3, h4⟩
theorem update_int {m : List (Int × Int)} (h : MapT Tryz.prog 3 kInt vInt w b m) {x : Int} (hx : I64 x) (v : Int) :
    ∃ w' : World, (Instr.mapUpdate 72 (.map (some b)) (.int .i64 x) (.int .i64 v)).run Tryz.prog w = .ok () w' ∧
      MapT Tryz.prog 3 kInt vInt w' b (mput m x v) ∧ w.grownBy w' (some b) ∧ w'.heap.size = w.heap.size := by
  obtain ⟨l, hl⟩ := kInt_key hx
  obtain ⟨w', h1, h2, h3, h4⟩ := h.update intKeyed Tryz.underlying72 kInt_inj hl v
  exact ⟨w', h1, h2, h3, h4⟩
theorem entry_bool {m : List (Int × Bool)} (h : MapT Tryz.prog 3 kInt vBool w b m) {x : Int} (hx : I64 x) :
    ∃ (w' : World) (s : Nat), (Instr.mapEntry 73 (.map (some b)) (.int .i64 x)).run Tryz.prog w = .ok (.tuple #[.bool (getB m x), .int .i64 (s : Int)]) w' ∧
      MapT Tryz.prog 3 kInt vBool w' b (mput m x (getB m x)) ∧ Stamp kInt w' b x s ∧ w.grownBy w' (some b) ∧ w'.heap.size = w.heap.size := by
  obtain ⟨l, hl⟩ := kInt_key hx
  obtain ⟨w', s, h1, h2, h3, h4, h5⟩ := h.entry (z := false) intKeyed Tryz.underlying73 kInt_inj (zeroBool w) hl
  exact ⟨w', s, h1, h2, h3, h4, h5⟩
theorem store_bool {m : List (Int × Bool)} (h : MapT Tryz.prog 3 kInt vBool w b m) {x : Int} {s : Nat} (hs : Stamp kInt w b x s) (v : Bool) :
    ∃ w' : World, (Instr.entryStore 73 (.map (some b)) (.int .i64 (s : Int)) (.bool v)).run Tryz.prog w = .ok () w' ∧
      MapT Tryz.prog 3 kInt vBool w' b (mput m x v) ∧ w.grownBy w' (some b) ∧ w'.heap.size = w.heap.size := by
  obtain ⟨w', h1, h2, h3, h4⟩ := h.store (T := 73) kInt_inj hs v
  exact ⟨w', h1, h2, h3, h4⟩
theorem entry_acc {m : List ((Int × Int) × Int)} (h : MapT Tryz.prog 81 kAcc vInt w b m) {x y : Int} (hx : I64 x) (hy : I64 y) :
    ∃ (w' : World) (s : Nat), (Instr.mapEntry 74 (.map (some b)) (.agg #[.int .i64 x, .int .i64 y])).run Tryz.prog w = .ok (.tuple #[.int .i64 (getI m (x, y)), .int .i64 (s : Int)]) w' ∧
      MapT Tryz.prog 81 kAcc vInt w' b (mput m (x, y) (getI m (x, y))) ∧ Stamp kAcc w' b (x, y) s ∧ w.grownBy w' (some b) ∧ w'.heap.size = w.heap.size := by
  obtain ⟨l, hl⟩ := kAcc_key (x := (x, y)) hx hy
  obtain ⟨w', s, h1, h2, h3, h4, h5⟩ := h.entry (z := 0) accKeyed Tryz.underlying74 kAcc_inj (zeroInt w) hl
  exact ⟨w', s, h1, h2, h3, h4, h5⟩
theorem store_acc {m : List ((Int × Int) × Int)} (h : MapT Tryz.prog 81 kAcc vInt w b m) {x : Int × Int} {s : Nat} (hs : Stamp kAcc w b x s) (v : Int) :
    ∃ w' : World, (Instr.entryStore 74 (.map (some b)) (.int .i64 (s : Int)) (.int .i64 v)).run Tryz.prog w = .ok () w' ∧
      MapT Tryz.prog 81 kAcc vInt w' b (mput m x v) ∧ w.grownBy w' (some b) ∧ w'.heap.size = w.heap.size := by
  obtain ⟨w', h1, h2, h3, h4⟩ := h.store (T := 74) kAcc_inj hs v
  exact ⟨w', h1, h2, h3, h4⟩
theorem update_acc {m : List ((Int × Int) × Int)} (h : MapT Tryz.prog 81 kAcc vInt w b m) {x y : Int} (hx : I64 x) (hy : I64 y) (v : Int) :
    ∃ w' : World, (Instr.mapUpdate 74 (.map (some b)) (.agg #[.int .i64 x, .int .i64 y]) (.int .i64 v)).run Tryz.prog w = .ok () w' ∧
      MapT Tryz.prog 81 kAcc vInt w' b (mput m (x, y) v) ∧ w.grownBy w' (some b) ∧ w'.heap.size = w.heap.size := by
  obtain ⟨l, hl⟩ := kAcc_key (x := (x, y)) hx hy
  obtain ⟨w', h1, h2, h3, h4⟩ := h.update accKeyed Tryz.underlying74 kAcc_inj hl v
  exact ⟨w', h1, h2, h3, h4⟩
theorem update_last {m : List ((Int × Int) × Po)} (h : MapT Tryz.prog 81 kAcc vPo w b m) {x y : Int} (hx : I64 x) (hy : I64 y) (q : Po) :
    ∃ w' : World, (Instr.mapUpdate 75 (.map (some b)) (.agg #[.int .i64 x, .int .i64 y]) (.agg #[.int .i64 q.id, .int .i64 q.hour, .int .u8 q.kind, .int .i64 q.party, .int .i64 q.parcel, .int .i64 q.amount, .int .i64 q.reason, .int .i64 q.known])).run Tryz.prog w = .ok () w' ∧
      MapT Tryz.prog 81 kAcc vPo w' b (mput m (x, y) q) ∧ w.grownBy w' (some b) ∧ w'.heap.size = w.heap.size := by
  obtain ⟨l, hl⟩ := kAcc_key (x := (x, y)) hx hy
  obtain ⟨w', h1, h2, h3, h4⟩ := h.update accKeyed Tryz.underlying75 kAcc_inj hl q
  exact ⟨w', h1, h2, h3, h4⟩
end

section
variable {w w' : World} {L : Lay} {s : Ch}
/-- The chest behind a turn of one of its maps. -/
theorem ChAt.setSold (h : ChAt w L s) {m : List (Int × Int)} (hm : MapT Tryz.prog 3 kInt vInt w' L.sold m) (hg : w.grownBy w' (some L.sold)) : ChAt w' L { s with sold := m } :=
  ⟨h.ok, (hg.block _ (h.mem_lt (.inl rfl)) (fun e => h.ok.h2 (by injection e))).trans h.cells, h.ids.grown hg (fun e => h.ok.h6 (by injection e)), hm, h.held.grown hg (fun e => h.ok.h10 (by injection e with e; exact e.symm)),
    h.has.grown hg (fun e => h.ok.h11 (by injection e with e; exact e.symm)), h.last.grown hg (fun e => h.ok.h12 (by injection e with e; exact e.symm))⟩
theorem ChAt.setHeld (h : ChAt w L s) {m : List (Int × Int)} (hm : MapT Tryz.prog 3 kInt vInt w' L.held m) (hg : w.grownBy w' (some L.held)) : ChAt w' L { s with held := m } :=
  ⟨h.ok, (hg.block _ (h.mem_lt (.inl rfl)) (fun e => h.ok.h3 (by injection e))).trans h.cells, h.ids.grown hg (fun e => h.ok.h7 (by injection e)), h.sold.grown hg (fun e => h.ok.h10 (by injection e)), hm,
    h.has.grown hg (fun e => h.ok.h13 (by injection e with e; exact e.symm)), h.last.grown hg (fun e => h.ok.h14 (by injection e with e; exact e.symm))⟩
theorem ChAt.setHas (h : ChAt w L s) {m : List ((Int × Int) × Int)} (hm : MapT Tryz.prog 81 kAcc vInt w' L.has m) (hg : w.grownBy w' (some L.has)) : ChAt w' L { s with has := m } :=
  ⟨h.ok, (hg.block _ (h.mem_lt (.inl rfl)) (fun e => h.ok.h4 (by injection e))).trans h.cells, h.ids.grown hg (fun e => h.ok.h8 (by injection e)), h.sold.grown hg (fun e => h.ok.h11 (by injection e)), h.held.grown hg (fun e => h.ok.h13 (by injection e)), hm,
    h.last.grown hg (fun e => h.ok.h15 (by injection e with e; exact e.symm))⟩
theorem ChAt.setLast (h : ChAt w L s) {m : List ((Int × Int) × Po)} (hm : MapT Tryz.prog 81 kAcc vPo w' L.last m) (hg : w.grownBy w' (some L.last)) : ChAt w' L { s with last := m } :=
  ⟨h.ok, (hg.block _ (h.mem_lt (.inl rfl)) (fun e => h.ok.h5 (by injection e))).trans h.cells, h.ids.grown hg (fun e => h.ok.h9 (by injection e)), h.sold.grown hg (fun e => h.ok.h12 (by injection e)), h.held.grown hg (fun e => h.ok.h14 (by injection e)),
    h.has.grown hg (fun e => h.ok.h15 (by injection e)), hm⟩
theorem ChAt.setIds (h : ChAt w L s) {m : List (Int × Bool)} (hm : MapT Tryz.prog 3 kInt vBool w' L.ids m) (hg : w.grownBy w' (some L.ids)) : ChAt w' L { s with ids := m } :=
  ⟨h.ok, (hg.block _ (h.mem_lt (.inl rfl)) (fun e => h.ok.h1 (by injection e))).trans h.cells, hm, h.sold.grown hg (fun e => h.ok.h6 (by injection e with e; exact e.symm)), h.held.grown hg (fun e => h.ok.h7 (by injection e with e; exact e.symm)),
    h.has.grown hg (fun e => h.ok.h8 (by injection e with e; exact e.symm)), h.last.grown hg (fun e => h.ok.h9 (by injection e with e; exact e.symm))⟩
/-- A boxed posting behind a turn of another block. -/
theorem BoxPo.grown {B b : Nat} {p : Po} (h : BoxPo w B p) (hg : w.grownBy w' (some b)) (hne : B ≠ b) : BoxPo w' B p :=
  ⟨Nat.lt_of_lt_of_le h.1 hg.size, fun j hj => (World.cell?_of_block (a := ⟨B, j, none⟩) (hg.block B h.1 (fun e => hne (by injection e)))).trans (h.2 j hj)⟩
end
end Go.Proofs.YtjleembfocghlaaGreatDoor
