/- Words for data in memory (slices of records that are only read), no dump. -/
import Derived.WalkKit
import Derived.WalkSpells
import Derived.WalkLawsBesides
import Derived.Lib.Hide
import Derived.OneCell
import Derived.Deep.QuietTactic
set_option linter.unusedSimpArgs false
set_option linter.unusedVariables false
namespace Go.Proofs.YtehplmeckfinoaaGreatDoor
theorem Hd {p : Prop} (h : p) : Go.RowKit.Hid p := h
open Go.RowKit
structure Po where
 (id hour kind party parcel amount reason known : Int)
 deriving DecidableEq
structure Du where
 (party parcel amount : Int)
 deriving DecidableEq
structure Ca where
 (parcel reason known : Int)
 deriving DecidableEq
def Po.vals (p : Po) : List Value := [.int .i64 p.id, .int .i64 p.hour, .int .u8 p.kind, .int .i64 p.party, .int .i64 p.parcel, .int .i64 p.amount, .int .i64 p.reason, .int .i64 p.known]
def Du.vals (p : Du) : List Value := [.int .i64 p.party, .int .i64 p.parcel, .int .i64 p.amount]
def Ca.vals (p : Ca) : List Value := [.int .i64 p.parcel, .int .i64 p.reason, .int .i64 p.known]
structure Rd {α : Type} (E : α → List Value) (k : Nat) (w : World) (a : Option Addr) (n : Nat) (xs : List α) : Prop where
 len : xs.length = n
 cap : n ≤ maxLen
 read : ∀ i, i < n → ∃ b off x, a = some ⟨b, off, none⟩ ∧ b < w.heap.size ∧ xs[i]? = some x ∧ ∀ j, j < k → w.cell? ⟨b, off + i * k + j, none⟩ = (E x)[j]?
variable {α : Type} {E : α → List Value} {k : Nat} {w w' : World} {a : Option Addr} {n : Nat} {xs : List α}
theorem Rd.below {B : Nat} (h : Rd E k w a n xs) (hb : Below B w w') (hB : ∀ p, a = some p → p.block < B) : Rd E k w' a n xs :=
 ⟨h.len, h.cap, fun i hi => by
  obtain ⟨b, off, x, rfl, hlt, hx, hc⟩ := h.read i hi
  exact ⟨b, off, x, rfl, Nat.lt_of_lt_of_le hlt hb.size, hx, fun j hj => (hb.cell (p := ⟨b, off + i * k + j, none⟩) (hB ⟨b, off, none⟩ rfl)).trans (hc j hj)⟩⟩
theorem Rd.below' (h : Rd E k w a n xs) (hb : Below w.heap.size w w') : Rd E k w' a n xs :=
 ⟨h.len, h.cap, fun i hi => by
  obtain ⟨b, off, x, rfl, hlt, hx, hc⟩ := h.read i hi
  exact ⟨b, off, x, rfl, Nat.lt_of_lt_of_le hlt hb.size, hx, fun j hj => (hb.cell (p := ⟨b, off + i * k + j, none⟩) hlt).trans (hc j hj)⟩⟩
theorem Rd.take (h : Rd E k w a n xs) {m : Nat} (hm : m ≤ n) : Rd E k w a m (xs.take m) :=
 ⟨by have := h.len; simp; omega, by have := h.cap; omega, fun i hi => by
  obtain ⟨b, off, x, rfl, hlt, hx, hc⟩ := h.read i (by omega)
  exact ⟨b, off, x, rfl, hlt, by rw [List.getElem?_take]; simp [hi, hx], hc⟩⟩
theorem Rd.po {xs : List Po} (h : Rd Po.vals 8 w a n xs) {i : Nat} (hi : i < n) : ∃ b off p, a = some ⟨b, off, none⟩ ∧ b < w.heap.size ∧ xs[i]? = some p ∧
 w.cell? ⟨b, off + i * 8, none⟩ = some (.int .i64 p.id) ∧ w.cell? ⟨b, off + i * 8 + 1, none⟩ = some (.int .i64 p.hour) ∧
 w.cell? ⟨b, off + i * 8 + 2, none⟩ = some (.int .u8 p.kind) ∧ w.cell? ⟨b, off + i * 8 + 3, none⟩ = some (.int .i64 p.party) ∧
 w.cell? ⟨b, off + i * 8 + 4, none⟩ = some (.int .i64 p.parcel) ∧ w.cell? ⟨b, off + i * 8 + 5, none⟩ = some (.int .i64 p.amount) ∧
 w.cell? ⟨b, off + i * 8 + 6, none⟩ = some (.int .i64 p.reason) ∧ w.cell? ⟨b, off + i * 8 + 7, none⟩ = some (.int .i64 p.known) := by
 obtain ⟨b, off, p, ha, hb, hx, hc⟩ := h.read i hi
 exact ⟨b, off, p, ha, hb, hx, hc 0 (by omega), hc 1 (by omega), hc 2 (by omega), hc 3 (by omega), hc 4 (by omega), hc 5 (by omega), hc 6 (by omega), hc 7 (by omega)⟩
theorem Rd.du {xs : List Du} (h : Rd Du.vals 3 w a n xs) {i : Nat} (hi : i < n) : ∃ b off p, a = some ⟨b, off, none⟩ ∧ b < w.heap.size ∧ xs[i]? = some p ∧
 w.cell? ⟨b, off + i * 3, none⟩ = some (.int .i64 p.party) ∧ w.cell? ⟨b, off + i * 3 + 1, none⟩ = some (.int .i64 p.parcel) ∧
 w.cell? ⟨b, off + i * 3 + 2, none⟩ = some (.int .i64 p.amount) := by
 obtain ⟨b, off, p, ha, hb, hx, hc⟩ := h.read i hi
 exact ⟨b, off, p, ha, hb, hx, hc 0 (by omega), hc 1 (by omega), hc 2 (by omega)⟩
theorem Rd.ca {xs : List Ca} (h : Rd Ca.vals 3 w a n xs) {i : Nat} (hi : i < n) : ∃ b off p, a = some ⟨b, off, none⟩ ∧ b < w.heap.size ∧ xs[i]? = some p ∧
 w.cell? ⟨b, off + i * 3, none⟩ = some (.int .i64 p.parcel) ∧ w.cell? ⟨b, off + i * 3 + 1, none⟩ = some (.int .i64 p.reason) ∧
 w.cell? ⟨b, off + i * 3 + 2, none⟩ = some (.int .i64 p.known) := by
 obtain ⟨b, off, p, ha, hb, hx, hc⟩ := h.read i hi
 exact ⟨b, off, p, ha, hb, hx, hc 0 (by omega), hc 1 (by omega), hc 2 (by omega)⟩
theorem Rd.drewN (h : Rd E k w a n xs) (m : Nat) : Rd E k (w.drewN m) a n xs :=
 h.below' (w' := w.drewN m) ⟨rfl, rfl, rfl, Nat.le_refl _, fun _ _ => rfl⟩
def BoxPo (w : World) (B : Nat) (p : Po) : Prop := B < w.heap.size ∧ ∀ j, j < 8 → w.cell? ⟨B, j, none⟩ = (Po.vals p)[j]?
theorem BoxPo.below {B C : Nat} {p : Po} (h : BoxPo w B p) (hb : Below C w w') (hB : B < C) : BoxPo w' B p :=
 ⟨Nat.lt_of_lt_of_le h.1 hb.size, fun j hj => (hb.cell (p := ⟨B, j, none⟩) hB).trans (h.2 j hj)⟩
theorem BoxPo.below' {B : Nat} {p : Po} (h : BoxPo w B p) (hb : Below w.heap.size w w') : BoxPo w' B p := h.below hb h.1
theorem BoxPo.drewN {B : Nat} {p : Po} (h : BoxPo w B p) (m : Nat) : BoxPo (w.drewN m) B p := h.below' ⟨rfl, rfl, rfl, Nat.le_refl _, fun _ _ => rfl⟩
theorem BoxPo.made (w : World) (p : Po) (T : TypeId) : BoxPo (w.alloc (.cells #[.int .i64 p.id, .int .i64 p.hour, .int .u8 p.kind, .int .i64 p.party, .int .i64 p.parcel, .int .i64 p.amount, .int .i64 p.reason, .int .i64 p.known] T)) w.heap.size p :=
 ⟨by simp, fun j hj => by
  have : ∀ i, (w.alloc (.cells #[.int .i64 p.id, .int .i64 p.hour, .int .u8 p.kind, .int .i64 p.party, .int .i64 p.parcel, .int .i64 p.amount, .int .i64 p.reason, .int .i64 p.known] T)).cell? ⟨w.heap.size, i, none⟩ = (Po.vals p)[i]? := fun i => by
   rw [cell_of_row _ _ i _ T (0, 0) (heap_alloc_new w _)]; simp [Po.vals]
  exact this j⟩
theorem BoxPo.cells {B : Nat} {p : Po} (h : BoxPo w B p) :
 w.cell? ⟨B, 0, none⟩ = some (.int .i64 p.id) ∧ w.cell? ⟨B, 1, none⟩ = some (.int .i64 p.hour) ∧ w.cell? ⟨B, 2, none⟩ = some (.int .u8 p.kind) ∧ w.cell? ⟨B, 3, none⟩ = some (.int .i64 p.party) ∧
 w.cell? ⟨B, 4, none⟩ = some (.int .i64 p.parcel) ∧ w.cell? ⟨B, 5, none⟩ = some (.int .i64 p.amount) ∧ w.cell? ⟨B, 6, none⟩ = some (.int .i64 p.reason) ∧ w.cell? ⟨B, 7, none⟩ = some (.int .i64 p.known) :=
 ⟨h.2 0 (by omega), h.2 1 (by omega), h.2 2 (by omega), h.2 3 (by omega), h.2 4 (by omega), h.2 5 (by omega), h.2 6 (by omega), h.2 7 (by omega)⟩
theorem ret_int {k : IntKind} {a b : Int} (h : a = b) : Ending.returned (.int k a) = .returned (.int k b) := by rw [h]
theorem ret_bool {a b : Bool} (h : a = b) : Ending.returned (.bool a) = .returned (.bool b) := by rw [h]
theorem drewN_below (w : World) (n : Nat) : Below w.heap.size w (w.drewN n) := ⟨rfl, rfl, rfl, Nat.le_refl _, fun _ _ => rfl⟩
theorem below_drewN {B : Nat} {w w' : World} (h : Below B w w') (n : Nat) : Below B w (w'.drewN n) := ⟨h.os, h.tape, h.output, h.size, h.block⟩
theorem below_then {B : Nat} {w w1 w2 : World} (h : Below B w w1) (h2 : Below w1.heap.size w1 w2) (hB : B ≤ w.heap.size) : Below B w w2 := h.trans (h2.mono (Nat.le_trans hB h.size))
theorem quiet_add_same {P : Program} {f : FuncId} {args : Array Value} {w : World} {a n : Nat} {v : Value}
 (h : Calls P f args (w.drewN (a + n)) fun e w' => e = .returned v ∧ w' = w.drewN (a + n)) :
 Calls P f args (w.drewN (a + n)) fun e w'' => e = .returned v ∧ ∃ m, w'' = w.drewN (a + m) :=
 h.mono fun _ _ ⟨he, hm⟩ => ⟨he, n, hm⟩
theorem take_succ_snoc {β : Type} {l : List β} {k : Nat} {x : β} (h : l[k]? = some x) : l.take (k + 1) = l.take k ++ [x] := by
 rw [List.take_add_one, h]; rfl
end Go.Proofs.YtehplmeckfinoaaGreatDoor
