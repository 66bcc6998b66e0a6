/- The chest in memory; what its postings come to. -/
import Derived.Test.YtjleembfocghlaaGreatDoorKeys
import Derived.Test.YtjleembfocghlaaGreatDoorPlain
import Derived.StillTailTactics
import Derived.BigQuiet
set_option linter.unusedSimpArgs false
set_option linter.unusedVariables false
namespace Go.Proofs.YtjleembfocghlaaGreatDoor
open Go.RowKit
open Go.Maps (Keyed)

/-- what postings come to -/
structure Ch where
  n : Int
  hour : Int
  ids : List (Int × Bool)
  sold : List (Int × Int)
  held : List (Int × Int)
  has : List ((Int × Int) × Int)
  last : List ((Int × Int) × Po)

/-- the blocks of a chest -/
structure Lay where
  (c ids sold held has last : Nat)
def Lay.mem (L : Lay) (k : Nat) : Prop := k = L.c ∨ k = L.ids ∨ k = L.sold ∨ k = L.held ∨ k = L.has ∨ k = L.last
structure Lay.Ok (L : Lay) : Prop where
  h1 : L.c ≠ L.ids
  h2 : L.c ≠ L.sold
  h3 : L.c ≠ L.held
  h4 : L.c ≠ L.has
  h5 : L.c ≠ L.last
  h6 : L.ids ≠ L.sold
  h7 : L.ids ≠ L.held
  h8 : L.ids ≠ L.has
  h9 : L.ids ≠ L.last
  h10 : L.sold ≠ L.held
  h11 : L.sold ≠ L.has
  h12 : L.sold ≠ L.last
  h13 : L.held ≠ L.has
  h14 : L.held ≠ L.last
  h15 : L.has ≠ L.last

def vInt (x : Int) : Value := .int .i64 x
def vBool (x : Bool) : Value := .bool x
def vPo (p : Po) : Value := .agg #[.int .i64 p.id, .int .i64 p.hour, .int .u8 p.kind, .int .i64 p.party, .int .i64 p.parcel, .int .i64 p.amount, .int .i64 p.reason, .int .i64 p.known]

structure ChAt (w : World) (L : Lay) (s : Ch) : Prop where
  ok : L.Ok
  cells : w.heap[L.c]? = some (.cells #[.int .i64 s.n, .int .i64 s.hour, .map (some L.ids), .map (some L.sold), .map (some L.held), .map (some L.has), .map (some L.last)] 77)
  ids : MapT Tryz.prog 3 kInt vBool w L.ids s.ids
  sold : MapT Tryz.prog 3 kInt vInt w L.sold s.sold
  held : MapT Tryz.prog 3 kInt vInt w L.held s.held
  has : MapT Tryz.prog 81 kAcc vInt w L.has s.has
  last : MapT Tryz.prog 81 kAcc vPo w L.last s.last

/-- Of the blocks of w none but those of the chest have turned. -/
structure OnlyL (L : Lay) (w w' : World) : Prop where
  os : w'.os = w.os
  tape : w'.tape = w.tape
  output : w'.output = w.output
  size : w.heap.size ≤ w'.heap.size
  block : ∀ k, k < w.heap.size → ¬ L.mem k → w'.heap[k]? = w.heap[k]?

section
variable {w w' w2 : World} {L : Lay} {s : Ch}
theorem OnlyL.refl (L : Lay) (w : World) : OnlyL L w w := ⟨rfl, rfl, rfl, Nat.le_refl _, fun _ _ _ => rfl⟩
theorem OnlyL.trans (h : OnlyL L w w') (h2 : OnlyL L w' w2) : OnlyL L w w2 :=
  ⟨h2.os.trans h.os, h2.tape.trans h.tape, h2.output.trans h.output, Nat.le_trans h.size h2.size, fun k hk hm => (h2.block k (Nat.lt_of_lt_of_le hk h.size) hm).trans (h.block k hk hm)⟩
theorem OnlyL.below {B : Nat} (h : OnlyL L w w') (hB : ∀ k, L.mem k → B ≤ k) (hs : B ≤ w.heap.size) : Below B w w' :=
  ⟨h.os, h.tape, h.output, h.size, fun k hk => h.block k (Nat.lt_of_lt_of_le hk hs) (fun hm => Nat.not_lt_of_le (hB k hm) hk)⟩
theorem onlyL_of_below (h : Below w.heap.size w w') (L : Lay) : OnlyL L w w' := ⟨h.os, h.tape, h.output, h.size, fun k hk _ => h.block k hk⟩
theorem onlyL_of_grown {b : Nat} (h : w.grownBy w' (some b)) (hb : L.mem b) : OnlyL L w w' :=
  ⟨h.os, h.tape, h.output, h.size, fun k hk hm => h.block k hk (fun e => hm (by injection e with e; rw [e]; exact hb))⟩
theorem ChAt.mem_lt (h : ChAt w L s) {k : Nat} (hk : L.mem k) : k < w.heap.size := by
  rcases hk with rfl | rfl | rfl | rfl | rfl | rfl
  · exact (Array.getElem?_eq_some_iff.1 h.cells).1
  · exact h.ids.lt
  · exact h.sold.lt
  · exact h.held.lt
  · exact h.has.lt
  · exact h.last.lt
theorem ChAt.below' (h : ChAt w L s) (hB : Below w.heap.size w w') : ChAt w' L s :=
  ⟨h.ok, (hB.block _ (h.mem_lt (.inl rfl))).trans h.cells, h.ids.below' hB, h.sold.below' hB, h.held.below' hB, h.has.below' hB, h.last.below' hB⟩
theorem ChAt.drewN (h : ChAt w L s) (n : Nat) : ChAt (w.drewN n) L s := h.below' (drewN_below w n)
theorem ChAt.drew (h : ChAt w L s) : ChAt w.drew L s := h.below' (drewN_below w 1)
theorem ChAt.alloc (h : ChAt w L s) (o : Obj) : ChAt (w.alloc o) L s := h.below' ((Below.refl _ _).alloc (Nat.le_refl _) _)

/-- the chest's cells, as the walk wants them -/
theorem ChAt.cs (h : ChAt w L s) : w.cell? ⟨L.c, 0, none⟩ = some (.int .i64 s.n) ∧ w.cell? ⟨L.c, 1, none⟩ = some (.int .i64 s.hour) ∧ w.cell? ⟨L.c, 2, none⟩ = some (.map (some L.ids)) ∧
    w.cell? ⟨L.c, 3, none⟩ = some (.map (some L.sold)) ∧ w.cell? ⟨L.c, 4, none⟩ = some (.map (some L.held)) ∧ w.cell? ⟨L.c, 5, none⟩ = some (.map (some L.has)) ∧ w.cell? ⟨L.c, 6, none⟩ = some (.map (some L.last)) := by
  refine ⟨?_, ?_, ?_, ?_, ?_, ?_, ?_⟩ <;> (rw [cell_of_row _ _ _ _ _ (0, 0) h.cells]; rfl)
end

/-- a number of a map; 0 if there is none -/
def getI {κ : Type} [DecidableEq κ] (m : List (κ × Int)) (k : κ) : Int := (mget m k).getD 0
def getP {κ : Type} [DecidableEq κ] (m : List (κ × Po)) (k : κ) : Po := (mget m k).getD zPo
def getB {κ : Type} [DecidableEq κ] (m : List (κ × Bool)) (k : κ) : Bool := (mget m k).getD false

section
variable {w : World} {b : Nat}
theorem zeroInt (w : World) : (zeroValue 3).run Tryz.prog w = .ok (.int .i64 0) w := by kernel_rfl
theorem zeroBool (w : World) : (zeroValue 4).run Tryz.prog w = .ok (.bool false) w := by kernel_rfl
theorem zeroPo (w : World) : (zeroValue 23).run Tryz.prog w = .ok (.agg #[.int .i64 0, .int .i64 0, .int .u8 0, .int .i64 0, .int .i64 0, .int .i64 0, .int .i64 0, .int .i64 0]) w := by kernel_rfl

theorem look_int {m : List (Int × Int)} (h : MapT Tryz.prog 3 kInt vInt w b m) {x : Int} (hx : I64 x) :
    (Instr.lookup 72 (.map (some b)) (.int .i64 x) false).run Tryz.prog w = .ok (.int .i64 (getI m x)) w := by
  obtain ⟨l, hl⟩ := kInt_key hx
  have := h.lookup intKeyed Tryz.underlying72 kInt_inj (zeroInt w) hl
  refine this.trans ?_
  unfold getI vInt
  cases mget m x <;> rfl
theorem look_int_ok {m : List (Int × Int)} (h : MapT Tryz.prog 3 kInt vInt w b m) {x : Int} (hx : I64 x) :
    (Instr.lookup 72 (.map (some b)) (.int .i64 x) true).run Tryz.prog w = .ok (.tuple #[.int .i64 (getI m x), .bool (mget m x).isSome]) w := by
  obtain ⟨l, hl⟩ := kInt_key hx
  have := h.lookup_ok intKeyed Tryz.underlying72 kInt_inj (zeroInt w) hl
  refine this.trans ?_
  unfold getI vInt
  cases mget m x <;> rfl
theorem look_bool {m : List (Int × Bool)} (h : MapT Tryz.prog 3 kInt vBool w b m) {x : Int} (hx : I64 x) :
    (Instr.lookup 73 (.map (some b)) (.int .i64 x) false).run Tryz.prog w = .ok (.bool (getB m x)) w := by
  obtain ⟨l, hl⟩ := kInt_key hx
  have := h.lookup intKeyed Tryz.underlying73 kInt_inj (zeroBool w) hl
  refine this.trans ?_
  unfold getB vBool
  cases mget m x <;> rfl
theorem look_acc {m : List ((Int × Int) × Int)} (h : MapT Tryz.prog 81 kAcc vInt w b m) {x y : Int} (hx : I64 x) (hy : I64 y) :
    (Instr.lookup 74 (.map (some b)) (.agg #[.int .i64 x, .int .i64 y]) false).run Tryz.prog w = .ok (.int .i64 (getI m (x, y))) w := by
  obtain ⟨l, hl⟩ := kAcc_key (x := (x, y)) hx hy
  have := h.lookup accKeyed Tryz.underlying74 kAcc_inj (zeroInt w) hl
  refine this.trans ?_
  unfold getI vInt
  cases mget m (x, y) <;> rfl
theorem look_last {m : List ((Int × Int) × Po)} (h : MapT Tryz.prog 81 kAcc vPo w b m) {x y : Int} (hx : I64 x) (hy : I64 y) {q : Po} (hq : getP m (x, y) = q) :
    (Instr.lookup 75 (.map (some b)) (.agg #[.int .i64 x, .int .i64 y]) false).run Tryz.prog w =
      .ok (.agg #[.int .i64 q.id, .int .i64 q.hour, .int .u8 q.kind, .int .i64 q.party, .int .i64 q.parcel, .int .i64 q.amount, .int .i64 q.reason, .int .i64 q.known]) w := by
  obtain ⟨l, hl⟩ := kAcc_key (x := (x, y)) hx hy
  have := h.lookup accKeyed Tryz.underlying75 kAcc_inj (zeroPo w) hl
  refine this.trans ?_
  subst hq
  unfold getP
  cases mget m (x, y) <;> rfl
theorem look_last_ok {m : List ((Int × Int) × Po)} (h : MapT Tryz.prog 81 kAcc vPo w b m) {x y : Int} (hx : I64 x) (hy : I64 y) {q : Po} (hq : getP m (x, y) = q) :
    (Instr.lookup 75 (.map (some b)) (.agg #[.int .i64 x, .int .i64 y]) true).run Tryz.prog w =
      .ok (.tuple #[.agg #[.int .i64 q.id, .int .i64 q.hour, .int .u8 q.kind, .int .i64 q.party, .int .i64 q.parcel, .int .i64 q.amount, .int .i64 q.reason, .int .i64 q.known], .bool (mget m (x, y)).isSome]) w := by
  obtain ⟨l, hl⟩ := kAcc_key (x := (x, y)) hx hy
  have := h.lookup_ok accKeyed Tryz.underlying75 kAcc_inj (zeroPo w) hl
  refine this.trans ?_
  subst hq
  unfold getP
  cases mget m (x, y) <;> rfl
end

/-- the value with which a refusal gives up -/
def refusalV (e : Int) : Value := .iface 111 (.agg #[.int .i64 e])

set_option maxHeartbeats 400000 in
theorem unless_yes (e : Int) (w : World) : Calls Tryz.prog 68 #[.bool true, .int .i64 e] w fun r w' => r = .returned (.tuple #[]) ∧ w' = w := by
  go_enter Tryz.func68, Tryz.ntmps68
  go_wp2_with fail
  go_end0
  exact ⟨rfl, rfl⟩
set_option maxHeartbeats 400000 in
theorem unless_no (e : Int) (w : World) : Calls Tryz.prog 68 #[.bool false, .int .i64 e] w fun r w' => r = .panicked [{ v := refusalV e, recovered := false }] ∧ w' = w := by
  go_enter Tryz.func68, Tryz.ntmps68
  go_wp2_with fail
  exact ⟨rfl, rfl, rfl⟩
end Go.Proofs.YtjleembfocghlaaGreatDoor
