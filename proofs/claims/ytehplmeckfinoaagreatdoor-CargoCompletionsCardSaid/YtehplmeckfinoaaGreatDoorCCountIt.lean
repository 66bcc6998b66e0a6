/- The maps of package cargo: their keys and values. -/
import Derived.Test.YtehplmeckfinoaaGreatDoorCCheck
import Derived.Test.YtehplmeckfinoaaGreatDoorMaps
import Derived.Test.YtehplmeckfinoaaGreatDoorChecked
import Derived.KernelRfl
import Derived.DeepKeys4
import Derived.Test.YtehplmeckfinoaaGreatDoorCAppend
import Derived.Deep.Cut
import Derived.RangeFuncNested
import Derived.RangeFuncBound
import Derived.RangeFuncCalls
import Derived.RangeFuncLeaves
import Derived.RangeFuncBox
import Derived.Shelf.Abstract
import Derived.Shelf.AbstractIn
import Derived.Shelf.RegionOpen
import Derived.OwnWalkIn
import Derived.TacticsInMore
import Derived.LoopNIn
import Derived.LoopIn
import Derived.Outline
set_option linter.unusedSimpArgs false
set_option linter.unusedVariables false
namespace Go.Proofs.YtehplmeckfinoaaGreatDoor
open Go.RowKit
open Go.Maps (Keyed)
theorem laidOut_ok : laidOutB Tryz.prog = true := by kernel_rfl
theorem intKeyed : Keyed Tryz.prog 3 := Maps.int_keyed Tryz.underlying3
theorem keyKeyed : Keyed Tryz.prog 166 := Keyed.of_law (deep_law_laid laidOut_ok (m := 2) (by omega) (of_decide_eq_true (by kernel_rfl)) (by kernel_rfl) (by kernel_rfl))
def I64 (x : Int) : Prop := -9223372036854775808 ≤ x ∧ x ≤ 9223372036854775807
theorem I64.wf {x : Int} (h : I64 x) : (Lit.int .i64 x).wf = true := WalkArith.wf_i64 h
def kInt (x : Int) : Value := .int .i64 x
def kKey (x : Int × Bool) : Value := .agg #[.int .i64 x.1, .bool x.2]
def vBool (x : Bool) : Value := .bool x
def vPa (x : Pa) : Value := .agg #[.int .i64 x.id, .int .i64 x.known, .int .u8 x.kind, .int .i64 x.loss, .int .i64 x.pack, .int .i64 x.inn, .string ⟨x.mark.toArray⟩, .string ⟨x.goods.toArray⟩, .int .i64 x.low, .int .i64 x.high, .int .i64 x.pieces, .int .i64 x.owner, .int .i64 x.count, .int .i64 x.of]
theorem kInt_inj : ∀ x y, kInt x = kInt y → x = y := fun x y h => by unfold kInt at h; injection h
theorem kKey_inj : ∀ x y, kKey x = kKey y → x = y := fun x y h => by
 obtain ⟨a, b⟩ := x; obtain ⟨c, d⟩ := y
 unfold kKey at h
 simp at h
 simp [h.1, h.2]
theorem kInt_key {x : Int} (h : I64 x) : ∃ l, keyOf Tryz.prog 3 (kInt x) = some l := ⟨_, Maps.keyOf_int_mk Tryz.underlying3 h.wf⟩
theorem zeroBool (w : World) : (zeroValue 4).run Tryz.prog w = .ok (vBool false) w := Tryz.zeroValue4 w
section
variable {w : World} {b : Nat}
def getB (m : List (Int × Bool)) (x : Int) : Bool := (mget m x).getD false
theorem update_void {m : List (Int × Bool)} (h : MapT Tryz.prog 3 kInt vBool w b m) {x : Int} (hx : I64 x) (v : Bool) :
 ∃ w' : World, (Instr.mapUpdate 178 (.map (some b)) (.int .i64 x) (.bool v)).run Tryz.prog w = .ok () w' ∧
  MapT Tryz.prog 3 kInt vBool w' b (mput m x v) ∧ w.grownBy w' (some b) ∧ w'.heap.size = w.heap.size := by
 obtain ⟨l, hl⟩ := kInt_key hx
 obtain ⟨w', h1, h2, h3, h4⟩ := h.update intKeyed Tryz.underlying178 kInt_inj hl v
 exact ⟨w', h1, h2, h3, h4⟩
theorem lookup_void {m : List (Int × Bool)} (h : MapT Tryz.prog 3 kInt vBool w b m) {x : Int} (hx : I64 x) :
 (Instr.lookup 178 (.map (some b)) (.int .i64 x) false).run Tryz.prog w = .ok (.bool (getB m x)) w := by
 obtain ⟨l, hl⟩ := kInt_key hx
 have := h.lookup intKeyed Tryz.underlying178 kInt_inj (zeroBool w) hl
 unfold getB
 rw [show Instr.lookup 178 (.map (some b)) (.int .i64 x) false = Instr.lookup 178 (.map (some b)) (kInt x) false from rfl, this]
 cases mget m x <;> rfl
end
def voidM (known : Int) (m : List (Int × Bool)) (x : Pa) : List (Int × Bool) := if x.kind = 3 ∧ x.known ≤ known then mput m x.of true else m
def voidL (l : List Pa) (known : Int) : List (Int × Bool) := l.foldl (voidM known) []
theorem voidL_snoc {xs : List Pa} {k : Nat} {x : Pa} {known : Int} (hx : xs[k]? = some x) : voidL (xs.take (k + 1)) known = voidM known (voidL (xs.take k) known) x := by
 unfold voidL; rw [take_succ_snoc hx, List.foldl_append]; rfl
theorem getB_mput (m : List (Int × Bool)) (x y : Int) (v : Bool) : getB (mput m x v) y = if x = y then v else getB m y := by
 unfold getB; rw [mget_mput]; split <;> rfl
theorem getB_fold (known : Int) : ∀ (l : List Pa) (m : List (Int × Bool)) (id : Int), getB (l.foldl (voidM known) m) id = (getB m id || voided l known id)
 | [], m, id => by simp [voided]
 | x :: r, m, id => by
   rw [List.foldl_cons, getB_fold known r]
   unfold voidM voided
   rw [List.any_cons]
   by_cases h : x.kind = 3 ∧ x.known ≤ known
   · rw [if_pos h, getB_mput]
     by_cases h2 : x.of = id
     · simp [h2, h.1, h.2]
     · simp [h2]
   · rw [if_neg h]
     have : decide (x.kind = 3 ∧ x.known ≤ known ∧ x.of = id) = false := decide_eq_false (fun e => h ⟨e.1, e.2.1⟩)
     rw [this]; simp
theorem getB_void (l : List Pa) (known id : Int) : getB (voidL l known) id = voided l known id := by
 unfold voidL; rw [getB_fold]; simp [getB, mget_nil]
structure CountAt (w : World) (a : Option Addr) (n cap : Nat) (known : Int) (m : List (Int × Bool)) (B1 B2 B3 bm : Nat) : Prop where
 c1 : w.cell? ⟨B1, 0, none⟩ = some (.slice a n cap)
 c2 : w.cell? ⟨B2, 0, none⟩ = some (.int .i64 known)
 c3 : w.cell? ⟨B3, 0, none⟩ = some (.map (some bm))
 mp : MapT Tryz.prog 3 kInt vBool w bm m
theorem CountAt.below' {w w' : World} {a : Option Addr} {n cap : Nat} {known : Int} {m : List (Int × Bool)} {B1 B2 B3 bm : Nat} (h : CountAt w a n cap known m B1 B2 B3 bm) (hB : Below w.heap.size w w') : CountAt w' a n cap known m B1 B2 B3 bm :=
 ⟨cell_stays h.c1 hB, cell_stays h.c2 hB, cell_stays h.c3 hB, h.mp.below' hB⟩
theorem CountAt.put {w w' : World} {a : Option Addr} {n cap : Nat} {known : Int} {m m' : List (Int × Bool)} {B1 B2 B3 bm : Nat} (h : CountAt w a n cap known m B1 B2 B3 bm) (hg : w.grownBy w' (some bm)) (h1 : B1 ≠ bm) (h2 : B2 ≠ bm) (h3 : B3 ≠ bm)
 (hm : MapT Tryz.prog 3 kInt vBool w' bm m') : CountAt w' a n cap known m' B1 B2 B3 bm :=
 ⟨(hg.cell_far ⟨B1, 0, none⟩ (World.block_lt_of_cell? _ _ h.c1) (fun e => h1 (Option.some.inj e))).trans h.c1, (hg.cell_far ⟨B2, 0, none⟩ (World.block_lt_of_cell? _ _ h.c2) (fun e => h2 (Option.some.inj e))).trans h.c2,
  (hg.cell_far ⟨B3, 0, none⟩ (World.block_lt_of_cell? _ _ h.c3) (fun e => h3 (Option.some.inj e))).trans h.c3, hm⟩
def CountPost (w : World) (a : Option Addr) (n cap : Nat) (xs : List Pa) (known : Int) (e : Ending) (w' : World) : Prop :=
 Below w.heap.size w w' ∧ ∃ B1 B2 B3 bm, e = .returned (.func (.func 138) #[] #[.pointer (some ⟨B1, 0, none⟩), .pointer (some ⟨B2, 0, none⟩), .pointer (some ⟨B3, 0, none⟩)]) ∧
  CountAt w' a n cap known (voidL xs known) B1 B2 B3 bm ∧ w.heap.size ≤ B1 ∧ w.heap.size ≤ B2 ∧ w.heap.size ≤ B3 ∧ w.heap.size ≤ bm
set_option maxRecDepth 100000 in
set_option maxHeartbeats 4000000 in
theorem counting_any (a : Option Addr) (n cap : Nat) (xs : List Pa) (hs : ∀ x ∈ xs, I64 x.of) (known : Int) (w : World) (h : Rd Pa.vals 14 w a n xs) (hn : n ≤ 1000) :
 Calls Tryz.prog 123 #[.slice a n cap, .int .i64 known] w (CountPost w a n cap xs known) := by
 have HR := Hd h
 have Hl := Hd h.len
 have HS := Hd hs
 clear h hs
 have hmm := @run_makeMap Tryz.prog
 go_enter Tryz.func123, Tryz.ntmps123
 go_upto_region 2 with (fail)
 have k1 : (w.alloc (.cells #[.slice a n cap] 22)).cell? ⟨w.heap.size, 0, none⟩ = some (.slice a n cap) := by rw [cell_of_row _ _ _ _ _ (0, 0) (heap_alloc_new w _)]; rfl
 have k2 : ((w.alloc (.cells #[.slice a n cap] 22)).alloc (.cells #[.int .i64 known] 3)).cell? ⟨w.heap.size + 1, 0, none⟩ = some (.int .i64 known) := by
  simp
 have k3 : MapT Tryz.prog 3 kInt vBool (((w.alloc (.cells #[.slice a n cap] 22)).alloc (.cells #[.int .i64 known] 3)).alloc (.map #[] 0)) (w.heap.size + 1 + 1) ([] : List (Int × Bool)) := by
  have := MapT.made (P := Tryz.prog) (K := 3) (ke := kInt) (ve := vBool) ((w.alloc (.cells #[.slice a n cap] 22)).alloc (.cells #[.int .i64 known] 3))
  simpa using this
 have k4 : ((((w.alloc (.cells #[.slice a n cap] 22)).alloc (.cells #[.int .i64 known] 3)).alloc (.map #[] 0)).alloc (.cells #[.map (some (w.heap.size + 1 + 1))] 178)).cell? ⟨w.heap.size + 1 + 1 + 1, 0, none⟩ = some (.map (some (w.heap.size + 1 + 1))) := by
  have := cell_of_row _ _ 0 _ _ (0, 0) (heap_alloc_new (((w.alloc (.cells #[.slice a n cap] 22)).alloc (.cells #[.int .i64 known] 3)).alloc (.map #[] 0)) (.cells #[.map (some (w.heap.size + 1 + 1))] 178))
  simpa using this
 have HC := Hd (show CountAt ((((w.alloc (.cells #[.slice a n cap] 22)).alloc (.cells #[.int .i64 known] 3)).alloc (.map #[] 0)).alloc (.cells #[.map (some (w.heap.size + 1 + 1))] 178)) a n cap known [] w.heap.size (w.heap.size + 1) (w.heap.size + 1 + 1 + 1) (w.heap.size + 1 + 1) from
  ⟨cell_stays k1 (al' (al' (al' (Below.refl _ _) _) _) _), cell_stays k2 (al' (al' (Below.refl _ _) _) _), k4, k3.alloc _⟩)
 have HB0 := Hd (show Below w.heap.size w ((((w.alloc (.cells #[.slice a n cap] 22)).alloc (.cells #[.int .i64 known] 3)).alloc (.map #[] 0)).alloc (.cells #[.map (some (w.heap.size + 1 + 1))] 178)) from al' (al' (al' (al' (Below.refl _ _) _) _) _) _)
 clear k1 k2 k3 k4 hmm
 generalize ((((w.alloc (.cells #[.slice a n cap] 22)).alloc (.cells #[.int .i64 known] 3)).alloc (.map #[] 0)).alloc (.cells #[.map (some (w.heap.size + 1 + 1))] 178)) = w1 at *
 obtain ⟨B1, e1⟩ : ∃ B, w.heap.size = B := ⟨_, rfl⟩
 obtain ⟨B2, e2⟩ : ∃ B, w.heap.size + 1 = B := ⟨_, rfl⟩
 obtain ⟨bm, e3⟩ : ∃ B, w.heap.size + 1 + 1 = B := ⟨_, rfl⟩
 obtain ⟨B3, e4⟩ : ∃ B, w.heap.size + 1 + 1 + 1 = B := ⟨_, rfl⟩
 have HE := Hd (show (w.heap.size ≤ B1 ∧ w.heap.size ≤ B2 ∧ w.heap.size ≤ B3 ∧ w.heap.size ≤ bm) ∧ B1 ≠ bm ∧ B2 ≠ bm ∧ B3 ≠ bm from by omega)
 rw [e4, e3, e2] at HC ⊢
 rw [e1] at HC ⊢
 clear e1 e2 e3 e4
 obtain ⟨c1, c2, c3, mp⟩ := HC.out
 go_wp2_with fail
 go_loopw [11] (fun i wr => ∃ k : Nat, k ≤ n ∧ i = .int .i64 k ∧ CountAt wr a n cap known (voidL (xs.take k) known) B1 B2 B3 bm ∧ Below w.heap.size w wr) (fun i _ => n - (intOf i).toNat)
 case atStart => exact ⟨0, Nat.zero_le _, rfl, HC.out, HB0.out⟩
 case round =>
  clear c1 c2 c3 mp
  obtain ⟨k, hk, rfl, hc, hB⟩ := hrel
  have h1 := HR.out.below' hB
  have HB := Hd hB
  have HC := Hd hc
  clear hB hc
  by_cases hlt : k < n
  · have hlt' : (k : Int) < (n : Int) := by omega
    have h2' := h1.pa hlt
    obtain ⟨b, off, x, rfl, hb, hx, c0, c1, c2, c3, c4, c5, c6, c7, c8, c9, c10, c11, c12, c13⟩ := h2'
    have Hx := Hd hx
    clear hx h1
    go_upto_region 5 with (fail)
    have hBx := al' (Below.refl wr.heap.size wr) (.cells #[.int .i64 x.id, .int .i64 x.known, .int .u8 x.kind, .int .i64 x.loss, .int .i64 x.pack, .int .i64 x.inn, .string ⟨x.mark.toArray⟩, .string ⟨x.goods.toArray⟩, .int .i64 x.low, .int .i64 x.high, .int .i64 x.pieces, .int .i64 x.owner, .int .i64 x.count, .int .i64 x.of] 42)
    have hbx := BoxG.made wr x.vals 42
    simp only [Pa.vals] at hbx
    have HB2 := Hd (HB.out.trans (hBx.mono HB.out.size))
    have HC2 := Hd (HC.out.below' hBx)
    clear c0 c1 c2 c3 c4 c5 c6 c7 c8 c9 c10 c11 c12 c13 hBx
    generalize wr.alloc (.cells #[.int .i64 x.id, .int .i64 x.known, .int .u8 x.kind, .int .i64 x.loss, .int .i64 x.pack, .int .i64 x.inn, .string ⟨x.mark.toArray⟩, .string ⟨x.goods.toArray⟩, .int .i64 x.low, .int .i64 x.high, .int .i64 x.pieces, .int .i64 x.owner, .int .i64 x.count, .int .i64 x.of] 42) = w2 at *
    obtain ⟨B5, hB5⟩ : ∃ B, wr.heap.size = B := ⟨_, rfl⟩
    rw [hB5] at hbx ⊢
    obtain ⟨c0, c1, c2, c3, c4, c5, c6, c7, c8, c9, c10, c11, c12, c13⟩ := BoxG.pa (x := x) hbx
    obtain ⟨q1, q2, q3, mp⟩ := HC2.out
    have HV := Hd (voidL_snoc (known := known) Hx.out)
    clear hbx hB5 HB HC
    by_cases p1 : x.kind = 3
    case neg =>
     have r1 : (x.kind == 3) = false := by simpa using p1
     have HV2 := Hd (show voidL (xs.take (k + 1)) known = voidL (xs.take k) known from by rw [HV.out]; exact if_neg (fun e => p1 e.1))
     clear p1 mp
     go_wp2_with fail
     exact ⟨⟨k + 1, by omega, by go_num, by rw [HV2.out]; exact HC2.out, HB2.out⟩, by simp [intOf]; omega⟩
    have r1 : (x.kind == 3) = true := by simpa using p1
    by_cases p2 : x.known ≤ known
    case neg =>
     have HV2 := Hd (show voidL (xs.take (k + 1)) known = voidL (xs.take k) known from by rw [HV.out]; exact if_neg (fun e => p2 e.2))
     clear p1 mp
     go_wp2_with fail
     exact ⟨⟨k + 1, by omega, by go_num, by rw [HV2.out]; exact HC2.out, HB2.out⟩, by simp [intOf]; omega⟩
    have HV2 := Hd (show voidL (xs.take (k + 1)) known = mput (voidL (xs.take k) known) x.of true from by rw [HV.out]; exact if_pos ⟨p1, p2⟩)
    obtain ⟨w3, hrun, hm3, hg3, hs3⟩ := update_void mp (HS.out x (List.mem_of_getElem? Hx.out)) true
    have HC3 := Hd (HC2.out.put hg3 HE.out.2.1 HE.out.2.2.1 HE.out.2.2.2 hm3)
    have HB3 := Hd (HB2.out.grown hg3 HB2.out.size (fun j e => by cases e; exact HE.out.1.2.2.2))
    clear p1 mp hm3 hg3 hs3
    go_wp2_with fail
    exact ⟨⟨k + 1, by omega, by go_num, by rw [HV2.out]; exact HC3.out, HB3.out⟩, by simp [intOf]; omega⟩
  · have hltg : ¬ (k : Int) < (n : Int) := by omega
    have HW := Hd (show xs.take k = xs from List.take_of_length_le (by rw [Hl.out]; omega))
    rw [HW.out] at HC
    clear hlt h1
    go_wp2_with fail
    go_ret
    exact ⟨HB.out, B1, B2, B3, bm, rfl, HC.out, HE.out.1.1, HE.out.1.2.1, HE.out.1.2.2.1, HE.out.1.2.2.2⟩
open Go.RowKit Go.Shelf
attribute [local go_sem] Oper.semAt_some
structure But (bx n0 : Nat) (w w' : World) : Prop where
 os : w'.os = w.os
 tape : w'.tape = w.tape
 output : w'.output = w.output
 size : w.heap.size ≤ w'.heap.size
 block : ∀ k, k < n0 → k ≠ bx → w'.heap[k]? = w.heap[k]?
theorem But.refl (bx n0 : Nat) (w : World) : But bx n0 w w := ⟨rfl, rfl, rfl, Nat.le_refl _, fun _ _ _ => rfl⟩
theorem But.trans {bx n0 : Nat} {a b c : World} (h : But bx n0 a b) (k : But bx n0 b c) : But bx n0 a c :=
 ⟨k.os.trans h.os, k.tape.trans h.tape, k.output.trans h.output, Nat.le_trans h.size k.size, fun i hi hn => (k.block i hi hn).trans (h.block i hi hn)⟩
theorem Below.but {bx n0 : Nat} {w w' : World} (h : Below n0 w w') : But bx n0 w w' := ⟨h.os, h.tape, h.output, h.size, fun i hi _ => h.block i hi⟩
theorem But.below {bx n0 : Nat} {w w' : World} (h : But bx n0 w w') (hb : bx ≤ n0) : Below bx w w' := ⟨h.os, h.tape, h.output, h.size, fun i hi => h.block i (Nat.lt_of_lt_of_le hi hb) (Nat.ne_of_lt hi)⟩
theorem But.rd {α : Type} {E : α → List Value} {k : Nat} {bx n0 : Nat} {w w' : World} {a : Option Addr} {n : Nat} {xs : List α} (h : But bx n0 w w') (hr : Rd E k w a n xs) (hlow : 0 < n → ∀ p, a = some p → p.block < bx) (hb : bx ≤ n0) : Rd E k w' a n xs := by
 by_cases h0 : 0 < n
 · exact hr.below (h.below hb) (hlow h0)
 · exact ⟨hr.len, hr.cap, fun i hi => absurd hi (by omega)⟩
theorem But.cell {bx n0 B o : Nat} {w w' : World} (h : But bx n0 w w') (hB : B < n0) (hne : B ≠ bx) : w'.cell? ⟨B, o, none⟩ = w.cell? ⟨B, o, none⟩ := by
 unfold World.cell?
 rw [h.block B hB hne]
theorem But.grown {bx n0 : Nat} {w w' w'' : World} {row : Option Nat} (h : But bx n0 w w') (hg : w'.grownBy w'' row) (hn : n0 ≤ w.heap.size) (hr : ∀ k, row = some k → k = bx ∨ n0 ≤ k) : But bx n0 w w'' :=
 ⟨hg.os.trans h.os, hg.tape.trans h.tape, hg.output.trans h.output, Nat.le_trans h.size hg.size, fun i hi hn' => by
  refine (hg.block i (Nat.lt_of_lt_of_le hi (Nat.le_trans hn h.size)) (fun e => ?_)).trans (h.block i hi hn')
  rcases hr i e.symm with e' | e'
  · exact hn' e'
  · omega⟩
theorem but_below (n0 : Nat) : But n0 n0 = Below n0 := by
 funext w w'
 exact propext ⟨fun h => ⟨h.os, h.tape, h.output, h.size, fun i hi => h.block i hi (Nat.ne_of_lt hi)⟩, fun h => Below.but h⟩
abbrev PaOf (xs : List Pa) := { p : Pa // p ∈ xs }
theorem map_snoc_pa {xs : List Pa} (pre : List (PaOf xs)) (x : Pa) (hx : x ∈ xs) : (pre ++ [(⟨x, hx⟩ : PaOf xs)]).map (·.1) = pre.map (·.1) ++ [x] := by simp
theorem grown_of_below {W W' : World} (h : Below W.heap.size W W') : W.grownBy W' none := ⟨h.os, h.tape, h.output, h.size, fun k hk _ => h.block k hk⟩
theorem abides_below {β : Type} {B : Nat} {J : β → World → Prop} (hJ : AbidesFrom B J) {s : β} {W W' : World} (h : J s W) (hB : Below W.heap.size W W') : J s W' :=
 hJ s W W' none h (grown_of_below hB) (fun r e => by cases e)
def countsB (xs : List Pa) (known : Int) (x : Pa) : Bool := decide (x.kind ≠ 3 ∧ x.known ≤ known) && !voided xs known x.id
theorem countL_filter (xs : List Pa) (known : Int) : countL xs known = xs.filter (countsB xs known) := rfl
set_option maxRecDepth 100000 in
set_option maxHeartbeats 4000000 in
theorem counting1_in (bx : Nat) (m : Nat) (hm : 1 ≤ m) (l B1 B2 B3 bm : Nat) (a : Option Addr) (n cap : Nat) (xs : List Pa) (hs : ∀ x ∈ xs, I64 x.id) (known : Int) (w0 : World)
 (J Jx : List (PaOf xs) → World → Prop) (W : World) (hJ : AbidesFrom W.heap.size J) (hJx : AbidesFrom W.heap.size Jx)
 (hY : ∀ pre x W, J pre W → pre.length < n → YieldAt Fence.wide (m - 1) Tryz.prog l #[vPa x.1] W fun e W' =>
   (e = .returned (.bool true) ∧ J (pre ++ [x]) W' ∧ But bx w0.heap.size W W') ∨ (e = .returned (.bool false) ∧ Jx (pre ++ [x]) W'))
 (hW : Below w0.heap.size w0 W) (hc : CountAt w0 a n cap known (voidL xs known) B1 B2 B3 bm)
 (h : Rd Pa.vals 14 w0 a n xs) (hlow : 0 < n → ∀ p, a = some p → p.block < bx) (hbx : bx ≤ w0.heap.size) (h1x : B1 ≠ bx) (h2x : B2 ≠ bx) (h3x : B3 ≠ bx) (hmx : bm ≠ bx) (h0 : J [] W) :
 CallsIn Fence.wide m Tryz.prog 138 #[.func (.yield l) #[] #[], .pointer (some ⟨B1, 0, none⟩), .pointer (some ⟨B2, 0, none⟩), .pointer (some ⟨B3, 0, none⟩)] W fun e W' => (∃ v, e = .returned v) ∧
  ((∃ ys : List (PaOf xs), ys.map (·.1) = countL xs known ∧ J ys W') ∨ (∃ pre : List (PaOf xs), pre.map (·.1) <+: countL xs known ∧ Jx pre W')) := by
 have hmm := h.cap
 unfold maxLen at hmm
 have Hl := Hd h.len
 have c1 : W.cell? ⟨B1, 0, none⟩ = some (.slice a n cap) := (hW.cell (p := ⟨B1, 0, none⟩) (World.block_lt_of_cell? _ _ hc.c1)).trans hc.c1
 have HH := Hd h
 have HC := Hd hc
 have HB0 := Hd (Below.but (bx := bx) hW)
 clear hW h hc
 refine callsIn_of_wp Tryz.func138 rfl trivial ?_ rfl
 simp only [Tryz.ntmps138, List.size_toArray, List.length_cons, List.length_nil, Nat.reduceAdd, Nat.reduceSub, Array.replicate_succ, Array.replicate_zero, List.push_toArray, List.append_toArray, List.nil_append, List.cons_append]
 gi_wp2
 gi_loopw [9] (fun i wr => ∃ (k : Nat) (pre : List (PaOf xs)), k ≤ n ∧ i = .int .i64 k ∧ pre.map (·.1) = (xs.take k).filter (countsB xs known) ∧ But bx w0.heap.size w0 wr ∧ J pre wr) (fun i _ => n - (intOf i).toNat)
 case atStart => exact ⟨0, [], Nat.zero_le _, rfl, rfl, HB0.out, h0⟩
 case round =>
  obtain ⟨k, pre, hk, rfl, hpre, hB, hJs⟩ := hrel
  have h1 := hB.rd HH.out hlow hbx
  have d2 : wr.cell? ⟨B2, 0, none⟩ = some (.int .i64 known) := (hB.cell (World.block_lt_of_cell? _ _ HC.out.c2) h2x).trans HC.out.c2
  have d3 : wr.cell? ⟨B3, 0, none⟩ = some (.map (some bm)) := (hB.cell (World.block_lt_of_cell? _ _ HC.out.c3) h3x).trans HC.out.c3
  have hmp := HC.out.mp.same (hB.block bm HC.out.mp.lt hmx)
  have e2 := World.block_lt_of_cell? _ _ d2
  have e3 := World.block_lt_of_cell? _ _ d3
  have Hpre := Hd hpre
  have HB := Hd hB
  clear hpre hB c1
  by_cases hlt : k < n
  · have hlt' : (k : Int) < (n : Int) := by omega
    obtain ⟨b, off, x, rfl, hb, hx, x0, x1, x2, x3, x4, x5, x6, x7, x8, x9, x10, x11, x12, x13⟩ := h1.pa hlt
    have hmem : x ∈ xs := List.mem_of_getElem? hx
    have Hsn := Hd (take_succ_snoc hx)
    have hBa := al' (Below.refl wr.heap.size wr) (.cells #[.int .i64 x.id, .int .i64 x.known, .int .u8 x.kind, .int .i64 x.loss, .int .i64 x.pack, .int .i64 x.inn, .string ⟨x.mark.toArray⟩, .string ⟨x.goods.toArray⟩, .int .i64 x.low, .int .i64 x.high, .int .i64 x.pieces, .int .i64 x.owner, .int .i64 x.count, .int .i64 x.of] 42)
    have hJa := abides_below hJ hJs hBa
    have hbx := BoxG.made wr x.vals 42
    simp only [Pa.vals] at hbx
    have hpl : pre.length ≤ k := by
     have h1 : (pre.map (·.1)).length = pre.length := List.length_map _
     rw [Hpre.out] at h1
     have h2 := List.length_filter_le (countsB xs known) (xs.take k)
     rw [List.length_take] at h2
     omega
    have hlk := lookup_void (hmp.below' hBa) (hs x hmem)
    rw [getB_void] at hlk
    have HBa := Hd hBa
    have HJa := Hd hJa
    have HJs := Hd hJs
    have Hmap := Hd (map_snoc_pa pre x hmem)
    clear hx h1 hmp hBa hJa hJs
    by_cases p1 : x.kind = 3
    · have q1 : (x.kind != 3) = false := by simp [p1]
      have Hfx := Hd (show (xs.take (k + 1)).filter (countsB xs known) = (xs.take k).filter (countsB xs known) from by rw [Hsn.out]; simp [countsB, p1])
      clear p1 hlk
      gi_wp2
      refine ⟨fun _ h => (by cases h), ?_⟩
      gi_wp2
      go_roundw
      case rel => exact ⟨k + 1, pre, by omega, by go_num, by rw [Hpre.out, Hfx.out], HB.out.trans (Below.but (HBa.out.mono HB.out.size)), HJa.out⟩
      case measure => simp [intOf]; omega
    have q1 : (x.kind != 3) = true := by simp [p1]
    by_cases p2 : x.known ≤ known
    case neg =>
     have Hfx := Hd (show (xs.take (k + 1)).filter (countsB xs known) = (xs.take k).filter (countsB xs known) from by rw [Hsn.out]; simp [countsB, p2])
     clear p1 hlk
     gi_wp2
     refine ⟨fun _ h => (by cases h), ?_⟩
     gi_wp2
     go_roundw
     case rel => exact ⟨k + 1, pre, by omega, by go_num, by rw [Hpre.out, Hfx.out], HB.out.trans (Below.but (HBa.out.mono HB.out.size)), HJa.out⟩
     case measure => simp [intOf]; omega
    cases hv : voided xs known x.id with
    | true =>
      rw [hv] at hlk
      have Hfx := Hd (show (xs.take (k + 1)).filter (countsB xs known) = (xs.take k).filter (countsB xs known) from by rw [Hsn.out]; simp [countsB, hv])
      clear p1 hv
      gi_wp2
      refine ⟨fun _ h => (by cases h), ?_⟩
      gi_wp2
      go_roundw
      case rel => exact ⟨k + 1, pre, by omega, by go_num, by rw [Hpre.out, Hfx.out], HB.out.trans (Below.but (HBa.out.mono HB.out.size)), HJa.out⟩
      case measure => simp [intOf]; omega
    | false =>
      rw [hv] at hlk
      have Hfx := Hd (show (xs.take (k + 1)).filter (countsB xs known) = (xs.take k).filter (countsB xs known) ++ [x] from by rw [Hsn.out]; simp [countsB, hv, p1, p2])
      obtain ⟨r0, r1, r2, r3, r4, r5, r6, r7, r8, r9, r10, r11, r12, r13⟩ := BoxG.pa (x := x) hbx
      obtain ⟨fn, tmps, assign, body, hy, hR⟩ := hY pre ⟨x, hmem⟩ _ HJa.out (by omega)
      dsimp only [vPa] at hy
      have HR := Hd hR
      clear p1 hv hR
      gi_wp2
      refine HR.out.mono ?_
      have HB2 := Hd (HB.out.trans (Below.but (HBa.out.mono HB.out.size)))
      rintro e W3 (⟨rfl, hJ3, hk3⟩ | ⟨rfl, hJx3⟩)
      · have HB3 := Hd (HB2.out.trans hk3)
        clear hk3
        gi_wp2
        go_roundw
        case rel => exact ⟨k + 1, _, by omega, by go_num, by rw [Hmap.out, Hpre.out, Hfx.out], HB3.out, hJ3⟩
        case measure => simp [intOf]; omega
      · gi_wp2
        refine bodyPost_ret (results_none rfl _ _ _) rfl ?_
        refine ⟨⟨_, rfl⟩, .inr ⟨_, ?_, hJx3⟩⟩
        rw [Hmap.out, Hpre.out, ← Hfx.out, countL_filter]
        exact (List.take_prefix _ _).filter _
  · gi_wp2
    go_end0
    refine ⟨⟨_, rfl⟩, .inl ⟨pre, ?_, hJs⟩⟩
    show pre.map (·.1) = countL xs known
    rw [Hpre.out, List.take_of_length_le (by rw [Hl.out]; omega), countL_filter]
theorem counting_stops (bx : Nat) (m : Nat) (hm : 1 ≤ m) (B1 B2 B3 bm : Nat) (a : Option Addr) (n cap : Nat) (xs : List Pa) (hs : ∀ x ∈ xs, I64 x.id) (known : Int) (w0 : World)
 (hc : CountAt w0 a n cap known (voidL xs known) B1 B2 B3 bm) (h : Rd Pa.vals 14 w0 a n xs) (hlow : 0 < n → ∀ p, a = some p → p.block < bx) (hbx : bx ≤ w0.heap.size) (h1x : B1 ≠ bx) (h2x : B2 ≠ bx) (h3x : B3 ≠ bx) (hmx : bm ≠ bx) :
 SeqStopsK Fence.wide m Tryz.prog 138 #[.pointer (some ⟨B1, 0, none⟩), .pointer (some ⟨B2, 0, none⟩), .pointer (some ⟨B3, 0, none⟩)] (fun x : PaOf xs => #[vPa x.1]) (But bx w0.heap.size)
  (fun ys => ys.map (·.1) = countL xs known) (fun pre => pre.map (·.1) <+: countL xs known) n w0 := fun l J Jx W hW hJ hJx hY h0 =>
 counting1_in bx m hm l B1 B2 B3 bm a n cap xs hs known w0 J Jx W hJ hJx hY hW hc h hlow hbx h1x h2x h3x hmx h0
end Go.Proofs.YtehplmeckfinoaaGreatDoor
