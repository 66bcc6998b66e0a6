/- The walks of having, follows, Check. -/
import Derived.Test.YtehplmeckfinoaaGreatDoorCFormed
import Derived.Shelf.Abstract
set_option linter.unusedSimpArgs false
set_option linter.unusedVariables false
namespace Go.Proofs.YtehplmeckfinoaaGreatDoor
open Go.RowKit
theorem Rd.pa {w : World} {a : Option Addr} {n : Nat} {xs : List Pa} (h : Rd Pa.vals 14 w a n xs) {i : Nat} (hi : i < n) : ∃ b off x, a = some ⟨b, off, none⟩ ∧ b < w.heap.size ∧ xs[i]? = some x ∧
 w.cell? ⟨b, off + i * 14, none⟩ = some (.int .i64 x.id) ∧ w.cell? ⟨b, off + i * 14 + 1, none⟩ = some (.int .i64 x.known) ∧ w.cell? ⟨b, off + i * 14 + 2, none⟩ = some (.int .u8 x.kind) ∧ w.cell? ⟨b, off + i * 14 + 3, none⟩ = some (.int .i64 x.loss) ∧ w.cell? ⟨b, off + i * 14 + 4, none⟩ = some (.int .i64 x.pack) ∧ w.cell? ⟨b, off + i * 14 + 5, none⟩ = some (.int .i64 x.inn) ∧ w.cell? ⟨b, off + i * 14 + 6, none⟩ = some (.string ⟨x.mark.toArray⟩) ∧ w.cell? ⟨b, off + i * 14 + 7, none⟩ = some (.string ⟨x.goods.toArray⟩) ∧ w.cell? ⟨b, off + i * 14 + 8, none⟩ = some (.int .i64 x.low) ∧ w.cell? ⟨b, off + i * 14 + 9, none⟩ = some (.int .i64 x.high) ∧ w.cell? ⟨b, off + i * 14 + 10, none⟩ = some (.int .i64 x.pieces) ∧ w.cell? ⟨b, off + i * 14 + 11, none⟩ = some (.int .i64 x.owner) ∧ w.cell? ⟨b, off + i * 14 + 12, none⟩ = some (.int .i64 x.count) ∧ w.cell? ⟨b, off + i * 14 + 13, none⟩ = some (.int .i64 x.of) := by
 obtain ⟨b, off, p, ha, hb, hx, hc⟩ := h.read i hi
 exact ⟨b, off, p, ha, hb, hx, hc 0 (by omega), hc 1 (by omega), hc 2 (by omega), hc 3 (by omega), hc 4 (by omega), hc 5 (by omega), hc 6 (by omega), hc 7 (by omega), hc 8 (by omega), hc 9 (by omega), hc 10 (by omega), hc 11 (by omega), hc 12 (by omega), hc 13 (by omega)⟩
def idxP {α : Type} (p : α → Bool) (xs : List α) : Int := match xs.findIdx? p with | some i => (i : Int) | none => -1
theorem idxP_none {α : Type} {p : α → Bool} {xs : List α} (h : xs.any p = false) : idxP p xs = -1 := by
 unfold idxP
 rw [List.findIdx?_eq_none_iff.2 (fun x hx => by
  rw [Bool.eq_false_iff]; intro e
  have := List.any_eq_true.2 ⟨x, hx, e⟩
  rw [h] at this; cases this)]
theorem idxP_at {α : Type} {p : α → Bool} {xs : List α} {k : Nat} {x : α} (hx : xs[k]? = some x) (hno : (xs.take k).any p = false) (hp : p x = true) : idxP p xs = (k : Int) := by
 obtain ⟨hk, rfl⟩ := List.getElem?_eq_some_iff.1 hx
 unfold idxP
 rw [List.findIdx?_eq_some_iff_getElem.2 ⟨hk, hp, fun j hj => by
  intro e
  have h1 : xs[j]'(by omega) ∈ xs.take k := by
   rw [List.mem_take_iff_getElem]; exact ⟨j, by omega, rfl⟩
  have := List.any_eq_true.2 ⟨_, h1, e⟩
  rw [hno] at this; cases this⟩]
theorem idxP_neg {α : Type} (p : α → Bool) (xs : List α) : decide (0 ≤ idxP p xs) = xs.any p := by
 cases h : xs.any p with
 | false => rw [idxP_none h]; rfl
 | true =>
   unfold idxP
   cases e : xs.findIdx? p with
   | none =>
     rw [List.findIdx?_eq_none_iff] at e
     obtain ⟨x, hx, hp⟩ := List.any_eq_true.1 h
     have := e x hx; rw [hp] at this; cases this
   | some i => simp
theorem any_snoc {α : Type} {p : α → Bool} {xs : List α} {k : Nat} {x : α} (hx : xs[k]? = some x) : (xs.take (k + 1)).any p = ((xs.take k).any p || p x) := by
 rw [take_succ_snoc hx, List.any_append]; simp
set_option maxRecDepth 100000 in
set_option maxHeartbeats 4000000 in
theorem having_any (g : Nat) (cb : Array Value) (eg : ∀ args w, (callFunc g args).run Tryz.prog w = .ok (.enter g args) w) (p : Pa → Bool) (a : Option Addr) (n cap : Nat) (xs : List Pa) (w : World) (h : Rd Pa.vals 14 w a n xs)
 (hp : ∀ W x, x ∈ xs → Below w.heap.size w W → Calls Tryz.prog g (#[.agg #[.int .i64 x.id, .int .i64 x.known, .int .u8 x.kind, .int .i64 x.loss, .int .i64 x.pack, .int .i64 x.inn, .string ⟨x.mark.toArray⟩, .string ⟨x.goods.toArray⟩, .int .i64 x.low, .int .i64 x.high, .int .i64 x.pieces, .int .i64 x.owner, .int .i64 x.count, .int .i64 x.of]] ++ cb) W fun e W' => e = .returned (.bool (p x)) ∧ Below W.heap.size W W') :
 Calls Tryz.prog 79 #[.slice a n cap, .func (.func g) #[] cb] w fun e w' => e = .returned (.int .i64 (idxP p xs)) ∧ Below w.heap.size w w' := by
 have Hl := Hd h.len
 have hm := h.cap
 unfold maxLen at hm
 have HP := Hd hp
 have HR := Hd h
 clear hp h
 go_enter Tryz.func79, Tryz.ntmps79
 go_wp2_with fail
 go_loopw [9] (fun i wr => ∃ k : Nat, k ≤ n ∧ i = .int .i64 k ∧ (xs.take k).any p = false ∧ Below w.heap.size w wr) (fun i _ => n - (intOf i).toNat)
 case atStart => exact ⟨0, Nat.zero_le _, rfl, rfl, Below.refl _ _⟩
 case round =>
  obtain ⟨k, hk, rfl, hno, hB⟩ := hrel
  have h1 := HR.out.below' hB
  have HB := Hd hB
  have Hno := Hd hno
  clear hno hB
  by_cases hlt : k < n
  · have hlt' : (k : Int) < (n : Int) := by omega
    obtain ⟨b, off, x, rfl, hb, hx, c0, c1, c2, c3, c4, c5, c6, c7, c8, c9, c10, c11, c12, c13⟩ := h1.pa hlt
    have Hx := Hd hx
    go_upto_region 4 with (fail)
    have HB2 := Hd (HB.out.alloc HB.out.size (.cells #[.int .i64 x.id, .int .i64 x.known, .int .u8 x.kind, .int .i64 x.loss, .int .i64 x.pack, .int .i64 x.inn, .string ⟨x.mark.toArray⟩, .string ⟨x.goods.toArray⟩, .int .i64 x.low, .int .i64 x.high, .int .i64 x.pieces, .int .i64 x.owner, .int .i64 x.count, .int .i64 x.of] 42))
    have hbx := BoxG.made wr x.vals 42
    simp only [Pa.vals] at hbx
    clear c0 c1 c2 c3 c4 c5 c6 c7 c8 c9 c10 c11 c12 c13
    generalize wr.alloc (.cells #[.int .i64 x.id, .int .i64 x.known, .int .u8 x.kind, .int .i64 x.loss, .int .i64 x.pack, .int .i64 x.inn, .string ⟨x.mark.toArray⟩, .string ⟨x.goods.toArray⟩, .int .i64 x.low, .int .i64 x.high, .int .i64 x.pieces, .int .i64 x.owner, .int .i64 x.count, .int .i64 x.of] 42) = w2 at *
    obtain ⟨B2, hB2⟩ : ∃ B, wr.heap.size = B := ⟨_, rfl⟩
    rw [hB2] at hbx ⊢
    obtain ⟨c0, c1, c2, c3, c4, c5, c6, c7, c8, c9, c10, c11, c12, c13⟩ := BoxG.pa (x := x) hbx
    clear hbx hB2 h1
    have hcall := HP.out w2 x (List.mem_of_getElem? hx) HB2.out
    clear hx
    cases hpx : p x with
    | true =>
      rw [hpx] at hcall
      have HCL := Hd hcall
      clear hcall
      have HE := Hd (idxP_at Hx.out Hno.out hpx)
      clear hpx
      go_wp2_with (go_at_fn g; refine HCL.out.mono ?_; rintro e w' ⟨rfl, hB2⟩)
      go_ret
      exact ⟨ret_int HE.out.symm, below_then HB2.out hB2 (Nat.le_refl _)⟩
    | false =>
      rw [hpx] at hcall
      have HCL := Hd hcall
      clear hcall
      have HE := Hd (show (xs.take (k + 1)).any p = false by rw [any_snoc Hx.out, Hno.out, hpx]; rfl)
      clear hpx
      go_wp2_with (go_at_fn g; refine HCL.out.mono ?_; rintro e w' ⟨rfl, hB2⟩)
      exact ⟨⟨k + 1, by omega, by go_num, HE.out, below_then HB2.out hB2 (Nat.le_refl _)⟩, by simp [intOf]; omega⟩
  · have hlt' : ¬ (k : Int) < (n : Int) := by omega
    go_wp2_with fail
    go_ret
    exact ⟨ret_int (by rw [idxP_none (by have := Hno.out; rwa [List.take_of_length_le (by rw [Hl.out]; omega)] at this)]), HB.out⟩
set_option maxRecDepth 100000 in
theorem follows1_any (x y : Pa) (B : Nat) (w : World) (h : BoxG w B x.vals) :
 Calls Tryz.prog 96 #[.agg #[.int .i64 y.id, .int .i64 y.known, .int .u8 y.kind, .int .i64 y.loss, .int .i64 y.pack, .int .i64 y.inn, .string ⟨y.mark.toArray⟩, .string ⟨y.goods.toArray⟩, .int .i64 y.low, .int .i64 y.high, .int .i64 y.pieces, .int .i64 y.owner, .int .i64 y.count, .int .i64 y.of], .pointer (some ⟨B, 0, none⟩)] w fun e w' => e = .returned (.bool (decide (y.id = x.id))) ∧ Below w.heap.size w w' := by
 have HB := Hd (al' (Below.refl w.heap.size w) (.cells #[.int .i64 y.id, .int .i64 y.known, .int .u8 y.kind, .int .i64 y.loss, .int .i64 y.pack, .int .i64 y.inn, .string ⟨y.mark.toArray⟩, .string ⟨y.goods.toArray⟩, .int .i64 y.low, .int .i64 y.high, .int .i64 y.pieces, .int .i64 y.owner, .int .i64 y.count, .int .i64 y.of] 42))
 have hlt := h.1
 obtain ⟨c0, c1, c2, c3, c4, c5, c6, c7, c8, c9, c10, c11, c12, c13⟩ := h.pa
 clear h
 by_cases h0 : y.id = x.id
 case neg =>
  have q0 : (y.id == x.id) = false := by simpa using h0
  have e0 : decide (y.id = x.id) = false := by simp [h0]
  rw [e0]
  clear h0 e0
  go_enter Tryz.func96, Tryz.ntmps96
  go_wp2_with fail
  go_ret
  exact ⟨rfl, HB.out⟩
 have q0 : (y.id == x.id) = true := by simpa using h0
 have e0 : decide (y.id = x.id) = true := by simp [h0]
 rw [e0]
 clear h0 e0
 go_enter Tryz.func96, Tryz.ntmps96
 go_wp2_with fail
 go_ret
 exact ⟨rfl, HB.out⟩
set_option maxRecDepth 100000 in
theorem follows2_any (x y : Pa) (B : Nat) (w : World) (h : BoxG w B x.vals) :
 Calls Tryz.prog 97 #[.agg #[.int .i64 y.id, .int .i64 y.known, .int .u8 y.kind, .int .i64 y.loss, .int .i64 y.pack, .int .i64 y.inn, .string ⟨y.mark.toArray⟩, .string ⟨y.goods.toArray⟩, .int .i64 y.low, .int .i64 y.high, .int .i64 y.pieces, .int .i64 y.owner, .int .i64 y.count, .int .i64 y.of], .pointer (some ⟨B, 0, none⟩)] w fun e w' => e = .returned (.bool (decide (y.id = x.of ∧ y.kind ≠ 3))) ∧ Below w.heap.size w w' := by
 have HB := Hd (al' (Below.refl w.heap.size w) (.cells #[.int .i64 y.id, .int .i64 y.known, .int .u8 y.kind, .int .i64 y.loss, .int .i64 y.pack, .int .i64 y.inn, .string ⟨y.mark.toArray⟩, .string ⟨y.goods.toArray⟩, .int .i64 y.low, .int .i64 y.high, .int .i64 y.pieces, .int .i64 y.owner, .int .i64 y.count, .int .i64 y.of] 42))
 have hlt := h.1
 obtain ⟨c0, c1, c2, c3, c4, c5, c6, c7, c8, c9, c10, c11, c12, c13⟩ := h.pa
 clear h
 by_cases h0 : y.id = x.of
 case neg =>
  have q0 : (y.id == x.of) = false := by simpa using h0
  have e0 : decide (y.id = x.of ∧ y.kind ≠ 3) = false := by simp [h0]
  rw [e0]
  clear h0 e0
  go_enter Tryz.func97, Tryz.ntmps97
  go_wp2_with fail
  go_ret
  exact ⟨rfl, HB.out⟩
 have q0 : (y.id == x.of) = true := by simpa using h0
 by_cases h1 : y.kind ≠ 3
 case neg =>
  have q1 : (y.kind != 3) = false := by simpa using h1
  have e0 : decide (y.id = x.of ∧ y.kind ≠ 3) = false := by simp [h0, h1]
  rw [e0]
  clear h0 h1 e0
  go_enter Tryz.func97, Tryz.ntmps97
  go_wp2_with fail
  go_ret
  exact ⟨rfl, HB.out⟩
 have q1 : (y.kind != 3) = true := by simpa using h1
 have e0 : decide (y.id = x.of ∧ y.kind ≠ 3) = true := by simp [h0, h1]
 rw [e0]
 clear h0 h1 e0
 go_enter Tryz.func97, Tryz.ntmps97
 go_wp2_with fail
 go_ret
 exact ⟨rfl, HB.out⟩
set_option maxRecDepth 100000 in
theorem follows3_any (x y : Pa) (B : Nat) (w : World) (h : BoxG w B x.vals) :
 Calls Tryz.prog 98 #[.agg #[.int .i64 y.id, .int .i64 y.known, .int .u8 y.kind, .int .i64 y.loss, .int .i64 y.pack, .int .i64 y.inn, .string ⟨y.mark.toArray⟩, .string ⟨y.goods.toArray⟩, .int .i64 y.low, .int .i64 y.high, .int .i64 y.pieces, .int .i64 y.owner, .int .i64 y.count, .int .i64 y.of], .pointer (some ⟨B, 0, none⟩)] w fun e w' => e = .returned (.bool (decide (y.kind = 3 ∧ y.of = x.of))) ∧ Below w.heap.size w w' := by
 have HB := Hd (al' (Below.refl w.heap.size w) (.cells #[.int .i64 y.id, .int .i64 y.known, .int .u8 y.kind, .int .i64 y.loss, .int .i64 y.pack, .int .i64 y.inn, .string ⟨y.mark.toArray⟩, .string ⟨y.goods.toArray⟩, .int .i64 y.low, .int .i64 y.high, .int .i64 y.pieces, .int .i64 y.owner, .int .i64 y.count, .int .i64 y.of] 42))
 have hlt := h.1
 obtain ⟨c0, c1, c2, c3, c4, c5, c6, c7, c8, c9, c10, c11, c12, c13⟩ := h.pa
 clear h
 by_cases h0 : y.kind = 3
 case neg =>
  have q0 : (y.kind == 3) = false := by simpa using h0
  have e0 : decide (y.kind = 3 ∧ y.of = x.of) = false := by simp [h0]
  rw [e0]
  clear h0 e0
  go_enter Tryz.func98, Tryz.ntmps98
  go_wp2_with fail
  go_ret
  exact ⟨rfl, HB.out⟩
 have q0 : (y.kind == 3) = true := by simpa using h0
 by_cases h1 : y.of = x.of
 case neg =>
  have q1 : (y.of == x.of) = false := by simpa using h1
  have e0 : decide (y.kind = 3 ∧ y.of = x.of) = false := by simp [h0, h1]
  rw [e0]
  clear h0 h1 e0
  go_enter Tryz.func98, Tryz.ntmps98
  go_wp2_with fail
  go_ret
  exact ⟨rfl, HB.out⟩
 have q1 : (y.of == x.of) = true := by simpa using h1
 have e0 : decide (y.kind = 3 ∧ y.of = x.of) = true := by simp [h0, h1]
 rw [e0]
 clear h0 h1 e0
 go_enter Tryz.func98, Tryz.ntmps98
 go_wp2_with fail
 go_ret
 exact ⟨rfl, HB.out⟩
open Go.RowKit Go.Shelf
theorem idxP_ge {p : Pa → Bool} {xs : List Pa} (h : xs.any p = true) : 0 ≤ idxP p xs := by
 have := idxP_neg p xs
 rw [h] at this; simpa using this
theorem idxP_lt {p : Pa → Bool} {xs : List Pa} (h : xs.any p = false) : idxP p xs < 0 := by rw [idxP_none h]; decide
theorem last_at {xs : List Pa} {n : Nat} (hn : xs.length = n) (h0 : 0 < n) {x : Pa} (hx : xs[n - 1]? = some x) : xs.getLast? = some x := by
 rw [List.getLast?_eq_getElem?, hn, hx]
set_option maxRecDepth 100000 in
set_option maxHeartbeats 4000000 in
theorem follows_any (a : Option Addr) (n cap : Nat) (xs : List Pa) (x : Pa) (hx : x.Short) (w : World) (h : Rd Pa.vals 14 w a n xs) :
 Calls Tryz.prog 54 #[.slice a n cap, .agg #[.int .i64 x.id, .int .i64 x.known, .int .u8 x.kind, .int .i64 x.loss, .int .i64 x.pack, .int .i64 x.inn, .string ⟨x.mark.toArray⟩, .string ⟨x.goods.toArray⟩, .int .i64 x.low, .int .i64 x.high, .int .i64 x.pieces, .int .i64 x.owner, .int .i64 x.count, .int .i64 x.of]] w fun e w' => e = .returned (.int .i64 (followsL xs x)) ∧ Below w.heap.size w w' := by
 have hB := al' (Below.refl w.heap.size w) (.cells #[.int .i64 x.id, .int .i64 x.known, .int .u8 x.kind, .int .i64 x.loss, .int .i64 x.pack, .int .i64 x.inn, .string ⟨x.mark.toArray⟩, .string ⟨x.goods.toArray⟩, .int .i64 x.low, .int .i64 x.high, .int .i64 x.pieces, .int .i64 x.owner, .int .i64 x.count, .int .i64 x.of] 42)
 have hb := BoxG.made w x.vals 42
 simp only [Pa.vals] at hb
 have HR := Hd (h.below' hB)
 have HB0 := Hd hB
 have HX0 := Hd (show BoxG (w.alloc (.cells #[.int .i64 x.id, .int .i64 x.known, .int .u8 x.kind, .int .i64 x.loss, .int .i64 x.pack, .int .i64 x.inn, .string ⟨x.mark.toArray⟩, .string ⟨x.goods.toArray⟩, .int .i64 x.low, .int .i64 x.high, .int .i64 x.pieces, .int .i64 x.owner, .int .i64 x.count, .int .i64 x.of] 42)) w.heap.size x.vals from hb)
 have HS := Hd hx
 have Hl := Hd h.len
 have hm := h.cap
 unfold maxLen at hm
 clear hB hb h hx
 go_enter Tryz.func54, Tryz.ntmps54
 by_cases h3 : 300 ≤ n
 · have h3' : (300 : Int) ≤ (n : Int) := by omega
   have HE := Hd (show followsL xs x = 2 from by unfold followsL; rw [if_pos (by rw [Hl.out]; exact h3)])
   go_wp2_with fail
   go_ret
   exact ⟨by rw [HE.out] <;> rfl, HB0.out⟩
 have h3' : ¬ (300 : Int) ≤ (n : Int) := by omega
 have HL3 := Hd (show ¬ 300 ≤ xs.length from by rw [Hl.out]; exact h3)
 clear h3
 go_upto_region 3 with (fail)
 generalize w.alloc (.cells #[.int .i64 x.id, .int .i64 x.known, .int .u8 x.kind, .int .i64 x.loss, .int .i64 x.pack, .int .i64 x.inn, .string ⟨x.mark.toArray⟩, .string ⟨x.goods.toArray⟩, .int .i64 x.low, .int .i64 x.high, .int .i64 x.pieces, .int .i64 x.owner, .int .i64 x.count, .int .i64 x.of] 42) = w1 at *
 obtain ⟨c0, c1, c2, c3, c4, c5, c6, c7, c8, c9, c10, c11, c12, c13⟩ := HX0.out.pa
 go_wp2_with fail
 refine (formed_any x HS.out _).mono ?_
 rintro e w2 ⟨rfl, hB⟩
 have HX2 := Hd (HX0.out.below' hB)
 have HB2 := Hd (HB0.out.trans (hB.mono HB0.out.size))
 have HR2 := Hd (HR.out.below' hB)
 clear hB HX0 HB0 HR c0 c1 c2 c3 c4 c5 c6 c7 c8 c9 c10 c11 c12 c13
 by_cases hf : formedP x
 case neg =>
  have hd : decide (formedP x) = false := decide_eq_false hf
  have HE := Hd (show followsL xs x = 1 from by unfold followsL; rw [if_neg HL3.out, if_pos hf])
  rw [hd]
  clear hd hf
  go_wp2_with fail
  go_ret
  exact ⟨by rw [HE.out] <;> rfl, HB2.out⟩
 have hd : decide (formedP x) = true := decide_eq_true hf
 rw [hd]
 have HF := Hd (show ¬ ¬ formedP x from fun hh => hh hf)
 clear hd hf
 obtain ⟨c0, c1, c2, c3, c4, c5, c6, c7, c8, c9, c10, c11, c12, c13⟩ := HX2.out.pa
 go_wp2_with fail
 refine (having_any 96 #[.pointer (some ⟨w.heap.size, 0, none⟩)] (enters_of Tryz.func96 (by kernel_rfl) rfl) (fun y => decide (y.id = x.id)) a n cap xs w2 HR2.out (fun W y _ hBW => follows1_any x y w.heap.size W (HX2.out.below' hBW))).mono ?_
 rintro e w3 ⟨rfl, hB⟩
 have HX3 := Hd (HX2.out.below' hB)
 have HB3 := Hd (HB2.out.trans (hB.mono HB2.out.size))
 have HR3 := Hd (HR2.out.below' hB)
 clear hB HX2 HB2 HR2 c0 c1 c2 c3 c4 c5 c6 c7 c8 c9 c10 c11 c12 c13
 obtain ⟨i1, hi1⟩ : ∃ i, idxP (fun y => decide (y.id = x.id)) xs = i := ⟨_, rfl⟩
 cases h1 : xs.any (fun y => decide (y.id = x.id)) with
 | true =>
   have hge : 0 ≤ i1 := by rw [← hi1]; exact idxP_ge h1
   have HE := Hd (show followsL xs x = 6 from by unfold followsL; rw [if_neg HL3.out, if_neg HF.out, if_pos h1])
   rw [hi1]
   clear h1 hi1
   go_wp2_with fail
   go_ret
   exact ⟨by rw [HE.out] <;> rfl, HB3.out⟩
 | false =>
   have hge : ¬ 0 ≤ i1 := by have := idxP_lt h1; rw [hi1] at this; omega
   have H1 := Hd (show ¬ (xs.any (fun y => decide (y.id = x.id)) = true) from by rw [h1]; decide)
   rw [hi1]
   clear h1 hi1
   go_upto_region 7 with (fail)
   clear hge
   obtain ⟨b7, hb7⟩ : ∃ b, earlyB xs x.known = b := ⟨_, rfl⟩
   have H7 := Hd hb7
   clear hb7
   go_cut [18] from 19 (fun s18 wx => s18 = .bool b7 ∧ BoxG wx w.heap.size x.vals ∧ Rd Pa.vals 14 wx a n xs ∧ Below w.heap.size w wx)
   case first =>
    by_cases hn0 : n = 0
    · have hg : ¬ (0 : Int) < (n : Int) := by omega
      have hg2 : decide ((0 : Int) < (n : Int)) = false := decide_eq_false hg
      have hg3 : decide (0 < n) = false := decide_eq_false (by omega)
      have hb : b7 = false := by
       have : xs = [] := List.eq_nil_of_length_eq_zero (by rw [Hl.out, hn0])
       rw [← H7.out, this]; rfl
      subst hb
      clear hn0
      refine wp_region_later (by kernel_rfl) (by kernel_rfl) ?_
      repeat (go_big_quiet_step (fail))
      refine wpQuiet_nil ?_
      intro wz hw'
      obtain ⟨⟨W, hW⟩, hw''⟩ := hw'
      obtain rfl : W = wz := hw''.symm
      go_wp2_with fail
      go_meet
      case rel => exact ⟨rfl, HX3.out.below' hW, HR3.out.below' hW, HB3.out.trans (hW.mono HB3.out.size)⟩
    · have hg : (0 : Int) < (n : Int) := by omega
      have hg2 : decide ((0 : Int) < (n : Int)) = true := decide_eq_true hg
      have hg3 : decide (0 < n) = true := decide_eq_true (by omega)
      have hg4 : 0 < n := by omega
      have hlt : n - 1 < n := by omega
      obtain ⟨b, off, y, rfl, hb, hy, e0, e1, er⟩ := HR3.out.pa hlt
      have hyb : decide (x.known < y.known) = b7 := by
       have := H7.out
       unfold earlyB at this
       rw [last_at Hl.out (by omega) hy] at this; exact this
      have hsub : (n : Int) - 1 = ((n - 1 : Nat) : Int) := by omega
      have hkk : ((n - 1 : Nat) : Int) < (n : Int) := by omega
      obtain ⟨c0, c1, c2, c3, c4, c5, c6, c7, c8, c9, c10, c11, c12, c13⟩ := HX3.out.pa
      have k0 : ∀ z : Later w3, z.w.cell? ⟨w.heap.size, 1, none⟩ = some (.int .i64 x.known) := fun z => z.cell c1
      have k1 : ∀ z : Later w3, z.w.cell? ⟨b, off + (n - 1) * 14 + 1, none⟩ = some (.int .i64 y.known) := fun z => z.cell e1
      clear hn0 e0 e1 er hy c0 c1 c2 c3 c4 c5 c6 c7 c8 c9 c10 c11 c12 c13
      refine wp_region_later (by kernel_rfl) (by kernel_rfl) ?_
      repeat (go_big_quiet_step (fail))
      refine wpQuiet_nil ?_
      intro wz hw'
      obtain ⟨⟨W, hW⟩, hw''⟩ := hw'
      obtain rfl : W = wz := hw''.symm
      go_wp2_with fail
      go_meet
      case rel => exact ⟨by rw [← hyb], HX3.out.below' hW, HR3.out.below' hW, HB3.out.trans (hW.mono HB3.out.size)⟩
   case rest =>
   obtain ⟨rfl, hx4, hr4, hb4⟩ := hcut
   rename World => w4
   have HX4 := Hd hx4
   have HR4 := Hd hr4
   have HB4 := Hd hb4
   clear hx4 hr4 hb4
   cases b7 with
   | true =>
     have HE := Hd (show followsL xs x = 7 from by unfold followsL; rw [if_neg HL3.out, if_neg HF.out, if_neg H1.out, if_pos H7.out])
     go_wp2_with fail
     go_ret
     exact ⟨by rw [HE.out] <;> rfl, HB4.out⟩
   | false =>
     have H7n := Hd (show ¬ (earlyB xs x.known = true) from by rw [H7.out]; decide)
     obtain ⟨c0, c1, c2, c3, c4, c5, c6, c7, c8, c9, c10, c11, c12, c13⟩ := HX4.out.pa
     by_cases hk : x.kind = 3
     case neg =>
      have hk1 : (x.kind != 3) = true := by simp [hk]
      have HE := Hd (show followsL xs x = 0 from by unfold followsL; rw [if_neg HL3.out, if_neg HF.out, if_neg H1.out, if_neg H7n.out, if_pos hk])
      clear hk
      go_wp2_with fail
      go_ret
      exact ⟨by rw [HE.out] <;> rfl, HB4.out⟩
     have hk1 : (x.kind != 3) = false := by simp [hk]
     have HK := Hd (show ¬ x.kind ≠ 3 from fun h => h hk)
     clear hk
     go_wp2_with fail
     refine (having_any 97 #[.pointer (some ⟨w.heap.size, 0, none⟩)] (enters_of Tryz.func97 (by kernel_rfl) rfl) (fun y => decide (y.id = x.of ∧ y.kind ≠ 3)) a n cap xs w4 HR4.out (fun W y _ hBW => follows2_any x y w.heap.size W (HX4.out.below' hBW))).mono ?_
     rintro e w5 ⟨rfl, hB⟩
     have HX5 := Hd (HX4.out.below' hB)
     have HB5 := Hd (HB4.out.trans (hB.mono HB4.out.size))
     have HR5 := Hd (HR4.out.below' hB)
     clear hB HX4 HB4 HR4 c0 c1 c2 c3 c4 c5 c6 c7 c8 c9 c10 c11 c12 c13
     obtain ⟨i2, hi2⟩ : ∃ i, idxP (fun y => decide (y.id = x.of ∧ y.kind ≠ 3)) xs = i := ⟨_, rfl⟩
     cases h2 : xs.any (fun y => decide (y.id = x.of ∧ y.kind ≠ 3)) with
     | false =>
       have hlt2 : i2 < 0 := by rw [← hi2]; exact idxP_lt h2
       have HE := Hd (show followsL xs x = 5 from by unfold followsL; rw [if_neg HL3.out, if_neg HF.out, if_neg H1.out, if_neg H7n.out, if_neg HK.out, if_pos (by rw [h2]; decide)])
       rw [hi2]
       clear h2 hi2
       go_wp2_with fail
       go_ret
       exact ⟨by rw [HE.out] <;> rfl, HB5.out⟩
     | true =>
       have hlt2 : ¬ i2 < 0 := by have := idxP_ge h2; rw [hi2] at this; omega
       have H2 := Hd (show ¬ ¬ (xs.any (fun y => decide (y.id = x.of ∧ y.kind ≠ 3)) = true) from fun h => h h2)
       rw [hi2]
       clear h2 hi2
       obtain ⟨c0, c1, c2, c3, c4, c5, c6, c7, c8, c9, c10, c11, c12, c13⟩ := HX5.out.pa
       go_wp2_with fail
       refine (having_any 98 #[.pointer (some ⟨w.heap.size, 0, none⟩)] (enters_of Tryz.func98 (by kernel_rfl) rfl) (fun y => decide (y.kind = 3 ∧ y.of = x.of)) a n cap xs w5 HR5.out (fun W y _ hBW => follows3_any x y w.heap.size W (HX5.out.below' hBW))).mono ?_
       rintro e w6 ⟨rfl, hB⟩
       have HB6 := Hd (HB5.out.trans (hB.mono HB5.out.size))
       clear hB HX5 HB5 HR5 c0 c1 c2 c3 c4 c5 c6 c7 c8 c9 c10 c11 c12 c13
       obtain ⟨i3, hi3⟩ : ∃ i, idxP (fun y => decide (y.kind = 3 ∧ y.of = x.of)) xs = i := ⟨_, rfl⟩
       cases h3 : xs.any (fun y => decide (y.kind = 3 ∧ y.of = x.of)) with
       | true =>
         have hge3 : 0 ≤ i3 := by rw [← hi3]; exact idxP_ge h3
         have HE := Hd (show followsL xs x = 6 from by unfold followsL; rw [if_neg HL3.out, if_neg HF.out, if_neg H1.out, if_neg H7n.out, if_neg HK.out, if_neg H2.out, if_pos h3])
         rw [hi3]
         clear h3 hi3
         go_wp2_with fail
         go_ret
         exact ⟨by rw [HE.out] <;> rfl, HB6.out⟩
       | false =>
         have hge3 : ¬ 0 ≤ i3 := by have := idxP_lt h3; rw [hi3] at this; omega
         have HE := Hd (show followsL xs x = 0 from by unfold followsL; rw [if_neg HL3.out, if_neg HF.out, if_neg H1.out, if_neg H7n.out, if_neg HK.out, if_neg H2.out, if_neg (by rw [h3]; decide)])
         rw [hi3]
         clear h3 hi3
         go_wp2_with fail
         go_ret
         exact ⟨by rw [HE.out] <;> rfl, HB6.out⟩
def cpE (x : Pa) : Int := if formedP x then 0 else 1
theorem checkFrom_ok {l : List Pa} {m k : Nat} {x : Pa} (hx : l[k]? = some x) (h : followsL (l.take k) x = 0) : checkFrom l (m + 1) k = checkFrom l m (k + 1) := by
 rw [checkFrom, hx]; simp only; rw [if_pos h]
theorem checkFrom_no {l : List Pa} {m k : Nat} {x : Pa} (hx : l[k]? = some x) (h : ¬ followsL (l.take k) x = 0) : checkFrom l (m + 1) k = ((k : Int), followsL (l.take k) x) := by
 rw [checkFrom, hx]; simp only; rw [if_neg h]
set_option maxRecDepth 100000 in
set_option maxHeartbeats 4000000 in
theorem check_any (a : Option Addr) (n cap : Nat) (xs : List Pa) (hs : ∀ x ∈ xs, x.Short) (w : World) (h : Rd Pa.vals 14 w a n xs) (hcap : n ≤ cap) :
 Calls Tryz.prog 53 #[.slice a n cap] w fun e w' => e = .returned (.tuple #[.int .i64 (checkC xs).1, .int .i64 (checkC xs).2]) ∧ Below w.heap.size w w' := by
 have HR := Hd h
 have Hl := Hd h.len
 have HS := Hd hs
 have hm := h.cap
 unfold maxLen at hm
 clear h hs
 go_enter Tryz.func53, Tryz.ntmps53
 go_wp2_with fail
 go_loopw [9] (fun i wr => ∃ k : Nat, k ≤ n ∧ i = .int .i64 k ∧ checkC xs = checkFrom xs (n - k) k ∧ Below w.heap.size w wr) (fun i _ => n - (intOf i).toNat)
 case atStart => exact ⟨0, Nat.zero_le _, rfl, by unfold checkC; rw [Hl.out]; rfl, Below.refl _ _⟩
 case round =>
  obtain ⟨k, hk, rfl, hck, hB⟩ := hrel
  have h1 := HR.out.below' hB
  have HB := Hd hB
  have HC := Hd hck
  clear hck hB
  by_cases hlt : k < n
  · have hlt' : (k : Int) < (n : Int) := by omega
    have hkc : (k : Int) ≤ (cap : Int) := by omega
    obtain ⟨b, off, x, rfl, hb, hx, c0, c1, c2, c3, c4, c5, c6, c7, c8, c9, c10, c11, c12, c13⟩ := h1.pa hlt
    have Hx := Hd hx
    have H1 := Hd h1
    clear h1
    go_upto_region 4 with (fail)
    have hBx := al' (Below.refl wr.heap.size wr) (.cells #[.int .i64 x.id, .int .i64 x.known, .int .u8 x.kind, .int .i64 x.loss, .int .i64 x.pack, .int .i64 x.inn, .string ⟨x.mark.toArray⟩, .string ⟨x.goods.toArray⟩, .int .i64 x.low, .int .i64 x.high, .int .i64 x.pieces, .int .i64 x.owner, .int .i64 x.count, .int .i64 x.of] 42)
    have hbx := BoxG.made wr x.vals 42
    simp only [Pa.vals] at hbx
    have HR2 := Hd ((H1.out.below' hBx).take hk)
    have HB2 := Hd (HB.out.trans (hBx.mono HB.out.size))
    clear c0 c1 c2 c3 c4 c5 c6 c7 c8 c9 c10 c11 c12 c13 hBx hx
    generalize wr.alloc (.cells #[.int .i64 x.id, .int .i64 x.known, .int .u8 x.kind, .int .i64 x.loss, .int .i64 x.pack, .int .i64 x.inn, .string ⟨x.mark.toArray⟩, .string ⟨x.goods.toArray⟩, .int .i64 x.low, .int .i64 x.high, .int .i64 x.pieces, .int .i64 x.owner, .int .i64 x.count, .int .i64 x.of] 42) = w2 at *
    obtain ⟨B2, hB2⟩ : ∃ B, wr.heap.size = B := ⟨_, rfl⟩
    rw [hB2] at hbx ⊢
    obtain ⟨c0, c1, c2, c3, c4, c5, c6, c7, c8, c9, c10, c11, c12, c13⟩ := BoxG.pa (x := x) hbx
    have k0 : ∀ z : Later w2, z.w.cell? ⟨B2, 0, none⟩ = some (.int .i64 x.id) := fun z => z.cell c0
    have k1 : ∀ z : Later w2, z.w.cell? ⟨B2, 1, none⟩ = some (.int .i64 x.known) := fun z => z.cell c1
    have k2 : ∀ z : Later w2, z.w.cell? ⟨B2, 2, none⟩ = some (.int .u8 x.kind) := fun z => z.cell c2
    have k3 : ∀ z : Later w2, z.w.cell? ⟨B2, 3, none⟩ = some (.int .i64 x.loss) := fun z => z.cell c3
    have k4 : ∀ z : Later w2, z.w.cell? ⟨B2, 4, none⟩ = some (.int .i64 x.pack) := fun z => z.cell c4
    have k5 : ∀ z : Later w2, z.w.cell? ⟨B2, 5, none⟩ = some (.int .i64 x.inn) := fun z => z.cell c5
    have k6 : ∀ z : Later w2, z.w.cell? ⟨B2, 6, none⟩ = some (.string ⟨x.mark.toArray⟩) := fun z => z.cell c6
    have k7 : ∀ z : Later w2, z.w.cell? ⟨B2, 7, none⟩ = some (.string ⟨x.goods.toArray⟩) := fun z => z.cell c7
    have k8 : ∀ z : Later w2, z.w.cell? ⟨B2, 8, none⟩ = some (.int .i64 x.low) := fun z => z.cell c8
    have k9 : ∀ z : Later w2, z.w.cell? ⟨B2, 9, none⟩ = some (.int .i64 x.high) := fun z => z.cell c9
    have k10 : ∀ z : Later w2, z.w.cell? ⟨B2, 10, none⟩ = some (.int .i64 x.pieces) := fun z => z.cell c10
    have k11 : ∀ z : Later w2, z.w.cell? ⟨B2, 11, none⟩ = some (.int .i64 x.owner) := fun z => z.cell c11
    have k12 : ∀ z : Later w2, z.w.cell? ⟨B2, 12, none⟩ = some (.int .i64 x.count) := fun z => z.cell c12
    have k13 : ∀ z : Later w2, z.w.cell? ⟨B2, 13, none⟩ = some (.int .i64 x.of) := fun z => z.cell c13
    clear hbx hB2 c0 c1 c2 c3 c4 c5 c6 c7 c8 c9 c10 c11 c12 c13
    obtain ⟨fe, hfe⟩ : ∃ e, followsL (xs.take k) x = e := ⟨_, rfl⟩
    have C1 := Hd (show ∀ z : Later w2, Calls Tryz.prog 54 #[.slice (some ⟨b, off, none⟩) k k, .agg #[.int .i64 x.id, .int .i64 x.known, .int .u8 x.kind, .int .i64 x.loss, .int .i64 x.pack, .int .i64 x.inn, .string ⟨x.mark.toArray⟩, .string ⟨x.goods.toArray⟩, .int .i64 x.low, .int .i64 x.high, .int .i64 x.pieces, .int .i64 x.owner, .int .i64 x.count, .int .i64 x.of]] z.w fun e w' => e = .returned (.int .i64 fe) ∧ Below z.w.heap.size z.w w' from fun z => by
     rw [← hfe]
     exact follows_any _ k k (xs.take k) x (HS.out x (List.mem_of_getElem? Hx.out)) z.w (HR2.out.below' z.hB))
    have HFE := Hd hfe
    clear hfe
    refine wp_region_later (by kernel_rfl) (by kernel_rfl) ?_
    repeat (go_big_quiet_step ((first | (go_at_call 54; exact Calls.later_of (C1.out _)))))
    refine wpQuiet_nil ?_
    intro wz hw'
    obtain ⟨⟨W, hW⟩, hw2⟩ := hw'
    obtain rfl : W = wz := hw2.symm
    clear hw2 k0 k1 k2 k3 k4 k5 k6 k7 k8 k9 k10 k11 k12 k13
    have HB3 := Hd (HB2.out.trans (hW.mono HB2.out.size))
    clear hW
    by_cases h0 : fe = 0
    · have HN := Hd (show checkC xs = checkFrom xs (n - (k + 1)) (k + 1) from by
       rw [HC.out, show n - k = (n - (k + 1)) + 1 by omega]
       exact checkFrom_ok Hx.out (HFE.out.trans h0))
      subst h0
      go_wp2_with fail
      exact ⟨⟨k + 1, by omega, by go_num, HN.out, HB3.out⟩, by simp [intOf]; omega⟩
    · have h0' : (fe != 0) = true := by simp [h0]
      have HN := Hd (show checkC xs = ((k : Int), fe) from by
       rw [HC.out, show n - k = (n - (k + 1)) + 1 by omega, checkFrom_no Hx.out (by rw [HFE.out]; exact h0), HFE.out])
      clear h0
      go_wp2_with fail
      go_ret2
      exact ⟨by rw [HN.out] <;> rfl, HB3.out⟩
  · have hlt' : ¬ (k : Int) < (n : Int) := by omega
    have HN := Hd (show checkC xs = (0, 0) from by rw [HC.out, show n - k = 0 by omega]; rfl)
    go_wp2_with fail
    go_ret2
    exact ⟨by rw [HN.out] <;> rfl, HB.out⟩
end Go.Proofs.YtehplmeckfinoaaGreatDoor
