/- The iterator over the postings of a book that are wanted. -/
import Derived.Test.YtjleembfocghlaaGreatDoorBook
import Derived.RangeFuncNested
import Derived.RangeFuncBound
import Derived.RangeFuncCalls
import Derived.RangeFuncLeaves
import Derived.RangeFuncBox
import Derived.Shelf.Abstract
import Derived.Shelf.AbstractIn
import Derived.Shelf.RegionOpen
import Derived.OwnWalkIn
import Derived.TacticsInMore
import Derived.LoopNIn
import Derived.LoopIn
import Derived.Outline
set_option linter.unusedSimpArgs false
set_option linter.unusedVariables false
namespace Go.Proofs.YtjleembfocghlaaGreatDoor
open Go.RowKit Go.Shelf
attribute [local go_sem] Oper.semAt_some

/-- what a book yields of what is wanted; nothing of a list that is none -/
def someL (xs : List Po) (q : Po → Bool) : List Po := if (checkL xs).2 = 0 then xs.filter q else []
/-- a posting of the list -/
abbrev PoOf (xs : List Po) := { p : Po // p ∈ xs }
/-- the predicate says q of the list's postings, and leaves what lay in w -/
def Wants (g : Nat) (cb : Array Value) (xs : List Po) (q : Po → Bool) (w : World) : Prop :=
  ∀ (W : World) (p : Po), p ∈ xs → Below w.heap.size w W → Calls Tryz.prog g (#[vPo p] ++ cb) W fun e W' => e = .returned (.bool (q p)) ∧ Below W.heap.size W W'

theorem grown_of_below {W W' : World} (h : Below W.heap.size W W') : W.grownBy W' none := ⟨h.os, h.tape, h.output, h.size, fun k hk _ => h.block k hk⟩
theorem abides_below {β : Type} {B : Nat} {J : β → World → Prop} (hJ : AbidesFrom B J) {s : β} {W W' : World} (h : J s W) (hB : Below W.heap.size W W') : J s W' :=
  hJ s W W' none h (grown_of_below hB) (fun r e => by cases e)
theorem map_snoc_sub {xs : List Po} (pre : List (PoOf xs)) (x : Po) (hx : x ∈ xs) : (pre ++ [(⟨x, hx⟩ : PoOf xs)]).map (·.1) = pre.map (·.1) ++ [x] := by simp

set_option maxRecDepth 100000 in
set_option maxHeartbeats 2000000 in
theorem some1_in (m : Nat) (hm : 1 ≤ m) (l Bl Bw n0 : Nat) (a : Option Addr) (n cap : Nat) (xs : List Po) (g : Nat) (cb : Array Value) (q : Po → Bool) (w0 : World)
    (eg : ∀ args w, (callFunc g args).run Tryz.prog w = .ok (.enter g args) w)
    (J Jx : List (PoOf xs) → World → Prop) (W : World) (hJ : AbidesFrom W.heap.size J) (hJx : AbidesFrom W.heap.size Jx)
    (hY : ∀ pre x W, J pre W → pre.length < n → YieldAt Fence.wide (m - 1) Tryz.prog l #[vPo x.1] W fun e W' =>
      (e = .returned (.bool true) ∧ J (pre ++ [x]) W' ∧ Below w0.heap.size W W') ∨ (e = .returned (.bool false) ∧ Jx (pre ++ [x]) W'))
    (hW : Below w0.heap.size w0 W)
    (hBl : w0.cell? ⟨Bl, 0, none⟩ = some (.slice a n cap)) (hBw : w0.cell? ⟨Bw, 0, none⟩ = some (.func (.func g) #[] cb))
    (h : Rd Po.vals 8 w0 a n xs) (hw : ∀ p ∈ xs, p.Wf) (hq : Wants g cb xs q w0) (h0 : J [] W) :
    CallsIn Fence.wide m Tryz.prog 65 #[.func (.yield l) #[] #[], .pointer (some ⟨Bl, 0, none⟩), .pointer (some ⟨Bw, 0, none⟩)] W fun e W' => (∃ v, e = .returned v) ∧
      ((∃ ys : List (PoOf xs), ys.map (·.1) = someL xs q ∧ J ys W') ∨ (∃ pre : List (PoOf xs), pre.map (·.1) <+: someL xs q ∧ Jx pre W')) := by
  have hmm := h.cap
  unfold maxLen at hmm
  have Hl := Lib.hid h.len
  have c1 : W.cell? ⟨Bl, 0, none⟩ = some (.slice a n cap) := (hW.cell (p := ⟨Bl, 0, none⟩) (World.block_lt_of_cell? _ _ hBl)).trans hBl
  have HH := Lib.hid h
  have HW := Lib.hid hW
  clear hW h
  refine callsIn_of_wp Tryz.func65 rfl trivial ?_ rfl
  simp only [Tryz.ntmps65, List.size_toArray, List.length_cons, List.length_nil, Nat.reduceAdd, Nat.reduceSub, Array.replicate_succ, Array.replicate_zero, List.push_toArray, List.append_toArray, List.nil_append, List.cons_append]
  by_cases hc : (checkL xs).2 = 0
  case neg =>
    have hd : ((checkL xs).2 != 0) = true := by simp [hc]
    have Hc := Lib.hid hc
    clear hc
    gi_wp2_with (refine ⟨trivial, ?_⟩; gi_at_call 66; refine (callsIn_wide.2 (check_any a n cap xs _ (HH.out.below' HW.out) hw)).mono ?_; rintro e w1 ⟨rfl, hB1⟩)
    refine bodyPost_ret (results_none rfl _ _ _) rfl ?_
    exact ⟨⟨_, rfl⟩, .inl ⟨[], by unfold someL; rw [if_neg Hc.out]; rfl, abides_below hJ h0 hB1⟩⟩
  have hd : ((checkL xs).2 != 0) = false := by simp [hc]
  have Hc := Lib.hid hc
  clear hc
  gi_wp2_with (refine ⟨trivial, ?_⟩; gi_at_call 66; refine (callsIn_wide.2 (check_any a n cap xs _ (HH.out.below' HW.out) hw)).mono ?_; rintro e w1 ⟨rfl, hB1⟩; have c2 : w1.cell? ⟨Bl, 0, none⟩ = some (.slice a n cap) := (hB1.cell (p := ⟨Bl, 0, none⟩) (World.block_lt_of_cell? _ _ c1)).trans c1)
  have hJ1 := abides_below hJ h0 hB1
  have HB1 := Lib.hid (HW.out.trans (hB1.mono HW.out.size))
  clear hB1 c1 c2
  gi_loopw [17] (fun i wr => ∃ (k : Nat) (pre : List (PoOf xs)), k ≤ n ∧ i = .int .i64 k ∧ pre.map (·.1) = (xs.take k).filter q ∧ Below w0.heap.size w0 wr ∧ J pre wr) (fun i _ => n - (intOf i).toNat)
  case atStart => exact ⟨0, [], Nat.zero_le _, rfl, rfl, HB1.out, hJ1⟩
  case round =>
    obtain ⟨k, pre, hk, rfl, hpre, hB, hJs⟩ := hrel
    have h1 := HH.out.below' hB
    have c2 : wr.cell? ⟨Bw, 0, none⟩ = some (.func (.func g) #[] cb) := (hB.cell (p := ⟨Bw, 0, none⟩) (World.block_lt_of_cell? _ _ hBw)).trans hBw
    have c3 : Bw < wr.heap.size := World.block_lt_of_cell? _ _ c2
    have Hpre := Lib.hid hpre
    have HB := Lib.hid hB
    clear hpre hB HB1 hJ1
    by_cases hlt : k < n
    · obtain ⟨b, off, x, rfl, hb, hx, x0, x1, x2, x3, x4, x5, x6, x7⟩ := h1.po hlt
      have hmem : x ∈ xs := List.mem_of_getElem? hx
      have Hsn := Lib.hid (take_succ_snoc hx)
      have Hx := Lib.hid hx
      clear hx
      have hBa := (Below.refl wr.heap.size wr).alloc (Nat.le_refl _) (.cells #[.int .i64 x.id, .int .i64 x.hour, .int .u8 x.kind, .int .i64 x.party, .int .i64 x.parcel, .int .i64 x.amount, .int .i64 x.reason, .int .i64 x.known] 23)
      have hJa := abides_below hJ hJs hBa
      have hcall := hq (wr.alloc (.cells #[.int .i64 x.id, .int .i64 x.hour, .int .u8 x.kind, .int .i64 x.party, .int .i64 x.parcel, .int .i64 x.amount, .int .i64 x.reason, .int .i64 x.known] 23)) x hmem (HB.out.trans (hBa.mono HB.out.size))
      have hbx := BoxPo.made wr x 23
      have hpl : pre.length ≤ k := by
        have h1 : (pre.map (·.1)).length = pre.length := List.length_map _
        rw [Hpre.out] at h1
        have h2 := List.length_filter_le q (xs.take k)
        rw [List.length_take] at h2
        omega
      have HBa := Lib.hid hBa
      clear hBa
      cases hqx : q x with
      | true =>
        rw [hqx] at hcall
        have hfx : (xs.take (k + 1)).filter q = (xs.take k).filter q ++ [x] := by rw [Hsn.out]; simp [hqx]
        have Hfx := Lib.hid hfx
        clear hfx
        clear hqx
        gi_wp2_with (refine ⟨trivial, ?_⟩; gi_at_fn g; refine (callsIn_wide.2 hcall).mono ?_; rintro e w2 ⟨rfl, hB2⟩; obtain ⟨r0, r1, r2, r3, r4, r5, r6, r7⟩ := (hbx.below' hB2).cells; have hz2 := hB2.size; obtain ⟨fn, tmps, assign, body, hy, hR⟩ := hY pre ⟨x, hmem⟩ w2 (abides_below hJ hJa hB2) (by omega); dsimp only [vPo] at hy)
        refine hR.mono ?_
        have HB2 := Lib.hid (HB.out.trans ((below_then HBa.out hB2 (Nat.le_refl _)).mono HB.out.size))
        have Hmap := Lib.hid (map_snoc_sub pre x hmem)
        rintro e W3 (⟨rfl, hJ3, hk3⟩ | ⟨rfl, hJx3⟩)
        · have HB3 := Lib.hid (HB2.out.trans hk3)
          clear hk3 hB2 hR hcall
          gi_wp2
          go_roundw
          case rel => exact ⟨k + 1, _, by omega, by go_num, by rw [Hmap.out, Hpre.out, Hfx.out], HB3.out, hJ3⟩
          case measure => simp [intOf]; omega
        · clear hB2 hR hcall
          gi_wp2
          refine bodyPost_ret (results_none rfl _ _ _) rfl ?_
          refine ⟨⟨_, rfl⟩, .inr ⟨_, ?_, hJx3⟩⟩
          rw [Hmap.out, Hpre.out, ← Hfx.out]
          unfold someL
          rw [if_pos Hc.out]
          exact (List.take_prefix _ _).filter _
      | false =>
        rw [hqx] at hcall
        have hfx : (xs.take (k + 1)).filter q = (xs.take k).filter q := by rw [Hsn.out]; simp [hqx]
        have Hfx := Lib.hid hfx
        clear hfx
        clear hqx
        gi_wp2_with (refine ⟨trivial, ?_⟩; gi_at_fn g; refine (callsIn_wide.2 hcall).mono ?_; rintro e w2 ⟨rfl, hB2⟩)
        have hJ2 := abides_below hJ hJa hB2
        have HB2 := Lib.hid (HB.out.trans ((below_then HBa.out hB2 (Nat.le_refl _)).mono HB.out.size))
        clear hB2 hcall
        refine ⟨fun _ h => (by cases h), ?_⟩
        gi_wp2
        go_roundw
        case rel => exact ⟨k + 1, pre, by omega, by go_num, by rw [Hpre.out, Hfx.out], HB2.out, hJ2⟩
        case measure => simp [intOf]; omega
    · gi_wp2
      go_end0
      refine ⟨⟨_, rfl⟩, .inl ⟨pre, ?_, hJs⟩⟩
      rw [Hpre.out, List.take_of_length_le (by rw [Hl.out]; omega)]
      unfold someL
      rw [if_pos Hc.out]

theorem some_stops (m : Nat) (hm : 1 ≤ m) (Bl Bw : Nat) (a : Option Addr) (n cap : Nat) (xs : List Po) (g : Nat) (cb : Array Value) (q : Po → Bool) (w0 : World)
    (eg : ∀ args w, (callFunc g args).run Tryz.prog w = .ok (.enter g args) w)
    (hBl : w0.cell? ⟨Bl, 0, none⟩ = some (.slice a n cap)) (hBw : w0.cell? ⟨Bw, 0, none⟩ = some (.func (.func g) #[] cb))
    (h : Rd Po.vals 8 w0 a n xs) (hw : ∀ p ∈ xs, p.Wf) (hq : Wants g cb xs q w0) :
    SeqStopsK Fence.wide m Tryz.prog 65 #[.pointer (some ⟨Bl, 0, none⟩), .pointer (some ⟨Bw, 0, none⟩)] (fun x : PoOf xs => #[vPo x.1]) (Below w0.heap.size)
      (fun ys => ys.map (·.1) = someL xs q) (fun pre => pre.map (·.1) <+: someL xs q) n w0 := fun l J Jx W hW hJ hJx hY h0 =>
  some1_in m hm l Bl Bw 0 a n cap xs g cb q w0 eg J Jx W hJ hJx hY hW hBl hBw h hw hq h0

set_option maxHeartbeats 1000000 in
theorem some_any (a : Option Addr) (n cap : Nat) (g : Nat) (cb : Array Value) (w : World) :
    Calls Tryz.prog 34 #[.slice a n cap, .func (.func g) #[] cb] w fun e w' =>
      e = .returned (.func (.func 65) #[] #[.pointer (some ⟨w.heap.size, 0, none⟩), .pointer (some ⟨w.heap.size + 1, 0, none⟩)]) ∧ w' = (w.alloc (.cells #[.slice a n cap] 31)).alloc (.cells #[.func (.func g) #[] cb] 85) := by
  go_enter Tryz.func34, Tryz.ntmps34
  go_wp2_with fail
  go_ret
  exact ⟨rfl, rfl⟩
end Go.Proofs.YtjleembfocghlaaGreatDoor
