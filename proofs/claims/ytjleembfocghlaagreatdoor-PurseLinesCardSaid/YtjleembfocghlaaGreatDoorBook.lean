/- The walks of Check, slices.Clone and Append. -/
import Derived.Test.YtjleembfocghlaaGreatDoorOpened
import Derived.Test.YtjleembfocghlaaGreatDoorRow
import Derived.Deep.RegionHeld3
set_option linter.unusedSimpArgs false
set_option linter.unusedVariables false
namespace Go.Proofs.YtjleembfocghlaaGreatDoor
open Go.RowKit

theorem keepPo {W W' : World} {B : Nat} {p : Po} (h : W.cell? ⟨B, 0, none⟩ = some (.int .i64 p.id) ∧ W.cell? ⟨B, 1, none⟩ = some (.int .i64 p.hour) ∧ W.cell? ⟨B, 2, none⟩ = some (.int .u8 p.kind) ∧ W.cell? ⟨B, 3, none⟩ = some (.int .i64 p.party) ∧
    W.cell? ⟨B, 4, none⟩ = some (.int .i64 p.parcel) ∧ W.cell? ⟨B, 5, none⟩ = some (.int .i64 p.amount) ∧ W.cell? ⟨B, 6, none⟩ = some (.int .i64 p.reason) ∧ W.cell? ⟨B, 7, none⟩ = some (.int .i64 p.known)) (hB : Below W.heap.size W W') :
    W'.cell? ⟨B, 0, none⟩ = some (.int .i64 p.id) ∧ W'.cell? ⟨B, 1, none⟩ = some (.int .i64 p.hour) ∧ W'.cell? ⟨B, 2, none⟩ = some (.int .u8 p.kind) ∧ W'.cell? ⟨B, 3, none⟩ = some (.int .i64 p.party) ∧
    W'.cell? ⟨B, 4, none⟩ = some (.int .i64 p.parcel) ∧ W'.cell? ⟨B, 5, none⟩ = some (.int .i64 p.amount) ∧ W'.cell? ⟨B, 6, none⟩ = some (.int .i64 p.reason) ∧ W'.cell? ⟨B, 7, none⟩ = some (.int .i64 p.known) := by
  have hlt : B < W.heap.size := World.block_lt_of_cell? W _ h.1
  have e : ∀ j, W'.cell? ⟨B, j, none⟩ = W.cell? ⟨B, j, none⟩ := fun j => hB.cell (p := ⟨B, j, none⟩) hlt
  simpa only [e] using h
theorem keepPoG {W W' : World} {B : Nat} {p : Po} {row : Option Nat} (h : W.cell? ⟨B, 0, none⟩ = some (.int .i64 p.id) ∧ W.cell? ⟨B, 1, none⟩ = some (.int .i64 p.hour) ∧ W.cell? ⟨B, 2, none⟩ = some (.int .u8 p.kind) ∧ W.cell? ⟨B, 3, none⟩ = some (.int .i64 p.party) ∧
    W.cell? ⟨B, 4, none⟩ = some (.int .i64 p.parcel) ∧ W.cell? ⟨B, 5, none⟩ = some (.int .i64 p.amount) ∧ W.cell? ⟨B, 6, none⟩ = some (.int .i64 p.reason) ∧ W.cell? ⟨B, 7, none⟩ = some (.int .i64 p.known)) (hg : W.grownBy W' row) (hne : some B ≠ row) :
    W'.cell? ⟨B, 0, none⟩ = some (.int .i64 p.id) ∧ W'.cell? ⟨B, 1, none⟩ = some (.int .i64 p.hour) ∧ W'.cell? ⟨B, 2, none⟩ = some (.int .u8 p.kind) ∧ W'.cell? ⟨B, 3, none⟩ = some (.int .i64 p.party) ∧
    W'.cell? ⟨B, 4, none⟩ = some (.int .i64 p.parcel) ∧ W'.cell? ⟨B, 5, none⟩ = some (.int .i64 p.amount) ∧ W'.cell? ⟨B, 6, none⟩ = some (.int .i64 p.reason) ∧ W'.cell? ⟨B, 7, none⟩ = some (.int .i64 p.known) := by
  have hlt : B < W.heap.size := World.block_lt_of_cell? W _ h.1
  have e : ∀ j, W'.cell? ⟨B, j, none⟩ = W.cell? ⟨B, j, none⟩ := fun j => hg.cell_far ⟨B, j, none⟩ hlt hne
  simpa only [e] using h
theorem ownsRow_mono {w : World} {b b' : Nat} {e : TypeId} {k n : Nat} {v : Value} {xs : List Value} (h : w.ownsRow b e k v n xs) (hb : b' ≤ b) : w.ownsRow b' e k v n xs := by
  refine ⟨h.1, ?_⟩
  rcases h.2 with h1 | ⟨g, cap, cur, hv, hg, r⟩
  · exact .inl h1
  · exact .inr ⟨g, cap, cur, hv, Nat.le_trans hb hg, r⟩
theorem info_po : (Tryz.prog.info? 23).map (fun i => (i.zero, i.size, i.bytes)) = some (some (.agg #[.int .i64 0, .int .i64 0, .int .u8 0, .int .i64 0, .int .i64 0, .int .i64 0, .int .i64 0, .int .i64 0]), 8, 64) := by kernel_rfl

set_option maxHeartbeats 1000000 in
theorem check_any (a : Option Addr) (n cap : Nat) (xs : List Po) (w : World) (h : Rd Po.vals 8 w a n xs) (hw : ∀ p ∈ xs, p.Wf) :
    Calls Tryz.prog 66 #[.slice a n cap] w fun e w' => e = .returned (.tuple #[.int .i64 (checkL xs).1, .int .i64 (checkL xs).2]) ∧ Below w.heap.size w w' := by
  go_enter Tryz.func66, Tryz.ntmps66
  go_wp2_with fail
  refine (opened_any a n cap xs _ h hw).mono ?_
  rintro e w1 ⟨hB, ⟨hc, L, s, rfl, _⟩ | ⟨hc, rfl⟩⟩
  · have HB := Lib.hid hB
    have Hc := Lib.hid hc
    have Hc1 := Lib.hid (checkL_fst hc)
    clear hB hc
    go_wp2_with fail
    go_ret2
    exact ⟨by rw [Hc.out, Hc1.out]; rfl, HB.out⟩
  · have HB := Lib.hid hB
    clear hB hc
    go_wp2_with fail
    go_ret2
    exact ⟨rfl, HB.out⟩

set_option maxHeartbeats 2000000 in
set_option maxRecDepth 100000 in
theorem clonePo_any (a : Option Addr) (n cap : Nat) (xs : List Po) (w : World) (h : Rd Po.vals 8 w a n xs) (hn : n ≤ 1000000) :
    Calls Tryz.prog 37 #[.slice a n cap] w fun e w' => ∃ v, e = .returned v ∧ w'.ownsRow w.heap.size 23 8 v n (xs.flatMap Po.vals) ∧ Below w.heap.size w w' := by
  have q22 : ∀ (w : World) (a : Option Addr) (n c n' c' : Nat), (binOp .eql 31 (.slice a n c) (.slice none n' c')).run Tryz.prog w = .ok (.bool a.isNone) w := fun w a n c n' c' => Lib.run_eql_slice_nil w _ _ a n c n' c' Tryz.underlying31
  cases a with
  | none =>
    obtain ⟨rfl, rfl⟩ := h.nil_of
    go_enter Tryz.func37, Tryz.ntmps37
    go_wp2_with fail
    go_ret
    exact ⟨_, rfl, World.ownsRow_nil _ _ _ _, Below.refl _ _⟩
  | some ad =>
    obtain ⟨i0, hi, hz0, hz1, hz2⟩ := info_parts info_po
    have H := Lib.hid h
    clear h
    go_enter Tryz.func37, Tryz.ntmps37
    go_wp2_with (at_builtin; refine wpList_append_own _ rfl _ _ 31 rfl w.heap.size 23 i0 _ 8 64 Tryz.underlying31 hi hz0 hz1 hz2 rfl (by decide) _ 0 [] rfl (World.ownsRow_made w #[] 0 (Nat.le_refl _) (Nat.zero_le _) (by simp)) ad n cap (xs.flatMap Po.vals) rfl ?qc1 ?qc2 ?qc3 ?qc4 ?qc5 ?qc6 ?_)
    case qc1 => rw [flat_length po_vals_length, H.out.len]
    case qc2 =>
      intro j u hj
      exact Rd.news (H.out.below' ((Below.refl _ w).alloc (Nat.le_refl _) _)) po_vals_length j u hj
    case qc3 => exact po_one xs
    case qc4 => unfold maxLen; omega
    case qc5 => omega
    case qc6 => simp
    intro v' w1 hown hgrow hnil
    go_wp2_with fail
    go_ret
    refine ⟨v', rfl, by simpa using hown, ?_⟩
    exact ((Below.refl _ w).alloc (Nat.le_refl _) _).grown hgrow (by simp) (by intro k hk; simp [Value.ownBlock] at hk; omega)

def AppendPost (w : World) (xs : List Po) (p : Po) (e : Ending) (w' : World) : Prop :=
  Below w.heap.size w w' ∧ ((¬ (checkL xs).2 = 0 ∧ e = .returned (.tuple #[.slice none 0 0, .int .i64 (checkL xs).2])) ∨
    ((checkL xs).2 = 0 ∧ ¬ refusedL xs p = 0 ∧ e = .returned (.tuple #[.slice none 0 0, .int .i64 (refusedL xs p)])) ∨
    ((checkL xs).2 = 0 ∧ refusedL xs p = 0 ∧ ∃ v, e = .returned (.tuple #[v, .int .i64 0]) ∧ w'.ownsRow w.heap.size 23 8 v (xs.length + 1) ((xs ++ [p]).flatMap Po.vals)))

set_option maxHeartbeats 4000000 in
set_option maxRecDepth 100000 in
theorem append_any (a : Option Addr) (n cap : Nat) (xs : List Po) (p : Po) (w : World) (h : Rd Po.vals 8 w a n xs) (hw : ∀ p ∈ xs, p.Wf) (hp : p.Wf) :
    Calls Tryz.prog 14 #[.slice a n cap, .agg #[.int .i64 p.id, .int .i64 p.hour, .int .u8 p.kind, .int .i64 p.party, .int .i64 p.parcel, .int .i64 p.amount, .int .i64 p.reason, .int .i64 p.known]] w (AppendPost w xs p) := by
  go_enter Tryz.func14, Tryz.ntmps14
  have hb0 := (Below.refl w.heap.size w).alloc (Nat.le_refl _) (.cells #[.int .i64 p.id, .int .i64 p.hour, .int .u8 p.kind, .int .i64 p.party, .int .i64 p.parcel, .int .i64 p.amount, .int .i64 p.reason, .int .i64 p.known] 23)
  have h1 := h.below' hb0
  have hbx := BoxPo.made w p 23
  have Hb0 := Lib.hid hb0
  have Hl := Lib.hid h.len
  have HR := Lib.hid h
  clear hb0 h
  go_wp2_with fail
  refine (opened_any a n cap xs _ h1 hw).mono ?_
  rintro e w1 ⟨hB, ⟨hc, L, s, rfl, hch, hbk, hL⟩ | ⟨hc, rfl⟩⟩
  · have hbx1 := hbx.below' hB
    have h2 := h1.below' hB
    have HB := Lib.hid (below_then Hb0.out hB (Nat.le_refl _))
    have Hc := Lib.hid hc
    have HL := Lib.hid hL
    have Hch := Lib.hid hch
    have Hbk := Lib.hid hbk
    have HT := Lib.hid (hbk.take p)
    have Hbd := Lib.hid hbk.bd
    clear hB hc hL hch hbk hbx h1
    obtain ⟨q0, q1, q2, q3, q4, q5, q6, q7⟩ := hbx1.cells
    go_wp2_with fail
    refine (take_any L s p _ hp Hch.out Hbd.out).mono ?_
    rintro e w2 ⟨rfl, hon, hch2⟩
    rw [HT.out]
    rw [HT.out] at hch2
    have hlow : Below (w.alloc (.cells #[.int .i64 p.id, .int .i64 p.hour, .int .u8 p.kind, .int .i64 p.party, .int .i64 p.parcel, .int .i64 p.amount, .int .i64 p.reason, .int .i64 p.known] 23)).heap.size w1 w2 := hon.below HL.out (by
      have := hbx1.1; simp; omega)
    have hbx2 := hbx1.below hlow (by simp)
    have hlow2 := HB.out.trans (hlow.mono (by simp))
    have h3 := HR.out.below' hlow2
    have HB2 := Lib.hid hlow2
    clear hon hlow hlow2 hch2 q0 q1 q2 q3 q4 q5 q6 q7 hbx1 h2
    obtain ⟨q0, q1, q2, q3, q4, q5, q6, q7⟩ := hbx2.cells
    by_cases hr : refusedL xs p = 0
    case neg =>
      have hr1 : (refusedL xs p != 0) = true := by simp [hr]
      have Hr := Lib.hid hr
      clear hr
      go_wp2_with fail
      go_ret2
      exact ⟨HB2.out, .inr (.inl ⟨Hc.out, Hr.out, rfl⟩)⟩
    have hr1 : (refusedL xs p != 0) = false := by simp [hr]
    have hn4 := refusedL_len hr
    have Hr := Lib.hid hr
    clear hr
    obtain ⟨i0, hi, hz0, hz1, hz2⟩ := info_parts info_po
    have hln : n < 400 := by rw [← Hl.out]; exact hn4
    have hzw := hbx2.1
    have Hbase := Lib.hid HB2.out.size
    clear hn4
    go_wp2_with fail
    go_region_held3 (fun w' => w'.cell? ⟨w.heap.size, 0, none⟩ = some (.int .i64 p.id) ∧ w'.cell? ⟨w.heap.size, 1, none⟩ = some (.int .i64 p.hour) ∧ w'.cell? ⟨w.heap.size, 2, none⟩ = some (.int .u8 p.kind) ∧ w'.cell? ⟨w.heap.size, 3, none⟩ = some (.int .i64 p.party) ∧
        w'.cell? ⟨w.heap.size, 4, none⟩ = some (.int .i64 p.parcel) ∧ w'.cell? ⟨w.heap.size, 5, none⟩ = some (.int .i64 p.amount) ∧ w'.cell? ⟨w.heap.size, 6, none⟩ = some (.int .i64 p.reason) ∧ w'.cell? ⟨w.heap.size, 7, none⟩ = some (.int .i64 p.known))
      (first | go_keep | exact keepPo (by assumption) hB3 | exact keepPoG (by assumption) hgrow (fun e => by have := (hown.lt _ e.symm).1; simp at this; omega))
      (first
        | (go_at_call 37; refine (clonePo_any a n cap xs _ (by first | exact h3.drewN 1 | exact (h3.drewN 1).below' ((Below.refl _ _).alloc (Nat.le_refl _) _)) (by omega)).mono ?_; rintro e w3 ⟨v, rfl, hown, hB3⟩)
        | (refine step_append_lies _ (by rfl) _ _ _ (by rfl) _ 23 i0 _ 8 64 Tryz.underlying31 hi hz0 hz1 hz2 rfl (by omega) v n (xs.flatMap Po.vals) (by rfl) (hown.alloc _) ⟨w3.heap.size, 0, none⟩ 1 1 (Po.vals p) (by rfl) (by rfl)
            (World.news_of_block (cs := #[.int .i64 p.id, .int .i64 p.hour, .int .u8 p.kind, .int .i64 p.party, .int .i64 p.parcel, .int .i64 p.amount, .int .i64 p.reason, .int .i64 p.known]) (t := 23) (fr := (0, 0)) (heap_alloc_new w3 _)) (by simp [Po.vals, Value.oneCell'])
            (by omega) (by unfold maxLen; omega) (by omega) (Nat.le_trans hB3.size (by simp)) _ rfl ?_; intro g cap' w4 hown4 hgrow hat hlt)
        | (refine step_append_lies _ (by rfl) _ _ _ (by rfl) _ 23 i0 _ 8 64 Tryz.underlying31 hi hz0 hz1 hz2 rfl (by omega) v n (xs.flatMap Po.vals) (by rfl) hown ⟨w2.heap.size, 0, none⟩ 1 1 (Po.vals p) (by rfl) (by rfl)
            (World.news_of_block (cs := #[.int .i64 p.id, .int .i64 p.hour, .int .u8 p.kind, .int .i64 p.party, .int .i64 p.parcel, .int .i64 p.amount, .int .i64 p.reason, .int .i64 p.known]) (t := 23) (fr := (0, 0)) ((hB3.block _ (by simp)).trans (heap_alloc_new _ _))) (by simp [Po.vals, Value.oneCell'])
            (by omega) (by unfold maxLen; omega) (by omega) hB3.size _ rfl ?_; intro g cap' w4 hown4 hgrow hat hlt))
    all_goals
      have Hown4 := Lib.hid hown4
      have Hgrow := Lib.hid hgrow
      have Hown := Lib.hid hown
      have HB3 := Lib.hid hB3
      clear hown4 hgrow hown hB3
      go_wp2_with fail
      go_ret2
    · refine ⟨?_, .inr (.inr ⟨Hc.out, Hr.out, _, rfl, ?_⟩)⟩
      · have hb := ((below_drewN HB2.out 1).trans (HB3.out.mono HB2.out.size)).alloc (Nat.le_trans HB2.out.size HB3.out.size) (.cells #[.int .i64 p.id, .int .i64 p.hour, .int .u8 p.kind, .int .i64 p.party, .int .i64 p.parcel, .int .i64 p.amount, .int .i64 p.reason, .int .i64 p.known] 23)
        exact hb.grown Hgrow.out hb.size (fun k e => Nat.le_trans HB2.out.size (Hown.out.lt k e).1)
      · rw [List.flatMap_append, Hl.out]
        have := ownsRow_mono Hown4.out (b' := w.heap.size) HB2.out.size
        simpa using this
    · refine ⟨?_, .inr (.inr ⟨Hc.out, Hr.out, _, rfl, ?_⟩)⟩
      · have hb := ((below_drewN HB2.out 1).alloc HB2.out.size (.cells #[.int .i64 p.id, .int .i64 p.hour, .int .u8 p.kind, .int .i64 p.party, .int .i64 p.parcel, .int .i64 p.amount, .int .i64 p.reason, .int .i64 p.known] 23)).trans (HB3.out.mono (Nat.le_trans HB2.out.size (by simp)))
        exact hb.grown Hgrow.out hb.size (fun k e => Nat.le_trans (Nat.le_trans HB2.out.size (by simp)) (Hown.out.lt k e).1)
      · rw [List.flatMap_append, Hl.out]
        have := ownsRow_mono Hown4.out (b' := w.heap.size) (Nat.le_trans HB2.out.size (by simp))
        simpa using this
  · have HB := Lib.hid (below_then Hb0.out hB (Nat.le_refl _))
    have Hc := Lib.hid hc
    have hc1 : ((checkL xs).2 != 0) = true := by simp [hc]
    clear hB hc hbx h1
    go_wp2_with fail
    go_ret2
    exact ⟨HB.out, .inl ⟨Hc.out, rfl⟩⟩
end Go.Proofs.YtjleembfocghlaaGreatDoor
