/- The walks of slices.Clone of papers and Append. -/
import Derived.Test.YtehplmeckfinoaaGreatDoorCCheck
import Derived.Test.YtehplmeckfinoaaGreatDoorRow
import Derived.Deep.RegionHeld3
import Derived.Laws.AppendOwnNone
set_option linter.unusedSimpArgs false
set_option linter.unusedVariables false
namespace Go.Proofs.YtehplmeckfinoaaGreatDoor
open Go.RowKit
theorem keepPa {W W' : World} {B : Nat} {p : Pa} (h : W.cell? ⟨B, 0, none⟩ = some (.int .i64 p.id) ∧ W.cell? ⟨B, 1, none⟩ = some (.int .i64 p.known) ∧ W.cell? ⟨B, 2, none⟩ = some (.int .u8 p.kind) ∧ W.cell? ⟨B, 3, none⟩ = some (.int .i64 p.loss) ∧ W.cell? ⟨B, 4, none⟩ = some (.int .i64 p.pack) ∧ W.cell? ⟨B, 5, none⟩ = some (.int .i64 p.inn) ∧ W.cell? ⟨B, 6, none⟩ = some (.string ⟨p.mark.toArray⟩) ∧ W.cell? ⟨B, 7, none⟩ = some (.string ⟨p.goods.toArray⟩) ∧ W.cell? ⟨B, 8, none⟩ = some (.int .i64 p.low) ∧ W.cell? ⟨B, 9, none⟩ = some (.int .i64 p.high) ∧ W.cell? ⟨B, 10, none⟩ = some (.int .i64 p.pieces) ∧ W.cell? ⟨B, 11, none⟩ = some (.int .i64 p.owner) ∧ W.cell? ⟨B, 12, none⟩ = some (.int .i64 p.count) ∧ W.cell? ⟨B, 13, none⟩ = some (.int .i64 p.of)) (hB : Below W.heap.size W W') :
 W'.cell? ⟨B, 0, none⟩ = some (.int .i64 p.id) ∧ W'.cell? ⟨B, 1, none⟩ = some (.int .i64 p.known) ∧ W'.cell? ⟨B, 2, none⟩ = some (.int .u8 p.kind) ∧ W'.cell? ⟨B, 3, none⟩ = some (.int .i64 p.loss) ∧ W'.cell? ⟨B, 4, none⟩ = some (.int .i64 p.pack) ∧ W'.cell? ⟨B, 5, none⟩ = some (.int .i64 p.inn) ∧ W'.cell? ⟨B, 6, none⟩ = some (.string ⟨p.mark.toArray⟩) ∧ W'.cell? ⟨B, 7, none⟩ = some (.string ⟨p.goods.toArray⟩) ∧ W'.cell? ⟨B, 8, none⟩ = some (.int .i64 p.low) ∧ W'.cell? ⟨B, 9, none⟩ = some (.int .i64 p.high) ∧ W'.cell? ⟨B, 10, none⟩ = some (.int .i64 p.pieces) ∧ W'.cell? ⟨B, 11, none⟩ = some (.int .i64 p.owner) ∧ W'.cell? ⟨B, 12, none⟩ = some (.int .i64 p.count) ∧ W'.cell? ⟨B, 13, none⟩ = some (.int .i64 p.of) := by
 have hlt : B < W.heap.size := World.block_lt_of_cell? W _ h.1
 have e : ∀ j, W'.cell? ⟨B, j, none⟩ = W.cell? ⟨B, j, none⟩ := fun j => hB.cell (p := ⟨B, j, none⟩) hlt
 simpa only [e] using h
theorem keepPaG {W W' : World} {B : Nat} {p : Pa} {row : Option Nat} (h : W.cell? ⟨B, 0, none⟩ = some (.int .i64 p.id) ∧ W.cell? ⟨B, 1, none⟩ = some (.int .i64 p.known) ∧ W.cell? ⟨B, 2, none⟩ = some (.int .u8 p.kind) ∧ W.cell? ⟨B, 3, none⟩ = some (.int .i64 p.loss) ∧ W.cell? ⟨B, 4, none⟩ = some (.int .i64 p.pack) ∧ W.cell? ⟨B, 5, none⟩ = some (.int .i64 p.inn) ∧ W.cell? ⟨B, 6, none⟩ = some (.string ⟨p.mark.toArray⟩) ∧ W.cell? ⟨B, 7, none⟩ = some (.string ⟨p.goods.toArray⟩) ∧ W.cell? ⟨B, 8, none⟩ = some (.int .i64 p.low) ∧ W.cell? ⟨B, 9, none⟩ = some (.int .i64 p.high) ∧ W.cell? ⟨B, 10, none⟩ = some (.int .i64 p.pieces) ∧ W.cell? ⟨B, 11, none⟩ = some (.int .i64 p.owner) ∧ W.cell? ⟨B, 12, none⟩ = some (.int .i64 p.count) ∧ W.cell? ⟨B, 13, none⟩ = some (.int .i64 p.of)) (hg : W.grownBy W' row) (hne : some B ≠ row) :
 W'.cell? ⟨B, 0, none⟩ = some (.int .i64 p.id) ∧ W'.cell? ⟨B, 1, none⟩ = some (.int .i64 p.known) ∧ W'.cell? ⟨B, 2, none⟩ = some (.int .u8 p.kind) ∧ W'.cell? ⟨B, 3, none⟩ = some (.int .i64 p.loss) ∧ W'.cell? ⟨B, 4, none⟩ = some (.int .i64 p.pack) ∧ W'.cell? ⟨B, 5, none⟩ = some (.int .i64 p.inn) ∧ W'.cell? ⟨B, 6, none⟩ = some (.string ⟨p.mark.toArray⟩) ∧ W'.cell? ⟨B, 7, none⟩ = some (.string ⟨p.goods.toArray⟩) ∧ W'.cell? ⟨B, 8, none⟩ = some (.int .i64 p.low) ∧ W'.cell? ⟨B, 9, none⟩ = some (.int .i64 p.high) ∧ W'.cell? ⟨B, 10, none⟩ = some (.int .i64 p.pieces) ∧ W'.cell? ⟨B, 11, none⟩ = some (.int .i64 p.owner) ∧ W'.cell? ⟨B, 12, none⟩ = some (.int .i64 p.count) ∧ W'.cell? ⟨B, 13, none⟩ = some (.int .i64 p.of) := by
 have hlt : B < W.heap.size := World.block_lt_of_cell? W _ h.1
 have e : ∀ j, W'.cell? ⟨B, j, none⟩ = W.cell? ⟨B, j, none⟩ := fun j => hg.cell_far ⟨B, j, none⟩ hlt hne
 simpa only [e] using h
theorem ownsRow_mono {w : World} {b b' : Nat} {e : TypeId} {k n : Nat} {v : Value} {xs : List Value} (h : w.ownsRow b e k v n xs) (hb : b' ≤ b) : w.ownsRow b' e k v n xs := by
 refine ⟨h.1, ?_⟩
 rcases h.2 with h1 | ⟨g, cap, cur, hv, hg, r⟩
 · exact .inl h1
 · exact .inr ⟨g, cap, cur, hv, Nat.le_trans hb hg, r⟩
theorem info_pa : (Tryz.prog.info? 42).map (fun i => (i.zero, i.size, i.bytes)) = some (some (.agg #[.int .i64 pa0.id, .int .i64 pa0.known, .int .u8 pa0.kind, .int .i64 pa0.loss, .int .i64 pa0.pack, .int .i64 pa0.inn, .string ⟨#[]⟩, .string ⟨#[]⟩, .int .i64 pa0.low, .int .i64 pa0.high, .int .i64 pa0.pieces, .int .i64 pa0.owner, .int .i64 pa0.count, .int .i64 pa0.of]), 14, 128) := by kernel_rfl
set_option maxHeartbeats 2000000 in
set_option maxRecDepth 100000 in
theorem clonePa_any (a : Option Addr) (n cap : Nat) (xs : List Pa) (w : World) (h : Rd Pa.vals 14 w a n xs) (hn : n ≤ 1000000) :
 Calls Tryz.prog 42 #[.slice a n cap] w fun e w' => ∃ v, e = .returned v ∧ w'.ownsRow w.heap.size 42 14 v n (xs.flatMap Pa.vals) ∧ Below w.heap.size w w' := by
 have q22 : ∀ (w : World) (a : Option Addr) (n c n' c' : Nat), (binOp .eql 22 (.slice a n c) (.slice none n' c')).run Tryz.prog w = .ok (.bool a.isNone) w := fun w a n c n' c' => Lib.run_eql_slice_nil w _ _ a n c n' c' Tryz.underlying22
 cases a with
 | none =>
   obtain ⟨rfl, rfl⟩ := h.nil_of
   go_enter Tryz.func42, Tryz.ntmps42
   go_wp2_with fail
   go_ret
   exact ⟨_, rfl, World.ownsRow_nil _ _ _ _, Below.refl _ _⟩
 | some ad =>
   obtain ⟨i0, hi, hz0, hz1, hz2⟩ := info_parts info_pa
   have H := Hd h
   clear h
   go_enter Tryz.func42, Tryz.ntmps42
   go_wp2_with (at_builtin; refine wpList_append_own _ rfl _ _ 22 rfl w.heap.size 42 i0 _ 14 128 Tryz.underlying22 hi hz0 hz1 hz2 rfl (by decide) _ 0 [] rfl (World.ownsRow_made w #[] 0 (Nat.le_refl _) (Nat.zero_le _) (by simp)) ad n cap (xs.flatMap Pa.vals) rfl ?qc1 ?qc2 ?qc3 ?qc4 ?qc5 ?qc6 ?_)
   case qc1 => rw [flat_length Pa.vals_length, H.out.len]
   case qc2 =>
    intro j u hj
    exact Rd.news (H.out.below' ((Below.refl _ w).alloc (Nat.le_refl _) _)) Pa.vals_length j u hj
   case qc3 => exact pa_one xs
   case qc4 => unfold maxLen; omega
   case qc5 => omega
   case qc6 => simp
   intro v' w1 hown hgrow hnil
   go_wp2_with fail
   go_ret
   refine ⟨v', rfl, by simpa using hown, ?_⟩
   exact ((Below.refl _ w).alloc (Nat.le_refl _) _).grown hgrow (by simp) (by intro k hk; simp [Value.ownBlock] at hk; omega)
def AppendC (w : World) (xs : List Pa) (p : Pa) (e : Ending) (w' : World) : Prop :=
 Below w.heap.size w w' ∧ ((¬ (checkC xs).2 = 0 ∧ e = .returned (.tuple #[.slice none 0 0, .int .i64 (checkC xs).2])) ∨
  ((checkC xs).2 = 0 ∧ ¬ followsL xs p = 0 ∧ e = .returned (.tuple #[.slice none 0 0, .int .i64 (followsL xs p)])) ∨
  ((checkC xs).2 = 0 ∧ followsL xs p = 0 ∧ ∃ v, e = .returned (.tuple #[v, .int .i64 0]) ∧ w'.ownsRow w.heap.size 42 14 v (xs.length + 1) ((xs ++ [p]).flatMap Pa.vals)))
theorem followsL_len {xs : List Pa} {p : Pa} (h : followsL xs p = 0) : xs.length < 300 := by
 refine Nat.lt_of_not_le fun h1 => ?_
 unfold followsL at h
 rw [if_pos h1] at h
 cases h
set_option maxHeartbeats 4000000 in
set_option maxRecDepth 100000 in
theorem append_any (a : Option Addr) (n cap : Nat) (xs : List Pa) (hs : ∀ x ∈ xs, x.Short) (p : Pa) (hp : p.Short) (w : World) (h : Rd Pa.vals 14 w a n xs) (hcap : n ≤ cap) :
 Calls Tryz.prog 20 #[.slice a n cap, .agg #[.int .i64 p.id, .int .i64 p.known, .int .u8 p.kind, .int .i64 p.loss, .int .i64 p.pack, .int .i64 p.inn, .string ⟨p.mark.toArray⟩, .string ⟨p.goods.toArray⟩, .int .i64 p.low, .int .i64 p.high, .int .i64 p.pieces, .int .i64 p.owner, .int .i64 p.count, .int .i64 p.of]] w (AppendC w xs p) := by
 have hb0 := al' (Below.refl w.heap.size w) (.cells #[.int .i64 p.id, .int .i64 p.known, .int .u8 p.kind, .int .i64 p.loss, .int .i64 p.pack, .int .i64 p.inn, .string ⟨p.mark.toArray⟩, .string ⟨p.goods.toArray⟩, .int .i64 p.low, .int .i64 p.high, .int .i64 p.pieces, .int .i64 p.owner, .int .i64 p.count, .int .i64 p.of] 42)
 have hb := BoxG.made w p.vals 42
 simp only [Pa.vals] at hb
 have H1 := Hd (h.below' hb0)
 have HB0 := Hd hb0
 have HX0 := Hd (show BoxG (w.alloc (.cells #[.int .i64 p.id, .int .i64 p.known, .int .u8 p.kind, .int .i64 p.loss, .int .i64 p.pack, .int .i64 p.inn, .string ⟨p.mark.toArray⟩, .string ⟨p.goods.toArray⟩, .int .i64 p.low, .int .i64 p.high, .int .i64 p.pieces, .int .i64 p.owner, .int .i64 p.count, .int .i64 p.of] 42)) w.heap.size p.vals from hb)
 have Hl := Hd h.len
 have HS := Hd hs
 have HP := Hd hp
 clear hb0 hb h hs hp
 go_enter Tryz.func20, Tryz.ntmps20
 go_upto_region 1 with (fail)
 generalize w.alloc (.cells #[.int .i64 p.id, .int .i64 p.known, .int .u8 p.kind, .int .i64 p.loss, .int .i64 p.pack, .int .i64 p.inn, .string ⟨p.mark.toArray⟩, .string ⟨p.goods.toArray⟩, .int .i64 p.low, .int .i64 p.high, .int .i64 p.pieces, .int .i64 p.owner, .int .i64 p.count, .int .i64 p.of] 42) = w1 at *
 go_wp2_with fail
 refine (check_any a n cap xs HS.out _ H1.out hcap).mono ?_
 rintro e w2 ⟨rfl, hB⟩
 have HX2 := Hd (HX0.out.below' hB)
 have H2 := Hd (H1.out.below' hB)
 have HB2 := Hd (HB0.out.trans (hB.mono HB0.out.size))
 clear hB HX0 H1 HB0
 obtain ⟨ci, hci⟩ : ∃ i, (checkC xs).1 = i := ⟨_, rfl⟩
 obtain ⟨ce, hce⟩ : ∃ i, (checkC xs).2 = i := ⟨_, rfl⟩
 have HC := Hd hce
 rw [hci, hce]
 clear hci hce
 by_cases hc : ce = 0
 case neg =>
  have hc1 : (ce != 0) = true := by simp [hc]
  have HCn := Hd hc
  clear hc
  go_wp2_with fail
  go_ret2
  exact ⟨HB2.out, .inl ⟨by rw [HC.out]; exact HCn.out, by rw [HC.out] <;> rfl⟩⟩
 subst hc
 obtain ⟨c0, c1, c2, c3, c4, c5, c6, c7, c8, c9, c10, c11, c12, c13⟩ := HX2.out.pa
 go_wp2_with fail
 refine (follows_any a n cap xs p HP.out _ H2.out).mono ?_
 rintro e w3 ⟨rfl, hB⟩
 have HX3 := Hd (HX2.out.below' hB)
 have H3 := Hd (H2.out.below' hB)
 have HB3 := Hd (HB2.out.trans (hB.mono HB2.out.size))
 clear hB HX2 H2 HB2 c0 c1 c2 c3 c4 c5 c6 c7 c8 c9 c10 c11 c12 c13
 obtain ⟨fe, hfe⟩ : ∃ i, followsL xs p = i := ⟨_, rfl⟩
 have HF := Hd hfe
 rw [hfe]
 by_cases hr : fe = 0
 case neg =>
  have hr1 : (fe != 0) = true := by simp [hr]
  have Hr := Hd hr
  clear hr hfe
  go_wp2_with fail
  go_ret2
  exact ⟨HB3.out, .inr (.inl ⟨HC.out, by rw [HF.out]; exact Hr.out, by rw [HF.out] <;> rfl⟩)⟩
 subst hr
 have hln : n < 300 := by rw [← Hl.out]; exact followsL_len hfe
 clear hfe
 obtain ⟨i0, hi, hz0, hz1, hz2⟩ := info_parts info_pa
 have h3 := H3.out
 have hzw := HX3.out.1
 have Hbase := Hd HB3.out.size
 obtain ⟨c0, c1, c2, c3, c4, c5, c6, c7, c8, c9, c10, c11, c12, c13⟩ := HX3.out.pa
 go_upto_region 7 with (fail)
 go_region_held3 (fun w' => w'.cell? ⟨w.heap.size, 0, none⟩ = some (.int .i64 p.id) ∧ w'.cell? ⟨w.heap.size, 1, none⟩ = some (.int .i64 p.known) ∧ w'.cell? ⟨w.heap.size, 2, none⟩ = some (.int .u8 p.kind) ∧ w'.cell? ⟨w.heap.size, 3, none⟩ = some (.int .i64 p.loss) ∧ w'.cell? ⟨w.heap.size, 4, none⟩ = some (.int .i64 p.pack) ∧ w'.cell? ⟨w.heap.size, 5, none⟩ = some (.int .i64 p.inn) ∧ w'.cell? ⟨w.heap.size, 6, none⟩ = some (.string ⟨p.mark.toArray⟩) ∧ w'.cell? ⟨w.heap.size, 7, none⟩ = some (.string ⟨p.goods.toArray⟩) ∧ w'.cell? ⟨w.heap.size, 8, none⟩ = some (.int .i64 p.low) ∧ w'.cell? ⟨w.heap.size, 9, none⟩ = some (.int .i64 p.high) ∧ w'.cell? ⟨w.heap.size, 10, none⟩ = some (.int .i64 p.pieces) ∧ w'.cell? ⟨w.heap.size, 11, none⟩ = some (.int .i64 p.owner) ∧ w'.cell? ⟨w.heap.size, 12, none⟩ = some (.int .i64 p.count) ∧ w'.cell? ⟨w.heap.size, 13, none⟩ = some (.int .i64 p.of))
  (first | go_keep | exact keepPa (by assumption) hB3 | exact keepPaG (by assumption) hgrow (fun e => by have := (hown.lt _ e.symm).1; simp at this; omega))
  (first
    | (go_at_call 42; refine (clonePa_any a n cap xs _ (by first | exact h3.drewN 1 | exact (h3.drewN 1).below' ((Below.refl _ _).alloc (Nat.le_refl _) _)) (by omega)).mono ?_; rintro e w4 ⟨v, rfl, hown, hB3⟩)
    | (refine step_append_lies _ (by rfl) _ _ _ (by rfl) _ 42 i0 _ 14 128 Tryz.underlying22 hi hz0 hz1 hz2 rfl (by omega) v n (xs.flatMap Pa.vals) (by rfl) (hown.alloc _) ⟨w4.heap.size, 0, none⟩ 1 1 (Pa.vals p) (by rfl) (by rfl)
        (World.news_of_block (cs := #[.int .i64 p.id, .int .i64 p.known, .int .u8 p.kind, .int .i64 p.loss, .int .i64 p.pack, .int .i64 p.inn, .string ⟨p.mark.toArray⟩, .string ⟨p.goods.toArray⟩, .int .i64 p.low, .int .i64 p.high, .int .i64 p.pieces, .int .i64 p.owner, .int .i64 p.count, .int .i64 p.of]) (t := 42) (fr := (0, 0)) (heap_alloc_new w4 _)) (by simp [Pa.vals, Value.oneCell'])
        (by omega) (by unfold maxLen; omega) (by omega) (Nat.le_trans hB3.size (by simp)) _ rfl ?_; intro g cap' w5 hown4 hgrow hat hlt)
    | (refine step_append_lies _ (by rfl) _ _ _ (by rfl) _ 42 i0 _ 14 128 Tryz.underlying22 hi hz0 hz1 hz2 rfl (by omega) v n (xs.flatMap Pa.vals) (by rfl) hown ⟨w3.heap.size, 0, none⟩ 1 1 (Pa.vals p) (by rfl) (by rfl)
        (World.news_of_block (cs := #[.int .i64 p.id, .int .i64 p.known, .int .u8 p.kind, .int .i64 p.loss, .int .i64 p.pack, .int .i64 p.inn, .string ⟨p.mark.toArray⟩, .string ⟨p.goods.toArray⟩, .int .i64 p.low, .int .i64 p.high, .int .i64 p.pieces, .int .i64 p.owner, .int .i64 p.count, .int .i64 p.of]) (t := 42) (fr := (0, 0)) ((hB3.block _ (by simp)).trans (heap_alloc_new _ _))) (by simp [Pa.vals, Value.oneCell'])
        (by omega) (by unfold maxLen; omega) (by omega) hB3.size _ rfl ?_; intro g cap' w5 hown4 hgrow hat hlt))
 all_goals
  have Hown4 := Hd hown4
  have Hgrow := Hd hgrow
  have Hown := Hd hown
  have HBc := Hd hB3
  clear hown4 hgrow hown hB3
  go_wp2_with fail
  go_ret2
 · refine ⟨?_, .inr (.inr ⟨HC.out, HF.out, _, rfl, ?_⟩)⟩
   · have hb := ((below_drewN HB3.out 1).trans (HBc.out.mono HB3.out.size)).alloc (Nat.le_trans HB3.out.size HBc.out.size) (.cells #[.int .i64 p.id, .int .i64 p.known, .int .u8 p.kind, .int .i64 p.loss, .int .i64 p.pack, .int .i64 p.inn, .string ⟨p.mark.toArray⟩, .string ⟨p.goods.toArray⟩, .int .i64 p.low, .int .i64 p.high, .int .i64 p.pieces, .int .i64 p.owner, .int .i64 p.count, .int .i64 p.of] 42)
     exact hb.grown Hgrow.out hb.size (fun k e => Nat.le_trans HB3.out.size (Hown.out.lt k e).1)
   · rw [List.flatMap_append, Hl.out]
     have := ownsRow_mono Hown4.out (b' := w.heap.size) HB3.out.size
     simpa using this
 · refine ⟨?_, .inr (.inr ⟨HC.out, HF.out, _, rfl, ?_⟩)⟩
   · have hb := ((below_drewN HB3.out 1).alloc HB3.out.size (.cells #[.int .i64 p.id, .int .i64 p.known, .int .u8 p.kind, .int .i64 p.loss, .int .i64 p.pack, .int .i64 p.inn, .string ⟨p.mark.toArray⟩, .string ⟨p.goods.toArray⟩, .int .i64 p.low, .int .i64 p.high, .int .i64 p.pieces, .int .i64 p.owner, .int .i64 p.count, .int .i64 p.of] 42)).trans (HBc.out.mono (Nat.le_trans HB3.out.size (by simp)))
     exact hb.grown Hgrow.out hb.size (fun k e => Nat.le_trans (Nat.le_trans HB3.out.size (by simp)) (Hown.out.lt k e).1)
   · rw [List.flatMap_append, Hl.out]
     have := ownsRow_mono Hown4.out (b' := w.heap.size) (Nat.le_trans HB3.out.size (by simp))
     simpa using this
theorem step_append_own' {P : Program} (w : World) {ops : Array Oper} {o : Oper} {a : Act} {K : Act → World → Prop} {Q : Exit → Act → World → Prop} {E : Prop} (hgd : o.guard = none) (s x : Operand) (t : TypeId)
 (ho : o.op = .call { callee := .builtin .append, args := #[s, x], argTypes := #[t, t] })
 (base : Nat) (e : TypeId) (i : TypeInfo) (z : Value) (size bytes : Nat) (ht : P.underlying t = some (.slice e)) (hi : P.info? e = some i) (hz : i.zero = some z)
 (hsize : i.size = size) (hby : i.bytes = bytes) (hzs : z.cells.size = size) (hsz : 0 < size)
 (v : Value) (n : Nat) (xs : List Value) (hs : a.eval s = v) (hown : w.ownsRow base e size v n xs)
 (ad : Addr) (m c : Nat) (news : List Value) (hx : a.eval x = .slice (some ad) m c) (hl : news.length = m * size) (hnews : ∀ j u, news[j]? = some u → w.cell? (ad.add j) = some u) (h1 : ∀ u ∈ news, u.oneCell' = true)
 (h63 : n + m ≤ maxLen) (hbytes : (n + m) * bytes ≤ 140737488355328) (hbase : base ≤ w.heap.size)
 (h : ∀ v' w', w'.ownsRow base e size v' (n + m) (xs ++ news) → w.grownBy w' v.ownBlock → (v' = .slice none 0 0 ↔ v = .slice none 0 0 ∧ m = 0) → K (a.put o.dst v') w') :
 if Region.wanted o (yielded ops a.tmps) = true then Oper.wp P o a w K Q else E := by
 have hw : Region.wanted o (yielded ops a.tmps) = true := by simp [Region.wanted, hgd]
 rw [if_pos hw]
 exact wp_append_own w s x t ho base e i z size bytes ht hi hz hsize hby hzs hsz v n xs hs hown ad m c news hx hl hnews h1 h63 hbytes hbase h
theorem step_append_none {P : Program} (w : World) {ops : Array Oper} {o : Oper} {a : Act} {K : Act → World → Prop} {Q : Exit → Act → World → Prop} {E : Prop} (hgd : o.guard = none) (s x : Operand) (t : TypeId)
 (ho : o.op = .call { callee := .builtin .append, args := #[s, x], argTypes := #[t, t] })
 (base : Nat) (e : TypeId) (i : TypeInfo) (size : Nat) (ht : P.underlying t = some (.slice e)) (hi : P.info? e = some i)
 (v : Value) (n : Nat) (xs : List Value) (hs : a.eval s = v) (hown : w.ownsRow base e size v n xs) (hx : a.eval x = .slice none 0 0)
 (h : K (a.put o.dst v) w) :
 if Region.wanted o (yielded ops a.tmps) = true then Oper.wp P o a w K Q else E := by
 have hw : Region.wanted o (yielded ops a.tmps) = true := by simp [Region.wanted, hgd]
 rw [if_pos hw]
 have hrun := run_append_owned_none (P := P) (w := w) base t o.type e i size ht hi v n xs hown
 unfold Oper.wp
 simp [execOp, ho, resolve, invoke, builtin, hs, hx, hrun, Result.andThen]
 exact h
theorem grownBy_alloc_size (w : World) (o : Obj) : w.heap.size ≤ (w.alloc o).heap.size := by simp
theorem heap_alloc_new' (w : World) (o : Obj) {k : Nat} (h : w.heap.size = k) : (w.alloc o).heap[k]? = some o := by subst h; exact heap_alloc_new w o
theorem alloc2_block (w : World) (o o' : Obj) : ((w.alloc o).alloc o').heap[w.heap.size]? = some o := by
 rw [(World.grownBy_alloc (w.alloc o) o' none).block w.heap.size (by simp) (by simp)]; exact heap_alloc_new w o
theorem ownsRow_made' {base : Nat} {e : TypeId} {size : Nat} (w : World) {k : Nat} (hb : base ≤ w.heap.size) (h : w.heap.size = k) : (w.alloc (.cells #[] e)).ownsRow base e size (.slice (some ⟨k, 0, none⟩) 0 0) 0 [] := by
 subst h; exact World.ownsRow_made w #[] 0 hb (Nat.zero_le _) (by simp)
end Go.Proofs.YtehplmeckfinoaaGreatDoor
