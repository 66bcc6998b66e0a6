/- The walk of the reference's Append. -/
import Derived.Test.YtleiapljnjaloaaGreatDoorCRPapers
import Derived.Test.YtleiapljnjaloaaGreatDoorCAppend
import Derived.Laws.AppendOwnNone
import Derived.Test.YtleiapljnjaloaaGreatDoorLater
set_option linter.unusedSimpArgs false
set_option linter.unusedVariables false
namespace Go.Proofs.YtleiapljnjaloaaGreatDoor
open Go.RowKit Go.Shelf
set_option maxHeartbeats 4000000 in
set_option maxRecDepth 100000 in
theorem rappend_any (a : Option Addr) (n cap : Nat) (xs : List Pa) (hs : ∀ x ∈ xs, x.Short) (p : Pa) (hp : p.Short) (w : World) (h : Rd Pa.vals 14 w a n xs) (hn : n ≤ 1000) (hcap : n ≤ cap) (hz : a = none → cap = 0) :
 Calls Tryz.prog 17 #[.slice a n cap, .agg #[.int .i64 p.id, .int .i64 p.known, .int .u8 p.kind, .int .i64 p.loss, .int .i64 p.pack, .int .i64 p.inn, .string ⟨p.mark.toArray⟩, .string ⟨p.goods.toArray⟩, .int .i64 p.low, .int .i64 p.high, .int .i64 p.pieces, .int .i64 p.owner, .int .i64 p.count, .int .i64 p.of]] w (AppendC w xs p) := by
 have hb0 := (Below.refl w.heap.size w).alloc (Nat.le_refl _) (.cells #[.int .i64 p.id, .int .i64 p.known, .int .u8 p.kind, .int .i64 p.loss, .int .i64 p.pack, .int .i64 p.inn, .string ⟨p.mark.toArray⟩, .string ⟨p.goods.toArray⟩, .int .i64 p.low, .int .i64 p.high, .int .i64 p.pieces, .int .i64 p.owner, .int .i64 p.count, .int .i64 p.of] 26)
 have h1 := h.below' hb0
 have hbx := BoxG.made w p.vals 26
 simp only [Pa.vals] at hbx
 have HS := Hd hs
 have HP := Hd hp
 clear hs hp
 have Hb0 := Hd hb0
 have Hl := Hd h.len
 have Hz := Hd hz
 clear hb0 h hz
 go_enter Tryz.func17, Tryz.ntmps17
 go_wp2_with fail
 refine (rcheck_any a n cap xs HS.out _ h1 hcap).mono ?_
 rintro e w1 ⟨rfl, hB⟩
 have hbx1 := hbx.below' hB
 have h2 := h1.below' hB
 have HB := Hd (Hb0.out.trans (hB.mono Hb0.out.size))
 clear hB hbx h1
 obtain ⟨q0, q1, q2, q3, q4, q5, q6, q7, q8, q9, q10, q11, q12, q13⟩ := BoxG.pa (x := p) hbx1
 by_cases hc : (checkC xs).2 = 0
 case neg =>
  have hc1 : ((checkC xs).2 == 0) = false := by simp [hc]
  have hc2 : ((checkC xs).2 != 0) = true := by simp [hc]
  have Hc := Hd hc
  clear hc
  go_wp2_with fail
  go_ret2
  exact ⟨HB.out, .inl ⟨Hc.out, rfl⟩⟩
 have hc1 : ((checkC xs).2 == 0) = true := by simp [hc]
 have Hc := Hd hc
 clear hc
 go_wp2_with fail
 refine (rfollows_any a n cap xs p HP.out _ h2).mono ?_
 rintro e w2 ⟨rfl, hB⟩
 have hbx2 := hbx1.below' hB
 have h3 := h2.below' hB
 have HB2 := Hd (HB.out.trans (hB.mono HB.out.size))
 clear hB hbx1 h2 q0 q1 q2 q3 q4 q5 q6 q7 q8 q9 q10 q11 q12 q13
 obtain ⟨q0, q1, q2, q3, q4, q5, q6, q7, q8, q9, q10, q11, q12, q13⟩ := BoxG.pa (x := p) hbx2
 by_cases hr : followsL xs p = 0
 case neg =>
  have hr1 : (followsL xs p != 0) = true := by simp [hr]
  have Hr := Hd hr
  clear hr
  go_wp2_with fail
  go_ret2
  exact ⟨HB2.out, .inr (.inl ⟨Hc.out, Hr.out, rfl⟩)⟩
 have hr1 : (followsL xs p != 0) = false := by simp [hr]
 have Hr := Hd hr
 clear hr
 have hzw := hbx2.1
 obtain ⟨i0, hi, hz0, hz1, hz2⟩ := info_parts info_pa
 have k1 : ∀ o, Below w2.heap.size w2 (w2.drew.alloc o) := fun o => (drewN_below w2 1).alloc (Nat.le_refl _) o
 have k2 : ∀ o o', Below w2.heap.size w2 ((w2.drew.alloc o).alloc o') := fun o o' => (k1 o).alloc (k1 o).size o'
 have K1 := Hd k1
 have K2 := Hd k2
 have hn4 : n < 300 := by have := followsL_len Hr.out; rw [Hl.out] at this; exact this
 clear k1 k2
 go_wp2_with fail
 cases a with
 | none =>
   have hcz := Hz.out rfl
   subst hcz
   obtain ⟨hn0, hx0⟩ := h3.nil_of
   subst hn0 hx0
   go_region_held3 (fun w' => w'.cell? ⟨w.heap.size, 0, none⟩ = some (.int .i64 p.id) ∧ w'.cell? ⟨w.heap.size, 1, none⟩ = some (.int .i64 p.known) ∧ w'.cell? ⟨w.heap.size, 2, none⟩ = some (.int .u8 p.kind) ∧ w'.cell? ⟨w.heap.size, 3, none⟩ = some (.int .i64 p.loss) ∧ w'.cell? ⟨w.heap.size, 4, none⟩ = some (.int .i64 p.pack) ∧ w'.cell? ⟨w.heap.size, 5, none⟩ = some (.int .i64 p.inn) ∧ w'.cell? ⟨w.heap.size, 6, none⟩ = some (.string ⟨p.mark.toArray⟩) ∧ w'.cell? ⟨w.heap.size, 7, none⟩ = some (.string ⟨p.goods.toArray⟩) ∧ w'.cell? ⟨w.heap.size, 8, none⟩ = some (.int .i64 p.low) ∧ w'.cell? ⟨w.heap.size, 9, none⟩ = some (.int .i64 p.high) ∧ w'.cell? ⟨w.heap.size, 10, none⟩ = some (.int .i64 p.pieces) ∧ w'.cell? ⟨w.heap.size, 11, none⟩ = some (.int .i64 p.owner) ∧ w'.cell? ⟨w.heap.size, 12, none⟩ = some (.int .i64 p.count) ∧ w'.cell? ⟨w.heap.size, 13, none⟩ = some (.int .i64 p.of))
    (first | go_keep | exact keepPaG (by assumption) hgrow4 (by simp [Value.ownBlock]; omega))
    (first
      | (refine step_append_own' _ rfl _ _ _ rfl w2.heap.size 26 i0 _ 14 128 Tryz.underlying22 hi hz0 hz1 hz2 rfl (by omega) (.slice (some ⟨w2.heap.size, 0, none⟩) 0 0) 0 [] rfl ((ownsRow_made' w2.drew (Nat.le_refl _) rfl).alloc _) ⟨w2.heap.size + 1, 0, none⟩ 1 1 (Pa.vals p) rfl rfl (World.news_of_block (cs := #[.int .i64 p.id, .int .i64 p.known, .int .u8 p.kind, .int .i64 p.loss, .int .i64 p.pack, .int .i64 p.inn, .string ⟨p.mark.toArray⟩, .string ⟨p.goods.toArray⟩, .int .i64 p.low, .int .i64 p.high, .int .i64 p.pieces, .int .i64 p.owner, .int .i64 p.count, .int .i64 p.of]) (t := 26) (fr := (0, 0)) (heap_alloc_new' (w2.drew.alloc _) _ (by simp))) (by simp [Pa.vals, Value.oneCell']) (by unfold maxLen; omega) (by omega) (K2.out _ _).size ?_; intro v4 w4 hown4 hgrow4 hnil4)
      | (refine step_append_own' _ rfl _ _ _ rfl w2.heap.size 26 i0 _ 14 128 Tryz.underlying22 hi hz0 hz1 hz2 rfl (by omega) (.slice (some ⟨w2.heap.size + 1, 0, none⟩) 0 0) 0 [] rfl (ownsRow_made' (w2.drew.alloc _) (K1.out _).size (by simp)) ⟨w2.heap.size, 0, none⟩ 1 1 (Pa.vals p) rfl rfl (World.news_of_block (cs := #[.int .i64 p.id, .int .i64 p.known, .int .u8 p.kind, .int .i64 p.loss, .int .i64 p.pack, .int .i64 p.inn, .string ⟨p.mark.toArray⟩, .string ⟨p.goods.toArray⟩, .int .i64 p.low, .int .i64 p.high, .int .i64 p.pieces, .int .i64 p.owner, .int .i64 p.count, .int .i64 p.of]) (t := 26) (fr := (0, 0)) (alloc2_block w2.drew _ _)) (by simp [Pa.vals, Value.oneCell']) (by unfold maxLen; omega) (by omega) (K2.out _ _).size ?_; intro v4 w4 hown4 hgrow4 hnil4)
      | (refine step_append_none _ rfl _ _ _ rfl w2.heap.size 26 i0 14 Tryz.underlying22 hi (.slice (some ⟨w2.heap.size, 0, none⟩) 0 0) 0 [] rfl (ownsRow_made' w2.drew (Nat.le_refl _) rfl) rfl ?_)
      | (refine step_append_none _ rfl _ _ _ rfl w2.heap.size 26 i0 14 Tryz.underlying22 hi (.slice (some ⟨w2.heap.size, 0, none⟩) 0 0) 0 [] rfl ((ownsRow_made' w2.drew (Nat.le_refl _) rfl).alloc _) rfl ?_)
      | (refine step_append_none _ rfl _ _ _ rfl w2.heap.size 26 i0 14 Tryz.underlying22 hi (.slice (some ⟨w2.heap.size + 1, 0, none⟩) 0 0) 0 [] rfl (ownsRow_made' (w2.drew.alloc _) (K1.out _).size (by simp)) rfl ?_))
   all_goals
    have Hown4 := Hd hown4
    have Hgrow4 := Hd hgrow4
    clear hown4 hgrow4 hnil4
    go_wp2_with fail
    go_ret2
   all_goals
    refine ⟨?_, .inr (.inr ⟨Hc.out, Hr.out, _, rfl, ?_⟩)⟩
    rotate_left
    · have := ownsRow_mono Hown4.out (b' := w.heap.size) HB2.out.size
      simpa using this
    first
     | (have b0 := HB2.out.alloc HB2.out.size (.cells #[] 26)
        have b1 := below_drewN (b0.alloc b0.size (.cells #[.int .i64 p.id, .int .i64 p.known, .int .u8 p.kind, .int .i64 p.loss, .int .i64 p.pack, .int .i64 p.inn, .string ⟨p.mark.toArray⟩, .string ⟨p.goods.toArray⟩, .int .i64 p.low, .int .i64 p.high, .int .i64 p.pieces, .int .i64 p.owner, .int .i64 p.count, .int .i64 p.of] 26)) 1
        exact b1.grown Hgrow4.out b1.size (fun k e => by simp [Value.ownBlock] at e; omega))
     | (have b0 := HB2.out.alloc HB2.out.size (.cells #[.int .i64 p.id, .int .i64 p.known, .int .u8 p.kind, .int .i64 p.loss, .int .i64 p.pack, .int .i64 p.inn, .string ⟨p.mark.toArray⟩, .string ⟨p.goods.toArray⟩, .int .i64 p.low, .int .i64 p.high, .int .i64 p.pieces, .int .i64 p.owner, .int .i64 p.count, .int .i64 p.of] 26)
        have b1 := below_drewN (b0.alloc b0.size (.cells #[] 26)) 1
        exact b1.grown Hgrow4.out b1.size (fun k e => by simp [Value.ownBlock] at e; omega))
 | some ad =>
   go_region_held3 (fun w' => w'.cell? ⟨w.heap.size, 0, none⟩ = some (.int .i64 p.id) ∧ w'.cell? ⟨w.heap.size, 1, none⟩ = some (.int .i64 p.known) ∧ w'.cell? ⟨w.heap.size, 2, none⟩ = some (.int .u8 p.kind) ∧ w'.cell? ⟨w.heap.size, 3, none⟩ = some (.int .i64 p.loss) ∧ w'.cell? ⟨w.heap.size, 4, none⟩ = some (.int .i64 p.pack) ∧ w'.cell? ⟨w.heap.size, 5, none⟩ = some (.int .i64 p.inn) ∧ w'.cell? ⟨w.heap.size, 6, none⟩ = some (.string ⟨p.mark.toArray⟩) ∧ w'.cell? ⟨w.heap.size, 7, none⟩ = some (.string ⟨p.goods.toArray⟩) ∧ w'.cell? ⟨w.heap.size, 8, none⟩ = some (.int .i64 p.low) ∧ w'.cell? ⟨w.heap.size, 9, none⟩ = some (.int .i64 p.high) ∧ w'.cell? ⟨w.heap.size, 10, none⟩ = some (.int .i64 p.pieces) ∧ w'.cell? ⟨w.heap.size, 11, none⟩ = some (.int .i64 p.owner) ∧ w'.cell? ⟨w.heap.size, 12, none⟩ = some (.int .i64 p.count) ∧ w'.cell? ⟨w.heap.size, 13, none⟩ = some (.int .i64 p.of))
    (first | go_keep | exact keepPaG (by assumption) hgrow4 (fun e => by have := (hown3.lt _ e.symm).1; omega) | exact keepPaG (by assumption) hgrow3 (by simp [Value.ownBlock]; omega))
    (first
      | (refine step_append_own' _ rfl _ _ _ rfl w2.heap.size 26 i0 _ 14 128 Tryz.underlying22 hi hz0 hz1 hz2 rfl (by omega) v3 (0 + n) ([] ++ xs.flatMap Pa.vals) rfl (hown3.alloc _) ⟨w3.heap.size, 0, none⟩ 1 1 (Pa.vals p) rfl rfl (World.news_of_block (cs := #[.int .i64 p.id, .int .i64 p.known, .int .u8 p.kind, .int .i64 p.loss, .int .i64 p.pack, .int .i64 p.inn, .string ⟨p.mark.toArray⟩, .string ⟨p.goods.toArray⟩, .int .i64 p.low, .int .i64 p.high, .int .i64 p.pieces, .int .i64 p.owner, .int .i64 p.count, .int .i64 p.of]) (t := 26) (fr := (0, 0)) (heap_alloc_new w3 _)) (by simp [Pa.vals, Value.oneCell']) (by unfold maxLen; omega) (by omega)  (Nat.le_trans hsz3 (grownBy_alloc_size w3 _)) ?_; intro v4 w4 hown4 hgrow4 hnil4)
      | (refine step_append_own' _ rfl _ _ _ rfl w2.heap.size 26 i0 _ 14 128 Tryz.underlying22 hi hz0 hz1 hz2 rfl (by omega) v3 (0 + n) ([] ++ xs.flatMap Pa.vals) rfl hown3 ⟨w2.heap.size + 1, 0, none⟩ 1 1 (Pa.vals p) rfl rfl (World.news_of_block (cs := #[.int .i64 p.id, .int .i64 p.known, .int .u8 p.kind, .int .i64 p.loss, .int .i64 p.pack, .int .i64 p.inn, .string ⟨p.mark.toArray⟩, .string ⟨p.goods.toArray⟩, .int .i64 p.low, .int .i64 p.high, .int .i64 p.pieces, .int .i64 p.owner, .int .i64 p.count, .int .i64 p.of]) (t := 26) (fr := (0, 0)) (show w3.heap[w2.heap.size + 1]? = _ from (hgrow3.block _ (by simp) (by simp [Value.ownBlock])).trans (heap_alloc_new' (w2.drew.alloc _) _ (by simp)))) (by simp [Pa.vals, Value.oneCell']) (by unfold maxLen; omega) (by omega)  hsz3 ?_; intro v4 w4 hown4 hgrow4 hnil4)
      | (refine step_append_own' _ rfl _ _ _ rfl w2.heap.size 26 i0 _ 14 128 Tryz.underlying22 hi hz0 hz1 hz2 rfl (by omega) v3 (0 + n) ([] ++ xs.flatMap Pa.vals) rfl hown3 ⟨w2.heap.size, 0, none⟩ 1 1 (Pa.vals p) rfl rfl (World.news_of_block (cs := #[.int .i64 p.id, .int .i64 p.known, .int .u8 p.kind, .int .i64 p.loss, .int .i64 p.pack, .int .i64 p.inn, .string ⟨p.mark.toArray⟩, .string ⟨p.goods.toArray⟩, .int .i64 p.low, .int .i64 p.high, .int .i64 p.pieces, .int .i64 p.owner, .int .i64 p.count, .int .i64 p.of]) (t := 26) (fr := (0, 0)) (show w3.heap[w2.heap.size]? = _ from (hgrow3.block _ (by simp; omega) (by simp [Value.ownBlock])).trans (alloc2_block w2.drew _ _))) (by simp [Pa.vals, Value.oneCell']) (by unfold maxLen; omega) (by omega)  hsz3 ?_; intro v4 w4 hown4 hgrow4 hnil4)
      | (refine step_append_own' _ rfl _ _ _ rfl w2.heap.size 26 i0 _ 14 128 Tryz.underlying22 hi hz0 hz1 hz2 rfl (by omega) (.slice (some ⟨w2.heap.size, 0, none⟩) 0 0) 0 [] rfl (World.ownsRow_made w2.drew #[] 0 (Nat.le_refl _) (Nat.zero_le _) rfl) ad n cap (xs.flatMap Pa.vals) rfl (by rw [flat_length Pa.vals_length, Hl.out])
          (Rd.news (h3.below' (K1.out _)) Pa.vals_length) (pa_one _) (by unfold maxLen; omega) (by omega) (K1.out _).size ?_; intro v3 w3 hown3 hgrow3 hnil3; have hsz3 := Nat.le_trans (by simp; try omega : w2.heap.size ≤ _) hgrow3.size)
      | (refine step_append_own' _ rfl _ _ _ rfl w2.heap.size 26 i0 _ 14 128 Tryz.underlying22 hi hz0 hz1 hz2 rfl (by omega) (.slice (some ⟨w2.heap.size, 0, none⟩) 0 0) 0 [] rfl ((World.ownsRow_made w2.drew #[] 0 (Nat.le_refl _) (Nat.zero_le _) rfl).alloc _) ad n cap (xs.flatMap Pa.vals) rfl (by rw [flat_length Pa.vals_length, Hl.out])
          (Rd.news (h3.below' (K2.out _ _)) Pa.vals_length) (pa_one _) (by unfold maxLen; omega) (by omega) (K2.out _ _).size ?_; intro v3 w3 hown3 hgrow3 hnil3; have hsz3 := Nat.le_trans (by simp; try omega : w2.heap.size ≤ _) hgrow3.size)
      | (refine step_append_own' _ rfl _ _ _ rfl w2.heap.size 26 i0 _ 14 128 Tryz.underlying22 hi hz0 hz1 hz2 rfl (by omega) (.slice (some ⟨w2.heap.size + 1, 0, none⟩) 0 0) 0 [] rfl (ownsRow_made' (w2.drew.alloc _) (K1.out _).size (by simp)) ad n cap (xs.flatMap Pa.vals) rfl (by rw [flat_length Pa.vals_length, Hl.out])
          (Rd.news (h3.below' (K2.out _ _)) Pa.vals_length) (pa_one _) (by unfold maxLen; omega) (by omega) (K2.out _ _).size ?_; intro v3 w3 hown3 hgrow3 hnil3; have hsz3 := Nat.le_trans (by simp; try omega : w2.heap.size ≤ _) hgrow3.size))
   all_goals
    have Hown4 := Hd hown4
    have Hgrow3 := Hd hgrow3
    have Hgrow4 := Hd hgrow4
    have Hown3 := Hd hown3
    have Hsz3 := Hd hsz3
    clear hown4 hgrow4 hown3 hgrow3 hnil3 hnil4 hsz3
    go_wp2_with fail
    go_ret2
   all_goals
    refine ⟨?_, .inr (.inr ⟨Hc.out, Hr.out, _, rfl, ?_⟩)⟩
    rotate_left
    · rw [List.flatMap_append, Hl.out]
      have := ownsRow_mono Hown4.out (b' := w.heap.size) HB2.out.size
      simpa using this
    first
     | (have b1 := below_drewN (HB2.out.alloc HB2.out.size (.cells #[] 26)) 1
        have b3 := b1.grown Hgrow3.out b1.size (fun k e => by simp [Value.ownBlock] at e; omega)
        have b4 := b3.alloc b3.size (.cells #[.int .i64 p.id, .int .i64 p.known, .int .u8 p.kind, .int .i64 p.loss, .int .i64 p.pack, .int .i64 p.inn, .string ⟨p.mark.toArray⟩, .string ⟨p.goods.toArray⟩, .int .i64 p.low, .int .i64 p.high, .int .i64 p.pieces, .int .i64 p.owner, .int .i64 p.count, .int .i64 p.of] 26)
        exact b4.grown Hgrow4.out b4.size (fun k e => Nat.le_trans HB2.out.size (Hown3.out.lt k e).1))
     | (have b0 := HB2.out.alloc HB2.out.size (.cells #[] 26)
        have b1 := below_drewN (b0.alloc b0.size (.cells #[.int .i64 p.id, .int .i64 p.known, .int .u8 p.kind, .int .i64 p.loss, .int .i64 p.pack, .int .i64 p.inn, .string ⟨p.mark.toArray⟩, .string ⟨p.goods.toArray⟩, .int .i64 p.low, .int .i64 p.high, .int .i64 p.pieces, .int .i64 p.owner, .int .i64 p.count, .int .i64 p.of] 26)) 1
        have b3 := b1.grown Hgrow3.out b1.size (fun k e => by simp [Value.ownBlock] at e; omega)
        exact b3.grown Hgrow4.out b3.size (fun k e => Nat.le_trans HB2.out.size (Hown3.out.lt k e).1))
     | (have b0 := HB2.out.alloc HB2.out.size (.cells #[.int .i64 p.id, .int .i64 p.known, .int .u8 p.kind, .int .i64 p.loss, .int .i64 p.pack, .int .i64 p.inn, .string ⟨p.mark.toArray⟩, .string ⟨p.goods.toArray⟩, .int .i64 p.low, .int .i64 p.high, .int .i64 p.pieces, .int .i64 p.owner, .int .i64 p.count, .int .i64 p.of] 26)
        have b1 := below_drewN (b0.alloc b0.size (.cells #[] 26)) 1
        have b3 := b1.grown Hgrow3.out b1.size (fun k e => by simp [Value.ownBlock] at e; omega)
        exact b3.grown Hgrow4.out b3.size (fun k e => Nat.le_trans HB2.out.size (Hown3.out.lt k e).1))
theorem Rd.of_block {α : Type} {E : α → List Value} {k : Nat} {w : World} {b : Nat} {cs : Array Value} {t : TypeId} {xs : List α} (hb : w.heap[b]? = some (.cells cs t (0, 0))) (hcs : cs.toList = xs.flatMap E) (hk : ∀ x, (E x).length = k) (hn : xs.length ≤ maxLen) :
 Rd E k w (some ⟨b, 0, none⟩) xs.length xs :=
 ⟨rfl, hn, fun i hi => ⟨b, 0, xs[i], rfl, (Array.getElem?_eq_some_iff.1 hb).1, List.getElem?_eq_getElem hi, fun j hj => by
  rw [cell_of_row _ _ _ _ _ (0, 0) hb, ← Array.getElem?_toList, hcs, Nat.zero_add]
  exact flat_at hk xs i xs[i] j (List.getElem?_eq_getElem hi) hj⟩⟩
theorem rd_pa (w : World) (x : Pa) (T : TypeId) : Rd Pa.vals 14 (w.alloc (.cells #[.int .i64 x.id, .int .i64 x.known, .int .u8 x.kind, .int .i64 x.loss, .int .i64 x.pack, .int .i64 x.inn, .string ⟨x.mark.toArray⟩, .string ⟨x.goods.toArray⟩, .int .i64 x.low, .int .i64 x.high, .int .i64 x.pieces, .int .i64 x.owner, .int .i64 x.count, .int .i64 x.of] T)) (some ⟨w.heap.size, 0, none⟩) 1 [x] :=
 Rd.of_block (xs := [x]) (heap_alloc_new w _) (by simp [Pa.vals]) Pa.vals_length (by unfold maxLen; simp)
def appE (xs : List Pa) (x : Pa) : Int := if (checkC xs).2 = 0 then followsL xs x else (checkC xs).2
def appR (xs : List Pa) (x : Pa) : List Pa := if (checkC xs).2 = 0 then (if followsL xs x = 0 then xs ++ [x] else []) else []
def AppPost (w : World) (xs : List Pa) (x : Pa) (e : Ending) (w' : World) : Prop :=
 ∃ a n c, e = .returned (.tuple #[.slice a n c, .int .i64 (appE xs x)]) ∧ Rd Pa.vals 14 w' a n (appR xs x) ∧ n ≤ c ∧ Below w.heap.size w w'
end Go.Proofs.YtleiapljnjaloaaGreatDoor
