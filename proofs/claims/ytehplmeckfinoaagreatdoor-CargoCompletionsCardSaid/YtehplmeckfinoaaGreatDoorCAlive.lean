/- The sample of the law package, in plain terms. -/
import Derived.Test.YtehplmeckfinoaaGreatDoorCRead
import Derived.Test.YtehplmeckfinoaaGreatDoorCPathP
import Derived.Test.YtehplmeckfinoaaGreatDoorCMissing
import Derived.Test.YtehplmeckfinoaaGreatDoorCAppend
import Derived.Test.YtehplmeckfinoaaGreatDoorCSigns
import Derived.Test.YtehplmeckfinoaaGreatDoorCBack
set_option linter.unusedSimpArgs false
set_option linter.unusedVariables false
namespace Go.Proofs.YtehplmeckfinoaaGreatDoor
open Go.RowKit Go.Shelf
def line1 : List UInt8 := [49, 32, 48, 32, 112, 97, 99, 107, 97, 103, 101, 32, 49, 32, 49, 32, 48, 32, 97, 98, 63, 32, 119, 111, 111, 108, 32, 49, 48, 48, 32, 50, 48, 48, 32, 50, 32, 55]
def pap1 : Pa := ⟨1, 0, 1, 1, 1, 0, [97, 98, 63], [119, 111, 111, 108], 100, 200, 2, 7, 0, 0⟩
def line2 : List UInt8 := [50, 32, 48, 32, 112, 97, 99, 107, 97, 103, 101, 32, 49, 32, 50, 32, 48, 32, 120, 49, 32, 99, 104, 101, 115, 116, 115, 32, 53, 48, 32, 57, 48, 32, 49, 32, 56]
def pap2 : Pa := ⟨2, 0, 1, 1, 2, 0, [120, 49], [99, 104, 101, 115, 116, 115], 50, 90, 1, 8, 0, 0⟩
def line3 : List UInt8 := [51, 32, 48, 32, 112, 97, 99, 107, 97, 103, 101, 32, 49, 32, 51, 32, 50, 32, 63, 63, 32, 115, 105, 108, 118, 101, 114, 32, 49, 48, 32, 50, 48, 32, 49, 32, 56]
def pap3 : Pa := ⟨3, 0, 1, 1, 3, 2, [63, 63], [115, 105, 108, 118, 101, 114], 10, 20, 1, 8, 0, 0⟩
def line4 : List UInt8 := [52, 32, 48, 32, 112, 97, 99, 107, 97, 103, 101, 32, 49, 32, 52, 32, 50, 32, 122, 122, 57, 32, 115, 105, 108, 118, 101, 114, 32, 53, 32, 54, 48, 32, 49, 32, 57]
def pap4 : Pa := ⟨4, 0, 1, 1, 4, 2, [122, 122, 57], [115, 105, 108, 118, 101, 114], 5, 60, 1, 9, 0, 0⟩
def line5 : List UInt8 := [53, 32, 48, 32, 116, 111, 116, 97, 108, 32, 49, 32, 50, 32, 50, 32, 51, 48, 32, 52, 48]
def pap5 : Pa := ⟨5, 0, 2, 1, 2, 0, [], [], 30, 40, 0, 0, 2, 0⟩
def line6 : List UInt8 := [54, 32, 51, 32, 116, 111, 116, 97, 108, 32, 49, 32, 48, 32, 51, 32, 50, 48, 48, 32, 50, 54, 48]
def pap6 : Pa := ⟨6, 3, 2, 1, 0, 0, [], [], 200, 260, 0, 0, 3, 0⟩
def line7 : List UInt8 := [55, 32, 53, 32, 116, 111, 116, 97, 108, 32, 49, 32, 48, 32, 50, 32, 50, 48, 48, 32, 50, 54, 48]
def pap7 : Pa := ⟨7, 5, 2, 1, 0, 0, [], [], 200, 260, 0, 0, 2, 0⟩
def line8 : List UInt8 := [56, 32, 54, 32, 112, 97, 99, 107, 97, 103, 101, 32, 49, 32, 50, 32, 48, 32, 120, 49, 32, 99, 104, 101, 115, 116, 115, 32, 49, 48, 32, 50, 48, 32, 49, 32, 56]
def pap8 : Pa := ⟨8, 6, 1, 1, 2, 0, [120, 49], [99, 104, 101, 115, 116, 115], 10, 20, 1, 8, 0, 0⟩
def sampleL : List Pa := [pap1, pap2, pap3, pap4, pap5, pap6, pap7]
def sampleM : List Pa := sampleL ++ [pap8]
theorem read1 : readV line1 = some pap1 := by decide +kernel
theorem read2 : readV line2 = some pap2 := by decide +kernel
theorem read3 : readV line3 = some pap3 := by decide +kernel
theorem read4 : readV line4 = some pap4 := by decide +kernel
theorem read5 : readV line5 = some pap5 := by decide +kernel
theorem read6 : readV line6 = some pap6 := by decide +kernel
theorem read7 : readV line7 = some pap7 := by decide +kernel
theorem read8 : readV line8 = some pap8 := by decide +kernel
theorem check_sample : (checkC sampleM).2 = 0 := by decide +kernel
theorem val_w1 : weighE sampleL 0 1 (hasP sampleL 0 1 4) = 0 := by decide +kernel
theorem val_w2 : weighV sampleL 0 1 4 = (10, 30) := by decide +kernel
theorem val_w3 : weighE sampleL 5 1 (hasP sampleL 5 1 1) = 0 := by decide +kernel
theorem val_w4 : weighV sampleL 5 1 1 = (110, 200) := by decide +kernel
theorem val_m1 : rootE sampleL 3 1 (missB sampleL 3 1 0) = 0 := by decide +kernel
theorem val_m2 : missV sampleL 3 1 0 = 1 := by decide +kernel
theorem val_p1 : rootE sampleL 0 1 (hasP sampleL 0 1 4) = 0 := by decide +kernel
theorem val_p2 : pathV sampleL 0 1 4 = [2, 4] := by decide +kernel
theorem val_l2 : lineV sampleL 5 1 1 true = [1] := by decide +kernel
theorem val_d1 : doubtIs sampleM 6 1 = true := by decide +kernel
theorem val_d2 : rootE sampleM 6 1 true = 0 := by decide +kernel
theorem val_v1 : leavesV sampleL 0 1 = [1, 3, 4] := by decide +kernel
theorem sort_done {l : List Int} (h : l.Pairwise (fun x y => decide (x ≤ y) = true)) : l.mergeSort (fun x y => decide (x ≤ y)) = l := List.mergeSort_of_pairwise h
theorem val_l1 : lineV sampleL 5 1 1 false = [2, 7] := by
 unfold lineV
 rw [if_pos val_w3]
 unfold lineageP leftL
 rw [show leftR (restsB (papersL sampleL 5 1) (totalsL sampleL 5 1) 1 false ((endM (papersL sampleL 5 1) (totalsL sampleL 5 1) (idsM (papersL sampleL 5 1) (totalsL sampleL 5 1) sampleL) 1 false).getD 0)) (idsM (papersL sampleL 5 1) (totalsL sampleL 5 1) sampleL).reverse (idsM (papersL sampleL 5 1) (totalsL sampleL 5 1) sampleL) = [2, 7] from by decide +kernel]
 exact sort_done (by decide)
theorem val_d3 : doubtV sampleM 6 1 = [5, 8] := by
 unfold doubtV
 rw [val_d1, if_pos rfl]
 unfold doubtP leftL
 rw [show leftR (doubtB (papersL sampleM 6 1) (totalsL sampleM 6 1)) (idsM (papersL sampleM 6 1) (totalsL sampleM 6 1) sampleM).reverse (idsM (papersL sampleM 6 1) (totalsL sampleM 6 1) sampleM) = [5, 8] from by decide +kernel]
 exact sort_done (by decide)
def linesL : List (List UInt8) := [line1, line2, line3, line4, line5, line6, line7]
theorem sample_step : ∀ k, k < 7 → ∃ l p, linesL[k]? = some l ∧ sampleL[k]? = some p ∧ readV l = some p ∧ l.length ≤ 10000 ∧ (checkC (sampleL.take k)).2 = 0 ∧ followsL (sampleL.take k) p = 0 ∧ (∀ x ∈ sampleL.take k, x.mark.length ≤ 100 ∧ x.goods.length ≤ 100) ∧ p.mark.length ≤ 100 ∧ p.goods.length ≤ 100 := by
 intro k hk
 obtain rfl | rfl | rfl | rfl | rfl | rfl | rfl : k = 0 ∨ k = 1 ∨ k = 2 ∨ k = 3 ∨ k = 4 ∨ k = 5 ∨ k = 6 := by omega
 · exact ⟨line1, pap1, rfl, rfl, read1, by decide, by decide +kernel, by decide +kernel, by decide +kernel, by decide, by decide⟩
 · exact ⟨line2, pap2, rfl, rfl, read2, by decide, by decide +kernel, by decide +kernel, by decide +kernel, by decide, by decide⟩
 · exact ⟨line3, pap3, rfl, rfl, read3, by decide, by decide +kernel, by decide +kernel, by decide +kernel, by decide, by decide⟩
 · exact ⟨line4, pap4, rfl, rfl, read4, by decide, by decide +kernel, by decide +kernel, by decide +kernel, by decide, by decide⟩
 · exact ⟨line5, pap5, rfl, rfl, read5, by decide, by decide +kernel, by decide +kernel, by decide +kernel, by decide, by decide⟩
 · exact ⟨line6, pap6, rfl, rfl, read6, by decide, by decide +kernel, by decide +kernel, by decide +kernel, by decide, by decide⟩
 · exact ⟨line7, pap7, rfl, rfl, read7, by decide, by decide +kernel, by decide +kernel, by decide +kernel, by decide, by decide⟩
theorem rd_strs (W : World) (ws : List (List UInt8)) (hn : ws.length ≤ 1000) (T : TypeId) : Rd strs 1 (W.alloc (.cells (ws.map (fun l => Value.string ⟨l.toArray⟩)).toArray T)) (some ⟨W.heap.size, 0, none⟩) ws.length ws := by
 refine ⟨rfl, by unfold maxLen; omega, fun i hi => ⟨W.heap.size, 0, ws[i], rfl, by simp, List.getElem?_eq_getElem hi, fun j hj => ?_⟩⟩
 obtain rfl : j = 0 := by omega
 rw [cell_of_row _ _ _ _ _ (0, 0) (heap_alloc_new W _)]
 simp [strs, hi]
set_option maxRecDepth 100000 in
set_option maxHeartbeats 4000000 in
theorem sample_any (w : World) (hw : Laid w) :
 Calls Tryz.prog 14 #[] w fun e w' => ∃ v, e = .returned v ∧ w'.ownsRow w.heap.size 42 14 v sampleL.length (sampleL.flatMap Pa.vals) ∧ Below w.heap.size w w' := by
 have hr := rd_strs w linesL (by decide) 9
 have hB := al' (Below.refl w.heap.size w) (.cells (linesL.map (fun l => Value.string ⟨l.toArray⟩)).toArray 9)
 have hL := hw.below hB
 have hq : w.alloc (.cells (linesL.map (fun l => Value.string ⟨l.toArray⟩)).toArray 9) = w.alloc (.cells #[.string ⟨#[49, 32, 48, 32, 112, 97, 99, 107, 97, 103, 101, 32, 49, 32, 49, 32, 48, 32, 97, 98, 63, 32, 119, 111, 111, 108, 32, 49, 48, 48, 32, 50, 48, 48, 32, 50, 32, 55]⟩, .string ⟨#[50, 32, 48, 32, 112, 97, 99, 107, 97, 103, 101, 32, 49, 32, 50, 32, 48, 32, 120, 49, 32, 99, 104, 101, 115, 116, 115, 32, 53, 48, 32, 57, 48, 32, 49, 32, 56]⟩, .string ⟨#[51, 32, 48, 32, 112, 97, 99, 107, 97, 103, 101, 32, 49, 32, 51, 32, 50, 32, 63, 63, 32, 115, 105, 108, 118, 101, 114, 32, 49, 48, 32, 50, 48, 32, 49, 32, 56]⟩, .string ⟨#[52, 32, 48, 32, 112, 97, 99, 107, 97, 103, 101, 32, 49, 32, 52, 32, 50, 32, 122, 122, 57, 32, 115, 105, 108, 118, 101, 114, 32, 53, 32, 54, 48, 32, 49, 32, 57]⟩, .string ⟨#[53, 32, 48, 32, 116, 111, 116, 97, 108, 32, 49, 32, 50, 32, 50, 32, 51, 48, 32, 52, 48]⟩, .string ⟨#[54, 32, 51, 32, 116, 111, 116, 97, 108, 32, 49, 32, 48, 32, 51, 32, 50, 48, 48, 32, 50, 54, 48]⟩, .string ⟨#[55, 32, 53, 32, 116, 111, 116, 97, 108, 32, 49, 32, 48, 32, 50, 32, 50, 48, 48, 32, 50, 54, 48]⟩] 9) := rfl
 rw [hq] at hr hB hL
 have HR := Hd hr
 have HB1 := Hd hB
 have HL := Hd hL
 clear hr hB hL hq hw
 go_enter Tryz.func14, Tryz.ntmps14
 go_wp2_with fail
 generalize w.alloc (.cells #[.string ⟨#[49, 32, 48, 32, 112, 97, 99, 107, 97, 103, 101, 32, 49, 32, 49, 32, 48, 32, 97, 98, 63, 32, 119, 111, 111, 108, 32, 49, 48, 48, 32, 50, 48, 48, 32, 50, 32, 55]⟩, .string ⟨#[50, 32, 48, 32, 112, 97, 99, 107, 97, 103, 101, 32, 49, 32, 50, 32, 48, 32, 120, 49, 32, 99, 104, 101, 115, 116, 115, 32, 53, 48, 32, 57, 48, 32, 49, 32, 56]⟩, .string ⟨#[51, 32, 48, 32, 112, 97, 99, 107, 97, 103, 101, 32, 49, 32, 51, 32, 50, 32, 63, 63, 32, 115, 105, 108, 118, 101, 114, 32, 49, 48, 32, 50, 48, 32, 49, 32, 56]⟩, .string ⟨#[52, 32, 48, 32, 112, 97, 99, 107, 97, 103, 101, 32, 49, 32, 52, 32, 50, 32, 122, 122, 57, 32, 115, 105, 108, 118, 101, 114, 32, 53, 32, 54, 48, 32, 49, 32, 57]⟩, .string ⟨#[53, 32, 48, 32, 116, 111, 116, 97, 108, 32, 49, 32, 50, 32, 50, 32, 51, 48, 32, 52, 48]⟩, .string ⟨#[54, 32, 51, 32, 116, 111, 116, 97, 108, 32, 49, 32, 48, 32, 51, 32, 50, 48, 48, 32, 50, 54, 48]⟩, .string ⟨#[55, 32, 53, 32, 116, 111, 116, 97, 108, 32, 49, 32, 48, 32, 50, 32, 50, 48, 48, 32, 50, 54, 48]⟩] 9) = w1 at *
 obtain ⟨R, hRe⟩ : ∃ R, w.heap.size = R := ⟨_, rfl⟩
 have HRe := Hd hRe
 rw [hRe] at HR
 rw [hRe]
 go_loopw [1, 8] (fun v i wr => ∃ k : Nat, k ≤ 7 ∧ i = .int .i64 k ∧ wr.ownsRow w1.heap.size 42 14 v (sampleL.take k).length ((sampleL.take k).flatMap Pa.vals) ∧ Below w1.heap.size w1 wr) (fun _ i _ => 7 - (intOf i).toNat)
 case atStart => exact ⟨0, Nat.zero_le _, rfl, World.ownsRow_nil _ _ _ _, Below.refl _ _⟩
 case round =>
  obtain ⟨k, hk, rfl, hrow, hB⟩ := hrel
  by_cases hlt : k < 7
  · have hlt' : (k : Int) < 7 := by omega
    obtain ⟨ln, p, h1, h2, h3, h4, h5, h6, h7, h8, h9⟩ := sample_step k hlt
    obtain ⟨b, off, y, e0, hb, hy, x0⟩ := (HR.out.below' hB).str hlt
    injection e0 with e0
    injection e0 with eb eo
    subst eb eo
    obtain rfl : y = ln := Option.some.inj (hy.symm.trans h1)
    rw [Nat.zero_add] at x0
    have hlk : (sampleL.take k).length ≤ 7 := by rw [List.length_take]; omega
    have HSt := Hd (take_succ_snoc h2)
    obtain ⟨T, hT⟩ : ∃ T, sampleL.take k = T := ⟨_, rfl⟩
    rw [hT] at hrow hlk h5 h6 h7 HSt
    obtain ⟨a, cap, rfl, hcap, hrd, hbd⟩ := Rd.of_own hrow Pa.vals_length (by decide) rfl (by unfold maxLen; omega)
    have CR := Hd (read_any y h4 wr (HL.out.below hB))
    unfold ReadPost at CR
    have hq : (readV y).getD pa0 = p := by rw [h3]; rfl
    have he : (readV y).isSome = true := by rw [h3]; rfl
    have HB := Hd hB
    have HRd := Hd hrd
    have HS := Hd (And.intro h5 (And.intro h6 (And.intro h7 (And.intro h8 h9))))
    rw [hq, he, if_pos rfl] at CR
    clear h1 h2 h3 h4 h5 h6 h7 h8 h9 hy hq he hrow hB hrd hbd hT
    go_upto_region 6 with (go_at_call 19; refine CR.out.mono ?_; rintro e w4 ⟨hB4, q, rfl, rfl⟩)
    have hBx := al' (Below.refl w4.heap.size w4) (.cells #[.int .i64 p.id, .int .i64 p.known, .int .u8 p.kind, .int .i64 p.loss, .int .i64 p.pack, .int .i64 p.inn, .string ⟨p.mark.toArray⟩, .string ⟨p.goods.toArray⟩, .int .i64 p.low, .int .i64 p.high, .int .i64 p.pieces, .int .i64 p.owner, .int .i64 p.count, .int .i64 p.of] 42)
    have hbx := BoxG.made w4 p.vals 42
    simp only [Pa.vals] at hbx
    have HB5 := Hd (HB.out.trans ((hB4.trans (hBx.mono hB4.size)).mono HB.out.size))
    have HR5 := Hd (HRd.out.below' (hB4.trans (hBx.mono hB4.size)))
    clear hBx hB4 x0 CR
    generalize w4.alloc (.cells #[.int .i64 p.id, .int .i64 p.known, .int .u8 p.kind, .int .i64 p.loss, .int .i64 p.pack, .int .i64 p.inn, .string ⟨p.mark.toArray⟩, .string ⟨p.goods.toArray⟩, .int .i64 p.low, .int .i64 p.high, .int .i64 p.pieces, .int .i64 p.owner, .int .i64 p.count, .int .i64 p.of] 42) = w5 at *
    obtain ⟨B5, hB5⟩ : ∃ B, w4.heap.size = B := ⟨_, rfl⟩
    rw [hB5] at hbx ⊢
    obtain ⟨c0, c1, c2, c3, c4, c5, c6, c7, c8, c9, c10, c11, c12, c13⟩ := BoxG.pa (x := p) hbx
    have bl := hbx.1
    have hs1 := HS.out
    have CA := Hd (append_any a T.length cap T (fun x hx => by have := hs1.2.2.1 x hx; exact ⟨by omega, by omega⟩) p ⟨by have := hs1.2.2.2; omega, by have := hs1.2.2.2; omega⟩ w5 HR5.out hcap)
    clear hbx hB5 hs1
    go_wp2_with (go_at_call 20; refine CA.out.mono ?_; rintro e w6 ⟨hB6, ⟨hbad, rfl⟩ | ⟨_, hbad, rfl⟩ | ⟨_, _, v6, rfl, hrow6⟩⟩; exact absurd HS.out.1 hbad; exact absurd HS.out.2.1 hbad)
    exact ⟨⟨k + 1, by omega, by go_num, by rw [HSt.out]; exact ownsRow_mono (by rw [List.length_append]; exact hrow6) HB5.out.size, HB5.out.trans (hB6.mono HB5.out.size)⟩, by simp [intOf]; omega⟩
  · have hltg : ¬ (k : Int) < 7 := by omega
    have hk7 : k = 7 := by omega
    subst hk7
    have HRow := Hd (show wr.ownsRow w1.heap.size 42 14 _ sampleL.length (sampleL.flatMap Pa.vals) from hrow)
    have HB := Hd hB
    clear hrow hB hlt
    go_wp2_with fail
    refine bodyPost_ret (results_tmp rfl _ _ _) rfl ⟨_, rfl, ?_, by rw [← HRe.out]; exact HB1.out.trans (HB.out.mono HB1.out.size)⟩
    rw [← HRe.out]
    exact ownsRow_mono HRow.out HB1.out.size
theorem al_shortM : ∀ x ∈ sampleM, x.Short := by
 have h : ∀ x ∈ sampleM, x.mark.length ≤ 100 ∧ x.goods.length ≤ 100 := by decide +kernel
 intro x hx
 have := h x hx
 exact ⟨by omega, by omega⟩
theorem al_short : ∀ x ∈ sampleL, x.Short := fun x hx => al_shortM x (List.mem_append_left _ hx)
variable {a : Option Addr} {c : Nat} {w : World}
theorem al_weigh1 (h : Rd Pa.vals 14 w a 7 sampleL) (hc : 7 ≤ c) : Calls Tryz.prog 15 #[.slice a 7 c, .int .i64 0, .int .i64 1, .int .i64 4] w fun e w' => e = .returned (.tuple #[.agg #[.int .i64 10, .int .i64 30], .int .i64 0]) ∧ Below w.heap.size w w' :=
 (weigh_any a 7 c sampleL al_short 0 1 4 w h hc).mono (by rintro e w' ⟨rfl, hB⟩; rw [val_w1, val_w2]; exact ⟨rfl, hB⟩)
theorem al_weigh2 (h : Rd Pa.vals 14 w a 7 sampleL) (hc : 7 ≤ c) : Calls Tryz.prog 15 #[.slice a 7 c, .int .i64 5, .int .i64 1, .int .i64 1] w fun e w' => e = .returned (.tuple #[.agg #[.int .i64 110, .int .i64 200], .int .i64 0]) ∧ Below w.heap.size w w' :=
 (weigh_any a 7 c sampleL al_short 5 1 1 w h hc).mono (by rintro e w' ⟨rfl, hB⟩; rw [val_w3, val_w4]; exact ⟨rfl, hB⟩)
theorem al_low (h : Rd Pa.vals 14 w a 7 sampleL) (hc : 7 ≤ c) : Calls Tryz.prog 16 #[.slice a 7 c, .int .i64 5, .int .i64 1, .int .i64 1, .bool false] w fun e w' => ∃ v, e = .returned (.tuple #[v, .int .i64 0]) ∧ w'.ownsRow w.heap.size 3 1 v 2 ([2, 7].flatMap ints) ∧ Below w.heap.size w w' :=
 (lineage_any a 7 c sampleL al_short 5 1 1 false w h hc).mono (by rintro e w' ⟨v, rfl, ho, hB⟩; rw [val_w3]; rw [val_l1] at ho; exact ⟨v, rfl, ho, hB⟩)
theorem al_high (h : Rd Pa.vals 14 w a 7 sampleL) (hc : 7 ≤ c) : Calls Tryz.prog 16 #[.slice a 7 c, .int .i64 5, .int .i64 1, .int .i64 1, .bool true] w fun e w' => ∃ v, e = .returned (.tuple #[v, .int .i64 0]) ∧ w'.ownsRow w.heap.size 3 1 v 1 ([1].flatMap ints) ∧ Below w.heap.size w w' :=
 (lineage_any a 7 c sampleL al_short 5 1 1 true w h hc).mono (by rintro e w' ⟨v, rfl, ho, hB⟩; rw [val_w3]; rw [val_l2] at ho; exact ⟨v, rfl, ho, hB⟩)
theorem al_missing (h : Rd Pa.vals 14 w a 7 sampleL) (hc : 7 ≤ c) : Calls Tryz.prog 17 #[.slice a 7 c, .int .i64 3, .int .i64 1, .int .i64 0] w fun e w' => e = .returned (.tuple #[.int .i64 1, .int .i64 0]) ∧ Below w.heap.size w w' :=
 (missing_any a 7 c sampleL al_short 3 1 0 w h hc).mono (by rintro e w' ⟨rfl, hB⟩; rw [val_m1, val_m2]; exact ⟨rfl, hB⟩)
theorem al_path (h : Rd Pa.vals 14 w a 7 sampleL) (hc : 7 ≤ c) : Calls Tryz.prog 18 #[.slice a 7 c, .int .i64 0, .int .i64 1, .int .i64 4] w fun e w' => ∃ v, e = .returned (.tuple #[v, .int .i64 0]) ∧ w'.ownsRow w.heap.size 3 1 v 2 ([2, 4].flatMap ints) ∧ Below w.heap.size w w' :=
 (path_any a 7 c sampleL al_short 0 1 4 w h hc).mono (by rintro e w' ⟨v, rfl, ho, hB⟩; rw [val_p1]; rw [val_p2] at ho; exact ⟨v, rfl, ho, hB⟩)
theorem al_leaves (h : Rd Pa.vals 14 w a 7 sampleL) (hc : 7 ≤ c) : Calls Tryz.prog 23 #[.slice a 7 c, .int .i64 0, .int .i64 1] w fun e w' => ∃ v, e = .returned v ∧ w'.ownsRow w.heap.size 3 1 v 3 ([1, 3, 4].flatMap ints) ∧ Below w.heap.size w w' :=
 (leaves_any a 7 c sampleL al_short 0 1 w h hc).mono (by rintro e w' ⟨v, rfl, ho, hB⟩; rw [val_v1] at ho; exact ⟨v, rfl, ho, hB⟩)
theorem al_doubt (h : Rd Pa.vals 14 w a 8 sampleM) (hc : 8 ≤ c) : Calls Tryz.prog 21 #[.slice a 8 c, .int .i64 6, .int .i64 1] w fun e w' => ∃ v, e = .returned (.tuple #[v, .bool true, .int .i64 0]) ∧ w'.ownsRow w.heap.size 3 1 v 2 ([5, 8].flatMap ints) ∧ Below w.heap.size w w' :=
 (doubt_any a 8 c sampleM al_shortM 6 1 w h hc).mono (by rintro e w' ⟨v, rfl, ho, hB⟩; rw [val_d1, val_d2]; rw [val_d3] at ho; exact ⟨v, rfl, ho, hB⟩)
theorem al_read (hw : Laid w) : Calls Tryz.prog 19 #[.string ⟨line8.toArray⟩] w fun e w' => e = .returned (.tuple #[.agg #[.int .i64 pap8.id, .int .i64 pap8.known, .int .u8 pap8.kind, .int .i64 pap8.loss, .int .i64 pap8.pack, .int .i64 pap8.inn, .string ⟨pap8.mark.toArray⟩, .string ⟨pap8.goods.toArray⟩, .int .i64 pap8.low, .int .i64 pap8.high, .int .i64 pap8.pieces, .int .i64 pap8.owner, .int .i64 pap8.count, .int .i64 pap8.of], .int .i64 0]) ∧ Below w.heap.size w w' :=
 (read_any line8 (by decide) w hw).mono (by
   rintro e w' ⟨hB, q, hq, rfl⟩
   rw [read8] at hq ⊢
   obtain rfl : pap8 = q := hq
   exact ⟨rfl, hB⟩)
theorem al_append (h : Rd Pa.vals 14 w a 7 sampleL) (hc : 7 ≤ c) : Calls Tryz.prog 20 #[.slice a 7 c, .agg #[.int .i64 pap8.id, .int .i64 pap8.known, .int .u8 pap8.kind, .int .i64 pap8.loss, .int .i64 pap8.pack, .int .i64 pap8.inn, .string ⟨pap8.mark.toArray⟩, .string ⟨pap8.goods.toArray⟩, .int .i64 pap8.low, .int .i64 pap8.high, .int .i64 pap8.pieces, .int .i64 pap8.owner, .int .i64 pap8.count, .int .i64 pap8.of]] w fun e w' => ∃ v, e = .returned (.tuple #[v, .int .i64 0]) ∧ w'.ownsRow w.heap.size 42 14 v 8 (sampleM.flatMap Pa.vals) ∧ Below w.heap.size w w' :=
 (append_any a 7 c sampleL al_short pap8 (al_shortM pap8 (by simp [sampleM])) w h hc).mono (by
   rintro e w' ⟨hB, ⟨hbad, rfl⟩ | ⟨_, hbad, rfl⟩ | ⟨_, _, v, rfl, ho⟩⟩
   · exact absurd (show (checkC sampleL).2 = 0 from by decide +kernel) hbad
   · exact absurd (show followsL sampleL pap8 = 0 from by decide +kernel) hbad
   · exact ⟨v, rfl, ho, hB⟩)
theorem rd_ints (W : World) (xs : List Int) (hn : xs.length ≤ 1000) (T : TypeId) : Rd ints 1 (W.alloc (.cells (xs.map (Value.int .i64)).toArray T)) (some ⟨W.heap.size, 0, none⟩) xs.length xs := by
 refine ⟨rfl, by unfold maxLen; omega, fun i hi => ⟨W.heap.size, 0, xs[i], rfl, by simp, List.getElem?_eq_getElem hi, fun j hj => ?_⟩⟩
 obtain rfl : j = 0 := by omega
 rw [cell_of_row _ _ _ _ _ (0, 0) (heap_alloc_new W _)]
 simp [ints, hi]
theorem eq_made (W : World) (xs : List Int) (n : Nat) (hn : xs.length = n) (hl : xs.length ≤ 1000) (T : TypeId) (a : Option Addr) (c : Nat) (h : Rd ints 1 W a n xs) :
 Calls Tryz.prog 22 #[.slice a n c, .slice (some ⟨W.heap.size, 0, none⟩) n n] (W.alloc (.cells (xs.map (Value.int .i64)).toArray T)) fun e w' => e = .returned (.bool true) ∧ Below W.heap.size W w' := by
 have hB := al' (Below.refl W.heap.size W) (.cells (xs.map (Value.int .i64)).toArray T)
 have h2 := rd_ints W xs hl T
 rw [hn] at h2
 refine (equalI_any a (some ⟨W.heap.size, 0, none⟩) n c n n xs xs _ (h.below' hB) h2).mono ?_
 rintro e w' ⟨rfl, hB2⟩
 exact ⟨by rw [decide_eq_true rfl], hB.trans (hB2.mono hB.size)⟩
theorem list_of {w w' : World} {v : Value} {n : Nat} {xs : List Int} (h : w'.ownsRow w.heap.size 3 1 v n (xs.flatMap ints)) (hn : xs.length = n) (hl : n ≤ 1000) : ∃ a c, v = .slice a n c ∧ Rd ints 1 w' a n xs := by
 obtain ⟨a, c, rfl, _, hr, _⟩ := Rd.of_own h ints_length (by decide) hn (by unfold maxLen; omega)
 exact ⟨a, c, rfl, hr⟩
set_option maxRecDepth 100000 in
set_option maxHeartbeats 8000000 in
theorem alive_any (w : World) (hw : Laid w) : Calls Tryz.prog 6 #[] w fun e w' => e = .returned (.bool true) ∧ Below w.heap.size w w' := by
 have CS := Hd (sample_any w hw)
 have HL := Hd hw
 obtain ⟨q, hq⟩ : ∃ q, pap8 = q := ⟨_, rfl⟩
 have CR := Hd (fun (W : World) (hW : Laid W) => al_read (w := W) hW)
 have CA := Hd (fun (W : World) (a : Option Addr) (c : Nat) (h : Rd Pa.vals 14 W a 7 sampleL) (hc : 7 ≤ c) => al_append (w := W) h hc)
 rw [hq] at CR CA
 clear hw hq
 have M1 := Hd (show ∀ W, Calls Tryz.prog 24 #[.string ⟨#[97, 98, 63]⟩, .string ⟨#[97, 63, 99]⟩] W fun e w' => e = .returned (.bool true) ∧ Below W.heap.size W w' from fun W => (meet_any [97, 98, 63] [97, 63, 99] (by decide) (by decide) W).mono (by rintro e w' ⟨rfl, hB⟩; rw [show meetL [97, 98, 63] [97, 63, 99] = true from by decide]; exact ⟨rfl, hB⟩))
 have M2 := Hd (show ∀ W, Calls Tryz.prog 24 #[.string ⟨#[97, 98, 63]⟩, .string ⟨#[97, 99, 63]⟩] W fun e w' => e = .returned (.bool false) ∧ Below W.heap.size W w' from fun W => (meet_any [97, 98, 63] [97, 99, 63] (by decide) (by decide) W).mono (by rintro e w' ⟨rfl, hB⟩; rw [show meetL [97, 98, 63] [97, 99, 63] = false from by decide]; exact ⟨rfl, hB⟩))
 have S1 := Hd (show ∀ W, Calls Tryz.prog 25 #[.string ⟨#[97, 98, 63]⟩] W fun e w' => e = .returned (.int .i64 2) ∧ w' = W from fun W => (signs_any [97, 98, 63] (by decide) W).mono (by rintro e w' ⟨rfl, rfl⟩; rw [show signsL [97, 98, 63] = 2 from by decide]; exact ⟨rfl, rfl⟩))
 go_enter Tryz.func6, Tryz.ntmps6
 go_upto_region 2 with (go_at_call 14; refine CS.out.mono ?_; rintro e w1 ⟨v, rfl, hrow, hB⟩)
 obtain ⟨a, cap, rfl, hcap, hrd, _⟩ := Rd.of_own (n := 7) hrow Pa.vals_length (by decide) rfl (by decide)
 have HC := Hd hcap
 have HR := Hd hrd
 have HL1 := Hd (HL.out.below hB)
 have HB := Hd hB
 clear hcap hrd hB hrow HL CS
 have C := Hd (al_weigh1 HR.out HC.out)
 go_upto_region 3 with (go_at_call 15; refine C.out.mono ?_; rintro e w2 ⟨rfl, hB2⟩)
 have hS := hB2
 have hBa := al' (Below.refl w2.heap.size w2) (.cells #[.int .i64 10, .int .i64 30] 32)
 have hbx := BoxG.made w2 [.int .i64 10, .int .i64 30] 32
 replace hS := hS.trans (hBa.mono hB2.size)
 clear hBa hB2
 generalize w2.alloc (.cells #[.int .i64 10, .int .i64 30] 32) = w3 at *
 obtain ⟨Ba, hbe⟩ : ∃ B, w2.heap.size = B := ⟨_, rfl⟩
 rw [hbe] at hbx ⊢
 clear hbe
 have HR' := Hd (HR.out.below' hS)
 have HL1' := Hd (HL1.out.below hS)
 have HB' := Hd (below_on HB.out hS (Nat.le_refl _))
 clear hS C HB HR HL1
 have HR := Hd HR'.out
 have HL1 := Hd HL1'.out
 have HB := Hd HB'.out
 clear HB' HR' HL1'
 have HBa := Hd hbx
 clear hbx
 have C := Hd (al_weigh2 HR.out HC.out)
 go_upto_region 4 with (go_at_call 15; refine C.out.mono ?_; rintro e w4 ⟨rfl, hB2⟩)
 have hS := hB2
 have hBa := al' (Below.refl w4.heap.size w4) (.cells #[.int .i64 110, .int .i64 200] 32)
 have hbx := BoxG.made w4 [.int .i64 110, .int .i64 200] 32
 replace hS := hS.trans (hBa.mono hB2.size)
 clear hBa hB2
 generalize w4.alloc (.cells #[.int .i64 110, .int .i64 200] 32) = w5 at *
 obtain ⟨Bb, hbe⟩ : ∃ B, w4.heap.size = B := ⟨_, rfl⟩
 rw [hbe] at hbx ⊢
 clear hbe
 have HR' := Hd (HR.out.below' hS)
 have HL1' := Hd (HL1.out.below hS)
 have HBa' := Hd (HBa.out.below' hS)
 have HB' := Hd (below_on HB.out hS (Nat.le_refl _))
 clear hS C HB HR HL1 HBa
 have HR := Hd HR'.out
 have HL1 := Hd HL1'.out
 have HBa := Hd HBa'.out
 have HB := Hd HB'.out
 clear HB' HR' HL1' HBa'
 have HBb := Hd hbx
 clear hbx
 have C := Hd (al_low HR.out HC.out)
 go_upto_region 5 with (go_at_call 16; refine C.out.mono ?_; rintro e w6 ⟨v1, rfl, hv1, hB2⟩)
 obtain ⟨la, lc, rfl, hla⟩ := list_of hv1 rfl (by decide)
 have hS := hB2
 clear hB2
 have HR' := Hd (HR.out.below' hS)
 have HL1' := Hd (HL1.out.below hS)
 have HBa' := Hd (HBa.out.below' hS)
 have HBb' := Hd (HBb.out.below' hS)
 have HB' := Hd (below_on HB.out hS (Nat.le_refl _))
 clear hS C HB HR HL1 HBa HBb
 have HR := Hd HR'.out
 have HL1 := Hd HL1'.out
 have HBa := Hd HBa'.out
 have HBb := Hd HBb'.out
 have HB := Hd HB'.out
 clear HB' HR' HL1' HBa' HBb'
 have Hla := Hd hla
 clear hla
 have C := Hd (al_high HR.out HC.out)
 go_upto_region 6 with (go_at_call 16; refine C.out.mono ?_; rintro e w7 ⟨v2, rfl, hv2, hB2⟩)
 obtain ⟨ha, hc, rfl, hha⟩ := list_of hv2 rfl (by decide)
 have hS := hB2
 clear hB2
 have HR' := Hd (HR.out.below' hS)
 have HL1' := Hd (HL1.out.below hS)
 have HBa' := Hd (HBa.out.below' hS)
 have HBb' := Hd (HBb.out.below' hS)
 have Hla' := Hd (Hla.out.below' hS)
 have HB' := Hd (below_on HB.out hS (Nat.le_refl _))
 clear hS C HB HR HL1 HBa HBb Hla
 have HR := Hd HR'.out
 have HL1 := Hd HL1'.out
 have HBa := Hd HBa'.out
 have HBb := Hd HBb'.out
 have Hla := Hd Hla'.out
 have HB := Hd HB'.out
 clear HB' HR' HL1' HBa' HBb' Hla'
 have Hha := Hd hha
 clear hha
 have C := Hd (al_missing HR.out HC.out)
 go_upto_region 7 with (go_at_call 17; refine C.out.mono ?_; rintro e w8 ⟨rfl, hB2⟩)
 have hS := hB2
 clear hB2
 have HR' := Hd (HR.out.below' hS)
 have HL1' := Hd (HL1.out.below hS)
 have HBa' := Hd (HBa.out.below' hS)
 have HBb' := Hd (HBb.out.below' hS)
 have Hla' := Hd (Hla.out.below' hS)
 have Hha' := Hd (Hha.out.below' hS)
 have HB' := Hd (below_on HB.out hS (Nat.le_refl _))
 clear hS C HB HR HL1 HBa HBb Hla Hha
 have HR := Hd HR'.out
 have HL1 := Hd HL1'.out
 have HBa := Hd HBa'.out
 have HBb := Hd HBb'.out
 have Hla := Hd Hla'.out
 have Hha := Hd Hha'.out
 have HB := Hd HB'.out
 clear HB' HR' HL1' HBa' HBb' Hla' Hha'
 have C := Hd (al_path HR.out HC.out)
 go_upto_region 8 with (go_at_call 18; refine C.out.mono ?_; rintro e w9 ⟨v3, rfl, hv3, hB2⟩)
 obtain ⟨pa, pc, rfl, hpa⟩ := list_of hv3 rfl (by decide)
 have hS := hB2
 clear hB2
 have HR' := Hd (HR.out.below' hS)
 have HL1' := Hd (HL1.out.below hS)
 have HBa' := Hd (HBa.out.below' hS)
 have HBb' := Hd (HBb.out.below' hS)
 have Hla' := Hd (Hla.out.below' hS)
 have Hha' := Hd (Hha.out.below' hS)
 have HB' := Hd (below_on HB.out hS (Nat.le_refl _))
 clear hS C HB HR HL1 HBa HBb Hla Hha
 have HR := Hd HR'.out
 have HL1 := Hd HL1'.out
 have HBa := Hd HBa'.out
 have HBb := Hd HBb'.out
 have Hla := Hd Hla'.out
 have Hha := Hd Hha'.out
 have HB := Hd HB'.out
 clear HB' HR' HL1' HBa' HBb' Hla' Hha'
 have Hpa := Hd hpa
 clear hpa
 have CR1 := Hd (show Calls Tryz.prog 19 #[.string ⟨#[56, 32, 54, 32, 112, 97, 99, 107, 97, 103, 101, 32, 49, 32, 50, 32, 48, 32, 120, 49, 32, 99, 104, 101, 115, 116, 115, 32, 49, 48, 32, 50, 48, 32, 49, 32, 56]⟩] w9 _ from CR.out _ HL1.out)
 have C := Hd (CR1.out)
 go_upto_region 9 with (go_at_call 19; refine C.out.mono ?_; rintro e w10 ⟨rfl, hB2⟩)
 have hS := hB2
 have hBa := al' (Below.refl w10.heap.size w10) (.cells #[.int .i64 q.id, .int .i64 q.known, .int .u8 q.kind, .int .i64 q.loss, .int .i64 q.pack, .int .i64 q.inn, .string ⟨q.mark.toArray⟩, .string ⟨q.goods.toArray⟩, .int .i64 q.low, .int .i64 q.high, .int .i64 q.pieces, .int .i64 q.owner, .int .i64 q.count, .int .i64 q.of] 42)
 have hbx := BoxG.made w10 q.vals 42
 simp only [Pa.vals] at hbx
 replace hS := hS.trans (hBa.mono hB2.size)
 clear hBa hB2
 generalize w10.alloc (.cells #[.int .i64 q.id, .int .i64 q.known, .int .u8 q.kind, .int .i64 q.loss, .int .i64 q.pack, .int .i64 q.inn, .string ⟨q.mark.toArray⟩, .string ⟨q.goods.toArray⟩, .int .i64 q.low, .int .i64 q.high, .int .i64 q.pieces, .int .i64 q.owner, .int .i64 q.count, .int .i64 q.of] 42) = w11 at *
 obtain ⟨Bx, hbe⟩ : ∃ B, w10.heap.size = B := ⟨_, rfl⟩
 rw [hbe] at hbx ⊢
 clear hbe
 have HR' := Hd (HR.out.below' hS)
 have HL1' := Hd (HL1.out.below hS)
 have HBa' := Hd (HBa.out.below' hS)
 have HBb' := Hd (HBb.out.below' hS)
 have Hla' := Hd (Hla.out.below' hS)
 have Hha' := Hd (Hha.out.below' hS)
 have Hpa' := Hd (Hpa.out.below' hS)
 have HB' := Hd (below_on HB.out hS (Nat.le_refl _))
 clear hS C HB HR HL1 HBa HBb Hla Hha Hpa
 have HR := Hd HR'.out
 have HL1 := Hd HL1'.out
 have HBa := Hd HBa'.out
 have HBb := Hd HBb'.out
 have Hla := Hd Hla'.out
 have Hha := Hd Hha'.out
 have Hpa := Hd Hpa'.out
 have HB := Hd HB'.out
 clear HB' HR' HL1' HBa' HBb' Hla' Hha' Hpa'
 have HBx := Hd hbx
 clear hbx
 obtain ⟨c0, c1, c2, c3, c4, c5, c6, c7, c8, c9, c10, c11, c12, c13⟩ := BoxG.pa (x := q) HBx.out
 have bl := HBx.out.1
 have C := Hd (CA.out _ _ _ HR.out HC.out)
 go_upto_region 10 with (go_at_call 20; refine C.out.mono ?_; rintro e w12 ⟨v4, rfl, hv4, hS⟩)
 clear c0 c1 c2 c3 c4 c5 c6 c7 c8 c9 c10 c11 c12 c13 bl
 obtain ⟨ma, mc, rfl, hmc, hma, _⟩ := Rd.of_own (n := 8) hv4 Pa.vals_length (by decide) rfl (by decide)
 have HMC := Hd hmc
 have Hma := Hd hma
 clear hmc hma hv4
 have HR' := Hd (HR.out.below' hS)
 have HL1' := Hd (HL1.out.below hS)
 have HBa' := Hd (HBa.out.below' hS)
 have HBb' := Hd (HBb.out.below' hS)
 have Hla' := Hd (Hla.out.below' hS)
 have Hha' := Hd (Hha.out.below' hS)
 have Hpa' := Hd (Hpa.out.below' hS)
 have HBx' := Hd (HBx.out.below' hS)
 have HB' := Hd (below_on HB.out hS (Nat.le_refl _))
 clear hS C HB CR CA CR1 HR HL1 HBa HBb Hla Hha Hpa HBx
 have HR := Hd HR'.out
 have HL1 := Hd HL1'.out
 have HBa := Hd HBa'.out
 have HBb := Hd HBb'.out
 have Hla := Hd Hla'.out
 have Hha := Hd Hha'.out
 have Hpa := Hd Hpa'.out
 have HBx := Hd HBx'.out
 have HB := Hd HB'.out
 clear HB' HR' HL1' HBa' HBb' Hla' Hha' Hpa' HBx'
 have C := Hd (al_doubt Hma.out HMC.out)
 go_upto_region 11 with (go_at_call 21; refine C.out.mono ?_; rintro e w13 ⟨v5, rfl, hv5, hB2⟩)
 obtain ⟨da, dc, rfl, hda⟩ := list_of hv5 rfl (by decide)
 have hS := hB2
 clear hB2
 have HR' := Hd (HR.out.below' hS)
 have HL1' := Hd (HL1.out.below hS)
 have HBa' := Hd (HBa.out.below' hS)
 have HBb' := Hd (HBb.out.below' hS)
 have Hla' := Hd (Hla.out.below' hS)
 have Hha' := Hd (Hha.out.below' hS)
 have Hpa' := Hd (Hpa.out.below' hS)
 have HBx' := Hd (HBx.out.below' hS)
 have Hma' := Hd (Hma.out.below' hS)
 have HB' := Hd (below_on HB.out hS (Nat.le_refl _))
 clear hS C HB HR HL1 HBa HBb Hla Hha Hpa HBx Hma
 have HR := Hd HR'.out
 have HL1 := Hd HL1'.out
 have HBa := Hd HBa'.out
 have HBb := Hd HBb'.out
 have Hla := Hd Hla'.out
 have Hha := Hd Hha'.out
 have Hpa := Hd Hpa'.out
 have HBx := Hd HBx'.out
 have Hma := Hd Hma'.out
 have HB := Hd HB'.out
 clear HB' HR' HL1' HBa' HBb' Hla' Hha' Hpa' HBx' Hma'
 have Hda := Hd hda
 clear hda
 clear HBx Hma HMC HL1
 go_upto_region 13 with (fail)
 have C := Hd (show Calls Tryz.prog 22 #[.slice la 2 lc, .slice (some ⟨w13.heap.size, 0, none⟩) 2 2] (w13.alloc (.cells #[.int .i64 2, .int .i64 7] 3)) _ from eq_made w13 [2, 7] 2 rfl (by decide) 3 _ _ Hla.out)
 go_wp2_with fail
 refine C.out.mono ?_
 rintro e w14 ⟨rfl, hS⟩
 have HR' := Hd (HR.out.below' hS)
 have HBa' := Hd (HBa.out.below' hS)
 have HBb' := Hd (HBb.out.below' hS)
 have Hla' := Hd (Hla.out.below' hS)
 have Hha' := Hd (Hha.out.below' hS)
 have Hpa' := Hd (Hpa.out.below' hS)
 have Hda' := Hd (Hda.out.below' hS)
 have HB' := Hd (below_on HB.out hS (Nat.le_refl _))
 clear hS C HB HR HBa HBb Hla Hha Hpa Hda
 have HR := Hd HR'.out
 have HBa := Hd HBa'.out
 have HBb := Hd HBb'.out
 have Hla := Hd Hla'.out
 have Hha := Hd Hha'.out
 have Hpa := Hd Hpa'.out
 have Hda := Hd Hda'.out
 have HB := Hd HB'.out
 clear HB' HR' HBa' HBb' Hla' Hha' Hpa' Hda'
 have C := Hd (show Calls Tryz.prog 22 #[.slice ha 1 hc, .slice (some ⟨w14.heap.size, 0, none⟩) 1 1] (w14.alloc (.cells #[.int .i64 1] 3)) _ from eq_made w14 [1] 1 rfl (by decide) 3 _ _ Hha.out)
 go_wp2_with fail
 refine C.out.mono ?_
 rintro e w15 ⟨rfl, hS⟩
 have HR' := Hd (HR.out.below' hS)
 have HBa' := Hd (HBa.out.below' hS)
 have HBb' := Hd (HBb.out.below' hS)
 have Hla' := Hd (Hla.out.below' hS)
 have Hha' := Hd (Hha.out.below' hS)
 have Hpa' := Hd (Hpa.out.below' hS)
 have Hda' := Hd (Hda.out.below' hS)
 have HB' := Hd (below_on HB.out hS (Nat.le_refl _))
 clear hS C HB HR HBa HBb Hla Hha Hpa Hda
 have HR := Hd HR'.out
 have HBa := Hd HBa'.out
 have HBb := Hd HBb'.out
 have Hla := Hd Hla'.out
 have Hha := Hd Hha'.out
 have Hpa := Hd Hpa'.out
 have Hda := Hd Hda'.out
 have HB := Hd HB'.out
 clear HB' HR' HBa' HBb' Hla' Hha' Hpa' Hda'
 have C := Hd (show Calls Tryz.prog 22 #[.slice pa 2 pc, .slice (some ⟨w15.heap.size, 0, none⟩) 2 2] (w15.alloc (.cells #[.int .i64 2, .int .i64 4] 3)) _ from eq_made w15 [2, 4] 2 rfl (by decide) 3 _ _ Hpa.out)
 go_wp2_with fail
 refine C.out.mono ?_
 rintro e w16 ⟨rfl, hS⟩
 have HR' := Hd (HR.out.below' hS)
 have HBa' := Hd (HBa.out.below' hS)
 have HBb' := Hd (HBb.out.below' hS)
 have Hla' := Hd (Hla.out.below' hS)
 have Hha' := Hd (Hha.out.below' hS)
 have Hpa' := Hd (Hpa.out.below' hS)
 have Hda' := Hd (Hda.out.below' hS)
 have HB' := Hd (below_on HB.out hS (Nat.le_refl _))
 clear hS C HB HR HBa HBb Hla Hha Hpa Hda
 have HR := Hd HR'.out
 have HBa := Hd HBa'.out
 have HBb := Hd HBb'.out
 have Hla := Hd Hla'.out
 have Hha := Hd Hha'.out
 have Hpa := Hd Hpa'.out
 have Hda := Hd Hda'.out
 have HB := Hd HB'.out
 clear HB' HR' HBa' HBb' Hla' Hha' Hpa' Hda'
 have C := Hd (show Calls Tryz.prog 22 #[.slice da 2 dc, .slice (some ⟨w16.heap.size, 0, none⟩) 2 2] (w16.alloc (.cells #[.int .i64 5, .int .i64 8] 3)) _ from eq_made w16 [5, 8] 2 rfl (by decide) 3 _ _ Hda.out)
 go_wp2_with fail
 refine C.out.mono ?_
 rintro e w17 ⟨rfl, hS⟩
 have HR' := Hd (HR.out.below' hS)
 have HBa' := Hd (HBa.out.below' hS)
 have HBb' := Hd (HBb.out.below' hS)
 have Hla' := Hd (Hla.out.below' hS)
 have Hha' := Hd (Hha.out.below' hS)
 have Hpa' := Hd (Hpa.out.below' hS)
 have Hda' := Hd (Hda.out.below' hS)
 have HB' := Hd (below_on HB.out hS (Nat.le_refl _))
 clear hS C HB HR HBa HBb Hla Hha Hpa Hda
 have HR := Hd HR'.out
 have HBa := Hd HBa'.out
 have HBb := Hd HBb'.out
 have Hla := Hd Hla'.out
 have Hha := Hd Hha'.out
 have Hpa := Hd Hpa'.out
 have Hda := Hd Hda'.out
 have HB := Hd HB'.out
 clear HB' HR' HBa' HBb' Hla' Hha' Hpa' Hda'
 have C := Hd (al_leaves HR.out HC.out)
 go_wp2_with fail
 refine C.out.mono ?_
 rintro e w18 ⟨v6, rfl, hv6, hS⟩
 obtain ⟨fa, fc, rfl, hfa⟩ := list_of hv6 rfl (by decide)
 have Hfa := Hd hfa
 clear hfa hv6
 have HR' := Hd (HR.out.below' hS)
 have HBa' := Hd (HBa.out.below' hS)
 have HBb' := Hd (HBb.out.below' hS)
 have Hla' := Hd (Hla.out.below' hS)
 have Hha' := Hd (Hha.out.below' hS)
 have Hpa' := Hd (Hpa.out.below' hS)
 have Hda' := Hd (Hda.out.below' hS)
 have HB' := Hd (below_on HB.out hS (Nat.le_refl _))
 clear hS C HB HR HBa HBb Hla Hha Hpa Hda
 have HR := Hd HR'.out
 have HBa := Hd HBa'.out
 have HBb := Hd HBb'.out
 have Hla := Hd Hla'.out
 have Hha := Hd Hha'.out
 have Hpa := Hd Hpa'.out
 have Hda := Hd Hda'.out
 have HB := Hd HB'.out
 clear HB' HR' HBa' HBb' Hla' Hha' Hpa' Hda'
 have C := Hd (show Calls Tryz.prog 22 #[.slice fa 3 fc, .slice (some ⟨w18.heap.size, 0, none⟩) 3 3] (w18.alloc (.cells #[.int .i64 1, .int .i64 3, .int .i64 4] 3)) _ from eq_made w18 [1, 3, 4] 3 rfl (by decide) 3 _ _ Hfa.out)
 go_wp2_with fail
 refine C.out.mono ?_
 rintro e w19 ⟨rfl, hS⟩
 have HR' := Hd (HR.out.below' hS)
 have HBa' := Hd (HBa.out.below' hS)
 have HBb' := Hd (HBb.out.below' hS)
 have Hla' := Hd (Hla.out.below' hS)
 have Hha' := Hd (Hha.out.below' hS)
 have Hpa' := Hd (Hpa.out.below' hS)
 have Hda' := Hd (Hda.out.below' hS)
 have Hfa' := Hd (Hfa.out.below' hS)
 have HB' := Hd (below_on HB.out hS (Nat.le_refl _))
 clear hS C HB HR HBa HBb Hla Hha Hpa Hda Hfa
 have HR := Hd HR'.out
 have HBa := Hd HBa'.out
 have HBb := Hd HBb'.out
 have Hla := Hd Hla'.out
 have Hha := Hd Hha'.out
 have Hpa := Hd Hpa'.out
 have Hda := Hd Hda'.out
 have Hfa := Hd Hfa'.out
 have HB := Hd HB'.out
 clear HB' HR' HBa' HBb' Hla' Hha' Hpa' Hda' Hfa'
 have C := Hd trivial
 obtain ⟨a0, a1, af, al⟩ := pair_facts HBa.out
 obtain ⟨b0, b1, bf, bl⟩ := pair_facts HBb.out
 go_wp2_with fail
 refine (M1.out _).mono ?_
 rintro e wa ⟨rfl, hS⟩
 have HB2 := Hd (below_on HB.out hS (Nat.le_refl _))
 clear hS HB a0 a1 af al b0 b1 bf bl HBa HBb
 go_wp2_with fail
 refine (M2.out _).mono ?_
 rintro e wb ⟨rfl, hS⟩
 have HB3 := Hd (below_on HB2.out hS (Nat.le_refl _))
 clear hS HB2
 go_wp2_with fail
 refine (S1.out _).mono ?_
 rintro e wc ⟨rfl, rfl⟩
 go_wp2_with fail
 go_ret
 exact ⟨rfl, HB3.out⟩
end Go.Proofs.YtehplmeckfinoaaGreatDoor
