/- A record that is called for and laid into memory in a region that draws its order: the pieces. No dump. -/
import Derived.Test.YtehedodogkhmgaaGreatLast
import Derived.Test.YtehedodogkhmgaaGreatListed
import Derived.Deep.RegionHeld3
import Derived.Test.YtehedodogkhmgaaGreatRefK
import Derived.Test.YtehedodogkhmgaaGreatRefE
import Derived.Test.YtehedodogkhmgaaGreatRSettle
import Derived.BigQuiet
set_option linter.unusedSimpArgs false
set_option linter.unusedVariables false
namespace Go.Proofs.YtehedodogkhmgaaGreat
open Go.RowKit Go.Shelf

theorem zeros_later {W W' : World} {vs : Array Value} {T : TypeId} (hB : Below (W.alloc (.cells vs T)).heap.size (W.alloc (.cells vs T)) W') (j : Nat) :
    W'.cell? ⟨W.heap.size, j, none⟩ = vs[j]? ∧ W'.frozen? ⟨W.heap.size, j, none⟩ = false := by
  have hl : W.heap.size < (W.alloc (.cells vs T)).heap.size := by simp
  exact ⟨(hB.cell (p := ⟨W.heap.size, j, none⟩) hl).trans (cell_of_row _ _ _ _ _ (0, 0) (heap_alloc_new W _)), (hB.frozen (p := ⟨W.heap.size, j, none⟩) hl).trans (frz0 (heap_alloc_new W _) j)⟩
theorem Below.drew_out {B : Nat} {w w' : World} (h : Below B w.drew w') : Below B w w' := (below_drewN (Below.refl B w) 1).trans h
theorem Below.dr {B : Nat} {w w' : World} (h : Below B w w') : Below B w w'.drew := below_drewN h 1
theorem zeros8 {W W' : World} {T : TypeId} (hB : Below (W.alloc (.cells #[.int .i64 0, .int .i64 0, .int .u8 0, .int .i64 0, .int .i64 0, .int .i64 0, .int .i64 0, .int .i64 0] T)).drew.heap.size (W.alloc (.cells #[.int .i64 0, .int .i64 0, .int .u8 0, .int .i64 0, .int .i64 0, .int .i64 0, .int .i64 0, .int .i64 0] T)).drew W') :
    W'.cell? ⟨W.heap.size, 0, none⟩ = some (.int .i64 0) ∧ W'.cell? ⟨W.heap.size, 1, none⟩ = some (.int .i64 0) ∧ W'.cell? ⟨W.heap.size, 2, none⟩ = some (.int .u8 0) ∧ W'.cell? ⟨W.heap.size, 3, none⟩ = some (.int .i64 0) ∧ W'.cell? ⟨W.heap.size, 4, none⟩ = some (.int .i64 0) ∧ W'.cell? ⟨W.heap.size, 5, none⟩ = some (.int .i64 0) ∧ W'.cell? ⟨W.heap.size, 6, none⟩ = some (.int .i64 0) ∧ W'.cell? ⟨W.heap.size, 7, none⟩ = some (.int .i64 0) ∧ W'.frozen? ⟨W.heap.size, 0, none⟩ = false ∧ W'.frozen? ⟨W.heap.size, 1, none⟩ = false ∧ W'.frozen? ⟨W.heap.size, 2, none⟩ = false ∧ W'.frozen? ⟨W.heap.size, 3, none⟩ = false ∧ W'.frozen? ⟨W.heap.size, 4, none⟩ = false ∧ W'.frozen? ⟨W.heap.size, 5, none⟩ = false ∧ W'.frozen? ⟨W.heap.size, 6, none⟩ = false ∧ W'.frozen? ⟨W.heap.size, 7, none⟩ = false ∧ W.heap.size < W'.heap.size := by
  have hB' := Below.drew_out hB
  have h := fun j => (zeros_later hB' j).1
  have h' := fun j => (zeros_later hB' j).2
  exact ⟨h 0, h 1, h 2, h 3, h 4, h 5, h 6, h 7, h' 0, h' 1, h' 2, h' 3, h' 4, h' 5, h' 6, h' 7, Nat.lt_of_lt_of_le (show W.heap.size < (W.alloc _).heap.size by simp) hB.size⟩
theorem zbox {W W' : World} {T : TypeId} (hB : Below (W.alloc (.cells #[.int .i64 0, .int .i64 0, .int .u8 0, .int .i64 0, .int .i64 0, .int .i64 0, .int .i64 0, .int .i64 0] T)).drew.heap.size (W.alloc (.cells #[.int .i64 0, .int .i64 0, .int .u8 0, .int .i64 0, .int .i64 0, .int .i64 0, .int .i64 0, .int .i64 0] T)).drew W') : BoxPo W' W.heap.size zPo := ((BoxPo.made W zPo T).drewN 1).below' hB
theorem bl0 (w : World) : Below w.heap.size w w.drew := Below.dr (Below.refl _ _)
theorem bl1 (w : World) (o : Obj) : Below w.heap.size w (w.alloc o).drew := Below.dr (Below.alloc (Below.refl _ w) (Nat.le_refl _) o)
theorem bl3 {w w' : World} (h : Below w.heap.size w w') (o : Obj) : Below w.heap.size w (w'.alloc o) := Below.alloc h h.size o
theorem below8 {w w' : World} (h : Below w.heap.size w w') (p : Po) : Below w.heap.size w ((((((((w'.setCell ⟨w.heap.size, 0, none⟩ (.int .i64 p.id)).setCell ⟨w.heap.size, 1, none⟩ (.int .i64 p.hour)).setCell ⟨w.heap.size, 2, none⟩ (.int .u8 p.kind)).setCell ⟨w.heap.size, 3, none⟩ (.int .i64 p.party)).setCell ⟨w.heap.size, 4, none⟩ (.int .i64 p.parcel)).setCell ⟨w.heap.size, 5, none⟩ (.int .i64 p.amount)).setCell ⟨w.heap.size, 6, none⟩ (.int .i64 p.reason)).setCell ⟨w.heap.size, 7, none⟩ (.int .i64 p.known)) := put8_below h (Nat.le_refl _) p
theorem keep2 {W W' : World} {a a' : Addr} {u v : Value} (h : W.cell? a = some u ∧ W.cell? a' = some v) (hB : Below W.heap.size W W') : W'.cell? a = some u ∧ W'.cell? a' = some v := ⟨cell_keep h.1 hB, cell_keep h.2 hB⟩
end Go.Proofs.YtehedodogkhmgaaGreat

/- The walks of the references' compared, Over, Open, Settled, SameDues, SameInts, and of purse's Open. -/
set_option linter.unusedSimpArgs false
set_option linter.unusedVariables false
namespace Go.Proofs.YtehedodogkhmgaaGreat
open Go.RowKit Go.Shelf

set_option maxHeartbeats 1000000 in
theorem rcompared_any (a : Option Addr) (n cap : Nat) (xs : List Po) (a' : Option Addr) (n' cap' : Nat) (d : List Du) (w : World) (h : Rd Po.vals 8 w a n xs) (hn : n ≤ 1000) (hcap : n ≤ cap) (h' : Rd Du.vals 3 w a' n' d) :
    Calls Tryz.prog 101 #[.slice a n cap, .slice a' n' cap'] w fun e w' => e = .returned (.int .i64 (cmpE xs d)) ∧ Below w.heap.size w w' := by
  go_enter Tryz.func101, Tryz.ntmps101
  go_wp2_with fail
  refine (rcheck_any a n cap xs _ h hn hcap).mono ?_
  rintro e w1 ⟨rfl, hB⟩
  have HB := Lib.hid hB
  have H' := Lib.hid (h'.below' hB)
  clear hB h h'
  by_cases hc : (checkL xs).2 = 0
  · have hc1 : ((checkL xs).2 == 0) = true := by simp [hc]
    have HE := Lib.hid (cmpE_b (d := d) hc)
    clear hc
    go_wp2_with fail
    refine (rcheckDues_any a' n' cap' d _ H'.out).mono ?_
    rintro e w2 ⟨rfl, hB⟩
    have HB2 := Lib.hid (below_then HB.out hB (Nat.le_refl _))
    clear hB
    go_wp2_with fail
    go_ret
    exact ⟨ret_int HE.out.symm, HB2.out⟩
  · have hc1 : ((checkL xs).2 == 0) = false := by simp [hc]
    have HE := Lib.hid (cmpE_a (d := d) hc)
    clear hc
    go_wp2_with fail
    go_ret
    exact ⟨ret_int HE.out.symm, HB.out⟩
theorem cmpE_0 {xs : List Po} {d : List Du} (h : cmpE xs d = 0) : (checkL xs).2 = 0 ∧ chkDu d = 0 := by
  unfold cmpE at h
  by_cases hc : (checkL xs).2 = 0
  · rw [if_pos hc] at h; exact ⟨hc, h⟩
  · rw [if_neg hc] at h; exact absurd h hc

set_option maxRecDepth 100000 in
set_option maxHeartbeats 2000000 in
theorem rOver_any (a : Option Addr) (n cap : Nat) (xs : List Po) (a' : Option Addr) (n' cap' : Nat) (d : List Du) (w : World) (h : Rd Po.vals 8 w a n xs) (hn : n ≤ 1000) (hcap : n ≤ cap) (h' : Rd Du.vals 3 w a' n' d) :
    Calls Tryz.prog 36 #[.slice a n cap, .slice a' n' cap'] w (OverPost w xs d (overM xs d)) := by
  have H := Lib.hid h
  have H' := Lib.hid h'
  clear h h'
  go_enter Tryz.func36, Tryz.ntmps36
  go_wp2_with fail
  refine (rcompared_any a n cap xs a' n' cap' d _ H.out hn hcap H'.out).mono ?_
  rintro e w1 ⟨rfl, hB⟩
  have HB := Lib.hid hB
  by_cases hc : cmpE xs d = 0
  · have hc1 : (cmpE xs d != 0) = false := by simp [hc]
    have HC := Lib.hid hc
    obtain ⟨h1, h2⟩ := cmpE_0 hc
    have HO := Lib.hid h1
    have HD := Lib.hid h2
    have H1 := Lib.hid (H.out.below' hB)
    have H1' := Lib.hid (H'.out.below' hB)
    clear hB hc h1 h2
    go_wp2_with fail
    refine (rover_any a n cap xs a' n' cap' d _ H1.out hn (checkL_okl HO.out).am H1'.out (goodB_all (chkDu_ok HD.out).2)).mono ?_
    rintro e w2 ⟨v, rfl, hrow, hB⟩
    rw [overR_eq HD.out] at hrow
    have HR := Lib.hid (ownsRow_mono hrow HB.out.size)
    have HB2 := Lib.hid (below_then HB.out hB (Nat.le_refl _))
    clear hB hrow
    go_wp2_with fail
    go_ret2
    exact ⟨HB2.out, .inr ⟨HC.out, v, rfl, HR.out⟩⟩
  · have hc1 : (cmpE xs d != 0) = true := by simp [hc]
    have HC := Lib.hid hc
    clear hc hB
    go_wp2_with fail
    go_ret2
    exact ⟨HB.out, .inl ⟨HC.out, rfl⟩⟩

set_option maxRecDepth 100000 in
set_option maxHeartbeats 2000000 in
theorem open_all (a : Option Addr) (n cap : Nat) (xs : List Po) (a' : Option Addr) (n' cap' : Nat) (d : List Du) (w : World) (h : Rd Po.vals 8 w a n xs) (hw : ∀ p ∈ xs, p.Wf) (h' : Rd Du.vals 3 w a' n' d) :
    Calls Tryz.prog 33 #[.slice a n cap, .slice a' n' cap'] w (OverPost w xs d (openL xs d)) := by
  have H' := Lib.hid h'
  have Hl' := Lib.hid h'.len
  go_enter Tryz.func33, Tryz.ntmps33
  go_wp2_with fail
  refine (dues_any a n cap xs a' n' cap' d _ h hw h').mono ?_
  rintro e w1 ⟨hB, ⟨hc, rfl⟩ | ⟨hc, hd, rfl⟩ | ⟨hc, hd, L, s, rfl, hch, hbk, hL⟩⟩
  · have hc1 : ((checkL xs).2 != 0) = true := by simp [hc]
    have HB := Lib.hid hB
    have Hc := Lib.hid hc
    clear hB hc h h'
    go_wp2_with fail
    go_ret2
    exact ⟨HB.out, .inl ⟨by rw [cmpE_a Hc.out]; exact Hc.out, by rw [cmpE_a Hc.out]; rfl⟩⟩
  · have hc1 : (chkDu d != 0) = true := by simp [hd]
    have HB := Lib.hid hB
    have Hc := Lib.hid hc
    have Hd := Lib.hid hd
    clear hB hc hd h h'
    go_wp2_with fail
    go_ret2
    exact ⟨HB.out, .inl ⟨by rw [cmpE_b Hc.out]; exact Hd.out, by rw [cmpE_b Hc.out]; rfl⟩⟩
  · have HB := Lib.hid hB
    have Hc := Lib.hid hc
    have Hd := Lib.hid hd
    have H1' := Lib.hid (H'.out.below' hB)
    have Hch := Lib.hid hch
    have Hbk := Lib.hid hbk
    clear hB hc hd h h' hch hbk hL
    go_wp2_with fail
    refine (open_any L s xs a' n' cap' d _ Hch.out Hbk.out H1'.out (goodB_all (chkDu_ok Hd.out).2) (by have := (chkDu_ok Hd.out).1; have := Hl'.out; omega)).mono ?_
    rintro e w2 ⟨v, rfl, hrow, hB⟩
    have HR := Lib.hid (ownsRow_mono hrow HB.out.size)
    have HB2 := Lib.hid (below_then HB.out hB (Nat.le_refl _))
    clear hB hrow
    go_wp2_with fail
    go_ret2
    exact ⟨HB2.out, .inr ⟨by rw [cmpE_b Hc.out]; exact Hd.out, v, rfl, HR.out⟩⟩
end Go.Proofs.YtehedodogkhmgaaGreat

/- The walks of the references' Open, Settled, SameDues, SameInts. -/
set_option linter.unusedSimpArgs false
set_option linter.unusedVariables false
namespace Go.Proofs.YtehedodogkhmgaaGreat
open Go.RowKit Go.Shelf

theorem keep2g {W W' : World} {o : Obj} {b i0 i1 : Nat} {u v : Value} {row : Option Nat} (h : W.cell? ⟨b, i0, none⟩ = some u ∧ W.cell? ⟨b, i1, none⟩ = some v) (hg : (W.alloc o).drew.grownBy W' row) (hb : row ≠ some b) (hlb : b < W.heap.size) :
    W'.cell? ⟨b, i0, none⟩ = some u ∧ W'.cell? ⟨b, i1, none⟩ = some v := by
  have h1 : ∀ i, W'.cell? ⟨b, i, none⟩ = W.cell? ⟨b, i, none⟩ := fun i => (hg.cell_far ⟨b, i, none⟩ (Nat.lt_of_lt_of_le hlb (by show W.heap.size ≤ (W.alloc o).heap.size; simp)) (fun e => hb e.symm)).trans ((bl1 W o).cell (p := ⟨b, i, none⟩) hlb)
  rw [h1, h1]; exact h

set_option maxRecDepth 100000 in
set_option maxHeartbeats 8000000 in
theorem rOpen_any (a : Option Addr) (n cap : Nat) (xs : List Po) (a' : Option Addr) (n' cap' : Nat) (d : List Du) (w : World) (h : Rd Po.vals 8 w a n xs) (hn : n ≤ 1000) (hcap : n ≤ cap) (h' : Rd Du.vals 3 w a' n' d) :
    Calls Tryz.prog 34 #[.slice a n cap, .slice a' n' cap'] w (OverPost w xs d (openL xs d)) := by
  have H := Lib.hid h
  have H' := Lib.hid h'
  have Hl := Lib.hid h.len
  have Hl' := Lib.hid h'.len
  obtain ⟨i0, hi0, hz0, hz1, hz2⟩ := info_parts info_du
  clear h h'
  go_enter Tryz.func34, Tryz.ntmps34
  go_wp2_with fail
  refine (rcompared_any a n cap xs a' n' cap' d _ H.out hn hcap H'.out).mono ?_
  rintro e w1 ⟨rfl, hB⟩
  have HB := Lib.hid hB
  by_cases hc : cmpE xs d = 0
  case neg =>
    have hc1 : (cmpE xs d == 0) = false := by simp [hc]
    have HC := Lib.hid hc
    clear hc hB
    go_wp2_with fail
    go_loopw [7, 8] (fun v i wr => v = .slice none 0 0 ∧ i = .int .i64 0 ∧ wr = w1) (fun _ i _ => (intOf i).toNat)
    case atStart => exact ⟨rfl, rfl, rfl⟩
    case round =>
      obtain ⟨rfl, rfl, rfl⟩ := hrel
      by_cases hn0 : 0 < n'
      · have hn1 : (0 : Int) < (n' : Int) := by omega
        go_wp2_with fail
        go_ret2
        exact ⟨HB.out, .inl ⟨HC.out, rfl⟩⟩
      · have hn1 : ¬ (0 : Int) < (n' : Int) := by omega
        go_wp2_with fail
        go_ret2
        exact ⟨HB.out, .inl ⟨HC.out, rfl⟩⟩
  have HC := Lib.hid hc
  obtain ⟨h1, h2⟩ := cmpE_0 hc
  have HA := Lib.hid (checkL_okl h1).am
  have HD := Lib.hid (goodB_all (chkDu_ok h2).2)
  have hdl : n' ≤ 400 := by rw [← Hl'.out]; exact (chkDu_ok h2).1
  have H1 := Lib.hid (H.out.below' hB)
  have H1' := Lib.hid (H'.out.below' hB)
  rw [hc]
  clear hB hc h1 h2
  go_wp2_with fail
  go_loopw [7, 8] (fun v i wr => ∃ k : Nat, k ≤ n' ∧ i = .int .i64 k ∧ wr.ownsRow w1.heap.size 53 3 v (openL xs (d.take k)).length ((openL xs (d.take k)).flatMap Du.vals) ∧ Below w1.heap.size w1 wr) (fun _ i _ => n' - (intOf i).toNat)
  case atStart => exact ⟨0, Nat.zero_le _, rfl, World.ownsRow_nil _ _ _ _, Below.refl _ _⟩
  case round =>
    obtain ⟨k, hk, rfl, hrow, hB⟩ := hrel
    have HRow := Lib.hid hrow
    have HB2 := Lib.hid hB
    have h2' := H1'.out.below' hB
    have H2 := Lib.hid (H1.out.below' hB)
    clear hrow hB
    by_cases hlt : k < n'
    case neg =>
      have hlt' : ¬ (k : Int) < (n' : Int) := by omega
      have HE := Lib.hid (show d.take k = d from List.take_of_length_le (by rw [Hl'.out]; omega))
      go_wp2_with fail
      go_ret2
      refine ⟨below_then HB.out HB2.out (Nat.le_refl _), .inr ⟨HC.out, _, by first | rfl | simp, ?_⟩⟩
      have := ownsRow_mono HRow.out HB.out.size
      rwa [HE.out] at this
    have hlt' : (k : Int) < (n' : Int) := by omega
    obtain ⟨b0, off0, x', hb0, hbw, _, _, _, _⟩ := H1'.out.du hlt
    obtain ⟨b, off, x, rfl, hb, hx, x0, x1, x2⟩ := h2'.du hlt
    have hbw' : b < w1.heap.size := by cases hb0; exact hbw
    have HBW := Lib.hid hbw'
    have hxo := (okDu_facts (HD.out x (List.mem_of_getElem? hx))).2.2
    obtain ⟨hv, hhv⟩ : ∃ hv, hasL xs x.party x.parcel = hv := ⟨_, rfl⟩
    have hvb : -1000000000000 ≤ hv ∧ hv ≤ 1000000000000 := by
      have h1 := hasL_bound HA.out x.party x.parcel
      rw [hhv, Hl.out] at h1
      omega
    have hlen : (openL xs (d.take k)).length ≤ 400 := Nat.le_trans (List.length_filterMap_le _ _) (by rw [List.length_take]; omega)
    have Hlen := Lib.hid hlen
    have hst : openStep xs x = if 0 < x.amount - hv then some ⟨x.party, x.parcel, x.amount - hv⟩ else none := by unfold openStep; rw [hhv]
    have HS := Lib.hid (show openL xs (d.take (k + 1)) = openL xs (d.take k) ++ (if 0 < x.amount - hv then [⟨x.party, x.parcel, x.amount - hv⟩] else []) by
      unfold openL
      rw [take_succ_snoc hx, List.filterMap_append]
      congr 1
      simp only [List.filterMap_cons, List.filterMap_nil, hst]
      by_cases h0 : 0 < x.amount - hv
      · rw [if_pos h0, if_pos h0]
      · rw [if_neg h0, if_neg h0])
    have C1 := Lib.hid (show ∀ z : Later wr, Calls Tryz.prog 71 #[.slice a n cap, .int .i64 x.party, .int .i64 x.parcel] z.w fun e w' => e = .returned (.int .i64 hv) ∧ Below z.w.heap.size z.w w' from fun z => by
      rw [← hhv]; exact (has_any a n cap xs x.party x.parcel z.w (H2.out.below' z.hB) hn HA.out).mono fun e w' h => ⟨h.1, by rw [h.2]; exact Below.refl _ _⟩)
    have k0 : ∀ z : Later wr, z.w.cell? ⟨b, off + k * 3, none⟩ = some (.int .i64 x.party) := fun z => z.cell x0
    have k1 : ∀ z : Later wr, z.w.cell? ⟨b, off + k * 3 + 1, none⟩ = some (.int .i64 x.parcel) := fun z => z.cell x1
    have k2 : ∀ z : Later wr, z.w.cell? ⟨b, off + k * 3 + 2, none⟩ = some (.int .i64 x.amount) := fun z => z.cell x2
    clear hx hhv hst hlen hb0 hbw hbw' h2'
    go_upto_region 6 with (fail)
    refine wp_region_later (by kernel_rfl) (by kernel_rfl) ?_
    repeat (go_big_quiet_step ((first | (go_at_call 71; exact Calls.later_of (C1.out _)))))
    refine wpQuiet_nil ?_
    intro wz hw'
    obtain ⟨⟨W, hW⟩, hw''⟩ := hw'
    obtain rfl : W = wz := hw''.symm
    clear hw'' k0 k1 k2
    have f0 := cell_keep x0 hW
    have f1 := cell_keep x1 hW
    have hbW : b < W.heap.size := Nat.lt_of_lt_of_le hb hW.size
    have HBW2 := Lib.hid (below_then HB2.out hW (Nat.le_refl _))
    have HRW := Lib.hid (own_later HRow.out hW)
    clear hW x0 x1 x2
    obtain ⟨m, hm⟩ : ∃ m, x.amount - hv = m := ⟨_, rfl⟩
    rw [hm] at HS ⊢
    clear hm hvb hxo
    by_cases h0 : 0 < m
    case neg =>
      rw [if_neg h0, List.append_nil] at HS
      go_wp2_with fail
      refine ⟨⟨k + 1, by omega, by go_num, by rw [HS.out]; exact HRW.out, HBW2.out⟩, by simp [intOf]; omega⟩
    rw [if_pos h0] at HS
    go_upto_region 8 with (fail)
    go_region_held3 (fun w' => w'.cell? ⟨b, off + k * 3, none⟩ = some (.int .i64 x.party) ∧ w'.cell? ⟨b, off + k * 3 + 1, none⟩ = some (.int .i64 x.parcel))
      ((first | (with_reducible apply HK9.out) | (refine keep2 ⟨f0, f1⟩ ?_; first | with_reducible apply bl0 | with_reducible apply bl1)))
      (first
        | (refine step_append_lies _ (by rfl) _ _ _ (by rfl) _ 53 i0 _ 3 24 Tryz.underlying23 hi0 hz0 hz1 hz2 rfl (by omega) _ _ _ (by rfl) (own_later HRW.out (bl1 W _)) ⟨W.heap.size, 0, none⟩ 1 1 (Du.vals ⟨x.party, x.parcel, m⟩) (by rfl) (by rfl)
            (World.news_of_block (cs := #[.int .i64 x.party, .int .i64 x.parcel, .int .i64 m]) (t := 53) (fr := (0, 0)) (heap_alloc_new W _)) (by simp [Du.vals, Value.oneCell']) (by omega) (by have := Hlen.out; unfold maxLen; omega) (by have := Hlen.out; omega) (Nat.le_trans HBW2.out.size (by simp)) _ rfl ?_; intro g cap9 w9 hown9 hgrow hat hlt9
           have HK9 := Lib.hid (keep2g ⟨f0, f1⟩ hgrow (fun e => by have h1 := (HRW.out.lt _ e).1; have h2 := HBW.out; omega) hbW); have HO9 := Lib.hid hown9; have HG9 := Lib.hid hgrow; clear hown9 hgrow hat))
    go_wp2_with fail
    refine ⟨⟨k + 1, by omega, by go_num, ?_, (below_then HBW2.out (bl1 W _) (Nat.le_refl _)).grown HG9.out (Nat.le_trans HBW2.out.size (by show W.heap.size ≤ (W.alloc _).heap.size; simp)) (fun k e => (HRW.out.lt k e).1)⟩, by simp [intOf]; omega⟩
    rw [HS.out, List.length_append, List.flatMap_append]
    simpa using HO9.out
end Go.Proofs.YtehedodogkhmgaaGreat

/- The walks of the references' Settled, SameDues, SameInts. -/
set_option linter.unusedSimpArgs false
set_option linter.unusedVariables false
namespace Go.Proofs.YtehedodogkhmgaaGreat
open Go.RowKit Go.Shelf

/-- nobody lacks and nobody has too much: all have what is due -/
theorem not_settled {xs : List Po} {d : List Du} (hO : Okl xs) (hcd : chkDu d = 0) {x : Du} (hx : x ∈ d) (hne : x.amount ≠ hasL xs x.party x.parcel) : ¬ (openL xs d = [] ∧ overM xs d = []) := by
  rintro ⟨h1, h2⟩
  have hdue := dueM_at hcd hx
  have hd := goodB_all (chkDu_ok hcd).2
  have h0 := (okDu_facts (hd x hx)).2.2
  by_cases hop : 0 < x.amount - hasL xs x.party x.parcel
  · have : accOf x ∈ (openL xs d).map accOf := openL_has hx hop
    rw [h1] at this
    simp at this
  · have hst : overStep xs d (accOf x) = some ⟨x.party, x.parcel, hasL xs x.party x.parcel - getI (dueM d) (accOf x)⟩ := by
      unfold overStep
      rw [if_pos (show 0 < hasL xs (accOf x).2 (accOf x).1 - getI (dueM d) (accOf x) by rw [hdue]; show 0 < hasL xs x.party x.parcel - x.amount; omega)]
      rfl
    have hm : (⟨x.party, x.parcel, hasL xs x.party x.parcel - getI (dueM d) (accOf x)⟩ : Du) ∈ overM xs d := List.mem_filterMap.2 ⟨accOf x, (accL_mem hO _).2 (by show hasL xs x.party x.parcel ≠ 0; omega), hst⟩
    rw [h2] at hm
    simp at hm
theorem all_settled {xs : List Po} {d : List Du} (h : ∀ x ∈ d, x.amount = hasL xs x.party x.parcel) : openL xs d = [] := by
  unfold openL
  rw [List.filterMap_eq_nil_iff]
  intro x hx
  unfold openStep
  rw [if_neg (by have := h x hx; omega)]

set_option maxRecDepth 100000 in
set_option maxHeartbeats 8000000 in
theorem rSettled_any (a : Option Addr) (n cap : Nat) (xs : List Po) (a' : Option Addr) (n' cap' : Nat) (d : List Du) (w : World) (h : Rd Po.vals 8 w a n xs) (hn : n ≤ 1000) (hcap : n ≤ cap) (h' : Rd Du.vals 3 w a' n' d) :
    Calls Tryz.prog 39 #[.slice a n cap, .slice a' n' cap'] w (SettledPost w xs d) := by
  have H := Lib.hid h
  have H' := Lib.hid h'
  have Hl := Lib.hid h.len
  have Hl' := Lib.hid h'.len
  clear h h'
  go_enter Tryz.func39, Tryz.ntmps39
  go_wp2_with fail
  refine (rcompared_any a n cap xs a' n' cap' d _ H.out hn hcap H'.out).mono ?_
  rintro e w1 ⟨rfl, hB⟩
  have HB := Lib.hid hB
  by_cases hc : cmpE xs d = 0
  case neg =>
    have hc1 : (cmpE xs d != 0) = true := by simp [hc]
    have HC := Lib.hid hc
    clear hc hB
    go_wp2_with fail
    go_ret2
    exact ⟨HB.out, ret_bool_int (by simp [HC.out]) rfl⟩
  have HC := Lib.hid hc
  obtain ⟨h1, h2⟩ := cmpE_0 hc
  have HO := Lib.hid (checkL_okl h1)
  have HK := Lib.hid h1
  have HCd := Lib.hid h2
  have hdl : n' ≤ 400 := by rw [← Hl'.out]; exact (chkDu_ok h2).1
  have H1 := Lib.hid (H.out.below' hB)
  have H1' := Lib.hid (H'.out.below' hB)
  rw [hc]
  clear hB hc h1 h2
  go_wp2_with fail
  go_loopw [7] (fun i wr => ∃ k : Nat, k ≤ n' ∧ i = .int .i64 k ∧ (∀ x ∈ d.take k, x.amount = hasL xs x.party x.parcel) ∧ Below w1.heap.size w1 wr) (fun i _ => n' - (intOf i).toNat)
  case atStart => exact ⟨0, Nat.zero_le _, rfl, by simp, Below.refl _ _⟩
  case round =>
    obtain ⟨k, hk, rfl, hall, hB⟩ := hrel
    have HAll := Lib.hid hall
    have HB2 := Lib.hid hB
    have h2' := H1'.out.below' hB
    have H2 := Lib.hid (H1.out.below' hB)
    have H2' := Lib.hid h2'
    clear hall hB
    by_cases hlt : k < n'
    case neg =>
      have hlt' : ¬ (k : Int) < (n' : Int) := by omega
      have hke : d.take k = d := List.take_of_length_le (by rw [Hl'.out]; omega)
      have HOp := Lib.hid (all_settled (by have := HAll.out; rwa [hke] at this))
      clear hke h2'
      go_wp2_with fail
      refine (rover_any a n cap xs a' n' cap' d _ H2.out hn HO.out.am H2'.out (goodB_all (chkDu_ok HCd.out).2)).mono ?_
      rintro e w2 ⟨v, rfl, hrow, hB⟩
      rw [overR_eq HCd.out] at hrow
      have hol : (overM xs d).length ≤ 400 := by
        obtain ⟨s0, hb0⟩ := book_bk HK.out
        exact Nat.le_trans (List.length_filterMap_le _ _) (accL_len hb0)
      obtain ⟨bn, hbn⟩ : ∃ bn, (overM xs d).length = bn := ⟨_, rfl⟩
      rw [hbn] at hrow hol
      obtain ⟨ba, bc, rfl, _, _, _⟩ := Rd.of_own hrow du_vals_length (by omega) hbn (by unfold maxLen; omega)
      have HB3 := Lib.hid (below_then HB.out (below_then HB2.out hB (Nat.le_refl _)) (Nat.le_refl _))
      have Hbn := Lib.hid hbn
      clear hB hrow hbn
      by_cases hz : bn = 0
      · have hz1 : ((bn : Int) == 0) = true := by simp [hz]
        have HE := Lib.hid (show overM xs d = [] from List.eq_nil_of_length_eq_zero (by rw [Hbn.out]; exact hz))
        have hzd : decide (bn = 0) = true := decide_eq_true hz
        clear hz
        go_wp2_with fail
        go_ret2
        exact ⟨HB3.out, ret_bool_int (by simp [HC.out, HOp.out, HE.out]) HC.out.symm⟩
      · have hz1 : ((bn : Int) == 0) = false := by simp; omega
        have HE := Lib.hid (show overM xs d ≠ [] from fun e => by have := Hbn.out; rw [e] at this; exact hz this.symm)
        have hzd : decide (bn = 0) = false := decide_eq_false hz
        clear hz
        go_wp2_with fail
        go_ret2
        exact ⟨HB3.out, ret_bool_int (by simp [HE.out]) HC.out.symm⟩
    have hlt' : (k : Int) < (n' : Int) := by omega
    obtain ⟨b, off, x, rfl, hb, hx, x0, x1, x2⟩ := h2'.du hlt
    obtain ⟨hv, hhv⟩ : ∃ hv, hasL xs x.party x.parcel = hv := ⟨_, rfl⟩
    have C1 := Lib.hid (show ∀ z : Later wr, Calls Tryz.prog 71 #[.slice a n cap, .int .i64 x.party, .int .i64 x.parcel] z.w fun e w' => e = .returned (.int .i64 hv) ∧ Below z.w.heap.size z.w w' from fun z => by
      rw [← hhv]; exact (has_any a n cap xs x.party x.parcel z.w (H2.out.below' z.hB) hn HO.out.am).mono fun e w' h => ⟨h.1, by rw [h.2]; exact Below.refl _ _⟩)
    have k0 : ∀ z : Later wr, z.w.cell? ⟨b, off + k * 3, none⟩ = some (.int .i64 x.party) := fun z => z.cell x0
    have k1 : ∀ z : Later wr, z.w.cell? ⟨b, off + k * 3 + 1, none⟩ = some (.int .i64 x.parcel) := fun z => z.cell x1
    have k2 : ∀ z : Later wr, z.w.cell? ⟨b, off + k * 3 + 2, none⟩ = some (.int .i64 x.amount) := fun z => z.cell x2
    have Hhv := Lib.hid hhv
    have Hx := Lib.hid hx
    clear hx hhv h2' x0 x1 x2
    by_cases he : x.amount = hv
    · have he1 : (x.amount != hv) = false := by simp [he]
      have HS := Lib.hid (show ∀ y ∈ d.take (k + 1), y.amount = hasL xs y.party y.parcel from fun y hy => by
        rw [take_succ_snoc Hx.out] at hy
        rcases List.mem_append.1 hy with hy | hy
        · exact HAll.out y hy
        · rw [List.mem_singleton.1 hy, Hhv.out]; exact he)
      clear he
      go_upto_region 7 with (fail)
      refine wp_region_later (by kernel_rfl) (by kernel_rfl) ?_
      repeat (go_big_quiet_step ((first | (go_at_call 71; exact Calls.later_of (C1.out _)))))
      refine wpQuiet_nil ?_
      intro wz hw'
      obtain ⟨⟨W, hW⟩, hw''⟩ := hw'
      obtain rfl : W = wz := hw''.symm
      clear hw'' k0 k1 k2
      have HBW := Lib.hid (below_then HB2.out hW (Nat.le_refl _))
      clear hW
      go_wp2_with fail
      exact ⟨⟨k + 1, by omega, by go_num, HS.out, HBW.out⟩, by simp [intOf]; omega⟩
    · have he1 : (x.amount != hv) = true := by simp [he]
      have HN := Lib.hid (not_settled HO.out HCd.out (List.mem_of_getElem? Hx.out) (by rw [Hhv.out]; exact he))
      clear he
      go_upto_region 7 with (fail)
      refine wp_region_later (by kernel_rfl) (by kernel_rfl) ?_
      repeat (go_big_quiet_step ((first | (go_at_call 71; exact Calls.later_of (C1.out _)))))
      refine wpQuiet_nil ?_
      intro wz hw'
      obtain ⟨⟨W, hW⟩, hw''⟩ := hw'
      obtain rfl : W = wz := hw''.symm
      clear hw'' k0 k1 k2
      have HBW := Lib.hid (below_then HB.out (below_then HB2.out hW (Nat.le_refl _)) (Nat.le_refl _))
      clear hW
      go_wp2_with fail
      go_ret2
      exact ⟨HBW.out, ret_bool_int (by have := HN.out; simp only [not_and] at this; simp only [HC.out, true_and]; exact (decide_eq_false fun e => this e.1 e.2).symm) HC.out.symm⟩
end Go.Proofs.YtehedodogkhmgaaGreat

/- The walks of the references' SameDues, SameInts. -/
set_option linter.unusedSimpArgs false
set_option linter.unusedVariables false
namespace Go.Proofs.YtehedodogkhmgaaGreat
open Go.RowKit

theorem du_eq_iff2 (p q : Du) : p = q ↔ p.party = q.party ∧ p.parcel = q.parcel ∧ p.amount = q.amount := by
  cases p; cases q; simp

theorem eqDu2_run (p q : Du) (w : World) : (Op.equalIn 10000 53 (.agg #[.int .i64 p.party, .int .i64 p.parcel, .int .i64 p.amount])
    (.agg #[.int .i64 q.party, .int .i64 q.parcel, .int .i64 q.amount])).run Tryz.prog w = .ok (decide (p = q)) w := by
  go_simp
  by_cases h : p = q
  · subst h
    simp
  · have h' := h
    rw [du_eq_iff2] at h'
    simp only [h, decide_false]
    repeat' split
    all_goals first | rfl | (exfalso; apply h'; refine ⟨?_, ?_, ?_⟩ <;> assumption)

theorem neqDu_run (p q : Du) (w : World) : (binOp .neq 53 (.agg #[.int .i64 p.party, .int .i64 p.parcel, .int .i64 p.amount])
    (.agg #[.int .i64 q.party, .int .i64 q.parcel, .int .i64 q.amount])).run Tryz.prog w = .ok (.bool (!(decide (p = q)))) w := by
  simp only [binOp]
  simp [Op.equal, Op.maxDepth, eqDu2_run]

set_option maxRecDepth 100000 in
set_option maxHeartbeats 2000000 in
theorem sameDues_any (a a' : Option Addr) (n n' cap cap' : Nat) (xs ys : List Du) (w : World) (h : Rd Du.vals 3 w a n xs) (h' : Rd Du.vals 3 w a' n' ys) :
    Calls Tryz.prog 37 #[.slice a n cap, .slice a' n' cap'] w fun e w' => e = .returned (.bool (decide (xs = ys))) ∧ Below w.heap.size w w' := by
  by_cases hnn : n = n'
  case neg =>
    have hd : ((n : Int) != n') = true := by simp; omega
    have hx : xs ≠ ys := fun e => hnn (by rw [← h.len, ← h'.len, e])
    go_enter Tryz.func37, Tryz.ntmps37
    go_wp2_with fail
    go_ret
    exact ⟨ret_bool (by simp [hx]), Below.refl _ _⟩
  subst hnn
  have hd : ((n : Int) != n) = false := by simp
  have Hl := Lib.hid h.len
  have Hl' := Lib.hid h'.len
  have hm := h.cap
  unfold maxLen at hm
  go_enter Tryz.func37, Tryz.ntmps37
  go_wp2_with fail
  go_loopw [5] (fun i wr => ∃ k : Nat, k ≤ n ∧ i = .int .i64 k ∧ xs.take k = ys.take k ∧ Rd Du.vals 3 wr a n xs ∧ Rd Du.vals 3 wr a' n ys ∧ Below w.heap.size w wr) (fun i _ => n - (intOf i).toNat)
  case atStart => exact ⟨0, Nat.zero_le _, rfl, rfl, h, h', Below.refl _ _⟩
  case round =>
    obtain ⟨k, hk, rfl, he, h1, h1', hB⟩ := hrel
    have He := Lib.hid he
    have HB := Lib.hid hB
    clear he hB h h'
    by_cases hlt : k < n
    · obtain ⟨b, off, x, rfl, hb, hx, x0, x1, x2⟩ := h1.du hlt
      obtain ⟨b', off', y, rfl, hb', hy, y0, y1, y2⟩ := h1'.du hlt
      have Hx := Lib.hid hx
      have Hy := Lib.hid hy
      clear hx hy
      have Hsn := Lib.hid (take_succ_snoc Hx.out)
      have Hsn' := Lib.hid (take_succ_snoc Hy.out)
      by_cases hxy : x = y
      · have hne : ∀ W, (binOp .neq 53 (.agg #[.int .i64 x.party, .int .i64 x.parcel, .int .i64 x.amount])
          (.agg #[.int .i64 y.party, .int .i64 y.parcel, .int .i64 y.amount])).run Tryz.prog W = .ok (.bool false) W := fun W => by rw [neqDu_run]; simp [hxy]
        have Hxy := Lib.hid hxy
        clear hxy
        go_wp2_with fail
        go_quiet (fail)
        go_wp2_with fail
        exact ⟨⟨k + 1, by omega, by go_num, by rw [Hsn.out, Hsn'.out, He.out, Hxy.out], h1.drewN _, h1'.drewN _, below_drewN HB.out _⟩, by simp [intOf]; omega⟩
      · have hne : ∀ W, (binOp .neq 53 (.agg #[.int .i64 x.party, .int .i64 x.parcel, .int .i64 x.amount])
          (.agg #[.int .i64 y.party, .int .i64 y.parcel, .int .i64 y.amount])).run Tryz.prog W = .ok (.bool true) W := fun W => by rw [neqDu_run]; simp [hxy]
        have Hxy := Lib.hid hxy
        clear hxy
        go_wp2_with fail
        go_quiet (fail)
        go_wp2_with fail
        go_ret
        refine ⟨ret_bool ?_, below_drewN HB.out _⟩
        have : xs ≠ ys := fun e => Hxy.out (by have h1 := Hx.out; have h2 := Hy.out; rw [e] at h1; exact Option.some.inj (h1.symm.trans h2))
        simp [this]
    · go_wp2_with fail
      go_ret
      refine ⟨ret_bool ?_, HB.out⟩
      have := He.out
      rw [List.take_of_length_le (by rw [Hl.out]; omega), List.take_of_length_le (by rw [Hl'.out]; omega)] at this
      simp [this]


set_option maxRecDepth 100000 in
set_option maxHeartbeats 2000000 in
theorem sameInts_any (a a' : Option Addr) (n n' cap cap' : Nat) (xs ys : List Int) (w : World) (h : Rd ints 1 w a n xs) (h' : Rd ints 1 w a' n' ys) :
    Calls Tryz.prog 42 #[.slice a n cap, .slice a' n' cap'] w fun e w' => e = .returned (.bool (decide (xs = ys))) ∧ Below w.heap.size w w' := by
  by_cases hnn : n = n'
  case neg =>
    have hd : ((n : Int) != n') = true := by simp; omega
    have hx : xs ≠ ys := fun e => hnn (by rw [← h.len, ← h'.len, e])
    go_enter Tryz.func42, Tryz.ntmps42
    go_wp2_with fail
    go_ret
    exact ⟨ret_bool (by simp [hx]), Below.refl _ _⟩
  subst hnn
  have hd : ((n : Int) != n) = false := by simp
  have Hl := Lib.hid h.len
  have Hl' := Lib.hid h'.len
  have hm := h.cap
  unfold maxLen at hm
  go_enter Tryz.func42, Tryz.ntmps42
  go_wp2_with fail
  go_loopw [5] (fun i wr => ∃ k : Nat, k ≤ n ∧ i = .int .i64 k ∧ xs.take k = ys.take k ∧ Rd ints 1 wr a n xs ∧ Rd ints 1 wr a' n ys ∧ Below w.heap.size w wr) (fun i _ => n - (intOf i).toNat)
  case atStart => exact ⟨0, Nat.zero_le _, rfl, rfl, h, h', Below.refl _ _⟩
  case round =>
    obtain ⟨k, hk, rfl, he, h1, h1', hB⟩ := hrel
    have He := Lib.hid he
    have HB := Lib.hid hB
    clear he hB h h'
    by_cases hlt : k < n
    · obtain ⟨b, off, x, rfl, hb, hx, x0⟩ := h1.int hlt
      obtain ⟨b', off', y, rfl, hb', hy, y0⟩ := h1'.int hlt
      have Hx := Lib.hid hx
      have Hy := Lib.hid hy
      clear hx hy
      have Hsn := Lib.hid (take_succ_snoc Hx.out)
      have Hsn' := Lib.hid (take_succ_snoc Hy.out)
      by_cases hxy : x = y
      · have hne : (x != y) = false := by simp [hxy]
        have Hxy := Lib.hid hxy
        clear hxy
        go_wp2_with fail
        go_quiet (fail)
        go_wp2_with fail
        exact ⟨⟨k + 1, by omega, by go_num, by rw [Hsn.out, Hsn'.out, He.out, Hxy.out], h1.drewN _, h1'.drewN _, below_drewN HB.out _⟩, by simp [intOf]; omega⟩
      · have hne : (x != y) = true := by simp [hxy]
        have Hxy := Lib.hid hxy
        clear hxy
        go_wp2_with fail
        go_quiet (fail)
        go_wp2_with fail
        go_ret
        refine ⟨ret_bool ?_, below_drewN HB.out _⟩
        have : xs ≠ ys := fun e => Hxy.out (by have h1 := Hx.out; have h2 := Hy.out; rw [e] at h1; exact Option.some.inj (h1.symm.trans h2))
        simp [this]
    · go_wp2_with fail
      go_ret
      refine ⟨ret_bool ?_, HB.out⟩
      have := He.out
      rw [List.take_of_length_le (by rw [Hl.out]; omega), List.take_of_length_le (by rw [Hl'.out]; omega)] at this
      simp [this]

end Go.Proofs.YtehedodogkhmgaaGreat
