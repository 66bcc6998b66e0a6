/- The law CargoManifests walked. -/
import Derived.Test.YtpgojnofdgibeaaGreatDoorCAlive
import Derived.Test.YtpgojnofdgibeaaGreatDoorCOne
import Derived.Test.YtpgojnofdgibeaaGreatDoorCCollect
import Derived.Test.YtpgojnofdgibeaaGreatDoorCLawTrees
set_option linter.unusedSimpArgs false
set_option linter.unusedVariables false
namespace Go.Proofs.YtpgojnofdgibeaaGreatDoor
open Go.RowKit Go.Shelf

def PasPost (w : World) (L : List Pa) (e : Ending) (w' : World) : Prop := ∃ a n c, e = .returned (.slice a n c) ∧ Rd Pa.vals 14 w' a n L ∧ Below w.heap.size w w'
theorem pas_post {w w' : World} {L : List Pa} {e : Ending} (hl : L.length ≤ 1000) (h : ListPost w L e w') : PasPost w L e w' := by
  obtain ⟨v, rfl, ho, hB⟩ := h
  obtain ⟨a, c, rfl, _, hr, _⟩ := Rd.of_own ho Pa.vals_length (by decide) rfl (by unfold maxLen; omega)
  exact ⟨a, _, c, rfl, hr, hB⟩
theorem countR_le (l : List Pa) (known : Int) : (countR l known).length ≤ l.length := by
  unfold countR
  split
  · rw [countL_is]; exact List.length_filter_le _ _
  · simp

set_option maxRecDepth 100000 in
set_option maxHeartbeats 8000000 in
theorem law_manifests (a : Option Addr) (n cap : Nat) (xs : List Pa) (known loss pack : Int) (w : World) (h : Rd Pa.vals 14 w a n xs) (hz : a = none → cap = 0) (hcap : n ≤ cap) (hw : Laid w) :
    Calls Tryz.prog 7 #[.slice a n cap, .int .i64 known, .int .i64 loss, .int .i64 pack] w fun e w' => e = .returned (.bool true) ∧ Below w.heap.size w w' := by
  have CA := Lib.hid (show ∀ W, Below w.heap.size w W → Calls Tryz.prog 8 #[] W fun e w' => e = .returned (.bool true) ∧ Below W.heap.size W w' from fun W hB => alive_any W (hw.below hB))
  have CF := Lib.hid (lfew_any a n cap xs w h)
  have HR := Lib.hid h
  have Hlen := Lib.hid h.len
  clear h hw hz
  obtain ⟨F1, hF1⟩ : ∃ b, fewB xs 30 = b := ⟨_, rfl⟩
  rw [hF1] at CF
  have HF := Lib.hid hF1
  clear hF1
  have HB0 := Lib.hid (Below.refl w.heap.size w)
  go_enter Tryz.func7, Tryz.ntmps7
  go_wp2_with fail
  refine CF.out.mono ?_
  rintro e w2 ⟨rfl, hw2⟩
  obtain rfl := hw2.symm
  clear hw2 CF
  have HB := HB0
  clear HB0
  cases F1 with
  | false =>
    go_wp2_with fail
    refine (CA.out _ HB.out).mono ?_
    rintro e w3 ⟨rfl, hS⟩
    have HB' := Lib.hid (HB.out.trans (hS.mono HB.out.size))
    clear hS
    go_wp2_with fail
    go_ret
    exact ⟨rfl, HB'.out⟩
  | true =>
  have HS : ∀ y ∈ xs, y.Short := fun y hy => by have := (few_short HF.out).2 y hy; exact ⟨by omega, by omega⟩
  have hn : n ≤ 1000 := by have h1 := (few_short HF.out).1; rw [Hlen.out] at h1; omega
  obtain ⟨hp1, hp2⟩ := papersO_len xs known loss
  have hcl : (countR xs known).length ≤ 1000 := Nat.le_trans (countR_le xs known) (by rw [Hlen.out]; exact hn)
  have C1 := Lib.hid (fun W (hW : Below w.heap.size w W) => paperOf_any a n cap xs HS known loss pack W (HR.out.below' hW) hcap)
  have C2 := Lib.hid (fun W (hW : Below w.heap.size w W) => paperOf_r a n cap xs HS known loss pack W (HR.out.below' hW) hcap (by omega))
  have C3 := Lib.hid (fun W (hW : Below w.heap.size w W) => totalOf_any a n cap xs HS known loss pack W (HR.out.below' hW) hcap)
  have C4 := Lib.hid (fun W (hW : Below w.heap.size w W) => totalOf_r a n cap xs HS known loss pack W (HR.out.below' hW) hcap (by omega))
  have C5 := Lib.hid (fun W (hW : Below w.heap.size w W) => (countings_any a n cap xs HS known W (HR.out.below' hW) hcap hn).mono (fun _ _ h => pas_post hcl h))
  have C6 := Lib.hid (fun W (hW : Below w.heap.size w W) => (counting_r a n cap xs HS known W (HR.out.below' hW) hcap (by omega)).mono (fun _ _ h => pas_post hcl h))
  have C7 := Lib.hid (fun W (hW : Below w.heap.size w W) => (packages_any a n cap xs HS known loss W (HR.out.below' hW) hcap).mono (fun _ _ h => pas_post (by omega) h))
  have C8 := Lib.hid (fun W (hW : Below w.heap.size w W) => (packages_r a n cap xs HS known loss W (HR.out.below' hW) hcap (by omega)).mono (fun _ _ h => pas_post (by omega) h))
  have C9 := Lib.hid (fun W (hW : Below w.heap.size w W) => (totals_any a n cap xs HS known loss W (HR.out.below' hW) hcap).mono (fun _ _ h => pas_post (by omega) h))
  have C10 := Lib.hid (fun W (hW : Below w.heap.size w W) => (totals_r a n cap xs HS known loss W (HR.out.below' hW) hcap (by omega)).mono (fun _ _ h => pas_post (by omega) h))
  unfold PaperOfPost at C1 C2 C3 C4
  unfold PasPost at C5 C6 C7 C8 C9 C10
  obtain ⟨OP, hOP⟩ : ∃ I, ofI (papersO xs known loss) pack = I := ⟨_, rfl⟩
  obtain ⟨OT, hOT⟩ : ∃ I, ofI (totalsO xs known loss) pack = I := ⟨_, rfl⟩
  obtain ⟨E1, hE1⟩ : ∃ I, paperE xs known loss pack = I := ⟨_, rfl⟩
  obtain ⟨E2, hE2⟩ : ∃ I, totalE xs known loss pack = I := ⟨_, rfl⟩
  obtain ⟨CL, hCL⟩ : ∃ I, countR xs known = I := ⟨_, rfl⟩
  obtain ⟨PS, hPS⟩ : ∃ I, papersO xs known loss = I := ⟨_, rfl⟩
  obtain ⟨TS, hTS⟩ : ∃ I, totalsO xs known loss = I := ⟨_, rfl⟩
  rw [hOP, hE1] at C1 C2
  rw [hOT, hE2] at C3 C4
  rw [hCL] at C5 C6
  rw [hPS] at C7 C8
  rw [hTS] at C9 C10
  have hEE : (E1 == E1) = true := by simp
  have hFF : (E2 == E2) = true := by simp
  have CQ := Lib.hid (show ∀ a1 n1 c1 a2 n2 c2 (L : List Pa) W, Rd Pa.vals 14 W a1 n1 L → Rd Pa.vals 14 W a2 n2 L → Calls Tryz.prog 22 #[.slice a1 n1 c1, .slice a2 n2 c2] W fun e w' => e = .returned (.bool true) ∧ Below W.heap.size W w' from fun a1 n1 c1 a2 n2 c2 L W h1 h2 => by
    have := rsame_any a1 a2 n1 n2 c1 c2 L L W h1 h2
    rw [decide_eq_true rfl] at this
    exact this)
  clear hOP hOT hE1 hE2 hCL hPS hTS HF hp1 hp2 hcl
  go_upto_region 4 with (go_at_call 35; refine (C1.out _ HB.out).mono ?_; rintro e w5 ⟨hS0, p, hq, rfl⟩)
  have hBq := al' (Below.refl w5.heap.size w5) (.cells #[.int .i64 p.id, .int .i64 p.known, .int .u8 p.kind, .int .i64 p.loss, .int .i64 p.pack, .int .i64 p.inn, .string ⟨p.mark.toArray⟩, .string ⟨p.goods.toArray⟩, .int .i64 p.low, .int .i64 p.high, .int .i64 p.pieces, .int .i64 p.owner, .int .i64 p.count, .int .i64 p.of] 28)
  have hbx := BoxG.made w5 p.vals 28
  simp only [Pa.vals] at hbx
  have hS := hS0.trans (hBq.mono hS0.size)
  have HB' := Lib.hid (HB.out.trans (hS.mono HB.out.size))
  clear hBq hS hS0 HB C1 
  have HB := Lib.hid HB'.out
  clear HB' 
  generalize w5.alloc (.cells #[.int .i64 p.id, .int .i64 p.known, .int .u8 p.kind, .int .i64 p.loss, .int .i64 p.pack, .int .i64 p.inn, .string ⟨p.mark.toArray⟩, .string ⟨p.goods.toArray⟩, .int .i64 p.low, .int .i64 p.high, .int .i64 p.pieces, .int .i64 p.owner, .int .i64 p.count, .int .i64 p.of] 28) = w6 at *
  obtain ⟨Q1, hQe⟩ : ∃ Q, w5.heap.size = Q := ⟨_, rfl⟩
  rw [hQe] at hbx ⊢
  clear hQe
  have HX1 := Lib.hid (show BoxG w6 Q1 p.vals from hbx)
  clear hbx
  have Hp := Lib.hid hq
  clear hq
  clear w5
  rename World => w5
  go_upto_region 5 with (go_at_call 36; refine (C2.out _ HB.out).mono ?_; rintro e w5 ⟨hS0, qq, hq, rfl⟩)
  obtain rfl : p = qq := Hp.out.symm.trans hq
  have hBq := al' (Below.refl w5.heap.size w5) (.cells #[.int .i64 p.id, .int .i64 p.known, .int .u8 p.kind, .int .i64 p.loss, .int .i64 p.pack, .int .i64 p.inn, .string ⟨p.mark.toArray⟩, .string ⟨p.goods.toArray⟩, .int .i64 p.low, .int .i64 p.high, .int .i64 p.pieces, .int .i64 p.owner, .int .i64 p.count, .int .i64 p.of] 28)
  have hbx := BoxG.made w5 p.vals 28
  simp only [Pa.vals] at hbx
  have hS := hS0.trans (hBq.mono hS0.size)
  have HB' := Lib.hid (HB.out.trans (hS.mono HB.out.size))
  have HX1' := Lib.hid (HX1.out.below' hS)
  clear hBq hS hS0 HB C2 HX1
  have HB := Lib.hid HB'.out
  have HX1 := Lib.hid HX1'.out
  clear HB' HX1'
  generalize w5.alloc (.cells #[.int .i64 p.id, .int .i64 p.known, .int .u8 p.kind, .int .i64 p.loss, .int .i64 p.pack, .int .i64 p.inn, .string ⟨p.mark.toArray⟩, .string ⟨p.goods.toArray⟩, .int .i64 p.low, .int .i64 p.high, .int .i64 p.pieces, .int .i64 p.owner, .int .i64 p.count, .int .i64 p.of] 28) = w6 at *
  obtain ⟨Q2, hQe⟩ : ∃ Q, w5.heap.size = Q := ⟨_, rfl⟩
  rw [hQe] at hbx ⊢
  clear hQe
  have HX2 := Lib.hid (show BoxG w6 Q2 p.vals from hbx)
  clear hbx
  clear hq
  clear w5
  rename World => w5
  go_upto_region 6 with (go_at_call 37; refine (C3.out _ HB.out).mono ?_; rintro e w5 ⟨hS0, t, hq, rfl⟩)
  have hBq := al' (Below.refl w5.heap.size w5) (.cells #[.int .i64 t.id, .int .i64 t.known, .int .u8 t.kind, .int .i64 t.loss, .int .i64 t.pack, .int .i64 t.inn, .string ⟨t.mark.toArray⟩, .string ⟨t.goods.toArray⟩, .int .i64 t.low, .int .i64 t.high, .int .i64 t.pieces, .int .i64 t.owner, .int .i64 t.count, .int .i64 t.of] 28)
  have hbx := BoxG.made w5 t.vals 28
  simp only [Pa.vals] at hbx
  have hS := hS0.trans (hBq.mono hS0.size)
  have HB' := Lib.hid (HB.out.trans (hS.mono HB.out.size))
  have HX1' := Lib.hid (HX1.out.below' hS)
  have HX2' := Lib.hid (HX2.out.below' hS)
  clear hBq hS hS0 HB C3 HX1 HX2
  have HB := Lib.hid HB'.out
  have HX1 := Lib.hid HX1'.out
  have HX2 := Lib.hid HX2'.out
  clear HB' HX1' HX2'
  generalize w5.alloc (.cells #[.int .i64 t.id, .int .i64 t.known, .int .u8 t.kind, .int .i64 t.loss, .int .i64 t.pack, .int .i64 t.inn, .string ⟨t.mark.toArray⟩, .string ⟨t.goods.toArray⟩, .int .i64 t.low, .int .i64 t.high, .int .i64 t.pieces, .int .i64 t.owner, .int .i64 t.count, .int .i64 t.of] 28) = w6 at *
  obtain ⟨Q3, hQe⟩ : ∃ Q, w5.heap.size = Q := ⟨_, rfl⟩
  rw [hQe] at hbx ⊢
  clear hQe
  have HX3 := Lib.hid (show BoxG w6 Q3 t.vals from hbx)
  clear hbx
  have Ht := Lib.hid hq
  clear hq
  clear w5
  rename World => w5
  go_upto_region 7 with (go_at_call 38; refine (C4.out _ HB.out).mono ?_; rintro e w5 ⟨hS0, qq, hq, rfl⟩)
  obtain rfl : t = qq := Ht.out.symm.trans hq
  have hBq := al' (Below.refl w5.heap.size w5) (.cells #[.int .i64 t.id, .int .i64 t.known, .int .u8 t.kind, .int .i64 t.loss, .int .i64 t.pack, .int .i64 t.inn, .string ⟨t.mark.toArray⟩, .string ⟨t.goods.toArray⟩, .int .i64 t.low, .int .i64 t.high, .int .i64 t.pieces, .int .i64 t.owner, .int .i64 t.count, .int .i64 t.of] 28)
  have hbx := BoxG.made w5 t.vals 28
  simp only [Pa.vals] at hbx
  have hS := hS0.trans (hBq.mono hS0.size)
  have HB' := Lib.hid (HB.out.trans (hS.mono HB.out.size))
  have HX1' := Lib.hid (HX1.out.below' hS)
  have HX2' := Lib.hid (HX2.out.below' hS)
  have HX3' := Lib.hid (HX3.out.below' hS)
  clear hBq hS hS0 HB C4 HX1 HX2 HX3
  have HB := Lib.hid HB'.out
  have HX1 := Lib.hid HX1'.out
  have HX2 := Lib.hid HX2'.out
  have HX3 := Lib.hid HX3'.out
  clear HB' HX1' HX2' HX3'
  generalize w5.alloc (.cells #[.int .i64 t.id, .int .i64 t.known, .int .u8 t.kind, .int .i64 t.loss, .int .i64 t.pack, .int .i64 t.inn, .string ⟨t.mark.toArray⟩, .string ⟨t.goods.toArray⟩, .int .i64 t.low, .int .i64 t.high, .int .i64 t.pieces, .int .i64 t.owner, .int .i64 t.count, .int .i64 t.of] 28) = w6 at *
  obtain ⟨Q4, hQe⟩ : ∃ Q, w5.heap.size = Q := ⟨_, rfl⟩
  rw [hQe] at hbx ⊢
  clear hQe
  have HX4 := Lib.hid (show BoxG w6 Q4 t.vals from hbx)
  clear hbx
  clear hq
  clear w5
  rename World => w5
  go_wp2_with fail
  refine (C5.out _ HB.out).mono ?_
  rintro e w9 ⟨a3, n3, c3, rfl, hr, hS⟩
  have HB' := Lib.hid (HB.out.trans (hS.mono HB.out.size))
  have HX1' := Lib.hid (HX1.out.below' hS)
  have HX2' := Lib.hid (HX2.out.below' hS)
  have HX3' := Lib.hid (HX3.out.below' hS)
  have HX4' := Lib.hid (HX4.out.below' hS)
  have HI := Lib.hid hr
  clear hr
  clear hS HB HX1 HX2 HX3 HX4 C5
  have HB := Lib.hid HB'.out
  have HX1 := Lib.hid HX1'.out
  have HX2 := Lib.hid HX2'.out
  have HX3 := Lib.hid HX3'.out
  have HX4 := Lib.hid HX4'.out
  clear HB' HX1' HX2' HX3' HX4'
  go_wp2_with fail
  refine (C6.out _ HB.out).mono ?_
  rintro e w10 ⟨a4, n4, c4, rfl, hr, hS⟩
  have HB' := Lib.hid (HB.out.trans (hS.mono HB.out.size))
  have HX1' := Lib.hid (HX1.out.below' hS)
  have HX2' := Lib.hid (HX2.out.below' hS)
  have HX3' := Lib.hid (HX3.out.below' hS)
  have HX4' := Lib.hid (HX4.out.below' hS)
  have HI' := Lib.hid (HI.out.below' hS)
  have HJ := Lib.hid hr
  clear hr
  clear hS HB HX1 HX2 HX3 HX4 HI C6
  have HB := Lib.hid HB'.out
  have HX1 := Lib.hid HX1'.out
  have HX2 := Lib.hid HX2'.out
  have HX3 := Lib.hid HX3'.out
  have HX4 := Lib.hid HX4'.out
  have HI := Lib.hid HI'.out
  clear HB' HX1' HX2' HX3' HX4' HI'
  go_wp2_with fail
  refine (CQ.out a3 n3 c3 a4 n4 c4 CL _ HI.out HJ.out).mono ?_
  rintro e w11 ⟨rfl, hS⟩
  have HB' := Lib.hid (HB.out.trans (hS.mono HB.out.size))
  have HX1' := Lib.hid (HX1.out.below' hS)
  have HX2' := Lib.hid (HX2.out.below' hS)
  have HX3' := Lib.hid (HX3.out.below' hS)
  have HX4' := Lib.hid (HX4.out.below' hS)
  clear hS HB HX1 HX2 HX3 HX4 HI HJ
  have HB := Lib.hid HB'.out
  have HX1 := Lib.hid HX1'.out
  have HX2 := Lib.hid HX2'.out
  have HX3 := Lib.hid HX3'.out
  have HX4 := Lib.hid HX4'.out
  clear HB' HX1' HX2' HX3' HX4'
  go_wp2_with fail
  refine (C7.out _ HB.out).mono ?_
  rintro e w12 ⟨a5, n5, c5, rfl, hr, hS⟩
  have HB' := Lib.hid (HB.out.trans (hS.mono HB.out.size))
  have HX1' := Lib.hid (HX1.out.below' hS)
  have HX2' := Lib.hid (HX2.out.below' hS)
  have HX3' := Lib.hid (HX3.out.below' hS)
  have HX4' := Lib.hid (HX4.out.below' hS)
  have HK := Lib.hid hr
  clear hr
  clear hS HB HX1 HX2 HX3 HX4 C7
  have HB := Lib.hid HB'.out
  have HX1 := Lib.hid HX1'.out
  have HX2 := Lib.hid HX2'.out
  have HX3 := Lib.hid HX3'.out
  have HX4 := Lib.hid HX4'.out
  clear HB' HX1' HX2' HX3' HX4'
  go_wp2_with fail
  refine (C8.out _ HB.out).mono ?_
  rintro e w13 ⟨a6, n6, c6, rfl, hr, hS⟩
  have HB' := Lib.hid (HB.out.trans (hS.mono HB.out.size))
  have HX1' := Lib.hid (HX1.out.below' hS)
  have HX2' := Lib.hid (HX2.out.below' hS)
  have HX3' := Lib.hid (HX3.out.below' hS)
  have HX4' := Lib.hid (HX4.out.below' hS)
  have HK' := Lib.hid (HK.out.below' hS)
  have HL := Lib.hid hr
  clear hr
  clear hS HB HX1 HX2 HX3 HX4 HK C8
  have HB := Lib.hid HB'.out
  have HX1 := Lib.hid HX1'.out
  have HX2 := Lib.hid HX2'.out
  have HX3 := Lib.hid HX3'.out
  have HX4 := Lib.hid HX4'.out
  have HK := Lib.hid HK'.out
  clear HB' HX1' HX2' HX3' HX4' HK'
  go_wp2_with fail
  refine (CQ.out a5 n5 c5 a6 n6 c6 PS _ HK.out HL.out).mono ?_
  rintro e w14 ⟨rfl, hS⟩
  have HB' := Lib.hid (HB.out.trans (hS.mono HB.out.size))
  have HX1' := Lib.hid (HX1.out.below' hS)
  have HX2' := Lib.hid (HX2.out.below' hS)
  have HX3' := Lib.hid (HX3.out.below' hS)
  have HX4' := Lib.hid (HX4.out.below' hS)
  clear hS HB HX1 HX2 HX3 HX4 HK HL
  have HB := Lib.hid HB'.out
  have HX1 := Lib.hid HX1'.out
  have HX2 := Lib.hid HX2'.out
  have HX3 := Lib.hid HX3'.out
  have HX4 := Lib.hid HX4'.out
  clear HB' HX1' HX2' HX3' HX4'
  go_wp2_with fail
  refine (C9.out _ HB.out).mono ?_
  rintro e w15 ⟨a7, n7, c7, rfl, hr, hS⟩
  have HB' := Lib.hid (HB.out.trans (hS.mono HB.out.size))
  have HX1' := Lib.hid (HX1.out.below' hS)
  have HX2' := Lib.hid (HX2.out.below' hS)
  have HX3' := Lib.hid (HX3.out.below' hS)
  have HX4' := Lib.hid (HX4.out.below' hS)
  have HM := Lib.hid hr
  clear hr
  clear hS HB HX1 HX2 HX3 HX4 C9
  have HB := Lib.hid HB'.out
  have HX1 := Lib.hid HX1'.out
  have HX2 := Lib.hid HX2'.out
  have HX3 := Lib.hid HX3'.out
  have HX4 := Lib.hid HX4'.out
  clear HB' HX1' HX2' HX3' HX4'
  go_wp2_with fail
  refine (C10.out _ HB.out).mono ?_
  rintro e w16 ⟨a8, n8, c8, rfl, hr, hS⟩
  have HB' := Lib.hid (HB.out.trans (hS.mono HB.out.size))
  have HX1' := Lib.hid (HX1.out.below' hS)
  have HX2' := Lib.hid (HX2.out.below' hS)
  have HX3' := Lib.hid (HX3.out.below' hS)
  have HX4' := Lib.hid (HX4.out.below' hS)
  have HM' := Lib.hid (HM.out.below' hS)
  have HN := Lib.hid hr
  clear hr
  clear hS HB HX1 HX2 HX3 HX4 HM C10
  have HB := Lib.hid HB'.out
  have HX1 := Lib.hid HX1'.out
  have HX2 := Lib.hid HX2'.out
  have HX3 := Lib.hid HX3'.out
  have HX4 := Lib.hid HX4'.out
  have HM := Lib.hid HM'.out
  clear HB' HX1' HX2' HX3' HX4' HM'
  go_wp2_with fail
  refine (CQ.out a7 n7 c7 a8 n8 c8 TS _ HM.out HN.out).mono ?_
  rintro e w17 ⟨rfl, hS⟩
  have HB' := Lib.hid (HB.out.trans (hS.mono HB.out.size))
  have HX1' := Lib.hid (HX1.out.below' hS)
  have HX2' := Lib.hid (HX2.out.below' hS)
  have HX3' := Lib.hid (HX3.out.below' hS)
  have HX4' := Lib.hid (HX4.out.below' hS)
  clear hS HB HX1 HX2 HX3 HX4 HM HN CQ
  have HB := Lib.hid HB'.out
  have HX1 := Lib.hid HX1'.out
  have HX2 := Lib.hid HX2'.out
  have HX3 := Lib.hid HX3'.out
  have HX4 := Lib.hid HX4'.out
  clear HB' HX1' HX2' HX3' HX4'
  go_wp2_with fail
  refine (CA.out _ HB.out).mono ?_
  rintro e w18 ⟨rfl, hS⟩
  have HB' := Lib.hid (HB.out.trans (hS.mono HB.out.size))
  have HX1' := Lib.hid (HX1.out.below' hS)
  have HX2' := Lib.hid (HX2.out.below' hS)
  have HX3' := Lib.hid (HX3.out.below' hS)
  have HX4' := Lib.hid (HX4.out.below' hS)
  clear hS HB HX1 HX2 HX3 HX4 CA
  have HB := Lib.hid HB'.out
  have HX1 := Lib.hid HX1'.out
  have HX2 := Lib.hid HX2'.out
  have HX3 := Lib.hid HX3'.out
  have HX4 := Lib.hid HX4'.out
  clear HB' HX1' HX2' HX3' HX4'
  have nP : ∀ W, (binOp .eql 28 (.agg #[.int .i64 p.id, .int .i64 p.known, .int .u8 p.kind, .int .i64 p.loss, .int .i64 p.pack, .int .i64 p.inn, .string ⟨p.mark.toArray⟩, .string ⟨p.goods.toArray⟩, .int .i64 p.low, .int .i64 p.high, .int .i64 p.pieces, .int .i64 p.owner, .int .i64 p.count, .int .i64 p.of]) (.agg #[.int .i64 p.id, .int .i64 p.known, .int .u8 p.kind, .int .i64 p.loss, .int .i64 p.pack, .int .i64 p.inn, .string ⟨p.mark.toArray⟩, .string ⟨p.goods.toArray⟩, .int .i64 p.low, .int .i64 p.high, .int .i64 p.pieces, .int .i64 p.owner, .int .i64 p.count, .int .i64 p.of])).run Tryz.prog W = .ok (.bool true) W := fun W => by rw [eqlPa_run]; simp
  have nT : ∀ W, (binOp .eql 28 (.agg #[.int .i64 t.id, .int .i64 t.known, .int .u8 t.kind, .int .i64 t.loss, .int .i64 t.pack, .int .i64 t.inn, .string ⟨t.mark.toArray⟩, .string ⟨t.goods.toArray⟩, .int .i64 t.low, .int .i64 t.high, .int .i64 t.pieces, .int .i64 t.owner, .int .i64 t.count, .int .i64 t.of]) (.agg #[.int .i64 t.id, .int .i64 t.known, .int .u8 t.kind, .int .i64 t.loss, .int .i64 t.pack, .int .i64 t.inn, .string ⟨t.mark.toArray⟩, .string ⟨t.goods.toArray⟩, .int .i64 t.low, .int .i64 t.high, .int .i64 t.pieces, .int .i64 t.owner, .int .i64 t.count, .int .i64 t.of])).run Tryz.prog W = .ok (.bool true) W := fun W => by rw [eqlPa_run]; simp
  obtain ⟨x0, x1, x2, x3, x4, x5, x6, x7, x8, x9, x10, x11, x12, x13⟩ := BoxG.pa (x := p) HX1.out
  have lx := HX1.out.1
  obtain ⟨y0, y1, y2, y3, y4, y5, y6, y7, y8, y9, y10, y11, y12, y13⟩ := BoxG.pa (x := p) HX2.out
  have ly := HX2.out.1
  obtain ⟨z0, z1, z2, z3, z4, z5, z6, z7, z8, z9, z10, z11, z12, z13⟩ := BoxG.pa (x := t) HX3.out
  have lz := HX3.out.1
  obtain ⟨u0, u1, u2, u3, u4, u5, u6, u7, u8, u9, u10, u11, u12, u13⟩ := BoxG.pa (x := t) HX4.out
  have lu := HX4.out.1
  go_wp2_with fail
  go_ret
  exact ⟨rfl, HB.out⟩
end Go.Proofs.YtpgojnofdgibeaaGreatDoor
