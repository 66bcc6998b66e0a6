/- The law CargoSharp walked. -/
import Derived.Test.YtehplmeckfinoaaGreatDoorCSharpQ
import Derived.Test.YtehplmeckfinoaaGreatDoorCWeights
import Derived.Test.YtehplmeckfinoaaGreatDoorCTreeE
set_option linter.unusedSimpArgs false
set_option linter.unusedVariables false
namespace Go.Proofs.YtehplmeckfinoaaGreatDoor
open Go.RowKit Go.Shelf
theorem sharp_row {xs : List Pa} {known loss : Int} (h : weighE xs known loss true = 0) : (weightsV xs known loss).length = (papersL xs known loss).length ∧ rootE xs known loss true = 0 ∧
 ∀ (i : Nat) (x : Pa), (weightsV xs known loss)[i]? = some x → (x.low ≤ x.high ∧ 0 ≤ x.low ∧ x.high ≤ 1099511627776) ∧
  (∀ cs : List (Int × Int), compB xs known loss cs = true → ∃ c : Int × Int, cs[i]? = some c ∧ c.1 = x.pack ∧ x.low ≤ c.2 ∧ c.2 ≤ x.high) ∧ weighE xs known loss (hasP xs known loss x.pack) = 0 ∧
  (∀ v : Int, x.low ≤ v → v ≤ x.high → complIs xs known loss x.pack v = true ∧ ∃ M : List (Int × Int), complV xs known loss x.pack v = M ∧ compB xs known loss M = true ∧ M.length = (weightsV xs known loss).length ∧ M[i]? = some (x.pack, v) ∧ ∀ y ∈ M, I64 y.1) ∧
  ∀ v : Int, ¬ (x.low ≤ v ∧ v ≤ x.high) → complIs xs known loss x.pack v = false ∧ complV xs known loss x.pack v = [] := by
 have hr0 := weigh_root h
 obtain ⟨ho, _⟩ := root_open hr0
 have hmo := mani_ok (check_good (open_check ho)).1 known loss
 have hV : weightsV xs known loss = weightsL xs known loss := by unfold weightsV; rw [if_pos h]
 rw [hV]
 unfold weightsL
 refine ⟨by rw [List.length_map], hr0, fun i x hx => ?_⟩
 rw [List.getElem?_map] at hx
 cases hy : (papersL xs known loss)[i]? with
 | none => rw [hy] at hx; cases hx
 | some y =>
   rw [hy] at hx
   obtain rfl := (Option.some.inj hx).symm
   obtain ⟨s1, s2, s3⟩ := sharp_at h hy
   simp only
   have h0 : weighE xs known loss (hasP xs known loss y.pack) = 0 := by rw [s2]; exact h
   refine ⟨s1, s3, h0, fun v h1 h2 => ?_, fun v hv => ?_⟩
   · obtain ⟨g1, g2, G, g3, g4⟩ := compl_good h0 ⟨h1, h2⟩
     refine ⟨g1, _, g3, by rw [← g3]; exact g2, by rw [List.length_map, List.length_map], ?_, fun z hz => ?_⟩
     · rw [List.getElem?_map, hy]
       simp only [Option.map_some]
       rw [g4]
     · obtain ⟨q, hq, rfl⟩ := List.mem_map.1 hz
       have := (hmo.pp q hq).1
       unfold I64
       simp only
       omega
   · have h1 : complIs xs known loss y.pack v = false := by
      unfold complIs within
      rw [decide_eq_false hv, Bool.false_and, Bool.and_false]
     exact ⟨h1, compl_none h1⟩
set_option maxRecDepth 100000 in
set_option maxHeartbeats 8000000 in
theorem law_sharp (a : Option Addr) (n cap : Nat) (xs : List Pa) (known loss : Int) (ca : Option Addr) (cn cc : Nat) (cs : List (Int × Int)) (w : World) (h : Rd Pa.vals 14 w a n xs) (hz : a = none → cap = 0) (hcap : n ≤ cap) (hc : Rd weiV 2 w ca cn cs) (hi : ∀ x ∈ cs, I64 x.1) (hw : Laid w) :
 Calls Tryz.prog 4 #[.slice a n cap, .int .i64 known, .int .i64 loss, .slice ca cn cc] w fun e w' => e = .returned (.bool true) ∧ Below w.heap.size w w' := by
 have CA := Hd (show ∀ W, Below w.heap.size w W → Calls Tryz.prog 6 #[] W fun e w' => e = .returned (.bool true) ∧ Below W.heap.size W w' from fun W hB => alive_any W (hw.below hB))
 have CF := Hd (lfew_any a n cap xs w h)
 have HR := Hd h
 have HC := Hd hc
 have HI := Hd hi
 have Hlen := Hd h.len
 clear h hw hz hc hi
 obtain ⟨F1, hF1⟩ : ∃ b, fewB xs 30 = b := ⟨_, rfl⟩
 rw [hF1] at CF
 have HF := Hd hF1
 clear hF1
 have HB := Hd (Below.refl w.heap.size w)
 by_cases hen : 60 < cn
 · have hen' : (60 : Int) < (cn : Int) := by omega
   go_enter Tryz.func4, Tryz.ntmps4
   cases F1 <;>
   · go_wp2_with (first
      | (go_at_call 5; refine CF.out.mono ?_; rintro e w2 ⟨rfl, hw2⟩; obtain rfl := hw2.symm; clear hw2)
      | (go_at_call 6; refine (CA.out _ HB.out).mono ?_; rintro e w3 ⟨rfl, hS⟩))
     go_ret
     exact ⟨rfl, hS⟩
 have hen' : ¬ (60 : Int) < (cn : Int) := by omega
 cases F1 with
 | false =>
   go_enter Tryz.func4, Tryz.ntmps4
   go_wp2_with (first
    | (go_at_call 5; refine CF.out.mono ?_; rintro e w2 ⟨rfl, hw2⟩; obtain rfl := hw2.symm; clear hw2)
    | (go_at_call 6; refine (CA.out _ HB.out).mono ?_; rintro e w3 ⟨rfl, hS⟩))
   go_ret
   exact ⟨rfl, hS⟩
 | true =>
 have HS : ∀ y ∈ xs, y.Short := fun y hy => by have := (few_short HF.out).2 y hy; exact ⟨by omega, by omega⟩
 have hn : n ≤ 30 := by have h1 := (few_short HF.out).1; rw [Hlen.out] at h1; omega
 have C1 := Hd (fun (ia : Option Addr) (inn ic : Nat) (ids : List (Int × Int)) (hI : ∀ x ∈ ids, I64 x.1) W (hW : Below w.heap.size w W) (h : Rd weiV 2 W ia inn ids) => checkCompletion_any a n cap xs HS known loss ia inn ic ids hI W (HR.out.below' hW) hcap h)
 have C2 := Hd (fun W (hW : Below w.heap.size w W) => weights_any a n cap xs HS known loss W (HR.out.below' hW) hcap)
 have C3 := Hd (fun pack weight W (hW : Below w.heap.size w W) => completion_any a n cap xs HS known loss pack weight W (HR.out.below' hW) hcap)
 have P1 := Hd (fun h => sharp_bad (xs := xs) (known := known) (loss := loss) cs h)
 have P2 := Hd (fun h => sharp_row (xs := xs) (known := known) (loss := loss) h)
 have P3 := Hd (show compB xs known loss cs = true → cs.length = (papersL xs known loss).length from fun h => comp_len h)
 unfold CkPost at C1
 unfold ComplPost at C3
 unfold WeightsPost at C2
 obtain ⟨CK, hCK⟩ : ∃ f : List (Int × Int) → Bool, (fun js => compB xs known loss js) = f := ⟨_, rfl⟩
 have hCK' : ∀ js, compB xs known loss js = CK js := fun js => congrFun hCK js
 simp only [hCK'] at C1 P1 P2 P3
 obtain ⟨E, hE⟩ : ∃ P, rootE xs known loss true = P := ⟨_, rfl⟩
 obtain ⟨WE, hWE⟩ : ∃ P, weighE xs known loss true = P := ⟨_, rfl⟩
 obtain ⟨AV, hAV⟩ : ∃ P, weightsV xs known loss = P := ⟨_, rfl⟩
 obtain ⟨PL, hPL⟩ : ∃ P, (papersL xs known loss).length = P := ⟨_, rfl⟩
 rw [hE] at C1 P1 P2
 rw [hWE] at C2 P1 P2
 rw [hAV] at C2 P2
 rw [hPL] at P2 P3
 have C0 := Hd (C1.out ca cn cc cs HI.out w HB.out HC.out)
 obtain ⟨V, hV⟩ : ∃ P, CK cs = P := ⟨_, rfl⟩
 rw [hV] at C0 P1 P3
 have HVe := Hd hV
 clear hE hWE hAV hPL hCK hCK' HF hV
 go_enter Tryz.func4, Tryz.ntmps4
 go_upto_region 4 with (first
  | (go_at_call 5; refine CF.out.mono ?_; rintro e w2 ⟨rfl, hw2⟩; obtain rfl := hw2.symm; clear hw2)
  | (go_at_call 7; refine C0.out.mono ?_; rintro e w3 ⟨rfl, hS⟩))
 have HB3 := Hd hS
 have HC3 := Hd (HC.out.below' hS)
 clear hS C0 HB HC
 go_upto_region 5 with (go_at_call 12; refine (C2.out w3 HB3.out).mono ?_; rintro e w4 ⟨ra, rn, rc, rfl, hrw, hS, _⟩)
 have HB4 := Hd (HB3.out.trans (hS.mono HB3.out.size))
 have HC4 := Hd (HC3.out.below' hS)
 have HR4 := Hd hrw
 clear hS HB3 HC3 C2 hrw
 by_cases hE0 : WE = 0
 case neg =>
  obtain ⟨e1, e2⟩ := P1.out hE0
  have g1 : (WE != 0) = true := by simp [hE0]
  subst e1
  clear P1 P2 P3 C1 C3 HVe
  by_cases h2 : E = WE
  · subst h2
    have g2 : (E == E) = true := by simp
    clear hE0 e2
    go_wp2_with fail
    refine (CA.out _ HB4.out).mono ?_
    rintro e w6 ⟨rfl, hS⟩
    have HB' := Hd (HB4.out.trans (hS.mono HB4.out.size))
    clear hS
    go_wp2_with fail
    go_ret
    exact ⟨rfl, HB'.out⟩
  · rcases e2 with e2 | ⟨e2, e3⟩
    · exact absurd e2 h2
    subst e2 e3
    clear hE0 h2 g1
    go_wp2_with fail
    refine (CA.out _ HB4.out).mono ?_
    rintro e w6 ⟨rfl, hS⟩
    have HB' := Hd (HB4.out.trans (hS.mono HB4.out.size))
    clear hS
    go_wp2_with fail
    go_ret
    exact ⟨rfl, HB'.out⟩
 subst hE0
 obtain ⟨q1, rfl, q3⟩ := P2.out rfl
 have hrl := HR4.out.len
 have hrcap := HR4.out.cap
 unfold maxLen at hrcap
 have HQ3 := Hd q3
 have HQ1 := Hd (show rn = PL from by rw [← hrl, q1])
 have HV3 := Hd (show V = true → cn = rn from fun hv => by rw [HQ1.out, ← P3.out hv, HC4.out.len])
 have HRl := Hd hrl
 clear q1 q3 hrl P1 P2 P3
 have gl : V = true → ((cn : Int) != (rn : Int)) = false := fun hv => by have := HV3.out hv; subst this; simp
 have Hgl := Hd gl
 clear gl
 go_upto_region 7 with (fail)
 go_cut [82] from 71 to 81 (fun s82 wx => s82 = .bool false ∧ wx = w4)
 case first =>
  cases V with
  | false =>
    go_wp2_with fail
    all_goals go_meet
    all_goals exact ⟨rfl, rfl⟩
  | true =>
    have g1 := Hgl.out rfl
    go_wp2_with fail
    all_goals go_meet
    all_goals exact ⟨rfl, rfl⟩
 case rest =>
 obtain ⟨rfl, rfl⟩ := hcut
 rename World => w4
 go_upto_region 10 with (fail)
 go_loopw [85] (fun i wr => ∃ k : Nat, k ≤ rn ∧ i = .int .i64 k ∧ Below w4.heap.size w4 wr) (fun i _ => rn - (intOf i).toNat)
 case atStart => exact ⟨0, Nat.zero_le _, rfl, Below.refl _ _⟩
 case round =>
  obtain ⟨k, hk, rfl, hB⟩ := hrel
  have HBr := Hd hB
  have HBw := Hd (HB4.out.trans (hB.mono HB4.out.size))
  have HRr := Hd (HR4.out.below' hB)
  have HCr := Hd (HC4.out.below' hB)
  clear hB
  by_cases hlt : k < rn
  case neg =>
   have hltg : ¬ (k : Int) < (rn : Int) := by omega
   clear hlt
   go_wp2_with fail
   refine (CA.out _ HBw.out).mono ?_
   rintro e w7 ⟨rfl, hS⟩
   have HB' := Hd (HBw.out.trans (hS.mono HBw.out.size))
   clear hS
   go_wp2_with fail
   go_ret
   exact ⟨rfl, HB'.out⟩
  have hlt' : (k : Int) < (rn : Int) := by omega
  obtain ⟨b, off, x, rfl, hb, hx, c0, c1, c2, c3, c4, c5, c6, c7, c8, c9, c10, c11, c12, c13⟩ := HRr.out.pa hlt
  obtain ⟨⟨x1, x2, x3⟩, x4, x5, x6, x7⟩ := HQ3.out k x hx
  have HX4 := Hd (show V = true → ∃ (cb cf : Nat) (c : Int × Int), ca = some ⟨cb, cf, none⟩ ∧ cb < wr.heap.size ∧ c.1 = x.pack ∧ x.low ≤ c.2 ∧ c.2 ≤ x.high ∧ k < cn ∧ wr.cell? ⟨cb, cf + k * 2, none⟩ = some (.int .i64 c.1) ∧ wr.cell? ⟨cb, cf + k * 2 + 1, none⟩ = some (.int .i64 c.2) from fun hv => by
   obtain ⟨c, d1, d2, d3, d4⟩ := x4 cs (by rw [HVe.out, hv])
   have hkc : k < cn := by have := HV3.out hv; omega
   obtain ⟨cb, cf, c', rfl, hcb, hcc, e1, e2⟩ := HCr.out.wei hkc
   rw [hcc] at d1
   obtain rfl := Option.some.inj d1
   exact ⟨cb, cf, c', rfl, hcb, d2, d3, d4, hkc, e1, e2⟩)
  have HX5 := Hd x5
  have HX6 := Hd x6
  have HX7 := Hd x7
  clear x4 x5 x6 x7 hx
  go_upto_region 12 with (fail)
  have hyb := BoxG.made wr [.int .i64 x.id, .int .i64 x.known, .int .u8 x.kind, .int .i64 x.loss, .int .i64 x.pack, .int .i64 x.inn, .string ⟨x.mark.toArray⟩, .string ⟨x.goods.toArray⟩, .int .i64 x.low, .int .i64 x.high, .int .i64 x.pieces, .int .i64 x.owner, .int .i64 x.count, .int .i64 x.of] 42
  have hBy := al' (Below.refl wr.heap.size wr) (.cells #[.int .i64 x.id, .int .i64 x.known, .int .u8 x.kind, .int .i64 x.loss, .int .i64 x.pack, .int .i64 x.inn, .string ⟨x.mark.toArray⟩, .string ⟨x.goods.toArray⟩, .int .i64 x.low, .int .i64 x.high, .int .i64 x.pieces, .int .i64 x.owner, .int .i64 x.count, .int .i64 x.of] 42)
  have HB8 := Hd (HBr.out.trans (hBy.mono HBr.out.size))
  have HBy := Hd hBy
  have HY := Hd hyb
  clear hBy hyb c0 c1 c2 c3 c4 c5 c6 c7 c8 c9 c10 c11 c12 c13 hb
  generalize wr.alloc (.cells #[.int .i64 x.id, .int .i64 x.known, .int .u8 x.kind, .int .i64 x.loss, .int .i64 x.pack, .int .i64 x.inn, .string ⟨x.mark.toArray⟩, .string ⟨x.goods.toArray⟩, .int .i64 x.low, .int .i64 x.high, .int .i64 x.pieces, .int .i64 x.owner, .int .i64 x.count, .int .i64 x.of] 42) = w8 at *
  obtain ⟨Y, hY⟩ : ∃ Y, wr.heap.size = Y := ⟨_, rfl⟩
  rw [hY] at HY ⊢
  have HYe := Hd hY
  clear hY
  have hy4 : w8.cell? ⟨Y, 4, none⟩ = some (.int .i64 x.pack) := (BoxG.pa (x := x) HY.out).2.2.2.2.1
  have hy8 : w8.cell? ⟨Y, 8, none⟩ = some (.int .i64 x.low) := (BoxG.pa (x := x) HY.out).2.2.2.2.2.2.2.2.1
  have hy9 : w8.cell? ⟨Y, 9, none⟩ = some (.int .i64 x.high) := (BoxG.pa (x := x) HY.out).2.2.2.2.2.2.2.2.2.1
  have HY4 := Hd hy4
  have HY8 := Hd hy8
  have HY9 := Hd hy9
  have HX4' := Hd (fun hv => HX4.out hv)
  obtain ⟨lo, hlo⟩ : ∃ v, x.low = v := ⟨_, rfl⟩
  obtain ⟨hi, hhi⟩ : ∃ v, x.high = v := ⟨_, rfl⟩
  obtain ⟨pk, hpk⟩ : ∃ v, x.pack = v := ⟨_, rfl⟩
  rw [hlo] at hy8 x1 x2 HX6 HX7 HX4 HY8
  rw [hhi] at hy9 x1 x3 HX6 HX7 HX4 HY9
  rw [hpk] at hy4 HX6 HX7 HX4 HX5 HY4
  clear HX4' hlo hhi hpk
  go_cut [131] from 90 to 130 (fun s131 wx => s131 = .bool false ∧ Below w8.heap.size w8 wx)
  case first =>
   have g1 : decide (hi < lo) = false := decide_eq_false (by omega)
   cases V with
   | false =>
     go_quiet (fail)
     go_wp2_with fail
     all_goals go_meet
     all_goals exact ⟨rfl, drewN_below _ _⟩
   | true =>
     obtain ⟨cb, cf, c, rfl, hcb, f1, f2, f3, f4, f5, f6⟩ := HX4.out rfl
     have hkc : (k : Int) < (cn : Int) := by omega
     have e5 := cell_stays f5 HBy.out
     have e6 := cell_stays f6 HBy.out
     rw [f1] at e5
     obtain ⟨cw, hcw⟩ : ∃ v, c.2 = v := ⟨_, rfl⟩
     rw [hcw] at e6 f2 f3
     have g2 : decide (cw < lo) = false := decide_eq_false (by omega)
     have g3 : decide (hi < cw) = false := decide_eq_false (by omega)
     clear f1 f5 f6 hcw
     go_quiet (fail)
     go_wp2_with fail
     all_goals go_meet
     all_goals exact ⟨rfl, drewN_below _ _⟩
  case rest =>
  obtain ⟨rfl, hBc⟩ := hcut
  rename World => w9
  have HB9 := Hd (HB8.out.trans (hBc.mono HB8.out.size))
  have hz4 := cell_stays HY4.out hBc
  have hz8 := cell_stays HY8.out hBc
  have hz9 := cell_stays HY9.out hBc
  have HZ4 := Hd hz4
  have HZ8 := Hd hz8
  have HZ9 := Hd hz9
  clear hBc hy4 hy8 hy9
  go_upto_region 15 with (fail)
  obtain ⟨mid, hmid⟩ : ∃ v, (lo + hi) / 2 = v := ⟨_, rfl⟩
  have hmb : lo ≤ mid ∧ mid ≤ hi := by omega
  rw [hmid]
  have hrb := BoxG.made w9 [.int .i64 lo, .int .i64 mid, .int .i64 hi] 3
  have hBm := al' (Below.refl w9.heap.size w9) (.cells #[.int .i64 lo, .int .i64 mid, .int .i64 hi] 3)
  have HB10 := Hd (HB9.out.trans (hBm.mono HB9.out.size))
  have HU4 := Hd (cell_stays HZ4.out hBm)
  have HU8 := Hd (cell_stays HZ8.out hBm)
  have HU9 := Hd (cell_stays HZ9.out hBm)
  clear hmid hBm hz4 hz8 hz9
  generalize w9.alloc (.cells #[.int .i64 lo, .int .i64 mid, .int .i64 hi] 3) = w10 at *
  obtain ⟨R, hR⟩ : ∃ Y, w9.heap.size = Y := ⟨_, rfl⟩
  rw [hR] at hrb ⊢
  clear hR
  have HRow := Hd (show ∀ j, j < 3 → ∃ v, lo ≤ v ∧ v ≤ hi ∧ w10.cell? ⟨R, j, none⟩ = some (.int .i64 v) from fun j hj => by
   obtain rfl | rfl | rfl : j = 0 ∨ j = 1 ∨ j = 2 := by omega
   · exact ⟨lo, Int.le_refl _, x1, hrb.2.2 0 (by simp)⟩
   · exact ⟨mid, hmb.1, hmb.2, hrb.2.2 1 (by simp)⟩
   · exact ⟨hi, x1, Int.le_refl _, hrb.2.2 2 (by simp)⟩)
  clear hrb hmb
  have HBk := Hd (HB4.out.trans (HB10.out.mono HB4.out.size))
  go_loopw [148] (fun i wr => ∃ j : Nat, j ≤ 3 ∧ i = .int .i64 j ∧ Below w10.heap.size w10 wr) (fun i _ => 3 - (intOf i).toNat)
  case atStart => exact ⟨0, Nat.zero_le _, rfl, Below.refl _ _⟩
  case round =>
   obtain ⟨j, hj, rfl, hB⟩ := hrel
   have HBj := Hd hB
   have HBx := Hd (HBk.out.trans (hB.mono HBk.out.size))
   have hu4 := cell_stays HU4.out hB
   clear hB
   by_cases hjt : j < 3
   case neg =>
    have hltg : ¬ (j : Int) < 3 := by omega
    have hu8 := cell_stays HU8.out HBj.out
    have hu9 := cell_stays HU9.out HBj.out
    have HBj2 := Hd (HB10.out.trans (HBj.out.mono HB10.out.size))
    clear hjt HRow HX6
    go_upto_region 23 with (fail)
    have hrb := BoxG.made wr [.int .i64 (lo - 1), .int .i64 (hi + 1)] 3
    have hBm := al' (Below.refl wr.heap.size wr) (.cells #[.int .i64 (lo - 1), .int .i64 (hi + 1)] 3)
    have HB15 := Hd (HBj2.out.trans (hBm.mono HBj2.out.size))
    have HW4 := Hd (cell_stays hu4 hBm)
    clear hBm hu4 hu8 hu9 HBj HBx HBj2
    generalize wr.alloc (.cells #[.int .i64 (lo - 1), .int .i64 (hi + 1)] 3) = w15 at *
    obtain ⟨R2, hR2⟩ : ∃ Y, wr.heap.size = Y := ⟨_, rfl⟩
    rw [hR2] at hrb ⊢
    clear hR2
    have HRow2 := Hd (show ∀ j, j < 2 → ∃ v, ¬ (lo ≤ v ∧ v ≤ hi) ∧ w15.cell? ⟨R2, j, none⟩ = some (.int .i64 v) from fun j hj => by
     obtain rfl | rfl : j = 0 ∨ j = 1 := by omega
     · exact ⟨lo - 1, by omega, hrb.2.2 0 (by simp)⟩
     · exact ⟨hi + 1, by omega, hrb.2.2 1 (by simp)⟩)
    clear hrb
    have HBk2 := Hd (HB4.out.trans (HB15.out.mono HB4.out.size))
    go_loopw [214] (fun i wr => ∃ j : Nat, j ≤ 2 ∧ i = .int .i64 j ∧ Below w15.heap.size w15 wr) (fun i _ => 2 - (intOf i).toNat)
    case atStart => exact ⟨0, Nat.zero_le _, rfl, Below.refl _ _⟩
    case round =>
     obtain ⟨q, hq, rfl, hB⟩ := hrel
     have HBq := Hd hB
     have HBy2 := Hd (HBk2.out.trans (hB.mono HBk2.out.size))
     have hw4 := cell_stays HW4.out hB
     clear hB
     by_cases hqt : q < 2
     case neg =>
      have hltg2 : ¬ (q : Int) < 2 := by omega
      clear hqt
      go_wp2_with fail
      exact ⟨⟨k + 1, by omega, by go_num, HB15.out.trans (HBq.out.mono HB15.out.size)⟩, by simp [intOf]; omega⟩
     have hqt' : (q : Int) < 2 := by omega
     obtain ⟨v, v1, hv⟩ := HRow2.out q hqt
     have hvr := cell_stays hv HBq.out
     obtain ⟨g1, g2⟩ := HX7.out v v1
     have CX := Hd (C3.out pk v _ HBy2.out)
     rw [g1, g2, HX5.out] at CX
     clear g1 g2 hv v1
     go_wp2_with (go_at_call 9; refine CX.out.mono ?_; rintro e w16 ⟨ma, mc, rfl, hrm, hS⟩)
     exact ⟨⟨q + 1, by omega, by go_num, HBq.out.trans (hS.mono HBq.out.size)⟩, by simp [intOf]; omega⟩
   have hjt' : (j : Int) < 3 := by omega
   obtain ⟨v, v1, v2, hv⟩ := HRow.out j hjt
   have hvr := cell_stays hv HBj.out
   obtain ⟨g1, M, g2, g3, g4, g5, g6⟩ := HX6.out v v1 v2
   have CX := Hd (C3.out pk v _ HBx.out)
   rw [g1, g2, HX5.out, g4, HRl.out] at CX
   have CY := Hd (fun ma mc W hW h => C1.out ma rn mc M g6 W hW h)
   rw [g3] at CY
   have HM5 := Hd g5
   clear g1 g2 g3 g4 g5 g6 hv v1 v2
   go_upto_region 18 with (go_at_call 9; refine CX.out.mono ?_; rintro e w12 ⟨ma, mc, rfl, hrm, hS⟩)
   have HB12 := Hd (HBx.out.trans (hS.mono HBx.out.size))
   have HBj12 := Hd (HBj.out.trans (hS.mono HBj.out.size))
   have hu12 := cell_stays hu4 hS
   have CZ := Hd (CY.out ma mc _ HB12.out hrm)
   have HM12 := Hd hrm
   clear hu4 hvr hS hrm CX CY
   go_upto_region 19 with (go_at_call 7; refine CZ.out.mono ?_; rintro e w13 ⟨rfl, hS⟩)
   have HBj13 := Hd (HBj12.out.trans (hS.mono HBj12.out.size))
   have hu13 := cell_stays hu12 hS
   obtain ⟨mb, mf, y, rfl, hmb, hy, m0, m1⟩ := (HM12.out.below' hS).wei hlt
   rw [HM5.out] at hy
   obtain rfl := Option.some.inj hy
   simp only at m0 m1
   clear hS hu12 hy CZ
   go_region_held3 (fun w' => w'.cell? ⟨Y, 4, none⟩ = some (.int .i64 pk) ∧ w'.cell? ⟨mb, mf + k * 2, none⟩ = some (.int .i64 pk) ∧ w'.cell? ⟨mb, mf + k * 2 + 1, none⟩ = some (.int .i64 v)) (first | assumption | go_keep) (fail)
   go_wp2_with fail
   have HBd := Hd (show Below w13.heap.size w13 w13.drew from drewN_below w13 1)
   exact ⟨⟨j + 1, by omega, by go_num, HBj13.out.trans (HBd.out.mono HBj13.out.size)⟩, by simp [intOf]; omega⟩
end Go.Proofs.YtehplmeckfinoaaGreatDoor
