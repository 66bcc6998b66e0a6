/- The law CargoNarrows walked. -/
import Derived.Test.YtleiapljnjaloaaGreatDoorCNarrowP
import Derived.Test.YtleiapljnjaloaaGreatDoorCPaperOf
import Derived.Test.YtleiapljnjaloaaGreatDoorCAppE
import Derived.Test.YtleiapljnjaloaaGreatDoorCTreeE
set_option linter.unusedSimpArgs false
set_option linter.unusedVariables false
namespace Go.Proofs.YtleiapljnjaloaaGreatDoor
open Go.RowKit Go.Shelf
theorem paper_ok {l : List Pa} {known loss pack : Int} (h : paperE l known loss pack = 0) : ∃ x, ofI (papersO l known loss) pack = some x ∧ ofI (papersL l known loss) pack = some x := by
 unfold paperE at h
 split at h
 · rename_i h0
   split at h
   · rename_i h1
     obtain ⟨x, hx⟩ := Option.isSome_iff_exists.1 h1
     exact ⟨x, hx, by rw [(open_some (known := known) h0).1] at hx; exact hx⟩
   · cases h
 · rename_i h0; exact absurd h h0
theorem app_ok {l : List Pa} {x : Pa} (h : appE l x = 0) : (checkC l).2 = 0 ∧ followsL l x = 0 ∧ appR l x = l ++ [x] := by
 unfold appE at h
 split at h
 · rename_i hc
   exact ⟨hc, h, by unfold appR; rw [if_pos hc, if_pos h]⟩
 · rename_i hc; exact absurd h hc
theorem keepL {B : Nat} {w w' : World} {p : Addr} {v : Value} (h : p.block < B ∧ w.cell? p = some v) (hB : Below B w w') : w'.cell? p = some v := (hB.cell h.1).trans h.2
set_option maxRecDepth 100000 in
set_option maxHeartbeats 8000000 in
theorem law_narrows (a : Option Addr) (n cap : Nat) (xs : List Pa) (known loss pack id low high : Int) (w : World) (h : Rd Pa.vals 14 w a n xs) (hz : a = none → cap = 0) (hcap : n ≤ cap) (hw : Laid w) :
 Calls Tryz.prog 7 #[.slice a n cap, .int .i64 known, .int .i64 loss, .int .i64 pack, .int .i64 id, .int .i64 low, .int .i64 high] w fun e w' => e = .returned (.bool true) ∧ Below w.heap.size w w' := by
 have CA := Hd (show ∀ W, Below w.heap.size w W → Calls Tryz.prog 13 #[] W fun e w' => e = .returned (.bool true) ∧ Below W.heap.size W w' from fun W hB => alive_any W (hw.below hB))
 have CF := Hd (rfew_any a n cap xs 29 w h)
 have HR := Hd h
 have Hlen := Hd h.len
 have HB := Hd (Below.refl w.heap.size w)
 clear h hw hz
 obtain ⟨F1, hF1⟩ : ∃ b, fewB xs 29 = b := ⟨_, rfl⟩
 rw [hF1] at CF
 have HF := Hd hF1
 clear hF1
 go_enter Tryz.func7, Tryz.ntmps7
 go_upto_region 1 with (fail)
 go_wp2_with fail
 refine CF.out.mono ?_
 rintro e w2 ⟨rfl, hw2⟩
 obtain rfl := hw2.symm
 clear hw2
 cases F1 with
 | false =>
   go_wp2_with fail
   refine (CA.out _ HB.out).mono ?_
   rintro e w3 ⟨rfl, hS⟩
   have HB' := Hd (HB.out.trans (hS.mono HB.out.size))
   clear hS
   go_wp2_with fail
   go_ret
   exact ⟨rfl, HB'.out⟩
 | true =>
 have HS : ∀ y ∈ xs, y.Short := fun y hy => by have := (few_short HF.out).2 y hy; exact ⟨by omega, by omega⟩
 have hn : n ≤ 29 := by have h1 := (few_short HF.out).1; rw [Hlen.out] at h1; omega
 have hs29 := (few_short HF.out).2
 have C1 := Hd (paperOf_any a n cap xs HS known loss pack w HR.out hcap)
 have C2 := Hd (fun W (hW : Below w.heap.size w W) => weights_any a n cap xs HS known loss W (HR.out.below' hW) hcap)
 have HPo := Hd (fun h => paper_ok (l := xs) (known := known) (loss := loss) (pack := pack) h)
 unfold PaperOfPost at C1
 unfold WeightsPost at C2
 obtain ⟨OP, hOP⟩ : ∃ I, ofI (papersO xs known loss) pack = I := ⟨_, rfl⟩
 obtain ⟨PE, hPE⟩ : ∃ I, paperE xs known loss pack = I := ⟨_, rfl⟩
 obtain ⟨WE, hWE⟩ : ∃ I, weighE xs known loss true = I := ⟨_, rfl⟩
 obtain ⟨AV, hAV⟩ : ∃ I, weightsV xs known loss = I := ⟨_, rfl⟩
 rw [hOP, hPE] at C1 HPo
 rw [hWE, hAV] at C2
 have HWE := Hd hWE
 have HAV := Hd hAV
 clear hOP hPE hWE hAV
 go_upto_region 4 with (go_at_call 30; refine C1.out.mono ?_; rintro e w5 ⟨hS0, p, hq, rfl⟩)
 have hBq := al' (Below.refl w5.heap.size w5) (.cells #[.int .i64 p.id, .int .i64 p.known, .int .u8 p.kind, .int .i64 p.loss, .int .i64 p.pack, .int .i64 p.inn, .string ⟨p.mark.toArray⟩, .string ⟨p.goods.toArray⟩, .int .i64 p.low, .int .i64 p.high, .int .i64 p.pieces, .int .i64 p.owner, .int .i64 p.count, .int .i64 p.of] 26)
 have hbx := BoxG.made w5 p.vals 26
 simp only [Pa.vals] at hbx
 have HB6 := Hd (hS0.trans (hBq.mono hS0.size))
 have hQ0 := hS0.size
 clear hBq hS0 C1
 generalize w5.alloc (.cells #[.int .i64 p.id, .int .i64 p.known, .int .u8 p.kind, .int .i64 p.loss, .int .i64 p.pack, .int .i64 p.inn, .string ⟨p.mark.toArray⟩, .string ⟨p.goods.toArray⟩, .int .i64 p.low, .int .i64 p.high, .int .i64 p.pieces, .int .i64 p.owner, .int .i64 p.count, .int .i64 p.of] 26) = w6 at *
 obtain ⟨Q, hQe⟩ : ∃ Q, w5.heap.size = Q := ⟨_, rfl⟩
 rw [hQe] at hbx hQ0 ⊢
 have HQ := Hd hQ0
 clear hQe hQ0
 have HX6 := Hd (show BoxG w6 Q p.vals from hbx)
 have Hp := Hd hq
 clear hbx hq
 go_upto_region 5 with (go_at_call 15; refine (C2.out w6 HB6.out).mono ?_; rintro e w7 ⟨ra, rn, rc, rfl, hra, hB7, hfr⟩)
 have HAb := Hd (show ∀ p, ra = some p → Q < p.block from fun p e => Nat.lt_of_lt_of_le HX6.out.1 (hfr p e).1)
 have HB := Hd (HB6.out.trans (hB7.mono HB6.out.size))
 have HX7 := Hd (HX6.out.below' hB7)
 have HA7 := Hd hra
 have HR7 := Hd (HR.out.below' HB.out)
 clear hB7 hra C2 HB6 HX6 hfr
 obtain ⟨c0, c1, c2, c3, c4, c5, c6, c7, c8, c9, c10, c11, c12, c13⟩ := HX7.out.pa
 clear c0 c1 c2 c3 c4 c5 c6 c7 c10 c11 c12 c13
 by_cases g1 : PE = 0
 case neg =>
  have g1' : (PE != 0) = true := by simp [g1]
  clear g1
  go_wp2_with fail
  refine (CA.out _ HB.out).mono ?_
  rintro e w3 ⟨rfl, hS⟩
  have HB' := Hd (HB.out.trans (hS.mono HB.out.size))
  clear hS
  go_wp2_with fail
  go_ret
  exact ⟨rfl, HB'.out⟩
 have g1' : (PE != 0) = false := by simp [g1]
 by_cases g2 : WE = 0
 case neg =>
  have g2' : (WE != 0) = true := by simp [g2]
  clear g2 g1
  go_wp2_with fail
  refine (CA.out _ HB.out).mono ?_
  rintro e w3 ⟨rfl, hS⟩
  have HB' := Hd (HB.out.trans (hS.mono HB.out.size))
  clear hS
  go_wp2_with fail
  go_ret
  exact ⟨rfl, HB'.out⟩
 have g2' : (WE != 0) = false := by simp [g2]
 by_cases g3 : n = 0
 · have g3' : ((n : Int) == 0) = true := by simp [g3]
   clear g3 g2 g1
   go_wp2_with fail
   refine (CA.out _ HB.out).mono ?_
   rintro e w3 ⟨rfl, hS⟩
   have HB' := Hd (HB.out.trans (hS.mono HB.out.size))
   clear hS
   go_wp2_with fail
   go_ret
   exact ⟨rfl, HB'.out⟩
 have g3' : ((n : Int) == 0) = false := by simp; omega
 by_cases g4 : low < p.low
 · clear g3 g2 g1
   go_wp2_with fail
   refine (CA.out _ HB.out).mono ?_
   rintro e w3 ⟨rfl, hS⟩
   have HB' := Hd (HB.out.trans (hS.mono HB.out.size))
   clear hS
   go_wp2_with fail
   go_ret
   exact ⟨rfl, HB'.out⟩
 by_cases g5 : p.high < high
 · clear g3 g2 g1
   go_wp2_with fail
   refine (CA.out _ HB.out).mono ?_
   rintro e w3 ⟨rfl, hS⟩
   have HB' := Hd (HB.out.trans (hS.mono HB.out.size))
   clear hS
   go_wp2_with fail
   go_ret
   exact ⟨rfl, HB'.out⟩
 have HX := Hd (show ∃ x, ofI (papersL xs known loss) pack = some x ∧ p = x from by
  obtain ⟨x, h1, h2⟩ := HPo.out g1
  refine ⟨x, h2, ?_⟩
  rw [← Hp.out, h1]
  rfl)
 have HG := Hd (show WE = 0 ∧ p.low ≤ low ∧ high ≤ p.high from ⟨g2, by omega, by omega⟩)
 go_upto_region 7 with (fail)
 obtain ⟨q, hqn⟩ : ∃ q, n = q + 1 := ⟨n - 1, by omega⟩
 obtain ⟨lb, lf, z, hla, hlb, hz, d0, d1, d2, d3, d4, d5, d6, d7, d8, d9, d10, d11, d12, d13⟩ := HR.out.pa (i := q) (by omega)
 subst hla
 have HLb := Hd (show lb < w.heap.size ∧ w.cell? ⟨lb, lf + q * 14 + 1, none⟩ = some (.int .i64 z.known) from ⟨hlb, d1⟩)
 have d1 := cell_stays HLb.out.2 HB.out
 clear hlb
 clear d0 d2 d3 d4 d5 d6 d7 d8 d9 d10 d11 d12 d13 g1' g2' g3' g4 g5 HPo Hp c8 c9
 have hq1 : (n : Int) - 1 = (q : Int) := by omega
 have hq2 : (0 : Int) ≤ (q : Int) := by omega
 have hq3 : (q : Int) < (n : Int) := by omega
 have gw : IntKind.i64.wrap ((n : Int) - 1) = (q : Int) := by rw [IntKind.wrap_i64]; omega
 have gw2 : IntKind.i64.wrap (q : Int) = (q : Int) := by rw [IntKind.wrap_i64]; omega
 have HQn := Hd hqn
 clear hqn
 clear g1 g2 g3
 obtain ⟨c0, c1, c2, c3, c4, c5, c6, c7, c8, c9, c10, c11, c12, c13⟩ := HX7.out.pa
 have bf := HX7.out.2.1
 have bl := HX7.out.1
 go_region_held3 (fun w' => w'.cell? ⟨lb, lf + q * 14 + 1, none⟩ = some (.int .i64 z.known))
  ((refine keepL HLb.out ?_; repeat (first | with_reducible exact HB.out | with_reducible apply dr' | refine Below.setCell ?_ HQ.out _)))
  (fail)
 all_goals
  have hb8 : Below w.heap.size w ((((w7.setCell ⟨Q, 0, none⟩ (.int .i64 id)).setCell ⟨Q, 1, none⟩ (.int .i64 (max known z.known))).setCell ⟨Q, 8, none⟩ (.int .i64 low)).setCell ⟨Q, 9, none⟩ (.int .i64 high)).drew :=
   dr' ((((HB.out.setCell HQ.out _).setCell HQ.out _).setCell HQ.out _).setCell HQ.out _)
  have hx8 : BoxG ((((w7.setCell ⟨Q, 0, none⟩ (.int .i64 id)).setCell ⟨Q, 1, none⟩ (.int .i64 (max known z.known))).setCell ⟨Q, 8, none⟩ (.int .i64 low)).setCell ⟨Q, 9, none⟩ (.int .i64 high)).drew Q (narrowPa p id (max known z.known) low high).vals :=
   ((((HX7.out.set 0 _ (by simp [Pa.vals])).set 1 _ (by simp [Pa.vals])).set 8 _ (by simp [Pa.vals])).set 9 _ (by simp [Pa.vals])).below' (dr' (Below.refl _ _))
  have hk8 : Keeps [Q] w7 ((((w7.setCell ⟨Q, 0, none⟩ (.int .i64 id)).setCell ⟨Q, 1, none⟩ (.int .i64 (max known z.known))).setCell ⟨Q, 8, none⟩ (.int .i64 low)).setCell ⟨Q, 9, none⟩ (.int .i64 high)).drew :=
   (((((Keeps.setCell w7 ⟨Q, 0, none⟩ (.int .i64 id)).trans (Keeps.setCell _ ⟨Q, 1, none⟩ _)).trans (Keeps.setCell _ ⟨Q, 8, none⟩ _)).trans (Keeps.setCell _ ⟨Q, 9, none⟩ _)).then_below (dr' (Below.refl _ _)))
  clear c0 c1 c2 c3 c4 c5 c6 c7 c8 c9 c10 c11 c12 c13 bf bl d1
  generalize ((((w7.setCell ⟨Q, 0, none⟩ (.int .i64 id)).setCell ⟨Q, 1, none⟩ (.int .i64 (max known z.known))).setCell ⟨Q, 8, none⟩ (.int .i64 low)).setCell ⟨Q, 9, none⟩ (.int .i64 high)).drew = w8 at *
  have HB8 := Hd hb8
  have HX8 := Hd hx8
  have HR8 := Hd (HR.out.below' hb8)
  have HA8 := Hd (hk8.rd HA7.out (fun _ p e hm => by have h1 := HAb.out p e; have h2 := List.mem_singleton.1 hm; omega))
  clear hb8 hx8 hk8 HX7 HA7 HR7 HAb HB
  have hpx : p.Short ∧ ofI (papersL xs known loss) pack = some p := by
   obtain ⟨x, h1, rfl⟩ := HX.out
   refine ⟨HS _ ?_, h1⟩
   have hw0 : weighE xs known loss true = 0 := by rw [HWE.out]; exact HG.out.1
   obtain ⟨h0, _, _⟩ := rootE_zero (weigh_root hw0)
   exact mani_in (known := known) (loss := loss) (open_check h0) _ (List.mem_append_left _ (ofI_mem h1).1)
  have HPx := Hd hpx
  obtain ⟨KM, hKM⟩ : ∃ m, max known z.known = m := ⟨_, rfl⟩
  rw [hKM] at HX8
  obtain ⟨x, hx⟩ : ∃ x, narrowPa p id KM low high = x := ⟨_, rfl⟩
  rw [hx] at HX8
  have HXe := Hd hx
  have hxs : x.Short := by rw [← hx]; exact hpx.1
  have C3 := Hd ((append_any _ n cap xs HS x hxs w8 HR8.out hcap).mono (fun _ _ h => app_of h))
  unfold AppPost at C3
  have HOk := Hd (fun h => app_ok (l := xs) (x := x) h)
  obtain ⟨G, hG⟩ : ∃ I, appE xs x = I := ⟨_, rfl⟩
  obtain ⟨R, hR⟩ : ∃ I, appR xs x = I := ⟨_, rfl⟩
  rw [hG, hR] at C3 HOk
  clear hx hpx hG hR HX
  obtain ⟨c0, c1, c2, c3, c4, c5, c6, c7, c8, c9, c10, c11, c12, c13⟩ := HX8.out.pa
  go_upto_region 9 with (go_at_call 14; refine C3.out.mono ?_; rintro e w9 ⟨va, vn, vc, rfl, hva, hvc, hB9⟩)
  clear c0 c1 c2 c3 c4 c5 c6 c7 c8 c9 c10 c11 c12 c13
  have HB := Hd (HB8.out.trans (hB9.mono HB8.out.size))
  have HV9 := Hd hva
  have HA9 := Hd (HA8.out.below' hB9)
  have d1 := cell_stays HLb.out.2 HB.out
  clear hB9 hva C3 HX8 HB8 HA8 HR8
  by_cases g6 : G = 0
  case neg =>
   have g6' : (G != 0) = true := by simp [g6]
   clear g6
   go_wp2_with fail
   refine (CA.out _ HB.out).mono ?_
   rintro e w3 ⟨rfl, hS⟩
   have HB' := Hd (HB.out.trans (hS.mono HB.out.size))
   clear hS
   go_wp2_with fail
   go_ret
   exact ⟨rfl, HB'.out⟩
  have g6' : (G != 0) = false := by simp [g6]
  obtain ⟨hc, hf, hRe⟩ := HOk.out g6
  subst hRe
  have HF2 := Hd hf
  clear g6 hc hf HOk
  by_cases g7 : KM = known
  case neg =>
   have g7' : (KM != known) = true := by simp [g7]
   clear g7
   go_wp2_with fail
   refine (CA.out _ HB.out).mono ?_
   rintro e w3 ⟨rfl, hS⟩
   have HB' := Hd (HB.out.trans (hS.mono HB.out.size))
   clear hS
   go_wp2_with fail
   go_ret
   exact ⟨rfl, HB'.out⟩
  subst g7
  have g7' : (KM != KM) = false := by simp
  have hs2 : ∀ y ∈ xs ++ [x], y.Short := fun y hy => by
   rcases List.mem_append.1 hy with hy | hy
   · exact HS y hy
   · rw [List.mem_singleton.1 hy]; exact hxs
  have C4 := Hd (weights_any va vn vc _ hs2 KM loss w9 HV9.out hvc)
  unfold WeightsPost at C4
  have hN := narrows_is (id := id) (lo := low) (hi := high) HPx.out.2 (by rw [HWE.out]; exact HG.out.1) (by rw [HXe.out]; exact HF2.out) HG.out.2.1 HG.out.2.2
  rw [HXe.out, HAV.out] at hN
  obtain ⟨WF, hWF⟩ : ∃ I, weighE (xs ++ [x]) KM loss true = I := ⟨_, rfl⟩
  obtain ⟨BV, hBV⟩ : ∃ I, weightsV (xs ++ [x]) KM loss = I := ⟨_, rfl⟩
  rw [hWF, hBV] at C4 hN
  have HN := Hd hN
  clear hN hWF hBV hs2 hxs HF2 HXe HPx HWE HAV HG HS
  go_upto_region 15 with (go_at_call 15; refine C4.out.mono ?_; rintro e w10 ⟨sa, sn, sc, rfl, hsa, hB10, _⟩)
  have HBx := Hd (HB.out.trans (hB10.mono HB.out.size))
  have HA10 := Hd (HA9.out.below' hB10)
  have HS10 := Hd hsa
  clear hsa hB10 C4 HV9 HA9 HB d1
  have HB := Hd HBx.out
  clear HBx
  by_cases g8 : WF = 0
  case neg =>
   have g8' : (WF != 0) = true := by simp [g8]
   obtain rfl : WF = 10 := by
    rcases HN.out.1 with h | h
    · exact absurd h g8
    · exact h
   clear g8 g8' HN
   go_wp2_with fail
   refine (CA.out _ HB.out).mono ?_
   rintro e w3 ⟨rfl, hS⟩
   have HB' := Hd (HB.out.trans (hS.mono HB.out.size))
   clear hS
   go_wp2_with fail
   go_ret
   exact ⟨rfl, HB'.out⟩
  have g8' : (WF != 0) = false := by simp [g8]
  obtain ⟨hle, hall⟩ := HN.out.2 g8
  obtain rfl : rn = sn := by rw [← HA10.out.len, ← HS10.out.len, hle]
  have HAll := Hd hall
  have g9 : ((rn : Int) != (rn : Int)) = false := by simp
  clear g8 hle hall HN
  go_upto_region 20 with (fail)
  go_loopw [129] (fun i wr => ∃ k : Nat, k ≤ rn ∧ i = .int .i64 k ∧ Below w10.heap.size w10 wr) (fun i _ => rn - (intOf i).toNat)
  case atStart => exact ⟨0, Nat.zero_le _, rfl, Below.refl _ _⟩
  case round =>
   obtain ⟨k, hk, rfl, hB⟩ := hrel
   have HBr := Hd hB
   have hcap1 := HA10.out.cap
   unfold maxLen at hcap1
   by_cases hlt : k < rn
   · have hlt' : (k : Int) < (rn : Int) := by omega
     obtain ⟨b1, o1, y, rfl, _, hy, c0, c1, c2, c3, c4, c5, c6, c7, c8, c9, c10, c11, c12, c13⟩ := (HA10.out.below' hB).pa hlt
     obtain ⟨b2, o2, v, rfl, _, hv, e0, e1, e2, e3, e4, e5, e6, e7, e8, e9, e10, e11, e12, e13⟩ := (HS10.out.below' hB).pa hlt
     obtain ⟨v', hv', p1, p2, p3⟩ := HAll.out k y hy
     obtain rfl : v' = v := Option.some.inj (hv'.symm.trans hv)
     have q1 : (y.pack != v'.pack) = false := by rw [p1]; simp
     have q2 : ¬ v'.low < y.low := by omega
     have q3 : ¬ y.high < v'.high := by omega
     clear hy hv hv' p1 p2 p3 c0 c1 c2 c3 c5 c6 c7 c10 c11 c12 c13 e0 e1 e2 e3 e5 e6 e7 e10 e11 e12 e13 hB
     go_wp2_with fail
     go_quiet (fail)
     go_wp2_with fail
     exact ⟨⟨k + 1, by omega, by go_num, below_drewN HBr.out _⟩, by simp [intOf]; omega⟩
   · have hltg : ¬ (k : Int) < (rn : Int) := by omega
     clear hlt
     go_wp2_with fail
     have HBw := Hd (HB.out.trans (hB.mono HB.out.size))
     refine (CA.out _ HBw.out).mono ?_
     rintro e w3 ⟨rfl, hS⟩
     have HB' := Hd (HBw.out.trans (hS.mono HBw.out.size))
     clear hS
     go_wp2_with fail
     go_ret
     exact ⟨rfl, HB'.out⟩
end Go.Proofs.YtleiapljnjaloaaGreatDoor
