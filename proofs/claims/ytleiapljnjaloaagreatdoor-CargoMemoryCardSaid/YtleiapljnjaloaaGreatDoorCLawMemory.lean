/- The walk of the reference's Weights. -/
import Derived.Test.YtleiapljnjaloaaGreatDoorCRWeighOne
import Derived.Test.YtleiapljnjaloaaGreatDoorCRRight
import Derived.Test.YtleiapljnjaloaaGreatDoorCRLift
import Derived.Test.YtleiapljnjaloaaGreatDoorCWeights
import Derived.Test.YtleiapljnjaloaaGreatDoorCAppE
import Derived.Test.YtleiapljnjaloaaGreatDoorCRLine
import Derived.Test.YtleiapljnjaloaaGreatDoorCAlive
set_option linter.unusedSimpArgs false
set_option linter.unusedVariables false
namespace Go.Proofs.YtleiapljnjaloaaGreatDoor
open Go.RowKit Go.Shelf
theorem weights_plain {xs : List Pa} {known loss : Int} (h : rootE xs known loss true = 0) :
 Well (papersO xs known loss) (totalsO xs known loss) ∧ weighE xs known loss true = (if completeR (papersO xs known loss) (totalsO xs known loss) 300 = true then 0 else 10) ∧
 ∀ x ∈ papersO xs known loss, ∃ WAY, wayR (papersO xs known loss) 201 x.pack [] = some WAY ∧ (∀ q ∈ WAY, ∃ x ∈ papersO xs known loss, x.pack = q) ∧ 0 < WAY.length ∧ (completeR (papersO xs known loss) (totalsO xs known loss) 300 = true → endsW (papersO xs known loss) (totalsO xs known loss) 300 WAY = weighP xs known loss x.pack) := by
 obtain ⟨h0, hh, t, ht⟩ := rootE_zero h
 have hmo := mani_ok (check_good (open_check h0)).1 known loss
 have ht' : treeT (papersL xs known loss) (totalsL xs known loss) (fun _ => true) = some t := ht
 obtain ⟨p1, p2⟩ := open_some (known := known) h0
 refine ⟨by rw [p1, p2]; exact well_tree hmo ht', ?_, fun x hx => ?_⟩
 · have hci := complete_iff hmo ht'
   unfold weighE
   rw [if_pos h, ht, p1, p2]
   simp only [Option.bind_some, hci]
 · have hp : hasP xs known loss x.pack = true := by
    rw [p1] at hx
    unfold hasP
    rw [hmo.packs.find hx]; rfl
   exact (weigh_plain (pack := x.pack) (by rw [hp]; exact h)).2.2
set_option maxRecDepth 100000 in
set_option maxHeartbeats 8000000 in
theorem weights_r (a : Option Addr) (n cap : Nat) (xs : List Pa) (hs : ∀ x ∈ xs, x.Short) (known loss : Int) (w : World) (h : Rd Pa.vals 14 w a n xs) (hcap : n ≤ cap) (hn : n ≤ 100000) :
 Calls Tryz.prog 18 #[.slice a n cap, .int .i64 known, .int .i64 loss] w (WeightsPost w (weightsV xs known loss) (weighE xs known loss true)) := by
 obtain ⟨i0, hi, hz0, hz1, hz2⟩ := info_parts info_pa
 have CR := Hd (right_r a n cap xs hs known loss 0 w h hcap hn)
 rw [right0_E] at CR
 unfold RightPost at CR
 have HWp := Hd (fun h => weights_plain (xs := xs) (known := known) (loss := loss) h)
 have HVn := Hd (show ¬ weighE xs known loss true = 0 → weightsV xs known loss = [] from fun h => by unfold weightsV; rw [if_neg h])
 have HVy := Hd (show rootE xs known loss true = 0 → weighE xs known loss true = 0 → weightsV xs known loss = (papersO xs known loss).map (fun x => withEnds x (weighP xs known loss x.pack)) from fun hr h => by
  unfold weightsV; rw [if_pos h, (open_some (known := known) (root_open hr).1).1]; rfl)
 have HEb := Hd (weighE_bad (xs := xs) (known := known) (loss := loss) (tb := true))
 clear h
 obtain ⟨PS, hPS⟩ : ∃ P, papersO xs known loss = P := ⟨_, rfl⟩
 obtain ⟨TS, hTS⟩ : ∃ P, totalsO xs known loss = P := ⟨_, rfl⟩
 obtain ⟨E, hE⟩ : ∃ P, rootE xs known loss true = P := ⟨_, rfl⟩
 obtain ⟨WE, hWE⟩ : ∃ P, weighE xs known loss true = P := ⟨_, rfl⟩
 obtain ⟨WV, hWV⟩ : ∃ P, weightsV xs known loss = P := ⟨_, rfl⟩
 rw [hPS, hTS] at CR HWp
 rw [hPS] at HVy
 rw [hE] at CR HWp HEb HVy
 rw [hWE] at HWp HVn HVy HEb ⊢
 rw [hWV] at HVn HVy ⊢
 clear hPS hTS hE hWE hWV
 go_enter Tryz.func18, Tryz.ntmps18
 go_upto_region 2 with (go_at_call 56; refine CR.out.mono ?_; rintro e w2 ⟨pa, pn, pc, ta, tn, tc, rfl, hS, hok⟩)
 have hM := BoxG.made w2 [.slice pa pn pc, .slice ta tn tc] 91
 have hBm := al' (Below.refl w2.heap.size w2) (.cells #[.slice pa pn pc, .slice ta tn tc] 91)
 have HB3 := Hd (hS.trans (hBm.mono hS.size))
 have HOk := Hd (show E = 0 → pn ≤ 201 ∧ tn ≤ 201 ∧ Rd Pa.vals 14 (w2.alloc (.cells #[.slice pa pn pc, .slice ta tn tc] 91)) pa pn PS ∧ Rd Pa.vals 14 (w2.alloc (.cells #[.slice pa pn pc, .slice ta tn tc] 91)) ta tn TS from fun e => by
  obtain ⟨h1, h2, h3, h4, _, _⟩ := hok e
  exact ⟨h1, h2, h3.below' hBm, h4.below' hBm⟩)
 clear hok hS hBm CR
 generalize w2.alloc (.cells #[.slice pa pn pc, .slice ta tn tc] 91) = w3 at *
 obtain ⟨M, hMe⟩ : ∃ M, w2.heap.size = M := ⟨_, rfl⟩
 rw [hMe] at hM ⊢
 clear hMe
 obtain ⟨m0, m1, _, _⟩ := pair_facts hM
 by_cases h0 : E = 0
 case neg =>
  have h1 : (E != 0) = true := by simp [h0]
  have HX := Hd (show WE = E ∧ WV = [] from by
   have h2 := HEb.out h0
   exact ⟨h2, HVn.out (by rw [h2]; exact h0)⟩)
  clear h0 hM
  go_wp2_with fail
  exact bodyPost_ret (by simp [results, Tryz.results18, go_sem]) rfl (show WeightsPost w WV WE (.returned (.tuple #[.slice none 0 0, .int .i64 E])) w3 from ⟨none, 0, 0, by rw [HX.out.1], by rw [HX.out.2]; exact Rd.empty _ _, HB3.out, fun p e => by cases e⟩)
 case pos =>
 subst h0
 obtain ⟨hpn, htn, hrp, hrt⟩ := HOk.out rfl
 obtain ⟨hwell, hwe, hends⟩ := HWp.out rfl
 have HM3 := Hd (show ManR w3 M pa pn pc ta tn tc PS TS from ⟨m0, m1, hrp, hrt⟩)
 have CC := Hd (complete_r pa pn pc ta tn tc PS TS hwell w3 hrp hrt)
 have CE := Hd (show ∀ x ∈ PS, completeR PS TS 300 = true → ∀ W, Below w3.heap.size w3 W → Calls Tryz.prog 58 #[.agg #[.slice pa pn pc, .slice ta tn tc], .int .i64 x.pack] W (SpanPost W (weighP xs known loss x.pack)) from fun x hx hc W hW => by
  obtain ⟨WAY, h1, h2, h3, h4⟩ := hends x hx
  rw [← h4 hc]
  exact ends_r pa pn pc ta tn tc PS TS hwell x.pack WAY h1 h2 h3 W (hrp.below' hW) (hrt.below' hW))
 unfold SpanPost at CE
 obtain ⟨CB, hCB⟩ : ∃ b, completeR PS TS 300 = b := ⟨_, rfl⟩
 rw [hCB] at CC hwe CE
 have HWe := Hd hwe
 have HPl := Hd hrp.len
 clear hrp hrt hwell hwe hends hCB hM HOk HWp
 go_wp2_with fail
 refine CC.out.mono ?_
 rintro e w4 ⟨rfl, hS⟩
 have HB4 := Hd (HB3.out.trans (hS.mono HB3.out.size))
 have HM4 := Hd (HM3.out.below' hS)
 have HS4 := Hd hS
 clear hS CC HB3 HM3 m0 m1
 cases CB with
 | false =>
   have HX := Hd (show WE = 10 ∧ WV = [] from by
    have h2 := HWe.out
    rw [if_neg (by simp)] at h2
    exact ⟨h2, HVn.out (by rw [h2]; decide)⟩)
   go_wp2_with fail
   exact bodyPost_ret (by simp [results, Tryz.results18, go_sem]) rfl (show WeightsPost w WV WE (.returned (.tuple #[.slice none 0 0, .int .i64 10])) w4 from ⟨none, 0, 0, by rw [HX.out.1], by rw [HX.out.2]; exact Rd.empty _ _, HB4.out, fun p e => by cases e⟩)
 | true =>
   have HX := Hd (show WE = 0 ∧ WV = PS.map (fun x => withEnds x (weighP xs known loss x.pack)) from by
    have h2 := HWe.out
    rw [if_pos rfl] at h2
    exact ⟨h2, HVy.out (by trivial) h2⟩)
   clear HWe HVy HVn HEb
   go_wp2_with fail
   go_loopw [11, 12] (fun v i wr => ∃ k : Nat, k ≤ pn ∧ i = .int .i64 k ∧ wr.ownsRow w4.heap.size 26 14 v ((PS.take k).map (fun x => withEnds x (weighP xs known loss x.pack))).length (((PS.take k).map (fun x => withEnds x (weighP xs known loss x.pack))).flatMap Pa.vals) ∧ Below w4.heap.size w4 wr) (fun _ i _ => pn - (intOf i).toNat)
   case atStart => exact ⟨0, Nat.zero_le _, rfl, World.ownsRow_nil _ _ _ _, Below.refl _ _⟩
   case round =>
    obtain ⟨k, hk, rfl, hrow, hB⟩ := hrel
    have HRow := Hd hrow
    have HB := Hd hB
    have HMr := Hd (HM4.out.below' hB)
    clear hrow hB
    have m0 := HMr.out.c0
    have m1 := HMr.out.c1
    by_cases hlt : k < pn
    · have hlt' : (k : Int) < (pn : Int) := by omega
      obtain ⟨b, off, x, hpa, hb, hx, c0, c1, c2, c3, c4, c5, c6, c7, c8, c9, c10, c11, c12, c13⟩ := HMr.out.rp.pa hlt
      have HS3 := Hd (HS4.out.trans (HB.out.mono HS4.out.size))
      have CX := Hd (CE.out x (List.mem_of_getElem? hx) (by trivial))
      have HN := Hd (show (PS.take (k + 1)).map (fun x => withEnds x (weighP xs known loss x.pack)) = (PS.take k).map (fun x => withEnds x (weighP xs known loss x.pack)) ++ [withEnds x (weighP xs known loss x.pack)] from by rw [take_succ_snoc hx, List.map_append]; rfl)
      have hfl : ((PS.take k).map (fun x => withEnds x (weighP xs known loss x.pack))).length ≤ 201 := by rw [List.length_map, List.length_take]; omega
      obtain ⟨RL, hRL⟩ : ∃ L, (PS.take k).map (fun x => withEnds x (weighP xs known loss x.pack)) = L := ⟨_, rfl⟩
      rw [hRL] at HRow HN hfl
      obtain ⟨lo, hlo⟩ : ∃ v, (weighP xs known loss x.pack).1 = v := ⟨_, rfl⟩
      obtain ⟨hi2, hhi⟩ : ∃ v, (weighP xs known loss x.pack).2 = v := ⟨_, rfl⟩
      have HXe := Hd (show (withEnds x (weighP xs known loss x.pack)) = withEnds x (lo, hi2) from by rw [← hlo, ← hhi])
      rw [hlo, hhi] at CX
      rw [HXe.out] at HN
      clear hx hlo hhi hRL HXe
      subst hpa
      go_upto_region 12 with (fail)
      have hyb := BoxG.made wr [.int .i64 x.id, .int .i64 x.known, .int .u8 x.kind, .int .i64 x.loss, .int .i64 x.pack, .int .i64 x.inn, .string ⟨x.mark.toArray⟩, .string ⟨x.goods.toArray⟩, .int .i64 x.low, .int .i64 x.high, .int .i64 x.pieces, .int .i64 x.owner, .int .i64 x.count, .int .i64 x.of] 26
      have hBy := al' (Below.refl wr.heap.size wr) (.cells #[.int .i64 x.id, .int .i64 x.known, .int .u8 x.kind, .int .i64 x.loss, .int .i64 x.pack, .int .i64 x.inn, .string ⟨x.mark.toArray⟩, .string ⟨x.goods.toArray⟩, .int .i64 x.low, .int .i64 x.high, .int .i64 x.pieces, .int .i64 x.owner, .int .i64 x.count, .int .i64 x.of] 26)
      have HB8 := Hd (HB.out.trans (hBy.mono HB.out.size))
      have HM8 := Hd (HMr.out.below' hBy)
      have HRow8 := Hd (own_later' HRow.out hBy)
      have HRy := Hd (fun r e => (HRow.out.lt r e).2)
      have HY := Hd hyb
      have HYw := Hd (show w4.heap.size ≤ wr.heap.size from HB.out.size)
      clear hBy hyb c0 c1 c2 c3 c4 c5 c6 c7 c8 c9 c10 c11 c12 c13 m0 m1 HB HMr HRow hb HS3
      generalize wr.alloc (.cells #[.int .i64 x.id, .int .i64 x.known, .int .u8 x.kind, .int .i64 x.loss, .int .i64 x.pack, .int .i64 x.inn, .string ⟨x.mark.toArray⟩, .string ⟨x.goods.toArray⟩, .int .i64 x.low, .int .i64 x.high, .int .i64 x.pieces, .int .i64 x.owner, .int .i64 x.count, .int .i64 x.of] 26) = w8 at *
      obtain ⟨Y, hY⟩ : ∃ Y, wr.heap.size = Y := ⟨_, rfl⟩
      rw [hY] at HY HRy HYw ⊢
      clear hY
      have y4 : w8.cell? ⟨Y, 4, none⟩ = some (.int .i64 x.pack) := (BoxG.pa (x := x) HY.out).2.2.2.2.1
      have m0 := HM8.out.c0
      have m1 := HM8.out.c1
      go_upto_region 13 with (go_at_call 58; refine (CX.out _ (HS4.out.trans (HB8.out.mono HS4.out.size))).mono ?_; rintro e w9 ⟨rfl, hS⟩; have HS9 := Hd hS; have HY9 := Hd (HY.out.below' hS); have yf := HY9.out.2.1; have yf8 := yf 8; have yf9 := yf (8 + 1); have yl := HY9.out.1; have y8 : w9.cell? ⟨Y, 8, none⟩ = some (.int .i64 x.low) := (BoxG.pa (x := x) HY9.out).2.2.2.2.2.2.2.2.1; have y9 : w9.cell? ⟨Y, 8 + 1, none⟩ = some (.int .i64 x.high) := (BoxG.pa (x := x) HY9.out).2.2.2.2.2.2.2.2.2.1)
      clear y4 m0 m1 yf CX HY
      have HW9 := Hd (ends_box HY9.out lo hi2)
      have HK9 := Hd (show Keeps [Y] w9 ((w9.setCell ⟨Y, 8, none⟩ (.int .i64 lo)).setCell ⟨Y, 8 + 1, none⟩ (.int .i64 hi2)) from (Keeps.setCell w9 ⟨Y, 8, none⟩ _).then_set ⟨Y, 8 + 1, none⟩ _ (.inl (by simp)))
      have HB10 := Hd (HK9.out.below_then (HB8.out.trans (HS9.out.mono HB8.out.size)) (fun z hz => by have h1 := List.mem_singleton.1 hz; have h2 := HYw.out; omega) (Nat.le_refl _))
      have HR10 := Hd (HK9.out.own (own_later' HRow8.out HS9.out) (fun r e hm => by have h1 := HRy.out r e; have h2 := List.mem_singleton.1 hm; omega))
      clear HK9 HY9 HS9 HRow8 HRy HB8 HM8 yf8 yf9 yl y8 y9
      generalize (w9.setCell ⟨Y, 8, none⟩ (.int .i64 lo)).setCell ⟨Y, 8 + 1, none⟩ (.int .i64 hi2) = w10 at *
      obtain ⟨e0, e1, e2, e3, e4, e5, e6, e7, e8, e9, e10, e11, e12, e13⟩ := BoxG.pa (x := withEnds x (lo, hi2)) HW9.out
      dsimp only [withEnds] at e0 e1 e2 e3 e4 e5 e6 e7 e8 e9 e10 e11 e12 e13
      go_wp2_with (at_builtin; refine wpList_append_own _ rfl _ _ 22 rfl w4.heap.size 26 i0 _ 14 128 Tryz.underlying22 hi hz0 hz1 hz2 rfl (by decide) _ _ _ rfl (HR10.out.alloc _) ⟨w10.heap.size, 0, none⟩ 1 1 (Pa.vals (withEnds x (lo, hi2))) rfl rfl (World.news_of_block (cs := #[.int .i64 x.id, .int .i64 x.known, .int .u8 x.kind, .int .i64 x.loss, .int .i64 x.pack, .int .i64 x.inn, .string ⟨x.mark.toArray⟩, .string ⟨x.goods.toArray⟩, .int .i64 lo, .int .i64 hi2, .int .i64 x.pieces, .int .i64 x.owner, .int .i64 x.count, .int .i64 x.of]) (t := 26) (fr := (0, 0)) (heap_alloc_new w10 _)) (by simp [Pa.vals, Value.oneCell']) (by unfold maxLen; omega) (by omega) (Nat.le_trans HB10.out.size (by simp)) ?_; intro v2 w2 hown2 hgrow2 _)
      have HB11 := Hd ((HB10.out.alloc HB10.out.size (.cells #[.int .i64 x.id, .int .i64 x.known, .int .u8 x.kind, .int .i64 x.loss, .int .i64 x.pack, .int .i64 x.inn, .string ⟨x.mark.toArray⟩, .string ⟨x.goods.toArray⟩, .int .i64 lo, .int .i64 hi2, .int .i64 x.pieces, .int .i64 x.owner, .int .i64 x.count, .int .i64 x.of] 26)).grown hgrow2 (Nat.le_trans HB10.out.size (by simp)) (fun k e => (HR10.out.lt k e).1))
      have HO2 := Hd (own_pa_next hown2)
      clear hgrow2 hown2 e0 e1 e2 e3 e4 e5 e6 e7 e8 e9 e10 e11 e12 e13
      go_wp2_with fail
      exact ⟨⟨k + 1, by omega, by go_num, by rw [HN.out, List.length_append]; exact HO2.out, HB11.out⟩, by simp [intOf]; omega⟩
    · have hltg : ¬ (k : Int) < (pn : Int) := by omega
      have HT := Hd (show PS.take k = PS from List.take_of_length_le (by rw [HPl.out]; omega))
      rw [HT.out, ← HX.out.2] at HRow
      have hwl : WV.length ≤ 1000 := by rw [HX.out.2, List.length_map, HPl.out]; omega
      obtain ⟨oa, oc, rfl, hro, hob⟩ := own_open HRow.out rfl (by unfold maxLen; omega)
      have HRo := Hd hro
      have HOb := Hd hob
      have HBf := Hd (HB4.out.trans (HB.out.mono HB4.out.size))
      clear hro hob hlt HRow hwl
      go_wp2_with fail
      exact bodyPost_ret (by simp [results, Tryz.results18, go_sem]) rfl (show WeightsPost w WV WE (.returned (.tuple #[.slice oa WV.length oc, .int .i64 0])) wr from ⟨oa, _, oc, by rw [HX.out.1], HRo.out, HBf.out, fun p e => ⟨Nat.le_trans HB4.out.size (HOb.out p e).1, (HOb.out p e).2.1, (HOb.out p e).2.2⟩⟩)
theorem own_full {α : Type} {E : α → List Value} {k n base : Nat} {e : TypeId} {w : World} {v : Value} {xs : List α} (h : w.ownsRow base e k v n (xs.flatMap E)) (hk : ∀ x, (E x).length = k) (hk0 : 0 < k) (hn : xs.length = n) (hm : n ≤ maxLen) :
 ∃ a cap, v = .slice a n cap ∧ n ≤ cap ∧ (a = none → cap = 0) ∧ Rd E k w a n xs ∧ ∀ p, a = some p → base ≤ p.block ∧ p.block < w.heap.size ∧ ∀ j, w.frozen? ⟨p.block, j, none⟩ = false := by
 obtain ⟨a, cap, rfl, hc, hr, hb⟩ := Rd.of_own h hk hk0 hn hm
 rcases h.2 with ⟨h1, _⟩ | ⟨g, c, cur, h1, _, hg, _⟩
 · injection h1 with h1 h2 h3
   exact ⟨a, cap, rfl, hc, fun _ => h3, hr, fun p e => by rw [h1] at e; cases e⟩
 · injection h1 with h1 h2 h3
   refine ⟨a, cap, rfl, hc, (fun e => by rw [h1] at e; cases e), hr, fun p e => ⟨(hb p e).1, (hb p e).2, fun j => ?_⟩⟩
   rw [h1] at e
   injection e with e
   subst e
   exact frz0 hg j
def Lives (w : World) (b o N : Nat) : Prop := (∀ j, w.frozen? ⟨b, j, none⟩ = false) ∧ ∀ j, j < N → ∃ u, w.cell? ⟨b, o + j, none⟩ = some u
theorem Lives.set {w : World} {b o N : Nat} (h : Lives w b o N) (p : Addr) (v : Value) : Lives (w.setCell p v) b o N := by
 refine ⟨fun j => by rw [World.frozen?_setCell]; exact h.1 j, fun j hj => ?_⟩
 obtain ⟨u, hu⟩ := h.2 j hj
 by_cases e : p = ⟨b, o + j, none⟩
 · subst e; exact ⟨v, World.cell?_setCell_same' _ _ _ (by rw [hu]; rfl)⟩
 · exact ⟨u, (World.cell?_setCell_other _ _ _ _ e).trans hu⟩
theorem lives_of {α : Type} {E : α → List Value} {k n : Nat} {w : World} {a : Option Addr} {xs : List α} (h : Rd E k w a n xs) (hk : ∀ x, (E x).length = k) (hk0 : 0 < k) (hz : ∀ p, a = some p → ∀ j, w.frozen? ⟨p.block, j, none⟩ = false) : ∀ b o, a = some ⟨b, o, none⟩ → Lives w b o (n * k) := by
 intro b o e
 refine ⟨fun j => hz _ e j, fun j hj => ?_⟩
 obtain ⟨b', o', x, e2, _, _, hc⟩ := h.read (j / k) ((Nat.div_lt_iff_lt_mul hk0).2 hj)
 rw [e] at e2
 cases e2
 have h1 := hc (j % k) (Nat.mod_lt _ hk0)
 have h2 := Nat.div_add_mod j k
 rw [Nat.mul_comm] at h2
 rw [show o + j / k * k + j % k = o + j by omega] at h1
 exact ⟨_, h1.trans (List.getElem?_eq_getElem (by rw [hk]; exact Nat.mod_lt _ hk0))⟩
theorem wpList_append_pas {P : Program} (w : World) {ops : Array Oper} {rest : List Oper} {o : Oper} {a : Act} {Q : Exit → Act → World → Prop} (hgd : o.guard = none) (s x : Operand) (t : TypeId)
 (ho : o.op = .call { callee := .builtin .append, args := #[s, x], argTypes := #[t, t] })
 (base : Nat) (e : TypeId) (i : TypeInfo) (z : Value) (bytes : Nat) (ht : P.underlying t = some (.slice e)) (hi : P.info? e = some i) (hz : i.zero = some z)
 (hsize : i.size = 14) (hby : i.bytes = bytes) (hzs : z.cells.size = 14) (v : Value) (hs : a.eval s = v) (hown : w.ownsRow base e 14 v 0 [])
 (ap : Option Addr) (m c : Nat) (ys : List Pa) (hx : a.eval x = .slice ap m c) (hrd : Rd Pa.vals 14 w ap m ys) (hn : ap = none → c = 0) (h63 : m ≤ 100000) (hb : bytes ≤ 1000) (hbase : base ≤ w.heap.size)
 (h : ∀ v' w', w'.ownsRow base e 14 v' m (ys.flatMap Pa.vals) → w.grownBy w' v.ownBlock → wpList P ops Q rest (a.put o.dst v') w') : wpList P ops Q (o :: rest) a w := by
 cases ap with
 | none =>
   obtain ⟨rfl, rfl⟩ := hrd.nil_of
   obtain rfl := hn rfl
   exact wpList_append_own_none hgd s x t ho base e i 14 ht hi v 0 [] hs hown hx (h v w hown ⟨rfl, rfl, rfl, Nat.le_refl _, fun _ _ _ => rfl⟩)
 | some ad =>
   refine wpList_append_own w hgd s x t ho base e i z 14 bytes ht hi hz hsize hby hzs (by decide) v 0 [] hs hown ad m c (ys.flatMap Pa.vals) hx (by rw [flat_length Pa.vals_length, hrd.len]) (Rd.news hrd Pa.vals_length) (pa_one _) (by unfold maxLen; omega)
    (Nat.le_trans (Nat.mul_le_mul (show 0 + m ≤ 100000 by omega) hb) (by decide)) hbase fun v' w' h1 h2 _ => h v' w' (by simpa using h1) h2
def AppOwn (w : World) (L : List Pa) (E : Int) (e : Ending) (w' : World) : Prop :=
 ∃ a n c, e = .returned (.tuple #[.slice a n c, .int .i64 E]) ∧ Rd Pa.vals 14 w' a n L ∧ Below w.heap.size w w' ∧ ∀ p, a = some p → w.heap.size ≤ p.block ∧ p.block < w'.heap.size ∧ ∀ j, w'.frozen? ⟨p.block, j, none⟩ = false
theorem app_own {w w' : World} {xs : List Pa} {x : Pa} {e : Ending} (h : AppendC w xs x e w') : AppOwn w (appR xs x) (appE xs x) e w' := by
 obtain ⟨hB, ⟨h1, rfl⟩ | ⟨h1, h2, rfl⟩ | ⟨h1, h2, v, rfl, ho⟩⟩ := h
 · refine ⟨none, 0, 0, by unfold appE; rw [if_neg h1], ?_, hB, fun p e => by cases e⟩
   unfold appR; rw [if_neg h1]; exact Rd.empty _ _
 · refine ⟨none, 0, 0, by unfold appE; rw [if_pos h1], ?_, hB, fun p e => by cases e⟩
   unfold appR; rw [if_pos h1, if_neg h2]; exact Rd.empty _ _
 · have hl := followsL_len h2
   obtain ⟨a, c, rfl, _, _, hr, hb⟩ := own_full ho Pa.vals_length (by decide) (by simp) (by unfold maxLen; omega)
   exact ⟨a, _, c, by unfold appE; rw [if_pos h1, h2], by unfold appR; rw [if_pos h1, if_pos h2]; exact hr, hB, hb⟩
theorem lineV_longM (l : List Pa) (known loss pack : Int) (upper : Bool) : (lineV l known loss pack upper).length ≤ l.length := by
 unfold lineV
 split
 · exact Nat.le_trans (leftL_len _ _) (by rw [idsA_eq]; exact idsA_len _ _)
 · exact Nat.zero_le _
set_option maxRecDepth 100000 in
set_option maxHeartbeats 16000000 in
theorem law_memory (a : Option Addr) (n cap : Nat) (xs : List Pa) (x : Pa) (known loss pack : Int) (w : World) (h : Rd Pa.vals 14 w a n xs) (hz : a = none → cap = 0) (hcap : n ≤ cap) (hw : Laid w) :
 Calls Tryz.prog 3 #[.slice a n cap, .agg #[.int .i64 x.id, .int .i64 x.known, .int .u8 x.kind, .int .i64 x.loss, .int .i64 x.pack, .int .i64 x.inn, .string ⟨x.mark.toArray⟩, .string ⟨x.goods.toArray⟩, .int .i64 x.low, .int .i64 x.high, .int .i64 x.pieces, .int .i64 x.owner, .int .i64 x.count, .int .i64 x.of], .int .i64 known, .int .i64 loss, .int .i64 pack] w fun e w' => e = .returned (.bool true) ∧ Below w.heap.size w w' := by
 have CA := Hd (show ∀ W, Below w.heap.size w W → Calls Tryz.prog 13 #[] W fun e w' => e = .returned (.bool true) ∧ Below W.heap.size W w' from fun W hB => alive_any W (hw.below hB))
 have hb := BoxG.made w x.vals 26
 have hB := al' (Below.refl w.heap.size w) (.cells x.vals.toArray 26)
 simp only [Pa.vals] at hb hB
 have HX0 := Hd hb
 have HB := Hd hB
 have HR0 := Hd h
 have Hlen := Hd h.len
 have Hz := Hd hz
 clear hb hB h hw hz
 go_enter Tryz.func3, Tryz.ntmps3
 go_upto_region 1 with (fail)
 generalize w.alloc (.cells #[.int .i64 x.id, .int .i64 x.known, .int .u8 x.kind, .int .i64 x.loss, .int .i64 x.pack, .int .i64 x.inn, .string ⟨x.mark.toArray⟩, .string ⟨x.goods.toArray⟩, .int .i64 x.low, .int .i64 x.high, .int .i64 x.pieces, .int .i64 x.owner, .int .i64 x.count, .int .i64 x.of] 26) = w1 at *
 have HX := Hd (show BoxG w1 w.heap.size x.vals from HX0.out)
 clear HX0
 obtain ⟨F1, hF1⟩ : ∃ b, fewB xs 30 = b := ⟨_, rfl⟩
 go_wp2_with fail
 refine (lfew_any a n cap xs _ (HR0.out.below' HB.out)).mono ?_
 rintro e w2 ⟨rfl, rfl⟩
 rw [hF1]
 cases F1 with
 | false =>
   clear hF1
   go_wp2_with fail
   refine (CA.out _ HB.out).mono ?_
   rintro e w3 ⟨rfl, hS⟩
   have HB' := Hd (below_on HB.out hS (Nat.le_refl _))
   clear hS
   go_wp2_with fail
   go_ret
   exact ⟨rfl, HB'.out⟩
 | true =>
 have HF1 := Hd (few_short hF1)
 clear hF1
 obtain ⟨c0, c1, c2, c3, c4, c5, c6, c7, c8, c9, c10, c11, c12, c13⟩ := HX.out.pa
 have HP := Hd (rd_pa w2 x 26)
 have hS := al' (Below.refl w2.heap.size w2) (.cells #[.int .i64 x.id, .int .i64 x.known, .int .u8 x.kind, .int .i64 x.loss, .int .i64 x.pack, .int .i64 x.inn, .string ⟨x.mark.toArray⟩, .string ⟨x.goods.toArray⟩, .int .i64 x.low, .int .i64 x.high, .int .i64 x.pieces, .int .i64 x.owner, .int .i64 x.count, .int .i64 x.of] 26)
 have HX' := Hd (HX.out.below' hS)
 have HB' := Hd (below_on HB.out hS (Nat.le_refl _))
 clear hS
 obtain ⟨F2, hF2⟩ : ∃ b, fewB [x] 1 = b := ⟨_, rfl⟩
 go_wp2_with fail
 generalize w2.alloc (.cells #[.int .i64 x.id, .int .i64 x.known, .int .u8 x.kind, .int .i64 x.loss, .int .i64 x.pack, .int .i64 x.inn, .string ⟨x.mark.toArray⟩, .string ⟨x.goods.toArray⟩, .int .i64 x.low, .int .i64 x.high, .int .i64 x.pieces, .int .i64 x.owner, .int .i64 x.count, .int .i64 x.of] 26) = w3 at *
 refine (rfew_any _ 1 1 [x] 1 _ HP.out).mono ?_
 rintro e w4 ⟨rfl, hw4⟩
 obtain rfl := hw4.symm
 clear hw4
 rw [hF2]
 clear HX HB HP c0 c1 c2 c3 c4 c5 c6 c7 c8 c9 c10 c11 c12 c13
 have HX := Hd HX'.out
 have HB := Hd HB'.out
 clear HX' HB'
 cases F2 with
 | false =>
   clear hF2
   go_wp2_with fail
   refine (CA.out _ HB.out).mono ?_
   rintro e w3 ⟨rfl, hS⟩
   have HB' := Hd (below_on HB.out hS (Nat.le_refl _))
   clear hS
   go_wp2_with fail
   go_ret
   exact ⟨rfl, HB'.out⟩
 | true =>
 have HS := Hd (show ∀ y ∈ xs, y.Short from fun y hy => by have := HF1.out.2 y hy; exact ⟨by omega, by omega⟩)
 have HSx := Hd (show x.Short from by have := (few_short hF2).2 x (by simp); exact ⟨by omega, by omega⟩)
 have hn : n ≤ 30 := by have h1 := HF1.out.1; rw [Hlen.out] at h1; omega
 clear hF2 HF1
 obtain ⟨i0, hi0, hz0, hz1, hz2⟩ := info_parts info_pa
 have HR3 := Hd (HR0.out.below' HB.out)
 go_upto_region 4 with (at_builtin; refine wpList_append_pas _ rfl _ _ 22 rfl w3.heap.size 26 i0 _ 128 Tryz.underlying22 hi0 hz0 hz1 hz2 rfl (.slice (some ⟨w3.heap.size, 0, none⟩) 0 0) rfl (ownsRow_made' w3 (Nat.le_refl _) rfl) a n cap xs rfl (HR3.out.below' ((Below.refl _ w3).alloc (Nat.le_refl _) _)) Hz.out (by omega) (by omega) (by simp) ?_; intro v5 w5 hown5 hgrow5)
 obtain ⟨wa, wc, rfl, hwc, hwz, hwr, _⟩ := own_full hown5 Pa.vals_length (by decide) Hlen.out (by unfold maxLen; omega)
 have hBf := ((Below.refl w3.heap.size w3).alloc (Nat.le_refl _) (.cells #[] 26)).grown hgrow5 (by simp) (fun k e => by simp [Value.ownBlock] at e; omega)
 have HW := Hd hwr
 have HWc := Hd (show n ≤ wc ∧ (wa = none → wc = 0) from ⟨hwc, hwz⟩)
 have HB5 := Hd (HB.out.trans (hBf.mono HB.out.size))
 have HX5 := Hd (HX.out.below' hBf)
 clear hown5 hgrow5 hwr hBf HB HX HR3 hwc hwz
 have C1 := Hd (fun W (hW : Below w.heap.size w W) => (append_any a n cap xs HS.out x HSx.out W (HR0.out.below' hW) hcap).mono (fun _ _ h => app_own h))
 have C2 := Hd (fun W (hW : Below w.heap.size w W) => weights_any a n cap xs HS.out known loss W (HR0.out.below' hW) hcap)
 have C3 := Hd (fun W (hW : Below w.heap.size w W) => lineage_any a n cap xs HS.out known loss pack true W (HR0.out.below' hW) hcap)
 have D1 := Hd (fun W (hW : Rd Pa.vals 14 W wa n xs) => (rappend_any wa n wc xs HS.out x HSx.out W hW (by omega) HWc.out.1 HWc.out.2).mono (fun _ _ h => app_own h))
 have D2 := Hd (fun W (hW : Rd Pa.vals 14 W wa n xs) => weights_r wa n wc xs HS.out known loss W hW HWc.out.1 (by omega))
 have D3 := Hd (fun W (hW : Rd Pa.vals 14 W wa n xs) => lineage_r wa n wc xs HS.out known loss pack true W hW HWc.out.1 (by omega))
 have HLl := Hd (show (lineV xs known loss pack true).length ≤ 1000 from by have h1 := lineV_longM xs known loss pack true; rw [Hlen.out] at h1; omega)
 unfold AppOwn at C1 D1
 unfold WeightsPost at C2 D2
 unfold LinePost at C3 D3
 obtain ⟨E1, hE1⟩ : ∃ P, appE xs x = P := ⟨_, rfl⟩
 obtain ⟨L1, hL1⟩ : ∃ P, appR xs x = P := ⟨_, rfl⟩
 obtain ⟨E2, hE2⟩ : ∃ P, weighE xs known loss true = P := ⟨_, rfl⟩
 obtain ⟨L2, hL2⟩ : ∃ P, weightsV xs known loss = P := ⟨_, rfl⟩
 obtain ⟨E3, hE3⟩ : ∃ P, weighE xs known loss (hasP xs known loss pack) = P := ⟨_, rfl⟩
 obtain ⟨L3, hL3⟩ : ∃ P, lineV xs known loss pack true = P := ⟨_, rfl⟩
 rw [hE1, hL1] at C1 D1
 rw [hE2, hL2] at C2 D2
 rw [hE3, hL3] at C3 D3
 rw [hL3] at HLl
 have q1 : (E1 == E1) = true := by simp
 have q2 : (E2 == E2) = true := by simp
 have q3 : (E3 == E3) = true := by simp
 clear hE1 hL1 hE2 hL2 hE3 hL3 HS HSx
 obtain ⟨c0, c1, c2, c3, c4, c5, c6, c7, c8, c9, c10, c11, c12, c13⟩ := HX5.out.pa
 go_upto_region 5 with (go_at_call 14; refine (C1.out _ HB5.out).mono ?_; rintro e w6 ⟨va, vn, vc, rfl, hr, hS, hf⟩)
 clear c0 c1 c2 c3 c4 c5 c6 c7 c8 c9 c10 c11 c12 c13
 have HV := Hd hr
 have HLv := Hd (lives_of hr Pa.vals_length (by decide) (fun p e => (hf p e).2.2))
 have HGe := Hd (show ∀ b o, va = some ⟨b, o, none⟩ → w5.heap.size ≤ b from fun b o e => (hf _ e).1)
 have HS := Hd hS
 clear hr hf hS
 go_upto_region 6 with (fail)
 go_loopw [54] (fun i wr => ∃ k : Nat, k ≤ vn ∧ i = .int .i64 k ∧ Below w5.heap.size w5 wr ∧ ∀ b o, va = some ⟨b, o, none⟩ → Lives wr b o (vn * 14)) (fun i _ => vn - (intOf i).toNat)
 case atStart => exact ⟨0, Nat.zero_le _, rfl, HS.out, HLv.out⟩
 case round =>
  obtain ⟨k, hk, rfl, hB, hL⟩ := hrel
  have HBr := Hd hB
  have HLr := Hd hL
  clear hB hL
  have hcap1 := HV.out.cap
  unfold maxLen at hcap1
  by_cases hlt : k < vn
  case pos =>
   have hlt' : (k : Int) < (vn : Int) := by omega
   obtain ⟨b, off, x0, hva, _⟩ := HV.out.read k hlt
   subst hva
   obtain ⟨hfz, hcl⟩ := HLr.out b off rfl
   have hc : ∀ j, j < 14 → ∃ u, wr.cell? ⟨b, off + k * 14 + j, none⟩ = some u := fun j hj => by have := hcl (k * 14 + j) (by omega); rw [← Nat.add_assoc] at this; exact this
   obtain ⟨u0, c0⟩ := hc 0 (by omega)
   obtain ⟨u1, c1⟩ := hc 1 (by omega)
   obtain ⟨u2, c2⟩ := hc 2 (by omega)
   obtain ⟨u3, c3⟩ := hc 3 (by omega)
   obtain ⟨u4, c4⟩ := hc 4 (by omega)
   obtain ⟨u5, c5⟩ := hc 5 (by omega)
   obtain ⟨u6, c6⟩ := hc 6 (by omega)
   obtain ⟨u7, c7⟩ := hc 7 (by omega)
   obtain ⟨u8, c8⟩ := hc 8 (by omega)
   obtain ⟨u9, c9⟩ := hc 9 (by omega)
   obtain ⟨u10, c10⟩ := hc 10 (by omega)
   obtain ⟨u11, c11⟩ := hc 11 (by omega)
   obtain ⟨u12, c12⟩ := hc 12 (by omega)
   obtain ⟨u13, c13⟩ := hc 13 (by omega)
   rw [Nat.add_zero] at c0
   clear hc
   have HG2 := Hd (HGe.out b off rfl)
   have HL2 := Hd (HLr.out b off rfl)
   clear hcl
   go_wp2_with fail
   refine ⟨⟨k + 1, by omega, by go_num, ?_, fun b2 o2 e2 => ?_⟩, by simp [intOf]; omega⟩
   · repeat (first | with_reducible exact HBr.out | refine Below.setCell ?_ HG2.out _)
   · cases e2
     repeat (first | with_reducible exact HL2.out | refine Lives.set ?_ _ _)
  have hltg : ¬ (k : Int) < (vn : Int) := by omega
  have HBn := Hd (HB5.out.trans (HBr.out.mono HB5.out.size))
  have HXn := Hd (HX5.out.below' HBr.out)
  have HWn := Hd (HW.out.below' HBr.out)
  clear HB5 HX5 HW hlt HV HLv HGe HS HLr HBr hcap1
  have HB5 := Hd HBn.out
  have HX5 := Hd HXn.out
  have HW := Hd HWn.out
  clear HBn HXn HWn
  obtain ⟨w7, rfl⟩ : ∃ w7 : World, w7 = wr := ⟨_, rfl⟩
  go_upto_region 11 with (go_at_call 15; refine (C2.out _ HB5.out).mono ?_; rintro e w6 ⟨va, vn, vc, rfl, hr, hS, hf⟩)
  have HV := Hd hr
  have HLv := Hd (lives_of hr Pa.vals_length (by decide) (fun p e => (hf p e).2.2))
  have HGe := Hd (show ∀ b o, va = some ⟨b, o, none⟩ → w7.heap.size ≤ b from fun b o e => (hf _ e).1)
  have HS := Hd hS
  clear hr hf hS
  go_upto_region 12 with (fail)
  go_loopw [71] (fun i wr => ∃ k : Nat, k ≤ vn ∧ i = .int .i64 k ∧ Below w7.heap.size w7 wr ∧ ∀ b o, va = some ⟨b, o, none⟩ → Lives wr b o (vn * 14)) (fun i _ => vn - (intOf i).toNat)
  case atStart => exact ⟨0, Nat.zero_le _, rfl, HS.out, HLv.out⟩
  case round =>
   obtain ⟨k, hk, rfl, hB, hL⟩ := hrel
   have HBr := Hd hB
   have HLr := Hd hL
   clear hB hL
   have hcap1 := HV.out.cap
   unfold maxLen at hcap1
   by_cases hlt : k < vn
   case pos =>
    have hlt' : (k : Int) < (vn : Int) := by omega
    obtain ⟨b, off, x0, hva, _⟩ := HV.out.read k hlt
    subst hva
    obtain ⟨hfz, hcl⟩ := HLr.out b off rfl
    have hc : ∀ j, j < 14 → ∃ u, wr.cell? ⟨b, off + k * 14 + j, none⟩ = some u := fun j hj => by have := hcl (k * 14 + j) (by omega); rw [← Nat.add_assoc] at this; exact this
    obtain ⟨u0, c0⟩ := hc 0 (by omega)
    obtain ⟨u1, c1⟩ := hc 1 (by omega)
    obtain ⟨u2, c2⟩ := hc 2 (by omega)
    obtain ⟨u3, c3⟩ := hc 3 (by omega)
    obtain ⟨u4, c4⟩ := hc 4 (by omega)
    obtain ⟨u5, c5⟩ := hc 5 (by omega)
    obtain ⟨u6, c6⟩ := hc 6 (by omega)
    obtain ⟨u7, c7⟩ := hc 7 (by omega)
    obtain ⟨u8, c8⟩ := hc 8 (by omega)
    obtain ⟨u9, c9⟩ := hc 9 (by omega)
    obtain ⟨u10, c10⟩ := hc 10 (by omega)
    obtain ⟨u11, c11⟩ := hc 11 (by omega)
    obtain ⟨u12, c12⟩ := hc 12 (by omega)
    obtain ⟨u13, c13⟩ := hc 13 (by omega)
    rw [Nat.add_zero] at c0
    clear hc
    have HG2 := Hd (HGe.out b off rfl)
    have HL2 := Hd (HLr.out b off rfl)
    clear hcl
    go_wp2_with fail
    refine ⟨⟨k + 1, by omega, by go_num, ?_, fun b2 o2 e2 => ?_⟩, by simp [intOf]; omega⟩
    · repeat (first | with_reducible exact HBr.out | refine Below.setCell ?_ HG2.out _)
    · cases e2
      repeat (first | with_reducible exact HL2.out | refine Lives.set ?_ _ _)
   have hltg : ¬ (k : Int) < (vn : Int) := by omega
   have HBn := Hd (HB5.out.trans (HBr.out.mono HB5.out.size))
   have HXn := Hd (HX5.out.below' HBr.out)
   have HWn := Hd (HW.out.below' HBr.out)
   clear HB5 HX5 HW hlt HV HLv HGe HS HLr HBr hcap1
   have HB5 := Hd HBn.out
   have HX5 := Hd HXn.out
   have HW := Hd HWn.out
   clear HBn HXn HWn
   obtain ⟨w8, rfl⟩ : ∃ w8 : World, w8 = wr := ⟨_, rfl⟩
   go_upto_region 17 with (go_at_call 16; refine (C3.out _ HB5.out).mono ?_; rintro e w6 ⟨v6, rfl, ho, hS⟩)
   obtain ⟨va, vc, rfl, _, _, hr, hf⟩ := own_full ho ints_length (by decide) rfl (by have := HLl.out; unfold maxLen; omega)
   obtain ⟨vn, hvn⟩ : ∃ m, L3.length = m := ⟨_, rfl⟩
   rw [hvn] at hr ⊢
   clear ho hvn
   have HV := Hd hr
   have HLv := Hd (lives_of hr ints_length (by decide) (fun p e => (hf p e).2.2))
   have HGe := Hd (show ∀ b o, va = some ⟨b, o, none⟩ → w8.heap.size ≤ b from fun b o e => (hf _ e).1)
   have HS := Hd hS
   clear hr hf hS
   go_upto_region 18 with (fail)
   go_loopw [89] (fun i wr => ∃ k : Nat, k ≤ vn ∧ i = .int .i64 k ∧ Below w8.heap.size w8 wr ∧ ∀ b o, va = some ⟨b, o, none⟩ → Lives wr b o (vn * 1)) (fun i _ => vn - (intOf i).toNat)
   case atStart => exact ⟨0, Nat.zero_le _, rfl, HS.out, HLv.out⟩
   case round =>
    obtain ⟨k, hk, rfl, hB, hL⟩ := hrel
    have HBr := Hd hB
    have HLr := Hd hL
    clear hB hL
    have hcap1 := HV.out.cap
    unfold maxLen at hcap1
    by_cases hlt : k < vn
    case pos =>
     have hlt' : (k : Int) < (vn : Int) := by omega
     obtain ⟨b, off, x0, hva, _⟩ := HV.out.read k hlt
     subst hva
     obtain ⟨hfz, hcl⟩ := HLr.out b off rfl
     obtain ⟨u0, c0⟩ := hcl k (by omega)
     have HG2 := Hd (HGe.out b off rfl)
     have HL2 := Hd (HLr.out b off rfl)
     clear hcl
     go_wp2_with fail
     refine ⟨⟨k + 1, by omega, by go_num, ?_, fun b2 o2 e2 => ?_⟩, by simp [intOf]; omega⟩
     · repeat (first | with_reducible exact HBr.out | refine Below.setCell ?_ HG2.out _)
     · cases e2
       repeat (first | with_reducible exact HL2.out | refine Lives.set ?_ _ _)
    have hltg : ¬ (k : Int) < (vn : Int) := by omega
    have HBn := Hd (HB5.out.trans (HBr.out.mono HB5.out.size))
    have HXn := Hd (HX5.out.below' HBr.out)
    have HWn := Hd (HW.out.below' HBr.out)
    clear HB5 HX5 HW hlt HV HLv HGe HS HLr HBr hcap1
    have HB5 := Hd HBn.out
    have HX5 := Hd HXn.out
    have HW := Hd HWn.out
    clear HBn HXn HWn
    obtain ⟨w8b, rfl⟩ : ∃ w8b : World, w8b = wr := ⟨_, rfl⟩
    obtain ⟨c0, c1, c2, c3, c4, c5, c6, c7, c8, c9, c10, c11, c12, c13⟩ := HX5.out.pa
    go_upto_region 23 with (go_at_call 14; refine (C1.out _ HB5.out).mono ?_; rintro e w9 ⟨pa, pn, pc, rfl, hr, hS, _⟩)
    clear c0 c1 c2 c3 c4 c5 c6 c7 c8 c9 c10 c11 c12 c13
    have HBn := Hd (HB5.out.trans (hS.mono HB5.out.size))
    have HXn := Hd (HX5.out.below' hS)
    have HWn := Hd (HW.out.below' hS)
    have Np := Hd hr
    clear HB5 HX5 HW hr hS
    have HB5 := Hd HBn.out
    have HX5 := Hd HXn.out
    have HW := Hd HWn.out
    have Hp := Hd Np.out
    clear HBn HXn HWn Np
    obtain ⟨c0, c1, c2, c3, c4, c5, c6, c7, c8, c9, c10, c11, c12, c13⟩ := HX5.out.pa
    go_upto_region 24 with (go_at_call 17; refine (D1.out _ HW.out).mono ?_; rintro e w9 ⟨qa, qn, qc, rfl, hr, hS, _⟩)
    clear c0 c1 c2 c3 c4 c5 c6 c7 c8 c9 c10 c11 c12 c13
    have HBn := Hd (HB5.out.trans (hS.mono HB5.out.size))
    have HXn := Hd (HX5.out.below' hS)
    have HWn := Hd (HW.out.below' hS)
    have Np := Hd (Hp.out.below' hS)
    have Nq := Hd hr
    clear HB5 HX5 HW hr hS Hp
    have HB5 := Hd HBn.out
    have HX5 := Hd HXn.out
    have HW := Hd HWn.out
    have Hp := Hd Np.out
    have Hq := Hd Nq.out
    clear HBn HXn HWn Np Nq
    go_upto_region 25 with (go_at_call 15; refine (C2.out _ HB5.out).mono ?_; rintro e w9 ⟨ra, rn, rc, rfl, hr, hS, _⟩)
    have HBn := Hd (HB5.out.trans (hS.mono HB5.out.size))
    have HXn := Hd (HX5.out.below' hS)
    have HWn := Hd (HW.out.below' hS)
    have Np := Hd (Hp.out.below' hS)
    have Nq := Hd (Hq.out.below' hS)
    have Nr := Hd hr
    clear HB5 HX5 HW hr hS Hp Hq
    have HB5 := Hd HBn.out
    have HX5 := Hd HXn.out
    have HW := Hd HWn.out
    have Hp := Hd Np.out
    have Hq := Hd Nq.out
    have Hr := Hd Nr.out
    clear HBn HXn HWn Np Nq Nr
    go_upto_region 26 with (go_at_call 18; refine (D2.out _ HW.out).mono ?_; rintro e w9 ⟨sa, sn, sc, rfl, hr, hS, _⟩)
    have HBn := Hd (HB5.out.trans (hS.mono HB5.out.size))
    have HXn := Hd (HX5.out.below' hS)
    have HWn := Hd (HW.out.below' hS)
    have Np := Hd (Hp.out.below' hS)
    have Nq := Hd (Hq.out.below' hS)
    have Nr := Hd (Hr.out.below' hS)
    have Ns := Hd hr
    clear HB5 HX5 HW hr hS Hp Hq Hr
    have HB5 := Hd HBn.out
    have HX5 := Hd HXn.out
    have HW := Hd HWn.out
    have Hp := Hd Np.out
    have Hq := Hd Nq.out
    have Hr := Hd Nr.out
    have Hs := Hd Ns.out
    clear HBn HXn HWn Np Nq Nr Ns
    go_upto_region 27 with (go_at_call 16; refine (C3.out _ HB5.out).mono ?_; rintro e w9 ⟨v9, rfl, ho, hS⟩)
    obtain ⟨ta, tn, tc, rfl, hr⟩ := rd_own ho HLl.out
    clear ho
    have HBn := Hd (HB5.out.trans (hS.mono HB5.out.size))
    have HXn := Hd (HX5.out.below' hS)
    have HWn := Hd (HW.out.below' hS)
    have Np := Hd (Hp.out.below' hS)
    have Nq := Hd (Hq.out.below' hS)
    have Nr := Hd (Hr.out.below' hS)
    have Ns := Hd (Hs.out.below' hS)
    have Nt := Hd hr
    clear HB5 HX5 HW hr hS Hp Hq Hr Hs
    have HB5 := Hd HBn.out
    have HX5 := Hd HXn.out
    have HW := Hd HWn.out
    have Hp := Hd Np.out
    have Hq := Hd Nq.out
    have Hr := Hd Nr.out
    have Hs := Hd Ns.out
    have Ht := Hd Nt.out
    clear HBn HXn HWn Np Nq Nr Ns Nt
    go_upto_region 28 with (go_at_call 19; refine (D3.out _ HW.out).mono ?_; rintro e w9 ⟨v9, rfl, ho, hS⟩)
    obtain ⟨ya, yn, yc, rfl, hr⟩ := rd_own ho HLl.out
    clear ho
    have HBn := Hd (HB5.out.trans (hS.mono HB5.out.size))
    have HXn := Hd (HX5.out.below' hS)
    have HWn := Hd (HW.out.below' hS)
    have Np := Hd (Hp.out.below' hS)
    have Nq := Hd (Hq.out.below' hS)
    have Nr := Hd (Hr.out.below' hS)
    have Ns := Hd (Hs.out.below' hS)
    have Nt := Hd (Ht.out.below' hS)
    have Ny := Hd hr
    clear HB5 HX5 HW hr hS Hp Hq Hr Hs Ht
    have HB5 := Hd HBn.out
    have HX5 := Hd HXn.out
    have HW := Hd HWn.out
    have Hp := Hd Np.out
    have Hq := Hd Nq.out
    have Hr := Hd Nr.out
    have Hs := Hd Ns.out
    have Ht := Hd Nt.out
    have Hy := Hd Ny.out
    clear HBn HXn HWn Np Nq Nr Ns Nt Ny
    have HRl := Hd (HR0.out.below' HB5.out)
    have CQ := Hd (show ∀ a1 n1 c1 a2 n2 c2 (L : List Pa) W, Rd Pa.vals 14 W a1 n1 L → Rd Pa.vals 14 W a2 n2 L → Calls Tryz.prog 20 #[.slice a1 n1 c1, .slice a2 n2 c2] W fun e w' => e = .returned (.bool true) ∧ Below W.heap.size W w' from fun a1 n1 c1 a2 n2 c2 L W h1 h2 => by
     have := rsame_any a1 a2 n1 n2 c1 c2 L L W h1 h2
     rw [decide_eq_true rfl] at this
     exact this)
    clear HX5
    go_wp2_with fail
    refine (CA.out _ HB5.out).mono ?_
    rintro e w9 ⟨rfl, hS⟩
    have HBn := Hd (HB5.out.trans (hS.mono HB5.out.size))
    have NHp := Hd (Hp.out.below' hS)
    have NHq := Hd (Hq.out.below' hS)
    have NHr := Hd (Hr.out.below' hS)
    have NHs := Hd (Hs.out.below' hS)
    have NHt := Hd (Ht.out.below' hS)
    have NHy := Hd (Hy.out.below' hS)
    have NHRl := Hd (HRl.out.below' hS)
    have NHW := Hd (HW.out.below' hS)
    clear HB5 hS Hp Hq Hr Hs Ht Hy HRl HW
    have HB5 := Hd HBn.out
    have Hp := Hd NHp.out
    have Hq := Hd NHq.out
    have Hr := Hd NHr.out
    have Hs := Hd NHs.out
    have Ht := Hd NHt.out
    have Hy := Hd NHy.out
    have HRl := Hd NHRl.out
    have HW := Hd NHW.out
    clear HBn NHp NHq NHr NHs NHt NHy NHRl NHW
    go_wp2_with fail
    refine (CQ.out pa pn pc qa qn qc L1 _ Hp.out Hq.out).mono ?_
    rintro e w9 ⟨rfl, hS⟩
    have HBn := Hd (HB5.out.trans (hS.mono HB5.out.size))
    have NHr := Hd (Hr.out.below' hS)
    have NHs := Hd (Hs.out.below' hS)
    have NHt := Hd (Ht.out.below' hS)
    have NHy := Hd (Hy.out.below' hS)
    have NHRl := Hd (HRl.out.below' hS)
    have NHW := Hd (HW.out.below' hS)
    clear HB5 hS Hr Hs Ht Hy HRl HW
    have HB5 := Hd HBn.out
    have Hr := Hd NHr.out
    have Hs := Hd NHs.out
    have Ht := Hd NHt.out
    have Hy := Hd NHy.out
    have HRl := Hd NHRl.out
    have HW := Hd NHW.out
    clear HBn NHr NHs NHt NHy NHRl NHW
    go_wp2_with fail
    refine (CQ.out ra rn rc sa sn sc L2 _ Hr.out Hs.out).mono ?_
    rintro e w9 ⟨rfl, hS⟩
    have HBn := Hd (HB5.out.trans (hS.mono HB5.out.size))
    have NHt := Hd (Ht.out.below' hS)
    have NHy := Hd (Hy.out.below' hS)
    have NHRl := Hd (HRl.out.below' hS)
    have NHW := Hd (HW.out.below' hS)
    clear HB5 hS Ht Hy HRl HW
    have HB5 := Hd HBn.out
    have Ht := Hd NHt.out
    have Hy := Hd NHy.out
    have HRl := Hd NHRl.out
    have HW := Hd NHW.out
    clear HBn NHt NHy NHRl NHW
    have CE := Hd (equalI_any ta ya tn tc yn yc L3 L3 _ Ht.out Hy.out)
    rw [decide_eq_true rfl] at CE
    go_wp2_with fail
    refine (CE.out).mono ?_
    rintro e w9 ⟨rfl, hS⟩
    have HBn := Hd (HB5.out.trans (hS.mono HB5.out.size))
    have NHRl := Hd (HRl.out.below' hS)
    have NHW := Hd (HW.out.below' hS)
    clear HB5 hS HRl HW
    have HB5 := Hd HBn.out
    have HRl := Hd NHRl.out
    have HW := Hd NHW.out
    clear HBn NHRl NHW
    go_wp2_with fail
    refine (CQ.out a n cap wa n wc xs _ HRl.out HW.out).mono ?_
    rintro e w9 ⟨rfl, hS⟩
    have HBn := Hd (HB5.out.trans (hS.mono HB5.out.size))
    clear HB5 hS
    have HB5 := Hd HBn.out
    clear HBn
    go_wp2_with fail
    go_ret
    exact ⟨rfl, HB5.out⟩
end Go.Proofs.YtleiapljnjaloaaGreatDoor
