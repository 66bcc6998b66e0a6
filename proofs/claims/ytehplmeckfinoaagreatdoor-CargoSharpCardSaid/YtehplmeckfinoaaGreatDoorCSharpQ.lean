/- No completion goes beyond the ends: the plain law (no dump). -/
import Derived.Test.YtehplmeckfinoaaGreatDoorCCompl
import Derived.Test.YtehplmeckfinoaaGreatDoorCEndsS
set_option linter.unusedSimpArgs false
set_option linter.unusedVariables false
namespace Go.Proofs.YtehplmeckfinoaaGreatDoor
mutual
theorem low_T (G : Int → Int) : ∀ (t : Tr) (w : Int), Rn t → holdsT G t w = true → t.f.ownL ≤ w → t.f.low ≤ w
 | .node b f ks, w, h, hh, h1 => by
   cases h with
   | node h0 hn hl ho hk =>
     unfold holdsT at hh
     simp only [Bool.and_eq_true, decide_eq_true_eq] at hh
     obtain ⟨g1, g2, g3⟩ := hh
     have g4 := low_L G ks hk g1
     simp only [f_node] at h1 ⊢
     omega
theorem low_L (G : Int → Int) : ∀ (ks : List Tr), (∀ k ∈ ks, Rn k) → holdsL G ks = true → sumLow ks ≤ givenL G ks ∧ givenL G ks ≤ sumOwn ks
 | [], _, _ => by simp [sumLow, sumOwn, givenL]
 | k :: r, h, hh => by
   unfold holdsL at hh
   simp only [Bool.and_eq_true, decide_eq_true_eq] at hh
   obtain ⟨⟨g1, g2⟩, g3⟩ := hh
   have g4 := low_T G k _ (h k (by simp)) g2 g1.1
   have g5 := low_L G r (fun x hx => h x (List.mem_cons_of_mem _ hx)) g3
   simp only [sumLow_cons, sumOwn_cons, givenL]
   omega
end
mutual
theorem sound_T (G : Int → Int) : ∀ (t : Tr) (lo hi w : Int), Rn t → holdsT G t w = true → w ≤ hi → ∀ k ∈ (sinkT lo hi t).pre, k.f.endL ≤ G k.f.pack ∧ G k.f.pack ≤ k.f.endH
 | .node b f ks, lo, hi, w, h, hh, h1, k, hk2 => by
   cases h with
   | node h0 hn hl ho hk =>
     unfold holdsT at hh
     simp only [Bool.and_eq_true, decide_eq_true_eq] at hh
     obtain ⟨g1, g2, g3⟩ := hh
     simp only [sinkT, Tr.pre] at hk2
     exact sound_L G ks _ _ _ _ hk g1 (by omega) (by omega) k hk2
theorem sound_L (G : Int → Int) : ∀ (ks : List Tr) (top sl low high : Int), (∀ k ∈ ks, Rn k) → holdsL G ks = true → givenL G ks - sumLow ks ≤ top - low → sumOwn ks - givenL G ks ≤ high - sl → ∀ k ∈ preL (sinkL top sl low high ks), k.f.endL ≤ G k.f.pack ∧ G k.f.pack ≤ k.f.endH
 | [], _, _, _, _, _, _, _, _, k, hk => by simp [sinkL, preL] at hk
 | x :: r, top, sl, low, high, h, hh, h1, h2, k, hk => by
   unfold holdsL at hh
   simp only [Bool.and_eq_true, decide_eq_true_eq] at hh
   obtain ⟨⟨g1, g2⟩, g3⟩ := hh
   have g4 := low_T G x _ (h x (by simp)) g2 g1.1
   have g5 := low_L G r (fun x hx => h x (List.mem_cons_of_mem _ hx)) g3
   simp only [sumLow_cons, sumOwn_cons, givenL] at h1 h2
   simp only [sinkL, preL, List.mem_cons, List.mem_append] at hk
   rcases hk with rfl | hk | hk
   · obtain ⟨_, _, _, e4, e5, e6⟩ := sinkT_low (max x.f.low (sl - (high - x.f.ownH))) (min x.f.ownH (top - (low - x.f.low))) x
     rw [e4, e5, e6]; omega
   · exact sound_T G x _ _ (G x.f.pack) (h x (by simp)) g2 (by omega) k hk
   · exact sound_L G r top sl low high (fun y hy => h y (List.mem_cons_of_mem _ hy)) g3 (by omega) (by omega) k hk
end
theorem comp_len {xs : List Pa} {known loss : Int} {cs : List (Int × Int)} (h : compB xs known loss cs = true) : cs.length = (papersL xs known loss).length := by
 unfold compB at h
 simp only [Bool.and_eq_true, decide_eq_true_eq] at h
 have := congrArg List.length h.2.1
 simpa using this
theorem sharp_bad {xs : List Pa} {known loss : Int} (cs : List (Int × Int)) (h : ¬ weighE xs known loss true = 0) : compB xs known loss cs = false ∧ (rootE xs known loss true = weighE xs known loss true ∨ (weighE xs known loss true = 10 ∧ rootE xs known loss true = 0)) := by
 by_cases hr : rootE xs known loss true = 0
 case neg => exact ⟨by unfold compB; rw [decide_eq_false hr, Bool.false_and], .inl (weighE_bad hr).symm⟩
 have hw := weighE_ok hr
 have h10 : weighE xs known loss true = 10 := by
  rw [hw] at h ⊢
  split
  · rename_i h2; rw [if_pos h2] at h; exact absurd rfl h
  · rfl
 refine ⟨?_, .inr ⟨h10, hr⟩⟩
 cases e : compB xs known loss cs with
 | false => rfl
 | true =>
   exfalso
   unfold compB at e
   simp only [Bool.and_eq_true, decide_eq_true_eq] at e
   obtain ⟨_, _, hh⟩ := e
   obtain ⟨h0, _, t, ht⟩ := rootE_zero hr
   rw [ht] at hh
   simp only at hh
   have hmo := mani_ok (check_good (open_check h0)).1 known loss
   have ht' : treeT (papersL xs known loss) (totalsL xs known loss) (fun _ => true) = some t := ht
   obtain ⟨_, _, ho1, ho2⟩ := tree_grown ht'
   have hbd := tree_bd hmo _ ht'
   have hfb := hbd.fb
   unfold FB at hfb
   obtain ⟨t', h1, _⟩ := holds_rise _ t _ (by omega) (by omega) (by omega) (fun k hk => by have := (bd_pre t hbd k hk).fb; unfold FB at this; omega) hh
   have hss : ((rootT xs known loss).bind solveT).isSome = true := by rw [ht, Option.bind_some, solve_yes h1]; rfl
   rw [if_pos hss] at hw
   exact h hw
theorem sharp_at {xs : List Pa} {known loss : Int} (h : weighE xs known loss true = 0) {i : Nat} {x : Pa} (hx : (papersL xs known loss)[i]? = some x) :
 ((weighP xs known loss x.pack).1 ≤ (weighP xs known loss x.pack).2 ∧ 0 ≤ (weighP xs known loss x.pack).1 ∧ (weighP xs known loss x.pack).2 ≤ 1099511627776) ∧ hasP xs known loss x.pack = true ∧
   ∀ cs, compB xs known loss cs = true → ∃ c, cs[i]? = some c ∧ c.1 = x.pack ∧ (weighP xs known loss x.pack).1 ≤ c.2 ∧ c.2 ≤ (weighP xs known loss x.pack).2 := by
 have hr0 := weigh_root h
 obtain ⟨ho, _⟩ := root_open hr0
 have hmo := mani_ok (check_good (open_check ho)).1 known loss
 have hxm := List.mem_of_getElem? hx
 have hh : hasP xs known loss x.pack = true := by unfold hasP; rw [hmo.packs.find hxm]; rfl
 have hsome : ((rootT xs known loss).bind solveT).isSome = true := by
  rw [weighE_ok hr0] at h
  cases e : ((rootT xs known loss).bind solveT).isSome with
  | true => rfl
  | false => rw [e] at h; simp at h
 obtain ⟨s, hs⟩ := Option.isSome_iff_exists.1 hsome
 obtain ⟨t0, e0, e1⟩ := Option.bind_eq_some_iff.1 hs
 have e0' : treeT (papersL xs known loss) (totalsL xs known loss) (fun _ => true) = some t0 := e0
 have hm := weigh_find ho hh hs
 obtain ⟨k, hk, hkm, hkp⟩ := find_of_pack hm
 have hwp : weighP xs known loss x.pack = (k.f.endL, k.f.endH) := by
  unfold weighP
  rw [hs]
  simp only [hk, nodeF]
 rw [hwp]
 simp only
 have hbd := tree_bd hmo _ e0'
 obtain ⟨_, hups⟩ := solve_up hbd e1
 have hf := solve_fine hbd e1 k hkm
 have hu := hups k hkm
 refine ⟨⟨hf.1, by omega, by omega⟩, hh, fun cs hc => ?_⟩
 have hlen := comp_len hc
 unfold compB at hc
 simp only [Bool.and_eq_true, decide_eq_true_eq] at hc
 obtain ⟨_, hA, hc2⟩ := hc
 rw [e0] at hc2
 simp only at hc2
 obtain ⟨_, _, ho1, ho2⟩ := tree_grown e0'
 have hall : ∀ q ∈ t0 :: t0.pre, 0 ≤ q.f.missing ∧ q.f.ownL ≤ q.f.ownH := by
  intro q hq
  have hb : Bd q := by
   rcases List.mem_cons.1 hq with rfl | hq
   · exact hbd
   · exact bd_pre _ hbd q hq
  have h2 := hb.fb
  unfold FB at h2
  omega
 obtain ⟨r, er⟩ : ∃ r, riseT t0 = some r := by
  cases e : riseT t0 with
  | none => rw [solve_no e] at e1; cases e1
  | some r => exact ⟨r, rfl⟩
 have es : sinkT r.f.ownL r.f.ownH r = s := by rw [solve_yes er] at e1; exact Option.some.inj e1
 obtain ⟨hrn, _⟩ := rise_rn t0 r hall er
 obtain ⟨hu1, _, _, hu4⟩ := holds_up (givM (compM cs)) t0 r 1099511627776 er
 rw [← hu1] at hc2
 have hsd := sound_T _ r r.f.ownL r.f.ownH 1099511627776 hrn hc2 (by rw [hu4, ho2]; exact Int.le_refl _) k (by rw [es]; exact hkm)
 rw [hkp] at hsd
 have hi := (List.getElem?_eq_some_iff.1 hx).1
 obtain ⟨c, hcc⟩ : ∃ c, cs[i]? = some c := ⟨_, List.getElem?_eq_getElem (by rw [hlen]; exact hi)⟩
 have h2 : (cs.map (·.1))[i]? = ((papersL xs known loss).map (·.pack))[i]? := by rw [hA]
 rw [List.getElem?_map, List.getElem?_map, hx, hcc] at h2
 have h3 : c.1 = x.pack := Option.some.inj h2
 refine ⟨c, hcc, h3, ?_⟩
 have hg := giv_of (cs := cs) (by rw [hA]; exact hmo.packs.nodup) c (List.mem_of_getElem? hcc)
 rw [h3] at hg
 rw [hg] at hsd
 exact hsd
end Go.Proofs.YtehplmeckfinoaaGreatDoor
