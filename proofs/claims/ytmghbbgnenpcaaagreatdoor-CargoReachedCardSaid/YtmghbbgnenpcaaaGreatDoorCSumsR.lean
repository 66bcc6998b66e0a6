/- The plain law of the ends: what is in a package weighs, by its low ends, at most the package's low end (no dump). -/
import Derived.Test.YtmghbbgnenpcaaaGreatDoorCModel
import Derived.Test.YtmghbbgnenpcaaaGreatDoorCTreesP
import Derived.Test.YtmghbbgnenpcaaaGreatDoorCTreeE
set_option linter.unusedSimpArgs false
set_option linter.unusedVariables false
namespace Go.Proofs.YtmghbbgnenpcaaaGreatDoor

def sumEnd (ks : List Tr) : Int := (ks.map (fun k => k.f.endL)).sum
theorem sumEnd_nil : sumEnd [] = 0 := rfl
theorem sumEnd_cons (k : Tr) (r : List Tr) : sumEnd (k :: r) = k.f.endL + sumEnd r := by simp [sumEnd]
def Fine (t : Tr) : Prop := t.f.endL ≤ t.f.endH ∧ t.f.missing + sumEnd t.ks ≤ t.f.endL
theorem sinkT_ends (lo hi : Int) : ∀ t : Tr, (sinkT lo hi t).f.endL = lo ∧ (sinkT lo hi t).f.endH = hi
  | .node b f ks => by unfold sinkT; exact ⟨rfl, rfl⟩
theorem gap_le : ∀ {ks : List Tr}, (∀ k ∈ ks, Up k) → (0 ≤ sumOwn ks - sumLow ks) ∧ ∀ k ∈ ks, k.f.ownH - k.f.low ≤ sumOwn ks - sumLow ks
  | [], _ => ⟨by simp only [sumOwn_nil, sumLow_nil]; omega, by simp⟩
  | x :: r, h => by
    have h1 := gap_le (ks := r) (fun y hy => h y (List.mem_cons_of_mem _ hy))
    have h2 := (h x (by simp)).low
    simp only [sumOwn_cons, sumLow_cons]
    refine ⟨by omega, fun k hk => ?_⟩
    rcases List.mem_cons.1 hk with rfl | hk
    · omega
    · have := h1.2 k hk; omega
theorem mx (a b : Int) : a ≤ max a b ∧ b ≤ max a b ∧ (max a b = a ∨ max a b = b) := by omega
theorem sinkL_sum (top sl low high : Int) (hc : sl ≤ high) : ∀ (ks : List Tr), (∀ k ∈ ks, Up k) → sumEnd (sinkL top sl low high ks) ≤ max (sumLow ks) (sl - high + sumOwn ks)
  | [], _ => by simp only [sinkL, sumEnd_nil, sumLow_nil, sumOwn_nil]; omega
  | k :: r, h => by
    have h1 := sinkL_sum top sl low high hc r (fun x hx => h x (List.mem_cons_of_mem _ hx))
    have h2 := (h k (by simp)).low
    have h3 := (gap_le (ks := r) (fun x hx => h x (List.mem_cons_of_mem _ hx))).1
    simp only [sinkL, sumEnd_cons, sumLow_cons, sumOwn_cons, (sinkT_ends _ _ k).1]
    have e1 := mx (sumLow r) (sl - high + sumOwn r)
    have e2 := mx k.f.low (sl - (high - k.f.ownH))
    have e3 := mx (k.f.low + sumLow r) (sl - high + (k.f.ownH + sumOwn r))
    generalize max (sumLow r) (sl - high + sumOwn r) = m1 at *
    generalize max k.f.low (sl - (high - k.f.ownH)) = m2 at *
    generalize max (k.f.low + sumLow r) (sl - high + (k.f.ownH + sumOwn r)) = m3 at *
    omega
mutual
theorem sinkT_fine : ∀ (t : Tr) (lo hi : Int), Up t → Bd t → t.f.low ≤ hi → (∀ k ∈ (sinkT lo hi t).pre, Fine k) ∧ (t.f.low ≤ lo → lo ≤ hi → Fine (sinkT lo hi t))
  | .node b f ks, lo, hi, hu, hb, hl => by
    have hk : ∀ k ∈ ks, Up k := hu.kids
    have hbk : ∀ k ∈ ks, Bd k := hb.kids
    have hf : FB f := hb.fb
    have hg := gap_le hk
    cases hu with
    | node h1 h2 h3 h4 h5 h6 h7 _ =>
      have hl' : f.low ≤ hi := hl
      clear hl
      have hm := hf.1.1
      have hs := sinkL_sum (min f.sumH hi) f.sumL (f.missing + sumLow ks) (f.missing * 100000 + sumOwn ks) h6 ks hk
      refine ⟨?_, fun h8 h9 => ⟨?_, ?_⟩⟩
      · unfold sinkT
        simp only [Tr.pre]
        exact sinkL_fine ks _ _ _ _ hk hbk (by omega) h6 (by omega) (fun k hk' => by have := hg.2 k hk'; omega)
      · unfold sinkT; exact h9
      · unfold sinkT
        simp only [Tr.f, Tr.ks] at h8 ⊢
        omega
theorem sinkL_fine : ∀ (ks : List Tr) (top sl low high : Int), (∀ k ∈ ks, Up k) → (∀ k ∈ ks, Bd k) → low ≤ top → sl ≤ high → sl ≤ top → (∀ k ∈ ks, k.f.ownH - k.f.low ≤ high - low) → ∀ k ∈ preL (sinkL top sl low high ks), Fine k
  | [], _, _, _, _, _, _, _, _, _, _, k, hk => by simp [sinkL, preL] at hk
  | x :: r, top, sl, low, high, hu, hb, h1, h2, h3, h4, k, hk => by
    have hx := (hu x (by simp)).low
    have hg := h4 x (by simp)
    have ht := sinkT_fine x (max x.f.low (sl - (high - x.f.ownH))) (min x.f.ownH (top - (low - x.f.low))) (hu x (by simp)) (hb x (by simp)) (by omega)
    simp only [sinkL, preL, List.mem_cons, List.mem_append] at hk
    rcases hk with rfl | hk | hk
    · exact ht.2 (by omega) (by omega)
    · exact ht.1 k hk
    · exact sinkL_fine r top sl low high (fun y hy => hu y (List.mem_cons_of_mem _ hy)) (fun y hy => hb y (List.mem_cons_of_mem _ hy)) h1 h2 h3 (fun y hy => h4 y (List.mem_cons_of_mem _ hy)) k hk
end
theorem solve_fine {t t' : Tr} (hb : Bd t) (h : solveT t = some t') : ∀ k ∈ t'.pre, Fine k := by
  unfold solveT at h
  split at h
  · cases h
  · rename_i u hu
    cases h
    obtain ⟨h1, h2, _⟩ := riseT_up t u hb hu
    exact (sinkT_fine u _ _ h2 h1 h2.low.2).1
end Go.Proofs.YtmghbbgnenpcaaaGreatDoor

/- The plain law of the paths: each package of a path is directly in the one before it (no dump). -/
set_option linter.unusedSimpArgs false
set_option linter.unusedVariables false
namespace Go.Proofs.YtmghbbgnenpcaaaGreatDoor

def Linked (ps : List Pa) : Int → List Int → Prop
  | _, [] => True
  | i, q :: r => q ∈ insideI ps i ∧ Linked ps q r
theorem in_inside {ps : List Pa} {x : Pa} (h : x ∈ ps) : x.pack ∈ insideI ps x.inn := by
  unfold insideI
  exact List.mem_map.2 ⟨x, List.mem_filter.2 ⟨h, by simp⟩, rfl⟩
theorem path_linked {ps : List Pa} (hp : Packs ps) : ∀ (d : Nat) (p : Int) (acc c : List Int), Chain ps (p :: c) → c.length < d → Linked ps p acc → Linked ps 0 (pathP ps d p acc) ∧ ∃ pre, pathP ps d p acc = pre ++ acc
  | 0, p, acc, c, _, h, _ => by omega
  | d + 1, p, acc, c, h, hd, hl => by
    by_cases h0 : p = 0
    · subst h0
      rw [path_end]
      exact ⟨hl, [], rfl⟩
    · obtain ⟨x, c', h1, h2, rfl, h3⟩ := chain_step hp h h0
      rw [path_step h0 h1]
      simp only [List.length_cons] at hd
      obtain ⟨hx, hxp⟩ := ofI_mem h1
      obtain ⟨k1, pre, k2⟩ := path_linked hp d x.inn (p :: acc) c' h3 (by omega) ⟨by rw [← hxp]; exact in_inside hx, hl⟩
      exact ⟨k1, pre ++ [p], by rw [k2]; simp⟩
theorem path_last {ps : List Pa} (hp : Packs ps) {p : Int} {c : List Int} (h : Chain ps (p :: c)) (h0 : p ≠ 0) (hc : c.length < 300) : Linked ps 0 (pathP ps 300 p []) ∧ ∃ pre, pathP ps 300 p [] = pre ++ [p] := by
  refine ⟨(path_linked hp 300 p [] c h hc trivial).1, ?_⟩
  obtain ⟨x, c', h1, h2, rfl, h3⟩ := chain_step hp h h0
  rw [path_step (d := 299) h0 h1]
  simp only [List.length_cons] at hc
  obtain ⟨hx, hxp⟩ := ofI_mem h1
  obtain ⟨_, pre, k2⟩ := path_linked hp 299 x.inn [p] c' h3 (by omega) ⟨by rw [← hxp]; exact in_inside hx, trivial⟩
  exact ⟨pre, k2⟩
end Go.Proofs.YtmghbbgnenpcaaaGreatDoor

/- What CargoSums says, of the plain model (no dump in the proofs). -/
set_option linter.unusedSimpArgs false
set_option linter.unusedVariables false
namespace Go.Proofs.YtmghbbgnenpcaaaGreatDoor
open Go.RowKit Go.Shelf

/-- what of a tree is kept while its ends are sought -/
inductive Shaped (ps ts : List Pa) : Tr → Prop
  | node {b : Nat} {f : Nf} {ks : List Tr} (hpk : ks.map (fun k => k.f.pack) = insideI ps f.pack) (hm : f.missing = missR ps ts f.pack) (hk : ∀ k ∈ ks, Shaped ps ts k) : Shaped ps ts (.node b f ks)
theorem Shaped.pk {ps ts : List Pa} {t : Tr} (h : Shaped ps ts t) : t.ks.map (fun k => k.f.pack) = insideI ps t.f.pack := by cases h; assumption
theorem Shaped.miss {ps ts : List Pa} {t : Tr} (h : Shaped ps ts t) : t.f.missing = missR ps ts t.f.pack := by cases h; assumption
theorem Shaped.kids {ps ts : List Pa} {t : Tr} (h : Shaped ps ts t) : ∀ k ∈ t.ks, Shaped ps ts k := by cases h; assumption
mutual
theorem grown_shaped {ps ts : List Pa} {has : Int → Bool} : ∀ (t : Tr), Grown ps ts has t → Shaped ps ts t
  | .node b f ks, h => .node h.pk h.miss.1 (grownL_shaped ks (fun k hk => (h.kids k hk).1))
theorem grownL_shaped {ps ts : List Pa} {has : Int → Bool} : ∀ (ks : List Tr), (∀ k ∈ ks, Grown ps ts has k) → ∀ k ∈ ks, Shaped ps ts k
  | [], _, k, hk => by simp at hk
  | x :: r, h, k, hk => by
    rcases List.mem_cons.1 hk with e | hk
    · rw [e]; exact grown_shaped x (h x (by simp))
    · exact grownL_shaped r (fun y hy => h y (List.mem_cons_of_mem _ hy)) k hk
end
mutual
theorem riseT_shaped {ps ts : List Pa} : ∀ (t t' : Tr), riseT t = some t' → Shaped ps ts t → Shaped ps ts t' ∧ t'.f.pack = t.f.pack
  | .node b f ks, t', h, hs => by
    have hpk : ks.map (fun k => k.f.pack) = insideI ps f.pack := hs.pk
    have hm : f.missing = missR ps ts f.pack := hs.miss
    have hk : ∀ k ∈ ks, Shaped ps ts k := hs.kids
    unfold riseT at h
    cases e : riseL ks with
    | none => rw [e] at h; simp at h
    | some ks' =>
      rw [e] at h
      simp only at h
      split at h
      · cases h
      · cases h
        obtain ⟨h1, h2⟩ := riseL_shaped ks ks' e hk
        exact ⟨.node (by rw [h2]; exact hpk) hm h1, rfl⟩
theorem riseL_shaped {ps ts : List Pa} : ∀ (ks ks' : List Tr), riseL ks = some ks' → (∀ k ∈ ks, Shaped ps ts k) → (∀ k ∈ ks', Shaped ps ts k) ∧ ks'.map (fun k => k.f.pack) = ks.map (fun k => k.f.pack)
  | [], ks', h, _ => by unfold riseL at h; cases h; exact ⟨by simp, rfl⟩
  | x :: r, ks', h, hs => by
    unfold riseL at h
    cases e : riseT x with
    | none => rw [e] at h; simp at h
    | some x' =>
      rw [e] at h
      simp only at h
      cases e2 : riseL r with
      | none => rw [e2] at h; simp at h
      | some r' =>
        rw [e2] at h
        cases h
        obtain ⟨h1, h2⟩ := riseT_shaped x x' e (hs x (by simp))
        obtain ⟨h3, h4⟩ := riseL_shaped r r' e2 (fun y hy => hs y (List.mem_cons_of_mem _ hy))
        refine ⟨fun k hk => ?_, by rw [List.map_cons, List.map_cons, h2, h4]⟩
        rcases List.mem_cons.1 hk with rfl | hk
        · exact h1
        · exact h3 k hk
end
mutual
theorem sinkT_shaped {ps ts : List Pa} : ∀ (t : Tr) (lo hi : Int), Shaped ps ts t → Shaped ps ts (sinkT lo hi t) ∧ (sinkT lo hi t).f.pack = t.f.pack
  | .node b f ks, lo, hi, hs => by
    have hpk : ks.map (fun k => k.f.pack) = insideI ps f.pack := hs.pk
    have hm : f.missing = missR ps ts f.pack := hs.miss
    have hk : ∀ k ∈ ks, Shaped ps ts k := hs.kids
    unfold sinkT
    obtain ⟨h1, h2⟩ := sinkL_shaped ks (min f.sumH hi) f.sumL (f.missing + sumLow ks) (f.missing * 100000 + sumOwn ks) hk
    exact ⟨.node (by rw [h2]; exact hpk) hm h1, rfl⟩
theorem sinkL_shaped {ps ts : List Pa} : ∀ (ks : List Tr) (top sl low high : Int), (∀ k ∈ ks, Shaped ps ts k) → (∀ k ∈ sinkL top sl low high ks, Shaped ps ts k) ∧ (sinkL top sl low high ks).map (fun k => k.f.pack) = ks.map (fun k => k.f.pack)
  | [], _, _, _, _, _ => by simp [sinkL]
  | x :: r, top, sl, low, high, hs => by
    obtain ⟨h1, h2⟩ := sinkT_shaped x (max x.f.low (sl - (high - x.f.ownH))) (min x.f.ownH (top - (low - x.f.low))) (hs x (by simp))
    obtain ⟨h3, h4⟩ := sinkL_shaped r top sl low high (fun y hy => hs y (List.mem_cons_of_mem _ hy))
    simp only [sinkL]
    refine ⟨fun k hk => ?_, by rw [List.map_cons, List.map_cons, h2, h4]⟩
    rcases List.mem_cons.1 hk with rfl | hk
    · exact h1
    · exact h3 k hk
end
theorem solve_shaped {ps ts : List Pa} {t t' : Tr} (h : solveT t = some t') (hs : Shaped ps ts t) : Shaped ps ts t' := by
  unfold solveT at h
  split at h
  · cases h
  · rename_i u hu
    cases h
    exact (sinkT_shaped u _ _ (riseT_shaped t u hu hs).1).1
mutual
theorem shaped_pre {ps ts : List Pa} : ∀ (t : Tr), Shaped ps ts t → ∀ k ∈ t.pre, Shaped ps ts k
  | .node b f ks, h, k, hk => by simp only [Tr.pre] at hk; exact shaped_preL ks h.kids k hk
theorem shaped_preL {ps ts : List Pa} : ∀ (ks : List Tr), (∀ k ∈ ks, Shaped ps ts k) → ∀ k ∈ preL ks, Shaped ps ts k
  | [], _, k, hk => by simp [preL] at hk
  | x :: r, h, k, hk => by
    simp only [preL, List.mem_cons, List.mem_append] at hk
    rcases hk with rfl | hk | hk
    · exact h _ (by simp)
    · exact shaped_pre x (h x (by simp)) k hk
    · exact shaped_preL r (fun y hy => h y (List.mem_cons_of_mem _ hy)) k hk
end
theorem find_unique : ∀ {l : List Tr} {k : Tr}, (l.map (fun k => k.f.pack)).Nodup → k ∈ l → l.find? (fun x => decide (x.f.pack = k.f.pack)) = some k
  | [], k, _, hk => by simp at hk
  | x :: r, k, hn, hk => by
    rw [List.map_cons, List.nodup_cons] at hn
    rcases List.mem_cons.1 hk with rfl | hk
    · simp
    · have hne : ¬ x.f.pack = k.f.pack := fun e => hn.1 (by rw [e]; exact List.mem_map.2 ⟨k, hk, rfl⟩)
      rw [List.find?_cons]
      simp only [decide_eq_false hne]
      exact find_unique hn.2 hk
/-- what holds of a package whose ends are told -/
theorem sums_is {l : List Pa} {known loss pack : Int} (h : weighE l known loss (hasP l known loss pack) = 0) :
    (∀ q ∈ insideI (papersO l known loss) pack, weighE l known loss (hasP l known loss q) = 0) ∧ rootE l known loss (missB l known loss pack) = 0 ∧
    missV l known loss pack + ((insideI (papersO l known loss) pack).map (fun q => (weighV l known loss q).1)).sum ≤ (weighV l known loss pack).1 ∧ (weighV l known loss pack).1 ≤ (weighV l known loss pack).2 := by
  have hr := weigh_root h
  obtain ⟨h0, hh, t, ht⟩ := rootE_zero hr
  obtain ⟨p1, p2⟩ := open_some (known := known) h0
  have hmo := mani_ok (check_good (open_check h0)).1 known loss
  have hp := hmo.packs
  have hg := tree_grown (show treeT (papersL l known loss) (totalsL l known loss) (fun _ => true) = some t from ht)
  have hb := tree_bd hmo _ (show treeT (papersL l known loss) (totalsL l known loss) (fun _ => true) = some t from ht)
  have hw := h
  unfold weighE at hw
  rw [if_pos hr, ht] at hw
  simp only [Option.bind_some] at hw
  cases es : solveT t with
  | none => simp [es] at hw
  | some s =>
  have hsh := solve_shaped es (grown_shaped t hg.1)
  have hfi := solve_fine hb es
  have hnd : (s.pre.map (fun k => k.f.pack)).Nodup := by
    rw [solve_packs es]
    have h2 := ht
    unfold rootT treeT at h2
    split at h2
    · cases h2
    · rename_i t' ht'
      split at h2
      · cases h2
        exact (grow_chain hp _ _ _ _ _ [] ht' .root).1
      · cases h2
  have hm0 : ¬ pack = 0 := by
    intro e
    obtain ⟨x, hx⟩ := Option.isSome_iff_exists.1 hh
    obtain ⟨h1, h2⟩ := ofI_mem hx
    have := (hmo.pp x h1).1
    omega
  have hmB : missB l known loss pack = true := by unfold missB; rw [hh]; simp
  have hwp : ∀ q, (ofI (papersL l known loss) q).isSome = true → weighE l known loss (hasP l known loss q) = 0 ∧ ∃ k, k ∈ s.pre ∧ k.f.pack = q ∧ weighV l known loss q = (k.f.endL, k.f.endH) := by
    intro q hq
    have e1 : weighE l known loss (hasP l known loss q) = 0 := by
      have : hasP l known loss q = hasP l known loss pack := by rw [hh]; exact hq
      rw [this]; exact h
    obtain ⟨k, hk, hkm, hkp⟩ := find_of_pack (t := s) (pack := q) (by rw [solve_packs es]; exact tree_has hp ht hq)
    refine ⟨e1, k, hkm, hkp, ?_⟩
    unfold weighV weighP
    rw [if_pos e1, ht]
    simp only [Option.bind_some, es, hk, nodeF]
  have hin : ∀ q ∈ insideI (papersL l known loss) pack, (ofI (papersL l known loss) q).isSome = true := by
    intro q hq
    obtain ⟨x, hx, _, rfl⟩ := inside_mem hq
    rw [hp.find hx]; rfl
  rw [p1]
  obtain ⟨_, k, hkm, hkp, hkv⟩ := hwp pack hh
  have hks := shaped_pre s hsh k hkm
  have hf := hfi k hkm
  refine ⟨fun q hq => (hwp q (hin q hq)).1, by rw [hmB]; rw [hh] at hr; exact hr, ?_, by rw [hkv]; exact hf.1⟩
  have hmv : missV l known loss pack = k.f.missing := by
    rw [miss_is]
    unfold missRV
    rw [← rootM_is, hmB, if_pos (by rw [hh] at hr; exact hr), p1, p2, hks.miss, hkp]
  have hsum : ((insideI (papersL l known loss) pack).map (fun q => (weighV l known loss q).1)).sum = sumEnd k.ks := by
    rw [← hkp, ← hks.pk, List.map_map]
    unfold sumEnd
    congr 1
    refine List.map_congr_left fun c hc => ?_
    have hcm := pre_kids s hkm hc
    have hci : c.f.pack ∈ insideI (papersL l known loss) pack := by rw [← hkp, ← hks.pk]; exact List.mem_map.2 ⟨c, hc, rfl⟩
    obtain ⟨_, k2, h2m, h2p, h2v⟩ := hwp c.f.pack (hin _ hci)
    have e1 := find_unique hnd hcm
    have e2 := find_unique hnd h2m
    rw [h2p] at e2
    obtain rfl : c = k2 := Option.some.inj (e1.symm.trans e2)
    simp only [Function.comp, h2v]
  rw [hmv, hsum, hkv]
  exact hf.2
end Go.Proofs.YtmghbbgnenpcaaaGreatDoor
