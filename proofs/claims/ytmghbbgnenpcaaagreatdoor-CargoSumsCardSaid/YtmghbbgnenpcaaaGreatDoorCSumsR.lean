/- What CargoSums says, of the plain model (no dump in the proofs). -/
import Derived.Test.YtmghbbgnenpcaaaGreatDoorCSumsQ
import Derived.Test.YtmghbbgnenpcaaaGreatDoorCTreeE
set_option linter.unusedSimpArgs false
set_option linter.unusedVariables false
namespace Go.Proofs.YtmghbbgnenpcaaaGreatDoor
open Go.RowKit Go.Shelf

/-- what of a tree is kept while its ends are sought -/
inductive Shaped (ps ts : List Pa) : Tr → Prop
  | node {b : Nat} {f : Nf} {ks : List Tr} (hpk : ks.map (fun k => k.f.pack) = insideI ps f.pack) (hm : f.missing = missR ps ts f.pack) (hk : ∀ k ∈ ks, Shaped ps ts k) : Shaped ps ts (.node b f ks)
theorem Shaped.pk {ps ts : List Pa} {t : Tr} (h : Shaped ps ts t) : t.ks.map (fun k => k.f.pack) = insideI ps t.f.pack := by cases h; assumption
theorem Shaped.miss {ps ts : List Pa} {t : Tr} (h : Shaped ps ts t) : t.f.missing = missR ps ts t.f.pack := by cases h; assumption
theorem Shaped.kids {ps ts : List Pa} {t : Tr} (h : Shaped ps ts t) : ∀ k ∈ t.ks, Shaped ps ts k := by cases h; assumption
mutual
theorem grown_shaped {ps ts : List Pa} {has : Int → Bool} : ∀ (t : Tr), Grown ps ts has t → Shaped ps ts t
  | .node b f ks, h => .node h.pk h.miss.1 (grownL_shaped ks (fun k hk => (h.kids k hk).1))
theorem grownL_shaped {ps ts : List Pa} {has : Int → Bool} : ∀ (ks : List Tr), (∀ k ∈ ks, Grown ps ts has k) → ∀ k ∈ ks, Shaped ps ts k
  | [], _, k, hk => by simp at hk
  | x :: r, h, k, hk => by
    rcases List.mem_cons.1 hk with e | hk
    · rw [e]; exact grown_shaped x (h x (by simp))
    · exact grownL_shaped r (fun y hy => h y (List.mem_cons_of_mem _ hy)) k hk
end
mutual
theorem riseT_shaped {ps ts : List Pa} : ∀ (t t' : Tr), riseT t = some t' → Shaped ps ts t → Shaped ps ts t' ∧ t'.f.pack = t.f.pack
  | .node b f ks, t', h, hs => by
    have hpk : ks.map (fun k => k.f.pack) = insideI ps f.pack := hs.pk
    have hm : f.missing = missR ps ts f.pack := hs.miss
    have hk : ∀ k ∈ ks, Shaped ps ts k := hs.kids
    unfold riseT at h
    cases e : riseL ks with
    | none => rw [e] at h; simp at h
    | some ks' =>
      rw [e] at h
      simp only at h
      split at h
      · cases h
      · cases h
        obtain ⟨h1, h2⟩ := riseL_shaped ks ks' e hk
        exact ⟨.node (by rw [h2]; exact hpk) hm h1, rfl⟩
theorem riseL_shaped {ps ts : List Pa} : ∀ (ks ks' : List Tr), riseL ks = some ks' → (∀ k ∈ ks, Shaped ps ts k) → (∀ k ∈ ks', Shaped ps ts k) ∧ ks'.map (fun k => k.f.pack) = ks.map (fun k => k.f.pack)
  | [], ks', h, _ => by unfold riseL at h; cases h; exact ⟨by simp, rfl⟩
  | x :: r, ks', h, hs => by
    unfold riseL at h
    cases e : riseT x with
    | none => rw [e] at h; simp at h
    | some x' =>
      rw [e] at h
      simp only at h
      cases e2 : riseL r with
      | none => rw [e2] at h; simp at h
      | some r' =>
        rw [e2] at h
        cases h
        obtain ⟨h1, h2⟩ := riseT_shaped x x' e (hs x (by simp))
        obtain ⟨h3, h4⟩ := riseL_shaped r r' e2 (fun y hy => hs y (List.mem_cons_of_mem _ hy))
        refine ⟨fun k hk => ?_, by rw [List.map_cons, List.map_cons, h2, h4]⟩
        rcases List.mem_cons.1 hk with rfl | hk
        · exact h1
        · exact h3 k hk
end
mutual
theorem sinkT_shaped {ps ts : List Pa} : ∀ (t : Tr) (lo hi : Int), Shaped ps ts t → Shaped ps ts (sinkT lo hi t) ∧ (sinkT lo hi t).f.pack = t.f.pack
  | .node b f ks, lo, hi, hs => by
    have hpk : ks.map (fun k => k.f.pack) = insideI ps f.pack := hs.pk
    have hm : f.missing = missR ps ts f.pack := hs.miss
    have hk : ∀ k ∈ ks, Shaped ps ts k := hs.kids
    unfold sinkT
    obtain ⟨h1, h2⟩ := sinkL_shaped ks (min f.sumH hi) f.sumL (f.missing + sumLow ks) (f.missing * 100000 + sumOwn ks) hk
    exact ⟨.node (by rw [h2]; exact hpk) hm h1, rfl⟩
theorem sinkL_shaped {ps ts : List Pa} : ∀ (ks : List Tr) (top sl low high : Int), (∀ k ∈ ks, Shaped ps ts k) → (∀ k ∈ sinkL top sl low high ks, Shaped ps ts k) ∧ (sinkL top sl low high ks).map (fun k => k.f.pack) = ks.map (fun k => k.f.pack)
  | [], _, _, _, _, _ => by simp [sinkL]
  | x :: r, top, sl, low, high, hs => by
    obtain ⟨h1, h2⟩ := sinkT_shaped x (max x.f.low (sl - (high - x.f.ownH))) (min x.f.ownH (top - (low - x.f.low))) (hs x (by simp))
    obtain ⟨h3, h4⟩ := sinkL_shaped r top sl low high (fun y hy => hs y (List.mem_cons_of_mem _ hy))
    simp only [sinkL]
    refine ⟨fun k hk => ?_, by rw [List.map_cons, List.map_cons, h2, h4]⟩
    rcases List.mem_cons.1 hk with rfl | hk
    · exact h1
    · exact h3 k hk
end
theorem solve_shaped {ps ts : List Pa} {t t' : Tr} (h : solveT t = some t') (hs : Shaped ps ts t) : Shaped ps ts t' := by
  unfold solveT at h
  split at h
  · cases h
  · rename_i u hu
    cases h
    exact (sinkT_shaped u _ _ (riseT_shaped t u hu hs).1).1
mutual
theorem shaped_pre {ps ts : List Pa} : ∀ (t : Tr), Shaped ps ts t → ∀ k ∈ t.pre, Shaped ps ts k
  | .node b f ks, h, k, hk => by simp only [Tr.pre] at hk; exact shaped_preL ks h.kids k hk
theorem shaped_preL {ps ts : List Pa} : ∀ (ks : List Tr), (∀ k ∈ ks, Shaped ps ts k) → ∀ k ∈ preL ks, Shaped ps ts k
  | [], _, k, hk => by simp [preL] at hk
  | x :: r, h, k, hk => by
    simp only [preL, List.mem_cons, List.mem_append] at hk
    rcases hk with rfl | hk | hk
    · exact h _ (by simp)
    · exact shaped_pre x (h x (by simp)) k hk
    · exact shaped_preL r (fun y hy => h y (List.mem_cons_of_mem _ hy)) k hk
end
theorem find_unique : ∀ {l : List Tr} {k : Tr}, (l.map (fun k => k.f.pack)).Nodup → k ∈ l → l.find? (fun x => decide (x.f.pack = k.f.pack)) = some k
  | [], k, _, hk => by simp at hk
  | x :: r, k, hn, hk => by
    rw [List.map_cons, List.nodup_cons] at hn
    rcases List.mem_cons.1 hk with rfl | hk
    · simp
    · have hne : ¬ x.f.pack = k.f.pack := fun e => hn.1 (by rw [e]; exact List.mem_map.2 ⟨k, hk, rfl⟩)
      rw [List.find?_cons]
      simp only [decide_eq_false hne]
      exact find_unique hn.2 hk
/-- what holds of a package whose ends are told -/
theorem sums_is {l : List Pa} {known loss pack : Int} (h : weighE l known loss (hasP l known loss pack) = 0) :
    (∀ q ∈ insideI (papersO l known loss) pack, weighE l known loss (hasP l known loss q) = 0) ∧ rootE l known loss (missB l known loss pack) = 0 ∧
    missV l known loss pack + ((insideI (papersO l known loss) pack).map (fun q => (weighV l known loss q).1)).sum ≤ (weighV l known loss pack).1 ∧ (weighV l known loss pack).1 ≤ (weighV l known loss pack).2 := by
  have hr := weigh_root h
  obtain ⟨h0, hh, t, ht⟩ := rootE_zero hr
  obtain ⟨p1, p2⟩ := open_some (known := known) h0
  have hmo := mani_ok (check_good (open_check h0)).1 known loss
  have hp := hmo.packs
  have hg := tree_grown (show treeT (papersL l known loss) (totalsL l known loss) (fun _ => true) = some t from ht)
  have hb := tree_bd hmo _ (show treeT (papersL l known loss) (totalsL l known loss) (fun _ => true) = some t from ht)
  have hw := h
  unfold weighE at hw
  rw [if_pos hr, ht] at hw
  simp only [Option.bind_some] at hw
  cases es : solveT t with
  | none => simp [es] at hw
  | some s =>
  have hsh := solve_shaped es (grown_shaped t hg.1)
  have hfi := solve_fine hb es
  have hnd : (s.pre.map (fun k => k.f.pack)).Nodup := by
    rw [solve_packs es]
    have h2 := ht
    unfold rootT treeT at h2
    split at h2
    · cases h2
    · rename_i t' ht'
      split at h2
      · cases h2
        exact (grow_chain hp _ _ _ _ _ [] ht' .root).1
      · cases h2
  have hm0 : ¬ pack = 0 := by
    intro e
    obtain ⟨x, hx⟩ := Option.isSome_iff_exists.1 hh
    obtain ⟨h1, h2⟩ := ofI_mem hx
    have := (hmo.pp x h1).1
    omega
  have hmB : missB l known loss pack = true := by unfold missB; rw [hh]; simp
  have hwp : ∀ q, (ofI (papersL l known loss) q).isSome = true → weighE l known loss (hasP l known loss q) = 0 ∧ ∃ k, k ∈ s.pre ∧ k.f.pack = q ∧ weighV l known loss q = (k.f.endL, k.f.endH) := by
    intro q hq
    have e1 : weighE l known loss (hasP l known loss q) = 0 := by
      have : hasP l known loss q = hasP l known loss pack := by rw [hh]; exact hq
      rw [this]; exact h
    obtain ⟨k, hk, hkm, hkp⟩ := find_of_pack (t := s) (pack := q) (by rw [solve_packs es]; exact tree_has hp ht hq)
    refine ⟨e1, k, hkm, hkp, ?_⟩
    unfold weighV weighP
    rw [if_pos e1, ht]
    simp only [Option.bind_some, es, hk, nodeF]
  have hin : ∀ q ∈ insideI (papersL l known loss) pack, (ofI (papersL l known loss) q).isSome = true := by
    intro q hq
    obtain ⟨x, hx, _, rfl⟩ := inside_mem hq
    rw [hp.find hx]; rfl
  rw [p1]
  obtain ⟨_, k, hkm, hkp, hkv⟩ := hwp pack hh
  have hks := shaped_pre s hsh k hkm
  have hf := hfi k hkm
  refine ⟨fun q hq => (hwp q (hin q hq)).1, by rw [hmB]; rw [hh] at hr; exact hr, ?_, by rw [hkv]; exact hf.1⟩
  have hmv : missV l known loss pack = k.f.missing := by
    rw [miss_is]
    unfold missRV
    rw [← rootM_is, hmB, if_pos (by rw [hh] at hr; exact hr), p1, p2, hks.miss, hkp]
  have hsum : ((insideI (papersL l known loss) pack).map (fun q => (weighV l known loss q).1)).sum = sumEnd k.ks := by
    rw [← hkp, ← hks.pk, List.map_map]
    unfold sumEnd
    congr 1
    refine List.map_congr_left fun c hc => ?_
    have hcm := pre_kids s hkm hc
    have hci : c.f.pack ∈ insideI (papersL l known loss) pack := by rw [← hkp, ← hks.pk]; exact List.mem_map.2 ⟨c, hc, rfl⟩
    obtain ⟨_, k2, h2m, h2p, h2v⟩ := hwp c.f.pack (hin _ hci)
    have e1 := find_unique hnd hcm
    have e2 := find_unique hnd h2m
    rw [h2p] at e2
    obtain rfl : c = k2 := Option.some.inj (e1.symm.trans e2)
    simp only [Function.comp, h2v]
  rw [hmv, hsum, hkv]
  exact hf.2
end Go.Proofs.YtmghbbgnenpcaaaGreatDoor
