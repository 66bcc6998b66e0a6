/- The plain law of the ends: what is in a package weighs, by its low ends, at most the package's low end (no dump). -/
import Derived.Test.YtehplmeckfinoaaGreatDoorCModel
import Derived.Test.YtehplmeckfinoaaGreatDoorCTreesP
import Derived.Test.YtehplmeckfinoaaGreatDoorCTreeE
set_option linter.unusedSimpArgs false
set_option linter.unusedVariables false
namespace Go.Proofs.YtehplmeckfinoaaGreatDoor
def sumEnd (ks : List Tr) : Int := (ks.map (fun k => k.f.endL)).sum
theorem sumEnd_nil : sumEnd [] = 0 := rfl
theorem sumEnd_cons (k : Tr) (r : List Tr) : sumEnd (k :: r) = k.f.endL + sumEnd r := by simp [sumEnd]
def Fine (t : Tr) : Prop := t.f.endL ≤ t.f.endH ∧ t.f.missing + sumEnd t.ks ≤ t.f.endL
theorem sinkT_ends (lo hi : Int) : ∀ t : Tr, (sinkT lo hi t).f.endL = lo ∧ (sinkT lo hi t).f.endH = hi
 | .node b f ks => by unfold sinkT; exact ⟨rfl, rfl⟩
theorem gap_le : ∀ {ks : List Tr}, (∀ k ∈ ks, Up k) → (0 ≤ sumOwn ks - sumLow ks) ∧ ∀ k ∈ ks, k.f.ownH - k.f.low ≤ sumOwn ks - sumLow ks
 | [], _ => ⟨by simp only [sumOwn_nil, sumLow_nil]; omega, by simp⟩
 | x :: r, h => by
   have h1 := gap_le (ks := r) (fun y hy => h y (List.mem_cons_of_mem _ hy))
   have h2 := (h x (by simp)).low
   simp only [sumOwn_cons, sumLow_cons]
   refine ⟨by omega, fun k hk => ?_⟩
   rcases List.mem_cons.1 hk with rfl | hk
   · omega
   · have := h1.2 k hk; omega
theorem mx (a b : Int) : a ≤ max a b ∧ b ≤ max a b ∧ (max a b = a ∨ max a b = b) := by omega
theorem sinkL_sum (top sl low high : Int) (hc : sl ≤ high) : ∀ (ks : List Tr), (∀ k ∈ ks, Up k) → sumEnd (sinkL top sl low high ks) ≤ max (sumLow ks) (sl - high + sumOwn ks)
 | [], _ => by simp only [sinkL, sumEnd_nil, sumLow_nil, sumOwn_nil]; omega
 | k :: r, h => by
   have h1 := sinkL_sum top sl low high hc r (fun x hx => h x (List.mem_cons_of_mem _ hx))
   have h2 := (h k (by simp)).low
   have h3 := (gap_le (ks := r) (fun x hx => h x (List.mem_cons_of_mem _ hx))).1
   simp only [sinkL, sumEnd_cons, sumLow_cons, sumOwn_cons, (sinkT_ends _ _ k).1]
   have e1 := mx (sumLow r) (sl - high + sumOwn r)
   have e2 := mx k.f.low (sl - (high - k.f.ownH))
   have e3 := mx (k.f.low + sumLow r) (sl - high + (k.f.ownH + sumOwn r))
   generalize max (sumLow r) (sl - high + sumOwn r) = m1 at *
   generalize max k.f.low (sl - (high - k.f.ownH)) = m2 at *
   generalize max (k.f.low + sumLow r) (sl - high + (k.f.ownH + sumOwn r)) = m3 at *
   omega
mutual
theorem sinkT_fine : ∀ (t : Tr) (lo hi : Int), Up t → Bd t → t.f.low ≤ hi → (∀ k ∈ (sinkT lo hi t).pre, Fine k) ∧ (t.f.low ≤ lo → lo ≤ hi → Fine (sinkT lo hi t))
 | .node b f ks, lo, hi, hu, hb, hl => by
   have hk : ∀ k ∈ ks, Up k := hu.kids
   have hbk : ∀ k ∈ ks, Bd k := hb.kids
   have hf : FB f := hb.fb
   have hg := gap_le hk
   cases hu with
   | node h1 h2 h3 h4 h5 h6 h7 _ =>
     have hl' : f.low ≤ hi := hl
     clear hl
     have hm := hf.1.1
     have hs := sinkL_sum (min f.sumH hi) f.sumL (f.missing + sumLow ks) (f.missing * 100000 + sumOwn ks) h6 ks hk
     refine ⟨?_, fun h8 h9 => ⟨?_, ?_⟩⟩
     · unfold sinkT
       simp only [Tr.pre]
       exact sinkL_fine ks _ _ _ _ hk hbk (by omega) h6 (by omega) (fun k hk' => by have := hg.2 k hk'; omega)
     · unfold sinkT; exact h9
     · unfold sinkT
       simp only [Tr.f, Tr.ks] at h8 ⊢
       omega
theorem sinkL_fine : ∀ (ks : List Tr) (top sl low high : Int), (∀ k ∈ ks, Up k) → (∀ k ∈ ks, Bd k) → low ≤ top → sl ≤ high → sl ≤ top → (∀ k ∈ ks, k.f.ownH - k.f.low ≤ high - low) → ∀ k ∈ preL (sinkL top sl low high ks), Fine k
 | [], _, _, _, _, _, _, _, _, _, _, k, hk => by simp [sinkL, preL] at hk
 | x :: r, top, sl, low, high, hu, hb, h1, h2, h3, h4, k, hk => by
   have hx := (hu x (by simp)).low
   have hg := h4 x (by simp)
   have ht := sinkT_fine x (max x.f.low (sl - (high - x.f.ownH))) (min x.f.ownH (top - (low - x.f.low))) (hu x (by simp)) (hb x (by simp)) (by omega)
   simp only [sinkL, preL, List.mem_cons, List.mem_append] at hk
   rcases hk with rfl | hk | hk
   · exact ht.2 (by omega) (by omega)
   · exact ht.1 k hk
   · exact sinkL_fine r top sl low high (fun y hy => hu y (List.mem_cons_of_mem _ hy)) (fun y hy => hb y (List.mem_cons_of_mem _ hy)) h1 h2 h3 (fun y hy => h4 y (List.mem_cons_of_mem _ hy)) k hk
end
theorem solve_fine {t t' : Tr} (hb : Bd t) (h : solveT t = some t') : ∀ k ∈ t'.pre, Fine k := by
 unfold solveT at h
 split at h
 · cases h
 · rename_i u hu
   cases h
   obtain ⟨h1, h2, _⟩ := riseT_up t u hb hu
   exact (sinkT_fine u _ _ h2 h1 h2.low.2).1
def Linked (ps : List Pa) : Int → List Int → Prop
 | _, [] => True
 | i, q :: r => q ∈ insideI ps i ∧ Linked ps q r
theorem in_inside {ps : List Pa} {x : Pa} (h : x ∈ ps) : x.pack ∈ insideI ps x.inn := by
 unfold insideI
 exact List.mem_map.2 ⟨x, List.mem_filter.2 ⟨h, by simp⟩, rfl⟩
theorem path_linked {ps : List Pa} (hp : Packs ps) : ∀ (d : Nat) (p : Int) (acc c : List Int), Chain ps (p :: c) → c.length < d → Linked ps p acc → Linked ps 0 (pathP ps d p acc) ∧ ∃ pre, pathP ps d p acc = pre ++ acc
 | 0, p, acc, c, _, h, _ => by omega
 | d + 1, p, acc, c, h, hd, hl => by
   by_cases h0 : p = 0
   · subst h0
     rw [path_end]
     exact ⟨hl, [], rfl⟩
   · obtain ⟨x, c', h1, h2, rfl, h3⟩ := chain_step hp h h0
     rw [path_step h0 h1]
     simp only [List.length_cons] at hd
     obtain ⟨hx, hxp⟩ := ofI_mem h1
     obtain ⟨k1, pre, k2⟩ := path_linked hp d x.inn (p :: acc) c' h3 (by omega) ⟨by rw [← hxp]; exact in_inside hx, hl⟩
     exact ⟨k1, pre ++ [p], by rw [k2]; simp⟩
theorem path_last {ps : List Pa} (hp : Packs ps) {p : Int} {c : List Int} (h : Chain ps (p :: c)) (h0 : p ≠ 0) (hc : c.length < 300) : Linked ps 0 (pathP ps 300 p []) ∧ ∃ pre, pathP ps 300 p [] = pre ++ [p] := by
 refine ⟨(path_linked hp 300 p [] c h hc trivial).1, ?_⟩
 obtain ⟨x, c', h1, h2, rfl, h3⟩ := chain_step hp h h0
 rw [path_step (d := 299) h0 h1]
 simp only [List.length_cons] at hc
 obtain ⟨hx, hxp⟩ := ofI_mem h1
 obtain ⟨_, pre, k2⟩ := path_linked hp 299 x.inn [p] c' h3 (by omega) ⟨by rw [← hxp]; exact in_inside hx, trivial⟩
 exact ⟨pre, k2⟩
open Go.RowKit Go.Shelf
inductive Shaped (ps ts : List Pa) : Tr → Prop
 | node {b : Nat} {f : Nf} {ks : List Tr} (hpk : ks.map (fun k => k.f.pack) = insideI ps f.pack) (hm : f.missing = missR ps ts f.pack) (hk : ∀ k ∈ ks, Shaped ps ts k) : Shaped ps ts (.node b f ks)
theorem Shaped.pk {ps ts : List Pa} {t : Tr} (h : Shaped ps ts t) : t.ks.map (fun k => k.f.pack) = insideI ps t.f.pack := by cases h; assumption
theorem Shaped.miss {ps ts : List Pa} {t : Tr} (h : Shaped ps ts t) : t.f.missing = missR ps ts t.f.pack := by cases h; assumption
theorem Shaped.kids {ps ts : List Pa} {t : Tr} (h : Shaped ps ts t) : ∀ k ∈ t.ks, Shaped ps ts k := by cases h; assumption
mutual
theorem grown_shaped {ps ts : List Pa} {has : Int → Bool} : ∀ (t : Tr), Grown ps ts has t → Shaped ps ts t
 | .node b f ks, h => .node h.pk h.miss.1 (grownL_shaped ks (fun k hk => (h.kids k hk).1))
theorem grownL_shaped {ps ts : List Pa} {has : Int → Bool} : ∀ (ks : List Tr), (∀ k ∈ ks, Grown ps ts has k) → ∀ k ∈ ks, Shaped ps ts k
 | [], _, k, hk => by simp at hk
 | x :: r, h, k, hk => by
   rcases List.mem_cons.1 hk with e | hk
   · rw [e]; exact grown_shaped x (h x (by simp))
   · exact grownL_shaped r (fun y hy => h y (List.mem_cons_of_mem _ hy)) k hk
end
mutual
theorem riseT_shaped {ps ts : List Pa} : ∀ (t t' : Tr), riseT t = some t' → Shaped ps ts t → Shaped ps ts t' ∧ t'.f.pack = t.f.pack
 | .node b f ks, t', h, hs => by
   have hpk : ks.map (fun k => k.f.pack) = insideI ps f.pack := hs.pk
   have hm : f.missing = missR ps ts f.pack := hs.miss
   have hk : ∀ k ∈ ks, Shaped ps ts k := hs.kids
   unfold riseT at h
   cases e : riseL ks with
   | none => rw [e] at h; simp at h
   | some ks' =>
     rw [e] at h
     simp only at h
     split at h
     · cases h
     · cases h
       obtain ⟨h1, h2⟩ := riseL_shaped ks ks' e hk
       exact ⟨.node (by rw [h2]; exact hpk) hm h1, rfl⟩
theorem riseL_shaped {ps ts : List Pa} : ∀ (ks ks' : List Tr), riseL ks = some ks' → (∀ k ∈ ks, Shaped ps ts k) → (∀ k ∈ ks', Shaped ps ts k) ∧ ks'.map (fun k => k.f.pack) = ks.map (fun k => k.f.pack)
 | [], ks', h, _ => by unfold riseL at h; cases h; exact ⟨by simp, rfl⟩
 | x :: r, ks', h, hs => by
   unfold riseL at h
   cases e : riseT x with
   | none => rw [e] at h; simp at h
   | some x' =>
     rw [e] at h
     simp only at h
     cases e2 : riseL r with
     | none => rw [e2] at h; simp at h
     | some r' =>
       rw [e2] at h
       cases h
       obtain ⟨h1, h2⟩ := riseT_shaped x x' e (hs x (by simp))
       obtain ⟨h3, h4⟩ := riseL_shaped r r' e2 (fun y hy => hs y (List.mem_cons_of_mem _ hy))
       refine ⟨fun k hk => ?_, by rw [List.map_cons, List.map_cons, h2, h4]⟩
       rcases List.mem_cons.1 hk with rfl | hk
       · exact h1
       · exact h3 k hk
end
mutual
theorem sinkT_shaped {ps ts : List Pa} : ∀ (t : Tr) (lo hi : Int), Shaped ps ts t → Shaped ps ts (sinkT lo hi t) ∧ (sinkT lo hi t).f.pack = t.f.pack
 | .node b f ks, lo, hi, hs => by
   have hpk : ks.map (fun k => k.f.pack) = insideI ps f.pack := hs.pk
   have hm : f.missing = missR ps ts f.pack := hs.miss
   have hk : ∀ k ∈ ks, Shaped ps ts k := hs.kids
   unfold sinkT
   obtain ⟨h1, h2⟩ := sinkL_shaped ks (min f.sumH hi) f.sumL (f.missing + sumLow ks) (f.missing * 100000 + sumOwn ks) hk
   exact ⟨.node (by rw [h2]; exact hpk) hm h1, rfl⟩
theorem sinkL_shaped {ps ts : List Pa} : ∀ (ks : List Tr) (top sl low high : Int), (∀ k ∈ ks, Shaped ps ts k) → (∀ k ∈ sinkL top sl low high ks, Shaped ps ts k) ∧ (sinkL top sl low high ks).map (fun k => k.f.pack) = ks.map (fun k => k.f.pack)
 | [], _, _, _, _, _ => by simp [sinkL]
 | x :: r, top, sl, low, high, hs => by
   obtain ⟨h1, h2⟩ := sinkT_shaped x (max x.f.low (sl - (high - x.f.ownH))) (min x.f.ownH (top - (low - x.f.low))) (hs x (by simp))
   obtain ⟨h3, h4⟩ := sinkL_shaped r top sl low high (fun y hy => hs y (List.mem_cons_of_mem _ hy))
   simp only [sinkL]
   refine ⟨fun k hk => ?_, by rw [List.map_cons, List.map_cons, h2, h4]⟩
   rcases List.mem_cons.1 hk with rfl | hk
   · exact h1
   · exact h3 k hk
end
theorem solve_shaped {ps ts : List Pa} {t t' : Tr} (h : solveT t = some t') (hs : Shaped ps ts t) : Shaped ps ts t' := by
 unfold solveT at h
 split at h
 · cases h
 · rename_i u hu
   cases h
   exact (sinkT_shaped u _ _ (riseT_shaped t u hu hs).1).1
mutual
theorem shaped_pre {ps ts : List Pa} : ∀ (t : Tr), Shaped ps ts t → ∀ k ∈ t.pre, Shaped ps ts k
 | .node b f ks, h, k, hk => by simp only [Tr.pre] at hk; exact shaped_preL ks h.kids k hk
theorem shaped_preL {ps ts : List Pa} : ∀ (ks : List Tr), (∀ k ∈ ks, Shaped ps ts k) → ∀ k ∈ preL ks, Shaped ps ts k
 | [], _, k, hk => by simp [preL] at hk
 | x :: r, h, k, hk => by
   simp only [preL, List.mem_cons, List.mem_append] at hk
   rcases hk with rfl | hk | hk
   · exact h _ (by simp)
   · exact shaped_pre x (h x (by simp)) k hk
   · exact shaped_preL r (fun y hy => h y (List.mem_cons_of_mem _ hy)) k hk
end
theorem find_unique : ∀ {l : List Tr} {k : Tr}, (l.map (fun k => k.f.pack)).Nodup → k ∈ l → l.find? (fun x => decide (x.f.pack = k.f.pack)) = some k
 | [], k, _, hk => by simp at hk
 | x :: r, k, hn, hk => by
   rw [List.map_cons, List.nodup_cons] at hn
   rcases List.mem_cons.1 hk with rfl | hk
   · simp
   · have hne : ¬ x.f.pack = k.f.pack := fun e => hn.1 (by rw [e]; exact List.mem_map.2 ⟨k, hk, rfl⟩)
     rw [List.find?_cons]
     simp only [decide_eq_false hne]
     exact find_unique hn.2 hk
theorem sums_is {l : List Pa} {known loss pack : Int} (h : weighE l known loss (hasP l known loss pack) = 0) :
 (∀ q ∈ insideI (papersO l known loss) pack, weighE l known loss (hasP l known loss q) = 0) ∧ rootE l known loss (missB l known loss pack) = 0 ∧
 missV l known loss pack + ((insideI (papersO l known loss) pack).map (fun q => (weighV l known loss q).1)).sum ≤ (weighV l known loss pack).1 ∧ (weighV l known loss pack).1 ≤ (weighV l known loss pack).2 := by
 have hr := weigh_root h
 obtain ⟨h0, hh, t, ht⟩ := rootE_zero hr
 obtain ⟨p1, p2⟩ := open_some (known := known) h0
 have hmo := mani_ok (check_good (open_check h0)).1 known loss
 have hp := hmo.packs
 have hg := tree_grown (show treeT (papersL l known loss) (totalsL l known loss) (fun _ => true) = some t from ht)
 have hb := tree_bd hmo _ (show treeT (papersL l known loss) (totalsL l known loss) (fun _ => true) = some t from ht)
 have hw := h
 unfold weighE at hw
 rw [if_pos hr, ht] at hw
 simp only [Option.bind_some] at hw
 cases es : solveT t with
 | none => simp [es] at hw
 | some s =>
 have hsh := solve_shaped es (grown_shaped t hg.1)
 have hfi := solve_fine hb es
 have hnd : (s.pre.map (fun k => k.f.pack)).Nodup := by
  rw [solve_packs es]
  have h2 := ht
  unfold rootT treeT at h2
  split at h2
  · cases h2
  · rename_i t' ht'
    split at h2
    · cases h2
      exact (grow_chain hp _ _ _ _ _ [] ht' .root).1
    · cases h2
 have hm0 : ¬ pack = 0 := by
  intro e
  obtain ⟨x, hx⟩ := Option.isSome_iff_exists.1 hh
  obtain ⟨h1, h2⟩ := ofI_mem hx
  have := (hmo.pp x h1).1
  omega
 have hmB : missB l known loss pack = true := by unfold missB; rw [hh]; simp
 have hwp : ∀ q, (ofI (papersL l known loss) q).isSome = true → weighE l known loss (hasP l known loss q) = 0 ∧ ∃ k, k ∈ s.pre ∧ k.f.pack = q ∧ weighV l known loss q = (k.f.endL, k.f.endH) := by
  intro q hq
  have e1 : weighE l known loss (hasP l known loss q) = 0 := by
   have : hasP l known loss q = hasP l known loss pack := by rw [hh]; exact hq
   rw [this]; exact h
  obtain ⟨k, hk, hkm, hkp⟩ := find_of_pack (t := s) (pack := q) (by rw [solve_packs es]; exact tree_has hp ht hq)
  refine ⟨e1, k, hkm, hkp, ?_⟩
  unfold weighV weighP
  rw [if_pos e1, ht]
  simp only [Option.bind_some, es, hk, nodeF]
 have hin : ∀ q ∈ insideI (papersL l known loss) pack, (ofI (papersL l known loss) q).isSome = true := by
  intro q hq
  obtain ⟨x, hx, _, rfl⟩ := inside_mem hq
  rw [hp.find hx]; rfl
 rw [p1]
 obtain ⟨_, k, hkm, hkp, hkv⟩ := hwp pack hh
 have hks := shaped_pre s hsh k hkm
 have hf := hfi k hkm
 refine ⟨fun q hq => (hwp q (hin q hq)).1, by rw [hmB]; rw [hh] at hr; exact hr, ?_, by rw [hkv]; exact hf.1⟩
 have hmv : missV l known loss pack = k.f.missing := by
  rw [miss_is]
  unfold missRV
  rw [← rootM_is, hmB, if_pos (by rw [hh] at hr; exact hr), p1, p2, hks.miss, hkp]
 have hsum : ((insideI (papersL l known loss) pack).map (fun q => (weighV l known loss q).1)).sum = sumEnd k.ks := by
  rw [← hkp, ← hks.pk, List.map_map]
  unfold sumEnd
  congr 1
  refine List.map_congr_left fun c hc => ?_
  have hcm := pre_kids s hkm hc
  have hci : c.f.pack ∈ insideI (papersL l known loss) pack := by rw [← hkp, ← hks.pk]; exact List.mem_map.2 ⟨c, hc, rfl⟩
  obtain ⟨_, k2, h2m, h2p, h2v⟩ := hwp c.f.pack (hin _ hci)
  have e1 := find_unique hnd hcm
  have e2 := find_unique hnd h2m
  rw [h2p] at e2
  obtain rfl : c = k2 := Option.some.inj (e1.symm.trans e2)
  simp only [Function.comp, h2v]
 rw [hmv, hsum, hkv]
 exact hf.2
def boundR (o : Option Pa) (p : Int × Int) : Int × Int := match o with
 | none => p
 | some t => (max p.1 t.low, min p.2 t.high)
def belowW (ps : List Pa) (h : Int × Int) (q : Int) : Int × Int := if h.2 < h.1 then (1, 0) else (max ((ofI ps q).getD pa0).low h.1, ((ofI ps q).getD pa0).high)
def heldR (ps ts : List Pa) : Nat → Int → Int × Int
 | 0, _ => (0, 0)
 | d + 1, pack => boundR (ofI ts pack) (missR ps ts pack + ((insideI ps pack).map (fun q => (belowW ps (heldR ps ts d q) q).1)).sum,
    missR ps ts pack * 100000 + ((insideI ps pack).map (fun q => (belowW ps (heldR ps ts d q) q).2)).sum)
def belowR (ps ts : List Pa) (d : Nat) (q : Int) : Int × Int := belowW ps (heldR ps ts d q) q
def risen (f : Nf) (ks : List Tr) : Int × Int := (max (f.missing + sumLow ks) f.sumL, min (f.missing * 100000 + sumOwn ks) f.sumH)
theorem rise_some {b : Nat} {f : Nf} {ks : List Tr} {t' : Tr} (h : riseT (.node b f ks) = some t') :
 ∃ ks', riseL ks = some ks' ∧ (risen f ks').1 ≤ (risen f ks').2 ∧ (risen f ks').1 ≤ f.ownH ∧ t' = .node b { f with low := max f.ownL (risen f ks').1 } ks' := by
 unfold riseT at h
 cases e : riseL ks with
 | none => rw [e] at h; simp at h
 | some ks' =>
   rw [e] at h
   simp only at h
   split at h
   · cases h
   · rename_i hn
     cases h
     refine ⟨ks', rfl, ?_, ?_, rfl⟩ <;> simp only [risen] <;> omega
theorem rise_none {b : Nat} {f : Nf} {ks : List Tr} (h : riseT (.node b f ks) = none) :
 riseL ks = none ∨ ∃ ks', riseL ks = some ks' ∧ ((risen f ks').2 < (risen f ks').1 ∨ f.ownH < (risen f ks').1) := by
 unfold riseT at h
 cases e : riseL ks with
 | none => exact .inl rfl
 | some ks' =>
   rw [e] at h
   simp only at h
   split at h
   · rename_i hn
     exact .inr ⟨ks', rfl, by simp only [risen]; exact hn⟩
   · cases h
theorem riseL_none : ∀ {ks : List Tr}, riseL ks = none → ∃ k ∈ ks, riseT k = none
 | [], h => by simp [riseL] at h
 | k :: r, h => by
   unfold riseL at h
   cases e : riseT k with
   | none => exact ⟨k, by simp, e⟩
   | some k' =>
     rw [e] at h
     simp only at h
     cases e2 : riseL r with
     | none =>
       obtain ⟨q, hq, h2⟩ := riseL_none e2
       exact ⟨q, List.mem_cons_of_mem _ hq, h2⟩
     | some r' => rw [e2] at h; cases h
theorem own_all {ps : List Pa} {ts : List Pa} (hmo : ManiOk ps ts) {k : Tr} {pack : Int} (hk : k.f.pack ∈ insideI ps pack) (ho : (k.f.ownL, k.f.ownH) = ownOf (fun _ => true) ((ofI ps k.f.pack).getD pa0)) :
 k.f.ownL = ((ofI ps k.f.pack).getD pa0).low ∧ k.f.ownH = ((ofI ps k.f.pack).getD pa0).high ∧ 1 ≤ k.f.ownL ∧ k.f.ownH ≤ 100000 := by
 obtain ⟨x, hx, _, hp⟩ := inside_mem hk
 have hf : ofI ps k.f.pack = some x := by rw [← hp]; exact hmo.packs.find hx
 rw [hf] at ho ⊢
 simp only [ownOf, Option.getD_some, if_true] at ho ⊢
 injection ho with e1 e2
 have := (hmo.pp x hx).2.2.1
 exact ⟨e1, e2, by omega, by omega⟩
mutual
theorem rise_held {ps ts : List Pa} (hmo : ManiOk ps ts) : ∀ (t : Tr) (ks' : List Tr), Grown ps ts (fun _ => true) t → Bd t → riseL t.ks = some ks' → ∀ d, t.siz ≤ d → heldR ps ts d t.f.pack = risen t.f ks'
 | .node b f ks, ks', hg, hb, h, d, hd => by
   have hr : riseL ks = some ks' := h
   obtain ⟨d, rfl⟩ : ∃ e, d = e + 1 := ⟨d - 1, by unfold Tr.siz at hd; omega⟩
   have hpk : ks.map (fun k => k.f.pack) = insideI ps f.pack := hg.pk
   have hm : f.missing = missR ps ts f.pack := hg.miss.1
   have hm0 : 0 ≤ f.missing := hg.miss.2
   have hs : (f.sumL, f.sumH) = sumsOf (fun _ => true) (ofI ts f.pack) := hg.sums
   have hl : ks.length ≤ 1000 := hb.len
   obtain ⟨s1, s2, s3, s4⟩ := riseL_held hmo f.pack ks ks' (fun k hk => ⟨(hg.kids k hk).1, hb.kids k hk, (hg.kids k hk).2, by rw [← hpk]; exact List.mem_map.2 ⟨k, hk, rfl⟩⟩) hr d (by unfold Tr.siz at hd; omega)
   show heldR ps ts (d + 1) f.pack = risen f ks'
   simp only [heldR]
   rw [← hpk, List.map_map, List.map_map, ← hm]
   have e1 : (ks.map ((fun q => (belowW ps (heldR ps ts d q) q).1) ∘ fun k => k.f.pack)).sum = sumLow ks' := s1
   have e2 : (ks.map ((fun q => (belowW ps (heldR ps ts d q) q).2) ∘ fun k => k.f.pack)).sum = sumOwn ks' := s2
   rw [e1, e2]
   unfold risen
   cases ho : ofI ts f.pack with
   | none =>
     rw [ho] at hs
     simp only [sumsOf] at hs
     injection hs with a1 a2
     have hz : f.missing = 0 := by rw [hm]; unfold missR; rw [ho]
     simp only [boundR]
     rw [Prod.mk.injEq]
     constructor <;> omega
   | some t =>
     rw [ho] at hs
     simp only [sumsOf, if_true] at hs
     injection hs with a1 a2
     simp only [boundR]
     rw [a1, a2]
theorem riseL_held {ps ts : List Pa} (hmo : ManiOk ps ts) (pack : Int) : ∀ (ks ks' : List Tr), (∀ k ∈ ks, Grown ps ts (fun _ => true) k ∧ Bd k ∧ (k.f.ownL, k.f.ownH) = ownOf (fun _ => true) ((ofI ps k.f.pack).getD pa0) ∧ k.f.pack ∈ insideI ps pack) →
 riseL ks = some ks' → ∀ d, sizL ks ≤ d → (ks.map (fun k => (belowW ps (heldR ps ts d k.f.pack) k.f.pack).1)).sum = sumLow ks' ∧ (ks.map (fun k => (belowW ps (heldR ps ts d k.f.pack) k.f.pack).2)).sum = sumOwn ks' ∧
  0 ≤ sumLow ks' ∧ sumOwn ks' ≤ (ks.length : Int) * 100000
 | [], ks', _, h, d, _ => by unfold riseL at h; cases h; simp [sumLow, sumOwn]
 | x :: r, ks', hk, h, d, hd => by
   unfold riseL at h
   cases e : riseT x with
   | none => rw [e] at h; simp at h
   | some x' =>
     rw [e] at h
     simp only at h
     cases e2 : riseL r with
     | none => rw [e2] at h; simp at h
     | some r' =>
       rw [e2] at h
       cases h
       obtain ⟨g1, g2, g3, g4⟩ := hk x (by simp)
       obtain ⟨o1, o2, o3, o4⟩ := own_all hmo g4 g3
       have hxd : x.siz ≤ d := by unfold sizL at hd; omega
       obtain ⟨s1, s2, s3, s4⟩ := riseL_held hmo pack r r' (fun k h => hk k (List.mem_cons_of_mem _ h)) e2 d (by unfold sizL at hd; omega)
       have hb : belowW ps (heldR ps ts d x.f.pack) x.f.pack = (x'.f.low, x'.f.ownH) ∧ x'.f.ownH = x.f.ownH ∧ x.f.ownL ≤ x'.f.low := by
        cases x with
        | node b f ks =>
          obtain ⟨ks2, hr2, h1, h2, rfl⟩ := rise_some e
          have hh' : heldR ps ts d f.pack = risen f ks2 := rise_held hmo (.node b f ks) ks2 g1 g2 hr2 d hxd
          have o1' : f.ownL = ((ofI ps f.pack).getD pa0).low := o1
          have o2' : f.ownH = ((ofI ps f.pack).getD pa0).high := o2
          refine ⟨?_, rfl, ?_⟩
          · show belowW ps (heldR ps ts d f.pack) f.pack = (max f.ownL (risen f ks2).1, f.ownH)
            rw [hh']; unfold belowW
            rw [if_neg (by omega), ← o1', ← o2']
          · show f.ownL ≤ max f.ownL (risen f ks2).1
            omega
       rw [List.map_cons, List.map_cons, List.sum_cons, List.sum_cons, s1, s2, hb.1, sumLow_cons, sumOwn_cons, List.length_cons]
       refine ⟨rfl, rfl, by omega, ?_⟩
       have : ((r.length + 1 : Nat) : Int) * 100000 = (r.length : Int) * 100000 + 100000 := by push_cast; omega
       omega
end
def BadAt (ps ts : List Pa) (d : Nat) (k : Tr) : Prop := (heldR ps ts d k.f.pack).2 < (heldR ps ts d k.f.pack).1 ∨ k.f.ownH < (heldR ps ts d k.f.pack).1
mutual
theorem rise_fell {ps ts : List Pa} (hmo : ManiOk ps ts) : ∀ (t : Tr), Grown ps ts (fun _ => true) t → Bd t → riseT t = none → ∀ d, t.siz ≤ d → BadAt ps ts d t ∨ ∃ k ∈ t.pre, BadAt ps ts d k
 | .node b f ks, hg, hb, h, d, hd => by
   rcases rise_none h with h1 | ⟨ks', hr, h1⟩
   · obtain ⟨k, hk, h2⟩ := riseL_fell hmo ks (fun k hk => ⟨(hg.kids k hk).1, hb.kids k hk⟩) h1 d (by unfold Tr.siz at hd; omega)
     exact .inr ⟨k, by simp only [Tr.pre]; exact hk, h2⟩
   · refine .inl ?_
     have := rise_held hmo (.node b f ks) ks' hg hb hr d hd
     unfold BadAt
     rw [this]; exact h1
theorem riseL_fell {ps ts : List Pa} (hmo : ManiOk ps ts) : ∀ (ks : List Tr), (∀ k ∈ ks, Grown ps ts (fun _ => true) k ∧ Bd k) → riseL ks = none → ∀ d, sizL ks ≤ d → ∃ k ∈ preL ks, BadAt ps ts d k
 | [], _, h, _, _ => by simp [riseL] at h
 | x :: r, hk, h, d, hd => by
   unfold riseL at h
   cases e : riseT x with
   | none =>
     have hxd : x.siz ≤ d := by unfold sizL at hd; omega
     rcases rise_fell hmo x (hk x (by simp)).1 (hk x (by simp)).2 e d hxd with h1 | ⟨k, h1, h2⟩
     · exact ⟨x, by simp [preL], h1⟩
     · exact ⟨k, by simp [preL, h1], h2⟩
   | some x' =>
     rw [e] at h
     simp only at h
     cases e2 : riseL r with
     | none =>
       obtain ⟨k, h1, h2⟩ := riseL_fell hmo r (fun y hy => hk y (List.mem_cons_of_mem _ hy)) e2 d (by unfold sizL at hd; omega)
       exact ⟨k, by simp [preL, h1], h2⟩
     | some r' => rw [e2] at h; cases h
end
mutual
theorem rise_sound {ps ts : List Pa} (hmo : ManiOk ps ts) : ∀ (t t' : Tr), Grown ps ts (fun _ => true) t → Bd t → riseT t = some t' → ∀ d, t.siz ≤ d → ¬ BadAt ps ts d t ∧ ∀ k ∈ t.pre, ¬ BadAt ps ts d k
 | .node b f ks, t', hg, hb, h, d, hd => by
   obtain ⟨ks', hr, h1, h2, rfl⟩ := rise_some h
   have hh := rise_held hmo (.node b f ks) ks' hg hb hr d hd
   refine ⟨?_, fun k hk => ?_⟩
   · have hf : (Tr.node b f ks).f = f := rfl
     unfold BadAt
     rw [hh, hf]
     omega
   · simp only [Tr.pre] at hk
     exact riseL_sound hmo ks ks' (fun k hk => ⟨(hg.kids k hk).1, hb.kids k hk⟩) hr d (by unfold Tr.siz at hd; omega) k hk
theorem riseL_sound {ps ts : List Pa} (hmo : ManiOk ps ts) : ∀ (ks ks' : List Tr), (∀ k ∈ ks, Grown ps ts (fun _ => true) k ∧ Bd k) → riseL ks = some ks' → ∀ d, sizL ks ≤ d → ∀ k ∈ preL ks, ¬ BadAt ps ts d k
 | [], _, _, _, _, _, k, hk => by simp [preL] at hk
 | x :: r, ks', hx, h, d, hd, k, hk => by
   unfold riseL at h
   cases e : riseT x with
   | none => rw [e] at h; simp at h
   | some x' =>
     rw [e] at h
     simp only at h
     cases e2 : riseL r with
     | none => rw [e2] at h; simp at h
     | some r' =>
       have hxd : x.siz ≤ d := by unfold sizL at hd; omega
       obtain ⟨h1, h2⟩ := rise_sound hmo x x' (hx x (by simp)).1 (hx x (by simp)).2 e d hxd
       simp only [preL, List.mem_cons, List.mem_append] at hk
       rcases hk with e3 | hk | hk
       · rw [e3]; exact h1
       · exact h2 k hk
       · exact riseL_sound hmo r r' (fun y hy => hx y (List.mem_cons_of_mem _ hy)) e2 d (by unfold sizL at hd; omega) k hk
end
theorem end_low {f : Nf} {ks : List Tr} {k : Tr} (hu : ∀ k ∈ ks, Up k) (hk : k ∈ ks) (hm : 0 ≤ f.missing) :
 max k.f.low ((risen f ks).1 - (f.missing * 100000 + (sumOwn ks - k.f.ownH))) = max k.f.low (f.sumL - (f.missing * 100000 + sumOwn ks - k.f.ownH)) := by
 have h1 := (gap_le hu).2 k hk
 simp only [risen]
 omega
theorem end_high {f : Nf} {ks : List Tr} {k : Tr} (hu : ∀ k ∈ ks, Up k) (hk : k ∈ ks) (hm : 0 ≤ f.missing) (most : Int) :
 min k.f.ownH (min (risen f ks).2 most - (f.missing + (sumLow ks - k.f.low))) = min k.f.ownH (min f.sumH most - (f.missing + sumLow ks - k.f.low)) := by
 have h1 := (gap_le hu).2 k hk
 simp only [risen]
 omega
theorem bad_below {ps ts : List Pa} (hmo : ManiOk ps ts) {k : Tr} {pack : Int} (hk : k.f.pack ∈ insideI ps pack) (ho : (k.f.ownL, k.f.ownH) = ownOf (fun _ => true) ((ofI ps k.f.pack).getD pa0)) (hl : k.f.ownL ≤ k.f.ownH) (d : Nat) :
 BadAt ps ts d k ↔ (belowR ps ts d k.f.pack).2 < (belowR ps ts d k.f.pack).1 := by
 obtain ⟨o1, o2, _, _⟩ := own_all hmo hk ho
 unfold BadAt belowR belowW
 rw [← o1, ← o2]
 by_cases h : (heldR ps ts d k.f.pack).2 < (heldR ps ts d k.f.pack).1
 · rw [if_pos h]
   exact ⟨fun _ => by decide, fun _ => .inl h⟩
 · rw [if_neg h]
   constructor
   · rintro (h1 | h1)
     · exact absurd h1 h
     · show k.f.ownH < max k.f.ownL (heldR ps ts d k.f.pack).1
       omega
   · intro h1
     have h2 : k.f.ownH < max k.f.ownL (heldR ps ts d k.f.pack).1 := h1
     exact .inr (by omega)
inductive Risen (ps ts : List Pa) (d : Nat) : Tr → Prop
 | node {b : Nat} {f : Nf} {ks : List Tr} (hh : heldR ps ts d f.pack = risen f ks) (hm : f.missing = missR ps ts f.pack) (h0 : 0 ≤ f.missing) (hpk : ks.map (fun k => k.f.pack) = insideI ps f.pack)
   (hb : ∀ k ∈ ks, belowR ps ts d k.f.pack = (k.f.low, k.f.ownH)) (hk : ∀ k ∈ ks, Risen ps ts d k) : Risen ps ts d (.node b f ks)
theorem rise_below {ps ts : List Pa} (hmo : ManiOk ps ts) {x x' : Tr} {pack : Int} {d : Nat} (hg : Grown ps ts (fun _ => true) x) (hb : Bd x) (ho : (x.f.ownL, x.f.ownH) = ownOf (fun _ => true) ((ofI ps x.f.pack).getD pa0))
 (hp : x.f.pack ∈ insideI ps pack) (e : riseT x = some x') (hd : x.siz ≤ d) : belowR ps ts d x.f.pack = (x'.f.low, x'.f.ownH) := by
 obtain ⟨o1, o2, o3, o4⟩ := own_all hmo hp ho
 cases x with
 | node b f ks =>
   obtain ⟨ks2, hr2, h1, h2, rfl⟩ := rise_some e
   have hh' : heldR ps ts d f.pack = risen f ks2 := rise_held hmo (.node b f ks) ks2 hg hb hr2 d hd
   have o1' : f.ownL = ((ofI ps f.pack).getD pa0).low := o1
   have o2' : f.ownH = ((ofI ps f.pack).getD pa0).high := o2
   show belowW ps (heldR ps ts d f.pack) f.pack = (max f.ownL (risen f ks2).1, f.ownH)
   rw [hh']; unfold belowW
   rw [if_neg (by omega), ← o1', ← o2']
mutual
theorem rise_risen {ps ts : List Pa} (hmo : ManiOk ps ts) : ∀ (t t' : Tr), Grown ps ts (fun _ => true) t → Bd t → riseT t = some t' → ∀ d, t.siz ≤ d → Risen ps ts d t' ∧ t'.f.pack = t.f.pack
 | .node b f ks, t', hg, hb, h, d, hd => by
   obtain ⟨ks', hr, h1, h2, rfl⟩ := rise_some h
   have hpk : ks.map (fun k => k.f.pack) = insideI ps f.pack := hg.pk
   have hh : heldR ps ts d f.pack = risen f ks' := rise_held hmo (.node b f ks) ks' hg hb hr d hd
   obtain ⟨r1, r2, r3⟩ := riseL_risen hmo f.pack ks ks' (fun k hk => ⟨(hg.kids k hk).1, hb.kids k hk, (hg.kids k hk).2, by rw [← hpk]; exact List.mem_map.2 ⟨k, hk, rfl⟩⟩) hr d (by unfold Tr.siz at hd; omega)
   exact ⟨.node hh hg.miss.1 hg.miss.2 (by rw [r2]; exact hpk) r3 r1, rfl⟩
theorem riseL_risen {ps ts : List Pa} (hmo : ManiOk ps ts) (pack : Int) : ∀ (ks ks' : List Tr), (∀ k ∈ ks, Grown ps ts (fun _ => true) k ∧ Bd k ∧ (k.f.ownL, k.f.ownH) = ownOf (fun _ => true) ((ofI ps k.f.pack).getD pa0) ∧ k.f.pack ∈ insideI ps pack) →
 riseL ks = some ks' → ∀ d, sizL ks ≤ d → (∀ k ∈ ks', Risen ps ts d k) ∧ ks'.map (fun k => k.f.pack) = ks.map (fun k => k.f.pack) ∧ ∀ k ∈ ks', belowR ps ts d k.f.pack = (k.f.low, k.f.ownH)
 | [], ks', _, h, d, _ => by unfold riseL at h; cases h; simp
 | x :: r, ks', hk, h, d, hd => by
   unfold riseL at h
   cases e : riseT x with
   | none => rw [e] at h; simp at h
   | some x' =>
     rw [e] at h
     simp only at h
     cases e2 : riseL r with
     | none => rw [e2] at h; simp at h
     | some r' =>
       rw [e2] at h
       cases h
       obtain ⟨g1, g2, g3, g4⟩ := hk x (by simp)
       have hxd : x.siz ≤ d := by unfold sizL at hd; omega
       obtain ⟨a1, a2⟩ := rise_risen hmo x x' g1 g2 e d hxd
       obtain ⟨b1, b2, b3⟩ := riseL_risen hmo pack r r' (fun k h => hk k (List.mem_cons_of_mem _ h)) e2 d (by unfold sizL at hd; omega)
       have hbx := rise_below hmo g1 g2 g3 g4 e hxd
       refine ⟨fun k h => ?_, by rw [List.map_cons, List.map_cons, a2, b2], fun k h => ?_⟩
       · rcases List.mem_cons.1 h with rfl | h
         · exact a1
         · exact b1 k h
       · rcases List.mem_cons.1 h with rfl | h
         · rw [a2]; exact hbx
         · exact b3 k h
end
def othersR (ps ts : List Pa) (d : Nat) (g : Int × Int → Int) (u p q : Int) : Int := missR ps ts p * u + (((insideI ps p).filter (fun y => decide (y ≠ q))).map (fun y => g (belowR ps ts d y))).sum
def innR (ps : List Pa) (q : Int) : Int := ((ofI ps q).getD pa0).inn
def stepE (ps ts : List Pa) (d : Nat) (most q : Int) : Int × Int :=
 (max (belowR ps ts d q).1 ((heldR ps ts d (innR ps q)).1 - othersR ps ts d Prod.snd 100000 (innR ps q) q),
  min (belowR ps ts d q).2 (min (heldR ps ts d (innR ps q)).2 most - othersR ps ts d Prod.fst 1 (innR ps q) q))
def endsW (ps ts : List Pa) (d : Nat) (way : List Int) : Int × Int := way.foldl (fun o q => stepE ps ts d o.2 q) (0, 100000000)
theorem endsW_snoc (ps ts : List Pa) (d : Nat) (way : List Int) (q : Int) : endsW ps ts d (way ++ [q]) = stepE ps ts d (endsW ps ts d way).2 q := by
 unfold endsW; rw [List.foldl_append]; rfl
theorem sum_others {g : Int → Int} {v : Tr → Int} : ∀ {ks : List Tr}, (ks.map (fun k => k.f.pack)).Nodup → (∀ k ∈ ks, g k.f.pack = v k) → ∀ {k : Tr}, k ∈ ks →
 (((ks.map (fun k => k.f.pack)).filter (fun y => decide (y ≠ k.f.pack))).map g).sum = (ks.map v).sum - v k
 | [], _, _, k, hk => by simp at hk
 | x :: r, hn, hg, k, hk => by
   rw [List.map_cons, List.nodup_cons] at hn
   rcases List.mem_cons.1 hk with e | hk
   · subst e
     have : ((r.map (fun k => k.f.pack)).filter (fun y => decide (y ≠ k.f.pack))) = r.map (fun k => k.f.pack) := by
      rw [List.filter_eq_self]
      intro y hy
      exact decide_eq_true (fun e => hn.1 (by rw [← e]; exact hy))
     have h2 : ∀ (l : List Tr), (∀ q ∈ l, g q.f.pack = v q) → ((l.map (fun k => k.f.pack)).map g).sum = (l.map v).sum := by
      intro l hl
      rw [List.map_map]
      congr 1
      exact List.map_congr_left fun q hq => hl q hq
     rw [List.map_cons, List.filter_cons, if_neg (by simp), this, h2 r (fun q hq => hg q (List.mem_cons_of_mem _ hq)), List.map_cons, List.sum_cons]
     omega
   · have hne : x.f.pack ≠ k.f.pack := fun e => hn.1 (by rw [e]; exact List.mem_map.2 ⟨k, hk, rfl⟩)
     rw [List.map_cons, List.filter_cons, if_pos (by simpa using hne), List.map_cons, List.sum_cons, sum_others hn.2 (fun q hq => hg q (List.mem_cons_of_mem _ hq)) hk, List.map_cons, List.sum_cons, hg x (by simp)]
     omega
inductive Sunk (ps ts : List Pa) (d : Nat) : Tr → Prop
 | node {b : Nat} {f : Nf} {ks : List Tr} (hpk : ks.map (fun k => k.f.pack) = insideI ps f.pack) (he : ∀ k ∈ ks, (k.f.endL, k.f.endH) = stepE ps ts d f.endH k.f.pack) (hk : ∀ k ∈ ks, Sunk ps ts d k) : Sunk ps ts d (.node b f ks)
theorem Sunk.pk {ps ts : List Pa} {d : Nat} {t : Tr} (h : Sunk ps ts d t) : t.ks.map (fun k => k.f.pack) = insideI ps t.f.pack := by cases h; assumption
theorem Sunk.ends {ps ts : List Pa} {d : Nat} {t : Tr} (h : Sunk ps ts d t) : ∀ k ∈ t.ks, (k.f.endL, k.f.endH) = stepE ps ts d t.f.endH k.f.pack := by cases h; assumption
theorem Sunk.kids {ps ts : List Pa} {d : Nat} {t : Tr} (h : Sunk ps ts d t) : ∀ k ∈ t.ks, Sunk ps ts d k := by cases h; assumption
theorem sinkT_f (lo hi : Int) (t : Tr) : (sinkT lo hi t).f = { t.f with endL := lo, endH := hi } := by cases t; unfold sinkT; rfl
theorem step_is {ps ts : List Pa} (hp : Packs ps) {d : Nat} {f : Nf} {ks : List Tr} (hu : ∀ k ∈ ks, Up k) (hh : heldR ps ts d f.pack = risen f ks) (hm : f.missing = missR ps ts f.pack) (h0 : 0 ≤ f.missing) (hpk : ks.map (fun k => k.f.pack) = insideI ps f.pack)
 (hb : ∀ k ∈ ks, belowR ps ts d k.f.pack = (k.f.low, k.f.ownH)) (hi : Int) {k : Tr} (hk : k ∈ ks) :
 stepE ps ts d hi k.f.pack = (max k.f.low (f.sumL - (f.missing * 100000 + sumOwn ks - k.f.ownH)), min k.f.ownH (min f.sumH hi - (f.missing + sumLow ks - k.f.low))) := by
 have hin : k.f.pack ∈ insideI ps f.pack := by rw [← hpk]; exact List.mem_map.2 ⟨k, hk, rfl⟩
 obtain ⟨x, hx, hxi, hxp⟩ := inside_mem hin
 have hinn : innR ps k.f.pack = f.pack := by unfold innR; rw [← hxp, hp.find hx, ← hxi]; rfl
 have hnd : (ks.map (fun k => k.f.pack)).Nodup := by rw [hpk]; exact inside_nodup hp _
 have e1 : othersR ps ts d Prod.snd 100000 f.pack k.f.pack = f.missing * 100000 + (sumOwn ks - k.f.ownH) := by
  unfold othersR
  rw [← hpk, sum_others (g := fun y => (belowR ps ts d y).2) (v := fun k => k.f.ownH) hnd (fun q hq => by rw [hb q hq]) hk, ← hm]
  rfl
 have e2 : othersR ps ts d Prod.fst 1 f.pack k.f.pack = f.missing + (sumLow ks - k.f.low) := by
  unfold othersR
  rw [← hpk, sum_others (g := fun y => (belowR ps ts d y).1) (v := fun k => k.f.low) hnd (fun q hq => by rw [hb q hq]) hk, ← hm, Int.mul_one]
  rfl
 unfold stepE
 rw [hinn, e1, e2, hb k hk, hh, end_low hu hk h0, end_high hu hk h0]
mutual
theorem sink_sunk {ps ts : List Pa} (hp : Packs ps) {d : Nat} : ∀ (u : Tr) (lo hi : Int), Risen ps ts d u → Up u → Sunk ps ts d (sinkT lo hi u)
 | .node b f ks, lo, hi, hr, hu => by
   cases hr with
   | node hh hm h0 hpk hb hk =>
     have hku : ∀ k ∈ ks, Up k := hu.kids
     obtain ⟨s1, s2, s3⟩ := sinkL_sunk hp f.pack ks (min f.sumH hi) f.sumL (f.missing + sumLow ks) (f.missing * 100000 + sumOwn ks) hk hku
     unfold sinkT
     refine .node (by rw [s2]; exact hpk) (fun k hk' => ?_) s1
     obtain ⟨q, hq, e1, e2⟩ := s3 k hk'
     show (k.f.endL, k.f.endH) = stepE ps ts d hi k.f.pack
     rw [e1, e2, step_is hp hku hh hm h0 hpk hb hi hq]
theorem sinkL_sunk {ps ts : List Pa} (hp : Packs ps) {d : Nat} (pack : Int) : ∀ (ks : List Tr) (top sl low high : Int), (∀ k ∈ ks, Risen ps ts d k) → (∀ k ∈ ks, Up k) →
 (∀ k ∈ sinkL top sl low high ks, Sunk ps ts d k) ∧ (sinkL top sl low high ks).map (fun k => k.f.pack) = ks.map (fun k => k.f.pack) ∧
 ∀ k ∈ sinkL top sl low high ks, ∃ q ∈ ks, (k.f.endL, k.f.endH) = (max q.f.low (sl - (high - q.f.ownH)), min q.f.ownH (top - (low - q.f.low))) ∧ k.f.pack = q.f.pack
 | [], _, _, _, _, _, _ => by simp [sinkL]
 | x :: r, top, sl, low, high, hr, hu => by
   have h1 := sink_sunk hp x (max x.f.low (sl - (high - x.f.ownH))) (min x.f.ownH (top - (low - x.f.low))) (hr x (by simp)) (hu x (by simp))
   obtain ⟨h2, h3, h4⟩ := sinkL_sunk hp pack r top sl low high (fun y hy => hr y (List.mem_cons_of_mem _ hy)) (fun y hy => hu y (List.mem_cons_of_mem _ hy))
   have hf := sinkT_f (max x.f.low (sl - (high - x.f.ownH))) (min x.f.ownH (top - (low - x.f.low))) x
   simp only [sinkL]
   refine ⟨fun k hk => ?_, by rw [List.map_cons, List.map_cons, hf, h3], fun k hk => ?_⟩
   · rcases List.mem_cons.1 hk with rfl | hk
     · exact h1
     · exact h2 k hk
   · rcases List.mem_cons.1 hk with rfl | hk
     · exact ⟨x, by simp, by rw [hf], by rw [hf]⟩
     · obtain ⟨q, hq, e1, e2⟩ := h4 k hk
       exact ⟨q, List.mem_cons_of_mem _ hq, e1, e2⟩
end
theorem ofI_bd {ps ts : List Pa} (hmo : ManiOk ps ts) (q : Int) : 0 ≤ ((ofI ps q).getD pa0).low ∧ ((ofI ps q).getD pa0).low ≤ ((ofI ps q).getD pa0).high ∧ ((ofI ps q).getD pa0).high ≤ 100000 := by
 cases e : ofI ps q with
 | none => simp [pa0]
 | some x => have := (hmo.pp x (ofI_mem e).1).2.2.1; simp only [Option.getD_some]; omega
theorem below_hi {ps ts : List Pa} (hmo : ManiOk ps ts) (h : Int × Int) (q : Int) : 0 ≤ (belowW ps h q).2 ∧ (belowW ps h q).2 ≤ 100000 := by
 have := ofI_bd hmo q
 unfold belowW
 split
 · simp
 · simp only; omega
theorem sum_hi {g : Int → Int} {m : Int} : ∀ (l : List Int), (∀ q ∈ l, 0 ≤ g q ∧ g q ≤ m) → 0 ≤ (l.map g).sum ∧ (l.map g).sum ≤ (l.length : Int) * m
 | [], _ => by simp
 | x :: r, h => by
   have h1 := sum_hi r (fun q hq => h q (List.mem_cons_of_mem _ hq))
   have h2 := h x (by simp)
   rw [List.map_cons, List.sum_cons, List.length_cons]
   have : ((r.length + 1 : Nat) : Int) * m = (r.length : Int) * m + m := by rw [Int.natCast_add, Int.add_mul]; simp
   omega
theorem insideI_len (ps : List Pa) (p : Int) : (insideI ps p).length ≤ ps.length := by
 unfold insideI; rw [List.length_map]; exact List.length_filter_le _ _
theorem missR_hi {ps ts : List Pa} (hmo : ManiOk ps ts) (p : Int) : missR ps ts p ≤ 40 := by
 unfold missR
 cases e : ofI ts p with
 | none => simp
 | some x => have := (hmo.tt x (ofI_mem e).1).1; simp only; omega
theorem held_hi {ps ts : List Pa} (hmo : ManiOk ps ts) (d : Nat) (p : Int) : (heldR ps ts d p).2 ≤ 100000000 := by
 cases d with
 | zero => simp [heldR]
 | succ d =>
   have h1 := (sum_hi (g := fun q => (belowW ps (heldR ps ts d q) q).2) (insideI ps p) (fun q _ => below_hi hmo _ q)).2
   have h2 := insideI_len ps p
   have h3 := hmo.ln
   have h4 := missR_hi hmo p
   have h5 : ((insideI ps p).length : Int) ≤ 201 := by omega
   simp only [heldR]
   cases e : ofI ts p with
   | none => simp only [boundR]; omega
   | some x => simp only [boundR]; omega
theorem path_acc (ps : List Pa) : ∀ (d : Nat) (p : Int) (acc : List Int), pathP ps d p acc = pathP ps d p [] ++ acc
 | 0, p, acc => rfl
 | d + 1, p, acc => by
   simp only [pathP]
   split
   · rfl
   · rw [path_acc ps d _ (p :: acc), path_acc ps d _ [p], List.append_assoc]; rfl
theorem step_most {ps ts : List Pa} (hmo : ManiOk ps ts) (d : Nat) (most q : Int) (h : 100000000 ≤ most) : stepE ps ts d most q = stepE ps ts d 100000000 q := by
 have := held_hi hmo d (innR ps q)
 unfold stepE
 rw [Prod.mk.injEq]
 refine ⟨rfl, ?_⟩
 omega
theorem way_ends {ps ts : List Pa} (hmo : ManiOk ps ts) {D : Nat} {s : Tr} (hs : Sunk ps ts D s) (h0 : s.f.pack = 0) (hH : 100000000 ≤ s.f.endH) : ∀ (d : Nat) (p : Int) (c : List Int), Chain ps (p :: c) → c.length < d → p ≠ 0 →
 ∃ k ∈ s.pre, k.f.pack = p ∧ Sunk ps ts D k ∧ endsW ps ts D (pathP ps d p []) = (k.f.endL, k.f.endH)
 | 0, p, c, _, h, _ => by omega
 | d + 1, p, c, h, hd, hp0 => by
   have hp := hmo.packs
   obtain ⟨x, c', h1, h2, rfl, h3⟩ := chain_step hp h hp0
   simp only [List.length_cons] at hd
   obtain ⟨hx, hxp⟩ := ofI_mem h1
   have hin : p ∈ insideI ps x.inn := by rw [← hxp]; exact in_inside hx
   rw [path_step hp0 h1, path_acc]
   by_cases hz : x.inn = 0
   · rw [hz, path_end, List.nil_append]
     rw [hz, ← h0, ← hs.pk] at hin
     obtain ⟨k, hk, he⟩ := List.mem_map.1 hin
     refine ⟨k, kids_pre hk, he, hs.kids k hk, ?_⟩
     have := hs.ends k hk
     rw [step_most hmo _ _ _ hH, he] at this
     rw [this]; rfl
   · obtain ⟨n, hn, hnp, hns, hne⟩ := way_ends hmo hs h0 hH d x.inn c' h3 (by omega) hz
     rw [← hnp, ← hns.pk] at hin
     obtain ⟨k, hk, he⟩ := List.mem_map.1 hin
     refine ⟨k, pre_kids s hn hk, he, hns.kids k hk, ?_⟩
     have := hns.ends k hk
     rw [endsW_snoc, hne, this, he]
mutual
theorem siz_pre : ∀ t : Tr, t.siz = t.pre.length + 1
 | .node b f ks => by unfold Tr.siz; simp only [Tr.pre]; rw [sizL_pre ks]
theorem sizL_pre : ∀ l : List Tr, sizL l = (preL l).length
 | [] => rfl
 | k :: r => by unfold sizL; simp only [preL, List.length_cons, List.length_append]; rw [siz_pre k, sizL_pre r]; omega
end
theorem tree_parts {ps ts : List Pa} (hmo : ManiOk ps ts) {has : Int → Bool} {t : Tr} (ht : treeT ps ts has = some t) : t.pre.length = ps.length ∧ (t.pre.map (fun k => k.f.pack)).Nodup ∧ t.siz ≤ 300 := by
 have h2 := ht
 unfold treeT at h2
 split at h2
 · cases h2
 · rename_i t' ht'
   split at h2
   · rename_i hl
     cases h2
     refine ⟨hl, (grow_chain hmo.packs _ _ _ _ _ [] ht' .root).1, ?_⟩
     have := hmo.ln
     rw [siz_pre]; omega
   · cases h2
theorem ends_is {ps ts : List Pa} (hmo : ManiOk ps ts) {t s : Tr} (ht : treeT ps ts (fun _ => true) = some t) (hs : solveT t = some s) {pack : Int} (hk : (ofI ps pack).isSome = true) :
 endsW ps ts 300 (pathP ps 300 pack []) = ((nodeF (findT s pack)).endL, (nodeF (findT s pack)).endH) := by
 obtain ⟨g1, g2, g3, g4⟩ := tree_grown ht
 obtain ⟨hl, hnd, hz⟩ := tree_parts hmo ht
 have hb := tree_bd hmo _ ht
 have hsp := solve_packs hs
 unfold solveT at hs
 split at hs
 · cases hs
 · rename_i u hu
   cases hs
   obtain ⟨r1, r2⟩ := rise_risen hmo t u g1 hb hu 300 hz
   obtain ⟨_, hup, _, _, hun, _⟩ := riseT_up t u hb hu
   have hs := sink_sunk hmo.packs u u.f.ownL u.f.ownH r1 hup
   have huo : u.f.ownH = t.f.ownH := by rw [hun]; rfl
   obtain ⟨c, hc⟩ := tree_chain hmo.packs ht (tree_has hmo.packs ht hk)
   have hcl := hc.len hmo.packs
   simp only [List.length_cons] at hcl
   have hln := hmo.ln
   have hp0 : pack ≠ 0 := by
    intro e
    obtain ⟨x, hx⟩ := Option.isSome_iff_exists.1 hk
    obtain ⟨h1, h2⟩ := ofI_mem hx
    have := (hmo.pp x h1).1
    omega
   obtain ⟨k, k1, k2, _, k4⟩ := way_ends hmo hs (by rw [sinkT_f]; show u.f.pack = 0; rw [r2, g2]) (by rw [sinkT_f]; show 100000000 ≤ u.f.ownH; rw [huo, g4]; decide) 300 pack c hc (by omega) hp0
   rw [k4]
   have := find_unique (l := (sinkT u.f.ownL u.f.ownH u).pre) (k := k) (by rw [hsp]; exact hnd) k1
   rw [k2] at this
   unfold findT
   rw [this]
   rfl
def completeR (ps ts : List Pa) (d : Nat) : Bool := ps.all (fun x => decide ((belowR ps ts d x.pack).1 ≤ (belowR ps ts d x.pack).2)) && decide ((heldR ps ts d 0).1 ≤ (heldR ps ts d 0).2)
mutual
theorem pre_inside {ps ts : List Pa} {has : Int → Bool} : ∀ (t : Tr), Grown ps ts has t → ∀ k ∈ t.pre, ∃ p, k.f.pack ∈ insideI ps p
 | .node b f ks, h, k, hk => by
   simp only [Tr.pre] at hk
   have hpk : ks.map (fun k => k.f.pack) = insideI ps f.pack := h.pk
   exact preL_inside ks (fun q hq => ⟨(h.kids q hq).1, f.pack, by rw [← hpk]; exact List.mem_map.2 ⟨q, hq, rfl⟩⟩) k hk
theorem preL_inside {ps ts : List Pa} {has : Int → Bool} : ∀ (l : List Tr), (∀ k ∈ l, Grown ps ts has k ∧ ∃ p, k.f.pack ∈ insideI ps p) → ∀ k ∈ preL l, ∃ p, k.f.pack ∈ insideI ps p
 | [], _, k, hk => by simp [preL] at hk
 | x :: r, h, k, hk => by
   simp only [preL, List.mem_cons, List.mem_append] at hk
   rcases hk with e | hk | hk
   · rw [e]; exact (h x (by simp)).2
   · exact pre_inside x (h x (by simp)).1 k hk
   · exact preL_inside r (fun y hy => h y (List.mem_cons_of_mem _ hy)) k hk
end
theorem complete_iff {ps ts : List Pa} (hmo : ManiOk ps ts) {t : Tr} (ht : treeT ps ts (fun _ => true) = some t) : (solveT t).isSome = completeR ps ts 300 := by
 obtain ⟨g1, g2, g3, g4⟩ := tree_grown ht
 obtain ⟨hl, hnd, hz⟩ := tree_parts hmo ht
 have hb := tree_bd hmo _ ht
 have hbad : ∀ k ∈ t.pre, (BadAt ps ts 300 k ↔ (belowR ps ts 300 k.f.pack).2 < (belowR ps ts 300 k.f.pack).1) := by
  intro k hk
  obtain ⟨p, hp⟩ := pre_inside t g1 k hk
  have ho := (grown_pre t g1 k hk).2
  have h1 := own_all hmo hp ho
  have h2 := ofI_bd hmo k.f.pack
  exact bad_below hmo hp ho (by omega) 300
 have hz2 : (solveT t).isSome = (riseT t).isSome := by unfold solveT; cases riseT t <;> rfl
 rw [hz2]
 cases e : riseT t with
 | some u =>
   obtain ⟨h1, h2⟩ := rise_sound hmo t u g1 hb e 300 hz
   symm
   unfold completeR
   rw [Option.isSome_some, Bool.and_eq_true, List.all_eq_true]
   refine ⟨fun x hx => decide_eq_true ?_, decide_eq_true ?_⟩
   · obtain ⟨k, _, k1, k2⟩ := find_of_pack (tree_has hmo.packs ht (pack := x.pack) (by rw [hmo.packs.find hx]; rfl))
     have h3 := h2 k k1
     rw [hbad k k1, k2] at h3
     omega
   · unfold BadAt at h1
     rw [g2] at h1
     omega
 | none =>
   have hh := held_hi hmo 300 0
   symm
   rw [Option.isSome_none, Bool.eq_false_iff]
   intro hc
   unfold completeR at hc
   rw [Bool.and_eq_true, List.all_eq_true, decide_eq_true_eq] at hc
   rcases rise_fell hmo t g1 hb e 300 hz with h1 | ⟨k, hk, h1⟩
   · unfold BadAt at h1
     rw [g2, g4] at h1
     omega
   · rw [hbad k hk] at h1
     obtain ⟨p, hp⟩ := pre_inside t g1 k hk
     obtain ⟨x, hx, _, hxp⟩ := inside_mem hp
     have := of_decide_eq_true (hc.1 x hx)
     rw [hxp] at this
     omega
def liftP (has : Int → Bool) (x : Pa) : Pa := if has x.id then x else { x with low := 1, high := 100000 }
def liftT (has : Int → Bool) (x : Pa) : Pa := if has x.id then x else { x with low := 0, high := 10000000 }
theorem liftP_same (has : Int → Bool) (x : Pa) : (liftP has x).pack = x.pack ∧ (liftP has x).inn = x.inn ∧ (liftP has x).id = x.id ∧ (liftP has x).kind = x.kind := by unfold liftP; split <;> exact ⟨rfl, rfl, rfl, rfl⟩
theorem liftT_same (has : Int → Bool) (x : Pa) : (liftT has x).pack = x.pack ∧ (liftT has x).count = x.count ∧ (liftT has x).id = x.id ∧ (liftT has x).kind = x.kind := by unfold liftT; split <;> exact ⟨rfl, rfl, rfl, rfl⟩
theorem lift_mani {ps ts : List Pa} (hmo : ManiOk ps ts) (has : Int → Bool) : ManiOk (ps.map (liftP has)) (ts.map (liftT has)) := by
 refine ⟨?_, fun x hx => ?_, fun x hx => ?_, ?_, by rw [List.length_map]; exact hmo.ln, by rw [List.length_map]; exact hmo.lt⟩
 · rw [List.pairwise_map]
   exact hmo.asc.imp (fun {a b} e => by rw [(liftP_same has a).1, (liftP_same has b).1]; exact e)
 · obtain ⟨y, hy, rfl⟩ := List.mem_map.1 hx
   have := hmo.pp y hy
   unfold liftP
   split
   · exact this
   · exact ⟨this.1, this.2.1, by simp, this.2.2.2⟩
 · obtain ⟨y, hy, rfl⟩ := List.mem_map.1 hx
   have := hmo.tt y hy
   unfold liftT
   split
   · exact this
   · exact ⟨this.1, by simp, this.2.2⟩
 · rw [List.pairwise_map]
   exact hmo.tasc.imp (fun {a b} e => by rw [(liftT_same has a).1, (liftT_same has b).1]; exact e)
theorem inside_lift (ps : List Pa) (has : Int → Bool) (p : Int) : insideI (ps.map (liftP has)) p = insideI ps p := by
 unfold insideI
 rw [List.filter_map, List.map_map]
 congr 1
 · funext x; exact (liftP_same has x).1
 · refine List.filter_congr fun x _ => ?_
   simp only [Function.comp, (liftP_same has x).2.1]
theorem ofI_liftP (ps : List Pa) (has : Int → Bool) (p : Int) : ofI (ps.map (liftP has)) p = (ofI ps p).map (liftP has) := by
 unfold ofI
 rw [List.find?_map]
 congr 2
 funext x; simp only [Function.comp, (liftP_same has x).1]
theorem ofI_liftT (ps : List Pa) (has : Int → Bool) (p : Int) : ofI (ps.map (liftT has)) p = (ofI ps p).map (liftT has) := by
 unfold ofI
 rw [List.find?_map]
 congr 2
 funext x; simp only [Function.comp, (liftT_same has x).1]
theorem grow_lift {ps ts : List Pa} (has : Int → Bool) : ∀ (d : Nat) (pack oL oH : Int), growT (ps.map (liftP has)) (ts.map (liftT has)) (fun _ => true) d pack oL oH = growT ps ts has d pack oL oH
 | 0, _, _, _ => rfl
 | d + 1, pack, oL, oH => by
   have e1 : missOf (ofI (ts.map (liftT has)) pack) = missOf (ofI ts pack) := by
    funext n
    rw [ofI_liftT]
    cases ofI ts pack with
    | none => rfl
    | some x => simp only [Option.map_some, missOf, (liftT_same has x).2.1]
   have e2 : sumsOf (fun _ => true) (ofI (ts.map (liftT has)) pack) = sumsOf has (ofI ts pack) := by
    rw [ofI_liftT]
    cases ofI ts pack with
    | none => rfl
    | some x =>
      simp only [Option.map_some, sumsOf, if_true, liftT]
      split <;> rfl
   have e3 : (fun p => growT (ps.map (liftP has)) (ts.map (liftT has)) (fun _ => true) d p (ownOf (fun _ => true) ((ofI (ps.map (liftP has)) p).getD pa0)).1 (ownOf (fun _ => true) ((ofI (ps.map (liftP has)) p).getD pa0)).2) = fun p => growT ps ts has d p (if (ofI ps p).isSome then (ownOf has ((ofI ps p).getD pa0)).1 else 0) (if (ofI ps p).isSome then (ownOf has ((ofI ps p).getD pa0)).2 else 0) := by
    funext p
    rw [grow_lift has d, ofI_liftP]
    cases ofI ps p with
    | none => rfl
    | some x =>
      simp only [Option.map_some, Option.getD_some, ownOf, if_true, liftP, Option.isSome_some]
      split <;> rfl
   have e4 : ∀ {β : Type} {g h : Int → Option β} {l : List Int}, (∀ x ∈ l, g x = h x) → mapO g l = mapO h l := by
    intro β g h l
    induction l with
    | nil => intro _; rfl
    | cons x r ih => intro hh; simp only [mapO, hh x (by simp), ih (fun y hy => hh y (List.mem_cons_of_mem _ hy))]
   simp only [growT]
   rw [inside_lift, e1, e2, e3, e4 (h := fun p => growT ps ts has d p (ownOf has ((ofI ps p).getD pa0)).1 (ownOf has ((ofI ps p).getD pa0)).2)]
   intro p hp
   obtain ⟨x, hx, _, hxp⟩ := inside_mem hp
   have : (ofI ps p).isSome = true := by
    unfold ofI; rw [List.find?_isSome]; exact ⟨x, hx, by simpa using hxp⟩
   simp only [this, if_true]
theorem tree_lift (ps ts : List Pa) (has : Int → Bool) : treeT (ps.map (liftP has)) (ts.map (liftT has)) (fun _ => true) = treeT ps ts has := by
 unfold treeT
 rw [List.length_map, grow_lift]
end Go.Proofs.YtehplmeckfinoaaGreatDoor
