/- A narrower weight widens no end: the plain law (no dump). -/
import Derived.Test.YtleiapljnjaloaaGreatDoorCLeftP
import Derived.Test.YtleiapljnjaloaaGreatDoorCWeights
set_option linter.unusedSimpArgs false
set_option linter.unusedVariables false
namespace Go.Proofs.YtleiapljnjaloaaGreatDoor
def narrowPa (x : Pa) (id known lo hi : Int) : Pa := { x with id := id, known := known, low := lo, high := hi }
theorem voided_not {l : List Pa} {x : Pa} (h : (checkC l).2 = 0) (hf : followsL l x = 0) (known : Int) : voided l known x.id = false := by
 cases e : voided l known x.id with
 | false => rfl
 | true =>
   unfold voided at e
   obtain ⟨v, hv, hd⟩ := List.any_eq_true.1 e
   simp only [decide_eq_true_eq] at hd
   obtain ⟨k1, k2, k3⟩ := hd
   obtain ⟨j, hj⟩ := List.getElem?_of_mem hv
   have hjl := (List.getElem?_eq_some_iff.1 hj).1
   have hg := checkFrom_all l.length 0 h j (by omega) (by omega) v hj
   have hany : (l.take j).any (fun y => decide (y.id = v.of ∧ y.kind ≠ 3)) = true := by
    cases ea : (l.take j).any (fun y => decide (y.id = v.of ∧ y.kind ≠ 3)) with
    | true => rfl
    | false =>
      exfalso
      unfold followsL at hg
      rw [ea] at hg
      simp only [k1, ne_eq, not_true_eq_false, if_false, Bool.false_eq_true, not_false_eq_true, if_true] at hg
      repeat (first | omega | split at hg)
   obtain ⟨y, hy, hd⟩ := List.any_eq_true.1 hany
   simp only [decide_eq_true_eq] at hd
   exact absurd (hd.1.trans k3) (follows_fresh hf y (List.mem_of_mem_take hy))
theorem count_snoc {l : List Pa} {x : Pa} {known : Int} (h : (checkC l).2 = 0) (hf : followsL l x = 0) (hk : x.kind ≠ 3) (hn : x.known ≤ known) : countL (l ++ [x]) known = countL l known ++ [x] := by
 have hv : ∀ i, voided (l ++ [x]) known i = voided l known i := fun i => by
  unfold voided; rw [List.any_append]; simp [hk]
 unfold countL
 simp only [hv]
 rw [List.filter_append]
 congr 1
 rw [List.filter_cons, if_pos (by rw [voided_not h hf known]; simp [hk, hn]), List.filter_nil]
theorem last_snoc {c : List Pa} {x : Pa} {loss : Int} (hl : x.loss = loss) (h2 : x.kind ≠ 2) (t : Bool) (p : Int) : lastOf (c ++ [x]) loss t p = if t = false ∧ x.pack = p then some x else lastOf c loss t p := by
 unfold lastOf
 rw [List.filter_append]
 by_cases hp : t = false ∧ x.pack = p
 · rw [if_pos hp, List.filter_cons, if_pos (by rw [hp.1]; simp [hl, h2, hp.2]), List.filter_nil, List.getLast?_append]
   rfl
 · rw [if_neg hp, List.filter_cons, if_neg (by
    intro hc
    simp only [Bool.and_eq_true, decide_eq_true_eq, beq_iff_eq] at hc
    refine hp ⟨?_, hc.2⟩
    rw [← hc.1.2]; simp [h2]), List.filter_nil, List.append_nil]
theorem filterMap_cong {α β : Type} {f g : α → Option β} : ∀ (l : List α), (∀ x ∈ l, f x = g x) → l.filterMap f = l.filterMap g
 | [], _ => rfl
 | x :: r, h => by rw [List.filterMap_cons, List.filterMap_cons, h x (by simp), filterMap_cong r (fun y hy => h y (List.mem_cons_of_mem _ hy))]
def swapPa (z y : Pa) : Pa := if y.pack = z.pack then z else y
theorem swap_papers {l : List Pa} {x z : Pa} {known loss pack : Int} (h : (checkC l).2 = 0) (hf : followsL l z = 0) (hx : ofI (papersL l known loss) pack = some x)
 (h1 : z.loss = x.loss) (h2 : z.kind = x.kind) (h3 : z.pack = x.pack) (h4 : z.known ≤ known) :
 papersL (l ++ [z]) known loss = (papersL l known loss).map (swapPa z) ∧ totalsL (l ++ [z]) known loss = totalsL l known loss := by
 have hg := (check_good h).1
 obtain ⟨hm, hp⟩ := ofI_mem hx
 unfold papersL papersC at hm
 obtain ⟨p, hpu, e⟩ := List.mem_filterMap.1 hm
 obtain ⟨_, g2, g3, g4, g5⟩ := lastOf_good hg e
 have g6 := (lastOf_mem e).2.1
 have hk2 : x.kind ≠ 2 := by simpa using g4
 have hc := count_snoc (known := known) h hf (by rw [h2]; exact g3) h4
 have hls : ∀ t p, lastOf (countL (l ++ [z]) known) loss t p = if t = false ∧ z.pack = p then some z else lastOf (countL l known) loss t p := fun t p => by
  rw [hc]; exact last_snoc (by rw [h1]; exact g6) (by rw [h2]; exact hk2) t p
 have hzp : z.pack = p := by rw [h3]; exact g5
 constructor
 · unfold papersL papersC
   rw [List.map_filterMap]
   refine filterMap_cong _ fun q hq => ?_
   rw [hls]
   by_cases hqp : z.pack = q
   · rw [if_pos ⟨rfl, hqp⟩, ← hqp, hzp, e]
     simp only [Option.map_some, swapPa]
     rw [if_pos (by rw [g5]; exact hzp.symm)]
   · rw [if_neg (fun hh => hqp hh.2)]
     cases e2 : lastOf (countL l known) loss false q with
     | none => rfl
     | some y =>
       have := (lastOf_good hg e2).2.2.2.2
       simp only [Option.map_some, swapPa]
       rw [if_neg (by rw [this]; exact fun hh => hqp hh.symm)]
 · unfold totalsL totalsC
   refine filterMap_cong _ fun q hq => ?_
   rw [hls, hls]
   simp only [true_and, Bool.true_eq_false, false_and, if_false]
   by_cases hqp : z.pack = q
   · rw [if_pos hqp, ← hqp, hzp, e]
     simp
   · rw [if_neg hqp]
theorem swap_same (z : Pa) {ps : List Pa} {x : Pa} (hx : ofI ps z.pack = some x) (hp : Packs ps) (hi : z.inn = x.inn) : ∀ y ∈ ps, (swapPa z y).pack = y.pack ∧ (swapPa z y).inn = y.inn := by
 intro y hy
 unfold swapPa
 split
 · rename_i e
   have hf := hp.find hy
   rw [e] at hf
   rw [show ofI ps z.pack = some y from hf] at hx
   obtain rfl := Option.some.inj hx
   exact ⟨e.symm, hi⟩
 · exact ⟨rfl, rfl⟩
theorem swap_of (z : Pa) (ps : List Pa) (p : Int) (h : ∀ y ∈ ps, (swapPa z y).pack = y.pack) : ofI (ps.map (swapPa z)) p = (ofI ps p).map (swapPa z) := by
 induction ps with
 | nil => rfl
 | cons y r ih =>
   unfold ofI at ih ⊢
   have hy := h y (by simp)
   by_cases e : y.pack = p
   · rw [List.map_cons, List.find?_cons_of_pos (by simpa [hy] using e), List.find?_cons_of_pos (by simpa using e)]; rfl
   · rw [List.map_cons, List.find?_cons_of_neg (by simpa [hy] using e), List.find?_cons_of_neg (by simpa using e)]
     exact ih (fun q hq => h q (List.mem_cons_of_mem _ hq))
theorem swap_inside (z : Pa) (ps : List Pa) (p : Int) (h : ∀ y ∈ ps, (swapPa z y).pack = y.pack ∧ (swapPa z y).inn = y.inn) : insideI (ps.map (swapPa z)) p = insideI ps p := by
 unfold insideI
 induction ps with
 | nil => rfl
 | cons y r ih =>
   have hy := h y (by simp)
   have ih := ih (fun q hq => h q (List.mem_cons_of_mem _ hq))
   rw [List.map_cons, List.filter_cons, List.filter_cons, hy.2]
   by_cases e : y.inn = p
   · rw [if_pos (by simpa using e), if_pos (by simpa using e), List.map_cons, List.map_cons, ih, hy.1]
   · rw [if_neg (by simpa using e), if_neg (by simpa using e), ih]
def OW (a b : Option Tr) : Prop := (a = none ∧ b = none) ∨ ∃ t t', a = some t ∧ b = some t' ∧ Wid t t' ∧ t'.f.low ≤ t.f.low
theorem mapO_ow {g g' : Int → Option Tr} : ∀ (l : List Int), (∀ x ∈ l, OW (g x) (g' x)) → (mapO g l = none ∧ mapO g' l = none) ∨ ∃ ys ys', mapO g l = some ys ∧ mapO g' l = some ys' ∧ WidL ys ys'
 | [], _ => .inr ⟨[], [], rfl, rfl, .nil⟩
 | x :: r, h => by
   rcases h x (by simp) with ⟨h1, h2⟩ | ⟨t, t', h1, h2, h3, h4⟩
   · left; simp only [mapO, h1, h2, and_self]
   · rcases mapO_ow r (fun y hy => h y (List.mem_cons_of_mem _ hy)) with ⟨e1, e2⟩ | ⟨ys, ys', e1, e2, e3⟩
     · left; simp only [mapO, h1, h2, e1, e2, and_self]
     · right; exact ⟨t :: ys, t' :: ys', by simp only [mapO, h1, e1], by simp only [mapO, h2, e2], .cons h3 h4 e3⟩
theorem grow_swap {ps ts : List Pa} (hp : Packs ps) (z x : Pa) (hx : ofI ps z.pack = some x) (hi : z.inn = x.inn) (hl : x.low ≤ z.low) (hh : z.high ≤ x.high) : ∀ (d : Nat) (pack oL oH oL' oH' : Int), oL' ≤ oL → oH ≤ oH' →
 OW (growT (ps.map (swapPa z)) ts (fun _ => true) d pack oL oH) (growT ps ts (fun _ => true) d pack oL' oH')
 | 0, _, _, _, _, _, _, _ => .inl ⟨rfl, rfl⟩
 | d + 1, pack, oL, oH, oL', oH', h1, h2 => by
   have hs := swap_same z hx hp hi
   have hin := swap_inside z ps pack hs
   have hk := mapO_ow (g := fun p => growT (ps.map (swapPa z)) ts (fun _ => true) d p (ownOf (fun _ => true) ((ofI (ps.map (swapPa z)) p).getD pa0)).1 (ownOf (fun _ => true) ((ofI (ps.map (swapPa z)) p).getD pa0)).2) (g' := fun p => growT ps ts (fun _ => true) d p (ownOf (fun _ => true) ((ofI ps p).getD pa0)).1 (ownOf (fun _ => true) ((ofI ps p).getD pa0)).2) (insideI ps pack) (fun p hpm => by
    refine grow_swap hp z x hx hi hl hh d p _ _ _ _ ?_ ?_
    all_goals
     rw [swap_of z ps p (fun y hy => (hs y hy).1)]
     obtain ⟨y, hy, _, hyp⟩ := inside_mem hpm
     have hf := hp.find hy
     rw [hyp] at hf
     have hf' : ofI ps p = some y := hf
     rw [hf']
     simp only [Option.map_some, Option.getD_some, ownOf, if_true]
     unfold swapPa
     split
     · rename_i e
       rw [← e, hyp, hf'] at hx
       obtain rfl := Option.some.inj hx
       assumption
     · exact Int.le_refl _)
   have e1 : growT (ps.map (swapPa z)) ts (fun _ => true) (d + 1) pack oL oH = match mapO (fun p => growT (ps.map (swapPa z)) ts (fun _ => true) d p (ownOf (fun _ => true) ((ofI (ps.map (swapPa z)) p).getD pa0)).1 (ownOf (fun _ => true) ((ofI (ps.map (swapPa z)) p).getD pa0)).2) (insideI ps pack) with
    | none => none
    | some ks => if missOf (ofI ts pack) ks.length < 0 then none
      else some (.node 0 ⟨pack, oL, oH, (sumsOf (fun _ => true) (ofI ts pack)).1, (sumsOf (fun _ => true) (ofI ts pack)).2, missOf (ofI ts pack) ks.length, 0, 0, 0⟩ ks) := by
    rw [← hin]; rfl
   rw [e1]
   simp only [growT]
   rcases hk with ⟨a1, a2⟩ | ⟨ys, ys', a1, a2, a3⟩
   · rw [a1, a2]; exact .inl ⟨rfl, rfl⟩
   · rw [a1, a2]
     simp only
     have hlen := a3.len
     by_cases hm : missOf (ofI ts pack) ys.length < 0
     · rw [if_pos hm, if_pos (by rw [hlen]; exact hm)]; exact .inl ⟨rfl, rfl⟩
     · rw [if_neg hm, if_neg (by rw [hlen]; exact hm)]
       exact .inr ⟨_, _, rfl, rfl, .node rfl (by simp only; rw [hlen]) h1 h2 (Int.le_refl _) (Int.le_refl _) a3, Int.le_refl _⟩
theorem tree_swap {ps ts : List Pa} (hp : Packs ps) (z x : Pa) (hx : ofI ps z.pack = some x) (hi : z.inn = x.inn) (hl : x.low ≤ z.low) (hh : z.high ≤ x.high) {t' : Tr} (ht : treeT ps ts (fun _ => true) = some t') :
 ∃ t, treeT (ps.map (swapPa z)) ts (fun _ => true) = some t ∧ Wid t t' := by
 unfold treeT at ht ⊢
 rw [List.length_map]
 rcases grow_swap (ts := ts) hp z x hx hi hl hh (ps.length + 1) 0 0 1099511627776 0 1099511627776 (Int.le_refl _) (Int.le_refl _) with ⟨h1, h2⟩ | ⟨t, u, h1, h2, h3, _⟩
 · rw [h2] at ht; cases ht
 · rw [h2] at ht
   simp only at ht
   split at ht
   · rename_i hlen
     cases ht
     rw [h1]
     simp only
     rw [if_pos (by rw [← wid_pre t t' h3]; exact hlen)]
     exact ⟨t, rfl, h3⟩
   · cases ht
theorem WE.none : ∀ {a a' : List Tr} {p : Int}, WE a a' → a.find? (fun k => decide (k.f.pack = p)) = none → a'.find? (fun k => decide (k.f.pack = p)) = none
 | [], _, _, h, _ => by cases h; rfl
 | x :: r, _, p, h, e => by
   cases h with
   | @cons _ x' _ r' hp hl hh hr =>
     by_cases hx : x.f.pack = p
     · rw [List.find?_cons_of_pos (by simpa using hx)] at e; cases e
     · rw [List.find?_cons_of_neg (by simpa using hx)] at e
       rw [List.find?_cons_of_neg (by simpa using fun e => hx (hp.symm.trans e))]
       exact hr.none e
theorem narrows_is {l : List Pa} {x : Pa} {known loss pack id lo hi : Int} (hx : ofI (papersL l known loss) pack = some x) (hw : weighE l known loss true = 0)
 (hf : followsL l (narrowPa x id known lo hi) = 0) (hlo : x.low ≤ lo) (hhi : hi ≤ x.high) :
 (weighE (l ++ [narrowPa x id known lo hi]) known loss true = 0 ∨ weighE (l ++ [narrowPa x id known lo hi]) known loss true = 10) ∧
 (weighE (l ++ [narrowPa x id known lo hi]) known loss true = 0 → (weightsV (l ++ [narrowPa x id known lo hi]) known loss).length = (weightsV l known loss).length ∧
   ∀ (i : Nat) (y : Pa), (weightsV l known loss)[i]? = some y → ∃ q, (weightsV (l ++ [narrowPa x id known lo hi]) known loss)[i]? = some q ∧ q.pack = y.pack ∧ y.low ≤ q.low ∧ q.high ≤ y.high) := by
 obtain ⟨z, hz⟩ : ∃ z, narrowPa x id known lo hi = z := ⟨_, rfl⟩
 have z1 : z.loss = x.loss ∧ z.kind = x.kind ∧ z.pack = x.pack ∧ z.inn = x.inn ∧ z.low = lo ∧ z.high = hi ∧ z.known = known := by subst hz; exact ⟨rfl, rfl, rfl, rfl, rfl, rfl, rfl⟩
 rw [hz] at hf ⊢
 obtain ⟨z1, z2, z3, z4, z5, z6, z7⟩ := z1
 have hr := weigh_root hw
 obtain ⟨h0, _, t', ht⟩ := rootE_zero hr
 have hc := open_check h0
 have hmo := mani_ok (check_good hc).1 known loss
 obtain ⟨hm, hp⟩ := ofI_mem hx
 obtain ⟨s1, s2⟩ := swap_papers hc hf hx z1 z2 z3 (by omega)
 have hx' : ofI (papersL l known loss) z.pack = some x := by rw [z3, hp]; exact hx
 have ht' : treeT (papersL l known loss) (totalsL l known loss) (fun _ => true) = some t' := ht
 obtain ⟨t, h1, h2⟩ := tree_swap hmo.packs z x hx' z4 (by omega) (by omega) ht'
 have hrt : rootT (l ++ [z]) known loss = some t := by unfold rootT; rw [s1, s2]; exact h1
 have ho : openE (l ++ [z]) loss = 0 := by
  unfold openE at h0 ⊢
  rw [if_pos hc] at h0
  rw [if_pos (check_snoc hc hf)]
  exact h0
 have hre : rootE (l ++ [z]) known loss true = 0 := by
  unfold rootE
  rw [if_pos ho, if_pos rfl, if_pos (by show (rootT (l ++ [z]) known loss).isSome = true; rw [hrt]; rfl)]
 have hwe : weighE (l ++ [z]) known loss true = if (solveT t).isSome then 0 else 10 := by
  unfold weighE; rw [if_pos hre, hrt]; rfl
 refine ⟨by rw [hwe]; split <;> simp, fun hz0 => ?_⟩
 rw [hwe] at hz0
 obtain ⟨s, hs⟩ : ∃ s, solveT t = some s := by
  cases e : solveT t with
  | none => rw [e] at hz0; simp at hz0
  | some s => exact ⟨s, rfl⟩
 obtain ⟨s', hs', hwe'⟩ := wid_solve h2 hs
 have hv1 : weightsV l known loss = weightsL l known loss := by unfold weightsV; rw [if_pos hw]
 have hv2 : weightsV (l ++ [z]) known loss = weightsL (l ++ [z]) known loss := by unfold weightsV; rw [if_pos (by rw [hwe, hs]; rfl)]
 have hsw := swap_same z hx' hmo.packs z4
 have hp1 : ∀ p, weighP l known loss p = ((nodeF (findT s' p)).endL, (nodeF (findT s' p)).endH) := fun p => by unfold weighP; rw [ht]; simp only [Option.bind_some, hs']
 have hp2 : ∀ p, weighP (l ++ [z]) known loss p = ((nodeF (findT s p)).endL, (nodeF (findT s p)).endH) := fun p => by unfold weighP; rw [hrt]; simp only [Option.bind_some, hs]
 have hpp : ∀ p, (weighP l known loss p).1 ≤ (weighP (l ++ [z]) known loss p).1 ∧ (weighP (l ++ [z]) known loss p).2 ≤ (weighP l known loss p).2 := fun p => by
  rw [hp1, hp2]
  unfold findT
  cases e : s.pre.find? (fun k => decide (k.f.pack = p)) with
  | none => rw [hwe'.none e]; exact ⟨Int.le_refl _, Int.le_refl _⟩
  | some k =>
    obtain ⟨k', g1, g2, g3⟩ := hwe'.find e
    rw [g1]
    exact ⟨g2, g3⟩
 rw [hv1, hv2]
 unfold weightsL
 rw [s1]
 refine ⟨by simp, fun i y hy => ?_⟩
 rw [List.getElem?_map] at hy
 cases e : (papersL l known loss)[i]? with
 | none => rw [e] at hy; cases hy
 | some v =>
   rw [e] at hy
   simp only [Option.map_some, Option.some.injEq] at hy
   subst hy
   obtain ⟨q1, _⟩ := hsw v (List.mem_of_getElem? e)
   refine ⟨withEnds (swapPa z v) (weighP (l ++ [z]) known loss (swapPa z v).pack), by rw [List.getElem?_map, List.getElem?_map, e]; rfl, q1, ?_, ?_⟩
   · show (weighP l known loss v.pack).1 ≤ (weighP (l ++ [z]) known loss (swapPa z v).pack).1
     rw [q1]; exact (hpp _).1
   · show (weighP (l ++ [z]) known loss (swapPa z v).pack).2 ≤ (weighP l known loss v.pack).2
     rw [q1]; exact (hpp _).2
end Go.Proofs.YtleiapljnjaloaaGreatDoor
