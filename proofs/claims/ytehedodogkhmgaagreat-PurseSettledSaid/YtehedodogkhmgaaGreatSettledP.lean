/- When all that is due can be settled: the plain law side of PurseSettled. -/
import Derived.Test.YtehedodogkhmgaaGreatCovered
import Derived.Test.YtehedodogkhmgaaGreatSettling
set_option linter.unusedSimpArgs false
set_option linter.unusedVariables false
namespace Go.Proofs.YtehedodogkhmgaaGreat
open Go.RowKit Go.Shelf

/-- what a parcel's causes say of a list of postings -/
def badAt (xs : List Po) (k : Int) (y : Ca) (p : Po) : Bool := decide (p.kind = 2 ∧ p.parcel = k ∧ y.known ≤ p.known)
def badC (xs : List Po) (k : Int) (y : Ca) : Bool := decide (y.parcel = k) && xs.any (badAt xs k y)
def foundStep (k h : Int) (f : Bool) (y : Ca) : Bool := if y.parcel = k then decide (y.known ≤ h) else f
def foundC (c : List Ca) (k h : Int) : Bool := c.foldl (foundStep k h) false
def causedB (xs : List Po) (c : List Ca) (k h : Int) : Bool := !(c.any (badC xs k)) && foundC c k h
theorem found_some (k h : Int) : ∀ (c : List Ca) (f : Bool), c.foldl (foundStep k h) f = true → f = true ∨ ∃ y ∈ c, y.parcel = k ∧ y.known ≤ h
  | [], f, e => .inl e
  | y :: r, f, e => by
    rw [List.foldl_cons] at e
    rcases found_some k h r _ e with e1 | ⟨z, hz, e1⟩
    · unfold foundStep at e1
      by_cases hk : y.parcel = k
      · rw [if_pos hk] at e1
        exact .inr ⟨y, by simp, hk, by simpa using e1⟩
      · rw [if_neg hk] at e1; exact .inl e1
    · exact .inr ⟨z, by simp [hz], e1⟩
/-- a caused parcel has a cause that is later than all payments for it -/
theorem caused_some {xs : List Po} {c : List Ca} {k h : Int} (e : causedB xs c k h = true) : ∃ y, causeL c k h = some y ∧ ∀ p ∈ xs, p.kind = 2 → p.parcel = k → p.known < y.known := by
  unfold causedB at e
  simp only [Bool.and_eq_true, Bool.not_eq_true', List.any_eq_false] at e
  obtain ⟨e1, e2⟩ := e
  rcases found_some k h c false e2 with e3 | ⟨y, hy, e3, e4⟩
  · cases e3
  have : (c.find? (isCause k h)).isSome = true := by
    rw [List.find?_isSome]
    exact ⟨y, hy, by simp [isCause, e3, e4]⟩
  obtain ⟨z, hz⟩ := Option.isSome_iff_exists.1 this
  refine ⟨z, hz, fun p hp h1 h2 => ?_⟩
  have hm := List.mem_of_find?_eq_some hz
  have hs := List.find?_some hz
  have hzk : z.parcel = k := by
    unfold isCause at hs
    have := of_decide_eq_true hs
    exact this.1
  have hb := e1 z hm
  unfold badC at hb
  rw [Bool.and_eq_true] at hb
  have hb2 : ¬ xs.any (badAt xs k z) = true := fun e => hb ⟨by simpa using hzk, e⟩
  rw [List.any_eq_true] at hb2
  refine Classical.byContradiction fun hlt => hb2 ⟨p, hp, ?_⟩
  unfold badAt
  exact decide_eq_true ⟨h1, h2, by omega⟩

theorem last_some (who what : Int) {p : Po} : ∀ (r : List Po) (o : Option Po), r.foldl (lastStep who what) o = some p → o = some p ∨ (p ∈ r ∧ p.kind = 2 ∧ p.party = who ∧ p.parcel = what)
  | [], o, e => .inl e
  | q :: r, o, e => by
    rw [List.foldl_cons] at e
    rcases last_some who what r _ e with e1 | ⟨e1, e2⟩
    · unfold lastStep at e1
      by_cases h : q.kind = 2 ∧ q.party = who ∧ q.parcel = what
      · rw [if_pos h] at e1
        cases e1
        exact .inr ⟨by simp, h⟩
      · rw [if_neg h] at e1; exact .inl e1
    · exact .inr ⟨by simp [e1], e2⟩
theorem last_none (who what : Int) : ∀ (r : List Po) (o : Option Po), r.foldl (lastStep who what) o = none → ∀ p ∈ r, ¬ (p.kind = 2 ∧ p.party = who ∧ p.parcel = what)
  | [], o, e, p, hp => by simp at hp
  | q :: r, o, e, p, hp => by
    rw [List.foldl_cons] at e
    rcases List.mem_cons.1 hp with rfl | hp
    · intro h
      have e0 : lastStep who what o p = some p := by unfold lastStep; rw [if_pos h]
      rw [e0] at e
      have : ∀ (l : List Po) (z : Po), l.foldl (lastStep who what) (some z) ≠ none := by
        intro l
        induction l with
        | nil => intro z e; cases e
        | cons y l ih =>
          intro z
          rw [List.foldl_cons]
          unfold lastStep
          split
          · exact ih y
          · exact ih z
      exact this r p e
    · exact last_none who what r _ e p hp
theorem has_le (who what : Int) : ∀ (r : List Po) (n : Int), (∀ p ∈ r, ¬ (p.kind = 2 ∧ p.party = who ∧ p.parcel = what)) → (∀ p ∈ r, 0 ≤ p.amount) → r.foldl (hasStep who what) n ≤ n
  | [], n, _, _ => Int.le_refl _
  | q :: r, n, h, h0 => by
    rw [List.foldl_cons]
    have h1 := h q (by simp)
    have h2 := h0 q (by simp)
    have ih := has_le who what r (hasStep who what n q) (fun p hp => h p (by simp [hp])) (fun p hp => h0 p (by simp [hp]))
    have hs : hasStep who what n q ≤ n := by
      unfold hasStep
      by_cases a1 : q.party = who ∧ q.parcel = what
      · rw [if_pos a1, if_neg (fun e => h1 ⟨e, a1⟩)]
        split <;> omega
      · rw [if_neg a1]; exact Int.le_refl _
    omega
theorem last_of_has {xs : List Po} (hok : Okl xs) {who what : Int} (h : 0 < hasL xs who what) : ∃ p ∈ xs, p.kind = 2 ∧ p.parcel = what ∧ lastL xs who what = some p := by
  cases hl : lastL xs who what with
  | none =>
    exfalso
    have h1 := last_none who what xs none hl
    have h2 := has_le who what xs 0 h1 (fun p hp => by have := hok p hp; unfold okPo at this; omega)
    unfold hasL at h
    omega
  | some p =>
    rcases last_some who what xs none hl with e | ⟨e1, e2, e3, e4⟩
    · cases e
    · exact ⟨p, e1, e2, e4, rfl⟩

/-- a settling appends no sale -/
theorem out_backs (xs : List Po) (c : List Ca) (h : Int) : ∀ (l : List Du) (s : SSt), (∀ p ∈ s.out, ¬ p.kind = 1) → ∀ p ∈ (l.foldl (backStep xs c h) s).out, ¬ p.kind = 1
  | [], s, hs => hs
  | x :: r, s, hs => by
    rw [List.foldl_cons]
    refine out_backs xs c h r _ ?_
    cases hy : causeL c x.parcel h with
    | none => rw [backStep_none hy]; exact hs
    | some y =>
      by_cases hk : ((lastL xs x.party x.parcel).getD zPo).known < y.known
      · rw [backStep_yes hy hk]
        intro p hp
        rcases List.mem_append.1 hp with hp | hp
        · exact hs p hp
        · rw [List.mem_singleton.1 hp]; show ¬ (3 : Int) = 1; omega
      · rw [backStep_not hy hk]; exact hs
theorem out_pays (c : List Ca) (h : Int) : ∀ (l : List Du) (s : SSt), (∀ p ∈ s.out, ¬ p.kind = 1) → ∀ p ∈ (l.foldl (payStep c h) s).out, ¬ p.kind = 1
  | [], s, hs => hs
  | x :: r, s, hs => by
    rw [List.foldl_cons]
    refine out_pays c h r _ ?_
    cases hy : causeL c x.parcel h with
    | none => rw [payStep_none hy]; exact hs
    | some y =>
      by_cases hk : 0 < min x.amount (s.held x.parcel)
      · rw [payStep_yes hy hk]
        intro p hp
        rcases List.mem_append.1 hp with hp | hp
        · exact hs p hp
        · rw [List.mem_singleton.1 hp]; show ¬ (2 : Int) = 1; omega
      · rw [payStep_not hy hk]; exact hs
theorem sold_app (k : Int) : ∀ (r : List Po) (n : Int), (∀ p ∈ r, ¬ p.kind = 1) → r.foldl (soldStep k) n = n
  | [], n, _ => rfl
  | p :: r, n, h => by
    rw [List.foldl_cons]
    have : soldStep k n p = n := by unfold soldStep; rw [if_neg (fun e => h p (by simp) e.1)]
    rw [this]
    exact sold_app k r n (fun q hq => h q (by simp [hq]))
theorem sold_settle (xs : List Po) (d : List Du) (c : List Ca) (h k : Int) : soldL (xs ++ (settleSt xs d c h).out) k = soldL xs k := by
  unfold soldL
  rw [List.foldl_append]
  exact sold_app k _ _ (out_pays c h _ _ (out_backs xs c h _ _ (by simp)))

/-- sums over the parties -/
def sumTo (f : Int → Int) : Nat → Int
  | 0 => 0
  | m + 1 => sumTo f m + f m
theorem paidTo_sum (xs : List Po) (k : Int) : ∀ m, paidTo xs k m = sumTo (fun i => hasL xs i k) m
  | 0 => rfl
  | m + 1 => by simp only [paidTo, sumTo]; rw [paidTo_sum xs k m]
theorem sumTo_le (f g : Int → Int) : ∀ (m : Nat), (∀ i : Nat, i < m → f i ≤ g i) → sumTo f m ≤ sumTo g m
  | 0, _ => Int.le_refl _
  | m + 1, h => by
    have h1 := sumTo_le f g m (fun i hi => h i (by omega))
    have h2 := h m (by omega)
    simp only [sumTo]
    omega
theorem sumTo_lt (f g : Int → Int) (w : Nat) : ∀ (m : Nat), (∀ i : Nat, i < m → f i ≤ g i) → w < m → f w < g w → sumTo f m < sumTo g m
  | 0, _, hw, _ => by omega
  | m + 1, h, hw, hl => by
    have h2 := h m (by omega)
    simp only [sumTo]
    by_cases e : w = m
    · subst e
      have h1 := sumTo_le f g w (fun i hi => h i (by omega))
      omega
    · have h1 := sumTo_lt f g w m (fun i hi => h i (by omega)) (by omega) hl
      omega
theorem sumTo_upd (f : Int → Int) (w : Nat) (v : Int) : ∀ (m : Nat), sumTo (fun i => if i = (w : Int) then f i + v else f i) m = sumTo f m + if w < m then v else 0
  | 0 => by simp [sumTo]
  | m + 1 => by
    simp only [sumTo]
    rw [sumTo_upd f w v m]
    by_cases e : w = m
    · subst e
      rw [if_pos rfl, if_neg (by omega), if_pos (by omega)]
      omega
    · rw [if_neg (show ¬ (m : Int) = (w : Int) by omega)]
      by_cases h : w < m
      · rw [if_pos h, if_pos (by omega)]; omega
      · rw [if_neg h, if_neg (by omega)]; omega
theorem sumTo_congr (f g : Int → Int) : ∀ (m : Nat), (∀ i : Nat, i < m → f i = g i) → sumTo f m = sumTo g m
  | 0, _ => rfl
  | m + 1, h => by
    simp only [sumTo]
    rw [sumTo_congr f g m (fun i hi => h i (by omega)), h m (by omega)]
theorem due_sum_aux (k : Int) : ∀ (r pre : List Du), ((pre ++ r).map accOf).Nodup → (∀ x ∈ pre ++ r, 0 ≤ x.party ∧ x.party ≤ 40) → sumTo (fun i => getI (dueM pre) (k, i)) 41 = dueSum pre k → sumTo (fun i => getI (dueM (pre ++ r)) (k, i)) 41 = dueSum (pre ++ r) k
  | [], pre, _, _, h => by simpa using h
  | x :: r, pre, hn, hp, h => by
    have hx := hp x (by simp)
    have hnot : accOf x ∉ pre.map accOf := nodup_mid hn rfl
    have hn2 : ((pre ++ [x]).map accOf).Nodup := hn.sublist (by rw [List.map_append, List.map_append]; exact List.Sublist.append (List.Sublist.refl _) (by simp))
    have hpre : (pre.map accOf).Nodup := hn2.sublist (by rw [List.map_append]; exact List.sublist_append_left _ _)
    have h0 : getI (dueM pre) (accOf x) = 0 := by
      have := (dueM_fold pre [] hpre).2 (accOf x) hnot
      exact this
    obtain ⟨w, hw⟩ := Int.eq_ofNat_of_zero_le hx.1
    have h1 : sumTo (fun i => getI (dueM (pre ++ [x])) (k, i)) 41 = dueSum (pre ++ [x]) k := by
      rw [dueSum_snoc, ← h]
      unfold dueStep
      by_cases hk : x.parcel = k
      · subst hk
        rw [if_pos rfl, sumTo_congr _ (fun i => if i = (w : Int) then getI (dueM pre) (x.parcel, i) + x.amount else getI (dueM pre) (x.parcel, i)) 41 (fun i _ => ?_), sumTo_upd (fun i => getI (dueM pre) (x.parcel, i)) w x.amount 41, if_pos (by omega)]
        rw [dueM_snoc]
        by_cases e : (i : Int) = (w : Int)
        · have e0 : getI (dueM pre) (x.parcel, x.party) = 0 := h0
          rw [hw] at e0 ⊢
          rw [if_pos e, e, getI_mput, e0]; omega
        · rw [if_neg e, getI_mput_ne]
          intro e2
          injection e2 with _ e3
          omega
      · rw [if_neg hk]
        refine sumTo_congr _ _ 41 (fun i _ => ?_)
        rw [dueM_snoc, getI_mput_ne]
        intro e2
        injection e2 with e3 _
        exact hk e3
    have := due_sum_aux k r (pre ++ [x]) (by simpa using hn) (by simpa using hp) h1
    simpa using this
theorem due_sum {d : List Du} (hcd : chkDu d = 0) (k : Int) : sumTo (fun i => getI (dueM d) (k, i)) 41 = dueSum d k := by
  have hd := goodB_all (chkDu_ok hcd).2
  have := due_sum_aux k d [] (by simpa using dues_nodup hcd) (fun x hx => (okDu_facts (hd x (by simpa using hx))).2.1) (by
    unfold dueM dueSum
    simp only [List.foldl_nil]
    have : ∀ m, sumTo (fun i => getI ([] : List ((Int × Int) × Int)) (k, i)) m = 0 := by
      intro m
      induction m with
      | zero => rfl
      | succ m ih => simp only [sumTo]; rw [ih]; rfl
    exact this 41)
  simpa using this

/-- when every parcel that matters is caused and none is covered, all is settled -/
theorem settled_behind {xs : List Po} {d : List Du} {c : List Ca} {h : Int} (he : settleE xs d c h = 0) (hcov : covR xs d = [])
    (h1 : ∀ x ∈ d, 0 < x.amount → causedB xs c x.parcel h = true) (h2 : ∀ k ∈ parcelsL xs, (∃ who, 0 ≤ who ∧ who ≤ 40 ∧ hasL xs who k ≠ 0) → causedB xs c k h = true) :
    cmpE (xs ++ (settleSt xs d c h).out) d = 0 ∧ openL (xs ++ (settleSt xs d c h).out) d = [] ∧ overM (xs ++ (settleSt xs d c h).out) d = [] := by
  obtain ⟨⟨hbook, hh, hcd, hcc, hlh⟩, hl⟩ := settleE_zero he
  obtain ⟨s0, hb⟩ := book_bk hbook
  obtain ⟨hB, hP⟩ := settl hbook hcd (chkCa_all hcc) hh hlh hl
  have hd := goodB_all (chkDu_ok hcd).2
  have hover : overM (xs ++ (settleSt xs d c h).out) d = [] := by
    refine List.eq_nil_iff_forall_not_mem.2 fun z hz => ?_
    obtain ⟨hzx, hnb⟩ := after_over hb hcd hB hP hz
    obtain ⟨e1, e2, e3⟩ := overM_facts hzx
    have hdue := (dueM_bd hd (accOf z)).1
    have hpos : 0 < hasL xs z.party z.parcel := by omega
    obtain ⟨hpt, q, hq, hqp⟩ := hasL_ne hb.okl (show hasL xs z.party z.parcel ≠ 0 by omega)
    have hcz := h2 z.parcel ((parcelsL_mem xs z.parcel).2 ⟨q, hq, hqp⟩) ⟨z.party, hpt.1, hpt.2, by omega⟩
    obtain ⟨y, hy, hlate⟩ := caused_some hcz
    obtain ⟨p, hp, p1, p2, p3⟩ := last_of_has hb.okl hpos
    refine hnb ⟨y, hy, ?_⟩
    have hfar := (hP.far (accOf z) (fun hm => ?_)).2
    · show ((lastL (xs ++ (settleSt xs d c h).out) (accOf z).2 (accOf z).1).getD zPo).known < y.known
      rw [hfar]
      show ((lastL xs z.party z.parcel).getD zPo).known < y.known
      rw [p3]
      exact hlate p hp p1 p2
    · obtain ⟨x, hx, hxe⟩ := List.mem_map.1 hm
      have := over_open hcd hx
      rw [hxe] at this
      exact this (List.mem_map.2 ⟨z, hzx, rfl⟩)
  refine ⟨?_, ?_, hover⟩
  · unfold cmpE
    rw [if_pos hP.bk]; exact hcd
  refine List.eq_nil_iff_forall_not_mem.2 fun z hz => ?_
  obtain ⟨e, hed, e1, e2, e3⟩ := openL_facts hz
  obtain ⟨a1, a2⟩ := accOf_eq e1
  obtain ⟨s1, hb1⟩ := book_bk hP.bk
  have hz0 := hb1.has0 z.party z.parcel
  have hce := h1 e hed (by omega)
  rw [a1] at hce
  obtain ⟨y, hy, _⟩ := caused_some hce
  rcases after_open hcd hB hP hz with h3 | h3
  · rw [hy] at h3; cases h3
  have hsold := sold_settle xs d c h z.parcel
  have hcv : dueSum d z.parcel ≤ soldL xs z.parcel := by
    refine Classical.byContradiction fun hlt => ?_
    have : z.parcel ∈ covR xs d := (covFold_mem xs d z.parcel d []).2 (.inr ⟨⟨e, hed, a1⟩, by omega⟩)
    rw [hcov] at this
    simp at this
  have hpt := (okDu_facts (hd e hed)).2.1
  obtain ⟨w, hw⟩ := Int.eq_ofNat_of_zero_le (show 0 ≤ z.party by omega)
  have hlt : sumTo (fun i => hasL (xs ++ (settleSt xs d c h).out) i z.parcel) 41 < sumTo (fun i => getI (dueM d) (z.parcel, i)) 41 := by
    refine sumTo_lt _ _ w 41 (fun i hi => ?_) (by omega) ?_
    · refine Classical.byContradiction fun hgt => ?_
      have hdue := (dueM_bd hd (z.parcel, (i : Int))).1
      have hov : (overStep (xs ++ (settleSt xs d c h).out) d (z.parcel, (i : Int))).isSome = true := by
        unfold overStep
        rw [if_pos (by dsimp only at hgt ⊢; omega)]; rfl
      obtain ⟨v, hv⟩ := Option.isSome_iff_exists.1 hov
      have hm : v ∈ overM (xs ++ (settleSt xs d c h).out) d := List.mem_filterMap.2 ⟨(z.parcel, (i : Int)), (accL_mem hb1.okl _).2 (by dsimp only at hgt ⊢; omega), hv⟩
      rw [hover] at hm
      simp at hm
    · have hdue := dueM_at hcd hed
      rw [e1] at hdue
      have h5 : getI (dueM d) (z.parcel, (w : Int)) = e.amount := by rw [← hw]; exact hdue
      have h6 : hasL (xs ++ (settleSt xs d c h).out) (w : Int) z.parcel = hasL (xs ++ (settleSt xs d c h).out) z.party z.parcel := by rw [hw]
      show hasL (xs ++ (settleSt xs d c h).out) (w : Int) z.parcel < getI (dueM d) (z.parcel, (w : Int))
      omega
  rw [due_sum hcd, ← paidTo_sum] at hlt
  unfold heldL at h3
  omega
end Go.Proofs.YtehedodogkhmgaaGreat
