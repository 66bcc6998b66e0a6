/- The reference's settling comes to the program's. No program in sight. -/
import Derived.Test.YtehedodogkhmgaaGreatSettling
import Derived.Test.YtehedodogkhmgaaGreatRefK
set_option linter.unusedSimpArgs false
set_option linter.unusedVariables false
namespace Go.Proofs.YtehedodogkhmgaaGreat

theorem dueL_eq {d : List Du} (h : chkDu d = 0) (who what : Int) : dueL d who what = getI (dueM d) (what, who) := by
  unfold dueL
  cases hf : d.find? (isDue who what) with
  | some x =>
    have h1 := List.find?_some hf
    have h2 := List.mem_of_find?_eq_some hf
    unfold isDue at h1
    have h3 := of_decide_eq_true h1
    have := dueM_at h h2
    rw [show accOf x = (what, who) by unfold accOf; rw [h3.1, h3.2]] at this
    exact this.symm
  | none =>
    have h1 := List.find?_eq_none.1 hf
    have h2 := (dueM_fold d [] (dues_nodup h)).2 (what, who) (fun hm => by
      obtain ⟨x, hx, e⟩ := List.mem_map.1 hm
      have := h1 x hx
      unfold accOf at e
      injection e with e1 e2
      simp [isDue, e1, e2] at this)
    have h3 : getI (dueM d) (what, who) = 0 := h2
    rw [h3]
theorem overRow_eq {xs : List Po} {d : List Du} (h : chkDu d = 0) (what : Int) : overRow xs d 41 what = (rowL xs what).filterMap (overStep xs d) := by
  unfold overRow rowL
  rw [List.filterMap_filterMap]
  congr 1
  funext who
  unfold overOne
  have hd := goodB_all (chkDu_ok h).2
  have h0 : 0 ≤ getI (dueM d) (what, (who : Int)) := (dueM_bd hd _).1
  rw [dueL_eq h]
  by_cases hz : hasL xs who what = 0
  · rw [if_neg (by omega), if_pos hz]; rfl
  · rw [if_neg hz]; rfl
theorem overR_eq {xs : List Po} {d : List Du} (h : chkDu d = 0) : overR xs d = overM xs d := by
  unfold overR overM accL
  rw [List.filterMap_flatMap]
  congr 1
  funext what
  exact overRow_eq h what

theorem causes_pairwise : ∀ (c : List Ca) (prev : Option Ca), goodB okCa ltCa prev c = true → (∀ q, prev = some q → ∀ x ∈ c, q.parcel < x.parcel) ∧ c.Pairwise (fun a b => a.parcel < b.parcel)
  | [], prev, _ => ⟨fun _ _ x hx => by simp at hx, List.Pairwise.nil⟩
  | x :: r, prev, h => by
    have hok : okCa x = true := goodB_all h x (by simp)
    have hr : goodB okCa ltCa (some x) r = true := by
      cases prev with
      | none => rwa [goodB_none hok] at h
      | some q =>
        cases hl : ltCa q x with
        | true => rwa [goodB_some hok hl] at h
        | false => rw [goodB_not hl] at h; cases h
    obtain ⟨h1, h2⟩ := causes_pairwise r (some x) hr
    have h1x := h1 x rfl
    refine ⟨fun q e => ?_, List.pairwise_cons.2 ⟨h1x, h2⟩⟩
    subst e
    have hqx : q.parcel < x.parcel := by
      cases hl : ltCa q x with
      | true => unfold ltCa at hl; exact of_decide_eq_true hl
      | false => rw [goodB_not hl] at h; cases h
    intro z hz
    rcases List.mem_cons.1 hz with rfl | hz
    · exact hqx
    · have := h1x z hz; omega
theorem find_two : ∀ (c : List Ca) (what h : Int), c.Pairwise (fun a b => a.parcel < b.parcel) → c.find? (isCause what h) = (c.find? (isFor what)).bind fun y => if y.known ≤ h then some y else none
  | [], _, _, _ => rfl
  | x :: r, what, h, hp => by
    rw [List.pairwise_cons] at hp
    by_cases h1 : x.parcel = what
    · have e1 : isFor what x = true := by simp [isFor, h1]
      rw [List.find?_cons_of_pos (p := isFor what) (by exact e1)]
      by_cases h2 : x.known ≤ h
      · rw [List.find?_cons_of_pos (p := isCause what h) (by simp [isCause, h1, h2])]
        simp [h2]
      · rw [List.find?_cons_of_neg (by simp [isCause, h2])]
        have : r.find? (isCause what h) = none := List.find?_eq_none.2 fun y hy => by
          have := hp.1 y hy
          simp [isCause]; omega
        rw [this]; simp [h2]
    · rw [List.find?_cons_of_neg (by simp [isCause, h1]), List.find?_cons_of_neg (by simp [isFor, h1])]
      exact find_two r what h hp.2
theorem causeL_eq {c : List Ca} (h : chkCa c = 0) (what t : Int) : causeL c what t = (causeR c what).bind fun y => if y.known ≤ t then some y else none := by
  unfold chkCa listL at h
  by_cases h1 : 400 < c.length
  · rw [if_pos h1] at h; omega
  rw [if_neg h1] at h
  by_cases h2 : goodB okCa ltCa none c = true
  · exact find_two c what t (causes_pairwise c none h2).2
  · rw [if_neg h2] at h; omega

/-- the reference's state: the next number, the postings -/
def rBack (xs : List Po) (c : List Ca) (h : Int) (s : Int × List Po) (x : Du) : Int × List Po :=
  match causeR c x.parcel with
  | none => s
  | some y => if y.known ≤ h ∧ ((lastL xs x.party x.parcel).getD zPo).known < y.known then (s.1 + 1, s.2 ++ [postP h 3 x y s.1]) else s
def rN (now : List Po) (e : Du) : Int := min (e.amount - hasL now e.party e.parcel) (heldL now e.parcel)
def rPay (c : List Ca) (h : Int) (s : Int × List Po) (e : Du) : Int × List Po :=
  match causeR c e.parcel with
  | none => s
  | some y => if y.known ≤ h ∧ 0 < rN s.2 e then (s.1 + 1, s.2 ++ [postP h 2 ⟨e.party, e.parcel, rN s.2 e⟩ y s.1]) else s
def rBacks (xs : List Po) (d : List Du) (c : List Ca) (h : Int) : Int × List Po := (overM xs d).foldl (rBack xs c h) (idMax xs + 1, xs)
def rSettle (xs : List Po) (d : List Du) (c : List Ca) (h : Int) : Int × List Po := d.foldl (rPay c h) (rBacks xs d c h)
def refOf (xs : List Po) (s : SSt) : Int × List Po := (s.id + 1, xs ++ s.out)

theorem rBack_eq {xs : List Po} {c : List Ca} (hc : chkCa c = 0) {h : Int} (s : SSt) (x : Du) : rBack xs c h (refOf xs s) x = refOf xs (backStep xs c h s x) := by
  have hl := causeL_eq hc x.parcel h
  unfold rBack
  cases hr : causeR c x.parcel with
  | none => rw [hr] at hl; rw [backStep_none hl]
  | some y =>
    rw [hr] at hl
    by_cases h1 : y.known ≤ h
    · have hl' : causeL c x.parcel h = some y := by rw [hl]; simp [h1]
      by_cases h2 : ((lastL xs x.party x.parcel).getD zPo).known < y.known
      · rw [backStep_yes hl' h2]
        dsimp only
        rw [if_pos ⟨h1, h2⟩]
        simp [refOf]
      · rw [backStep_not hl' h2]
        dsimp only
        rw [if_neg (fun e => h2 e.2)]
    · have hl' : causeL c x.parcel h = none := by rw [hl]; simp [h1]
      rw [backStep_none hl']
      dsimp only
      rw [if_neg (fun e => h1 e.1)]
theorem rBacks_eq {xs : List Po} {d : List Du} {c : List Ca} (hc : chkCa c = 0) (h : Int) : rBacks xs d c h = refOf xs (backSt xs d c h) := by
  have : ∀ (l : List Du) (s : SSt), l.foldl (rBack xs c h) (refOf xs s) = refOf xs (l.foldl (backStep xs c h) s) := by
    intro l
    induction l with
    | nil => intro s; rfl
    | cons x r ih => intro s; rw [List.foldl_cons, rBack_eq hc, ih]; rfl
  have h1 := this (overM xs d) ⟨idMax xs, [], heldL xs⟩
  unfold rBacks backSt
  rw [← h1]
  simp [refOf]

/-- what is true of a settling whatever its size -/
structure BW (xs : List Po) (d : List Du) (pre : List Du) (s : SSt) : Prop where
  held : ∀ k, s.held k = heldL (xs ++ s.out) k
  far : ∀ a : Int × Int, a ∉ pre.map accOf → hasL (xs ++ s.out) a.2 a.1 = hasL xs a.2 a.1
  near : ∀ a ∈ pre.map accOf, hasL (xs ++ s.out) a.2 a.1 = getI (dueM d) a ∨ hasL (xs ++ s.out) a.2 a.1 = hasL xs a.2 a.1
theorem BW.skip {xs : List Po} {d pre : List Du} {s : SSt} (i : BW xs d pre s) {x : Du} (hx : accOf x ∉ pre.map accOf) : BW xs d (pre ++ [x]) s := by
  refine ⟨i.held, fun a ha => i.far a (fun e => ha (by simp at e ⊢; exact .inl e)), fun a ha => ?_⟩
  rw [List.map_append, List.mem_append] at ha
  rcases ha with ha | ha
  · exact i.near a ha
  · have : a = accOf x := by simpa using ha
    subst this
    exact .inr (i.far _ hx)
theorem bw_backs {s0 : Ch} {xs : List Po} {d : List Du} {c : List Ca} {h : Int} (hb : Bk s0 xs) : BW xs d (overM xs d) (backSt xs d c h) := by
  have H := foldl_ind (backStep xs c h) (fun pre s => BW xs d pre s) (overM xs d) [] ⟨idMax xs, [], heldL xs⟩ ⟨by simp, by simp, by simp⟩ ?_
  · simpa [backSt] using H
  intro pre x post s he i
  rw [List.nil_append] at he
  have hx := nodup_mid (overM_nodup xs d) he
  have hm : x ∈ overM xs d := by rw [he]; simp
  cases hy : causeL c x.parcel h with
  | none => rw [backStep_none hy]; exact i.skip hx
  | some y =>
    by_cases hk : ((lastL xs x.party x.parcel).getD zPo).known < y.known
    case neg => rw [backStep_not hy hk]; exact i.skip hx
    rw [backStep_yes hy hk]
    obtain ⟨e1, e2, e3⟩ := overM_facts hm
    have hpt := (hasL_ne hb.okl ((accL_mem hb.okl (accOf x)).1 e3)).1
    have hpt' : 0 ≤ x.party ∧ x.party ≤ 40 := hpt
    refine ⟨fun k => ?_, fun a ha => ?_, fun a ha => ?_⟩
    · show (if x.parcel = k then s.held k + x.amount else s.held k) = heldL (xs ++ (s.out ++ [_])) k
      rw [← List.append_assoc, held_post _ (.inr rfl) hpt', move3, i.held]
      by_cases e : x.parcel = k
      · rw [if_pos e, if_pos e]; omega
      · rw [if_neg e, if_neg e]
    · show hasL (xs ++ (s.out ++ [_])) a.2 a.1 = _
      rw [List.map_append, List.mem_append] at ha
      rw [← List.append_assoc, has_post, if_neg (fun e => ha (.inr (by simp [e])))]
      exact i.far a (fun e => ha (.inl e))
    · show hasL (xs ++ (s.out ++ [_])) a.2 a.1 = _ ∨ hasL (xs ++ (s.out ++ [_])) a.2 a.1 = _
      rw [← List.append_assoc, has_post]
      by_cases e : accOf x = a
      · subst e
        rw [if_pos rfl, move3]
        left
        rw [i.far _ hx]
        show hasL xs x.party x.parcel + _ = _
        omega
      · rw [if_neg e]
        rw [List.map_append, List.mem_append] at ha
        rcases ha with ha | ha
        · exact i.near a ha
        · exact absurd (by simpa using ha : a = accOf x).symm e

structure PW (xs ys0 : List Po) (pre : List Du) (s : SSt) : Prop where
  held : ∀ k, s.held k = heldL (xs ++ s.out) k
  far : ∀ a : Int × Int, a ∉ pre.map accOf → hasL (xs ++ s.out) a.2 a.1 = hasL ys0 a.2 a.1
theorem PW.skip {xs ys0 : List Po} {pre : List Du} {s : SSt} (i : PW xs ys0 pre s) (x : Du) : PW xs ys0 (pre ++ [x]) s :=
  ⟨i.held, fun a ha => i.far a (fun e => ha (by simp at e ⊢; exact .inl e))⟩
theorem PW.post {xs ys0 : List Po} {pre : List Du} {s : SSt} (i : PW xs ys0 pre s) {e x : Du} (hacc : accOf x = accOf e) (hp : 0 ≤ x.party ∧ x.party ≤ 40) (h id : Int) (y : Ca) {g : Int → Int} (hg : ∀ k, g k = if x.parcel = k then s.held k - x.amount else s.held k) :
    PW xs ys0 (pre ++ [e]) ⟨id, s.out ++ [postP h 2 x y id], g⟩ := by
  refine ⟨fun k => ?_, fun a ha => ?_⟩
  · show g k = heldL (xs ++ (s.out ++ [_])) k
    rw [← List.append_assoc, held_post _ (.inl rfl) hp, move2, hg, i.held]
  · show hasL (xs ++ (s.out ++ [_])) a.2 a.1 = _
    rw [List.map_append, List.mem_append] at ha
    rw [← List.append_assoc, has_post, if_neg (fun e' => ha (.inr (by simp [← e', hacc])))]
    exact i.far a (fun e' => ha (.inl e'))

theorem rPays_eq {xs ys0 : List Po} {c : List Ca} (hc : chkCa c = 0) {h : Int} (hys : ∀ e : Du, 0 < e.amount - hasL xs e.party e.parcel → True) :
    ∀ (l pre : List Du) (s : SSt), ((pre ++ l).map accOf).Nodup → (∀ e ∈ l, okDu e = true) → (∀ e ∈ l, (0 < e.amount - hasL xs e.party e.parcel → hasL ys0 e.party e.parcel = hasL xs e.party e.parcel) ∧ (¬ 0 < e.amount - hasL xs e.party e.parcel → e.amount ≤ hasL ys0 e.party e.parcel)) → PW xs ys0 pre s →
      l.foldl (rPay c h) (refOf xs s) = refOf xs ((openL xs l).foldl (payStep c h) s)
  | [], pre, s, _, _, _, _ => rfl
  | e :: r, pre, s, hn, hd, ho, i => by
    have hx : accOf e ∉ pre.map accOf := nodup_mid hn rfl
    have hn' : ((pre ++ [e] ++ r).map accOf).Nodup := by simpa using hn
    have hfar : hasL (xs ++ s.out) e.party e.parcel = hasL ys0 e.party e.parcel := i.far _ hx
    have hd' : ∀ e ∈ r, okDu e = true := fun z hz => hd z (by simp [hz])
    have ho' := fun z (hz : z ∈ r) => ho z (by simp [hz])
    have hhd := i.held e.parcel
    have hpt := (okDu_facts (hd e (by simp))).2.1
    obtain ⟨o1, o2⟩ := ho e (by simp)
    have hl := causeL_eq hc e.parcel h
    rw [List.foldl_cons]
    by_cases hop : 0 < e.amount - hasL xs e.party e.parcel
    · have hst : openStep xs e = some ⟨e.party, e.parcel, e.amount - hasL xs e.party e.parcel⟩ := by unfold openStep; rw [if_pos hop]
      have hol : openL xs (e :: r) = ⟨e.party, e.parcel, e.amount - hasL xs e.party e.parcel⟩ :: openL xs r := by unfold openL; rw [List.filterMap_cons_some hst]
      rw [hol, List.foldl_cons]
      have hrn : rN (refOf xs s).2 e = min (e.amount - hasL xs e.party e.parcel) (s.held e.parcel) := by
        show min (e.amount - hasL (xs ++ s.out) e.party e.parcel) (heldL (xs ++ s.out) e.parcel) = _
        rw [hfar, o1 hop, ← hhd]
      have hnot : rPay c h (refOf xs s) e = refOf xs s → payStep c h s ⟨e.party, e.parcel, e.amount - hasL xs e.party e.parcel⟩ = s → r.foldl (rPay c h) (rPay c h (refOf xs s) e) = refOf xs ((openL xs r).foldl (payStep c h) (payStep c h s ⟨e.party, e.parcel, e.amount - hasL xs e.party e.parcel⟩)) := fun h1 h2 => by
        rw [h1, h2]; exact rPays_eq hc hys r (pre ++ [e]) s hn' hd' ho' (i.skip e)
      cases hr : causeR c e.parcel with
      | none =>
        rw [hr] at hl
        exact hnot (by unfold rPay; rw [hr]) (payStep_none hl)
      | some y =>
        rw [hr] at hl
        by_cases h1 : y.known ≤ h
        · have hl' : causeL c e.parcel h = some y := by rw [hl]; simp [h1]
          by_cases h2 : 0 < min (e.amount - hasL xs e.party e.parcel) (s.held e.parcel)
          · have hp : payStep c h s ⟨e.party, e.parcel, e.amount - hasL xs e.party e.parcel⟩ = _ := payStep_yes (x := ⟨e.party, e.parcel, e.amount - hasL xs e.party e.parcel⟩) hl' h2
            have hq : rPay c h (refOf xs s) e = ((refOf xs s).1 + 1, (refOf xs s).2 ++ [postP h 2 ⟨e.party, e.parcel, rN (refOf xs s).2 e⟩ y (refOf xs s).1]) := by
              unfold rPay; rw [hr]; dsimp only; rw [if_pos ⟨h1, by rw [hrn]; exact h2⟩]
            rw [hp, hq, hrn]
            have := rPays_eq (h := h) hc hys r (pre ++ [e]) ⟨s.id + 1, s.out ++ [postP h 2 (cutDu s ⟨e.party, e.parcel, e.amount - hasL xs e.party e.parcel⟩) y (s.id + 1)], fun k => if e.parcel = k then s.held k - min (e.amount - hasL xs e.party e.parcel) (s.held e.parcel) else s.held k⟩ hn' hd' ho'
              (i.post (e := e) (x := cutDu s ⟨e.party, e.parcel, e.amount - hasL xs e.party e.parcel⟩) rfl hpt h (s.id + 1) y (fun k => rfl))
            rw [← this]
            simp [refOf, cutDu]
          · exact hnot (by unfold rPay; rw [hr]; dsimp only; rw [if_neg (fun e' => h2 (by rw [← hrn]; exact e'.2))]) (payStep_not (x := ⟨e.party, e.parcel, e.amount - hasL xs e.party e.parcel⟩) hl' h2)
        · have hl' : causeL c e.parcel h = none := by rw [hl]; simp [h1]
          exact hnot (by unfold rPay; rw [hr]; dsimp only; rw [if_neg (fun e' => h1 e'.1)]) (payStep_none hl')
    · have hst : openStep xs e = none := by unfold openStep; rw [if_neg hop]
      have hol : openL xs (e :: r) = openL xs r := by unfold openL; rw [List.filterMap_cons_none hst]
      rw [hol]
      have hrn : ¬ 0 < rN (refOf xs s).2 e := by
        show ¬ 0 < min (e.amount - hasL (xs ++ s.out) e.party e.parcel) (heldL (xs ++ s.out) e.parcel)
        rw [hfar]
        have := o2 hop
        omega
      have hq : rPay c h (refOf xs s) e = refOf xs s := by
        unfold rPay
        cases hr : causeR c e.parcel with
        | none => rfl
        | some y => dsimp only; rw [if_neg (fun e' => hrn e'.2)]
      rw [hq]
      exact rPays_eq hc hys r (pre ++ [e]) s hn' hd' ho' (i.skip e)
theorem rSettle_eq {xs : List Po} {d : List Du} {c : List Ca} {h : Int} (hbook : (checkL xs).2 = 0) (hcd : chkDu d = 0) (hc : chkCa c = 0) : rSettle xs d c h = ((settleSt xs d c h).id + 1, xs ++ (settleSt xs d c h).out) := by
  obtain ⟨s0, hb⟩ := book_bk hbook
  have hd := goodB_all (chkDu_ok hcd).2
  have hB := bw_backs (d := d) (c := c) (h := h) hb
  unfold rSettle
  rw [rBacks_eq hc]
  have := rPays_eq (xs := xs) (ys0 := xs ++ (backSt xs d c h).out) hc (h := h) (fun _ _ => trivial) d [] (backSt xs d c h) (by simpa using dues_nodup hcd) hd (fun e he => ?_) ⟨hB.held, fun a _ => rfl⟩
  · rw [this]; rfl
  have hdue := dueM_at hcd he
  constructor
  · intro hop
    have hm : (⟨e.party, e.parcel, e.amount - hasL xs e.party e.parcel⟩ : Du) ∈ openL xs d := List.mem_filterMap.2 ⟨e, he, by unfold openStep; rw [if_pos hop]⟩
    exact hB.far (accOf e) (over_open (x := ⟨e.party, e.parcel, e.amount - hasL xs e.party e.parcel⟩) hcd hm)
  · intro hop
    by_cases hm : accOf e ∈ (overM xs d).map accOf
    · have h1 : hasL (xs ++ (backSt xs d c h).out) e.party e.parcel = getI (dueM d) (accOf e) ∨ hasL (xs ++ (backSt xs d c h).out) e.party e.parcel = hasL xs e.party e.parcel := hB.near _ hm
      rcases h1 with h1 | h1
      · rw [h1, hdue]; omega
      · rw [h1]; omega
    · have h1 : hasL (xs ++ (backSt xs d c h).out) e.party e.parcel = hasL xs e.party e.parcel := hB.far _ hm
      rw [h1]; omega

/-- how far a step goes -/
def StepBd (s s' : Int × List Po) : Prop := s'.2.length ≤ s.2.length + 1 ∧ s.1 ≤ s'.1 ∧ s'.1 ≤ s.1 + 1 ∧ s.2.length ≤ s'.2.length
theorem rBack_bd (xs : List Po) (c : List Ca) (h : Int) (s : Int × List Po) (x : Du) : StepBd s (rBack xs c h s x) := by
  unfold rBack StepBd
  split
  · omega
  · split
    · simp; omega
    · omega
theorem rPay_bd (c : List Ca) (h : Int) (s : Int × List Po) (x : Du) : StepBd s (rPay c h s x) := by
  unfold rPay StepBd
  split
  · omega
  · split
    · simp; omega
    · omega
theorem fold_bd {f : Int × List Po → Du → Int × List Po} (hf : ∀ s x, StepBd s (f s x)) : ∀ (l : List Du) (s : Int × List Po), (l.foldl f s).2.length ≤ s.2.length + l.length ∧ s.1 ≤ (l.foldl f s).1 ∧ (l.foldl f s).1 ≤ s.1 + l.length ∧ s.2.length ≤ (l.foldl f s).2.length
  | [], s => by simp
  | x :: r, s => by
    have h1 := hf s x
    have h2 := fold_bd hf r (f s x)
    unfold StepBd at h1
    rw [List.foldl_cons, List.length_cons]
    push_cast
    omega
theorem rBack_none {xs : List Po} {c : List Ca} {h : Int} {s : Int × List Po} {x : Du} (hr : causeR c x.parcel = none) : rBack xs c h s x = s := by unfold rBack; rw [hr]
theorem rBack_not {xs : List Po} {c : List Ca} {h : Int} {s : Int × List Po} {x : Du} {y : Ca} (hr : causeR c x.parcel = some y) (hn : ¬ (y.known ≤ h ∧ ((lastL xs x.party x.parcel).getD zPo).known < y.known)) : rBack xs c h s x = s := by
  unfold rBack; rw [hr]; exact if_neg hn
theorem rBack_yes {xs : List Po} {c : List Ca} {h : Int} {s : Int × List Po} {x : Du} {y : Ca} (hr : causeR c x.parcel = some y) (hn : y.known ≤ h ∧ ((lastL xs x.party x.parcel).getD zPo).known < y.known) : rBack xs c h s x = (s.1 + 1, s.2 ++ [postP h 3 x y s.1]) := by
  unfold rBack; rw [hr]; exact if_pos hn
theorem rPay_none {c : List Ca} {h : Int} {s : Int × List Po} {x : Du} (hr : causeR c x.parcel = none) : rPay c h s x = s := by unfold rPay; rw [hr]
theorem rPay_not {c : List Ca} {h : Int} {s : Int × List Po} {x : Du} {y : Ca} (hr : causeR c x.parcel = some y) (hn : ¬ (y.known ≤ h ∧ 0 < rN s.2 x)) : rPay c h s x = s := by
  unfold rPay; rw [hr]; exact if_neg hn
theorem rPay_yes {c : List Ca} {h : Int} {s : Int × List Po} {x : Du} {y : Ca} (hr : causeR c x.parcel = some y) (hn : y.known ≤ h ∧ 0 < rN s.2 x) : rPay c h s x = (s.1 + 1, s.2 ++ [postP h 2 ⟨x.party, x.parcel, rN s.2 x⟩ y s.1]) := by
  unfold rPay; rw [hr]; exact if_pos hn

/-- the amounts that a settling writes -/
theorem am_backs {s0 : Ch} {xs : List Po} {d : List Du} {c : List Ca} {h : Int} (hb : Bk s0 xs) (hbook : (checkL xs).2 = 0) (hd : ∀ x ∈ d, okDu x = true) : Am (xs ++ (backSt xs d c h).out) := by
  have H := foldl_ind (backStep xs c h) (fun _ s => Am (xs ++ s.out)) (overM xs d) [] ⟨idMax xs, [], heldL xs⟩ (by simpa using hb.okl.am) ?_
  · simpa [backSt] using H
  intro pre x post s he i
  rw [List.nil_append] at he
  have hm : x ∈ overM xs d := by rw [he]; simp
  obtain ⟨e1, e2, e3⟩ := overM_facts hm
  have hpt := (hasL_ne hb.okl ((accL_mem hb.okl (accOf x)).1 e3)).1
  have h1 := has_sold hb (what := x.parcel) hpt.1 hpt.2
  have h2 := book_sold hbook x.parcel
  have h3 := (dueM_bd hd (accOf x)).1
  have hx : 0 ≤ x.amount ∧ x.amount ≤ 1000000000 := by
    have h1' : hasL xs x.party x.parcel ≤ soldL xs x.parcel := h1
    omega
  cases hy : causeL c x.parcel h with
  | none => rw [backStep_none hy]; exact i
  | some y =>
    by_cases hk : ((lastL xs x.party x.parcel).getD zPo).known < y.known
    case neg => rw [backStep_not hy hk]; exact i
    rw [backStep_yes hy hk]
    intro p hp
    rw [← List.append_assoc, List.mem_append] at hp
    rcases hp with hp | hp
    · exact i p hp
    · rw [List.mem_singleton.1 hp]; exact hx
theorem am_pays {xs : List Po} {c : List Ca} {h : Int} : ∀ (l : List Du) (s : SSt), (∀ x ∈ l, 0 ≤ x.amount ∧ x.amount ≤ 1000000000) → Am (xs ++ s.out) → Am (xs ++ (l.foldl (payStep c h) s).out)
  | [], s, _, i => i
  | x :: r, s, hl, i => by
    rw [List.foldl_cons]
    refine am_pays r _ (fun z hz => hl z (by simp [hz])) ?_
    have hx := hl x (by simp)
    cases hy : causeL c x.parcel h with
    | none => rw [payStep_none hy]; exact i
    | some y =>
      by_cases hk : 0 < min x.amount (s.held x.parcel)
      case neg => rw [payStep_not hy hk]; exact i
      rw [payStep_yes hy hk]
      intro p hp
      rw [← List.append_assoc, List.mem_append] at hp
      rcases hp with hp | hp
      · exact i p hp
      · rw [List.mem_singleton.1 hp]
        show 0 ≤ min x.amount (s.held x.parcel) ∧ min x.amount (s.held x.parcel) ≤ 1000000000
        omega
theorem rPrefix_eq {xs : List Po} {d : List Du} {c : List Ca} {h : Int} (hbook : (checkL xs).2 = 0) (hcd : chkDu d = 0) (hc : chkCa c = 0) (k : Nat) : (d.take k).foldl (rPay c h) (rBacks xs d c h) = refOf xs ((openL xs (d.take k)).foldl (payStep c h) (backSt xs d c h)) := by
  obtain ⟨s0, hb⟩ := book_bk hbook
  have hd := goodB_all (chkDu_ok hcd).2
  have hB := bw_backs (d := d) (c := c) (h := h) hb
  rw [rBacks_eq hc]
  refine rPays_eq (xs := xs) (ys0 := xs ++ (backSt xs d c h).out) hc (h := h) (fun _ _ => trivial) (d.take k) [] (backSt xs d c h) ?_ (fun e he => hd e (List.mem_of_mem_take he)) (fun e he => ?_) ⟨hB.held, fun a _ => rfl⟩
  · rw [List.nil_append]
    exact (dues_nodup hcd).sublist ((List.take_sublist k d).map accOf)
  have he' := List.mem_of_mem_take he
  have hdue := dueM_at hcd he'
  constructor
  · intro hop
    have hm : (⟨e.party, e.parcel, e.amount - hasL xs e.party e.parcel⟩ : Du) ∈ openL xs d := List.mem_filterMap.2 ⟨e, he', by unfold openStep; rw [if_pos hop]⟩
    exact hB.far (accOf e) (over_open (x := ⟨e.party, e.parcel, e.amount - hasL xs e.party e.parcel⟩) hcd hm)
  · intro hop
    by_cases hm : accOf e ∈ (overM xs d).map accOf
    · have h1 : hasL (xs ++ (backSt xs d c h).out) e.party e.parcel = getI (dueM d) (accOf e) ∨ hasL (xs ++ (backSt xs d c h).out) e.party e.parcel = hasL xs e.party e.parcel := hB.near _ hm
      rcases h1 with h1 | h1
      · rw [h1, hdue]; omega
      · rw [h1]; omega
    · have h1 : hasL (xs ++ (backSt xs d c h).out) e.party e.parcel = hasL xs e.party e.parcel := hB.far _ hm
      rw [h1]; omega
theorem am_now {xs : List Po} {d : List Du} {c : List Ca} {h : Int} (hbook : (checkL xs).2 = 0) (hcd : chkDu d = 0) (hc : chkCa c = 0) (k : Nat) : Am ((d.take k).foldl (rPay c h) (rBacks xs d c h)).2 := by
  obtain ⟨s0, hb⟩ := book_bk hbook
  have hd := goodB_all (chkDu_ok hcd).2
  rw [rPrefix_eq hbook hcd hc k]
  refine am_pays _ _ (fun x hx => ?_) (am_backs hb hbook hd)
  have := (openL_amount (d := d.take k) (fun x hx => hd x (List.mem_of_mem_take hx)) hb.has0 hx).1
  omega
end Go.Proofs.YtehedodogkhmgaaGreat
