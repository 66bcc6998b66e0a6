/- The plain law of settling: what is settled is a book, nobody has more than before, settling again does nothing. No program in sight. -/
import Derived.Test.YtehedodogkhmgaaGreatSettleP
set_option linter.unusedSimpArgs false
set_option linter.unusedVariables false
namespace Go.Proofs.YtehedodogkhmgaaGreat

theorem book_cut_aux : ∀ (r pre : List Po) (i : Nat), (checkAux pre r).2 = 0 → (checkAux pre (r.take i)).2 = 0
  | [], pre, i, h => by simpa using h
  | p :: r, pre, 0, h => by simp [checkAux]
  | p :: r, pre, i + 1, h => by
    by_cases hr : refusedL pre p = 0
    · rw [checkAux_go hr] at h
      rw [List.take_succ_cons, checkAux_go hr]
      exact book_cut_aux r _ i h
    · rw [checkAux_stop hr] at h
      exact absurd h hr
theorem book_cut {xs : List Po} (h : (checkL xs).2 = 0) (i : Nat) : (checkL (xs.take i)).2 = 0 := book_cut_aux xs [] i h
theorem foldl_ind {α β : Type} (f : β → α → β) (P : List α → β → Prop) : ∀ (l pre0 : List α) (b : β), P pre0 b → (∀ pre x post b, pre0 ++ l = pre ++ x :: post → P pre b → P (pre ++ [x]) (f b x)) → P (pre0 ++ l) (l.foldl f b)
  | [], pre0, b, h0, _ => by simpa using h0
  | x :: r, pre0, b, h0, hs => by
    have h1 := hs pre0 x r b rfl h0
    have h2 := foldl_ind f P r (pre0 ++ [x]) (f b x) h1 (fun pre y post b' e => hs pre y post b' (by rw [← e]; simp))
    simpa using h2
theorem book_bk_aux : ∀ (r pre : List Po) (s : Ch), Bk s pre → (checkAux pre r).2 = 0 → ∃ s', Bk s' (pre ++ r)
  | [], pre, s, h, _ => ⟨s, by simpa using h⟩
  | p :: r, pre, s, h, hc => by
    by_cases hr : refusedL pre p = 0
    · rw [checkAux_go hr] at hc
      have := book_bk_aux r (pre ++ [p]) _ (h.next hr) hc
      simpa using this
    · rw [checkAux_stop hr] at hc
      exact absurd hc hr
theorem book_bk {xs : List Po} (h : (checkL xs).2 = 0) : ∃ s, Bk s xs := by
  have := book_bk_aux xs [] ch0 bk_nil h
  simpa using this
theorem book_snoc_aux : ∀ (r pre : List Po) (p : Po), (checkAux pre r).2 = 0 → refusedL (pre ++ r) p = 0 → (checkAux pre (r ++ [p])).2 = 0
  | [], pre, p, _, hr => by
    have hr' : refusedL pre p = 0 := by simpa using hr
    rw [List.nil_append, checkAux_go hr']; rfl
  | q :: r, pre, p, hc, hr => by
    by_cases h1 : refusedL pre q = 0
    · rw [checkAux_go h1] at hc
      rw [List.cons_append, checkAux_go h1]
      exact book_snoc_aux r (pre ++ [q]) p hc (by simpa using hr)
    · rw [checkAux_stop h1] at hc
      exact absurd hc h1
theorem book_snoc {xs : List Po} {p : Po} (h : (checkL xs).2 = 0) (hr : refusedL xs p = 0) : (checkL (xs ++ [p])).2 = 0 := book_snoc_aux xs [] p h (by simpa using hr)
theorem book_at_aux : ∀ (pre0 pre r : List Po) (p : Po), (checkAux pre0 (pre ++ p :: r)).2 = 0 → refusedL (pre0 ++ pre) p = 0
  | pre0, [], r, p, h => by
    by_cases h1 : refusedL pre0 p = 0
    · simpa using h1
    · rw [List.nil_append, checkAux_stop h1] at h
      exact absurd h h1
  | pre0, q :: pre, r, p, h => by
    by_cases h1 : refusedL pre0 q = 0
    · rw [List.cons_append, checkAux_go h1] at h
      have := book_at_aux (pre0 ++ [q]) pre r p h
      simpa using this
    · rw [List.cons_append, checkAux_stop h1] at h
      exact absurd h h1
theorem book_at {pre r : List Po} {p : Po} (h : (checkL (pre ++ p :: r)).2 = 0) : refusedL pre p = 0 := by
  have := book_at_aux [] pre r p h
  simpa using this

/-- what a parcel was sold for, in a book -/
theorem book_sold_aux : ∀ (r pre : List Po) (k : Int), Okl pre → (checkAux pre r).2 = 0 → soldL pre k ≤ 1000000000 → soldL (pre ++ r) k ≤ 1000000000
  | [], pre, k, _, _, h => by simpa using h
  | p :: r, pre, k, ho, hc, h => by
    by_cases hr : refusedL pre p = 0
    · rw [checkAux_go hr] at hc
      have hok := refusedL_ok hr
      have := book_sold_aux r (pre ++ [p]) k (ho.snoc hok) hc (by
        rw [soldL_snoc]
        unfold soldStep
        by_cases hk : p.kind = 1 ∧ p.parcel = k
        · rw [if_pos hk]
          have hok' := hok
          unfold okPo at hok
          have h0 := (soldL_bound ho.am k).1
          by_cases hz : 0 < soldL pre k
          · exfalso
            have h3 : refused3 pre p = 6 := refused3_1a hk.1 (by rw [hk.2]; exact hz)
            unfold refusedL at hr
            rw [h3] at hr
            repeat' split at hr
            all_goals omega
          · omega
        · rw [if_neg hk]; exact h)
      simpa using this
    · rw [checkAux_stop hr] at hc
      exact absurd hc hr
theorem book_sold {xs : List Po} (h : (checkL xs).2 = 0) (k : Int) : soldL xs k ≤ 1000000000 := by
  have := book_sold_aux xs [] k (fun p hp => by simp at hp) h (by simp [soldL])
  simpa using this
theorem has_paid {xs : List Po} {what : Int} (h0 : ∀ x y, 0 ≤ hasL xs x y) : ∀ (m : Nat) (who : Int), 0 ≤ who → who < m → hasL xs who what ≤ paidTo xs what m
  | 0, who, h1, h2 => by omega
  | m + 1, who, h1, h2 => by
    simp only [paidTo]
    have h3 := paidTo_nonneg (what := what) h0 m
    by_cases he : who = m
    · rw [he]; omega
    · have := has_paid (what := what) h0 m who h1 (by omega)
      have := h0 m what
      omega
/-- what somebody has of a parcel is at most what it was sold for -/
theorem has_sold {s : Ch} {xs : List Po} (h : Bk s xs) {who what : Int} (h1 : 0 ≤ who) (h2 : who ≤ 40) : hasL xs who what ≤ soldL xs what := by
  have h3 := has_paid (what := what) h.has0 41 who h1 (by omega)
  have h4 := h.held0 what
  unfold heldL at h4
  omega
theorem held_sold {s : Ch} {xs : List Po} (h : Bk s xs) (what : Int) : heldL xs what ≤ soldL xs what := by
  have h3 := paidTo_nonneg (what := what) h.has0 41
  unfold heldL
  omega
theorem idMax_snoc (ys : List Po) (p : Po) : idMax (ys ++ [p]) = max (idMax ys) p.id := by unfold idMax; rw [List.map_append, List.map_cons, List.map_nil, maxOf_snoc]
theorem idMax_le {ys : List Po} : ∀ q ∈ ys, q.id ≤ idMax ys := fun q hq => (foldl_max_spec (ys.map (·.id)) 0).1 _ (List.mem_map.2 ⟨q, hq, rfl⟩)

def accOf (x : Du) : Int × Int := (x.parcel, x.party)
theorem accOf_eq {x y : Du} (h : accOf x = accOf y) : x.parcel = y.parcel ∧ x.party = y.party := by
  unfold accOf at h; injection h with h1 h2; exact ⟨h1, h2⟩

/-- the limits that a settling keeps -/
def Lim (xs : List Po) (s : SSt) : Prop := xs.length + s.out.length ≤ 400 ∧ (s.out = [] ∨ s.id ≤ 1000000)
theorem Lim.less {xs : List Po} {s : SSt} {p : Po} {g : Int → Int} (h : Lim xs ⟨s.id + 1, s.out ++ [p], g⟩) : Lim xs s ∧ xs.length + s.out.length < 400 ∧ s.id + 1 ≤ 1000000 := by
  obtain ⟨h1, h2⟩ := h
  simp at h1 h2
  exact ⟨⟨by omega, .inr (by omega)⟩, by omega, by omega⟩

structure SI (xs : List Po) (h : Int) (s : SSt) : Prop where
  bk : (checkL (xs ++ s.out)).2 = 0
  id : s.id = idMax (xs ++ s.out)
  held : ∀ k, s.held k = heldL (xs ++ s.out) k
  lh : lastHour (xs ++ s.out) ≤ h
  hours : ∀ p ∈ s.out, p.hour = h
theorem SI.step {xs : List Po} {h : Int} {s : SSt} (i : SI xs h s) {p : Po} (hp : p.hour = h) (hid : p.id = s.id + 1) (hr : refusedL (xs ++ s.out) p = 0) {g : Int → Int} (hg : ∀ k, g k = heldL (xs ++ (s.out ++ [p])) k) : SI xs h ⟨s.id + 1, s.out ++ [p], g⟩ := by
  have h1 := i.id
  refine ⟨?_, ?_, hg, ?_, ?_⟩
  · show (checkL (xs ++ (s.out ++ [p]))).2 = 0
    rw [← List.append_assoc]; exact book_snoc i.bk hr
  · show s.id + 1 = idMax (xs ++ (s.out ++ [p]))
    rw [← List.append_assoc, idMax_snoc, hid]; omega
  · show lastHour (xs ++ (s.out ++ [p])) ≤ h
    rw [← List.append_assoc, lastHour_snoc]; omega
  · intro q hq
    rcases List.mem_append.1 hq with hq | hq
    · exact i.hours q hq
    · rw [List.mem_singleton.1 hq]; exact hp

/-- a new posting that is well-formed is refused for its own kind's reasons alone -/
theorem SI.refused {xs : List Po} {h : Int} {s : SSt} (i : SI xs h s) (hl : xs.length + s.out.length < 400) {p : Po} (hp : p.hour = h) (hid : p.id = s.id + 1) (hok : okPo p) : refusedL (xs ++ s.out) p = refused3 (xs ++ s.out) p := by
  refine refusedL_else (by simp; omega) hok (fun q hq e => ?_) (fun e => ?_)
  · have := idMax_le q hq
    have := i.id
    omega
  · have := i.lh
    have := e.2
    omega

theorem causeL_facts {c : List Ca} (hc : ∀ x ∈ c, okCa x = true) {parcel h : Int} {y : Ca} (e : causeL c parcel h = some y) : (1 ≤ y.reason ∧ y.reason ≤ 1000000) ∧ 0 ≤ y.known ∧ y.known ≤ h := by
  unfold causeL at e
  have h1 := List.mem_of_find?_eq_some e
  have h2 := List.find?_some e
  have h3 := hc y h1
  unfold okCa at h3
  unfold isCause at h2
  simp at h3 h2
  omega
def Back (xs : List Po) (c : List Ca) (h : Int) (a : Int × Int) : Prop := ∃ y, causeL c a.1 h = some y ∧ ((lastL xs a.2 a.1).getD zPo).known < y.known

structure BI (xs : List Po) (d : List Du) (c : List Ca) (h : Int) (pre : List Du) (s : SSt) : Prop extends SI xs h s where
  sold : ∀ k, soldL (xs ++ s.out) k = soldL xs k
  last : ∀ i k, lastL (xs ++ s.out) i k = lastL xs i k
  far : ∀ a : Int × Int, a ∉ pre.map accOf → hasL (xs ++ s.out) a.2 a.1 = hasL xs a.2 a.1
  near : ∀ a ∈ pre.map accOf, (Back xs c h a → hasL (xs ++ s.out) a.2 a.1 = getI (dueM d) a) ∧ (¬ Back xs c h a → hasL (xs ++ s.out) a.2 a.1 = hasL xs a.2 a.1)

theorem overM_facts {xs : List Po} {d : List Du} {x : Du} (hx : x ∈ overM xs d) : x.amount = hasL xs x.party x.parcel - getI (dueM d) (accOf x) ∧ 0 < x.amount ∧ accOf x ∈ accL xs := by
  obtain ⟨a, ha, e⟩ := List.mem_filterMap.1 hx
  unfold overStep at e
  by_cases hp : 0 < hasL xs a.2 a.1 - getI (dueM d) a
  · rw [if_pos hp] at e
    cases e
    exact ⟨rfl, hp, ha⟩
  · rw [if_neg hp] at e; cases e
theorem overM_acc (xs : List Po) (d : List Du) : (overM xs d).map accOf = (accL xs).filter (fun a => decide (0 < hasL xs a.2 a.1 - getI (dueM d) a)) := by
  unfold overM
  induction accL xs with
  | nil => rfl
  | cons a r ih =>
    by_cases hp : 0 < hasL xs a.2 a.1 - getI (dueM d) a
    · rw [List.filterMap_cons_some (show overStep xs d a = some _ by unfold overStep; rw [if_pos hp]), List.map_cons, ih, List.filter_cons_of_pos (by simpa using hp)]
      rfl
    · rw [List.filterMap_cons_none (show overStep xs d a = none by unfold overStep; rw [if_neg hp]), ih, List.filter_cons_of_neg (by simpa using hp)]
theorem overM_nodup (xs : List Po) (d : List Du) : ((overM xs d).map accOf).Nodup := by
  rw [overM_acc]
  have h1 := (accL_sorted xs).filter (fun a => decide (0 < hasL xs a.2 a.1 - getI (dueM d) a))
  exact h1.imp (fun {a b} hab e => by subst e; exact accLt_irrefl a hab)
theorem nodup_mid {α β : Type} {f : α → β} {l pre post : List α} {x : α} (h : (l.map f).Nodup) (e : l = pre ++ x :: post) : f x ∉ pre.map f := by
  subst e
  rw [List.map_append, List.map_cons] at h
  intro hm
  exact (List.nodup_append.1 h).2.2 _ hm _ (by simp) rfl

theorem postP_ok {h k id : Int} {x : Du} {y : Ca} (h1 : 1 ≤ id ∧ id ≤ 1000000) (h2 : 1 ≤ y.reason ∧ y.reason ≤ 1000000) (h3 : 0 ≤ h ∧ h ≤ 1000000) (h4 : 0 ≤ y.known ∧ y.known ≤ h) (h5 : 10 ≤ x.parcel ∧ x.parcel ≤ 10000007) (h6 : 1 ≤ x.amount ∧ x.amount ≤ 1000000000) (h7 : k = 2 ∨ k = 3) (h8 : 0 ≤ x.party ∧ x.party ≤ 40) : okPo (postP h k x y id) := by
  unfold okPo postP
  exact ⟨h1, h2, h3, h4, h5, h6, by dsimp only; omega, h8, fun e => by dsimp only at e; omega⟩
theorem has_post (ys : List Po) (h k id : Int) (x : Du) (y : Ca) (a : Int × Int) : hasL (ys ++ [postP h k x y id]) a.2 a.1 = if accOf x = a then hasL ys a.2 a.1 + moveOf (postP h k x y id) else hasL ys a.2 a.1 := by
  rw [hasL_snoc, hasStep_move]
  by_cases e : accOf x = a
  · subst e
    rw [if_pos rfl, if_pos ⟨rfl, rfl⟩]
  · rw [if_neg e, if_neg (fun e' => e (by unfold accOf; rw [show x.parcel = a.1 from e'.2, show x.party = a.2 from e'.1]))]
theorem move3 (h id : Int) (x : Du) (y : Ca) : moveOf (postP h 3 x y id) = - x.amount := by unfold moveOf postP; simp
theorem move2 (h id : Int) (x : Du) (y : Ca) : moveOf (postP h 2 x y id) = x.amount := by unfold moveOf postP; simp
theorem held_post (ys : List Po) {h k id : Int} {x : Du} {y : Ca} (hk : k = 2 ∨ k = 3) (hp : 0 ≤ x.party ∧ x.party ≤ 40) (n : Int) : heldL (ys ++ [postP h k x y id]) n = if x.parcel = n then heldL ys n - moveOf (postP h k x y id) else heldL ys n := by
  rw [heldL_snoc _ _ _ hp, if_neg (show ¬ (postP h k x y id).kind = 1 by unfold postP; dsimp only; omega)]
  by_cases e : x.parcel = n
  · rw [if_pos e, if_pos (show (postP h k x y id).parcel = n from e)]; omega
  · rw [if_neg e, if_neg (show ¬ (postP h k x y id).parcel = n from e)]; omega
theorem sold_post (ys : List Po) {h k id : Int} {x : Du} {y : Ca} (hk : k = 2 ∨ k = 3) (n : Int) : soldL (ys ++ [postP h k x y id]) n = soldL ys n := by
  rw [soldL_snoc]; unfold soldStep; rw [if_neg]
  intro e
  have : k = 1 := e.1
  omega
theorem last_post3 (ys : List Po) (h id : Int) (x : Du) (y : Ca) (i k : Int) : lastL (ys ++ [postP h 3 x y id]) i k = lastL ys i k := by
  rw [lastL_snoc]; unfold lastStep; rw [if_neg]
  intro e
  have : (3 : Int) = 2 := e.1
  omega
theorem last_post2 (ys : List Po) (h id : Int) (x : Du) (y : Ca) {a : Int × Int} (ha : accOf x ≠ a) : lastL (ys ++ [postP h 2 x y id]) a.2 a.1 = lastL ys a.2 a.1 := by
  rw [lastL_snoc]; unfold lastStep; rw [if_neg]
  intro e
  exact ha (by unfold accOf; rw [show x.parcel = a.1 from e.2.2, show x.party = a.2 from e.2.1])

theorem BI.skip {xs : List Po} {d : List Du} {c : List Ca} {h : Int} {pre : List Du} {s : SSt} (i : BI xs d c h pre s) {x : Du} (hx : accOf x ∉ pre.map accOf) (hn : ¬ Back xs c h (accOf x)) : BI xs d c h (pre ++ [x]) s := by
  refine ⟨i.toSI, i.sold, i.last, fun a ha => i.far a (fun e => ha (by simp at e ⊢; exact .inl e)), fun a ha => ?_⟩
  rw [List.map_append, List.mem_append] at ha
  rcases ha with ha | ha
  · exact i.near a ha
  · have : a = accOf x := by simpa using ha
    subst this
    exact ⟨fun e => absurd e hn, fun _ => i.far _ hx⟩
theorem BI.post {s0 : Ch} {xs : List Po} {d : List Du} {c : List Ca} {h : Int} {pre : List Du} {s : SSt} (hb : Bk s0 xs) (hbook : (checkL xs).2 = 0) (hd : ∀ x ∈ d, okDu x = true) (hc : ∀ x ∈ c, okCa x = true) (hh : 0 ≤ h ∧ h ≤ 1000000)
    (i : BI xs d c h pre s) {x : Du} (hm : x ∈ overM xs d) (hx : accOf x ∉ pre.map accOf) {y : Ca} (hy : causeL c x.parcel h = some y) (hk : ((lastL xs x.party x.parcel).getD zPo).known < y.known) (hl : xs.length + s.out.length < 400) (hid : s.id + 1 ≤ 1000000) :
    BI xs d c h (pre ++ [x]) ⟨s.id + 1, s.out ++ [postP h 3 x y (s.id + 1)], fun k => if x.parcel = k then s.held k + x.amount else s.held k⟩ := by
  obtain ⟨e1, e2, e3⟩ := overM_facts hm
  have hne : hasL xs x.party x.parcel ≠ 0 := (accL_mem hb.okl (accOf x)).1 e3
  obtain ⟨hpt, q, hq, hqp⟩ := hasL_ne hb.okl hne
  have hqo := hb.okl q hq
  unfold okPo at hqo
  have hdue : 0 ≤ getI (dueM d) (accOf x) := (dueM_bd hd _).1
  have hs1 := has_sold hb (what := x.parcel) hpt.1 hpt.2
  have hs2 := book_sold hbook x.parcel
  obtain ⟨f1, f2⟩ := causeL_facts hc hy
  have hid0 : 0 ≤ s.id := by rw [i.id]; exact (foldl_max_spec _ 0).2.1
  have hok : okPo (postP h 3 x y (s.id + 1)) := postP_ok ⟨by omega, hid⟩ f1 hh f2 ⟨by omega, by omega⟩ ⟨by omega, by omega⟩ (.inr rfl) hpt
  have hr : refusedL (xs ++ s.out) (postP h 3 x y (s.id + 1)) = 0 := by
    rw [i.toSI.refused hl rfl rfl hok]
    refine refused3_3c (show ¬ (3 : Int) = 1 by omega) ?_ (show ¬ (3 : Int) = 2 by omega) ?_ ?_
    · show ¬ soldL (xs ++ s.out) x.parcel = 0
      rw [i.sold]; omega
    · show ¬ hasL (xs ++ s.out) x.party x.parcel < x.amount
      have := i.far _ hx
      have h7 : hasL (xs ++ s.out) x.party x.parcel = hasL xs x.party x.parcel := this
      omega
    · show ¬ y.known ≤ ((lastL (xs ++ s.out) x.party x.parcel).getD zPo).known
      rw [i.last]; omega
  refine ⟨i.toSI.step rfl rfl hr (fun k => ?_), fun k => ?_, fun u k => ?_, fun a ha => ?_, fun a ha => ?_⟩
  · rw [← List.append_assoc, held_post _ (.inr rfl) hpt, move3, i.held]
    by_cases e : x.parcel = k
    · rw [if_pos e, if_pos e]; omega
    · rw [if_neg e, if_neg e]
  · show soldL (xs ++ (s.out ++ [_])) k = _
    rw [← List.append_assoc, sold_post _ (.inr rfl), i.sold]
  · show lastL (xs ++ (s.out ++ [_])) u k = _
    rw [← List.append_assoc, last_post3, i.last]
  · show hasL (xs ++ (s.out ++ [_])) a.2 a.1 = _
    rw [List.map_append, List.mem_append] at ha
    rw [← List.append_assoc, has_post, if_neg (fun e => ha (.inr (by simp [e])))]
    exact i.far a (fun e => ha (.inl e))
  · show (_ → hasL (xs ++ (s.out ++ [_])) a.2 a.1 = _) ∧ (_ → hasL (xs ++ (s.out ++ [_])) a.2 a.1 = _)
    rw [← List.append_assoc, has_post]
    by_cases e : accOf x = a
    · subst e
      rw [if_pos rfl, move3]
      refine ⟨fun _ => ?_, fun hn => absurd ⟨y, hy, hk⟩ hn⟩
      rw [i.far _ hx]
      show hasL xs x.party x.parcel + _ = _
      omega
    · rw [if_neg e]
      rw [List.map_append, List.mem_append] at ha
      rcases ha with ha | ha
      · exact i.near a ha
      · exact absurd (by simpa using ha : a = accOf x).symm e
theorem back_inv {s0 : Ch} {xs : List Po} {d : List Du} {c : List Ca} {h : Int} (hb : Bk s0 xs) (hbook : (checkL xs).2 = 0) (hd : ∀ x ∈ d, okDu x = true) (hc : ∀ x ∈ c, okCa x = true) (hh : 0 ≤ h ∧ h ≤ 1000000) (hlh : lastHour xs ≤ h) :
    Lim xs (backSt xs d c h) → BI xs d c h (overM xs d) (backSt xs d c h) := by
  have H := foldl_ind (backStep xs c h) (fun pre s => Lim xs s → BI xs d c h pre s) (overM xs d) [] ⟨idMax xs, [], heldL xs⟩
    (fun _ => ⟨⟨by simpa using hbook, by simp, by simp, by simpa using hlh, by simp⟩, by simp, by simp, by simp, by simp⟩) ?_
  · simpa [backSt] using H
  intro pre x post s he hi hl
  rw [List.nil_append] at he
  have hx := nodup_mid (overM_nodup xs d) he
  have hm : x ∈ overM xs d := by rw [he]; simp
  cases hy : causeL c x.parcel h with
  | none =>
    rw [backStep_none hy] at hl ⊢
    refine (hi hl).skip hx ?_
    rintro ⟨y, hy', _⟩
    have hy2 : causeL c x.parcel h = some y := hy'
    rw [hy] at hy2; cases hy2
  | some y =>
    by_cases hk : ((lastL xs x.party x.parcel).getD zPo).known < y.known
    · rw [backStep_yes hy hk] at hl ⊢
      obtain ⟨l1, l2, l3⟩ := hl.less
      exact BI.post hb hbook hd hc hh (hi l1) hm hx hy hk l2 l3
    · rw [backStep_not hy hk] at hl ⊢
      refine (hi hl).skip hx ?_
      rintro ⟨y', hy', hk'⟩
      have hy2 : causeL c x.parcel h = some y' := hy'
      rw [hy] at hy2; cases hy2
      exact hk hk'

/-- dues by account, of a list in order -/
theorem ltDu_acc {a b : Du} : ltDu a b = true ↔ accLt (accOf a) (accOf b) := by
  unfold ltDu cmpAcc orI cmpI accLt accOf
  dsimp only
  simp only [decide_eq_true_eq]
  constructor
  · intro h
    repeat' split at h
    all_goals omega
  · intro h
    repeat' split
    all_goals omega
theorem accLt_trans {a b c : Int × Int} (h1 : accLt a b) (h2 : accLt b c) : accLt a c := by unfold accLt at *; omega
theorem goodB_pairwise : ∀ (d : List Du) (prev : Option Du), goodB okDu ltDu prev d = true → (∀ q, prev = some q → ∀ x ∈ d, accLt (accOf q) (accOf x)) ∧ d.Pairwise (fun a b => accLt (accOf a) (accOf b))
  | [], prev, _ => ⟨fun _ _ x hx => by simp at hx, List.Pairwise.nil⟩
  | x :: r, prev, h => by
    have hok : okDu x = true := goodB_all h x (by simp)
    have hr : goodB okDu ltDu (some x) r = true := by
      cases prev with
      | none => rwa [goodB_none hok] at h
      | some q =>
        cases hl : ltDu q x with
        | true => rwa [goodB_some hok hl] at h
        | false => rw [goodB_not hl] at h; cases h
    obtain ⟨h1, h2⟩ := goodB_pairwise r (some x) hr
    have h1x := h1 x rfl
    refine ⟨fun q e => ?_, List.pairwise_cons.2 ⟨h1x, h2⟩⟩
    subst e
    have hqx : accLt (accOf q) (accOf x) := by
      cases hl : ltDu q x with
      | true => exact ltDu_acc.1 hl
      | false => rw [goodB_not hl] at h; cases h
    intro z hz
    rcases List.mem_cons.1 hz with rfl | hz
    · exact hqx
    · exact accLt_trans hqx (h1x z hz)
theorem dues_nodup {d : List Du} (h : chkDu d = 0) : (d.map accOf).Nodup := by
  have h2 := (goodB_pairwise d none (chkDu_ok h).2).2
  unfold List.Nodup
  rw [List.pairwise_map]
  exact h2.imp (fun {a b} hab e => by rw [e] at hab; exact accLt_irrefl _ hab)
theorem dueM_fold : ∀ (d : List Du) (m : List ((Int × Int) × Int)), (d.map accOf).Nodup → (∀ e ∈ d, getI (d.foldl (fun m x => mput m (x.parcel, x.party) x.amount) m) (accOf e) = e.amount) ∧ (∀ a, a ∉ d.map accOf → getI (d.foldl (fun m x => mput m (x.parcel, x.party) x.amount) m) a = getI m a)
  | [], m, _ => ⟨fun e he => by simp at he, fun a _ => rfl⟩
  | x :: r, m, h => by
    rw [List.map_cons, List.nodup_cons] at h
    obtain ⟨h1, h2⟩ := dueM_fold r (mput m (x.parcel, x.party) x.amount) h.2
    refine ⟨fun e he => ?_, fun a ha => ?_⟩
    · rw [List.foldl_cons]
      rcases List.mem_cons.1 he with rfl | he
      · rw [h2 _ h.1]; exact getI_mput _ _ _
      · exact h1 e he
    · rw [List.foldl_cons]
      rw [List.map_cons, List.mem_cons] at ha
      rw [h2 a (fun e => ha (.inr e))]
      exact getI_mput_ne _ _ (fun e => ha (.inl e.symm))
theorem dueM_at {d : List Du} (h : chkDu d = 0) {e : Du} (he : e ∈ d) : getI (dueM d) (accOf e) = e.amount := (dueM_fold d [] (dues_nodup h)).1 e he
theorem openL_acc (xs : List Po) (d : List Du) : (openL xs d).map accOf = (d.filter (fun x => decide (0 < x.amount - hasL xs x.party x.parcel))).map accOf := by
  unfold openL
  induction d with
  | nil => rfl
  | cons a r ih =>
    by_cases hp : 0 < a.amount - hasL xs a.party a.parcel
    · rw [List.filterMap_cons_some (show openStep xs a = some _ by unfold openStep; rw [if_pos hp]), List.map_cons, ih, List.filter_cons_of_pos (by simpa using hp)]
      rfl
    · rw [List.filterMap_cons_none (show openStep xs a = none by unfold openStep; rw [if_neg hp]), ih, List.filter_cons_of_neg (by simpa using hp)]
theorem openL_nodup (xs : List Po) {d : List Du} (h : chkDu d = 0) : ((openL xs d).map accOf).Nodup := by
  rw [openL_acc]
  exact (dues_nodup h).sublist (List.filter_sublist.map accOf)
theorem openL_facts {xs : List Po} {d : List Du} {x : Du} (hx : x ∈ openL xs d) : ∃ e ∈ d, accOf e = accOf x ∧ x.amount = e.amount - hasL xs x.party x.parcel ∧ 0 < x.amount := by
  obtain ⟨a, ha, e⟩ := List.mem_filterMap.1 hx
  unfold openStep at e
  by_cases hp : 0 < a.amount - hasL xs a.party a.parcel
  · rw [if_pos hp] at e
    cases e
    exact ⟨a, ha, rfl, rfl, hp⟩
  · rw [if_neg hp] at e; cases e
theorem openL_has {xs : List Po} {d : List Du} {e : Du} (he : e ∈ d) (hp : 0 < e.amount - hasL xs e.party e.parcel) : accOf e ∈ (openL xs d).map accOf := by
  rw [openL_acc]
  exact List.mem_map.2 ⟨e, List.mem_filter.2 ⟨he, by simpa using hp⟩, rfl⟩
/-- nobody lacks and has too much -/
theorem over_open {xs : List Po} {d : List Du} (h : chkDu d = 0) {x : Du} (hx : x ∈ openL xs d) : accOf x ∉ (overM xs d).map accOf := by
  intro hm
  obtain ⟨z, hz, e⟩ := List.mem_map.1 hm
  obtain ⟨e1, e2, _⟩ := overM_facts hz
  obtain ⟨q, hq, q1, q2, q3⟩ := openL_facts hx
  have h1 := dueM_at h hq
  rw [q1, ← e] at h1
  obtain ⟨a1, a2⟩ := accOf_eq e
  rw [a1, a2] at e1
  omega

structure PI (xs : List Po) (c : List Ca) (h : Int) (ys0 : List Po) (pre : List Du) (s : SSt) : Prop extends SI xs h s where
  far : ∀ a : Int × Int, a ∉ pre.map accOf → hasL (xs ++ s.out) a.2 a.1 = hasL ys0 a.2 a.1 ∧ lastL (xs ++ s.out) a.2 a.1 = lastL xs a.2 a.1
  near : ∀ x ∈ pre, hasL (xs ++ s.out) x.party x.parcel ≤ hasL xs x.party x.parcel + x.amount ∧ ((causeL c x.parcel h).isSome = true → hasL (xs ++ s.out) x.party x.parcel = hasL xs x.party x.parcel + x.amount ∨ s.held x.parcel = 0)
theorem PI.skip {xs : List Po} {c : List Ca} {h : Int} {ys0 : List Po} {pre : List Du} {s : SSt} (i : PI xs c h ys0 pre s) {x : Du} (hx : accOf x ∉ pre.map accOf) (h0 : hasL ys0 x.party x.parcel = hasL xs x.party x.parcel) (hp : 0 ≤ x.amount)
    (hn : (causeL c x.parcel h).isSome = true → s.held x.parcel = 0) : PI xs c h ys0 (pre ++ [x]) s := by
  refine ⟨i.toSI, fun a ha => i.far a (fun e => ha (by simp at e ⊢; exact .inl e)), fun z hz => ?_⟩
  rcases List.mem_append.1 hz with hz | hz
  · exact i.near z hz
  · rw [List.mem_singleton.1 hz]
    have h1 : hasL (xs ++ s.out) x.party x.parcel = hasL ys0 x.party x.parcel := (i.far _ hx).1
    exact ⟨by omega, fun e => .inr (hn e)⟩
theorem PI.post {xs : List Po} {d : List Du} {c : List Ca} {h : Int} {ys0 : List Po} {pre : List Du} {s : SSt} (hd : ∀ x ∈ d, okDu x = true) (hc : ∀ x ∈ c, okCa x = true) (hh : 0 ≤ h ∧ h ≤ 1000000) (hq0 : ∀ x y, 0 ≤ hasL xs x y)
    (i : PI xs c h ys0 pre s) {x : Du} (hm : x ∈ openL xs d) (hx : accOf x ∉ pre.map accOf) (h0 : hasL ys0 x.party x.parcel = hasL xs x.party x.parcel) {y : Ca} (hy : causeL c x.parcel h = some y) (hk : 0 < min x.amount (s.held x.parcel)) (hl : xs.length + s.out.length < 400) (hid : s.id + 1 ≤ 1000000) :
    PI xs c h ys0 (pre ++ [x]) ⟨s.id + 1, s.out ++ [postP h 2 (cutDu s x) y (s.id + 1)], fun k => if x.parcel = k then s.held k - min x.amount (s.held x.parcel) else s.held k⟩ := by
  obtain ⟨e, he, e1, e2, e3⟩ := openL_facts hm
  obtain ⟨b1, b2, b3⟩ := okDu_facts (hd e he)
  obtain ⟨a1, a2⟩ := accOf_eq e1
  rw [a1] at b1
  rw [a2] at b2
  have b4 := hq0 x.party x.parcel
  obtain ⟨f1, f2⟩ := causeL_facts hc hy
  obtain ⟨s1, hb1⟩ := book_bk i.bk
  have hid0 : 0 ≤ s.id := by rw [i.id]; exact (foldl_max_spec _ 0).2.1
  have hok : okPo (postP h 2 (cutDu s x) y (s.id + 1)) := postP_ok ⟨by omega, hid⟩ f1 hh f2 b1 (by unfold cutDu; dsimp only; omega) (.inl rfl) b2
  have hhd := i.held x.parcel
  have hr : refusedL (xs ++ s.out) (postP h 2 (cutDu s x) y (s.id + 1)) = 0 := by
    rw [i.toSI.refused hl rfl rfl hok]
    refine refused3_2b (show ¬ (2 : Int) = 1 by omega) ?_ rfl ?_
    · show ¬ soldL (xs ++ s.out) x.parcel = 0
      have := held_sold hb1 x.parcel
      omega
    · show ¬ heldL (xs ++ s.out) x.parcel < min x.amount (s.held x.parcel)
      omega
  have hacc : accOf (cutDu s x) = accOf x := rfl
  refine ⟨i.toSI.step rfl rfl hr (fun k => ?_), fun a ha => ?_, fun z hz => ?_⟩
  · rw [← List.append_assoc, held_post (x := cutDu s x) _ (.inl rfl) b2, move2]
    show (if x.parcel = k then s.held k - min x.amount (s.held x.parcel) else s.held k) = if x.parcel = k then heldL (xs ++ s.out) k - min x.amount (s.held x.parcel) else heldL (xs ++ s.out) k
    rw [i.held k]
  · show hasL (xs ++ (s.out ++ [_])) a.2 a.1 = _ ∧ lastL (xs ++ (s.out ++ [_])) a.2 a.1 = _
    rw [List.map_append, List.mem_append] at ha
    have hne : accOf x ≠ a := fun e => ha (.inr (by simp [e]))
    rw [← List.append_assoc, has_post, if_neg (by rw [hacc]; exact hne), last_post2 _ _ _ _ _ (by rw [hacc]; exact hne)]
    exact i.far a (fun e => ha (.inl e))
  · show hasL (xs ++ (s.out ++ [_])) z.party z.parcel ≤ _ ∧ (_ → hasL (xs ++ (s.out ++ [_])) z.party z.parcel = _ ∨ (if x.parcel = z.parcel then s.held z.parcel - min x.amount (s.held x.parcel) else s.held z.parcel) = 0)
    have hp := has_post (xs ++ s.out) h 2 (s.id + 1) (cutDu s x) y (accOf z)
    rw [move2, hacc] at hp
    rw [← List.append_assoc]
    have hp' : hasL (xs ++ s.out ++ [postP h 2 (cutDu s x) y (s.id + 1)]) z.party z.parcel = if accOf x = accOf z then hasL (xs ++ s.out) z.party z.parcel + min x.amount (s.held x.parcel) else hasL (xs ++ s.out) z.party z.parcel := hp
    rw [hp']
    rcases List.mem_append.1 hz with hz | hz
    · have hne : accOf x ≠ accOf z := fun e => hx (by rw [e]; exact List.mem_map.2 ⟨z, hz, rfl⟩)
      rw [if_neg hne]
      obtain ⟨n1, n2⟩ := i.near z hz
      refine ⟨n1, fun e => ?_⟩
      rcases n2 e with n3 | n3
      · exact .inl n3
      · right
        by_cases ez : x.parcel = z.parcel
        · rw [ez, n3] at hk; omega
        · rw [if_neg ez]; exact n3
    · rw [List.mem_singleton.1 hz, if_pos rfl, if_pos rfl]
      have h1 : hasL (xs ++ s.out) x.party x.parcel = hasL ys0 x.party x.parcel := (i.far _ hx).1
      refine ⟨by omega, fun _ => ?_⟩
      by_cases hm2 : x.amount ≤ s.held x.parcel
      · left; rw [Int.min_eq_left hm2]; omega
      · right; rw [Int.min_eq_right (by omega)]; omega

/-- all that is known of a settling that is not refused -/
structure Settl (xs : List Po) (d : List Du) (c : List Ca) (h : Int) : Prop where
  ex : ∃ sb : SSt, BI xs d c h (overM xs d) sb ∧ PI xs c h (xs ++ sb.out) (openL xs d) (settleSt xs d c h)
theorem Lim.pay {xs : List Po} {c : List Ca} {h : Int} {s : SSt} {x : Du} (hl : Lim xs (payStep c h s x)) : Lim xs s := by
  cases hy : causeL c x.parcel h with
  | none => rwa [payStep_none hy] at hl
  | some y =>
    by_cases hk : 0 < min x.amount (s.held x.parcel)
    · rw [payStep_yes hy hk] at hl; exact hl.less.1
    · rwa [payStep_not hy hk] at hl
theorem Lim.pays {xs : List Po} {c : List Ca} {h : Int} : ∀ (l : List Du) (s : SSt), Lim xs (l.foldl (payStep c h) s) → Lim xs s
  | [], s, hl => hl
  | x :: r, s, hl => (Lim.pays r _ hl).pay
theorem settl {xs : List Po} {d : List Du} {c : List Ca} {h : Int} (hbook : (checkL xs).2 = 0) (hcd : chkDu d = 0) (hc : ∀ x ∈ c, okCa x = true) (hh : 0 ≤ h ∧ h ≤ 1000000) (hlh : lastHour xs ≤ h) (hl : Lim xs (settleSt xs d c h)) :
    BI xs d c h (overM xs d) (backSt xs d c h) ∧ PI xs c h (xs ++ (backSt xs d c h).out) (openL xs d) (settleSt xs d c h) := by
  obtain ⟨s0, hb⟩ := book_bk hbook
  have hd := goodB_all (chkDu_ok hcd).2
  have hB := back_inv hb hbook hd hc hh hlh (Lim.pays _ _ hl)
  refine ⟨hB, ?_⟩
  have H := foldl_ind (payStep c h) (fun pre s => Lim xs s → PI xs c h (xs ++ (backSt xs d c h).out) pre s) (openL xs d) [] (backSt xs d c h)
    (fun _ => ⟨hB.toSI, fun a _ => ⟨rfl, hB.last _ _⟩, fun z hz => by simp at hz⟩) ?_
  · exact H hl
  intro pre x post s he hi hl
  rw [List.nil_append] at he
  have hx := nodup_mid (openL_nodup xs hcd) he
  have hm : x ∈ openL xs d := by rw [he]; simp
  have h0 : hasL (xs ++ (backSt xs d c h).out) x.party x.parcel = hasL xs x.party x.parcel := hB.far _ (over_open hcd hm)
  have hp : 0 ≤ x.amount := by obtain ⟨_, _, _, _, h3⟩ := openL_facts hm; omega
  have i := hi hl.pay
  cases hy : causeL c x.parcel h with
  | none =>
    rw [payStep_none hy]
    exact i.skip hx h0 hp (fun e => by rw [hy] at e; cases e)
  | some y =>
    by_cases hk : 0 < min x.amount (s.held x.parcel)
    · rw [payStep_yes hy hk] at hl ⊢
      obtain ⟨l1, l2, l3⟩ := hl.less
      exact i.post hd hc hh hb.has0 hm hx h0 hy hk l2 l3
    · rw [payStep_not hy hk]
      refine i.skip hx h0 hp (fun _ => ?_)
      obtain ⟨s1, hb1⟩ := book_bk i.bk
      have h1 := hb1.held0 x.parcel
      have h2 := i.held x.parcel
      obtain ⟨_, _, _, _, h3⟩ := openL_facts hm
      omega

/-- who has too much behind a settling had it before, has the same, and it cannot be taken back -/
theorem after_over {xs : List Po} {d : List Du} {c : List Ca} {h : Int} {sb s : SSt} {s0 : Ch} (hb : Bk s0 xs) (hcd : chkDu d = 0) (hB : BI xs d c h (overM xs d) sb) (hP : PI xs c h (xs ++ sb.out) (openL xs d) s) {z : Du} (hz : z ∈ overM (xs ++ s.out) d) :
    z ∈ overM xs d ∧ ¬ Back (xs ++ s.out) c h (accOf z) := by
  have hd := goodB_all (chkDu_ok hcd).2
  obtain ⟨a, ha, e⟩ := List.mem_filterMap.1 hz
  have hdue : 0 ≤ getI (dueM d) a := (dueM_bd hd a).1
  by_cases hp : 0 < hasL (xs ++ s.out) a.2 a.1 - getI (dueM d) a
  case neg => unfold overStep at e; rw [if_neg hp] at e; cases e
  have hao : a ∉ (openL xs d).map accOf := by
    intro hm
    obtain ⟨x, hx, rfl⟩ := List.mem_map.1 hm
    obtain ⟨n1, _⟩ := hP.near x hx
    obtain ⟨q, hq, q1, q2, q3⟩ := openL_facts hx
    have h1 := dueM_at hcd hq
    rw [q1] at h1
    have h2 : hasL (xs ++ s.out) (accOf x).2 (accOf x).1 = hasL (xs ++ s.out) x.party x.parcel := rfl
    omega
  obtain ⟨f1, f2⟩ := hP.far a hao
  have hsame : hasL (xs ++ s.out) a.2 a.1 = hasL xs a.2 a.1 ∧ (a ∈ (overM xs d).map accOf → ¬ Back xs c h a) := by
    by_cases hm : a ∈ (overM xs d).map accOf
    · obtain ⟨n1, n2⟩ := hB.near a hm
      by_cases hk : Back xs c h a
      · have := n1 hk; omega
      · exact ⟨f1.trans (n2 hk), fun _ => hk⟩
    · exact ⟨f1.trans (hB.far a hm), fun e => absurd e hm⟩
  have hst : overStep xs d a = some z := by
    unfold overStep at e ⊢
    rw [hsame.1] at e
    exact e
  have hin : z ∈ overM xs d := List.mem_filterMap.2 ⟨a, (accL_mem hb.okl a).2 (by have := hsame.1; omega), hst⟩
  have haz : accOf z = a := by
    unfold overStep at hst
    rw [if_pos (by have := hsame.1; omega)] at hst
    cases hst; rfl
  refine ⟨hin, ?_⟩
  rw [haz]
  have hnb := hsame.2 (List.mem_map.2 ⟨z, hin, haz⟩)
  rintro ⟨y, hy, hk⟩
  rw [f2] at hk
  exact hnb ⟨y, hy, hk⟩
/-- who lacks something behind a settling lacks it for want of a cause or of money -/
theorem after_open {xs : List Po} {d : List Du} {c : List Ca} {h : Int} {sb s : SSt} (hcd : chkDu d = 0) (hB : BI xs d c h (overM xs d) sb) (hP : PI xs c h (xs ++ sb.out) (openL xs d) s) {z : Du} (hz : z ∈ openL (xs ++ s.out) d) :
    causeL c z.parcel h = none ∨ heldL (xs ++ s.out) z.parcel = 0 := by
  obtain ⟨e, he, e1, e2, e3⟩ := openL_facts hz
  obtain ⟨a1, a2⟩ := accOf_eq e1
  have hdue := dueM_at hcd he
  by_cases hm : accOf e ∈ (openL xs d).map accOf
  · obtain ⟨x, hx, hxe⟩ := List.mem_map.1 hm
    obtain ⟨x1, x2⟩ := accOf_eq hxe
    obtain ⟨q, hq, q1, q2, q3⟩ := openL_facts hx
    have h1 := dueM_at hcd hq
    rw [q1, hxe, hdue] at h1
    obtain ⟨_, n2⟩ := hP.near x hx
    rw [x1, x2, a1, a2] at n2 q2
    rw [a1, a2] at *
    cases hy : causeL c z.parcel h with
    | none => exact .inl rfl
    | some y =>
      rcases n2 (by rw [hy]; rfl) with n3 | n3
      · omega
      · exact .inr (by rw [← hP.held]; exact n3)
  · exfalso
    have f1 : hasL (xs ++ s.out) e.party e.parcel = hasL (xs ++ sb.out) e.party e.parcel := (hP.far _ hm).1
    have h2 : hasL (xs ++ sb.out) e.party e.parcel = getI (dueM d) (accOf e) ∨ hasL (xs ++ sb.out) e.party e.parcel = hasL xs e.party e.parcel := by
      by_cases hk : accOf e ∈ (overM xs d).map accOf
      · obtain ⟨n1, n2⟩ := hB.near _ hk
        by_cases hq : Back xs c h (accOf e)
        · exact .inl (n1 hq)
        · exact .inr (n2 hq)
      · exact .inr (hB.far _ hk)
    rw [a1, a2] at f1 h2
    rcases h2 with h2 | h2
    · omega
    · exact hm (openL_has he (by rw [a1, a2]; omega))
theorem foldl_id {α β : Type} {f : β → α → β} {b : β} : ∀ (l : List α), (∀ x ∈ l, f b x = b) → l.foldl f b = b
  | [], _ => rfl
  | x :: r, h => by rw [List.foldl_cons, h x (by simp)]; exact foldl_id r (fun y hy => h y (by simp [hy]))

theorem settleE_zero {xs : List Po} {d : List Du} {c : List Ca} {h : Int} (he : settleE xs d c h = 0) :
    ((checkL xs).2 = 0 ∧ (0 ≤ h ∧ h ≤ 1000000) ∧ chkDu d = 0 ∧ chkCa c = 0 ∧ lastHour xs ≤ h) ∧ Lim xs (settleSt xs d c h) := by
  unfold settleE at he
  by_cases hp : preE xs d c h = 0
  case neg => rw [if_pos hp] at he; exact absurd he hp
  rw [if_neg (by simp [hp])] at he
  by_cases hl : 400 < xs.length + (settleSt xs d c h).out.length ∨ (0 < (settleSt xs d c h).out.length ∧ 1000000 < (settleSt xs d c h).id)
  · rw [if_pos hl] at he; omega
  refine ⟨?_, by omega, ?_⟩
  · unfold preE at hp
    by_cases h1 : (checkL xs).2 = 0
    case neg => rw [if_pos h1] at hp; exact absurd hp h1
    rw [if_neg (by simp [h1])] at hp
    by_cases h2 : 0 ≤ h ∧ h ≤ 1000000
    case neg => rw [if_pos h2] at hp; omega
    rw [if_neg (by simp [h2])] at hp
    by_cases h3 : chkDu d = 0
    case neg => rw [if_pos h3] at hp; exact absurd hp h3
    rw [if_neg (by simp [h3])] at hp
    by_cases h4 : chkCa c = 0
    case neg => rw [if_pos h4] at hp; exact absurd hp h4
    rw [if_neg (by simp [h4])] at hp
    by_cases h5 : h < lastHour xs
    · rw [if_pos h5] at hp; omega
    exact ⟨h1, h2, h3, h4, by omega⟩
  · by_cases h1 : (settleSt xs d c h).out = []
    · exact .inl h1
    · have : 0 < (settleSt xs d c h).out.length := List.length_pos_iff.2 h1
      exact .inr (by omega)
theorem chkCa_all {c : List Ca} (h : chkCa c = 0) : ∀ x ∈ c, okCa x = true := by
  unfold chkCa listL at h
  by_cases h1 : 400 < c.length
  · rw [if_pos h1] at h; omega
  rw [if_neg h1] at h
  by_cases h2 : goodB okCa ltCa none c = true
  · exact goodB_all h2
  · rw [if_neg h2] at h; omega

/-- what settling comes to, all of it -/
structure Settled (xs : List Po) (d : List Du) (c : List Ca) (h : Int) (out : List Po) : Prop where
  bk : (checkL (xs ++ out)).2 = 0
  hours : ∀ p ∈ out, p.hour = h
  over : ∀ z ∈ overM (xs ++ out) d, z ∈ overM xs d
  againE : settleE (xs ++ out) d c h = 0
  again : (settleSt (xs ++ out) d c h).out = []
theorem settled_law {xs : List Po} {d : List Du} {c : List Ca} {h : Int} (he : settleE xs d c h = 0) : Settled xs d c h (settleSt xs d c h).out := by
  obtain ⟨⟨hbook, hh, hcd, hcc, hlh⟩, hl⟩ := settleE_zero he
  obtain ⟨s0, hb⟩ := book_bk hbook
  obtain ⟨hB, hP⟩ := settl hbook hcd (chkCa_all hcc) hh hlh hl
  have hbacks : backSt (xs ++ (settleSt xs d c h).out) d c h = ⟨idMax (xs ++ (settleSt xs d c h).out), [], heldL (xs ++ (settleSt xs d c h).out)⟩ := by
    refine foldl_id _ (fun z hz => ?_)
    have hnb := (after_over hb hcd hB hP hz).2
    cases hy : causeL c z.parcel h with
    | none => exact backStep_none hy
    | some y => exact backStep_not hy (fun hk => hnb ⟨y, hy, hk⟩)
  have hst : settleSt (xs ++ (settleSt xs d c h).out) d c h = ⟨idMax (xs ++ (settleSt xs d c h).out), [], heldL (xs ++ (settleSt xs d c h).out)⟩ := by
    unfold settleSt
    rw [show backSt (xs ++ ((openL xs d).foldl (payStep c h) (backSt xs d c h)).out) d c h = _ from hbacks]
    refine foldl_id _ (fun z hz => ?_)
    rcases after_open hcd hB hP hz with h1 | h1
    · exact payStep_none h1
    · cases hy : causeL c z.parcel h with
      | none => exact payStep_none hy
      | some y => exact payStep_not hy (by show ¬ 0 < min z.amount (heldL _ z.parcel); have h1' : heldL (xs ++ ((openL xs d).foldl (payStep c h) (backSt xs d c h)).out) z.parcel = 0 := h1; omega)
  refine ⟨hP.bk, hP.hours, fun z hz => (after_over hb hcd hB hP hz).1, ?_, by rw [hst]⟩
  have hlen : xs.length + (settleSt xs d c h).out.length ≤ 400 := hl.1
  have hpre : preE (xs ++ (settleSt xs d c h).out) d c h = 0 := by
    unfold preE
    rw [if_neg (by simp [hP.bk]), if_neg (by simp [hh]), if_neg (by simp [hcd]), if_neg (by simp [hcc]), if_neg (by have := hP.lh; omega)]
  unfold settleE
  rw [if_neg (by simp [hpre]), hst, if_neg (by simp; omega)]
theorem settle_fails {xs : List Po} {d : List Du} {c : List Ca} {h : Int} {i : Nat} {p : Po} (hs : Settled xs d c h (settleSt xs d c h).out) (hi : (settleSt xs d c h).out[i]? = some p) : (checkL (xs ++ (settleSt xs d c h).out.take i)).2 = 0 ∧ refusedL (xs ++ (settleSt xs d c h).out.take i) p = 0 := by
  have h1 := hs.bk
  generalize (settleSt xs d c h).out = out at *
  have h2 : out = out.take i ++ p :: out.drop (i + 1) := by rw [← drop_at hi]; simp
  constructor
  · have := book_cut h1 (xs.length + i)
    rwa [List.take_append, List.take_of_length_le (by omega), show xs.length + i - xs.length = i by omega] at this
  · rw [h2, ← List.append_assoc] at h1
    exact book_at h1
end Go.Proofs.YtehedodogkhmgaaGreat
