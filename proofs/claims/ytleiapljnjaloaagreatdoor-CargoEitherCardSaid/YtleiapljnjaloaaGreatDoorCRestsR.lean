/- On which Ids an end rests: what is left is enough, and none of it can be left out (no dump). -/
import Derived.Test.YtleiapljnjaloaaGreatDoorCLeftP
import Derived.Test.YtleiapljnjaloaaGreatDoorCCheckL
set_option linter.unusedSimpArgs false
set_option linter.unusedVariables false
namespace Go.Proofs.YtleiapljnjaloaaGreatDoor
theorem leftR_sub (still : List Int → Bool) : ∀ (r out : List Int), ∀ x ∈ leftR still r out, x ∈ out
 | [], out, x, hx => hx
 | i :: r, out, x, hx => by
   have := leftR_sub still r _ x hx
   split at this
   · exact (List.mem_filter.1 this).1
   · exact this
theorem leftR_still (still : List Int → Bool) : ∀ (r out : List Int), still out = true → still (leftR still r out) = true
 | [], out, h => h
 | i :: r, out, h => by
   simp only [leftR]
   refine leftR_still still r _ ?_
   split
   · assumption
   · exact h
theorem leftR_min (still : List Int → Bool) (ids : List Int) (mono : ∀ S T : List Int, (∀ x ∈ S, x ∈ T) → (∀ x ∈ T, x ∈ ids) → still S = true → still T = true) :
 ∀ (r out : List Int), (∀ x ∈ out, x ∈ ids) → ∀ x ∈ r, x ∈ leftR still r out → still ((leftR still r out).filter (fun y => !decide (y = x))) = false
 | [], _, _, x, hx, _ => by simp at hx
 | i :: r, out, ho, x, hx, hm => by
   simp only [leftR] at hm ⊢
   have ho' : ∀ x ∈ (if still (out.filter (fun x => !decide (x = i))) then out.filter (fun x => !decide (x = i)) else out), x ∈ ids := by
    split
    · intro y hy; exact ho y (List.mem_filter.1 hy).1
    · exact ho
   by_cases hr : x ∈ r
   · exact leftR_min still ids mono r _ ho' x hr hm
   · have hxi : x = i := by
      rcases List.mem_cons.1 hx with h | h
      · exact h
      · exact absurd h hr
     subst hxi
     have hin := leftR_sub still r _ x hm
     split at hin
     · have := (List.mem_filter.1 hin).2; simp at this
     · rename_i hs
       rw [if_neg hs]
       rw [Bool.eq_false_iff]
       intro h
       refine hs (mono _ _ (fun y hy => ?_) (fun y hy => ho y (List.mem_filter.1 hy).1) h)
       obtain ⟨h1, h2⟩ := List.mem_filter.1 hy
       exact List.mem_filter.2 ⟨leftR_sub still r _ y h1, h2⟩
theorem leftL_mem (still : List Int → Bool) (ids : List Int) (x : Int) : x ∈ leftL still ids ↔ x ∈ leftR still ids.reverse ids := (List.mergeSort_perm _ _).mem_iff
theorem leftL_sub (still : List Int → Bool) (ids : List Int) : ∀ x ∈ leftL still ids, x ∈ ids := fun x hx => leftR_sub still _ _ x ((leftL_mem still ids x).1 hx)
theorem leftL_still (still : List Int → Bool) (ids : List Int) (mono : ∀ S T : List Int, (∀ x ∈ S, x ∈ T) → (∀ x ∈ T, x ∈ ids) → still S = true → still T = true) (h : still ids = true) : still (leftL still ids) = true :=
 mono _ _ (fun x hx => (leftL_mem still ids x).2 hx) (leftL_sub still ids) (leftR_still still _ _ h)
theorem leftL_min (still : List Int → Bool) (ids : List Int) (mono : ∀ S T : List Int, (∀ x ∈ S, x ∈ T) → (∀ x ∈ T, x ∈ ids) → still S = true → still T = true) {S : List Int} {x : Int} (hx : x ∈ leftL still ids) (hS : ∀ y ∈ S, y ∈ leftL still ids ∧ y ≠ x) : still S = false := by
 have hm := (leftL_mem still ids x).1 hx
 have := leftR_min still ids mono ids.reverse ids (fun _ h => h) x (List.mem_reverse.2 (leftL_sub still ids x hx)) hm
 rw [Bool.eq_false_iff]
 intro h
 rw [mono S _ (fun y hy => List.mem_filter.2 ⟨(leftL_mem still ids y).1 (hS y hy).1, by simp [(hS y hy).2]⟩) (fun y hy => leftR_sub still _ _ y (List.mem_filter.1 hy).1) h] at this
 cases this
theorem erase_other {l : List Int} (hn : l.Nodup) {i : Nat} {x : Int} (h : l[i]? = some x) : ∀ y ∈ l.eraseIdx i, y ∈ l ∧ y ≠ x := by
 intro y hy
 refine ⟨List.mem_of_mem_eraseIdx hy, ?_⟩
 rintro rfl
 obtain ⟨hi, hx⟩ := List.getElem?_eq_some_iff.1 h
 obtain ⟨j, hj, hji, hjx⟩ := List.mem_eraseIdx_iff_getElem.1 hy
 have hp := List.pairwise_iff_getElem.1 hn
 rcases Nat.lt_or_gt_of_ne hji with h1 | h1
 · exact hp j i hj hi h1 (hjx.trans hx.symm)
 · exact hp i j hi hj h1 (hx.trans hjx.symm)
theorem end_some {ps ts : List Pa} (hmo : ManiOk ps ts) {t s : Tr} (ht : treeT ps ts (fun _ => true) = some t) (hs : solveT t = some s) {pack : Int} (hk : (ofI ps pack).isSome = true) (ids : List Int) (upper : Bool) :
 endM ps ts ids pack upper = some (sideR (endsI ps ts ids pack) upper) := by
 rw [end_is hmo (by rw [ht]; rfl) hk ids upper, whole_less hmo ht hs ids, if_pos rfl]
theorem end_wide {ps ts : List Pa} (hmo : ManiOk ps ts) {t s : Tr} (ht : treeT ps ts (fun _ => true) = some t) (hs : solveT t = some s) {pack : Int} (hk : (ofI ps pack).isSome = true) {S T : List Int} (hST : ∀ x ∈ S, x ∈ T) {upper : Bool} {a b : Int}
 (ha : endM ps ts S pack upper = some a) (hb : endM ps ts T pack upper = some b) : (upper = true → b ≤ a) ∧ (upper = false → a ≤ b) := by
 obtain ⟨tT, hT1, hT2⟩ := tree_wid hmo (has' := fun i => T.contains i) (fun _ _ => rfl) ht
 obtain ⟨sT, hT3, _⟩ := wid_solve hT2 hs
 obtain ⟨tS, hS1, hS2⟩ := tree_wid hmo (has := fun i => T.contains i) (has' := fun i => S.contains i) (fun i hi => by simp only [List.contains_iff_mem] at hi ⊢; exact hST i hi) hT1
 obtain ⟨sS, hS3, hW⟩ := wid_solve hS2 hT3
 have hin := tree_has hmo.packs hT1 hk
 rw [← solve_packs hT3] at hin
 obtain ⟨k, hk1, _, _⟩ := find_of_pack hin
 obtain ⟨k', hk2, hk3, hk4⟩ := hW.find hk1
 unfold endM at ha hb
 rw [hS1] at ha
 rw [hT1] at hb
 simp only [Option.bind_some, hS3, hT3] at ha hb
 rw [show findT sS pack = some k' from hk2] at ha
 rw [hk1] at hb
 cases ha
 cases hb
 constructor
 · rintro rfl; simpa [nodeF] using hk4
 · rintro rfl; simpa [nodeF] using hk3
theorem stepB_sub {all : List Int} : ∀ {ids : List Int} {p : Option Int}, stepB all p ids = true → ∀ x ∈ ids, x ∈ all
 | [], _, _, x, hx => by simp at hx
 | y :: r, p, h, x, hx => by
   simp only [stepB, Bool.and_eq_true, List.contains_iff_mem] at h
   rcases List.mem_cons.1 hx with rfl | hx
   · exact h.1.2
   · exact stepB_sub h.2 x hx
theorem stepB_of {all : List Int} : ∀ {ids : List Int} {p : Option Int}, ids.Pairwise (· < ·) → (∀ x ∈ ids, x ∈ all) → (∀ z, p = some z → ∀ y ∈ ids, z < y) → stepB all p ids = true
 | [], _, _, _, _ => rfl
 | y :: r, p, hp, hs, hz => by
   obtain ⟨h1, h2⟩ := List.pairwise_cons.1 hp
   simp only [stepB, Bool.and_eq_true, List.contains_iff_mem]
   refine ⟨⟨?_, hs y (by simp)⟩, stepB_of h2 (fun x hx => hs x (List.mem_cons_of_mem _ hx)) (fun z e w hw => by cases e; exact h1 w hw)⟩
   cases p with
   | none => rfl
   | some z => exact decide_eq_true (hz z rfl y (by simp))
theorem left_rising (still : List Int → Bool) {ids : List Int} (h : ids.Nodup) : (leftL still ids).Pairwise (· < ·) := by
 have h1 : (leftL still ids).Pairwise (fun x y => decide (x ≤ y) = true) := List.pairwise_mergeSort (le := fun x y : Int => decide (x ≤ y)) (fun a b c => by simp; omega) (fun a b => by simp; omega) _
 have hsub : ∀ (r out : List Int), (leftR still r out).Sublist out := by
  intro r
  induction r with
  | nil => intro out; exact List.Sublist.refl _
  | cons i r ih =>
    intro out
    simp only [leftR]
    split
    · exact (ih _).trans List.filter_sublist
    · exact ih _
 have h2 : (leftL still ids).Nodup := (List.mergeSort_perm _ _).nodup_iff.2 (h.sublist (hsub _ _))
 exact (h1.and h2).imp (fun {a b} h => by have := of_decide_eq_true h.1; have := h.2; omega)
theorem left_nodup (still : List Int → Bool) {ids : List Int} (h : ids.Nodup) : (leftL still ids).Nodup := (left_rising still h).imp (fun {a b} h => by omega)
theorem rests_is {l : List Pa} {known loss pack : Int} {upper : Bool} (h : weighE l known loss (hasP l known loss pack) = 0) :
 ckLineV l known loss pack upper (sideR (weighP l known loss pack) upper) (lineageP (papersL l known loss) (totalsL l known loss) l pack upper) = true ∧
 (∀ endv ids, ckLineV l known loss pack upper endv ids = true → (upper = true → (weighP l known loss pack).2 ≤ endv) ∧ (upper = false → endv ≤ (weighP l known loss pack).1)) ∧
 ∀ i, i < (lineageP (papersL l known loss) (totalsL l known loss) l pack upper).length → ckLineV l known loss pack upper (sideR (weighP l known loss pack) upper) ((lineageP (papersL l known loss) (totalsL l known loss) l pack upper).eraseIdx i) = false := by
 have hr := weigh_root h
 obtain ⟨h0, hh, t, ht⟩ := rootE_zero hr
 have hc := open_check h0
 have hmo := mani_ok (check_good hc).1 known loss
 have ht' : treeT (papersL l known loss) (totalsL l known loss) (fun _ => true) = some t := ht
 have hs := weigh_some h
 rw [ht] at hs
 simp only [Option.bind_some] at hs
 obtain ⟨s, hs⟩ := Option.isSome_iff_exists.1 hs
 have hwp : weighP l known loss pack = ((nodeF (findT s pack)).endL, (nodeF (findT s pack)).endH) := by
  unfold weighP; rw [ht]; simp only [Option.bind_some, hs]
 have hwant : endM (papersL l known loss) (totalsL l known loss) (idsM (papersL l known loss) (totalsL l known loss) l) pack upper = some (sideR (weighP l known loss pack) upper) := by
  unfold endM
  rw [tree_cong (h2 := fun _ => true) (fun x hx => by
   have := ids_all hc x hx
   simpa using this), ht']
  simp only [Option.bind_some, hs]
  rw [hwp]; rfl
 have hnd := ids_nodup hc (papersL l known loss) (totalsL l known loss)
 unfold lineageP ckLineV
 rw [decide_eq_true hr]
 simp only [Bool.true_and]
 unfold hasP at hh
 rw [hwant, Option.getD_some]
 generalize idsM (papersL l known loss) (totalsL l known loss) l = IDS at *
 obtain ⟨W, hW⟩ : ∃ W, weighP l known loss pack = W := ⟨_, rfl⟩
 rw [hW] at hwant ⊢
 have hsome := fun ids => end_some hmo ht' hs hh ids upper
 have hwide := fun (S T : List Int) (hST : ∀ x ∈ S, x ∈ T) (a b : Int) ha hb => end_wide hmo ht' hs hh hST (upper := upper) (a := a) (b := b) ha hb
 generalize papersL l known loss = PS at *
 generalize totalsL l known loss = TS at *
 have mono : ∀ S T : List Int, (∀ x ∈ S, x ∈ T) → (∀ x ∈ T, x ∈ IDS) → restsB PS TS pack upper (sideR W upper) S = true → restsB PS TS pack upper (sideR W upper) T = true := by
  intro S T h1 h2 h3
  have h4 := of_decide_eq_true h3
  have h5 := hwide S T h1 _ _ h4 (hsome T)
  have h6 := hwide T IDS h2 _ _ (hsome T) hwant
  refine decide_eq_true ?_
  rw [hsome T]
  congr 1
  cases upper with
  | true => have := h5.1 rfl; have := h6.1 rfl; omega
  | false => have := h5.2 rfl; have := h6.2 rfl; omega
 have hstill : restsB PS TS pack upper (sideR W upper) IDS = true := decide_eq_true hwant
 refine ⟨?_, ?_, ?_⟩
 · rw [Bool.and_eq_true]
   refine ⟨stepB_of (left_rising _ hnd) (leftL_sub _ _) (fun z e => by cases e), ?_⟩
   have := of_decide_eq_true (leftL_still _ _ mono hstill)
   rw [this]
   unfold endB
   cases upper <;> simp
 · intro endv ids hq
   rw [Bool.and_eq_true] at hq
   have h1 := hwide ids IDS (stepB_sub hq.1) _ _ (hsome ids) hwant
   have h2 := hq.2
   rw [hsome ids] at h2
   unfold endB at h2
   cases upper with
   | true => refine ⟨fun _ => ?_, fun e => by cases e⟩; have h3 := h1.1 rfl; simp [sideR] at h2 h3; omega
   | false => refine ⟨(fun e => by cases e), fun _ => ?_⟩; have h3 := h1.2 rfl; simp [sideR] at h2 h3; omega
 · intro i hi
   obtain ⟨x, hx⟩ : ∃ x, (leftL (restsB PS TS pack upper (sideR W upper)) IDS)[i]? = some x := ⟨_, List.getElem?_eq_getElem hi⟩
   have ho := erase_other (left_nodup _ hnd) hx
   have hm := leftL_min _ _ mono (List.mem_of_getElem? hx) ho
   rw [Bool.and_eq_false_iff]
   right
   have h1 := hwide _ IDS (fun y hy => leftL_sub _ _ y (ho y hy).1) _ _ (hsome _) hwant
   have h2 : ¬ endM PS TS ((leftL (restsB PS TS pack upper (sideR W upper)) IDS).eraseIdx i) pack upper = some (sideR W upper) := of_decide_eq_false hm
   rw [hsome] at h2 ⊢
   have h3 : sideR (endsI PS TS ((leftL (restsB PS TS pack upper (sideR W upper)) IDS).eraseIdx i) pack) upper ≠ sideR W upper := fun e => h2 (by rw [e])
   unfold endB
   cases upper with
   | true => have := h1.1 rfl; simp; omega
   | false => have := h1.2 rfl; simp; omega
end Go.Proofs.YtleiapljnjaloaaGreatDoor
