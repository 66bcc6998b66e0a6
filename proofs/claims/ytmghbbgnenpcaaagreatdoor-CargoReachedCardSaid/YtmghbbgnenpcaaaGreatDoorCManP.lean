/- The reference's manifests against the package's: the plain law (no dump). -/
import Derived.Test.YtmghbbgnenpcaaaGreatDoorCGood
set_option linter.unusedSimpArgs false
set_option linter.unusedVariables false
namespace Go.Proofs.YtmghbbgnenpcaaaGreatDoor
open Go.RowKit Go.Shelf

def countR (l : List Pa) (known : Int) : List Pa := if (checkC l).2 = 0 then countL l known else []
def lastK (c : List Pa) (loss kind pack : Int) : Option Pa := (c.filter (fun x => decide (x.loss = loss ∧ x.kind = kind ∧ x.pack = pack))).getLast?
def lastsR (c : List Pa) (loss kind : Int) : List Pa := packsU.filterMap (lastK c loss kind)
def packagesR (l : List Pa) (known loss : Int) : List Pa := lastsR (countR l known) loss 1
def isThere (ps : List Pa) (x : Pa) : Bool := decide (x.pack = 0) || (ofI ps x.pack).isSome
def totalsR (l : List Pa) (known loss : Int) : List Pa := (lastsR (countR l known) loss 2).filter (isThere (packagesR l known loss))

theorem count_good {l : List Pa} (h : (checkC l).2 = 0) (known : Int) : ∀ x ∈ countL l known, formedP x ∧ x.kind ≠ 3 := by
  intro x hx
  unfold countL at hx
  rw [List.mem_filter] at hx
  simp only [Bool.and_eq_true, decide_eq_true_eq] at hx
  exact ⟨(check_good h).1 x hx.1, hx.2.1.1⟩
theorem formed_kind {x : Pa} (h : formedP x) (h3 : x.kind ≠ 3) : (x.kind = 1 ∨ x.kind = 2) ∧ 1 ≤ x.loss ∧ x.loss ≤ 20 := by
  unfold formedP at h
  obtain ⟨h1, h2, h4 | h4 | h4⟩ := h
  · omega
  · omega
  · exact absurd h4.1 h3
theorem lastK_is {c : List Pa} (hc : ∀ x ∈ c, formedP x ∧ x.kind ≠ 3) (loss : Int) (t : Bool) (p : Int) : lastK c loss (if t then 2 else 1) p = lastOf c loss t p := by
  unfold lastK lastOf
  congr 1
  refine List.filter_congr fun x hx => ?_
  have hk := (formed_kind (hc x hx).1 (hc x hx).2).1
  rw [Bool.eq_iff_iff]
  simp only [Bool.and_eq_true, decide_eq_true_eq, beq_iff_eq]
  cases t with
  | true =>
    simp only [if_true, decide_eq_true_eq]
    constructor
    · rintro ⟨a, b, c⟩; exact ⟨⟨a, b⟩, c⟩
    · rintro ⟨⟨a, b⟩, c⟩; exact ⟨a, b, c⟩
  | false =>
    simp only [decide_eq_false_iff_not]
    constructor
    · rintro ⟨a, b, c⟩; exact ⟨⟨a, by simp at b; omega⟩, c⟩
    · rintro ⟨⟨a, b⟩, c⟩; exact ⟨a, by simp; omega, c⟩
theorem filterMap_eq {α β : Type} {f g : α → Option β} : ∀ {l : List α}, (∀ x ∈ l, f x = g x) → l.filterMap f = l.filterMap g
  | [], _ => rfl
  | x :: r, h => by
    rw [List.filterMap_cons, List.filterMap_cons, h x (by simp), filterMap_eq (fun y hy => h y (List.mem_cons_of_mem _ hy))]
theorem ofI_filterMap {f : Int → Option Pa} (hf : ∀ p x, f p = some x → x.pack = p) : ∀ (l : List Int) (p : Int), ofI (l.filterMap f) p = if p ∈ l then f p else none
  | [], p => by simp [ofI]
  | q :: r, p => by
    have ih := ofI_filterMap hf r p
    rw [List.filterMap_cons]
    by_cases hq : p = q
    · subst hq
      rw [if_pos (by simp)]
      cases e : f p with
      | none =>
        simp only
        rw [ih]
        split
        · exact e
        · rfl
      | some x =>
        simp only
        unfold ofI
        rw [List.find?_cons_of_pos (by simp [hf p x e])]
    · have hm : (p ∈ q :: r) ↔ p ∈ r := by simp [hq]
      simp only [hm]
      cases e : f q with
      | none => simp only; exact ih
      | some x =>
        simp only
        unfold ofI at ih ⊢
        rw [List.find?_cons_of_neg (by simp [hf q x e]; exact fun h => hq h.symm)]
        exact ih
theorem papersL_empty {l : List Pa} (h : (checkC l).2 = 0) {known loss : Int} (hl : within loss 1 20 = false) (t : Bool) (p : Int) : lastOf (countL l known) loss t p = none := by
  cases e : lastOf (countL l known) loss t p with
  | none => rfl
  | some x =>
    obtain ⟨h1, h2, _, _⟩ := lastOf_mem e
    have := (formed_kind (count_good h known x h1).1 (count_good h known x h1).2).2
    unfold within at hl
    simp only [decide_eq_false_iff_not] at hl
    omega
theorem packagesR_is (l : List Pa) (known loss : Int) : packagesR l known loss = papersO l known loss := by
  unfold packagesR papersO lastsR countR openE
  by_cases h : (checkC l).2 = 0
  · simp only [if_pos h]
    have hk := lastK_is (count_good h known) loss false
    have e : packsU.filterMap (lastK (countL l known) loss 1) = papersL l known loss := by
      unfold papersL papersC
      congr 1
      funext p
      exact hk p
    rw [e]
    cases hw : within loss 1 20 with
    | true => simp
    | false =>
      simp only [Bool.false_eq_true, if_false]
      rw [if_neg (by decide)]
      unfold papersL papersC
      rw [List.filterMap_eq_nil_iff]
      exact fun p _ => papersL_empty h hw false p
  · rw [if_neg h, if_neg h, if_neg h]
    rw [List.filterMap_eq_nil_iff]
    exact fun p _ => rfl
theorem totalsR_is (l : List Pa) (known loss : Int) : totalsR l known loss = totalsO l known loss := by
  unfold totalsR
  rw [packagesR_is]
  unfold totalsO papersO lastsR countR openE
  by_cases h : (checkC l).2 = 0
  · simp only [if_pos h]
    have hk := lastK_is (count_good h known) loss true
    have e : packsU.filterMap (lastK (countL l known) loss 2) = packsU.filterMap (lastOf (countL l known) loss true) := by
      congr 1
      funext p
      exact hk p
    rw [e]
    cases hw : within loss 1 20 with
    | true =>
      simp only [if_true]
      rw [List.filter_filterMap]
      unfold totalsL totalsC
      refine filterMap_eq fun p hp => ?_
      cases e2 : lastOf (countL l known) loss true p with
      | none => simp
      | some x =>
        have hx := (lastOf_mem e2).2.2.2
        have ho : ofI (papersL l known loss) p = lastOf (countL l known) loss false p := by
          unfold papersL papersC
          rw [ofI_filterMap (fun p x hx => (lastOf_mem hx).2.2.2), if_pos hp]
        by_cases hc : p = 0 ∨ (lastOf (countL l known) loss false p).isSome = true
        · rw [if_pos hc, Option.filter_some_pos]
          unfold isThere
          rw [hx, ho]
          simpa using hc
        · rw [if_neg hc, Option.filter_some_neg]
          unfold isThere
          rw [hx, ho]
          simpa using hc
    | false =>
      simp only [Bool.false_eq_true, if_false]
      rw [if_neg (by decide), if_neg (by decide)]
      rw [List.filterMap_eq_nil_iff.2 (fun p _ => papersL_empty h hw true p)]
      rfl
  · simp only [if_neg h]
    rw [show packsU.filterMap (lastK [] loss 2) = [] from List.filterMap_eq_nil_iff.2 (fun p _ => rfl)]
    rfl
/-- totals are of the ship or of packages that are there -/
theorem totals_in {l : List Pa} {known loss : Int} : ∀ s ∈ totalsL l known loss, s.pack = 0 ∨ (ofI (papersL l known loss) s.pack).isSome = true := by
  intro s hs
  unfold totalsL totalsC at hs
  obtain ⟨p, hp, he⟩ := List.mem_filterMap.1 hs
  split at he
  · rename_i hc
    have hx := (lastOf_mem he).2.2.2
    rw [hx]
    rcases hc with h0 | h0
    · exact .inl h0
    · right
      unfold papersL papersC
      rw [ofI_filterMap (fun p x hx => (lastOf_mem hx).2.2.2), if_pos hp]
      exact h0
  · cases he
end Go.Proofs.YtmghbbgnenpcaaaGreatDoor
