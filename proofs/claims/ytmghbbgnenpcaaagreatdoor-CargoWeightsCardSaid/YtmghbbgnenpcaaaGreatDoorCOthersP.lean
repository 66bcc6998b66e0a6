/- Papers of other losses, and those that are known later, change nothing: the plain law (no dump). -/
import Derived.Test.YtmghbbgnenpcaaaGreatDoorCPathP
set_option linter.unusedSimpArgs false
set_option linter.unusedVariables false
namespace Go.Proofs.YtmghbbgnenpcaaaGreatDoor
open Go.RowKit Go.Shelf

theorem checkFrom_good {l : List Pa} : ∀ (m i : Nat), (∀ k, i ≤ k → k < i + m → ∀ x, l[k]? = some x → followsL (l.take k) x = 0) → checkFrom l m i = (0, 0)
  | 0, i, _ => rfl
  | m + 1, i, h => by
    simp only [checkFrom]
    cases e : l[i]? with
    | none => rfl
    | some y =>
      simp only
      rw [if_pos (h i (by omega) (by omega) y e)]
      exact checkFrom_good m (i + 1) (fun k h1 h2 => h k (by omega) (by omega))
theorem check_snoc {l : List Pa} {x : Pa} (h : (checkC l).2 = 0) (hf : followsL l x = 0) : (checkC (l ++ [x])).2 = 0 := by
  have ha := checkFrom_all l.length 0 h
  unfold checkC
  rw [checkFrom_good]
  intro k _ hk y hy
  rw [List.length_append, List.length_singleton] at hk
  by_cases hl : k < l.length
  · rw [List.getElem?_append_left hl] at hy
    rw [List.take_append_of_le_length (by omega)]
    exact ha k (by omega) (by omega) y hy
  · have hkl : k = l.length := by omega
    subst hkl
    rw [List.getElem?_append_right (Nat.le_refl _), Nat.sub_self] at hy
    rw [List.take_left']
    · simp at hy; subst hy; exact hf
    · rfl
theorem follows_fresh {l : List Pa} {x : Pa} (h : followsL l x = 0) : ∀ y ∈ l, y.id ≠ x.id := by
  intro y hy e
  have ha : l.any (fun y => decide (y.id = x.id)) = true := List.any_eq_true.2 ⟨y, hy, decide_eq_true e⟩
  unfold followsL at h
  split at h
  · cases h
  · split at h
    · cases h
    · first | omega | (rw [if_pos ha] at h; omega)
theorem ids_differ {l : List Pa} (h : (checkC l).2 = 0) {i j : Nat} {y z : Pa} (hy : l[i]? = some y) (hz : l[j]? = some z) (hij : i < j) : y.id ≠ z.id := by
  have hj := (List.getElem?_eq_some_iff.1 hz).1
  have hf := checkFrom_all l.length 0 h j (by omega) (by omega) z hz
  refine follows_fresh hf y ?_
  exact List.mem_of_getElem? (show (l.take j)[i]? = some y from by rw [List.getElem?_take, if_pos hij]; exact hy)
theorem ids_unique {l : List Pa} (h : (checkC l).2 = 0) {y z : Pa} (hy : y ∈ l) (hz : z ∈ l) (e : y.id = z.id) : y = z := by
  obtain ⟨i, hi⟩ := List.getElem?_of_mem hy
  obtain ⟨j, hj⟩ := List.getElem?_of_mem hz
  rcases Nat.lt_trichotomy i j with h1 | h1 | h1
  · exact absurd e (ids_differ h hi hj h1)
  · subst h1; rw [hi] at hj; exact Option.some.inj hj
  · exact absurd e.symm (ids_differ h hj hi h1)
/-- the loss that a paper is of, or of what it makes void -/
def ofStep (x : Pa) (o : Int) (y : Pa) : Int := if x.kind = 3 ∧ y.id = x.of then y.loss else o
def ofO (x : Pa) (l : List Pa) : Int := l.foldl (ofStep x) x.loss
theorem of_mem {x : Pa} (h3 : x.kind = 3) : ∀ (l : List Pa) (o : Int), (∃ y ∈ l, y.id = x.of) → ∃ z ∈ l, z.id = x.of ∧ l.foldl (ofStep x) o = z.loss
  | [], _, h => by obtain ⟨y, hy, _⟩ := h; simp at hy
  | y :: r, o, h => by
    by_cases hr : ∃ y ∈ r, y.id = x.of
    · obtain ⟨z, hz, h1, h2⟩ := of_mem h3 r (ofStep x o y) hr
      exact ⟨z, List.mem_cons_of_mem _ hz, h1, h2⟩
    · obtain ⟨q, hq, he⟩ := h
      rcases List.mem_cons.1 hq with rfl | hq
      · refine ⟨q, by simp, he, ?_⟩
        have : ∀ (l : List Pa) (o : Int), (¬ ∃ y ∈ l, y.id = x.of) → l.foldl (ofStep x) o = o := by
          intro l
          induction l with
          | nil => intro o _; rfl
          | cons a b ih =>
            intro o hn
            rw [List.foldl_cons, ih _ (fun ⟨y, h1, h2⟩ => hn ⟨y, List.mem_cons_of_mem _ h1, h2⟩)]
            unfold ofStep
            rw [if_neg (fun e => hn ⟨a, by simp, e.2⟩)]
        rw [List.foldl_cons, this _ _ hr]
        unfold ofStep
        rw [if_pos ⟨h3, he⟩]
      · exact absurd ⟨q, hq, he⟩ hr
theorem ofO_is {l : List Pa} (h : (checkC l).2 = 0) {x y : Pa} (h3 : x.kind = 3) (hy : y ∈ l) (e : y.id = x.of) : ofO x l = y.loss := by
  obtain ⟨z, hz, h1, h2⟩ := of_mem h3 l x.loss ⟨y, hy, e⟩
  unfold ofO
  rw [h2, ids_unique h hz hy (by omega)]
theorem ofO_own {l : List Pa} {x : Pa} (h3 : x.kind ≠ 3) : ofO x l = x.loss := by
  unfold ofO
  have : ∀ (l : List Pa) (o : Int), l.foldl (ofStep x) o = o := by
    intro l
    induction l with
    | nil => intro o; rfl
    | cons a b ih => intro o; rw [List.foldl_cons, ih]; unfold ofStep; rw [if_neg (fun e => h3 e.1)]
  exact this _ _
theorem last_same {l : List Pa} {x : Pa} {known loss : Int} (h : (checkC l).2 = 0) (hf : followsL l x = 0) (ho : known < x.known ∨ ofO x l ≠ loss) (t : Bool) (p : Int) :
    lastOf (countL (l ++ [x]) known) loss t p = lastOf (countL l known) loss t p := by
  unfold lastOf countL
  rw [List.filter_append, List.filter_append]
  have e1 : (([x].filter (fun z => decide (z.kind ≠ 3 ∧ z.known ≤ known) && !voided (l ++ [x]) known z.id)).filter (fun z => decide (z.loss = loss) && decide (z.kind = 2) == t && decide (z.pack = p))) = [] := by
    rw [List.filter_filter, List.filter_eq_nil_iff]
    intro z hz
    rw [List.mem_singleton] at hz
    subst hz
    intro hc
    simp only [Bool.and_eq_true, decide_eq_true_eq] at hc
    obtain ⟨⟨⟨hl, _⟩, _⟩, ⟨hk, hkn⟩, _⟩ := hc
    rcases ho with ho | ho
    · omega
    · rw [ofO_own hk] at ho; exact ho hl
  rw [e1, List.append_nil]
  congr 1
  rw [List.filter_filter, List.filter_filter]
  refine List.filter_congr fun z hz => ?_
  rw [Bool.eq_iff_iff]
  simp only [Bool.and_eq_true, decide_eq_true_eq, Bool.not_eq_true']
  have hv : voided (l ++ [x]) known z.id = (voided l known z.id || decide (x.kind = 3 ∧ x.known ≤ known ∧ x.of = z.id)) := by
    unfold voided; rw [List.any_append]; simp
  rw [hv]
  constructor
  · rintro ⟨h1, h2, h3⟩
    rw [Bool.or_eq_false_iff] at h3
    exact ⟨h1, h2, h3.1⟩
  · rintro ⟨h1, h2, h3⟩
    refine ⟨h1, h2, ?_⟩
    rw [Bool.or_eq_false_iff]
    refine ⟨h3, decide_eq_false ?_⟩
    rintro ⟨k1, k2, k3⟩
    rcases ho with ho | ho
    · omega
    · rw [ofO_is h k1 hz k3.symm] at ho
      exact ho h1.1.1
theorem others_same {l : List Pa} {x : Pa} {known loss : Int} (h : (checkC l).2 = 0) (hf : followsL l x = 0) (ho : known < x.known ∨ ofO x l ≠ loss) :
    papersL (l ++ [x]) known loss = papersL l known loss ∧ totalsL (l ++ [x]) known loss = totalsL l known loss ∧ openE (l ++ [x]) loss = openE l loss := by
  have hl := last_same h hf ho
  refine ⟨?_, ?_, ?_⟩
  · unfold papersL papersC
    congr 1
    funext p; exact hl false p
  · unfold totalsL totalsC
    congr 1
    funext p; rw [hl false p, hl true p]
  · unfold openE; rw [check_snoc h hf, h]
theorem ids_same {l : List Pa} {x : Pa} {known loss : Int} (h : (checkC l).2 = 0) (hf : followsL l x = 0) : idsM (papersL l known loss) (totalsL l known loss) (l ++ [x]) = idsM (papersL l known loss) (totalsL l known loss) l := by
  have hg := (check_good h).1
  have hin : ∀ y ∈ papersL l known loss ++ totalsL l known loss, y ∈ l := by
    intro y hy
    rcases List.mem_append.1 hy with hy | hy
    · unfold papersL papersC at hy
      obtain ⟨p, _, e⟩ := List.mem_filterMap.1 hy
      exact (lastOf_good hg e).1
    · unfold totalsL totalsC at hy
      obtain ⟨p, _, e⟩ := List.mem_filterMap.1 hy
      split at e
      · exact (lastOf_good hg e).1
      · cases e
  unfold idsM
  rw [List.filter_append]
  have e1 : [x].filter (fun x => (papersL l known loss ++ totalsL l known loss).any (fun y => decide (y.id = x.id))) = [] := by
    rw [List.filter_eq_nil_iff]
    intro z hz
    rw [List.mem_singleton] at hz
    subst hz
    intro hc
    obtain ⟨y, hy, e⟩ := List.any_eq_true.1 hc
    exact follows_fresh hf y (hin y hy) (of_decide_eq_true e)
  rw [e1, List.append_nil]
/-- the papers of all packages with their ends -/
def weightsL (l : List Pa) (known loss : Int) : List Pa := (papersL l known loss).map (fun x => { x with low := (weighP l known loss x.pack).1, high := (weighP l known loss x.pack).2 })
def weightsV (l : List Pa) (known loss : Int) : List Pa := if weighE l known loss true = 0 then weightsL l known loss else []
theorem others_all {l : List Pa} {x : Pa} {known loss : Int} (h : (checkC l).2 = 0) (hf : followsL l x = 0) (ho : known < x.known ∨ ofO x l ≠ loss) :
    weightsV (l ++ [x]) known loss = weightsV l known loss ∧ weighE (l ++ [x]) known loss true = weighE l known loss true ∧ rootE (l ++ [x]) known loss true = rootE l known loss true ∧
    doubtIs (l ++ [x]) known loss = doubtIs l known loss ∧ doubtV (l ++ [x]) known loss = doubtV l known loss := by
  obtain ⟨h1, h2, h3⟩ := others_same (known := known) (loss := loss) h hf ho
  have hi := ids_same (known := known) (loss := loss) h hf
  have hr : rootE (l ++ [x]) known loss true = rootE l known loss true := by unfold rootE; rw [h1, h2, h3]
  have hT : rootT (l ++ [x]) known loss = rootT l known loss := by unfold rootT; rw [h1, h2]
  have hw : weighE (l ++ [x]) known loss true = weighE l known loss true := by unfold weighE; rw [hr, hT]
  have hd : doubtIs (l ++ [x]) known loss = doubtIs l known loss := by unfold doubtIs; rw [hr, hT]
  have hp : ∀ q, weighP (l ++ [x]) known loss q = weighP l known loss q := fun q => by unfold weighP; rw [hT]
  refine ⟨?_, hw, hr, hd, ?_⟩
  · unfold weightsV weightsL
    rw [hw, h1]
    simp only [hp]
  · unfold doubtV doubtP
    rw [hd, h1, h2, hi]
end Go.Proofs.YtmghbbgnenpcaaaGreatDoor
