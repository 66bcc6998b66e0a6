/- The accounts of a book in order: the plain side. -/
import Derived.Test.YtjleembfocghlaaGreatDoorLaw
set_option linter.unusedSimpArgs false
set_option linter.unusedVariables false
namespace Go.Proofs.YtjleembfocghlaaGreatDoor

/-- the order of accounts -/
def accLt (a b : Int × Int) : Prop := a.1 < b.1 ∨ (a.1 = b.1 ∧ a.2 < b.2)
instance (a b : Int × Int) : Decidable (accLt a b) := by unfold accLt; infer_instance
/-- a number put into a strictly ascending list -/
def putL : List Int → Int → List Int
  | [], n => [n]
  | x :: r, n => if n < x then n :: x :: r else if n = x then x :: r else x :: putL r n
theorem putL_mem (l : List Int) (n k : Int) : k ∈ putL l n ↔ k = n ∨ k ∈ l := by
  induction l with
  | nil => simp [putL]
  | cons x r ih =>
    unfold putL
    by_cases h1 : n < x
    · rw [if_pos h1]; simp
    · rw [if_neg h1]
      by_cases h2 : n = x
      · rw [if_pos h2, h2]; simp
      · rw [if_neg h2, List.mem_cons, ih, List.mem_cons]
        constructor
        · rintro (h | h | h)
          · exact .inr (.inl h)
          · exact .inl h
          · exact .inr (.inr h)
        · rintro (h | h | h)
          · exact .inr (.inl h)
          · exact .inl h
          · exact .inr (.inr h)
theorem putL_sorted {l : List Int} (h : l.Pairwise (· < ·)) (n : Int) : (putL l n).Pairwise (· < ·) := by
  induction l with
  | nil => simp [putL]
  | cons x r ih =>
    rw [List.pairwise_cons] at h
    unfold putL
    by_cases h1 : n < x
    · rw [if_pos h1, List.pairwise_cons]
      refine ⟨fun y hy => ?_, List.pairwise_cons.2 h⟩
      rcases List.mem_cons.1 hy with rfl | hy
      · exact h1
      · have := h.1 y hy; omega
    · rw [if_neg h1]
      by_cases h2 : n = x
      · rw [if_pos h2]; exact List.pairwise_cons.2 h
      · rw [if_neg h2, List.pairwise_cons]
        refine ⟨fun y hy => ?_, ih h.2⟩
        rcases (putL_mem r n y).1 hy with rfl | hy
        · omega
        · exact h.1 y hy
def parcelsL (xs : List Po) : List Int := xs.foldl (fun l p => putL l p.parcel) []
theorem parcelsL_snoc (xs : List Po) (p : Po) : parcelsL (xs ++ [p]) = putL (parcelsL xs) p.parcel := by simp [parcelsL]
theorem foldl_put_mem : ∀ (xs : List Po) (l : List Int) (k : Int), k ∈ xs.foldl (fun l p => putL l p.parcel) l ↔ k ∈ l ∨ ∃ p ∈ xs, p.parcel = k
  | [], l, k => by simp
  | p :: r, l, k => by
    rw [List.foldl_cons, foldl_put_mem r, putL_mem]
    simp only [List.mem_cons, exists_eq_or_imp]
    constructor
    · rintro ((h | h) | h)
      · exact .inr (.inl h.symm)
      · exact .inl h
      · exact .inr (.inr h)
    · rintro (h | h | h)
      · exact .inl (.inr h)
      · exact .inl (.inl h.symm)
      · exact .inr h
theorem parcelsL_mem (xs : List Po) (k : Int) : k ∈ parcelsL xs ↔ ∃ p ∈ xs, p.parcel = k := by unfold parcelsL; rw [foldl_put_mem]; simp
theorem foldl_put_sorted : ∀ (xs : List Po) (l : List Int), l.Pairwise (· < ·) → (xs.foldl (fun l p => putL l p.parcel) l).Pairwise (· < ·)
  | [], l, h => h
  | p :: r, l, h => foldl_put_sorted r _ (putL_sorted h p.parcel)
theorem parcelsL_sorted (xs : List Po) : (parcelsL xs).Pairwise (· < ·) := foldl_put_sorted xs [] List.Pairwise.nil

/-- the accounts that have something, in order -/
def rowL (xs : List Po) (what : Int) : List (Int × Int) := (List.range 41).filterMap fun who : Nat => if hasL xs who what = 0 then none else some (what, (who : Int))
def accL (xs : List Po) : List (Int × Int) := (parcelsL xs).flatMap (rowL xs)
theorem hasL_zero {xs : List Po} {who what : Int} (h : ∀ p ∈ xs, ¬ (p.party = who ∧ p.parcel = what)) : hasL xs who what = 0 := by
  suffices H : ∀ (ys : List Po) (n : Int), (∀ p ∈ ys, ¬ (p.party = who ∧ p.parcel = what)) → ys.foldl (hasStep who what) n = n from H xs 0 h
  intro ys
  induction ys with
  | nil => intro n _; rfl
  | cons q r ih =>
    intro n hq
    have : hasStep who what n q = n := by unfold hasStep; rw [if_neg (hq q (by simp))]
    rw [List.foldl_cons, this]
    exact ih n fun x hx => hq x (by simp [hx])
theorem hasL_ne {xs : List Po} (hok : Okl xs) {who what : Int} (h : hasL xs who what ≠ 0) : (0 ≤ who ∧ who ≤ 40) ∧ ∃ p ∈ xs, p.parcel = what := by
  have : ∃ p ∈ xs, p.party = who ∧ p.parcel = what := by
    refine Classical.byContradiction fun hc => h (hasL_zero fun p hp e => hc ⟨p, hp, e⟩)
  obtain ⟨p, hp, h1, h2⟩ := this
  have ho := hok p hp
  unfold okPo at ho
  exact ⟨by omega, p, hp, h2⟩
theorem rowL_mem {xs : List Po} {what : Int} {a : Int × Int} : a ∈ rowL xs what ↔ a.1 = what ∧ (0 ≤ a.2 ∧ a.2 ≤ 40) ∧ hasL xs a.2 what ≠ 0 := by
  unfold rowL
  rw [List.mem_filterMap]
  constructor
  · rintro ⟨who, hw, h⟩
    rw [List.mem_range] at hw
    by_cases h0 : hasL xs who what = 0
    · rw [if_pos h0] at h; cases h
    · rw [if_neg h0] at h
      cases h
      exact ⟨rfl, ⟨by simp, by simp; omega⟩, h0⟩
  · rintro ⟨h1, ⟨h2, h3⟩, h4⟩
    refine ⟨a.2.toNat, List.mem_range.2 (by omega), ?_⟩
    rw [show ((a.2.toNat : Nat) : Int) = a.2 from Int.toNat_of_nonneg h2, if_neg h4, ← h1]
theorem accL_mem {xs : List Po} (hok : Okl xs) (a : Int × Int) : a ∈ accL xs ↔ hasL xs a.2 a.1 ≠ 0 := by
  unfold accL
  rw [List.mem_flatMap]
  constructor
  · rintro ⟨what, _, h⟩
    obtain ⟨h1, _, h3⟩ := rowL_mem.1 h
    rw [h1]; exact h3
  · intro h
    obtain ⟨h1, h2⟩ := hasL_ne hok h
    exact ⟨a.1, (parcelsL_mem xs a.1).2 h2, rowL_mem.2 ⟨rfl, h1, h⟩⟩
theorem rowL_sorted (xs : List Po) (what : Int) : (rowL xs what).Pairwise accLt := by
  unfold rowL
  rw [List.pairwise_filterMap]
  refine List.pairwise_lt_range.imp ?_
  intro a b hab x hx y hy
  by_cases h0 : hasL xs a what = 0
  · rw [if_pos h0] at hx; cases hx
  · rw [if_neg h0] at hx
    by_cases h1 : hasL xs b what = 0
    · rw [if_pos h1] at hy; cases hy
    · rw [if_neg h1] at hy
      cases hx; cases hy
      exact .inr ⟨rfl, by simp; omega⟩
theorem accL_sorted (xs : List Po) : (accL xs).Pairwise accLt := by
  unfold accL
  rw [List.pairwise_flatMap]
  refine ⟨fun what _ => rowL_sorted xs what, (parcelsL_sorted xs).imp ?_⟩
  intro p q hpq x hx y hy
  have h1 := (rowL_mem.1 hx).1
  have h2 := (rowL_mem.1 hy).1
  exact .inl (by omega)
theorem accLt_irrefl (a : Int × Int) : ¬ accLt a a := by unfold accLt; omega
theorem sorted_unique : ∀ {l m : List (Int × Int)}, l.Pairwise accLt → m.Pairwise accLt → (∀ a, a ∈ l ↔ a ∈ m) → l = m
  | [], [], _, _, _ => rfl
  | [], y :: m, _, _, h => by have := (h y).2 (by simp); simp at this
  | x :: l, [], _, _, h => by have := (h x).1 (by simp); simp at this
  | x :: l, y :: m, h1, h2, h => by
    rw [List.pairwise_cons] at h1 h2
    have hxy : x = y := by
      rcases List.mem_cons.1 ((h x).1 (by simp)) with e | e
      · exact e
      · rcases List.mem_cons.1 ((h y).2 (by simp)) with e' | e'
        · exact e'.symm
        · have a1 := h2.1 x e
          have a2 := h1.1 y e'
          unfold accLt at a1 a2
          omega
    subst hxy
    congr 1
    refine sorted_unique h1.2 h2.2 fun a => ⟨fun ha => ?_, fun ha => ?_⟩
    · rcases List.mem_cons.1 ((h a).1 (by simp [ha])) with e | e
      · subst e; exact absurd (h1.1 a ha) (accLt_irrefl a)
      · exact e
    · rcases List.mem_cons.1 ((h a).2 (by simp [ha])) with e | e
      · subst e; exact absurd (h2.1 a ha) (accLt_irrefl a)
      · exact e
/-- sorted keys, those without anything struck, are the accounts -/
theorem accL_of {s : Ch} {xs : List Po} (h : Bk s xs) (hn : (s.has.map (·.1)).Nodup) {ts : List (Int × Int)} (hp : ts.Perm (s.has.map (·.1))) (hs : ts.Pairwise (fun x y => ¬ accLt y x)) :
    ts.filter (fun a => !decide (getI s.has a = 0)) = accL xs := by
  have hnd : ts.Nodup := hp.nodup_iff.2 hn
  refine sorted_unique ?_ (accL_sorted xs) fun a => ?_
  · refine List.Pairwise.filter _ ?_
    rw [List.Nodup] at hnd
    refine (hs.and hnd).imp ?_
    rintro x y ⟨h1, h2⟩
    unfold accLt at *
    rcases Int.lt_trichotomy x.1 y.1 with e | e | e
    · exact .inl e
    · rcases Int.lt_trichotomy x.2 y.2 with e' | e' | e'
      · exact .inr ⟨e, e'⟩
      · exact absurd (Prod.ext e e') h2
      · exact absurd (.inr ⟨e.symm, e'⟩) h1
    · exact absurd (.inl e) h1
  · rw [List.mem_filter, accL_mem h.okl, hp.mem_iff, ← mget_some_iff, h.has]
    constructor
    · rintro ⟨_, h2⟩; simpa using h2
    · intro h2
      refine ⟨?_, by simpa using h2⟩
      have h3 := h.has a
      unfold getI at h3
      cases hm : mget s.has a with
      | none => rw [hm] at h3; exact absurd h3.symm h2
      | some v => rfl
end Go.Proofs.YtjleembfocghlaaGreatDoor
