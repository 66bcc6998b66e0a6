/- The walk of purse's Parcels. -/
import Derived.Test.YtehedodogkhmgaaGreatSortI
import Derived.Test.YtehedodogkhmgaaGreatAsk
set_option linter.unusedSimpArgs false
set_option linter.unusedVariables false
namespace Go.Proofs.YtehedodogkhmgaaGreat
open Go.RowKit Go.Shelf Go.Sort

theorem ints_unique : ∀ {l m : List Int}, l.Pairwise (· < ·) → m.Pairwise (· < ·) → (∀ a, a ∈ l ↔ a ∈ m) → l = m
  | [], [], _, _, _ => rfl
  | [], y :: r, _, _, h => by have := (h y).2 (by simp); simp at this
  | x :: l, [], _, _, h => by have := (h x).1 (by simp); simp at this
  | x :: l, y :: m, hl, hm, h => by
    rw [List.pairwise_cons] at hl hm
    have hxy : x = y := by
      have h1 := (h x).1 (by simp)
      have h2 := (h y).2 (by simp)
      rcases List.mem_cons.1 h1 with e | e
      · exact e
      · rcases List.mem_cons.1 h2 with e' | e'
        · exact e'.symm
        · have := hm.1 x e; have := hl.1 y e'; omega
    subst hxy
    rw [ints_unique hl.2 hm.2 (fun a => ?_)]
    constructor
    · intro ha
      rcases List.mem_cons.1 ((h a).1 (by simp [ha])) with e | e
      · subst e; have := hl.1 a ha; omega
      · exact e
    · intro ha
      rcases List.mem_cons.1 ((h a).2 (by simp [ha])) with e | e
      · subst e; have := hm.1 a ha; omega
      · exact e
theorem sorted_ints {ys m : List Int} (hn : ys.Nodup) (hm : m.Pairwise (· < ·)) (h : ∀ a, a ∈ ys ↔ a ∈ m) : ys.mergeSort (fun x y => decide (x ≤ y)) = m := by
  have hp := List.mergeSort_perm ys (fun x y : Int => decide (x ≤ y))
  have hs := List.pairwise_mergeSort (le := fun x y : Int => decide (x ≤ y)) (fun a b c h1 h2 => by simp at *; omega) (fun a b => by simp; omega) ys
  have hn' : (ys.mergeSort (fun x y => decide (x ≤ y))).Nodup := hp.nodup_iff.2 hn
  refine ints_unique ?_ hm (fun a => ?_)
  · have := hs.and hn'
    exact this.imp (fun {a b} hab => by
      have h1 := hab.1
      have h2 := hab.2
      simp at h1
      omega)
  · rw [hp.mem_iff]; exact h a
theorem sold_none {xs : List Po} {k : Int} (h : ∀ p ∈ xs, p.parcel ≠ k) : soldL xs k = 0 := by
  have : ∀ (ys : List Po) (n : Int), (∀ p ∈ ys, p.parcel ≠ k) → ys.foldl (soldStep k) n = n := by
    intro ys
    induction ys with
    | nil => intro n _; rfl
    | cons p r ih =>
      intro n hp
      rw [List.foldl_cons, ih _ (fun q hq => hp q (by simp [hq]))]
      unfold soldStep
      rw [if_neg (fun e => hp p (by simp) e.2)]
  exact this xs 0 h
theorem Bk.soldKeys {s : Ch} {xs : List Po} (h : Bk s xs) (k : Int) : k ∈ s.sold.map (·.1) ↔ k ∈ parcelsL xs := by
  rw [← mget_some_iff, h.sold, parcelsL_mem]
  by_cases hk : 0 < soldL xs k
  · rw [if_pos hk]
    constructor
    · intro _
      refine Classical.byContradiction fun hc => ?_
      have := sold_none (xs := xs) (k := k) (fun p hp e => hc ⟨p, hp, e⟩)
      omega
    · intro _; rfl
  · rw [if_neg hk]
    constructor
    · intro e; cases e
    · rintro ⟨p, hp, e⟩
      exact absurd e (h.known k (by have := (soldL_bound h.okl.am k).1; omega) p hp)

def ParcelsPost (w : World) (xs : List Po) (e : Ending) (w' : World) : Prop :=
  ∃ v, e = .returned v ∧ w'.ownsRow w.heap.size 3 1 v (if (checkL xs).2 = 0 then parcelsL xs else []).length ((if (checkL xs).2 = 0 then parcelsL xs else []).flatMap ints) ∧ Below w.heap.size w w'
set_option maxRecDepth 100000 in
set_option maxHeartbeats 2000000 in
theorem parcels_all (a : Option Addr) (n cap : Nat) (xs : List Po) (w : World) (h : Rd Po.vals 8 w a n xs) (hw : ∀ p ∈ xs, p.Wf) :
    Calls Tryz.prog 28 #[.slice a n cap] w (ParcelsPost w xs) := by
  go_enter Tryz.func28, Tryz.ntmps28
  go_wp2_with fail
  refine (opened_any a n cap xs _ h hw).mono ?_
  rintro e w1 ⟨hB, ⟨hc, L, s, rfl, hch, hbk, hL⟩ | ⟨hc, rfl⟩⟩
  · obtain ⟨c0, c1, c2, c3, c4, c5, c6⟩ := hch.cs
    have Hch := Lib.hid hch
    have Hbk := Lib.hid hbk
    have HB := Lib.hid hB
    have Hc := Lib.hid hc
    clear hch hbk hB hc h
    go_wp2_with fail
    refine (keysI_any _ _).mono ?_
    rintro e w2 ⟨rfl, rfl⟩
    have hb1 := (Below.refl w1.heap.size w1).alloc (Nat.le_refl _) (.cells #[.map (some L.sold)] 77)
    have hcell := (Boxed.new w1 77 (.map (some L.sold))).cell
    have hmap := Hch.out.sold.alloc (.cells #[.map (some L.sold)] 77)
    have Hb1 := Lib.hid (below_then HB.out hb1 (Nat.le_refl _))
    have hnd := Hch.out.sold.nodup
    have Hnd := Lib.hid hnd
    have hlen : s.sold.length ≤ 400 := by
      have h1 : (s.sold.map (·.1)).length ≤ (xs.map (·.parcel)).length := hnd.length_le_of_subset fun k hk => by
        obtain ⟨p, hp, e⟩ := (parcelsL_mem xs k).1 ((Hbk.out.soldKeys k).1 hk)
        exact List.mem_map.2 ⟨p, hp, e⟩
      rw [List.length_map, List.length_map] at h1
      have := Hbk.out.len
      omega
    have Hlen := Lib.hid hlen
    clear hnd hlen
    go_wp2_with fail
    refine (sortedI_any 122 _ (enters_of Tryz.func122 (by kernel_rfl) rfl) _ _ s.sold.length (by have := Hlen.out; omega) (fun ys hS => by have := hS.length_eq; rw [List.length_map] at this; have := Hlen.out; omega) _ _ (Below.refl _ _)
      (keysI_stops 4 (by omega) w1.heap.size L.sold s.sold _ hcell hmap)).mono ?_
    rintro e w3 ⟨v, ys, rfl, hS, hrow, hB3⟩
    have hE : ys.mergeSort (fun x y => decide (x ≤ y)) = parcelsL xs := sorted_ints (hS.nodup_iff.2 Hnd.out) (parcelsL_sorted xs) (fun a => by rw [hS.mem_iff]; exact Hbk.out.soldKeys a)
    have hyl : ys.length = (parcelsL xs).length := by rw [← hE, List.length_mergeSort]
    rw [hE, hyl] at hrow
    have HR := Lib.hid (ownsRow_mono hrow Hb1.out.size)
    have HB3 := Lib.hid (below_then Hb1.out hB3 (Nat.le_refl _))
    clear hB3 hrow hS hE hyl hb1 hcell hmap
    go_wp2_with fail
    go_ret
    exact ⟨v, rfl, by rw [if_pos Hc.out]; exact HR.out, HB3.out⟩
  · have HB := Lib.hid hB
    have Hc := Lib.hid hc
    have hc1 : ((checkL xs).2 != 0) = true := by simp [hc]
    clear hB hc
    go_wp2_with fail
    go_ret
    exact ⟨_, rfl, by rw [if_neg Hc.out]; exact World.ownsRow_nil _ _ _ _, HB.out⟩
end Go.Proofs.YtehedodogkhmgaaGreat
