/- What purse's lists and the reference's lists have in common: the plain law side of PurseLists. -/
import Derived.Test.YtehedodogkhmgaaGreatBalances
import Derived.Test.YtehedodogkhmgaaGreatHolders
import Derived.Test.YtehedodogkhmgaaGreatRefT
import Derived.Test.YtehedodogkhmgaaGreatRefH
import Derived.Test.YtehedodogkhmgaaGreatPurses
import Derived.Test.YtehedodogkhmgaaGreatParcels
import Derived.Test.YtehedodogkhmgaaGreatRows
import Derived.Test.YtehedodogkhmgaaGreatOpen
set_option linter.unusedSimpArgs false
set_option linter.unusedVariables false
namespace Go.Proofs.YtehedodogkhmgaaGreat
open Go.RowKit Go.Shelf

theorem atB_set_self {all : List Du} {i : Nat} (h : i < all.length) (y : Du) : atB (all.set i y) i = y := by
  unfold atB; rw [List.getD_eq_getElem?_getD, List.getElem?_set_self h]; rfl
theorem atB_set_ne {all : List Du} {i j : Nat} (h : j ≠ i) (y : Du) : atB (all.set j y) i = atB all i := by
  unfold atB; rw [List.getD_eq_getElem?_getD, List.getD_eq_getElem?_getD, List.getElem?_set_ne h]
theorem foldB_at (i : Nat) (hi : i < 41) : ∀ (ys : List Po) (all : List Du), all.length = 41 → (∀ p ∈ ys, (0 ≤ p.party ∧ p.party ≤ 40) ∧ (p.kind = 2 ∨ p.kind = 3)) →
    (((atB (ys.foldl addB all) i).parcel, (atB (ys.foldl addB all) i).amount) = ys.foldl (pbStep i) ((atB all i).parcel, (atB all i).amount)) ∧ ((atB (ys.foldl addB all) i).party = i ∨ atB (ys.foldl addB all) i = atB all i)
  | [], all, _, _ => ⟨rfl, .inr rfl⟩
  | p :: r, all, hl, hp => by
    obtain ⟨hp1, hp2⟩ := hp p (by simp)
    obtain ⟨h1, h2⟩ := foldB_at i hi r (addB all p) (by rw [addB_length]; exact hl) (fun q hq => hp q (by simp [hq]))
    rw [List.foldl_cons, List.foldl_cons]
    by_cases he : p.party = (i : Int)
    · have hn : p.party.toNat = i := by omega
      have hat : atB (addB all p) i = if p.kind = 2 then ⟨p.party, (atB all i).parcel + p.amount, (atB all i).amount⟩ else ⟨p.party, (atB all i).parcel, (atB all i).amount + p.amount⟩ := by
        unfold addB; rw [hn]; exact atB_set_self (by omega) _
      constructor
      · rw [h1, hat]
        congr 1
        unfold pbStep
        rcases hp2 with hk | hk
        · rw [if_pos hk, if_pos ⟨he, hk⟩, if_neg (fun e => by omega)]
        · rw [if_neg (by omega), if_neg (fun e => by omega), if_pos ⟨he, hk⟩]
      · rcases h2 with h2 | h2
        · exact .inl h2
        · left
          rw [h2, hat]
          split <;> exact he
    · have hn : p.party.toNat ≠ i := by omega
      have hat : atB (addB all p) i = atB all i := by unfold addB; exact atB_set_ne hn _
      rw [hat] at h1 h2
      refine ⟨?_, h2⟩
      rw [h1]
      congr 1
      unfold pbStep
      rw [if_neg (fun e => he e.1), if_neg (fun e => he e.1)]
theorem atB_zero (i : Nat) : atB (List.replicate 41 zBa) i = zBa := by
  unfold atB
  rw [List.getD_eq_getElem?_getD, List.getElem?_replicate]
  split <;> rfl
theorem arrB_at {ys : List Po} {i : Nat} (hi : i < 41) (hp : ∀ p ∈ ys, (0 ≤ p.party ∧ p.party ≤ 40) ∧ (p.kind = 2 ∨ p.kind = 3)) :
    (atB (arrB ys) i).parcel = (pb ys i).1 ∧ (atB (arrB ys) i).amount = (pb ys i).2 ∧ ((atB (arrB ys) i).party = i ∨ (pb ys i).1 = 0) := by
  obtain ⟨h1, h2⟩ := foldB_at i hi ys (List.replicate 41 zBa) (by simp) hp
  have h3 := congrArg Prod.fst h1
  have h4 := congrArg Prod.snd h1
  dsimp only at h3 h4
  rw [atB_zero] at h3 h4 h2
  have hz : ((zBa.parcel, zBa.amount) : Int × Int) = (0, 0) := rfl
  rw [hz] at h3 h4
  refine ⟨h3, h4, ?_⟩
  rcases h2 with h2 | h2
  · exact .inl h2
  · right
    have : (atB (arrB ys) i).parcel = (pb ys i).1 := h3
    rw [← this]
    unfold arrB
    rw [h2]; rfl
theorem pb_noSale (xs : List Po) (who : Int) : pb (xs.filter noSale) who = pb xs who := by
  unfold pb
  generalize ((0, 0) : Int × Int) = s
  induction xs generalizing s with
  | nil => rfl
  | cons p r ih =>
    by_cases h : p.kind = 1
    · have : noSale p = false := by simp [noSale, h]
      rw [List.filter_cons_of_neg (by simp [this]), List.foldl_cons, ih]
      congr 1
      unfold pbStep
      rw [if_neg (fun e => by omega), if_neg (fun e => by omega)]
    · have : noSale p = true := by simp [noSale, h]
      rw [List.filter_cons_of_pos (by simp [this]), List.foldl_cons, List.foldl_cons, ih]
theorem filter_map_range {α : Type} (f : Nat → α) (q : α → Bool) : ∀ (l : List Nat), (l.map f).filter q = l.filterMap (fun i => if q (f i) = true then some (f i) else none)
  | [] => rfl
  | x :: r => by
    rw [List.map_cons, List.filterMap_cons]
    by_cases h : q (f x) = true
    · rw [List.filter_cons_of_pos h, if_pos h, filter_map_range f q r]
    · rw [List.filter_cons_of_neg h, if_neg h, filter_map_range f q r]
theorem list_at {all : List Du} {n : Nat} (h : all.length = n) : all = (List.range n).map (atB all) := by
  apply List.ext_getElem?
  intro i
  by_cases hi : i < n
  · rw [atB_at (by omega), List.getElem?_map, List.getElem?_range hi]; rfl
  · rw [List.getElem?_eq_none (by omega), List.getElem?_eq_none (by simp; omega)]
theorem fm_congr {α β : Type} {f g : α → Option β} : ∀ {l : List α}, (∀ x ∈ l, f x = g x) → l.filterMap f = l.filterMap g
  | [], _ => rfl
  | x :: r, h => by
    rw [List.filterMap_cons, List.filterMap_cons, h x (by simp), fm_congr (l := r) (fun y hy => h y (by simp [hy]))]
theorem okl_amounts {xs : List Po} (h : Okl xs) : ∀ p ∈ xs, 0 ≤ p.amount ∧ p.amount ≤ 1000000000 := fun p hp => by
  have := h p hp
  unfold okPo at this
  omega

theorem balances_eq {xs : List Po} (hn : xs.length ≤ 1000) : balR xs = rBalL xs := by
  unfold balR rBalL
  by_cases hc : (checkL xs).2 = 0
  · have hok := checkL_okl hc
    rw [if_pos hc]
    unfold someL
    rw [if_pos hc]
    have hp : ∀ p ∈ xs.filter noSale, (0 ≤ p.party ∧ p.party ≤ 40) ∧ (p.kind = 2 ∨ p.kind = 3) := fun p hp => by
      obtain ⟨h1, h2⟩ := List.mem_filter.1 hp
      have := hok p h1
      unfold okPo at this
      have h3 : p.kind ≠ 1 := by simpa [noSale] using h2
      omega
    rw [list_at (arrB_length (xs.filter noSale)), filter_map_range]
    refine fm_congr fun i hi => ?_
    have hi41 : i < 41 := List.mem_range.1 hi
    obtain ⟨h1, h2, h3⟩ := arrB_at hi41 hp
    rw [pb_noSale] at h1 h2 h3
    have hbd := pb_bd (okl_amounts hok) hn i
    unfold rbStep
    by_cases h0 : (pb xs i).1 = 0
    · rw [if_neg (by rw [h1]; simp [h0]), if_neg (by omega)]
    · rw [if_pos (by rw [h1]; simp [h0]), if_pos (by omega)]
      rcases h3 with h3 | h3
      · congr 1
        generalize atB (arrB (xs.filter noSale)) i = y at *
        obtain ⟨y1, y2, y3⟩ := y
        dsimp only at h1 h2 h3
        rw [h1, h2, h3]
      · exact absurd h3 h0
  · rw [if_neg hc]
    unfold someL
    rw [if_neg hc]
    unfold arrB
    decide

theorem rowL_other {xs : List Po} {k what : Int} (h : k ≠ what) : (rowL xs k).filterMap (holdStep xs what) = [] := by
  rw [List.filterMap_eq_nil_iff]
  intro a ha
  have h1 := (rowL_mem.1 ha).1
  unfold holdStep
  rw [if_neg (by omega)]
theorem rows_hold (xs : List Po) (what : Int) : ∀ (l : List Int), l.Pairwise (· < ·) → (l.flatMap (rowL xs)).filterMap (holdStep xs what) = if what ∈ l then (rowL xs what).filterMap (holdStep xs what) else []
  | [], _ => rfl
  | k :: r, h => by
    rw [List.pairwise_cons] at h
    rw [List.flatMap_cons, List.filterMap_append, rows_hold xs what r h.2]
    by_cases hk : k = what
    · subst hk
      have hnot : k ∉ r := fun hm => by have := h.1 k hm; omega
      rw [if_neg hnot, if_pos (by simp), List.append_nil]
    · rw [rowL_other hk, List.nil_append]
      by_cases hm : what ∈ r
      · rw [if_pos hm, if_pos (by simp [hm])]
      · rw [if_neg hm, if_neg (by simp [hm]; exact fun e => hk e.symm)]
theorem row_hold {xs : List Po} (h0 : ∀ x y, 0 ≤ hasL xs x y) (what : Int) : (rowL xs what).filterMap (holdStep xs what) = (List.range 41).filterMap (rhStep xs what) := by
  unfold rowL
  rw [List.filterMap_filterMap]
  refine fm_congr fun i _ => ?_
  unfold rhStep
  have := h0 i what
  by_cases h : hasL xs i what = 0
  · rw [if_pos h, if_neg (by omega)]; rfl
  · rw [if_neg h, if_pos (by omega)]
    show holdStep xs what (what, (i : Int)) = _
    unfold holdStep
    rw [if_pos rfl]
theorem hold_none {xs : List Po} {what : Int} (h : ∀ p ∈ xs, p.parcel ≠ what) : (List.range 41).filterMap (rhStep xs what) = [] := by
  rw [List.filterMap_eq_nil_iff]
  intro i _
  unfold rhStep
  rw [hasL_zero (fun p hp e => h p hp e.2), if_neg (by omega)]
theorem holders_eq (xs : List Po) (what : Int) : holdersR xs what = rHoldL xs what := by
  unfold holdersR rHoldL
  by_cases hc : (checkL xs).2 = 0
  · obtain ⟨s0, hb⟩ := book_bk hc
    rw [if_pos hc]
    unfold askE
    rw [if_pos hc]
    by_cases ho : okAsk what 0
    · rw [if_pos ho, if_pos rfl]
      unfold holdersL accL
      rw [rows_hold xs what _ (parcelsL_sorted xs)]
      by_cases hm : what ∈ parcelsL xs
      · rw [if_pos hm, row_hold hb.has0]
      · rw [if_neg hm, hold_none]
        intro p hp e
        exact hm ((parcelsL_mem xs what).2 ⟨p, hp, e⟩)
    · rw [if_neg ho, if_neg (by omega), hold_none]
      intro p hp e
      have := hb.okl p hp
      unfold okPo at this
      apply ho
      unfold okAsk
      omega
  · rw [if_neg hc, if_neg (by unfold askE; rw [if_neg hc]; exact hc)]
end Go.Proofs.YtehedodogkhmgaaGreat

/- What all balances have is what all holders have: the plain law side of PurseBooks. -/
set_option linter.unusedSimpArgs false
set_option linter.unusedVariables false
namespace Go.Proofs.YtehedodogkhmgaaGreat
open Go.RowKit Go.Shelf

/-- what a posting moves to its party -/
def partOf (who : Int) (p : Po) : Int := if p.party = who then (if p.kind = 2 then p.amount else if p.kind = 3 then -p.amount else 0) else 0
theorem hasL_snoc' (xs : List Po) (p : Po) (who k : Int) : hasL (xs ++ [p]) who k = hasL xs who k + if p.parcel = k then partOf who p else 0 := by
  have h1 : hasL (xs ++ [p]) who k = hasStep who k (hasL xs who k) p := by simp [hasL]
  rw [h1]
  unfold hasStep partOf
  repeat' split
  all_goals omega
def netL (xs : List Po) (who : Int) : Int := (pb xs who).1 - (pb xs who).2
theorem netL_snoc (xs : List Po) (p : Po) (who : Int) : netL (xs ++ [p]) who = netL xs who + partOf who p := by
  unfold netL
  rw [pb_snoc]
  unfold pbStep partOf
  dsimp only
  repeat' split
  all_goals omega
def sumHas (xs : List Po) (who : Int) : Int := ((parcelsL xs).map (hasL xs who)).sum
theorem sumHas_aux (who : Int) : ∀ (r pre : List Po), netL pre who = sumHas pre who → netL (pre ++ r) who = sumHas (pre ++ r) who
  | [], pre, h => by simpa using h
  | p :: r, pre, h => by
    have hk : ∀ k, hasL (pre ++ [p]) who k = hasL pre who k + if p.parcel = k then partOf who p else 0 := fun k => hasL_snoc' pre p who k
    have h1 : sumHas (pre ++ [p]) who = netL (pre ++ [p]) who := by
      unfold sumHas
      rw [parcelsL_snoc, List.map_congr_left (fun k _ => hk k), sum_put _ _ _ _ (parcelsL_sorted pre), netL_snoc, h]
      have hz : (if p.parcel ∈ parcelsL pre then (0 : Int) else hasL pre who p.parcel) = 0 := by
        by_cases hm : p.parcel ∈ parcelsL pre
        · rw [if_pos hm]
        · rw [if_neg hm]; exact hasL_zero fun q hq e => hm ((parcelsL_mem pre _).2 ⟨q, hq, e.2⟩)
      rw [hz]
      unfold sumHas
      omega
    have := sumHas_aux who r (pre ++ [p]) h1.symm
    simpa using this
theorem sumHas_eq (xs : List Po) (who : Int) : netL xs who = sumHas xs who := by
  have := sumHas_aux who xs [] (by rfl)
  simpa using this
theorem sum_nonneg {l : List Int} (h : ∀ x ∈ l, 0 ≤ x) : 0 ≤ l.sum := by
  induction l with
  | nil => simp
  | cons x r ih =>
    have h1 := h x (by simp)
    have h2 := ih fun y hy => h y (by simp [hy])
    simp only [List.sum_cons]
    omega
theorem netL_nonneg {xs : List Po} (h0 : ∀ x y, 0 ≤ hasL xs x y) (who : Int) : 0 ≤ netL xs who := by
  rw [sumHas_eq]
  refine sum_nonneg fun x hx => ?_
  obtain ⟨k, _, rfl⟩ := List.mem_map.1 hx
  exact h0 who k
theorem sum_fm {β : Type} (f : Nat → Option β) (g : β → Int) (h : Nat → Int) : ∀ (l : List Nat), (∀ i ∈ l, (∀ b, f i = some b → g b = h i) ∧ (f i = none → h i = 0)) → ((l.filterMap f).map g).sum = (l.map h).sum
  | [], _ => rfl
  | i :: r, hh => by
    obtain ⟨h1, h2⟩ := hh i (by simp)
    have ih := sum_fm f g h r fun j hj => hh j (by simp [hj])
    rw [List.filterMap_cons, List.map_cons, List.sum_cons]
    cases hf : f i with
    | none => dsimp only; rw [ih, h2 hf]; omega
    | some b => dsimp only; rw [List.map_cons, List.sum_cons, ih, h1 b hf]
theorem sum_add {α : Type} (f g : α → Int) : ∀ (l : List α), (l.map (fun x => f x + g x)).sum = (l.map f).sum + (l.map g).sum
  | [] => by simp
  | x :: r => by simp only [List.map_cons, List.sum_cons]; rw [sum_add f g r]; omega
theorem sum_zero {α : Type} : ∀ (l : List α), (l.map (fun _ => (0 : Int))).sum = 0
  | [] => rfl
  | x :: r => by simp only [List.map_cons, List.sum_cons]; rw [sum_zero r]; rfl
theorem sum_swap {α β : Type} (F : α → β → Int) (m : List β) : ∀ (l : List α), (l.map (fun i => (m.map (F i)).sum)).sum = (m.map (fun k => (l.map (fun i => F i k)).sum)).sum
  | [] => by simp [sum_zero]
  | x :: r => by
    simp only [List.map_cons, List.sum_cons]
    rw [sum_swap F m r, ← sum_add]
/-- what balances have together -/
def balSum (l : List Du) : Int := (l.map (fun b => b.parcel - b.amount)).sum
def amtSum (l : List Du) : Int := (l.map (·.amount)).sum
theorem books_sum {xs : List Po} (hn : xs.length ≤ 1000) (hc : (checkL xs).2 = 0) : balSum (rBalL xs) = ((parcelsL xs).map (fun k => amtSum (rHoldL xs k))).sum := by
  obtain ⟨s0, hb⟩ := book_bk hc
  have e1 : balSum (rBalL xs) = ((List.range 41).map (fun i : Nat => netL xs i)).sum := by
    unfold balSum rBalL
    rw [if_pos hc]
    refine sum_fm _ _ _ _ fun i _ => ⟨fun b hb' => ?_, fun hb' => ?_⟩
    · unfold rbStep at hb'
      split at hb'
      · injection hb' with e; subst e; rfl
      · cases hb'
    · unfold rbStep at hb'
      split at hb'
      · cases hb'
      · have h1 := netL_nonneg hb.has0 (i : Int)
        have h2 := pb_bd (okl_amounts hb.okl) hn (i : Int)
        unfold netL at *
        omega
  have e2 : ∀ k, amtSum (rHoldL xs k) = ((List.range 41).map (fun i : Nat => hasL xs i k)).sum := fun k => by
    unfold amtSum rHoldL
    rw [if_pos hc]
    refine sum_fm _ _ _ _ fun i _ => ⟨fun b hb' => ?_, fun hb' => ?_⟩
    · unfold rhStep at hb'
      split at hb'
      · injection hb' with e; subst e; rfl
      · cases hb'
    · unfold rhStep at hb'
      split at hb'
      · cases hb'
      · have h1 := hb.has0 (i : Int) k
        omega
  rw [e1, List.map_congr_left (fun k _ => e2 k), ← sum_swap (fun (i : Nat) (k : Int) => hasL xs i k)]
  congr 1
  exact List.map_congr_left fun i _ => sumHas_eq xs i
/-- each balance: what came back is no more than what was paid -/
theorem bal_ok {xs : List Po} (hn : xs.length ≤ 1000) (hc : (checkL xs).2 = 0) : ∀ b ∈ rBalL xs, 0 ≤ b.amount ∧ b.amount ≤ b.parcel ∧ b.parcel ≤ 1000000000000 := by
  intro b hb'
  obtain ⟨s0, hb⟩ := book_bk hc
  unfold rBalL at hb'
  rw [if_pos hc] at hb'
  obtain ⟨i, _, hi⟩ := List.mem_filterMap.1 hb'
  unfold rbStep at hi
  split at hi
  · injection hi with e
    subst e
    have h1 := netL_nonneg hb.has0 (i : Int)
    have h2 := pb_bd (okl_amounts hb.okl) hn (i : Int)
    unfold netL at h1
    dsimp only
    omega
  · cases hi
theorem hold_ok {xs : List Po} (hc : (checkL xs).2 = 0) (k : Int) : ∀ b ∈ rHoldL xs k, 0 ≤ b.amount ∧ b.amount ≤ 400000000000 := by
  intro b hb'
  obtain ⟨s0, hb⟩ := book_bk hc
  unfold rHoldL at hb'
  rw [if_pos hc] at hb'
  obtain ⟨i, _, hi⟩ := List.mem_filterMap.1 hb'
  unfold rhStep at hi
  split at hi
  · injection hi with e
    subst e
    exact hb.hasAbs i k
  · cases hi
end Go.Proofs.YtehedodogkhmgaaGreat

/- The walk of the law's few. -/
set_option linter.unusedSimpArgs false
set_option linter.unusedVariables false
namespace Go.Proofs.YtehedodogkhmgaaGreat
open Go.RowKit Go.Shelf

/-- the sizes that the laws ask -/
def fewB (n n' n'' : Nat) : Prop := n ≤ 24 ∧ (n' ≤ 20 ∨ (400 < n' ∧ n' ≤ 405)) ∧ (n'' ≤ 20 ∨ (400 < n'' ∧ n'' ≤ 405))
instance (n n' n'' : Nat) : Decidable (fewB n n' n'') := by unfold fewB; infer_instance
set_option maxHeartbeats 4000000 in
theorem few_any (a : Option Addr) (n cap : Nat) (a' : Option Addr) (n' cap' : Nat) (a'' : Option Addr) (n'' cap'' : Nat) (w : World) :
    Calls Tryz.prog 10 #[.slice a n cap, .slice a' n' cap', .slice a'' n'' cap''] w fun e w' => e = .returned (.bool (decide (fewB n n' n''))) ∧ w' = w := by
  by_cases h1 : n ≤ 24
  · have h' : n' ≤ 20 ∨ (20 < n' ∧ n' ≤ 400) ∨ (400 < n' ∧ n' ≤ 405) ∨ 405 < n' := by omega
    have h'' : n'' ≤ 20 ∨ (20 < n'' ∧ n'' ≤ 400) ∨ (400 < n'' ∧ n'' ≤ 405) ∨ 405 < n'' := by omega
    rcases h' with h' | h' | h' | h' <;> rcases h'' with h'' | h'' | h'' | h''
    all_goals
      go_enter Tryz.func10, Tryz.ntmps10
      go_wp2_with fail
      go_ret
      refine ⟨ret_bool ?_, rfl⟩
      rw [Bool.eq_iff_iff, decide_eq_true_iff (p := fewB n n' n'')]; unfold fewB; simp only [Bool.or_eq_true, Bool.and_eq_true, decide_eq_true_eq, Bool.false_eq_true, Bool.true_eq_false, true_iff, false_iff, iff_true, iff_false]; omega
  · go_enter Tryz.func10, Tryz.ntmps10
    go_wp2_with fail
    go_ret
    refine ⟨ret_bool ?_, rfl⟩
    rw [Bool.eq_iff_iff, decide_eq_true_iff (p := fewB n n' n'')]; unfold fewB; simp only [Bool.or_eq_true, Bool.and_eq_true, decide_eq_true_eq, Bool.false_eq_true, Bool.true_eq_false, true_iff, false_iff, iff_true, iff_false]; omega
end Go.Proofs.YtehedodogkhmgaaGreat

/- PurseBooks returns true: Open and Over are empty exactly if it is Settled; what all balances have is what all holders have. -/
set_option linter.unusedSimpArgs false
set_option linter.unusedVariables false
namespace Go.Proofs.YtehedodogkhmgaaGreat
open Go.RowKit Go.Shelf

theorem accL_lenB {xs : List Po} (h : Okl xs) : (accL xs).length ≤ xs.length := by
  have h1 : (accL xs).Nodup := (accL_sorted xs).imp fun {a b} hab e => by subst e; exact accLt_irrefl a hab
  have h2 : (accL xs).length ≤ (xs.map (fun p => (p.parcel, p.party))).length := h1.length_le_of_subset fun a ha => by
    have hne := (accL_mem h a).1 ha
    have : ∃ p ∈ xs, p.party = a.2 ∧ p.parcel = a.1 := Classical.byContradiction fun hc => hne (hasL_zero fun p hp e => hc ⟨p, hp, e⟩)
    obtain ⟨p, hp, e1, e2⟩ := this
    exact List.mem_map.2 ⟨p, hp, by rw [e1, e2]⟩
  rwa [List.length_map] at h2
theorem cmpE_okl {xs : List Po} {d : List Du} (h : cmpE xs d = 0) : (checkL xs).2 = 0 := by
  unfold cmpE at h
  by_cases hc : (checkL xs).2 = 0
  · exact hc
  · rw [if_neg hc] at h; exact absurd h hc
/-- dues and an error are returned -/
def OutE (w : World) (l : List Du) (c : Int) (e : Ending) (w' : World) : Prop := ∃ a n k, e = .returned (.tuple #[.slice a n k, .int .i64 c]) ∧ Rd Du.vals 3 w' a n l ∧ Below w.heap.size w w'
theorem OverPost.outE {w w' : World} {xs : List Po} {d : List Du} {l : List Du} {e : Ending} (hp : OverPost w xs d l e w') (hl : cmpE xs d = 0 → l.length ≤ 1000) : OutE w (if cmpE xs d = 0 then l else []) (cmpE xs d) e w' := by
  obtain ⟨hB, ⟨hc, rfl⟩ | ⟨hc, v, rfl, hrow⟩⟩ := hp
  · exact ⟨none, 0, 0, rfl, by rw [if_neg hc]; exact Rd.empty _ _, hB⟩
  · have := hl hc
    obtain ⟨a, cap, rfl, _, hrd, _⟩ := Rd.of_own hrow du_vals_length (by decide) rfl (by unfold maxLen; omega)
    exact ⟨a, _, cap, by rw [hc], by rw [if_pos hc]; exact hrd, hB⟩
theorem balSum_snoc {l : List Du} {k : Nat} {x : Du} (h : l[k]? = some x) : balSum (l.take (k + 1)) = balSum (l.take k) + (x.parcel - x.amount) := by unfold balSum; rw [take_succ_snoc h]; simp
theorem amtSum_snoc {l : List Du} {k : Nat} {x : Du} (h : l[k]? = some x) : amtSum (l.take (k + 1)) = amtSum (l.take k) + x.amount := by unfold amtSum; rw [take_succ_snoc h]; simp
theorem sum_snoc (H : Int → Int) {l : List Int} {k : Nat} {x : Int} (h : l[k]? = some x) : ((l.take (k + 1)).map H).sum = ((l.take k).map H).sum + H x := by rw [take_succ_snoc h]; simp
theorem sum_bd (c : Int) (hc : 0 ≤ c) {l : List Int} (h : ∀ x ∈ l, 0 ≤ x ∧ x ≤ c) : 0 ≤ l.sum ∧ l.sum ≤ c * l.length := by
  induction l with
  | nil => simp
  | cons x r ih =>
    have h1 := h x (by simp)
    have h2 := ih fun y hy => h y (by simp [hy])
    simp only [List.sum_cons, List.length_cons]
    rw [show c * ((r.length + 1 : Nat) : Int) = c * (r.length : Int) + c by push_cast; rw [Int.mul_add, Int.mul_one]]
    omega
theorem balSum_bd {l : List Du} (h : ∀ b ∈ l, 0 ≤ b.amount ∧ b.amount ≤ b.parcel ∧ b.parcel ≤ 1000000000000) (hl : l.length ≤ 41) : 0 ≤ balSum l ∧ balSum l ≤ 41000000000000 := by
  have := sum_bd 1000000000000 (by omega) (l := l.map (fun b => b.parcel - b.amount)) (fun x hx => by
    obtain ⟨b, hb, rfl⟩ := List.mem_map.1 hx
    have := h b hb
    omega)
  rw [List.length_map] at this
  unfold balSum
  generalize l.length = m at *
  omega
theorem amtSum_bd {l : List Du} (h : ∀ b ∈ l, 0 ≤ b.amount ∧ b.amount ≤ 400000000000) (hl : l.length ≤ 41) : 0 ≤ amtSum l ∧ amtSum l ≤ 16400000000000 := by
  have := sum_bd 400000000000 (by omega) (l := l.map (·.amount)) (fun x hx => by
    obtain ⟨b, hb, rfl⟩ := List.mem_map.1 hx
    exact h b hb)
  rw [List.length_map] at this
  unfold amtSum
  generalize l.length = m at *
  omega

set_option maxRecDepth 100000 in
set_option maxHeartbeats 8000000 in
theorem law_books (a : Option Addr) (n cap : Nat) (xs : List Po) (a' : Option Addr) (n' cap' : Nat) (d : List Du) (w : World)
    (h : Rd Po.vals 8 w a n xs) (hw : ∀ p ∈ xs, p.Wf) (hcap : n ≤ cap) (hz : a = none → cap = 0) (h' : Rd Du.vals 3 w a' n' d) (_ : n' ≤ cap') (_ : a' = none → cap' = 0) :
    Calls Tryz.prog 8 #[.slice a n cap, .slice a' n' cap'] w fun e w' => e = .returned (.bool true) ∧ Below w.heap.size w w' := by
  have H0 := Lib.hid h
  have H0' := Lib.hid h'
  have Hw := Lib.hid hw
  have Hl := Lib.hid h.len
  have Hl' := Lib.hid h'.len
  clear h h' hw hz
  go_enter Tryz.func8, Tryz.ntmps8
  go_wp2_with fail
  refine (few_any a n cap a' n' cap' none 0 0 _).mono ?_
  rintro e wf ⟨rfl, rfl⟩
  by_cases hf : fewB n n' 0
  case neg =>
    have hd : decide (fewB n n' 0) = false := by simp [hf]
    rw [hd]
    clear hd hf
    go_wp2_with fail
    refine (purses_any _).mono ?_
    rintro e w1 ⟨rfl, hB⟩
    have HB := Lib.hid hB
    clear hB
    go_wp2_with fail
    go_ret
    exact ⟨rfl, HB.out⟩
  have hd : decide (fewB n n' 0) = true := by simp [hf]
  rw [hd]
  obtain ⟨f1, f2, f3⟩ := hf
  clear hd f3
  have hxl : xs.length ≤ 24 := by rw [Hl.out]; omega
  have hdl : d.length ≤ 405 := by rw [Hl'.out]; omega
  obtain ⟨ce, hce⟩ : ∃ c, cmpE xs d = c := ⟨_, rfl⟩
  obtain ⟨lo, hlo⟩ : ∃ l, (if cmpE xs d = 0 then openL xs d else []) = l := ⟨_, rfl⟩
  obtain ⟨lv, hlv⟩ : ∃ l, (if cmpE xs d = 0 then overM xs d else []) = l := ⟨_, rfl⟩
  obtain ⟨sb, hsb⟩ : ∃ b, decide (cmpE xs d = 0 ∧ openL xs d = [] ∧ overM xs d = []) = b := ⟨_, rfl⟩
  have Hce := Lib.hid hce
  have Hlo := Lib.hid hlo
  have Hlv := Lib.hid hlv
  have Hsb := Lib.hid hsb
  have Hxl := Lib.hid hxl
  have C1 := Lib.hid (show ∀ W, Rd Po.vals 8 W a n xs → Rd Du.vals 3 W a' n' d → Calls Tryz.prog 33 #[.slice a n cap, .slice a' n' cap'] W (OutE W lo ce) from fun W h h' => by
    rw [← hlo, ← hce]; exact (open_all a n cap xs a' n' cap' d W h Hw.out h').mono fun _ _ hp => hp.outE (fun _ => Nat.le_trans (List.length_filterMap_le _ _) (by omega)))
  have C2 := Lib.hid (show ∀ W, Rd Po.vals 8 W a n xs → Rd Du.vals 3 W a' n' d → Calls Tryz.prog 35 #[.slice a n cap, .slice a' n' cap'] W (OutE W lv ce) from fun W h h' => by
    rw [← hlv, ← hce]; exact (over_all a n cap xs a' n' cap' d W h Hw.out h').mono fun _ _ hp => hp.outE (fun hc => Nat.le_trans (List.length_filterMap_le _ _) (by have := accL_lenB (checkL_okl (cmpE_okl hc)); omega)))
  have C3 := Lib.hid (show ∀ W, Rd Po.vals 8 W a n xs → Rd Du.vals 3 W a' n' d → Calls Tryz.prog 38 #[.slice a n cap, .slice a' n' cap'] W (fun e w' => Below W.heap.size W w' ∧ e = .returned (.tuple #[.bool sb, .int .i64 ce])) from fun W h h' => by
    rw [← hsb, ← hce]; exact settled_all a n cap xs a' n' cap' d W h Hw.out h')
  clear hce hlo hlv hsb hxl hdl f2
  go_wp2_with fail
  refine (C1.out _ H0.out H0'.out).mono ?_
  rintro e w1 ⟨oa, on, ok, rfl, hro, hB⟩
  have H1 := Lib.hid (H0.out.below' hB)
  have H1' := Lib.hid (H0'.out.below' hB)
  have HO := Lib.hid hro.len
  have HB1 := Lib.hid hB
  clear hB hro H0 H0'
  go_wp2_with fail
  refine (C2.out _ H1.out H1'.out).mono ?_
  rintro e w2 ⟨va, vn, vk, rfl, hrv, hB⟩
  have H2 := Lib.hid (H1.out.below' hB)
  have H2' := Lib.hid (H1'.out.below' hB)
  have HV := Lib.hid hrv.len
  have HB2 := Lib.hid (below_then HB1.out hB (Nat.le_refl _))
  clear hB hrv H1 H1' HB1
  go_wp2_with fail
  refine (C3.out _ H2.out H2'.out).mono ?_
  rintro e w3 ⟨hB, rfl⟩
  have H3 := Lib.hid (H2.out.below' hB)
  have HB3 := Lib.hid (below_then HB2.out hB (Nat.le_refl _))
  clear hB H2 H2' HB2
  have hcc : (ce != ce) = false := by simp
  by_cases hc : ce = 0
  case neg =>
    have hc1 : (ce != 0) = true := by simp [hc]
    obtain rfl : on = 0 := by rw [← HO.out, ← Hlo.out, if_neg (by rw [Hce.out]; exact hc)]; rfl
    obtain rfl : vn = 0 := by rw [← HV.out, ← Hlv.out, if_neg (by rw [Hce.out]; exact hc)]; rfl
    obtain rfl : sb = false := by rw [← Hsb.out]; simp only [decide_eq_false_iff_not]; exact fun e => hc (Hce.out ▸ e.1)
    clear hc
    go_wp2_with fail
    refine (purses_any _).mono ?_
    rintro e w4 ⟨rfl, hB⟩
    have HB4 := Lib.hid (below_then HB3.out hB (Nat.le_refl _))
    clear hB
    go_wp2_with fail
    go_ret
    exact ⟨rfl, HB4.out⟩
  subst hc
  have hck := cmpE_okl Hce.out
  have Hck := Lib.hid hck
  have hxl : xs.length ≤ 1000 := Nat.le_trans Hxl.out (by omega)
  have C4 := Lib.hid (show ∀ W, Rd Po.vals 8 W a n xs → Calls Tryz.prog 45 #[.slice a n cap] W (BalPost W (rBalL xs)) from fun W h => by rw [← balances_eq hxl]; exact balances_any a n cap xs W h (by omega) Hw.out)
  have C5 := Lib.hid (show ∀ W y, I64 y → Rd Po.vals 8 W a n xs → Calls Tryz.prog 44 #[.slice a n cap, .int .i64 y] W (HoldersPost W xs y) from fun W y hy h => holders_any a n cap xs y W h Hw.out hy)
  have C6 := Lib.hid (show ∀ W, Rd Po.vals 8 W a n xs → Calls Tryz.prog 28 #[.slice a n cap] W (ParcelsPost W xs) from fun W h => parcels_all a n cap xs W h Hw.out)
  have HS0 := Lib.hid (books_sum hxl hck)
  have HBk := Lib.hid (bal_ok hxl hck)
  have HHk := Lib.hid (fun k => hold_ok hck k)
  have HOk := Lib.hid (checkL_okl hck)
  have HPl := Lib.hid (Nat.le_trans (parcelsL_len xs) Hxl.out)
  clear hck hxl
  go_wp2_with fail
  refine (C4.out _ H3.out).mono ?_
  rintro e w4 ⟨v4, rfl, hrow, hB⟩
  have hbl : (rBalL xs).length ≤ 41 := by
    unfold rBalL
    rw [if_pos Hck.out]
    exact fm_range_len _ _
  obtain ⟨ba, bc, rfl, _, hrb, _⟩ := Rd.of_own hrow du_vals_length (by decide) rfl (by unfold maxLen; omega)
  obtain ⟨vb, hvb⟩ : ∃ l, rBalL xs = l := ⟨_, rfl⟩
  rw [hvb] at hrb hbl HS0 HBk
  obtain ⟨m, hm⟩ : ∃ m, vb.length = m := ⟨_, rfl⟩
  rw [hm] at hrb hbl
  have Hm := Lib.hid hm
  have HR4 := Lib.hid hrb
  have H4 := Lib.hid (H3.out.below' hB)
  have HB4 := Lib.hid (below_then HB3.out hB (Nat.le_refl _))
  rw [hvb, hm]
  clear hB hrb hrow H3 HB3 C4 hvb hm
  go_wp2_with fail
  go_loopw [11, 13] (fun s i wr => ∃ k : Nat, k ≤ m ∧ i = .int .i64 k ∧ s = .int .i64 (balSum (vb.take k)) ∧ Below w4.heap.size w4 wr) (fun _ i _ => m - (intOf i).toNat)
  case atStart => exact ⟨0, Nat.zero_le _, rfl, rfl, Below.refl _ _⟩
  case round =>
    obtain ⟨k, hk, rfl, rfl, hB⟩ := hrel
    have h1 := HR4.out.below' hB
    have HBr := Lib.hid hB
    have hbd := balSum_bd (l := vb.take k) (fun b hb => HBk.out b (List.mem_of_mem_take hb)) (by rw [List.length_take]; omega)
    clear hB
    by_cases hlt : k < m
    · have hlt' : (k : Int) < (m : Int) := by omega
      obtain ⟨b, off, x, rfl, hb, hx, x0, x1, x2⟩ := h1.du hlt
      have hxo := HBk.out x (List.mem_of_getElem? hx)
      have HS := Lib.hid (balSum_snoc hx)
      obtain ⟨S, hS⟩ : ∃ S, balSum (vb.take k) = S := ⟨_, rfl⟩
      rw [hS] at HS hbd ⊢
      have g1 : decide (x.parcel < x.amount) = false := decide_eq_false (by omega)
      have g2 : decide (x.amount < 0) = false := decide_eq_false (by omega)
      have r1 : IntKind.i64.wrap (S + x.parcel) = S + x.parcel := IntWalk.i64_in _ (by omega)
      have r2 : IntKind.i64.wrap (S + x.parcel - x.amount) = S + x.parcel - x.amount := IntWalk.i64_in _ (by omega)
      clear hx hS hxo hbd
      go_upto_region 15 with (fail)
      go_quiet (fail)
      go_upto_region 17 with (fail)
      go_quiet (fail)
      go_wp2_with fail
      exact ⟨⟨k + 1, by omega, by go_num, by rw [HS.out]; congr 1; omega, below_drewN HBr.out _⟩, by simp [intOf]; omega⟩
    · have hlt' : ¬ (k : Int) < (m : Int) := by omega
      have hT : balSum (vb.take k) = balSum vb := by rw [List.take_of_length_le (by rw [Hm.out]; omega)]
      rw [hT] at hbd ⊢
      obtain ⟨T, hTe⟩ : ∃ T, balSum vb = T := ⟨_, rfl⟩
      rw [hTe] at hbd HS0 ⊢
      have H5 := Lib.hid (H4.out.below' HBr.out)
      have HB5 := Lib.hid (below_then HB4.out HBr.out (Nat.le_refl _))
      have Hbd := Lib.hid hbd
      clear hT hTe hbd h1 HBr hlt hk
      go_wp2_with fail
      refine (C6.out _ H5.out).mono ?_
      rintro e w6 ⟨v6, rfl, hrow, hB⟩
      have hpe : (if (checkL xs).2 = 0 then parcelsL xs else []) = parcelsL xs := if_pos Hck.out
      rw [hpe] at hrow
      have hpl := HPl.out
      obtain ⟨pa, pc, rfl, _, hpr, _⟩ := Rd.of_own hrow ints_length (by decide) rfl (by unfold maxLen; omega)
      obtain ⟨pn, hpn⟩ : ∃ pn, (parcelsL xs).length = pn := ⟨_, rfl⟩
      rw [hpn] at hpr hpl ⊢
      have Hpn := Lib.hid hpn
      have HPr := Lib.hid hpr
      have H6 := Lib.hid (H5.out.below' hB)
      have HB6 := Lib.hid (below_then HB5.out hB (Nat.le_refl _))
      clear hB hrow hpr hpn hpe H5 HB5 hlt'
      go_wp2_with fail
      go_loopw [11, 15] (fun s i wr => ∃ k : Nat, k ≤ pn ∧ i = .int .i64 k ∧ s = .int .i64 (T - (((parcelsL xs).take k).map (fun y => amtSum (rHoldL xs y))).sum) ∧ Below w6.heap.size w6 wr) (fun _ i _ => pn - (intOf i).toNat)
      case atStart => exact ⟨0, Nat.zero_le _, rfl, by simp, Below.refl _ _⟩
      case round =>
        obtain ⟨k, hk, rfl, rfl, hB⟩ := hrel
        have HBr := Lib.hid hB
        have hpr := HPr.out.below' hB
        have H7 := Lib.hid (H6.out.below' hB)
        have hsb := sum_bd 16400000000000 (by omega) (l := ((parcelsL xs).take k).map (fun y => amtSum (rHoldL xs y))) (fun z hz => by
          obtain ⟨y, _, rfl⟩ := List.mem_map.1 hz
          refine amtSum_bd (HHk.out y) ?_
          unfold rHoldL
          rw [if_pos Hck.out]
          exact fm_range_len _ _)
        have hsl : (((parcelsL xs).take k).map (fun y => amtSum (rHoldL xs y))).length ≤ 24 := by rw [List.length_map, List.length_take]; omega
        obtain ⟨S, hS⟩ : ∃ S, (((parcelsL xs).take k).map (fun y => amtSum (rHoldL xs y))).sum = S := ⟨_, rfl⟩
        rw [hS] at hsb ⊢
        have hsb2 : 0 ≤ S ∧ S ≤ 393600000000000 := by
          generalize (((parcelsL xs).take k).map (fun y => amtSum (rHoldL xs y))).length = q at *
          omega
        have HS2 := Lib.hid hS
        clear hB hsb hsl
        by_cases hlt : k < pn
        · have hlt' : (k : Int) < (pn : Int) := by omega
          obtain ⟨b, off, y, rfl, hb, hy, y0⟩ := hpr.int hlt
          have hym := List.mem_of_getElem? hy
          have hyi : I64 y := by
            obtain ⟨p, hp, e⟩ := (parcelsL_mem xs y).1 hym
            have := HOk.out p hp
            unfold okPo at this
            unfold I64
            omega
          have HSn := Lib.hid (show (((parcelsL xs).take (k + 1)).map (fun y => amtSum (rHoldL xs y))).sum = S + amtSum (rHoldL xs y) by rw [sum_snoc _ hy, hS])
          clear hy hpr hym hS
          go_wp2_with fail
          refine (C5.out _ y hyi H7.out).mono ?_
          rintro e w8 ⟨v8, rfl, hrow, hB⟩
          rw [holders_eq] at hrow
          have hRl : (rHoldL xs y).length ≤ 41 := by
            unfold rHoldL
            rw [if_pos Hck.out]
            exact fm_range_len _ _
          have HRk := Lib.hid (HHk.out y)
          obtain ⟨R, hR⟩ : ∃ R, rHoldL xs y = R := ⟨_, rfl⟩
          rw [hR] at hrow hRl HSn HRk
          obtain ⟨ha, hc, rfl, _, hhr, _⟩ := Rd.of_own hrow du_vals_length (by decide) rfl (by unfold maxLen; omega)
          obtain ⟨hn, hhn⟩ : ∃ hn, R.length = hn := ⟨_, rfl⟩
          rw [hhn] at hhr hRl ⊢
          have HRn := Lib.hid hhn
          have HRr := Lib.hid hhr
          have HB8 := Lib.hid (below_then HBr.out hB (Nat.le_refl _))
          clear hB hrow hhr hhn hR H7 HBr hyi y0 hb
          go_wp2_with fail
          go_loopw [11, 17] (fun s j wi => ∃ q : Nat, q ≤ hn ∧ j = .int .i64 q ∧ s = .int .i64 (T - S - amtSum (R.take q)) ∧ Below w8.heap.size w8 wi) (fun _ j _ => hn - (intOf j).toNat)
          case atStart => exact ⟨0, Nat.zero_le _, rfl, by simp [amtSum], Below.refl _ _⟩
          case round =>
            obtain ⟨q, hq, rfl, rfl, hB⟩ := hrel
            have HBi := Lib.hid hB
            have hir := HRr.out.below' hB
            have hqb := amtSum_bd (l := R.take q) (fun z hz => HRk.out z (List.mem_of_mem_take hz)) (by rw [List.length_take]; omega)
            have hTb := Hbd.out
            clear hB
            by_cases hlt2 : q < hn
            · have hlt2' : (q : Int) < (hn : Int) := by omega
              obtain ⟨b2, off2, x, rfl, hb2, hx, x0, x1, x2⟩ := hir.du hlt2
              have hxo := HRk.out x (List.mem_of_getElem? hx)
              have HQ := Lib.hid (amtSum_snoc hx)
              obtain ⟨Z, hZ⟩ : ∃ Z, T - S - amtSum (R.take q) = Z := ⟨_, rfl⟩
              rw [hZ]
              have HZ := Lib.hid hZ
              have r1 : IntKind.i64.wrap (Z - x.amount) = Z - x.amount := IntWalk.i64_in _ (by omega)
              clear hx hZ hxo hqb hTb hir
              go_wp2_with fail
              exact ⟨⟨q + 1, by omega, by go_num, by rw [HQ.out, ← HZ.out]; congr 1; omega, HBi.out⟩, by simp [intOf]; omega⟩
            · have hlt2' : ¬ (q : Int) < (hn : Int) := by omega
              have hE : T - S - amtSum (R.take q) = T - (S + amtSum R) := by rw [List.take_of_length_le (by rw [HRn.out]; omega)]; omega
              rw [hE]
              have HB9 := Lib.hid (below_then HB8.out HBi.out (Nat.le_refl _))
              clear hE hqb hTb hir
              go_wp2_with fail
              exact ⟨⟨k + 1, by omega, by go_num, by rw [HSn.out], HB9.out⟩, by simp [intOf]; omega⟩
        · have hlt' : ¬ (k : Int) < (pn : Int) := by omega
          have hSf : T - S = 0 := by
            have h1 := HS0.out
            rw [← hS, List.take_of_length_le (by rw [Hpn.out]; omega)]
            omega
          rw [hSf]
          have HB7 := Lib.hid (below_then HB6.out HBr.out (Nat.le_refl _))
          have Hlo2 := Hlo.out
          have Hlv2 := Hlv.out
          rw [if_pos Hce.out] at Hlo2 Hlv2
          have hon : on = (openL xs d).length := by rw [Hlo2]; exact HO.out.symm
          have hvn : vn = (overM xs d).length := by rw [Hlv2]; exact HV.out.symm
          have hcase : (on = 0 ∧ vn = 0 ∧ sb = true) ∨ (on ≠ 0 ∧ sb = false) ∨ (on = 0 ∧ vn ≠ 0 ∧ sb = false) := by
            by_cases c1 : openL xs d = []
            · by_cases c2 : overM xs d = []
              · exact .inl ⟨by rw [hon, c1]; rfl, by rw [hvn, c2]; rfl, by rw [← Hsb.out]; exact decide_eq_true ⟨Hce.out, c1, c2⟩⟩
              · exact .inr (.inr ⟨by rw [hon, c1]; rfl, by rw [hvn]; exact fun e => c2 (List.eq_nil_of_length_eq_zero e), by rw [← Hsb.out]; exact decide_eq_false (fun e => c2 e.2.2)⟩)
            · exact .inr (.inl ⟨by rw [hon]; exact fun e => c1 (List.eq_nil_of_length_eq_zero e), by rw [← Hsb.out]; exact decide_eq_false (fun e => c1 e.2.1)⟩)
          clear hSf hS hsb2 Hlo2 Hlv2 hon hvn hlt hk hpr
          rcases hcase with ⟨rfl, rfl, rfl⟩ | ⟨c1, rfl⟩ | ⟨rfl, c1, rfl⟩
          · go_wp2_with fail
            refine (purses_any _).mono ?_
            rintro e w9 ⟨rfl, hB⟩
            have HB9 := Lib.hid (below_then HB7.out hB (Nat.le_refl _))
            clear hB
            go_wp2_with fail
            go_ret
            exact ⟨rfl, HB9.out⟩
          · have g1 : ((on : Int) == 0) = false := beq_eq_false_iff_ne.2 (by omega)
            clear c1
            go_wp2_with fail
            refine (purses_any _).mono ?_
            rintro e w9 ⟨rfl, hB⟩
            have HB9 := Lib.hid (below_then HB7.out hB (Nat.le_refl _))
            clear hB
            go_wp2_with fail
            go_ret
            exact ⟨rfl, HB9.out⟩
          · have g1 : ((vn : Int) == 0) = false := beq_eq_false_iff_ne.2 (by omega)
            clear c1
            go_wp2_with fail
            refine (purses_any _).mono ?_
            rintro e w9 ⟨rfl, hB⟩
            have HB9 := Lib.hid (below_then HB7.out hB (Nat.le_refl _))
            clear hB
            go_wp2_with fail
            go_ret
            exact ⟨rfl, HB9.out⟩
end Go.Proofs.YtehedodogkhmgaaGreat

/- 'Rows.PurseBooksSaid': whatever the arguments, PurseBooks returns true and leaves its arguments as they were. -/
set_option linter.unusedSimpArgs false
set_option linter.unusedVariables false
namespace Go.Proofs.YtehedodogkhmgaaGreat.purseBooks
open Go.ChangeShapes Go.WideShapes Go.ChangeAt Go.RowKit

theorem own : ownKnob Tryz.prog.godebug = none := by kernel_rfl
theorem laidOut : laidOutB Tryz.prog = true := by kernel_rfl

set_option maxRecDepth 100000 in
theorem lifted (os : Os) (started : os.Started) (H : Type) (enc : TypeId × Value → H) :
    ReturnsInHanded {} Tryz.checked os 8 .any (Rows.purseBooksSpec.pre6 enc Tryz.prog Tryz.f8 Rows.purseBooksRow.domain false) (Rows.purseBooksSpec.post enc Tryz.prog Tryz.f8 false true false false) := by
  refine returnsInHanded_of_change (C := Tryz.checked) own started (by kernel_rfl) Tryz.func8
    (ChangeSpec.witness6 (enc := enc) (C := Tryz.checked) false ⟨#[], #[.slice none 0 0, .slice none 0 0], []⟩ 8 (by kernel_rfl) (by kernel_rfl) (by kernel_rfl) (by kernel_rfl)) ?_
  intro W base args ds gs before hval0 hW hcnd _
  have hval : ∀ (j : Nat) t v, Tryz.f8.params[j]? = some t → args[j]? = some v → Value.okWide Tryz.prog W .any base t v := hval0
  have hW' := hW
  obtain ⟨p, q, hA0, hV, rfl, hfz, hnd⟩ := hW
  have hA : DataW.TrodAll enc Tryz.prog W 0 (fun _ => true) true Tryz.f8.params.toList args.toList ds p := hA0
  rw [Tryz.params8] at hA hval
  obtain ⟨v0, vs0, d0, ds0, p0, q0, hargs, rfl, rfl, h0, r0⟩ := trodAll_cons hA
  obtain ⟨v1, vs1, d1, ds1, p1, q1, rfl, rfl, rfl, h1, r1⟩ := trodAll_cons r0
  obtain ⟨rfl, rfl, rfl⟩ := trodAll_nil r1
  obtain rfl : args = #[v0, v1] := by cases args; simp_all
  obtain ⟨rfl, rfl⟩ := trodVars_none hV
  have h0k := h0
  have hlt0 : ∀ x ∈ p0, x.block < W.heap.size := fun x hx => hW'.lt x (by simp [hx])
  have h1k := h1
  have hlt1 : ∀ x ∈ p1, x.block < W.heap.size := fun x hx => hW'.lt x (by simp [hx])
  obtain ⟨y0, l0, c0, rfl⟩ := okWide_slice Tryz.underlying22 (hval 0 _ v0 rfl rfl)
  obtain ⟨fuel0, hf0⟩ := h0
  obtain ⟨a0, n0, cap0, xs0, hcs0, hrd0, hwf0, hcap0, hz0⟩ := open_pos hf0
  obtain ⟨rfl, rfl, rfl⟩ : y0 = a0 ∧ l0 = n0 ∧ c0 = cap0 := by simpa [Value.cells] using hcs0
  obtain ⟨y1, l1, c1, rfl⟩ := okWide_slice Tryz.underlying23 (hval 1 _ v1 rfl rfl)
  obtain ⟨fuel1, hf1⟩ := h1
  obtain ⟨a1, n1, cap1, xs1, hcs1, hrd1, hcap1, hz1⟩ := open_dus hf1
  obtain ⟨rfl, rfl, rfl⟩ : y1 = a1 ∧ l1 = n1 ∧ c1 = cap1 := by simpa [Value.cells] using hcs1
  clear hA0 hval0
  simp only [List.append_nil] at hW'
  refine (law_books y0 l0 c0 xs0 y1 l1 c1 xs1 W hrd0 hwf0 hcap0 hz0 hrd1 hcap1 hz1).mono fun e W' ⟨he, hb⟩ => ?_
  subst he
  exact ⟨_, rfl, _, _, _, [], p0 ++ (p1 ++ []), [], hW', trodAll_cons_mk (shut_bool Tryz.underlying4 _) trodAll_mk0, trodAll_cons_mk (Below.trod laidOut (by kernel_rfl) (of_decide_eq_true (by kernel_rfl)) h0k hb hlt0) (trodAll_cons_mk (Below.trod laidOut (by kernel_rfl) (of_decide_eq_true (by kernel_rfl)) h1k hb hlt1) (trodAll_mk0)), rfl, hb.frame _, fun h => by cases h⟩

theorem over : Rows.purseBooksRow.holds Tryz.pinned (OpenSpec.ofChange Rows.purseBooksSpec) :=
  OpenClaim.holds_of_wide 8 Tryz.f8 rfl rfl rfl rfl rfl rfl rfl ⟨rfl, rfl, rfl, rfl, rfl⟩ rfl rfl rfl rfl rfl (by kernel_rfl) Tryz.func8 (by kernel_rfl)
    (of_decide_eq_true (by kernel_rfl)) (by unfold Func.isWrapper; first | (rw [if_pos (by decide +kernel)]; kernel_rfl) | (rw [if_neg (by decide +kernel)]; exact ⟨rfl, rfl⟩))
    (fun os started H enc _ => lifted os started H enc)

theorem proved : Rows.PurseBooksSaid :=
  over
#print axioms proved
end Go.Proofs.YtehedodogkhmgaaGreat.purseBooks
