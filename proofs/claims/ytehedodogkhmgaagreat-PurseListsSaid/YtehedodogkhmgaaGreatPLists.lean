/- What purse's lists and the reference's lists have in common: the plain law side of PurseLists. -/
import Derived.Test.YtehedodogkhmgaaGreatBalances
import Derived.Test.YtehedodogkhmgaaGreatHolders
import Derived.Test.YtehedodogkhmgaaGreatRefT
import Derived.Test.YtehedodogkhmgaaGreatParcels
import Derived.Test.YtehedodogkhmgaaGreatRefF
import Derived.Test.YtehedodogkhmgaaGreatPurses
import Derived.Test.YtehedodogkhmgaaGreatRows
import Derived.Test.YtehedodogkhmgaaGreatOpen
set_option linter.unusedSimpArgs false
set_option linter.unusedVariables false
namespace Go.Proofs.YtehedodogkhmgaaGreat
open Go.RowKit Go.Shelf

theorem atB_set_self {all : List Du} {i : Nat} (h : i < all.length) (y : Du) : atB (all.set i y) i = y := by
  unfold atB; rw [List.getD_eq_getElem?_getD, List.getElem?_set_self h]; rfl
theorem atB_set_ne {all : List Du} {i j : Nat} (h : j ≠ i) (y : Du) : atB (all.set j y) i = atB all i := by
  unfold atB; rw [List.getD_eq_getElem?_getD, List.getD_eq_getElem?_getD, List.getElem?_set_ne h]
theorem foldB_at (i : Nat) (hi : i < 41) : ∀ (ys : List Po) (all : List Du), all.length = 41 → (∀ p ∈ ys, (0 ≤ p.party ∧ p.party ≤ 40) ∧ (p.kind = 2 ∨ p.kind = 3)) →
    (((atB (ys.foldl addB all) i).parcel, (atB (ys.foldl addB all) i).amount) = ys.foldl (pbStep i) ((atB all i).parcel, (atB all i).amount)) ∧ ((atB (ys.foldl addB all) i).party = i ∨ atB (ys.foldl addB all) i = atB all i)
  | [], all, _, _ => ⟨rfl, .inr rfl⟩
  | p :: r, all, hl, hp => by
    obtain ⟨hp1, hp2⟩ := hp p (by simp)
    obtain ⟨h1, h2⟩ := foldB_at i hi r (addB all p) (by rw [addB_length]; exact hl) (fun q hq => hp q (by simp [hq]))
    rw [List.foldl_cons, List.foldl_cons]
    by_cases he : p.party = (i : Int)
    · have hn : p.party.toNat = i := by omega
      have hat : atB (addB all p) i = if p.kind = 2 then ⟨p.party, (atB all i).parcel + p.amount, (atB all i).amount⟩ else ⟨p.party, (atB all i).parcel, (atB all i).amount + p.amount⟩ := by
        unfold addB; rw [hn]; exact atB_set_self (by omega) _
      constructor
      · rw [h1, hat]
        congr 1
        unfold pbStep
        rcases hp2 with hk | hk
        · rw [if_pos hk, if_pos ⟨he, hk⟩, if_neg (fun e => by omega)]
        · rw [if_neg (by omega), if_neg (fun e => by omega), if_pos ⟨he, hk⟩]
      · rcases h2 with h2 | h2
        · exact .inl h2
        · left
          rw [h2, hat]
          split <;> exact he
    · have hn : p.party.toNat ≠ i := by omega
      have hat : atB (addB all p) i = atB all i := by unfold addB; exact atB_set_ne hn _
      rw [hat] at h1 h2
      refine ⟨?_, h2⟩
      rw [h1]
      congr 1
      unfold pbStep
      rw [if_neg (fun e => he e.1), if_neg (fun e => he e.1)]
theorem atB_zero (i : Nat) : atB (List.replicate 41 zBa) i = zBa := by
  unfold atB
  rw [List.getD_eq_getElem?_getD, List.getElem?_replicate]
  split <;> rfl
theorem arrB_at {ys : List Po} {i : Nat} (hi : i < 41) (hp : ∀ p ∈ ys, (0 ≤ p.party ∧ p.party ≤ 40) ∧ (p.kind = 2 ∨ p.kind = 3)) :
    (atB (arrB ys) i).parcel = (pb ys i).1 ∧ (atB (arrB ys) i).amount = (pb ys i).2 ∧ ((atB (arrB ys) i).party = i ∨ (pb ys i).1 = 0) := by
  obtain ⟨h1, h2⟩ := foldB_at i hi ys (List.replicate 41 zBa) (by simp) hp
  have h3 := congrArg Prod.fst h1
  have h4 := congrArg Prod.snd h1
  dsimp only at h3 h4
  rw [atB_zero] at h3 h4 h2
  have hz : ((zBa.parcel, zBa.amount) : Int × Int) = (0, 0) := rfl
  rw [hz] at h3 h4
  refine ⟨h3, h4, ?_⟩
  rcases h2 with h2 | h2
  · exact .inl h2
  · right
    have : (atB (arrB ys) i).parcel = (pb ys i).1 := h3
    rw [← this]
    unfold arrB
    rw [h2]; rfl
theorem pb_noSale (xs : List Po) (who : Int) : pb (xs.filter noSale) who = pb xs who := by
  unfold pb
  generalize ((0, 0) : Int × Int) = s
  induction xs generalizing s with
  | nil => rfl
  | cons p r ih =>
    by_cases h : p.kind = 1
    · have : noSale p = false := by simp [noSale, h]
      rw [List.filter_cons_of_neg (by simp [this]), List.foldl_cons, ih]
      congr 1
      unfold pbStep
      rw [if_neg (fun e => by omega), if_neg (fun e => by omega)]
    · have : noSale p = true := by simp [noSale, h]
      rw [List.filter_cons_of_pos (by simp [this]), List.foldl_cons, List.foldl_cons, ih]
theorem filter_map_range {α : Type} (f : Nat → α) (q : α → Bool) : ∀ (l : List Nat), (l.map f).filter q = l.filterMap (fun i => if q (f i) = true then some (f i) else none)
  | [] => rfl
  | x :: r => by
    rw [List.map_cons, List.filterMap_cons]
    by_cases h : q (f x) = true
    · rw [List.filter_cons_of_pos h, if_pos h, filter_map_range f q r]
    · rw [List.filter_cons_of_neg h, if_neg h, filter_map_range f q r]
theorem list_at {all : List Du} {n : Nat} (h : all.length = n) : all = (List.range n).map (atB all) := by
  apply List.ext_getElem?
  intro i
  by_cases hi : i < n
  · rw [atB_at (by omega), List.getElem?_map, List.getElem?_range hi]; rfl
  · rw [List.getElem?_eq_none (by omega), List.getElem?_eq_none (by simp; omega)]
theorem fm_congr {α β : Type} {f g : α → Option β} : ∀ {l : List α}, (∀ x ∈ l, f x = g x) → l.filterMap f = l.filterMap g
  | [], _ => rfl
  | x :: r, h => by
    rw [List.filterMap_cons, List.filterMap_cons, h x (by simp), fm_congr (l := r) (fun y hy => h y (by simp [hy]))]
theorem okl_amounts {xs : List Po} (h : Okl xs) : ∀ p ∈ xs, 0 ≤ p.amount ∧ p.amount ≤ 1000000000 := fun p hp => by
  have := h p hp
  unfold okPo at this
  omega

theorem balances_eq {xs : List Po} (hn : xs.length ≤ 1000) : balR xs = rBalL xs := by
  unfold balR rBalL
  by_cases hc : (checkL xs).2 = 0
  · have hok := checkL_okl hc
    rw [if_pos hc]
    unfold someL
    rw [if_pos hc]
    have hp : ∀ p ∈ xs.filter noSale, (0 ≤ p.party ∧ p.party ≤ 40) ∧ (p.kind = 2 ∨ p.kind = 3) := fun p hp => by
      obtain ⟨h1, h2⟩ := List.mem_filter.1 hp
      have := hok p h1
      unfold okPo at this
      have h3 : p.kind ≠ 1 := by simpa [noSale] using h2
      omega
    rw [list_at (arrB_length (xs.filter noSale)), filter_map_range]
    refine fm_congr fun i hi => ?_
    have hi41 : i < 41 := List.mem_range.1 hi
    obtain ⟨h1, h2, h3⟩ := arrB_at hi41 hp
    rw [pb_noSale] at h1 h2 h3
    have hbd := pb_bd (okl_amounts hok) hn i
    unfold rbStep
    by_cases h0 : (pb xs i).1 = 0
    · rw [if_neg (by rw [h1]; simp [h0]), if_neg (by omega)]
    · rw [if_pos (by rw [h1]; simp [h0]), if_pos (by omega)]
      rcases h3 with h3 | h3
      · congr 1
        generalize atB (arrB (xs.filter noSale)) i = y at *
        obtain ⟨y1, y2, y3⟩ := y
        dsimp only at h1 h2 h3
        rw [h1, h2, h3]
      · exact absurd h3 h0
  · rw [if_neg hc]
    unfold someL
    rw [if_neg hc]
    unfold arrB
    decide

theorem rowL_other {xs : List Po} {k what : Int} (h : k ≠ what) : (rowL xs k).filterMap (holdStep xs what) = [] := by
  rw [List.filterMap_eq_nil_iff]
  intro a ha
  have h1 := (rowL_mem.1 ha).1
  unfold holdStep
  rw [if_neg (by omega)]
theorem rows_hold (xs : List Po) (what : Int) : ∀ (l : List Int), l.Pairwise (· < ·) → (l.flatMap (rowL xs)).filterMap (holdStep xs what) = if what ∈ l then (rowL xs what).filterMap (holdStep xs what) else []
  | [], _ => rfl
  | k :: r, h => by
    rw [List.pairwise_cons] at h
    rw [List.flatMap_cons, List.filterMap_append, rows_hold xs what r h.2]
    by_cases hk : k = what
    · subst hk
      have hnot : k ∉ r := fun hm => by have := h.1 k hm; omega
      rw [if_neg hnot, if_pos (by simp), List.append_nil]
    · rw [rowL_other hk, List.nil_append]
      by_cases hm : what ∈ r
      · rw [if_pos hm, if_pos (by simp [hm])]
      · rw [if_neg hm, if_neg (by simp [hm]; exact fun e => hk e.symm)]
theorem row_hold {xs : List Po} (h0 : ∀ x y, 0 ≤ hasL xs x y) (what : Int) : (rowL xs what).filterMap (holdStep xs what) = (List.range 41).filterMap (rhStep xs what) := by
  unfold rowL
  rw [List.filterMap_filterMap]
  refine fm_congr fun i _ => ?_
  unfold rhStep
  have := h0 i what
  by_cases h : hasL xs i what = 0
  · rw [if_pos h, if_neg (by omega)]; rfl
  · rw [if_neg h, if_pos (by omega)]
    show holdStep xs what (what, (i : Int)) = _
    unfold holdStep
    rw [if_pos rfl]
theorem hold_none {xs : List Po} {what : Int} (h : ∀ p ∈ xs, p.parcel ≠ what) : (List.range 41).filterMap (rhStep xs what) = [] := by
  rw [List.filterMap_eq_nil_iff]
  intro i _
  unfold rhStep
  rw [hasL_zero (fun p hp e => h p hp e.2), if_neg (by omega)]
theorem holders_eq (xs : List Po) (what : Int) : holdersR xs what = rHoldL xs what := by
  unfold holdersR rHoldL
  by_cases hc : (checkL xs).2 = 0
  · obtain ⟨s0, hb⟩ := book_bk hc
    rw [if_pos hc]
    unfold askE
    rw [if_pos hc]
    by_cases ho : okAsk what 0
    · rw [if_pos ho, if_pos rfl]
      unfold holdersL accL
      rw [rows_hold xs what _ (parcelsL_sorted xs)]
      by_cases hm : what ∈ parcelsL xs
      · rw [if_pos hm, row_hold hb.has0]
      · rw [if_neg hm, hold_none]
        intro p hp e
        exact hm ((parcelsL_mem xs what).2 ⟨p, hp, e⟩)
    · rw [if_neg ho, if_neg (by omega), hold_none]
      intro p hp e
      have := hb.okl p hp
      unfold okPo at this
      apply ho
      unfold okAsk
      omega
  · rw [if_neg hc, if_neg (by unfold askE; rw [if_neg hc]; exact hc)]
end Go.Proofs.YtehedodogkhmgaaGreat

/- PurseLists returns true: Reasons, LastPay, Balances, Parcels and Holders return what the reference returns. -/
set_option linter.unusedSimpArgs false
set_option linter.unusedVariables false
namespace Go.Proofs.YtehedodogkhmgaaGreat
open Go.RowKit Go.Shelf

/-- a list of numbers, of balances, of dues is returned -/
def OutI (w : World) (l : List Int) (e : Ending) (w' : World) : Prop := ∃ a n c, e = .returned (.slice a n c) ∧ Rd ints 1 w' a n l ∧ Below w.heap.size w w'
def OutD (w : World) (l : List Du) (e : Ending) (w' : World) : Prop := ∃ a n c, e = .returned (.slice a n c) ∧ Rd Du.vals 3 w' a n l ∧ Below w.heap.size w w'
def OutR (w : World) (l : List Int) (c : Int) (e : Ending) (w' : World) : Prop := ∃ a n k, e = .returned (.tuple #[.slice a n k, .int .i64 c]) ∧ Rd ints 1 w' a n l ∧ Below w.heap.size w w'
theorem RowPost.out {t : TypeId} {w w' : World} {l : List Du} {e : Ending} (h : RowPost t w l e w') (hl : l.length ≤ 1000) : OutD w l e w' := by
  obtain ⟨v, rfl, hrow, hB⟩ := h
  obtain ⟨a, c, rfl, _, hrd, _⟩ := Rd.of_own hrow du_vals_length (by decide) rfl (by unfold maxLen; omega)
  exact ⟨a, _, c, rfl, hrd, hB⟩
theorem ParcelsPost.out {w w' : World} {xs : List Po} {e : Ending} (h : ParcelsPost w xs e w') (hl : xs.length ≤ 1000) : OutI w (parcelsR xs) e w' := by
  obtain ⟨v, rfl, hrow, hB⟩ := h
  have hp : (parcelsR xs).length ≤ 1000 := by
    unfold parcelsR
    split
    · exact Nat.le_trans (parcelsL_len xs) hl
    · simp
  have hrow' : w'.ownsRow w.heap.size 3 1 v (parcelsR xs).length ((parcelsR xs).flatMap ints) := hrow
  obtain ⟨a, c, rfl, _, hrd, _⟩ := Rd.of_own hrow' ints_length (by decide) rfl (by unfold maxLen; omega)
  exact ⟨a, _, c, rfl, hrd, hB⟩
theorem PutPost.out {w w' : World} {l : List Int} {e : Ending} (h : PutPost w l e w') : OutI w l e w' := by
  obtain ⟨a, m, c, rfl, hr, _, _, _, hB⟩ := h
  exact ⟨a, m, c, rfl, hr, hB⟩
theorem ReasonsPost.out {w w' : World} {xs : List Po} {who what : Int} {e : Ending} (h : ReasonsPost w xs who what e w') (hl : xs.length ≤ 1000) : OutR w (reasonsR xs who what) (askE xs what who) e w' := by
  obtain ⟨v, rfl, hrow, hB⟩ := h
  have hp : (reasonsR xs who what).length ≤ 1000 := by
    unfold reasonsR
    split
    · exact Nat.le_trans (reasonsL_len xs who what) hl
    · simp
  obtain ⟨a, c, rfl, _, hrd, _⟩ := Rd.of_own hrow ints_length (by decide) rfl (by unfold maxLen; omega)
  exact ⟨a, _, c, rfl, hrd, hB⟩
theorem rHoldL_len (xs : List Po) (what : Int) : (rHoldL xs what).length ≤ 41 := by
  unfold rHoldL
  split
  · exact fm_range_len _ _
  · simp
theorem rBalL_len (xs : List Po) : (rBalL xs).length ≤ 41 := by
  unfold rBalL
  split
  · exact fm_range_len _ _
  · simp

set_option maxRecDepth 100000 in
set_option maxHeartbeats 8000000 in
theorem law_lists (a : Option Addr) (n cap : Nat) (xs : List Po) (parcel party : Int) (w : World) (h : Rd Po.vals 8 w a n xs) (hw : ∀ p ∈ xs, p.Wf) (hcap : n ≤ cap) (hz : a = none → cap = 0) (hp2 : I64 parcel) (hp1 : I64 party) :
    Calls Tryz.prog 9 #[.slice a n cap, .int .i64 parcel, .int .i64 party] w fun e w' => e = .returned (.bool true) ∧ Below w.heap.size w w' := by
  have Hl := Lib.hid h.len
  have Hw := Lib.hid hw
  have H0 := Lib.hid h
  have HP1 := Lib.hid hp1
  have HP2 := Lib.hid hp2
  have HB0 := Lib.hid (Below.refl w.heap.size w)
  clear h hw hz hp1 hp2
  go_enter Tryz.func9, Tryz.ntmps9
  by_cases hn : 24 < n
  · have hn' : (24 : Int) < (n : Int) := by omega
    go_wp2_with fail
    refine (purses_any _).mono ?_
    rintro e w1 ⟨rfl, hB⟩
    have HB := Lib.hid hB
    clear hB
    go_wp2_with fail
    go_ret
    exact ⟨rfl, HB.out⟩
  have hn' : ¬ (24 : Int) < (n : Int) := by omega
  have hxl : xs.length ≤ 1000 := by rw [Hl.out]; omega
  obtain ⟨vr, hvr⟩ : ∃ v, reasonsR xs party parcel = v := ⟨_, rfl⟩
  obtain ⟨vg, hvg⟩ : ∃ v, askE xs parcel party = v := ⟨_, rfl⟩
  obtain ⟨vb, hvb⟩ : ∃ v, rBalL xs = v := ⟨_, rfl⟩
  obtain ⟨vp, hvp⟩ : ∃ v, parcelsR xs = v := ⟨_, rfl⟩
  obtain ⟨vh, hvh⟩ : ∃ v, rHoldL xs parcel = v := ⟨_, rfl⟩
  obtain ⟨q, hq⟩ : ∃ q, (if askE xs parcel party = 0 then (lastL xs party parcel).getD zPo else zPo) = q := ⟨_, rfl⟩
  obtain ⟨is, his⟩ : ∃ is, (if askE xs parcel party = 0 then (lastL xs party parcel).isSome else false) = is := ⟨_, rfl⟩
  have C1 := Lib.hid (show ∀ W, Rd Po.vals 8 W a n xs → Calls Tryz.prog 46 #[.slice a n cap, .int .i64 party, .int .i64 parcel] W (OutR W vr vg) from fun W h => by rw [← hvr, ← hvg]; exact (reasons_any a n cap xs party parcel W h (by omega) Hw.out).mono fun _ _ hp => hp.out hxl)
  have C2 := Lib.hid (show ∀ W, Rd Po.vals 8 W a n xs → Calls Tryz.prog 47 #[.slice a n cap, .int .i64 party, .int .i64 parcel] W (OutR W vr vg) from fun W h => by rw [← hvr, ← hvg]; exact (rReasons_any a n cap xs party parcel W h (by omega) hcap).mono fun _ _ hp => hp.out hxl)
  have C3 := Lib.hid (show ∀ W, Rd Po.vals 8 W a n xs → Calls Tryz.prog 48 #[.slice a n cap, .int .i64 party, .int .i64 parcel] W (fun e w' => e = .returned (.tuple #[.agg #[.int .i64 q.id, .int .i64 q.hour, .int .u8 q.kind, .int .i64 q.party, .int .i64 q.parcel, .int .i64 q.amount, .int .i64 q.reason, .int .i64 q.known], .bool is, .int .i64 vg]) ∧ Below W.heap.size W w') from fun W h => by
    refine (lastPay_any a n cap xs party parcel W h Hw.out HP1.out HP2.out).mono ?_
    rintro e w' ⟨hB, q', is', e1, e2, e3⟩
    rw [hq] at e1; rw [his] at e2; rw [hvg] at e3; subst e1; subst e2
    exact ⟨e3, hB⟩)
  have C4 := Lib.hid (show ∀ W, Rd Po.vals 8 W a n xs → Calls Tryz.prog 49 #[.slice a n cap, .int .i64 party, .int .i64 parcel] W (fun e w' => e = .returned (.tuple #[.agg #[.int .i64 q.id, .int .i64 q.hour, .int .u8 q.kind, .int .i64 q.party, .int .i64 q.parcel, .int .i64 q.amount, .int .i64 q.reason, .int .i64 q.known], .bool is, .int .i64 vg]) ∧ Below W.heap.size W w') from fun W h => by
    refine (rlastPay_any a n cap xs party parcel W h (by omega) hcap).mono ?_
    rintro e w' ⟨hB, q', is', e1, e2, e3⟩
    rw [hq] at e1; rw [his] at e2; rw [hvg] at e3; subst e1; subst e2
    exact ⟨e3, hB⟩)
  have C5 := Lib.hid (show ∀ W, Rd Po.vals 8 W a n xs → Calls Tryz.prog 45 #[.slice a n cap] W (OutD W vb) from fun W h => by
    rw [← hvb, ← balances_eq hxl]; exact (balances_any a n cap xs W h (by omega) Hw.out).mono fun _ _ hp => RowPost.out (t := 59) hp (by rw [balances_eq hxl]; have := rBalL_len xs; omega))
  have C6 := Lib.hid (show ∀ W, Rd Po.vals 8 W a n xs → Calls Tryz.prog 51 #[.slice a n cap] W (OutD W vb) from fun W h => by
    rw [← hvb]; exact (rBalances_any a n cap xs W h (by omega) hcap).mono fun _ _ hp => hp.out (by have := rBalL_len xs; omega))
  have C7 := Lib.hid (show ∀ W, Rd Po.vals 8 W a n xs → Calls Tryz.prog 28 #[.slice a n cap] W (OutI W vp) from fun W h => by
    rw [← hvp]; exact (parcels_all a n cap xs W h Hw.out).mono fun _ _ hp => hp.out hxl)
  have C8 := Lib.hid (show ∀ W, Rd Po.vals 8 W a n xs → Calls Tryz.prog 52 #[.slice a n cap] W (OutI W vp) from fun W h => by
    rw [← hvp]; exact (rParcels_any a n cap xs W h (by omega) hcap).mono fun _ _ hp => hp.out)
  have C9 := Lib.hid (show ∀ W, Rd Po.vals 8 W a n xs → Calls Tryz.prog 44 #[.slice a n cap, .int .i64 parcel] W (OutD W vh) from fun W h => by
    rw [← hvh, ← holders_eq]; exact (holders_any a n cap xs parcel W h Hw.out HP2.out).mono fun _ _ hp => RowPost.out (t := 53) hp (by rw [holders_eq]; have := rHoldL_len xs parcel; omega))
  have C10 := Lib.hid (show ∀ W, Rd Po.vals 8 W a n xs → Calls Tryz.prog 53 #[.slice a n cap, .int .i64 parcel] W (OutD W vh) from fun W h => by
    rw [← hvh]; exact (rHolders_any a n cap xs parcel W h (by omega) hcap).mono fun _ _ hp => hp.out (by have := rHoldL_len xs parcel; omega))
  have hne : ∀ W, (binOp .neq 63 (.agg #[.int .i64 q.id, .int .i64 q.hour, .int .u8 q.kind, .int .i64 q.party, .int .i64 q.parcel, .int .i64 q.amount, .int .i64 q.reason, .int .i64 q.known])
      (.agg #[.int .i64 q.id, .int .i64 q.hour, .int .u8 q.kind, .int .i64 q.party, .int .i64 q.parcel, .int .i64 q.amount, .int .i64 q.reason, .int .i64 q.known])).run Tryz.prog W = .ok (.bool false) W := fun W => by rw [neqPo_run]; simp
  clear hvr hvg hvb hvp hvh hq his hxl
  go_wp2_with fail
  refine (C1.out _ H0.out).mono ?_
  rintro e w1 ⟨a1, n1, k1, rfl, hr1, hB⟩
  have H1 := Lib.hid (H0.out.below' hB)
  have HB1 := Lib.hid (below_then HB0.out hB (Nat.le_refl _))
  have R1 := Lib.hid hr1
  clear hB hr1 H0 HB0 
  go_wp2_with fail
  refine (C2.out _ H1.out).mono ?_
  rintro e w2 ⟨a2, n2, k2, rfl, hr2, hB⟩
  have H2 := Lib.hid (H1.out.below' hB)
  have HB2 := Lib.hid (below_then HB1.out hB (Nat.le_refl _))
  have R2 := Lib.hid (R1.out.below' hB)
  have S2 := Lib.hid hr2
  clear hB hr2 H1 HB1 R1
  go_wp2_with fail
  refine (C3.out _ H2.out).mono ?_
  rintro e w3 ⟨rfl, hB⟩
  have H3 := Lib.hid (H2.out.below' hB)
  have R3 := Lib.hid (R2.out.below' hB)
  have S3 := Lib.hid (S2.out.below' hB)
  have HB3 := Lib.hid (below_then HB2.out hB (Nat.le_refl _))
  clear hB H2 R2 S2 HB2
  have hba := (Below.refl w3.heap.size w3).alloc (Nat.le_refl _) (.cells #[.int .i64 q.id, .int .i64 q.hour, .int .u8 q.kind, .int .i64 q.party, .int .i64 q.parcel, .int .i64 q.amount, .int .i64 q.reason, .int .i64 q.known] 63)
  have bx := BoxPo.made w3 q 63
  have H3' := Lib.hid (H3.out.below' hba)
  have R3' := Lib.hid (R3.out.below' hba)
  have S3' := Lib.hid (S3.out.below' hba)
  have HB3' := Lib.hid (below_then HB3.out hba (Nat.le_refl _))
  clear H3 R3 S3 HB3 hba
  go_wp2_with fail
  refine (C4.out _ H3'.out).mono ?_
  rintro e w4 ⟨rfl, hB⟩
  have bx4 := bx.below' hB
  have hba := (Below.refl w4.heap.size w4).alloc (Nat.le_refl _) (.cells #[.int .i64 q.id, .int .i64 q.hour, .int .u8 q.kind, .int .i64 q.party, .int .i64 q.parcel, .int .i64 q.amount, .int .i64 q.reason, .int .i64 q.known] 63)
  have by4 := BoxPo.made w4 q 63
  have bx4' := bx4.below' hba
  have H4 := Lib.hid ((H3'.out.below' hB).below' hba)
  have R4 := Lib.hid ((R3'.out.below' hB).below' hba)
  have S4 := Lib.hid ((S3'.out.below' hB).below' hba)
  have HB4 := Lib.hid (below_then (below_then HB3'.out hB (Nat.le_refl _)) hba (Nat.le_refl _))
  clear hB H3' R3' S3' HB3' bx bx4 hba
  go_upto_region 7 with (fail)
  generalize w4.alloc (.cells #[.int .i64 q.id, .int .i64 q.hour, .int .u8 q.kind, .int .i64 q.party, .int .i64 q.parcel, .int .i64 q.amount, .int .i64 q.reason, .int .i64 q.known] 63) = w5 at *
  have hvv : (vg != vg) = false := by simp
  have hii : (is != is) = false := by cases is <;> rfl
  obtain ⟨d, hdd⟩ : ∃ d, decide (vr = vr) = d := ⟨_, rfl⟩
  have hdt : d = true := by rw [← hdd]; simp
  subst hdt
  have C11 := Lib.hid (show Calls Tryz.prog 42 #[.slice a1 n1 k1, .slice a2 n2 k2] w5 (fun e w' => e = .returned (.bool true) ∧ Below w5.heap.size w5 w') from (sameInts_any a1 a2 n1 n2 k1 k2 vr vr w5 R4.out S4.out).mono fun e w' h => ⟨by rw [h.1, hdd], h.2⟩)
  clear hdd
  go_wp2_with fail
  refine C11.out.mono ?_
  rintro e w6 ⟨rfl, hB⟩
  have bx6 := bx4'.below' hB
  have by6 := by4.below' hB
  obtain ⟨y0, y1, y2, y3, y4, y5, y6, y7⟩ := bx6.cells
  obtain ⟨z0, z1, z2, z3, z4, z5, z6, z7⟩ := by6.cells
  have H6 := Lib.hid (H4.out.below' hB)
  have HB6 := Lib.hid (below_then HB4.out hB (Nat.le_refl _))
  clear hB H4 HB4 bx4' by4 R4 S4
  go_upto_region 9 with (fail)
  clear y0 y1 y2 y3 y4 y5 y6 y7 z0 z1 z2 z3 z4 z5 z6 z7
  have SB := Lib.hid (show ∀ (p p' : Option Addr) (m m' k k' : Nat) (W : World), Rd Du.vals 3 W p m vb → Rd Du.vals 3 W p' m' vb → Calls Tryz.prog 50 #[.slice p m k, .slice p' m' k'] W (fun e w' => e = .returned (.bool true) ∧ Below W.heap.size W w') from fun p p' m m' k k' W h h' => (sameBalances_any p p' m m' k k' vb vb W h h').mono fun e w' hh => ⟨by rw [hh.1]; simp, hh.2⟩)
  have SI := Lib.hid (show ∀ (p p' : Option Addr) (m m' k k' : Nat) (W : World), Rd ints 1 W p m vp → Rd ints 1 W p' m' vp → Calls Tryz.prog 42 #[.slice p m k, .slice p' m' k'] W (fun e w' => e = .returned (.bool true) ∧ Below W.heap.size W w') from fun p p' m m' k k' W h h' => (sameInts_any p p' m m' k k' vp vp W h h').mono fun e w' hh => ⟨by rw [hh.1]; simp, hh.2⟩)
  have SD := Lib.hid (show ∀ (p p' : Option Addr) (m m' k k' : Nat) (W : World), Rd Du.vals 3 W p m vh → Rd Du.vals 3 W p' m' vh → Calls Tryz.prog 37 #[.slice p m k, .slice p' m' k'] W (fun e w' => e = .returned (.bool true) ∧ Below W.heap.size W w') from fun p p' m m' k k' W h h' => (sameDues_any p p' m m' k k' vh vh W h h').mono fun e w' hh => ⟨by rw [hh.1]; simp, hh.2⟩)
  go_wp2_with fail
  refine (purses_any _).mono ?_
  rintro e w7 ⟨rfl, hB⟩
  have H7 := Lib.hid (H6.out.below' hB)
  have HB7 := Lib.hid (below_then HB6.out hB (Nat.le_refl _))
  clear hB H6 HB6 
  go_wp2_with fail
  refine (C5.out _ H7.out).mono ?_
  rintro e w8 ⟨b1, m1, j1, rfl, hr, hB⟩
  have H8 := Lib.hid (H7.out.below' hB)
  have HB8 := Lib.hid (below_then HB7.out hB (Nat.le_refl _))
  have T8 := Lib.hid hr
  clear hB H7 HB7 hr
  go_wp2_with fail
  refine (C6.out _ H8.out).mono ?_
  rintro e w9 ⟨b2, m2, j2, rfl, hr, hB⟩
  have H9 := Lib.hid (H8.out.below' hB)
  have HB9 := Lib.hid (below_then HB8.out hB (Nat.le_refl _))
  have U9 := Lib.hid hr
  have T9 := Lib.hid (T8.out.below' hB)
  clear hB H8 HB8 hr T8
  go_wp2_with fail
  refine (SB.out b1 b2 m1 m2 j1 j2 _ T9.out U9.out).mono ?_
  rintro e w10 ⟨rfl, hB⟩
  have H10 := Lib.hid (H9.out.below' hB)
  have HB10 := Lib.hid (below_then HB9.out hB (Nat.le_refl _))
  clear hB H9 HB9 T9 U9
  go_wp2_with fail
  refine (C7.out _ H10.out).mono ?_
  rintro e w11 ⟨b3, m3, j3, rfl, hr, hB⟩
  have H11 := Lib.hid (H10.out.below' hB)
  have HB11 := Lib.hid (below_then HB10.out hB (Nat.le_refl _))
  have T11 := Lib.hid hr
  clear hB H10 HB10 hr
  go_wp2_with fail
  refine (C8.out _ H11.out).mono ?_
  rintro e w12 ⟨b4, m4, j4, rfl, hr, hB⟩
  have H12 := Lib.hid (H11.out.below' hB)
  have HB12 := Lib.hid (below_then HB11.out hB (Nat.le_refl _))
  have U12 := Lib.hid hr
  have T12 := Lib.hid (T11.out.below' hB)
  clear hB H11 HB11 hr T11
  go_wp2_with fail
  refine (SI.out b3 b4 m3 m4 j3 j4 _ T12.out U12.out).mono ?_
  rintro e w13 ⟨rfl, hB⟩
  have H13 := Lib.hid (H12.out.below' hB)
  have HB13 := Lib.hid (below_then HB12.out hB (Nat.le_refl _))
  clear hB H12 HB12 T12 U12
  go_wp2_with fail
  refine (C9.out _ H13.out).mono ?_
  rintro e w14 ⟨b5, m5, j5, rfl, hr, hB⟩
  have H14 := Lib.hid (H13.out.below' hB)
  have HB14 := Lib.hid (below_then HB13.out hB (Nat.le_refl _))
  have T14 := Lib.hid hr
  clear hB H13 HB13 hr
  go_wp2_with fail
  refine (C10.out _ H14.out).mono ?_
  rintro e w15 ⟨b6, m6, j6, rfl, hr, hB⟩
  have H15 := Lib.hid (H14.out.below' hB)
  have HB15 := Lib.hid (below_then HB14.out hB (Nat.le_refl _))
  have U15 := Lib.hid hr
  have T15 := Lib.hid (T14.out.below' hB)
  clear hB H14 HB14 hr T14
  go_wp2_with fail
  refine (SD.out b5 b6 m5 m6 j5 j6 _ T15.out U15.out).mono ?_
  rintro e w16 ⟨rfl, hB⟩
  have H16 := Lib.hid (H15.out.below' hB)
  have HB16 := Lib.hid (below_then HB15.out hB (Nat.le_refl _))
  clear hB H15 HB15 T15 U15
  go_wp2_with fail
  go_ret
  exact ⟨rfl, HB16.out⟩
end Go.Proofs.YtehedodogkhmgaaGreat

/- 'Rows.PurseListsSaid': whatever the arguments, PurseLists returns true and leaves its arguments as they were. -/
set_option linter.unusedSimpArgs false
set_option linter.unusedVariables false
namespace Go.Proofs.YtehedodogkhmgaaGreat.purseLists
open Go.ChangeShapes Go.WideShapes Go.ChangeAt Go.RowKit

theorem own : ownKnob Tryz.prog.godebug = none := by kernel_rfl
theorem laidOut : laidOutB Tryz.prog = true := by kernel_rfl

set_option maxRecDepth 100000 in
theorem lifted (os : Os) (started : os.Started) (H : Type) (enc : TypeId × Value → H) :
    ReturnsInHanded {} Tryz.checked os 9 .any (Rows.purseListsSpec.pre6 enc Tryz.prog Tryz.f9 Rows.purseListsRow.domain false) (Rows.purseListsSpec.post enc Tryz.prog Tryz.f9 false true false false) := by
  refine returnsInHanded_of_change (C := Tryz.checked) own started (by kernel_rfl) Tryz.func9
    (ChangeSpec.witness6 (enc := enc) (C := Tryz.checked) false ⟨#[], #[.slice none 0 0, .int .i64 0, .int .i64 0], []⟩ 8 (by kernel_rfl) (by kernel_rfl) (by kernel_rfl) (by kernel_rfl)) ?_
  intro W base args ds gs before hval0 hW hcnd _
  have hval : ∀ (j : Nat) t v, Tryz.f9.params[j]? = some t → args[j]? = some v → Value.okWide Tryz.prog W .any base t v := hval0
  have hW' := hW
  obtain ⟨p, q, hA0, hV, rfl, hfz, hnd⟩ := hW
  have hA : DataW.TrodAll enc Tryz.prog W 0 (fun _ => true) true Tryz.f9.params.toList args.toList ds p := hA0
  rw [Tryz.params9] at hA hval
  obtain ⟨v0, vs0, d0, ds0, p0, q0, hargs, rfl, rfl, h0, r0⟩ := trodAll_cons hA
  obtain ⟨v1, vs1, d1, ds1, p1, q1, rfl, rfl, rfl, h1, r1⟩ := trodAll_cons r0
  obtain ⟨v2, vs2, d2, ds2, p2, q2, rfl, rfl, rfl, h2, r2⟩ := trodAll_cons r1
  obtain ⟨rfl, rfl, rfl⟩ := trodAll_nil r2
  obtain rfl : args = #[v0, v1, v2] := by cases args; simp_all
  obtain ⟨rfl, rfl⟩ := trodVars_none hV
  have h0k := h0
  have hlt0 : ∀ x ∈ p0, x.block < W.heap.size := fun x hx => hW'.lt x (by simp [hx])
  have h1k := h1
  have hlt1 : ∀ x ∈ p1, x.block < W.heap.size := fun x hx => hW'.lt x (by simp [hx])
  have h2k := h2
  have hlt2 : ∀ x ∈ p2, x.block < W.heap.size := fun x hx => hW'.lt x (by simp [hx])
  obtain ⟨y0, l0, c0, rfl⟩ := okWide_slice Tryz.underlying22 (hval 0 _ v0 rfl rfl)
  obtain ⟨fuel0, hf0⟩ := h0
  obtain ⟨a0, n0, cap0, xs0, hcs0, hrd0, hwf0, hcap0, hz0⟩ := open_pos hf0
  obtain ⟨rfl, rfl, rfl⟩ : y0 = a0 ∧ l0 = n0 ∧ c0 = cap0 := by simpa [Value.cells] using hcs0
  obtain ⟨i1, rfl, rfl, rfl, wi1⟩ := open_int Tryz.underlying3 (hval 1 _ v1 rfl rfl) h1
  obtain ⟨i2, rfl, rfl, rfl, wi2⟩ := open_int Tryz.underlying3 (hval 2 _ v2 rfl rfl) h2
  clear hA0 hval0
  simp only [List.append_nil] at hW'
  refine (law_lists y0 l0 c0 xs0 i1 i2 W hrd0 hwf0 hcap0 hz0 (wf_i64' wi1) (wf_i64' wi2)).mono fun e W' ⟨he, hb⟩ => ?_
  subst he
  exact ⟨_, rfl, _, _, _, [], p0 ++ ([] ++ ([] ++ [])), [], hW', trodAll_cons_mk (shut_bool Tryz.underlying4 _) trodAll_mk0, trodAll_cons_mk (Below.trod laidOut (by kernel_rfl) (of_decide_eq_true (by kernel_rfl)) h0k hb hlt0) (trodAll_cons_mk (Below.trod laidOut (by kernel_rfl) (of_decide_eq_true (by kernel_rfl)) h1k hb hlt1) (trodAll_cons_mk (Below.trod laidOut (by kernel_rfl) (of_decide_eq_true (by kernel_rfl)) h2k hb hlt2) (trodAll_mk0))), rfl, hb.frame _, fun h => by cases h⟩

theorem over : Rows.purseListsRow.holds Tryz.pinned (OpenSpec.ofChange Rows.purseListsSpec) :=
  OpenClaim.holds_of_wide 9 Tryz.f9 rfl rfl rfl rfl rfl rfl rfl ⟨rfl, rfl, rfl, rfl, rfl⟩ rfl rfl rfl rfl rfl (by kernel_rfl) Tryz.func9 (by kernel_rfl)
    (of_decide_eq_true (by kernel_rfl)) (by unfold Func.isWrapper; first | (rw [if_pos (by decide +kernel)]; kernel_rfl) | (rw [if_neg (by decide +kernel)]; exact ⟨rfl, rfl⟩))
    (fun os started H enc _ => lifted os started H enc)

theorem proved : Rows.PurseListsSaid :=
  over
#print axioms proved
end Go.Proofs.YtehedodogkhmgaaGreat.purseLists
