/- PurseSums returns true: at each hour what was sold is what is paid and what is held together. -/
import Derived.Test.YtehedodogkhmgaaGreatRight
import Derived.Test.YtehedodogkhmgaaGreatParcels
import Derived.Test.YtehedodogkhmgaaGreatRefH
import Derived.Test.YtehedodogkhmgaaGreatSettling
set_option linter.unusedSimpArgs false
set_option linter.unusedVariables false
namespace Go.Proofs.YtehedodogkhmgaaGreat
open Go.RowKit Go.Shelf Go.Sort

theorem paid_mono {ys : List Po} {what : Int} (h0 : ∀ x y, 0 ≤ hasL ys x y) (m : Nat) : ∀ j, paidTo ys what m ≤ paidTo ys what (m + j)
  | 0 => Int.le_refl _
  | j + 1 => by
    have h1 := paid_mono (what := what) h0 m j
    have h2 := h0 ((m + j : Nat) : Int) what
    show paidTo ys what m ≤ paidTo ys what (m + j) + hasL ys ((m + j : Nat) : Int) what
    omega
/-- bounds in a book -/
theorem book_bounds {ys : List Po} (h : (checkL ys).2 = 0) (what : Int) : (0 ≤ soldL ys what ∧ soldL ys what ≤ 1000000000) ∧ (0 ≤ heldL ys what ∧ heldL ys what ≤ 1000000000) ∧ (∀ m, m ≤ 41 → 0 ≤ paidTo ys what m ∧ paidTo ys what m ≤ 1000000000) ∧ heldL ys what + paidTo ys what 41 = soldL ys what ∧ ∀ who, 0 ≤ hasL ys who what ∧ hasL ys who what ≤ 1000000000000 := by
  obtain ⟨s, hb⟩ := book_bk h
  have h1 := book_sold h what
  have h2 := hb.held0 what
  have h3 : ∀ m, m ≤ 41 → 0 ≤ paidTo ys what m ∧ paidTo ys what m ≤ paidTo ys what 41 := fun m hm => ⟨paidTo_nonneg hb.has0 m, by have := paid_mono (what := what) hb.has0 m (41 - m); rwa [show m + (41 - m) = 41 by omega] at this⟩
  have h4 : heldL ys what = soldL ys what - paidTo ys what 41 := rfl
  have h5 := (h3 41 (Nat.le_refl _)).1
  refine ⟨⟨(soldL_bound hb.okl.am what).1, h1⟩, ⟨h2, by omega⟩, fun m hm => by have := h3 m hm; omega, by omega, fun who => ⟨hb.has0 who what, by have := (hb.hasAbs who what).2; omega⟩⟩
theorem parcel_sold {ys : List Po} (h : (checkL ys).2 = 0) {k : Int} (hk : k ∈ parcelsL ys) : (10 ≤ k ∧ k ≤ 10000007) ∧ 0 < soldL ys k := by
  obtain ⟨s, hb⟩ := book_bk h
  obtain ⟨p, hp, e⟩ := (parcelsL_mem ys k).1 hk
  have h1 := hb.okl p hp
  unfold okPo at h1
  refine ⟨by omega, ?_⟩
  refine Classical.byContradiction fun hc => ?_
  have h2 := (soldL_bound hb.okl.am k).1
  exact hb.known k (by omega) p hp e
theorem three_sums (ys : List Po) : ∀ (l : List Int), (∀ k ∈ l, heldL ys k + paidTo ys k 41 = soldL ys k) → (l.map (heldL ys)).sum + (l.map (fun k => paidTo ys k 41)).sum = (l.map (soldL ys)).sum
  | [], _ => by simp
  | x :: r, h => by
    have h1 := three_sums ys r (fun k hk => h k (by simp [hk]))
    have h2 := h x (by simp)
    simp only [List.map_cons, List.sum_cons]
    omega
theorem sum_le {l : List Int} {f : Int → Int} (h : ∀ k ∈ l, 0 ≤ f k ∧ f k ≤ 1000000000) (i : Nat) : 0 ≤ ((l.map f).take i).sum ∧ ((l.map f).take i).sum ≤ 1000000000 * (l.length : Int) := by
  induction l generalizing i with
  | nil => simp
  | cons x r ih =>
    have h1 := h x (by simp)
    cases i with
    | zero => simp; omega
    | succ i =>
      have h2 := ih (fun k hk => h k (by simp [hk])) i
      simp only [List.map_cons, List.take_succ_cons, List.sum_cons, List.length_cons]
      push_cast
      omega

set_option maxRecDepth 100000 in
set_option maxHeartbeats 8000000 in
theorem law_sums (a : Option Addr) (n cap : Nat) (xs : List Po) (hour : Int) (w : World) (h : Rd Po.vals 8 w a n xs) (hw : ∀ p ∈ xs, p.Wf) (hcap : n ≤ cap) (_ : a = none → cap = 0) (_ : I64 hour) :
    Calls Tryz.prog 5 #[.slice a n cap, .int .i64 hour] w fun e w' => e = .returned (.bool true) ∧ Below w.heap.size w w' := by
  have Hl := Lib.hid h.len
  have Hw := Lib.hid hw
  have H := Lib.hid h
  clear h hw
  go_enter Tryz.func5, Tryz.ntmps5
  by_cases hn : 24 < n
  · have hn' : (24 : Int) < (n : Int) := by omega
    go_wp2_with fail
    refine (purses_any _).mono ?_
    rintro e w1 ⟨rfl, hB⟩
    have HB := Lib.hid hB
    clear hB
    go_wp2_with fail
    go_ret
    exact ⟨rfl, HB.out⟩
  have hn' : ¬ (24 : Int) < (n : Int) := by omega
  go_wp2_with fail
  refine (right_any a n cap xs _ H.out Hw.out).mono ?_
  rintro e w1 ⟨rfl, hB⟩
  have HB := Lib.hid hB
  have H1 := Lib.hid (H.out.below' hB)
  clear hB
  by_cases hc : (checkL xs).2 = 0
  case neg =>
    have hd : decide ((checkL xs).2 = 0) = false := by simp [hc]
    rw [hd]
    clear hc hd
    go_wp2_with fail
    refine (purses_any _).mono ?_
    rintro e w2 ⟨rfl, hB⟩
    have HB2 := Lib.hid (below_then HB.out hB (Nat.le_refl _))
    clear hB
    go_wp2_with fail
    go_ret
    exact ⟨rfl, HB2.out⟩
  have hd : decide ((checkL xs).2 = 0) = true := by simp [hc]
  rw [hd]
  have Hc := Lib.hid hc
  clear hc hd
  go_wp2_with fail
  refine (upto_any a n cap xs hour _ H1.out (by omega) Hw.out).mono ?_
  rintro e w2 ⟨v, rfl, hrow, hB⟩
  obtain ⟨k, hk, he, _⟩ := upto_prefix Hc.out hour
  obtain ⟨ys, hys⟩ : ∃ ys, xs.take k = ys := ⟨_, rfl⟩
  rw [he, hys] at hrow
  have hbk : (checkL ys).2 = 0 := by rw [← hys]; exact book_take Hc.out k
  have hwy : ∀ p ∈ ys, p.Wf := fun p hp => Hw.out p (by rw [← hys] at hp; exact List.mem_of_mem_take hp)
  have hyl : ys.length ≤ 24 := by rw [← hys, List.length_take]; have := Hl.out; omega
  obtain ⟨m, hm⟩ : ∃ m, ys.length = m := ⟨_, rfl⟩
  rw [hm] at hrow hyl
  obtain ⟨ya, yc, rfl, hyc, hyr, _⟩ := Rd.of_own hrow po_vals_length (by omega) hm (by unfold maxLen; omega)
  have Hbk := Lib.hid hbk
  have Hwy := Lib.hid hwy
  have Hm := Lib.hid hm
  have Y2 := Lib.hid hyr
  have HB2 := Lib.hid (below_then HB.out hB (Nat.le_refl _))
  clear hB hrow hyr hk he hys hbk hwy hm H1 H HB
  go_wp2_with fail
  refine (right_any ya m yc ys _ Y2.out Hwy.out).mono ?_
  rintro e w3 ⟨rfl, hB⟩
  have hd : decide ((checkL ys).2 = 0) = true := by simp [Hbk.out]
  rw [hd]
  have Y3 := Lib.hid (Y2.out.below' hB)
  have HB3 := Lib.hid (below_then HB2.out hB (Nat.le_refl _))
  clear hB hd Y2 HB2
  go_wp2_with fail
  refine (parcels_all ya m yc ys _ Y3.out Hwy.out).mono ?_
  rintro e w4 ⟨v, rfl, hrow, hB⟩
  rw [if_pos Hbk.out] at hrow
  obtain ⟨pn, hpn⟩ : ∃ pn, (parcelsL ys).length = pn := ⟨_, rfl⟩
  have hpl : pn ≤ 24 := by have := parcelsL_len ys; have := Hm.out; omega
  rw [hpn] at hrow
  obtain ⟨pa, pc, rfl, hpc, hpr, _⟩ := Rd.of_own hrow ints_length (by omega) hpn (by unfold maxLen; omega)
  have HP4 := Lib.hid hpr
  have Hpn := Lib.hid hpn
  have Y4 := Lib.hid (Y3.out.below' hB)
  have HB4 := Lib.hid (below_then HB3.out hB (Nat.le_refl _))
  clear hB hrow hpr hpn Y3 HB3
  go_upto_region 10 with (fail)
  go_loopw [6, 7, 9] (fun s p i wr => ∃ k : Nat, k ≤ pn ∧ i = .int .i64 k ∧ s = .int .i64 (((parcelsL ys).map (soldL ys)).take k).sum ∧ p = .int .i64 (((parcelsL ys).map (fun k => paidTo ys k 41)).take k).sum ∧ Below w4.heap.size w4 wr) (fun _ _ i _ => pn - (intOf i).toNat)
  case atStart => exact ⟨0, Nat.zero_le _, rfl, rfl, rfl, Below.refl _ _⟩
  case round =>
    obtain ⟨k, hk, rfl, rfl, rfl, hB⟩ := hrel
    have hp4 := HP4.out.below' hB
    have Y5 := Lib.hid (Y4.out.below' hB)
    have HBo := Lib.hid hB
    have hs1 := sum_le (l := parcelsL ys) (f := soldL ys) (fun k _ => (book_bounds Hbk.out k).1) k
    have hs2 := sum_le (l := parcelsL ys) (f := fun k => paidTo ys k 41) (fun k _ => (book_bounds Hbk.out k).2.2.1 41 (Nat.le_refl _)) k
    rw [Hpn.out] at hs1 hs2
    have hs1' : 0 ≤ (((parcelsL ys).map (soldL ys)).take k).sum ∧ (((parcelsL ys).map (soldL ys)).take k).sum ≤ 100000000000 := by omega
    have hs2' : 0 ≤ (((parcelsL ys).map (fun k => paidTo ys k 41)).take k).sum ∧ (((parcelsL ys).map (fun k => paidTo ys k 41)).take k).sum ≤ 100000000000 := by omega
    clear hB hs1 hs2
    by_cases hlt : k < pn
    case neg =>
      have hlt' : ¬ (k : Int) < (pn : Int) := by omega
      have hk1 : ((parcelsL ys).map (soldL ys)).take k = (parcelsL ys).map (soldL ys) := List.take_of_length_le (by rw [List.length_map, Hpn.out]; omega)
      have hk2 : ((parcelsL ys).map (fun k => paidTo ys k 41)).take k = (parcelsL ys).map (fun k => paidTo ys k 41) := List.take_of_length_le (by rw [List.length_map, Hpn.out]; omega)
      rw [hk1] at hs1' ⊢
      rw [hk2] at hs2' ⊢
      have hts := three_sums ys (parcelsL ys) (fun k _ => (book_bounds Hbk.out k).2.2.2.1)
      have htt : totL ys = ((parcelsL ys).map (heldL ys)).sum := sumHeld_eq (checkL_okl Hbk.out)
      rw [← htt] at hts
      obtain ⟨S, hS⟩ : ∃ S, ((parcelsL ys).map (soldL ys)).sum = S := ⟨_, rfl⟩
      obtain ⟨P, hP⟩ : ∃ P, ((parcelsL ys).map (fun k => paidTo ys k 41)).sum = P := ⟨_, rfl⟩
      obtain ⟨T, hT⟩ : ∃ T, totL ys = T := ⟨_, rfl⟩
      rw [hS] at hts hs1' ⊢
      rw [hP] at hts hs2' ⊢
      have hc5 : ∀ W, Rd Po.vals 8 W ya m ys → Calls Tryz.prog 19 #[.slice ya m yc] W fun e w' => Below W.heap.size W w' ∧ e = .returned (.tuple #[.int .i64 T, .int .i64 0]) := fun W h => (held_all ya m yc ys W h Hwy.out).mono fun e w' hp => by
        obtain ⟨hB, ⟨hc, _⟩ | ⟨_, rfl⟩⟩ := hp
        · exact absurd Hbk.out hc
        · exact ⟨hB, by rw [hT]⟩
      have HC5 := Lib.hid hc5
      rw [hT] at hts
      have heq : (T + P == S) = true := by simp; omega
      have htb : -100000000000 ≤ T ∧ T ≤ 100000000000 := by omega
      have Hts := Lib.hid hts
      clear hk1 hk2 htt hS hP hT hc5 hts
      go_wp2_with fail
      refine (HC5.out _ Y5.out).mono ?_
      rintro e w5 ⟨hB, rfl⟩
      have HB5 := Lib.hid (below_then HB4.out (below_then HBo.out hB (Nat.le_refl _)) (Nat.le_refl _))
      clear hB
      go_wp2_with fail
      refine (purses_any _).mono ?_
      rintro e w6 ⟨rfl, hB⟩
      have HB6 := Lib.hid (below_then HB5.out hB (Nat.le_refl _))
      clear hB
      go_wp2_with fail
      go_ret
      exact ⟨rfl, HB6.out⟩
    have hlt' : (k : Int) < (pn : Int) := by omega
    obtain ⟨b, off, x, rfl, hb, hx, x0⟩ := hp4.int hlt
    obtain ⟨⟨hx1, hx2⟩, hx3⟩ := parcel_sold Hbk.out (List.mem_of_getElem? hx)
    obtain ⟨⟨q1, q2⟩, ⟨q3, q4⟩, q5, q6, q7⟩ := book_bounds Hbk.out x
    have Q5 := Lib.hid q5
    have Q6 := Lib.hid q6
    have Q7 := Lib.hid q7
    have hxi : I64 x := by unfold I64; omega
    have HS1 := Lib.hid (show (((parcelsL ys).map (soldL ys)).take (k + 1)).sum = (((parcelsL ys).map (soldL ys)).take k).sum + soldL ys x by
      rw [take_succ_snoc (show ((parcelsL ys).map (soldL ys))[k]? = some (soldL ys x) by rw [List.getElem?_map, hx]; rfl)]; simp)
    have HS2 := Lib.hid (show (((parcelsL ys).map (fun k => paidTo ys k 41)).take (k + 1)).sum = (((parcelsL ys).map (fun k => paidTo ys k 41)).take k).sum + paidTo ys x 41 by
      rw [take_succ_snoc (show ((parcelsL ys).map (fun k => paidTo ys k 41))[k]? = some (paidTo ys x 41) by rw [List.getElem?_map, hx]; rfl)]; simp)
    obtain ⟨S0, hS0⟩ : ∃ S0, (((parcelsL ys).map (soldL ys)).take k).sum = S0 := ⟨_, rfl⟩
    obtain ⟨P0, hP0⟩ : ∃ P0, (((parcelsL ys).map (fun k => paidTo ys k 41)).take k).sum = P0 := ⟨_, rfl⟩
    rw [hS0] at HS1 hs1' ⊢
    rw [hP0] at HS2 hs2' ⊢
    obtain ⟨sv, hsv⟩ : ∃ sv, soldL ys x = sv := ⟨_, rfl⟩
    obtain ⟨hv, hhv⟩ : ∃ hv, heldL ys x = hv := ⟨_, rfl⟩
    have hask : ∀ q : Nat, q ≤ 40 → askE ys x q = 0 := fun q hq => by unfold askE; rw [if_pos Hbk.out, if_pos (show okAsk x q from ⟨⟨hx1, hx2⟩, by omega, by omega⟩)]
    have C1 := Lib.hid (show ∀ W, Rd Po.vals 8 W ya m ys → Calls Tryz.prog 15 #[.slice ya m yc, .int .i64 x] W fun e w' => Below W.heap.size W w' ∧ e = .returned (.tuple #[.int .i64 sv, .int .i64 0]) from fun W h => (sold_all ya m yc ys x W h Hwy.out hxi).mono fun e w' hp => by
      obtain ⟨hB, rfl⟩ := hp
      have ha0 : askE ys x 0 = 0 := hask 0 (by omega)
      have hsr : soldR ys x = (soldL ys x, 0) := by unfold soldR; rw [if_pos ha0, if_neg (by omega)]
      exact ⟨hB, by rw [hsr, ← hsv]⟩)
    have C2 := Lib.hid (show ∀ W, Rd Po.vals 8 W ya m ys → Calls Tryz.prog 21 #[.slice ya m yc, .int .i64 x] W fun e w' => Below W.heap.size W w' ∧ e = .returned (.tuple #[.int .i64 hv, .int .i64 0]) from fun W h => (heldOf_all ya m yc ys x W h Hwy.out hxi).mono fun e w' hp => by
      obtain ⟨hB, rfl⟩ := hp
      have ha0 : askE ys x 0 = 0 := hask 0 (by omega)
      exact ⟨hB, by rw [if_pos ha0, ha0, ← hhv]⟩)
    have C3 := Lib.hid (show ∀ (q : Nat), q ≤ 40 → ∀ W, Rd Po.vals 8 W ya m ys → Calls Tryz.prog 17 #[.slice ya m yc, .int .i64 q, .int .i64 x] W fun e w' => Below W.heap.size W w' ∧ e = .returned (.tuple #[.int .i64 (hasL ys q x), .int .i64 0]) from fun q hq W h => (has_all ya m yc ys q x W h Hwy.out (by unfold I64; omega) hxi).mono fun e w' hp => by
      obtain ⟨hB, rfl⟩ := hp
      exact ⟨hB, by rw [if_pos (hask q hq), hask q hq]⟩)
    rw [hsv] at HS1 q1 q2
    rw [hhv] at q3 q4
    have hq6 : hv + paidTo ys x 41 = sv := by rw [← hhv, ← hsv]; exact q6
    have HQ6 := Lib.hid hq6
    have Hx := Lib.hid hx
    clear hx hx1 hx2 hx3 q5 q6 q7 hxi hS0 hP0 hsv hhv hask hp4 hq6
    go_wp2_with fail
    refine (C1.out _ Y5.out).mono ?_
    rintro e w5 ⟨hB, rfl⟩
    have y0 := cell_keep x0 hB
    have yb : b < w5.heap.size := Nat.lt_of_lt_of_le hb hB.size
    have Y6 := Lib.hid (Y5.out.below' hB)
    have HB5 := Lib.hid (below_then HBo.out hB (Nat.le_refl _))
    clear hB x0 hb
    go_wp2_with fail
    refine (C2.out _ Y6.out).mono ?_
    rintro e w6 ⟨hB, rfl⟩
    have z0 := cell_keep y0 hB
    have zb : b < w6.heap.size := Nat.lt_of_lt_of_le yb hB.size
    have Y7 := Lib.hid (Y6.out.below' hB)
    have HB6 := Lib.hid (below_then HB5.out hB (Nat.le_refl _))
    clear hB y0 yb
    have hv0 : ¬ hv < 0 := by omega
    go_upto_region 18 with (fail)
    have HZ := Lib.hid (And.intro z0 zb)
    clear z0 zb
    go_loopw [7, 14, 15] (fun p s i wr => ∃ q : Nat, q ≤ 41 ∧ i = .int .i64 q ∧ p = .int .i64 (P0 + paidTo ys x q) ∧ s = .int .i64 (hv + paidTo ys x q) ∧ Below w6.heap.size w6 wr) (fun _ _ i _ => 41 - (intOf i).toNat)
    case atStart => exact ⟨0, Nat.zero_le _, rfl, by simp [paidTo], by simp [paidTo], Below.refl _ _⟩
    case round =>
      obtain ⟨q, hq, rfl, rfl, rfl, hB⟩ := hrel
      have Y8 := Lib.hid (Y7.out.below' hB)
      have z0 := cell_keep HZ.out.1 hB
      have zb : b < wr.heap.size := Nat.lt_of_lt_of_le HZ.out.2 hB.size
      have HB7 := Lib.hid hB
      have hpb := Q5.out q hq
      clear hB
      by_cases hql : q < 41
      · have hq1 : (q : Int) ≤ 40 := by omega
        have hpb2 := Q5.out (q + 1) (by omega)
        have HN := Lib.hid (show paidTo ys x (q + 1) = paidTo ys x q + hasL ys q x from rfl)
        rw [HN.out] at hpb2
        have hhb := Q7.out q
        have hcon := C3.out q (by omega) _ Y8.out
        obtain ⟨pv, hpv⟩ : ∃ pv, paidTo ys x q = pv := ⟨_, rfl⟩
        obtain ⟨gv, hgv⟩ : ∃ gv, hasL ys q x = gv := ⟨_, rfl⟩
        rw [hpv] at HN hpb hpb2 ⊢
        rw [hgv] at HN hpb2 hhb hcon
        have HCon := Lib.hid hcon
        have hg0 : ¬ gv < 0 := by omega
        clear hpv hgv hcon
        go_wp2_with fail
        refine HCon.out.mono ?_
        rintro e w8 ⟨hB, rfl⟩
        have HB8 := Lib.hid (below_then HB7.out hB (Nat.le_refl _))
        clear hB z0 zb
        go_wp2_with fail
        exact ⟨⟨q + 1, by omega, by go_num, by rw [HN.out]; congr 1; omega, by rw [HN.out]; congr 1; omega, HB8.out⟩, by simp [intOf]; omega⟩
      · have hq1 : ¬ (q : Int) ≤ 40 := by omega
        have hq41 : q = 41 := by omega
        have hne : (hv + paidTo ys x q != sv) = false := by rw [hq41, HQ6.out]; simp
        have HE2 := Lib.hid (show P0 + paidTo ys x q = P0 + paidTo ys x 41 by rw [hq41])
        have HBk := Lib.hid (below_then HB6.out HB7.out (Nat.le_refl _))
        obtain ⟨pv, hpv⟩ : ∃ pv, paidTo ys x q = pv := ⟨_, rfl⟩
        rw [hpv] at hne HE2 hpb ⊢
        clear hpv hq41 z0 zb
        go_wp2_with fail
        exact ⟨⟨k + 1, by omega, by go_num, by rw [HS1.out], by rw [HS2.out, HE2.out], HBk.out⟩, by simp [intOf]; omega⟩
end Go.Proofs.YtehedodogkhmgaaGreat
