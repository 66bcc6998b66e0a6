/- The walks of the references that PurseParts asks: parcels, book, Upto, OfParcel, asked, Sold, Has, HeldOf, Held; and of purse's Sold, OfParcel. -/
import Derived.Test.YtehedodogkhmgaaGreatRefG
import Derived.Test.YtehedodogkhmgaaGreatKeep
import Derived.Test.YtehedodogkhmgaaGreatRefE
set_option linter.unusedSimpArgs false
set_option linter.unusedVariables false
namespace Go.Proofs.YtehedodogkhmgaaGreat
open Go.RowKit Go.Shelf

theorem putL_len : ∀ (l : List Int) (n : Int), (putL l n).length ≤ l.length + 1
  | [], n => by simp [putL]
  | x :: r, n => by
    unfold putL
    have := putL_len r n
    split
    · simp
    · split
      · simp
      · simp; omega
theorem foldl_put_len : ∀ (xs : List Po) (l : List Int), (xs.foldl (fun l p => putL l p.parcel) l).length ≤ l.length + xs.length
  | [], l => by simp
  | p :: r, l => by
    have h1 := foldl_put_len r (putL l p.parcel)
    have h2 := putL_len l p.parcel
    rw [List.foldl_cons, List.length_cons]; omega
theorem parcelsL_len (xs : List Po) : (parcelsL xs).length ≤ xs.length := by have := foldl_put_len xs []; simpa [parcelsL] using this

set_option maxRecDepth 100000 in
set_option maxHeartbeats 2000000 in
theorem parcels_any (a : Option Addr) (n cap : Nat) (xs : List Po) (w : World) (h : Rd Po.vals 8 w a n xs) (hn : n ≤ 1000) :
    Calls Tryz.prog 79 #[.slice a n cap] w (PutPost w (parcelsL xs)) := by
  have H := Lib.hid h
  have Hl := Lib.hid h.len
  clear h
  go_enter Tryz.func79, Tryz.ntmps79
  go_wp2_with fail
  go_loopw [3, 4] (fun v i wr => ∃ k : Nat, k ≤ n ∧ i = .int .i64 k ∧ PutPost w (parcelsL (xs.take k)) (.returned v) wr) (fun _ i _ => n - (intOf i).toNat)
  case atStart => exact ⟨0, Nat.zero_le _, rfl, none, 0, 0, rfl, Rd.empty _ _, Nat.le_refl _, fun _ => rfl, (fun q e => by cases e), Below.refl _ _⟩
  case round =>
    obtain ⟨k, hk, rfl, a', m, c', he, hr, hmc, hz, hq, hB⟩ := hrel
    cases he
    have hm : m ≤ 1000 := by have h1 := hr.len; have h2 := parcelsL_len (xs.take k); rw [List.length_take] at h2; omega
    have HR := Lib.hid hr
    have HB := Lib.hid hB
    have Hz := Lib.hid hz
    have HQ := Lib.hid hq
    have h1 := H.out.below' hB
    clear hr hB hz hq
    by_cases hlt : k < n
    · obtain ⟨b, off, x, rfl, hb, hx, x0, x1, x2, x3, x4, x5, x6, x7⟩ := h1.po hlt
      have HS := Lib.hid (show parcelsL (xs.take (k + 1)) = putL (parcelsL (xs.take k)) x.parcel by rw [take_succ_snoc hx, parcelsL_snoc])
      clear hx h1
      go_wp2_with fail
      refine (put_any a' m c' _ x.parcel _ HR.out (parcelsL_sorted _) hmc Hz.out HQ.out (by omega)).mono ?_
      rintro e w2 ⟨a2, m2, c2, rfl, hr2, hmc2, hz2, hq2, hB2⟩
      have HP := Lib.hid (show PutPost w (parcelsL (xs.take (k + 1))) (.returned (.slice a2 m2 c2)) w2 from ⟨a2, m2, c2, rfl, by rw [HS.out]; exact hr2, hmc2, hz2, hq2, below_then HB.out hB2 (Nat.le_refl _)⟩)
      clear hr2 hz2 hq2 hB2
      go_wp2_with fail
      exact ⟨⟨k + 1, by omega, by go_num, HP.out⟩, by simp [intOf]; omega⟩
    · have hlt' : ¬ (k : Int) < (n : Int) := by omega
      go_wp2_with fail
      go_ret
      refine ⟨a', m, c', rfl, ?_, hmc, Hz.out, HQ.out, HB.out⟩
      have := HR.out
      rwa [List.take_of_length_le (by rw [Hl.out]; omega)] at this

set_option maxHeartbeats 1000000 in
theorem book_any (a : Option Addr) (n cap : Nat) (xs : List Po) (w : World) (h : Rd Po.vals 8 w a n xs) (hn : n ≤ 1000) (hcap : n ≤ cap) :
    Calls Tryz.prog 83 #[.slice a n cap] w fun e w' => e = .returned (.bool (decide ((checkL xs).2 = 0))) ∧ Below w.heap.size w w' := by
  go_enter Tryz.func83, Tryz.ntmps83
  go_wp2_with fail
  refine (rcheck_any a n cap xs _ h hn hcap).mono ?_
  rintro e w1 ⟨rfl, hB⟩
  have HB := Lib.hid hB
  clear hB
  by_cases hc : (checkL xs).2 = 0
  · have hc1 : ((checkL xs).2 == 0) = true := by simp [hc]
    have Hc := Lib.hid hc
    clear hc
    go_wp2_with fail
    go_ret
    exact ⟨ret_bool (by simp [Hc.out]), HB.out⟩
  · have hc1 : ((checkL xs).2 == 0) = false := by simp [hc]
    have Hc := Lib.hid hc
    clear hc
    go_wp2_with fail
    go_ret
    exact ⟨ret_bool (by simp [Hc.out]), HB.out⟩

/-- what of a book is for a parcel -/
def ofParcelL (xs : List Po) (what : Int) : List Po := someL xs (fun p => decide (p.parcel = what))


set_option maxRecDepth 100000 in
set_option maxHeartbeats 4000000 in
theorem rupto_any (a : Option Addr) (n cap : Nat) (xs : List Po) (t : Int) (w : World) (h : Rd Po.vals 8 w a n xs) (hn : n ≤ 1000) (hcap : n ≤ cap) :
    Calls Tryz.prog 24 #[.slice a n cap, .int .i64 t] w fun e W' => ∃ v, e = .returned v ∧ W'.ownsRow w.heap.size 63 8 v (uptoL xs t).length ((uptoL xs t).flatMap Po.vals) ∧ Below w.heap.size w W' := by
  have H := Lib.hid h
  have Hl := Lib.hid h.len
  obtain ⟨i0, hi0, hz0, hz1, hz2⟩ := info_parts info_po
  clear h
  go_enter Tryz.func24, Tryz.ntmps24
  go_wp2_with fail
  go_loopw [5, 6] (fun v i wr => ∃ k : Nat, k ≤ n ∧ i = .int .i64 k ∧ (k = 0 ∨ (checkL xs).2 = 0) ∧ wr.ownsRow w.heap.size 63 8 v ((xs.take k).filter (fun p => decide (p.hour ≤ t))).length (((xs.take k).filter (fun p => decide (p.hour ≤ t))).flatMap Po.vals) ∧ Below w.heap.size w wr) (fun _ i _ => n - (intOf i).toNat)
  case atStart => exact ⟨0, Nat.zero_le _, rfl, .inl rfl, World.ownsRow_nil _ _ _ _, Below.refl _ _⟩
  case round =>
    obtain ⟨k, hk, rfl, hkb, hrow, hB⟩ := hrel
    have h1 := Lib.hid (H.out.below' hB)
    have HB := Lib.hid hB
    have HR := Lib.hid hrow
    have HK := Lib.hid hkb
    clear hB hrow hkb
    by_cases hlt : k < n
    · have hlt' : (k : Int) < (n : Int) := by omega
      go_wp2_with fail
      refine (book_any a n cap xs _ h1.out hn hcap).mono ?_
      rintro e w1 ⟨rfl, hB⟩
      have HB1 := Lib.hid (below_then HB.out hB (Nat.le_refl _))
      have HR1 := Lib.hid (own_later HR.out hB)
      have h2 := h1.out.below' hB
      clear hB HR HB
      by_cases hc : (checkL xs).2 = 0
      · have hd : decide ((checkL xs).2 = 0) = true := by simp [hc]
        rw [hd]
        have Hc := Lib.hid hc
        clear hc hd
        obtain ⟨b, off, x, rfl, hb, hx, x0, x1, x2, x3, x4, x5, x6, x7⟩ := h2.po hlt
        have Hx := Lib.hid hx
        have hlk : ((xs.take k).filter (fun p => decide (p.hour ≤ t))).length ≤ 1000 := Nat.le_trans (List.length_filter_le _ _) (by rw [List.length_take]; omega)
        have Hlk := Lib.hid hlk
        clear hx h2 hlk
        by_cases hq : x.hour ≤ t
        · have he : (xs.take (k + 1)).filter (fun p => decide (p.hour ≤ t)) = (xs.take k).filter (fun p => decide (p.hour ≤ t)) ++ [x] := by rw [take_succ_snoc Hx.out, List.filter_append]; simp [hq]
          have He := Lib.hid he
          clear he
          skip
          go_wp2_with (at_builtin; refine wpList_append_own _ rfl _ _ 22 rfl w.heap.size 63 i0 _ 8 64 Tryz.underlying22 hi0 hz0 hz1 hz2 rfl (by decide) _ _ _ rfl (HR1.out.alloc _) ⟨w1.heap.size, 0, none⟩ 1 1 (Po.vals x) rfl rfl (World.news_of_block (cs := #[.int .i64 x.id, .int .i64 x.hour, .int .u8 x.kind, .int .i64 x.party, .int .i64 x.parcel, .int .i64 x.amount, .int .i64 x.reason, .int .i64 x.known]) (t := 63) (fr := (0, 0)) (heap_alloc_new w1 _)) (by simp [Po.vals, Value.oneCell']) (by have := Hlk.out; unfold maxLen; omega) (by have := Hlk.out; omega) (Nat.le_trans HB1.out.size (by simp)) ?_; intro v2 w2 hown2 hgrow2 _)
          have HB2 := Lib.hid ((HB1.out.alloc HB1.out.size (.cells #[.int .i64 x.id, .int .i64 x.hour, .int .u8 x.kind, .int .i64 x.party, .int .i64 x.parcel, .int .i64 x.amount, .int .i64 x.reason, .int .i64 x.known] 63)).grown hgrow2 (Nat.le_trans HB1.out.size (by simp)) (fun k e => (HR1.out.lt k e).1))
          have HO2 := Lib.hid hown2
          clear hgrow2 hown2
          go_wp2_with fail
          refine ⟨⟨k + 1, by omega, by go_num, .inr Hc.out, ?_, HB2.out⟩, by simp [intOf]; omega⟩
          rw [He.out, List.length_append, List.flatMap_append]
          simpa using HO2.out
        · have he : (xs.take (k + 1)).filter (fun p => decide (p.hour ≤ t)) = (xs.take k).filter (fun p => decide (p.hour ≤ t)) := by rw [take_succ_snoc Hx.out, List.filter_append]; simp [hq]
          have He := Lib.hid he
          clear he
          have hq1 : ¬ x.hour ≤ t := hq
          go_wp2_with fail
          refine ⟨⟨k + 1, by omega, by go_num, .inr Hc.out, ?_, HB1.out⟩, by simp [intOf]; omega⟩
          rw [He.out]
          exact HR1.out
      · have hd : decide ((checkL xs).2 = 0) = false := by simp [hc]
        rw [hd]
        have hk0 : k = 0 := HK.out.resolve_right hc
        have hL : uptoL xs t = (xs.take k).filter (fun p => decide (p.hour ≤ t)) := by unfold uptoL someL; rw [if_neg hc, hk0]; simp
        have HL := Lib.hid hL
        clear hc hd hk0 hL
        go_wp2_with fail
        go_ret
        exact ⟨_, rfl, by rw [HL.out]; exact HR1.out, HB1.out⟩
    · have hlt' : ¬ (k : Int) < (n : Int) := by omega
      have hL : uptoL xs t = (xs.take k).filter (fun p => decide (p.hour ≤ t)) := by
        unfold uptoL someL
        rcases HK.out with e | e
        · have : xs = [] := List.eq_nil_of_length_eq_zero (by rw [Hl.out]; omega)
          rw [this]; simp
        · rw [if_pos e, List.take_of_length_le (by rw [Hl.out]; omega)]
      have HL := Lib.hid hL
      clear hL
      go_wp2_with fail
      go_ret
      exact ⟨_, rfl, by rw [HL.out]; exact HR.out, HB.out⟩


set_option maxRecDepth 100000 in
set_option maxHeartbeats 4000000 in
theorem rofParcel_any (a : Option Addr) (n cap : Nat) (xs : List Po) (t : Int) (w : World) (h : Rd Po.vals 8 w a n xs) (hn : n ≤ 1000) (hcap : n ≤ cap) :
    Calls Tryz.prog 26 #[.slice a n cap, .int .i64 t] w fun e W' => ∃ v, e = .returned v ∧ W'.ownsRow w.heap.size 63 8 v (ofParcelL xs t).length ((ofParcelL xs t).flatMap Po.vals) ∧ Below w.heap.size w W' := by
  have H := Lib.hid h
  have Hl := Lib.hid h.len
  obtain ⟨i0, hi0, hz0, hz1, hz2⟩ := info_parts info_po
  clear h
  go_enter Tryz.func26, Tryz.ntmps26
  go_wp2_with fail
  go_loopw [5, 6] (fun v i wr => ∃ k : Nat, k ≤ n ∧ i = .int .i64 k ∧ (k = 0 ∨ (checkL xs).2 = 0) ∧ wr.ownsRow w.heap.size 63 8 v ((xs.take k).filter (fun p => decide (p.parcel = t))).length (((xs.take k).filter (fun p => decide (p.parcel = t))).flatMap Po.vals) ∧ Below w.heap.size w wr) (fun _ i _ => n - (intOf i).toNat)
  case atStart => exact ⟨0, Nat.zero_le _, rfl, .inl rfl, World.ownsRow_nil _ _ _ _, Below.refl _ _⟩
  case round =>
    obtain ⟨k, hk, rfl, hkb, hrow, hB⟩ := hrel
    have h1 := Lib.hid (H.out.below' hB)
    have HB := Lib.hid hB
    have HR := Lib.hid hrow
    have HK := Lib.hid hkb
    clear hB hrow hkb
    by_cases hlt : k < n
    · have hlt' : (k : Int) < (n : Int) := by omega
      go_wp2_with fail
      refine (book_any a n cap xs _ h1.out hn hcap).mono ?_
      rintro e w1 ⟨rfl, hB⟩
      have HB1 := Lib.hid (below_then HB.out hB (Nat.le_refl _))
      have HR1 := Lib.hid (own_later HR.out hB)
      have h2 := h1.out.below' hB
      clear hB HR HB
      by_cases hc : (checkL xs).2 = 0
      · have hd : decide ((checkL xs).2 = 0) = true := by simp [hc]
        rw [hd]
        have Hc := Lib.hid hc
        clear hc hd
        obtain ⟨b, off, x, rfl, hb, hx, x0, x1, x2, x3, x4, x5, x6, x7⟩ := h2.po hlt
        have Hx := Lib.hid hx
        have hlk : ((xs.take k).filter (fun p => decide (p.parcel = t))).length ≤ 1000 := Nat.le_trans (List.length_filter_le _ _) (by rw [List.length_take]; omega)
        have Hlk := Lib.hid hlk
        clear hx h2 hlk
        by_cases hq : x.parcel = t
        · have he : (xs.take (k + 1)).filter (fun p => decide (p.parcel = t)) = (xs.take k).filter (fun p => decide (p.parcel = t)) ++ [x] := by rw [take_succ_snoc Hx.out, List.filter_append]; simp [hq]
          have He := Lib.hid he
          clear he
          have hq1 : (x.parcel == t) = true := by simp [hq]
          have HQ := Lib.hid hq
          clear hq
          go_wp2_with (at_builtin; refine wpList_append_own _ rfl _ _ 22 rfl w.heap.size 63 i0 _ 8 64 Tryz.underlying22 hi0 hz0 hz1 hz2 rfl (by decide) _ _ _ rfl (HR1.out.alloc _) ⟨w1.heap.size, 0, none⟩ 1 1 (Po.vals x) rfl rfl (World.news_of_block (cs := #[.int .i64 x.id, .int .i64 x.hour, .int .u8 x.kind, .int .i64 x.party, .int .i64 x.parcel, .int .i64 x.amount, .int .i64 x.reason, .int .i64 x.known]) (t := 63) (fr := (0, 0)) (heap_alloc_new w1 _)) (by simp [Po.vals, Value.oneCell']) (by have := Hlk.out; unfold maxLen; omega) (by have := Hlk.out; omega) (Nat.le_trans HB1.out.size (by simp)) ?_; intro v2 w2 hown2 hgrow2 _)
          have HB2 := Lib.hid ((HB1.out.alloc HB1.out.size (.cells #[.int .i64 x.id, .int .i64 x.hour, .int .u8 x.kind, .int .i64 x.party, .int .i64 x.parcel, .int .i64 x.amount, .int .i64 x.reason, .int .i64 x.known] 63)).grown hgrow2 (Nat.le_trans HB1.out.size (by simp)) (fun k e => (HR1.out.lt k e).1))
          have HO2 := Lib.hid hown2
          clear hgrow2 hown2
          go_wp2_with fail
          refine ⟨⟨k + 1, by omega, by go_num, .inr Hc.out, ?_, HB2.out⟩, by simp [intOf]; omega⟩
          rw [He.out, List.length_append, List.flatMap_append]
          simpa using HO2.out
        · have he : (xs.take (k + 1)).filter (fun p => decide (p.parcel = t)) = (xs.take k).filter (fun p => decide (p.parcel = t)) := by rw [take_succ_snoc Hx.out, List.filter_append]; simp [hq]
          have He := Lib.hid he
          clear he
          have hq1 : (x.parcel == t) = false := by simp [hq]
          have HQ := Lib.hid hq
          clear hq
          go_wp2_with fail
          refine ⟨⟨k + 1, by omega, by go_num, .inr Hc.out, ?_, HB1.out⟩, by simp [intOf]; omega⟩
          rw [He.out]
          exact HR1.out
      · have hd : decide ((checkL xs).2 = 0) = false := by simp [hc]
        rw [hd]
        have hk0 : k = 0 := HK.out.resolve_right hc
        have hL : ofParcelL xs t = (xs.take k).filter (fun p => decide (p.parcel = t)) := by unfold ofParcelL someL; rw [if_neg hc, hk0]; simp
        have HL := Lib.hid hL
        clear hc hd hk0 hL
        go_wp2_with fail
        go_ret
        exact ⟨_, rfl, by rw [HL.out]; exact HR1.out, HB1.out⟩
    · have hlt' : ¬ (k : Int) < (n : Int) := by omega
      have hL : ofParcelL xs t = (xs.take k).filter (fun p => decide (p.parcel = t)) := by
        unfold ofParcelL someL
        rcases HK.out with e | e
        · have : xs = [] := List.eq_nil_of_length_eq_zero (by rw [Hl.out]; omega)
          rw [this]; simp
        · rw [if_pos e, List.take_of_length_le (by rw [Hl.out]; omega)]
      have HL := Lib.hid hL
      clear hL
      go_wp2_with fail
      go_ret
      exact ⟨_, rfl, by rw [HL.out]; exact HR.out, HB.out⟩


set_option maxRecDepth 100000 in
set_option maxHeartbeats 2000000 in
theorem rasked_any (a : Option Addr) (n cap : Nat) (xs : List Po) (who what : Int) (w : World) (h : Rd Po.vals 8 w a n xs) (hn : n ≤ 1000) (hcap : n ≤ cap) :
    Calls Tryz.prog 74 #[.slice a n cap, .int .i64 who, .int .i64 what] w fun e w' => e = .returned (.int .i64 (askE xs what who)) ∧ Below w.heap.size w w' := by
  go_enter Tryz.func74, Tryz.ntmps74
  go_wp2_with fail
  refine (rcheck_any a n cap xs _ h hn hcap).mono ?_
  rintro e w1 ⟨rfl, hB⟩
  have HB := Lib.hid hB
  clear hB h
  by_cases hc : (checkL xs).2 = 0
  · have hc1 : ((checkL xs).2 == 0) = true := by simp [hc]
    by_cases ho : okAsk what who
    · have HE := Lib.hid (show askE xs what who = (checkL xs).2 by unfold askE; rw [if_pos hc, if_pos ho, hc])
      obtain ⟨⟨o1, o2⟩, o3, o4⟩ := ho
      clear hc
      go_wp2
      go_ret
      exact ⟨ret_int HE.out.symm, HB.out⟩
    · have HE := Lib.hid (show askE xs what who = 1 by unfold askE; rw [if_pos hc, if_neg ho])
      have Ho := Lib.hid ho
      clear ho hc
      go_wp2
      all_goals first
        | (exfalso; refine Ho.out ⟨⟨?_, ?_⟩, ?_, ?_⟩ <;> (simp at *; omega))
        | (exfalso; refine Ho.out ⟨⟨?_, ?_⟩, ?_, ?_⟩ <;> omega)
        | (go_ret; exact ⟨ret_int HE.out.symm, HB.out⟩)
  · have hc1 : ((checkL xs).2 == 0) = false := by simp [hc]
    have HE := Lib.hid (show askE xs what who = (checkL xs).2 by unfold askE; rw [if_neg hc])
    clear hc
    go_wp2_with fail
    go_ret
    exact ⟨ret_int HE.out.symm, HB.out⟩

/-- what Sold comes to -/
def soldR (xs : List Po) (what : Int) : Int × Int := if askE xs what 0 = 0 then (if soldL xs what = 0 then (0, 5) else (soldL xs what, 0)) else (0, askE xs what 0)
def SoldPost (w : World) (xs : List Po) (what : Int) (e : Ending) (w' : World) : Prop :=
  Below w.heap.size w w' ∧ e = .returned (.tuple #[.int .i64 (soldR xs what).1, .int .i64 (soldR xs what).2])
set_option maxRecDepth 100000 in
set_option maxHeartbeats 2000000 in
theorem rSold_any (a : Option Addr) (n cap : Nat) (xs : List Po) (what : Int) (w : World) (h : Rd Po.vals 8 w a n xs) (hn : n ≤ 1000) (hcap : n ≤ cap) :
    Calls Tryz.prog 16 #[.slice a n cap, .int .i64 what] w (SoldPost w xs what) := by
  have H := Lib.hid h
  clear h
  go_enter Tryz.func16, Tryz.ntmps16
  go_wp2_with fail
  refine (rasked_any a n cap xs 0 what _ H.out hn hcap).mono ?_
  rintro e w1 ⟨rfl, hB⟩
  have HB := Lib.hid hB
  have H1 := Lib.hid (H.out.below' hB)
  clear hB
  by_cases hc : askE xs what 0 = 0
  · have hc1 : (askE xs what 0 != 0) = false := by simp [hc]
    have Hc := Lib.hid hc
    have hA := (checkL_okl (askE_0 hc).1).am
    clear hc
    go_wp2_with fail
    refine (sold_any a n cap xs what _ H1.out hn hA).mono ?_
    rintro e w2 ⟨rfl, rfl⟩
    by_cases hs : soldL xs what = 0
    · have hs1 : (soldL xs what == 0) = true := by simp [hs]
      have Hs := Lib.hid hs
      clear hs hA
      go_wp2_with fail
      go_ret2
      exact ⟨HB.out, ret_two_int (by unfold soldR; rw [if_pos Hc.out, if_pos Hs.out]) (by unfold soldR; rw [if_pos Hc.out, if_pos Hs.out])⟩
    · have hs1 : (soldL xs what == 0) = false := by simp [hs]
      have Hs := Lib.hid hs
      clear hs hA
      go_wp2_with fail
      go_ret2
      exact ⟨HB.out, ret_two_int (by unfold soldR; rw [if_pos Hc.out, if_neg Hs.out]) (by unfold soldR; rw [if_pos Hc.out, if_neg Hs.out])⟩
  · have hc1 : (askE xs what 0 != 0) = true := by simp [hc]
    have Hc := Lib.hid hc
    clear hc
    go_wp2_with fail
    go_ret2
    exact ⟨HB.out, ret_two_int (by unfold soldR; rw [if_neg Hc.out]) (by unfold soldR; rw [if_neg Hc.out])⟩
set_option maxRecDepth 100000 in
set_option maxHeartbeats 2000000 in
theorem sold_all (a : Option Addr) (n cap : Nat) (xs : List Po) (parcel : Int) (w : World) (h : Rd Po.vals 8 w a n xs) (hw : ∀ p ∈ xs, p.Wf) (hp2 : I64 parcel) :
    Calls Tryz.prog 15 #[.slice a n cap, .int .i64 parcel] w (SoldPost w xs parcel) := by
  go_enter Tryz.func15, Tryz.ntmps15
  go_wp2_with fail
  refine (asked_any a n cap xs parcel 0 _ h hw).mono ?_
  rintro e w1 ⟨hB, ⟨hc, rfl⟩ | ⟨hc, L, s, rfl, hch, hbk, hL⟩⟩
  · have HB := Lib.hid hB
    have Hc := Lib.hid hc
    have hc1 : (askE xs parcel 0 != 0) = true := by simp [hc]
    clear hB hc h
    go_wp2_with fail
    go_ret2
    exact ⟨HB.out, ret_two_int (by unfold soldR; rw [if_neg Hc.out]) (by unfold soldR; rw [if_neg Hc.out])⟩
  · obtain ⟨c0, c1, c2, c3, c4, c5, c6⟩ := hch.cs
    have l1 := look_int_ok hch.sold hp2
    have hsd := hbk.isSold parcel
    have hs0 := (soldL_bound hbk.okl.am parcel).1
    have hgs := hbk.sold parcel
    have HB := Lib.hid hB
    have Hc := Lib.hid hc
    clear hB hc h hch hbk
    rw [hsd] at l1
    by_cases hs : soldL xs parcel = 0
    · have hd : decide (0 < soldL xs parcel) = false := by simp [hs]
      rw [hd] at l1
      have Hs := Lib.hid hs
      clear hs hd hsd hgs
      go_wp2_with fail
      go_ret2
      exact ⟨HB.out, ret_two_int (by unfold soldR; rw [if_pos Hc.out, if_pos Hs.out]) (by unfold soldR; rw [if_pos Hc.out, if_pos Hs.out])⟩
    · have hd : decide (0 < soldL xs parcel) = true := by simp; omega
      have hg : getI s.sold parcel = soldL xs parcel := by unfold getI; rw [hgs, if_pos (by omega)]; rfl
      rw [hd, hg] at l1
      have Hs := Lib.hid hs
      clear hs hd hsd hgs hg
      go_wp2_with fail
      go_ret2
      exact ⟨HB.out, ret_two_int (by unfold soldR; rw [if_pos Hc.out, if_neg Hs.out]) (by unfold soldR; rw [if_pos Hc.out, if_neg Hs.out])⟩

set_option maxRecDepth 100000 in
set_option maxHeartbeats 2000000 in
theorem rHas_any (a : Option Addr) (n cap : Nat) (xs : List Po) (who what : Int) (w : World) (h : Rd Po.vals 8 w a n xs) (hn : n ≤ 1000) (hcap : n ≤ cap) :
    Calls Tryz.prog 18 #[.slice a n cap, .int .i64 who, .int .i64 what] w (HasPost w xs who what) := by
  have H := Lib.hid h
  clear h
  go_enter Tryz.func18, Tryz.ntmps18
  go_wp2_with fail
  refine (rasked_any a n cap xs who what _ H.out hn hcap).mono ?_
  rintro e w1 ⟨rfl, hB⟩
  have HB := Lib.hid hB
  have H1 := Lib.hid (H.out.below' hB)
  clear hB
  by_cases hc : askE xs what who = 0
  · have hc1 : (askE xs what who != 0) = false := by simp [hc]
    have Hc := Lib.hid hc
    have hA := (checkL_okl (askE_0 hc).1).am
    clear hc
    go_wp2_with fail
    refine (has_any a n cap xs who what _ H1.out hn hA).mono ?_
    rintro e w2 ⟨rfl, rfl⟩
    clear hA
    go_wp2_with fail
    go_ret2
    exact ⟨HB.out, ret_two_int (by rw [if_pos Hc.out]) Hc.out.symm⟩
  · have hc1 : (askE xs what who != 0) = true := by simp [hc]
    have Hc := Lib.hid hc
    clear hc
    go_wp2_with fail
    go_ret2
    exact ⟨HB.out, ret_two_int (by rw [if_neg Hc.out]) rfl⟩

set_option maxRecDepth 100000 in
set_option maxHeartbeats 2000000 in
theorem rHeldOf_any (a : Option Addr) (n cap : Nat) (xs : List Po) (what : Int) (w : World) (h : Rd Po.vals 8 w a n xs) (hn : n ≤ 1000) (hcap : n ≤ cap) :
    Calls Tryz.prog 22 #[.slice a n cap, .int .i64 what] w (HeldOfPost w xs what) := by
  have H := Lib.hid h
  clear h
  go_enter Tryz.func22, Tryz.ntmps22
  go_wp2_with fail
  refine (rasked_any a n cap xs 0 what _ H.out hn hcap).mono ?_
  rintro e w1 ⟨rfl, hB⟩
  have HB := Lib.hid hB
  have H1 := Lib.hid (H.out.below' hB)
  clear hB
  by_cases hc : askE xs what 0 = 0
  · have hc1 : (askE xs what 0 != 0) = false := by simp [hc]
    have Hc := Lib.hid hc
    have hA := (checkL_okl (askE_0 hc).1).am
    clear hc
    go_wp2_with fail
    refine (held_any a n cap xs what _ H1.out hn hA).mono ?_
    rintro e w2 ⟨rfl, rfl⟩
    clear hA
    go_wp2_with fail
    go_ret2
    exact ⟨HB.out, ret_two_int (by rw [if_pos Hc.out]) Hc.out.symm⟩
  · have hc1 : (askE xs what 0 != 0) = true := by simp [hc]
    have Hc := Lib.hid hc
    clear hc
    go_wp2_with fail
    go_ret2
    exact ⟨HB.out, ret_two_int (by rw [if_neg Hc.out]) rfl⟩


theorem sum_put (f : Int → Int) (n δ : Int) : ∀ (l : List Int), l.Pairwise (· < ·) → ((putL l n).map (fun k => f k + if n = k then δ else 0)).sum = (l.map f).sum + δ + (if n ∈ l then 0 else f n)
  | [], _ => by simp [putL, Int.add_comm]
  | x :: r, h => by
    rw [List.pairwise_cons] at h
    have hr : ∀ (l : List Int), (∀ y ∈ l, n < y) → (l.map (fun k => f k + if n = k then δ else 0)) = l.map f := fun l hl => List.map_congr_left fun y hy => by
      have := hl y hy
      rw [if_neg (by omega)]; omega
    unfold putL
    by_cases h1 : n < x
    · have hno : n ∉ x :: r := fun hm => by
        rcases List.mem_cons.1 hm with e | hm
        · omega
        · have := h.1 n hm; omega
      rw [if_pos h1, List.map_cons, hr (x :: r) (fun y hy => by
        rcases List.mem_cons.1 hy with rfl | hy
        · exact h1
        · have := h.1 y hy; omega), if_neg hno, List.sum_cons, if_pos rfl]
      omega
    · by_cases h2 : n = x
      · subst h2
        rw [if_neg h1, if_pos rfl, List.map_cons, hr r h.1, List.sum_cons, if_pos rfl, List.map_cons, List.sum_cons, if_pos (by simp)]
        omega
      · rw [if_neg h1, if_neg h2, List.map_cons, List.sum_cons, sum_put f n δ r h.2, if_neg h2, List.map_cons, List.sum_cons]
        have : (n ∈ x :: r) ↔ n ∈ r := by simp [h2]
        by_cases h3 : n ∈ r
        · rw [if_pos h3, if_pos (this.2 h3)]; omega
        · rw [if_neg h3, if_neg (fun e => h3 (this.1 e))]; omega
theorem heldL_zero {xs : List Po} {what : Int} (h : ∀ p ∈ xs, p.parcel ≠ what) : heldL xs what = 0 := by
  have h1 : soldL xs what = 0 := by
    have : ∀ (ys : List Po) (n : Int), (∀ p ∈ ys, p.parcel ≠ what) → ys.foldl (soldStep what) n = n := by
      intro ys
      induction ys with
      | nil => intro n _; rfl
      | cons p r ih =>
        intro n hp
        rw [List.foldl_cons, ih _ (fun q hq => hp q (by simp [hq]))]
        unfold soldStep
        rw [if_neg (fun e => hp p (by simp) e.2)]
    exact this xs 0 h
  have h2 : ∀ m, paidTo xs what m = 0 := by
    intro m
    induction m with
    | zero => rfl
    | succ m ih => simp only [paidTo]; rw [ih, hasL_zero (fun p hp e => h p hp e.2)]; rfl
  unfold heldL
  rw [h1, h2]; rfl
/-- what is held for all parcels, parcel by parcel -/
def sumHeld (xs : List Po) : Int := ((parcelsL xs).map (heldL xs)).sum
theorem sumHeld_aux : ∀ (r pre : List Po), Okl (pre ++ r) → totL pre = sumHeld pre → totL (pre ++ r) = sumHeld (pre ++ r)
  | [], pre, _, h => by simpa using h
  | p :: r, pre, ho, h => by
    have hok := ho p (by simp)
    unfold okPo at hok
    have hk : ∀ k, heldL (pre ++ [p]) k = heldL pre k + if p.parcel = k then (if p.kind = 1 then p.amount else 0) - moveOf p else 0 := fun k => heldL_snoc pre p k ⟨by omega, by omega⟩
    have h1 : sumHeld (pre ++ [p]) = totL (pre ++ [p]) := by
      unfold sumHeld
      rw [parcelsL_snoc, List.map_congr_left (fun k _ => hk k), sum_put _ _ _ _ (parcelsL_sorted pre), totL_snoc, h]
      have hz : (if p.parcel ∈ parcelsL pre then (0 : Int) else heldL pre p.parcel) = 0 := by
        by_cases hm : p.parcel ∈ parcelsL pre
        · rw [if_pos hm]
        · rw [if_neg hm]; exact heldL_zero fun q hq e => hm ((parcelsL_mem pre _).2 ⟨q, hq, e⟩)
      rw [hz]
      unfold totStep moveOf sumHeld
      repeat' split
      all_goals omega
    have := sumHeld_aux r (pre ++ [p]) (by simpa using ho) h1.symm
    simpa using this
theorem sumHeld_eq {xs : List Po} (h : Okl xs) : totL xs = sumHeld xs := by
  have := sumHeld_aux xs [] (by simpa using h) (by rfl)
  simpa using this
theorem sumHeld_bound {xs : List Po} (h : Am xs) (hn : xs.length ≤ 1000) (k : Nat) : -1000000000000000000 ≤ (((parcelsL xs).map (heldL xs)).take k).sum ∧ (((parcelsL xs).map (heldL xs)).take k).sum ≤ 1000000000000000000 := by
  have hb := sum_bound (c := 100000000000000) (by omega) (xs := ((parcelsL xs).map (heldL xs)).take k) (fun y hy => by
    obtain ⟨k, _, rfl⟩ := List.mem_map.1 (List.mem_of_mem_take hy)
    have hL : (xs.length : Int) ≤ 1000 := by omega
    have h1 := soldL_bound h k
    have h2 := paidTo_bound h k 41
    unfold heldL
    generalize (xs.length : Int) = L at *
    omega)
  have h1 := parcelsL_len xs
  have h2 : (((parcelsL xs).map (heldL xs)).take k).length ≤ 1000 := by rw [List.length_take, List.length_map]; omega
  generalize (((parcelsL xs).map (heldL xs)).take k).length = L at *
  omega
set_option maxRecDepth 100000 in
set_option maxHeartbeats 4000000 in
theorem rHeld_any (a : Option Addr) (n cap : Nat) (xs : List Po) (w : World) (h : Rd Po.vals 8 w a n xs) (hn : n ≤ 1000) (hcap : n ≤ cap) :
    Calls Tryz.prog 20 #[.slice a n cap] w (HeldPost w xs) := by
  have H := Lib.hid h
  have Hl := Lib.hid h.len
  clear h
  go_enter Tryz.func20, Tryz.ntmps20
  go_wp2_with fail
  refine (rcheck_any a n cap xs _ H.out hn hcap).mono ?_
  rintro e w1 ⟨rfl, hB⟩
  have HB := Lib.hid hB
  have H1 := Lib.hid (H.out.below' hB)
  clear hB
  by_cases hc : (checkL xs).2 = 0
  · have hc1 : ((checkL xs).2 != 0) = false := by simp [hc]
    have Hc := Lib.hid hc
    have hO := checkL_okl hc
    have HO := Lib.hid hO
    clear hc hO
    go_wp2_with fail
    refine (parcels_any a n cap xs _ H1.out hn).mono ?_
    rintro e w2 ⟨a', m, c', rfl, hr, hmc, hz, hq, hB2⟩
    have hm : m ≤ 1000 := by have h1 := hr.len; have h2 := parcelsL_len xs; have := Hl.out; omega
    have HR := Lib.hid hr
    have H2 := Lib.hid (H1.out.below' hB2)
    have HB2 := Lib.hid (below_then HB.out hB2 (Nat.le_refl _))
    clear hr hz hq hB2
    go_wp2_with fail
    go_loopw [6, 8] (fun s i wr => ∃ k : Nat, k ≤ m ∧ i = .int .i64 k ∧ s = .int .i64 (((parcelsL xs).map (heldL xs)).take k).sum ∧ wr = w2) (fun _ i _ => m - (intOf i).toNat)
    case atStart => exact ⟨0, Nat.zero_le _, rfl, rfl, rfl⟩
    case round =>
      obtain ⟨k, hk, rfl, rfl, rfl⟩ := hrel
      by_cases hlt : k < m
      · have hlt' : (k : Int) < (m : Int) := by omega
        obtain ⟨b, off, x, rfl, hb, hx, x0⟩ := HR.out.int hlt
        have HS := Lib.hid (show (((parcelsL xs).map (heldL xs)).take (k + 1)).sum = (((parcelsL xs).map (heldL xs)).take k).sum + heldL xs x by rw [take_succ_snoc (show ((parcelsL xs).map (heldL xs))[k]? = some (heldL xs x) by rw [List.getElem?_map, hx]; rfl)]; simp)
        have hb1 := sumHeld_bound HO.out.am (by rw [Hl.out]; exact hn) k
        have hb2 := sumHeld_bound HO.out.am (by rw [Hl.out]; exact hn) (k + 1)
        rw [HS.out] at hb2
        obtain ⟨S0, hS0⟩ : ∃ S0, (((parcelsL xs).map (heldL xs)).take k).sum = S0 := ⟨_, rfl⟩
        rw [hS0] at HS hb1 hb2 ⊢
        clear hx hS0
        go_wp2_with fail
        refine (held_any a n cap xs x _ H2.out hn HO.out.am).mono ?_
        rintro e w3 ⟨rfl, rfl⟩
        obtain ⟨h0, hh0⟩ : ∃ h0, heldL xs x = h0 := ⟨_, rfl⟩
        rw [hh0] at HS hb2 ⊢
        clear hh0
        go_wp2_with fail
        exact ⟨⟨k + 1, by omega, by go_num, by rw [HS.out], by first | rfl | trivial⟩, by simp [intOf]; omega⟩
      · have hlt' : ¬ (k : Int) < (m : Int) := by omega
        have HE := Lib.hid (show (((parcelsL xs).map (heldL xs)).take k).sum = totL xs by
          rw [List.take_of_length_le (by rw [List.length_map]; have := HR.out.len; omega), sumHeld_eq HO.out]; rfl)
        go_wp2_with fail
        go_ret2
        exact ⟨HB2.out, .inr ⟨Hc.out, ret_two_int HE.out rfl⟩⟩
  · have hc1 : ((checkL xs).2 != 0) = true := by simp [hc]
    have Hc := Lib.hid hc
    clear hc
    go_wp2_with fail
    go_ret2
    exact ⟨HB.out, .inl ⟨Hc.out, rfl⟩⟩
end Go.Proofs.YtehedodogkhmgaaGreat
