/- The walks of the references that PurseLists asks, but Balances. A balance is read as a due: the party, what was paid (parcel), what came back (amount). -/
import Derived.Test.YtehedodogkhmgaaGreatRefP
import Derived.Test.YtehedodogkhmgaaGreatRefH
import Derived.Test.YtehedodogkhmgaaGreatReasonsP
import Derived.Test.YtehedodogkhmgaaGreatAsk
import Derived.Test.YtehedodogkhmgaaGreatDeleteB
set_option linter.unusedSimpArgs false
set_option linter.unusedVariables false
namespace Go.Proofs.YtehedodogkhmgaaGreat
open Go.RowKit Go.Shelf
theorem eqBa_run (p q : Du) (w : World) : (Op.equalIn 10000 59 (.agg #[.int .i64 p.party, .int .i64 p.parcel, .int .i64 p.amount])
    (.agg #[.int .i64 q.party, .int .i64 q.parcel, .int .i64 q.amount])).run Tryz.prog w = .ok (decide (p = q)) w := by
  go_simp
  by_cases h : p = q
  · subst h
    simp
  · have h' := h
    rw [du_eq_iff2] at h'
    simp only [h, decide_false]
    repeat' split
    all_goals first | rfl | (exfalso; apply h'; refine ⟨?_, ?_, ?_⟩ <;> assumption)

theorem neqBa_run (p q : Du) (w : World) : (binOp .neq 59 (.agg #[.int .i64 p.party, .int .i64 p.parcel, .int .i64 p.amount])
    (.agg #[.int .i64 q.party, .int .i64 q.parcel, .int .i64 q.amount])).run Tryz.prog w = .ok (.bool (!(decide (p = q)))) w := by
  simp only [binOp]
  simp [Op.equal, Op.maxDepth, eqBa_run]

set_option maxRecDepth 100000 in
set_option maxHeartbeats 2000000 in
theorem sameBalances_any (a a' : Option Addr) (n n' cap cap' : Nat) (xs ys : List Du) (w : World) (h : Rd Du.vals 3 w a n xs) (h' : Rd Du.vals 3 w a' n' ys) :
    Calls Tryz.prog 50 #[.slice a n cap, .slice a' n' cap'] w fun e w' => e = .returned (.bool (decide (xs = ys))) ∧ Below w.heap.size w w' := by
  by_cases hnn : n = n'
  case neg =>
    have hd : ((n : Int) != n') = true := by simp; omega
    have hx : xs ≠ ys := fun e => hnn (by rw [← h.len, ← h'.len, e])
    go_enter Tryz.func50, Tryz.ntmps50
    go_wp2_with fail
    go_ret
    exact ⟨ret_bool (by simp [hx]), Below.refl _ _⟩
  subst hnn
  have hd : ((n : Int) != n) = false := by simp
  have Hl := Lib.hid h.len
  have Hl' := Lib.hid h'.len
  have hm := h.cap
  unfold maxLen at hm
  go_enter Tryz.func50, Tryz.ntmps50
  go_wp2_with fail
  go_loopw [5] (fun i wr => ∃ k : Nat, k ≤ n ∧ i = .int .i64 k ∧ xs.take k = ys.take k ∧ Rd Du.vals 3 wr a n xs ∧ Rd Du.vals 3 wr a' n ys ∧ Below w.heap.size w wr) (fun i _ => n - (intOf i).toNat)
  case atStart => exact ⟨0, Nat.zero_le _, rfl, rfl, h, h', Below.refl _ _⟩
  case round =>
    obtain ⟨k, hk, rfl, he, h1, h1', hB⟩ := hrel
    have He := Lib.hid he
    have HB := Lib.hid hB
    clear he hB h h'
    by_cases hlt : k < n
    · obtain ⟨b, off, x, rfl, hb, hx, x0, x1, x2⟩ := h1.du hlt
      obtain ⟨b', off', y, rfl, hb', hy, y0, y1, y2⟩ := h1'.du hlt
      have Hx := Lib.hid hx
      have Hy := Lib.hid hy
      clear hx hy
      have Hsn := Lib.hid (take_succ_snoc Hx.out)
      have Hsn' := Lib.hid (take_succ_snoc Hy.out)
      by_cases hxy : x = y
      · have hne : ∀ W, (binOp .neq 59 (.agg #[.int .i64 x.party, .int .i64 x.parcel, .int .i64 x.amount])
          (.agg #[.int .i64 y.party, .int .i64 y.parcel, .int .i64 y.amount])).run Tryz.prog W = .ok (.bool false) W := fun W => by rw [neqBa_run]; simp [hxy]
        have Hxy := Lib.hid hxy
        clear hxy
        go_wp2_with fail
        go_quiet (fail)
        go_wp2_with fail
        exact ⟨⟨k + 1, by omega, by go_num, by rw [Hsn.out, Hsn'.out, He.out, Hxy.out], h1.drewN _, h1'.drewN _, below_drewN HB.out _⟩, by simp [intOf]; omega⟩
      · have hne : ∀ W, (binOp .neq 59 (.agg #[.int .i64 x.party, .int .i64 x.parcel, .int .i64 x.amount])
          (.agg #[.int .i64 y.party, .int .i64 y.parcel, .int .i64 y.amount])).run Tryz.prog W = .ok (.bool true) W := fun W => by rw [neqBa_run]; simp [hxy]
        have Hxy := Lib.hid hxy
        clear hxy
        go_wp2_with fail
        go_quiet (fail)
        go_wp2_with fail
        go_ret
        refine ⟨ret_bool ?_, below_drewN HB.out _⟩
        have : xs ≠ ys := fun e => Hxy.out (by have h1 := Hx.out; have h2 := Hy.out; rw [e] at h1; exact Option.some.inj (h1.symm.trans h2))
        simp [this]
    · go_wp2_with fail
      go_ret
      refine ⟨ret_bool ?_, HB.out⟩
      have := He.out
      rw [List.take_of_length_le (by rw [Hl.out]; omega), List.take_of_length_le (by rw [Hl'.out]; omega)] at this
      simp [this]



def RowPost (t : TypeId) (w : World) (l : List Du) (e : Ending) (w' : World) : Prop :=
  ∃ v, e = .returned v ∧ w'.ownsRow w.heap.size t 3 v l.length (l.flatMap Du.vals) ∧ Below w.heap.size w w'

def parcelsR (xs : List Po) : List Int := if (checkL xs).2 = 0 then parcelsL xs else []
theorem parcelsR_yes {xs : List Po} (h : (checkL xs).2 = 0) : parcelsR xs = parcelsL xs := if_pos h
theorem parcelsR_no {xs : List Po} (h : ¬ (checkL xs).2 = 0) : parcelsR xs = [] := if_neg h
set_option maxRecDepth 100000 in
set_option maxHeartbeats 2000000 in
theorem rParcels_any (a : Option Addr) (n cap : Nat) (xs : List Po) (w : World) (h : Rd Po.vals 8 w a n xs) (hn : n ≤ 1000) (hcap : n ≤ cap) :
    Calls Tryz.prog 52 #[.slice a n cap] w (PutPost w (parcelsR xs)) := by
  have H := Lib.hid h
  clear h
  go_enter Tryz.func52, Tryz.ntmps52
  go_wp2_with fail
  refine (book_any a n cap xs _ H.out hn hcap).mono ?_
  rintro e w1 ⟨rfl, hB⟩
  have HB := Lib.hid hB
  have H1 := Lib.hid (H.out.below' hB)
  clear hB H
  by_cases hc : (checkL xs).2 = 0
  · have hd : decide ((checkL xs).2 = 0) = true := by simp [hc]
    rw [hd]
    have Hc := Lib.hid hc
    clear hc hd
    go_wp2_with fail
    refine (parcels_any a n cap xs _ H1.out hn).mono ?_
    rintro e w2 ⟨a2, m2, c2, rfl, hr2, hmc2, hz2, hq2, hB2⟩
    have HP := Lib.hid (show PutPost w (parcelsR xs) (.returned (.slice a2 m2 c2)) w2 from ⟨a2, m2, c2, rfl, by rw [parcelsR_yes Hc.out]; exact hr2, hmc2, hz2, hq2, below_then HB.out hB2 (Nat.le_refl _)⟩)
    clear hr2 hz2 hq2 hB2
    go_wp2_with fail
    go_ret
    exact HP.out
  · have hd : decide ((checkL xs).2 = 0) = false := by simp [hc]
    rw [hd]
    have Hc := Lib.hid hc
    clear hc hd
    go_wp2_with fail
    go_ret
    exact ⟨none, 0, 0, rfl, by rw [parcelsR_no Hc.out]; exact Rd.empty _ _, Nat.le_refl _, fun _ => rfl, (fun q e => by cases e), HB.out⟩

/-- what the reference's Holders returns -/
def rhStep (xs : List Po) (what : Int) (who : Nat) : Option Du := if 0 < hasL xs who what then some ⟨who, what, hasL xs who what⟩ else none
def rHoldL (xs : List Po) (what : Int) : List Du := if (checkL xs).2 = 0 then (List.range 41).filterMap (rhStep xs what) else []
theorem range_take {m k : Nat} (h : k ≤ m) : (List.range m).take k = List.range k := by
  rw [List.take_range]; congr 1; omega
theorem fm_range_some {β : Type} {f : Nat → Option β} {k : Nat} {y : β} (h : f k = some y) : (List.range (k + 1)).filterMap f = (List.range k).filterMap f ++ [y] := by rw [List.range_succ, List.filterMap_append]; simp [h]
theorem fm_range_none {β : Type} {f : Nat → Option β} {k : Nat} (h : f k = none) : (List.range (k + 1)).filterMap f = (List.range k).filterMap f := by rw [List.range_succ, List.filterMap_append]; simp [h]
theorem fm_range_len {β : Type} (f : Nat → Option β) (k : Nat) : ((List.range k).filterMap f).length ≤ k := by have := List.length_filterMap_le f (List.range k); simpa using this

set_option maxRecDepth 100000 in
set_option maxHeartbeats 4000000 in
theorem rHolders_any (a : Option Addr) (n cap : Nat) (xs : List Po) (what : Int) (w : World) (h : Rd Po.vals 8 w a n xs) (hn : n ≤ 1000) (hcap : n ≤ cap) :
    Calls Tryz.prog 53 #[.slice a n cap, .int .i64 what] w (RowPost 53 w (rHoldL xs what)) := by
  have H := Lib.hid h
  have Hl := Lib.hid h.len
  obtain ⟨i0, hi0, hz0, hz1, hz2⟩ := info_parts info_du
  clear h
  go_enter Tryz.func53, Tryz.ntmps53
  go_wp2_with fail
  go_loopw [5, 6] (fun v i wr => ∃ k : Nat, k ≤ 41 ∧ i = .int .i64 k ∧ (k = 0 ∨ (checkL xs).2 = 0) ∧ wr.ownsRow w.heap.size 53 3 v ((List.range k).filterMap (rhStep xs what)).length (((List.range k).filterMap (rhStep xs what)).flatMap Du.vals) ∧ Below w.heap.size w wr) (fun _ i _ => 41 - (intOf i).toNat)
  case atStart => exact ⟨0, Nat.zero_le _, rfl, .inl rfl, World.ownsRow_nil _ _ _ _, Below.refl _ _⟩
  case round =>
    obtain ⟨k, hk, rfl, hkb, hrow, hB⟩ := hrel
    have h1 := Lib.hid (H.out.below' hB)
    have HB := Lib.hid hB
    have HR := Lib.hid hrow
    have HK := Lib.hid hkb
    clear hB hrow hkb
    by_cases hlt : k ≤ 40
    · have hlt' : (k : Int) ≤ 40 := by omega
      go_wp2_with fail
      refine (book_any a n cap xs _ h1.out hn hcap).mono ?_
      rintro e w1 ⟨rfl, hB⟩
      have HB1 := Lib.hid (below_then HB.out hB (Nat.le_refl _))
      have HR1 := Lib.hid (own_later HR.out hB)
      have H2 := Lib.hid (h1.out.below' hB)
      clear hB HR HB
      by_cases hc : (checkL xs).2 = 0
      · have hd : decide ((checkL xs).2 = 0) = true := by simp [hc]
        rw [hd]
        have Hc := Lib.hid hc
        have HA := Lib.hid (checkL_okl hc).am
        clear hc hd
        go_wp2_with fail
        refine (has_any a n cap xs k what _ H2.out hn HA.out).mono ?_
        rintro e w2 ⟨rfl, rfl⟩
        obtain ⟨m, hm⟩ : ∃ m, hasL xs k what = m := ⟨_, rfl⟩
        have hml : ((List.range k).filterMap (rhStep xs what)).length ≤ 41 := Nat.le_trans (fm_range_len _ _) (by omega)
        rw [hm]
        by_cases hp : 0 < m
        · have HS := Lib.hid (show (List.range (k + 1)).filterMap (rhStep xs what) = (List.range k).filterMap (rhStep xs what) ++ [⟨k, what, m⟩] from fm_range_some (by unfold rhStep; rw [hm, if_pos hp]))
          clear hm
          go_wp2_with (at_builtin; refine wpList_append_own _ rfl _ _ 23 rfl w.heap.size 53 i0 _ 3 24 Tryz.underlying23 hi0 hz0 hz1 hz2 rfl (by decide) _ _ _ rfl (HR1.out.alloc _) ⟨w2.heap.size, 0, none⟩ 1 1 (Du.vals ⟨k, what, m⟩) rfl rfl (World.news_of_block (cs := #[.int .i64 k, .int .i64 what, .int .i64 m]) (t := 53) (fr := (0, 0)) (heap_alloc_new w2 _)) (by simp [Du.vals, Value.oneCell']) (by unfold maxLen; omega) (by omega) (Nat.le_trans HB1.out.size (by simp)) ?_; intro v2 w3 hown2 hgrow2 _)
          have HB2 := Lib.hid ((HB1.out.alloc HB1.out.size (.cells #[.int .i64 k, .int .i64 what, .int .i64 m] 53)).grown hgrow2 (Nat.le_trans HB1.out.size (by simp)) (fun k e => (HR1.out.lt k e).1))
          have HO2 := Lib.hid hown2
          clear hgrow2 hown2
          go_wp2_with fail
          refine ⟨⟨k + 1, by omega, by go_num, .inr Hc.out, ?_, HB2.out⟩, by simp [intOf]; omega⟩
          rw [HS.out, List.length_append, List.flatMap_append]
          simpa using HO2.out
        · have HS := Lib.hid (show (List.range (k + 1)).filterMap (rhStep xs what) = (List.range k).filterMap (rhStep xs what) from fm_range_none (by unfold rhStep; rw [hm, if_neg hp]))
          clear hm
          go_wp2_with fail
          refine ⟨⟨k + 1, by omega, by go_num, .inr Hc.out, ?_, HB1.out⟩, by simp [intOf]; omega⟩
          rw [HS.out]
          exact HR1.out
      · have hd : decide ((checkL xs).2 = 0) = false := by simp [hc]
        rw [hd]
        have hk0 : k = 0 := HK.out.resolve_right hc
        have hL : rHoldL xs what = (List.range k).filterMap (rhStep xs what) := by unfold rHoldL; rw [if_neg hc, hk0]; simp
        have HL := Lib.hid hL
        clear hc hd hk0 hL
        go_wp2_with fail
        go_ret
        exact ⟨_, rfl, by rw [HL.out]; exact HR1.out, HB1.out⟩
    · have hlt' : ¬ (k : Int) ≤ 40 := by omega
      have hL : rHoldL xs what = (List.range k).filterMap (rhStep xs what) := by
        unfold rHoldL
        rw [if_pos (HK.out.resolve_left (by omega)), show k = 41 by omega]
      have HL := Lib.hid hL
      clear hL
      go_wp2_with fail
      go_ret
      exact ⟨_, rfl, by rw [HL.out]; exact HR.out, HB.out⟩

theorem reasonsL_snoc_yes {xs : List Po} {k : Nat} {x : Po} {who what : Int} (h : xs[k]? = some x) (hq : isRe who what x = true) : reasonsL (xs.take (k + 1)) who what = reasonsL (xs.take k) who what ++ [x.reason] := by
  unfold reasonsL; rw [take_succ_snoc h, List.filter_append]; simp [hq]
theorem reasonsL_snoc_no {xs : List Po} {k : Nat} {x : Po} {who what : Int} (h : xs[k]? = some x) (hq : isRe who what x = false) : reasonsL (xs.take (k + 1)) who what = reasonsL (xs.take k) who what := by
  unfold reasonsL; rw [take_succ_snoc h, List.filter_append]; simp [hq]
theorem reasonsL_len (xs : List Po) (who what : Int) : (reasonsL xs who what).length ≤ xs.length := by unfold reasonsL; rw [List.length_map]; exact List.length_filter_le _ _

set_option maxRecDepth 100000 in
set_option maxHeartbeats 4000000 in
theorem rReasons_any (a : Option Addr) (n cap : Nat) (xs : List Po) (who what : Int) (w : World) (h : Rd Po.vals 8 w a n xs) (hn : n ≤ 1000) (hcap : n ≤ cap) :
    Calls Tryz.prog 47 #[.slice a n cap, .int .i64 who, .int .i64 what] w (ReasonsPost w xs who what) := by
  have H := Lib.hid h
  have Hl := Lib.hid h.len
  obtain ⟨i0, hi0, hz0, hz1, hz2⟩ := info_parts info_int
  clear h
  go_enter Tryz.func47, Tryz.ntmps47
  go_wp2_with fail
  refine (rasked_any a n cap xs who what _ H.out hn hcap).mono ?_
  rintro e w1 ⟨rfl, hB⟩
  have H1 := Lib.hid (H.out.below' hB)
  have HB1 := Lib.hid hB
  clear hB H
  obtain ⟨ae, hae⟩ : ∃ ae, askE xs what who = ae := ⟨_, rfl⟩
  rw [hae]
  have Hae := Lib.hid hae
  clear hae
  go_wp2_with fail
  go_loopw [9, 10] (fun v i wr => ∃ k : Nat, k ≤ n ∧ i = .int .i64 k ∧ (k = 0 ∨ ae = 0) ∧ wr.ownsRow w1.heap.size 3 1 v (reasonsL (xs.take k) who what).length ((reasonsL (xs.take k) who what).flatMap ints) ∧ Below w1.heap.size w1 wr) (fun _ i _ => n - (intOf i).toNat)
  case atStart => exact ⟨0, Nat.zero_le _, rfl, .inl rfl, World.ownsRow_nil _ _ _ _, Below.refl _ _⟩
  case round =>
    obtain ⟨k, hk, rfl, hkb, hrow, hB⟩ := hrel
    have h1 := H1.out.below' hB
    have HB := Lib.hid hB
    have HR := Lib.hid hrow
    have HK := Lib.hid hkb
    clear hB hrow hkb
    by_cases hlt : k < n
    · have hlt' : (k : Int) < (n : Int) := by omega
      by_cases hc : ae = 0
      · subst hc
        obtain ⟨b, off, x, rfl, hb, hx, x0, x1, x2, x3, x4, x5, x6, x7⟩ := h1.po hlt
        have hlk : (reasonsL (xs.take k) who what).length ≤ 1000 := Nat.le_trans (reasonsL_len _ _ _) (by rw [List.length_take]; omega)
        have Hx := Lib.hid hx
        clear hx h1
        by_cases q1 : x.kind = 1
        · have HS := Lib.hid (reasonsL_snoc_no (who := who) (what := what) Hx.out (by simp [isRe, q1]))
          have e1 : (x.kind != 1) = false := by simp [q1]
          clear q1
          go_wp2_with fail
          exact ⟨⟨k + 1, by omega, by go_num, .inr (by first | rfl | trivial), by rw [HS.out]; exact HR.out, HB.out⟩, by simp [intOf]; omega⟩
        have e1 : (x.kind != 1) = true := by simp [q1]
        have Q1 := Lib.hid q1
        clear q1
        by_cases q2 : x.party = who
        case neg =>
          have HS := Lib.hid (reasonsL_snoc_no (who := who) (what := what) Hx.out (by simp [isRe, q2]))
          have e2 : (x.party == who) = false := by simp [q2]
          clear q2
          go_wp2_with fail
          exact ⟨⟨k + 1, by omega, by go_num, .inr (by first | rfl | trivial), by rw [HS.out]; exact HR.out, HB.out⟩, by simp [intOf]; omega⟩
        have e2 : (x.party == who) = true := by simp [q2]
        have Q2 := Lib.hid q2
        clear q2
        by_cases q3 : x.parcel = what
        case neg =>
          have HS := Lib.hid (reasonsL_snoc_no (who := who) (what := what) Hx.out (by simp [isRe, q3]))
          have e3 : (x.parcel == what) = false := by simp [q3]
          clear q3
          go_wp2_with fail
          exact ⟨⟨k + 1, by omega, by go_num, .inr (by first | rfl | trivial), by rw [HS.out]; exact HR.out, HB.out⟩, by simp [intOf]; omega⟩
        have HS := Lib.hid (reasonsL_snoc_yes (who := who) (what := what) Hx.out (by simp [isRe, Q1.out, Q2.out, q3]))
        have e3 : (x.parcel == what) = true := by simp [q3]
        clear q3
        go_wp2_with (at_builtin; go_loud (refine wpList_append_own _ rfl _ _ 39 rfl w1.heap.size 3 i0 _ 1 8 Tryz.underlying39 hi0 hz0 hz1 hz2 rfl (by decide) _ _ _ rfl (HR.out.alloc _) ⟨wr.heap.size, 0, none⟩ 1 1 (ints x.reason) rfl rfl (cell_one_new _ _ _) (by simp [ints, Value.oneCell']) (by unfold maxLen; omega) (by omega) (Nat.le_trans HB.out.size (by simp)) ?_; intro v2 w2 hown2 hgrow2 _))
        have HB2 := Lib.hid ((HB.out.alloc HB.out.size (.cells #[.int .i64 x.reason] 3)).grown hgrow2 (Nat.le_trans HB.out.size (by simp)) (fun k e => (HR.out.lt k e).1))
        have HO2 := Lib.hid hown2
        clear hgrow2 hown2
        go_wp2_with fail
        refine ⟨⟨k + 1, by omega, by go_num, .inr (by first | rfl | trivial), ?_, HB2.out⟩, by simp [intOf]; omega⟩
        rw [HS.out, List.length_append, List.flatMap_append]
        simpa using HO2.out
      · have hc1 : (ae == 0) = false := by simp [hc]
        have hk0 : k = 0 := HK.out.resolve_right hc
        have HL := Lib.hid (show reasonsR xs who what = reasonsL (xs.take k) who what by unfold reasonsR; rw [Hae.out, if_neg hc, hk0]; rfl)
        clear hk0
        go_wp2_with fail
        go_ret2
        exact ⟨_, by rw [Hae.out]; rfl, by rw [HL.out]; exact ownsRow_mono HR.out HB1.out.size, below_then HB1.out HB.out (Nat.le_refl _)⟩
    · have hlt' : ¬ (k : Int) < (n : Int) := by omega
      have HL := Lib.hid (show reasonsR xs who what = reasonsL (xs.take k) who what by
        unfold reasonsR
        rw [Hae.out]
        rcases HK.out with e | e
        · have : xs = [] := List.eq_nil_of_length_eq_zero (by rw [Hl.out]; omega)
          rw [this]; simp [reasonsL]
        · rw [if_pos e, List.take_of_length_le (by rw [Hl.out]; omega)])
      go_wp2_with fail
      go_ret2
      exact ⟨_, by rw [Hae.out]; rfl, by rw [HL.out]; exact ownsRow_mono HR.out HB1.out.size, below_then HB1.out HB.out (Nat.le_refl _)⟩
end Go.Proofs.YtehedodogkhmgaaGreat

/- The walks of LastPay: purse's and the reference's. -/
set_option linter.unusedSimpArgs false
set_option linter.unusedVariables false
namespace Go.Proofs.YtehedodogkhmgaaGreat
open Go.RowKit Go.Shelf

def LastPayPost (w : World) (xs : List Po) (who what : Int) (e : Ending) (w' : World) : Prop :=
  Below w.heap.size w w' ∧ ∃ (q : Po) (is : Bool), (q = if askE xs what who = 0 then (lastL xs who what).getD zPo else zPo) ∧ (is = if askE xs what who = 0 then (lastL xs who what).isSome else false) ∧
    e = .returned (.tuple #[.agg #[.int .i64 q.id, .int .i64 q.hour, .int .u8 q.kind, .int .i64 q.party, .int .i64 q.parcel, .int .i64 q.amount, .int .i64 q.reason, .int .i64 q.known], .bool is, .int .i64 (askE xs what who)])

set_option maxRecDepth 100000 in
set_option maxHeartbeats 4000000 in
theorem rlastPay_any (a : Option Addr) (n cap : Nat) (xs : List Po) (who what : Int) (w : World) (h : Rd Po.vals 8 w a n xs) (hn : n ≤ 1000) (hcap : n ≤ cap) :
    Calls Tryz.prog 49 #[.slice a n cap, .int .i64 who, .int .i64 what] w (LastPayPost w xs who what) := by
  have H := Lib.hid h
  clear h
  have hb0 := (Below.refl w.heap.size w).alloc (Nat.le_refl _) (.cells #[.int .i64 0, .int .i64 0, .int .u8 0, .int .i64 0, .int .i64 0, .int .i64 0, .int .i64 0, .int .i64 0] 63)
  have bx : BoxPo (w.alloc (.cells #[.int .i64 0, .int .i64 0, .int .u8 0, .int .i64 0, .int .i64 0, .int .i64 0, .int .i64 0, .int .i64 0] 63)) w.heap.size zPo := BoxPo.made w zPo 63
  go_enter Tryz.func49, Tryz.ntmps49
  go_wp2_with fail
  refine (rasked_any a n cap xs who what _ (H.out.below' hb0) hn hcap).mono ?_
  rintro e w1 ⟨rfl, hB⟩
  have bx1 := bx.below' hB
  have HB1 := Lib.hid (below_then hb0 hB (Nat.le_refl _))
  have HF1 := Lib.hid hB
  have H1 := Lib.hid ((H.out.below' hb0).below' hB)
  clear bx hB hb0 H
  obtain ⟨ae, hae⟩ : ∃ ae, askE xs what who = ae := ⟨_, rfl⟩
  rw [hae]
  have Hae := Lib.hid hae
  clear hae
  by_cases hc : ae = 0
  case neg =>
    have hc1 : (ae != 0) = true := by simp [hc]
    obtain ⟨y0, y1, y2, y3, y4, y5, y6, y7⟩ := bx1.cells
    obtain ⟨g0, g1, g2, g3, g4, g5, g6, g7⟩ : w1.frozen? ⟨w.heap.size, 0, none⟩ = false ∧ w1.frozen? ⟨w.heap.size, 1, none⟩ = false ∧ w1.frozen? ⟨w.heap.size, 2, none⟩ = false ∧ w1.frozen? ⟨w.heap.size, 3, none⟩ = false ∧ w1.frozen? ⟨w.heap.size, 4, none⟩ = false ∧ w1.frozen? ⟨w.heap.size, 5, none⟩ = false ∧ w1.frozen? ⟨w.heap.size, 6, none⟩ = false ∧ w1.frozen? ⟨w.heap.size, 7, none⟩ = false := ⟨(zeros_later HF1.out 0).2, (zeros_later HF1.out 1).2, (zeros_later HF1.out 2).2, (zeros_later HF1.out 3).2, (zeros_later HF1.out 4).2, (zeros_later HF1.out 5).2, (zeros_later HF1.out 6).2, (zeros_later HF1.out 7).2⟩
    go_wp2_with fail
    have hX : BoxPo ((((((((w1.setCell ⟨w.heap.size, 0, none⟩ (.int .i64 0)).setCell ⟨w.heap.size, 1, none⟩ (.int .i64 0)).setCell ⟨w.heap.size, 2, none⟩ (.int .u8 0)).setCell ⟨w.heap.size, 3, none⟩ (.int .i64 0)).setCell ⟨w.heap.size, 4, none⟩ (.int .i64 0)).setCell ⟨w.heap.size, 5, none⟩ (.int .i64 0)).setCell ⟨w.heap.size, 6, none⟩ (.int .i64 0)).setCell ⟨w.heap.size, 7, none⟩ (.int .i64 0)) w.heap.size zPo := put8_cells bx1 zPo
    obtain ⟨x0, x1, x2, x3, x4, x5, x6, x7⟩ := hX.cells
    have HBW := Lib.hid (show Below w.heap.size w ((((((((w1.setCell ⟨w.heap.size, 0, none⟩ (.int .i64 0)).setCell ⟨w.heap.size, 1, none⟩ (.int .i64 0)).setCell ⟨w.heap.size, 2, none⟩ (.int .u8 0)).setCell ⟨w.heap.size, 3, none⟩ (.int .i64 0)).setCell ⟨w.heap.size, 4, none⟩ (.int .i64 0)).setCell ⟨w.heap.size, 5, none⟩ (.int .i64 0)).setCell ⟨w.heap.size, 6, none⟩ (.int .i64 0)).setCell ⟨w.heap.size, 7, none⟩ (.int .i64 0)) from put8_below HB1.out (Nat.le_refl _) zPo)
    clear hX g0 g1 g2 g3 g4 g5 g6 g7
    generalize ((((((((w1.setCell ⟨w.heap.size, 0, none⟩ (.int .i64 0)).setCell ⟨w.heap.size, 1, none⟩ (.int .i64 0)).setCell ⟨w.heap.size, 2, none⟩ (.int .u8 0)).setCell ⟨w.heap.size, 3, none⟩ (.int .i64 0)).setCell ⟨w.heap.size, 4, none⟩ (.int .i64 0)).setCell ⟨w.heap.size, 5, none⟩ (.int .i64 0)).setCell ⟨w.heap.size, 6, none⟩ (.int .i64 0)).setCell ⟨w.heap.size, 7, none⟩ (.int .i64 0)) = W9 at *
    refine bodyPost_ret (v := .tuple #[.agg #[.int .i64 0, .int .i64 0, .int .u8 0, .int .i64 0, .int .i64 0, .int .i64 0, .int .i64 0, .int .i64 0], .bool false, .int .i64 ae]) (by simp [results, Tryz.results49, go_sem, x0, x1, x2, x3, x4, x5, x6, x7, zPo]) rfl ⟨HBW.out, zPo, false, by rw [Hae.out, if_neg hc], by rw [Hae.out, if_neg hc], by rw [Hae.out]; rfl⟩
  subst hc
  obtain ⟨q, hq⟩ : ∃ q, (lastL xs who what).getD zPo = q := ⟨_, rfl⟩
  obtain ⟨is, his⟩ : ∃ is, (lastL xs who what).isSome = is := ⟨_, rfl⟩
  have Hq := Lib.hid hq
  have His := Lib.hid his
  go_wp2_with fail
  refine (last_any a n cap xs who what _ H1.out hn q is hq his).mono ?_
  rintro e w2 ⟨rfl, hB⟩
  have bx2 := bx1.below' hB
  have hB2 := below_then HF1.out hB (Nat.le_refl _)
  have HB2 := Lib.hid (below_then HB1.out hB (Nat.le_refl _))
  have hba := (Below.refl w2.heap.size w2).alloc (Nat.le_refl _) (.cells #[.int .i64 q.id, .int .i64 q.hour, .int .u8 q.kind, .int .i64 q.party, .int .i64 q.parcel, .int .i64 q.amount, .int .i64 q.reason, .int .i64 q.known] 63)
  have HB3 := Lib.hid (below_then HB2.out hba (Nat.le_refl _))
  have HF3 := Lib.hid (below_then hB2 hba (Nat.le_refl _))
  have bx3 := bx2.below' hba
  have by3 := BoxPo.made w2 q 63
  clear hB hB2 HB2 HF1 hq his bx1 bx2 hba
  go_upto_region 5 with (fail)
  generalize w2.alloc (.cells #[.int .i64 q.id, .int .i64 q.hour, .int .u8 q.kind, .int .i64 q.party, .int .i64 q.parcel, .int .i64 q.amount, .int .i64 q.reason, .int .i64 q.known] 63) = w3 at *
  obtain ⟨y0, y1, y2, y3, y4, y5, y6, y7⟩ := bx3.cells
  obtain ⟨v0, v1, v2, v3, v4, v5, v6, v7⟩ := by3.cells
  obtain ⟨g0, g1, g2, g3, g4, g5, g6, g7⟩ : w3.frozen? ⟨w.heap.size, 0, none⟩ = false ∧ w3.frozen? ⟨w.heap.size, 1, none⟩ = false ∧ w3.frozen? ⟨w.heap.size, 2, none⟩ = false ∧ w3.frozen? ⟨w.heap.size, 3, none⟩ = false ∧ w3.frozen? ⟨w.heap.size, 4, none⟩ = false ∧ w3.frozen? ⟨w.heap.size, 5, none⟩ = false ∧ w3.frozen? ⟨w.heap.size, 6, none⟩ = false ∧ w3.frozen? ⟨w.heap.size, 7, none⟩ = false := ⟨(zeros_later HF3.out 0).2, (zeros_later HF3.out 1).2, (zeros_later HF3.out 2).2, (zeros_later HF3.out 3).2, (zeros_later HF3.out 4).2, (zeros_later HF3.out 5).2, (zeros_later HF3.out 6).2, (zeros_later HF3.out 7).2⟩
  go_wp2_with fail
  have hX : BoxPo ((((((((w3.setCell ⟨w.heap.size, 0, none⟩ (.int .i64 q.id)).setCell ⟨w.heap.size, 1, none⟩ (.int .i64 q.hour)).setCell ⟨w.heap.size, 2, none⟩ (.int .u8 q.kind)).setCell ⟨w.heap.size, 3, none⟩ (.int .i64 q.party)).setCell ⟨w.heap.size, 4, none⟩ (.int .i64 q.parcel)).setCell ⟨w.heap.size, 5, none⟩ (.int .i64 q.amount)).setCell ⟨w.heap.size, 6, none⟩ (.int .i64 q.reason)).setCell ⟨w.heap.size, 7, none⟩ (.int .i64 q.known)) w.heap.size q := put8_cells bx3 q
  obtain ⟨x0, x1, x2, x3, x4, x5, x6, x7⟩ := hX.cells
  have HBW := Lib.hid (show Below w.heap.size w ((((((((w3.setCell ⟨w.heap.size, 0, none⟩ (.int .i64 q.id)).setCell ⟨w.heap.size, 1, none⟩ (.int .i64 q.hour)).setCell ⟨w.heap.size, 2, none⟩ (.int .u8 q.kind)).setCell ⟨w.heap.size, 3, none⟩ (.int .i64 q.party)).setCell ⟨w.heap.size, 4, none⟩ (.int .i64 q.parcel)).setCell ⟨w.heap.size, 5, none⟩ (.int .i64 q.amount)).setCell ⟨w.heap.size, 6, none⟩ (.int .i64 q.reason)).setCell ⟨w.heap.size, 7, none⟩ (.int .i64 q.known)) from put8_below HB3.out (Nat.le_refl _) q)
  clear hX g0 g1 g2 g3 g4 g5 g6 g7
  generalize ((((((((w3.setCell ⟨w.heap.size, 0, none⟩ (.int .i64 q.id)).setCell ⟨w.heap.size, 1, none⟩ (.int .i64 q.hour)).setCell ⟨w.heap.size, 2, none⟩ (.int .u8 q.kind)).setCell ⟨w.heap.size, 3, none⟩ (.int .i64 q.party)).setCell ⟨w.heap.size, 4, none⟩ (.int .i64 q.parcel)).setCell ⟨w.heap.size, 5, none⟩ (.int .i64 q.amount)).setCell ⟨w.heap.size, 6, none⟩ (.int .i64 q.reason)).setCell ⟨w.heap.size, 7, none⟩ (.int .i64 q.known)) = W9 at *
  refine bodyPost_ret (v := .tuple #[.agg #[.int .i64 q.id, .int .i64 q.hour, .int .u8 q.kind, .int .i64 q.party, .int .i64 q.parcel, .int .i64 q.amount, .int .i64 q.reason, .int .i64 q.known], .bool is, .int .i64 0]) (by simp [results, Tryz.results49, go_sem, x0, x1, x2, x3, x4, x5, x6, x7, zPo]) rfl ⟨HBW.out, q, is, by rw [Hae.out, if_pos rfl, Hq.out], by rw [Hae.out, if_pos rfl, His.out], by rw [Hae.out]⟩

set_option maxRecDepth 100000 in
set_option maxHeartbeats 4000000 in
theorem lastPay_any (a : Option Addr) (n cap : Nat) (xs : List Po) (who what : Int) (w : World) (h : Rd Po.vals 8 w a n xs) (hw : ∀ p ∈ xs, p.Wf) (hp1 : I64 who) (hp2 : I64 what) :
    Calls Tryz.prog 48 #[.slice a n cap, .int .i64 who, .int .i64 what] w (LastPayPost w xs who what) := by
  have H := Lib.hid h
  clear h
  have hb0 := (Below.refl w.heap.size w).alloc (Nat.le_refl _) (.cells #[.int .i64 0, .int .i64 0, .int .u8 0, .int .i64 0, .int .i64 0, .int .i64 0, .int .i64 0, .int .i64 0] 63)
  have bx : BoxPo (w.alloc (.cells #[.int .i64 0, .int .i64 0, .int .u8 0, .int .i64 0, .int .i64 0, .int .i64 0, .int .i64 0, .int .i64 0] 63)) w.heap.size zPo := BoxPo.made w zPo 63
  go_enter Tryz.func48, Tryz.ntmps48
  go_wp2_with fail
  refine (asked_any a n cap xs what who _ (H.out.below' hb0) hw).mono ?_
  rintro e w1 ⟨hB, ⟨hc, rfl⟩ | ⟨hc, L, s, rfl, hch, hbk, hL⟩⟩
  case inl =>
    have bx1 := bx.below' hB
    have HB1 := Lib.hid (below_then hb0 hB (Nat.le_refl _))
    have HF1 := Lib.hid hB
    clear bx hB hb0 H
    obtain ⟨ae, hae⟩ : ∃ ae, askE xs what who = ae := ⟨_, rfl⟩
    rw [hae] at hc ⊢
    have Hae := Lib.hid hae
    have hc1 : (ae != 0) = true := by simp [hc]
    clear hae
    obtain ⟨y0, y1, y2, y3, y4, y5, y6, y7⟩ := bx1.cells
    obtain ⟨g0, g1, g2, g3, g4, g5, g6, g7⟩ : w1.frozen? ⟨w.heap.size, 0, none⟩ = false ∧ w1.frozen? ⟨w.heap.size, 1, none⟩ = false ∧ w1.frozen? ⟨w.heap.size, 2, none⟩ = false ∧ w1.frozen? ⟨w.heap.size, 3, none⟩ = false ∧ w1.frozen? ⟨w.heap.size, 4, none⟩ = false ∧ w1.frozen? ⟨w.heap.size, 5, none⟩ = false ∧ w1.frozen? ⟨w.heap.size, 6, none⟩ = false ∧ w1.frozen? ⟨w.heap.size, 7, none⟩ = false := ⟨(zeros_later HF1.out 0).2, (zeros_later HF1.out 1).2, (zeros_later HF1.out 2).2, (zeros_later HF1.out 3).2, (zeros_later HF1.out 4).2, (zeros_later HF1.out 5).2, (zeros_later HF1.out 6).2, (zeros_later HF1.out 7).2⟩
    go_wp2_with fail
    have hX : BoxPo ((((((((w1.setCell ⟨w.heap.size, 0, none⟩ (.int .i64 0)).setCell ⟨w.heap.size, 1, none⟩ (.int .i64 0)).setCell ⟨w.heap.size, 2, none⟩ (.int .u8 0)).setCell ⟨w.heap.size, 3, none⟩ (.int .i64 0)).setCell ⟨w.heap.size, 4, none⟩ (.int .i64 0)).setCell ⟨w.heap.size, 5, none⟩ (.int .i64 0)).setCell ⟨w.heap.size, 6, none⟩ (.int .i64 0)).setCell ⟨w.heap.size, 7, none⟩ (.int .i64 0)) w.heap.size zPo := put8_cells bx1 zPo
    obtain ⟨x0, x1, x2, x3, x4, x5, x6, x7⟩ := hX.cells
    have HBW := Lib.hid (show Below w.heap.size w ((((((((w1.setCell ⟨w.heap.size, 0, none⟩ (.int .i64 0)).setCell ⟨w.heap.size, 1, none⟩ (.int .i64 0)).setCell ⟨w.heap.size, 2, none⟩ (.int .u8 0)).setCell ⟨w.heap.size, 3, none⟩ (.int .i64 0)).setCell ⟨w.heap.size, 4, none⟩ (.int .i64 0)).setCell ⟨w.heap.size, 5, none⟩ (.int .i64 0)).setCell ⟨w.heap.size, 6, none⟩ (.int .i64 0)).setCell ⟨w.heap.size, 7, none⟩ (.int .i64 0)) from put8_below HB1.out (Nat.le_refl _) zPo)
    clear hX g0 g1 g2 g3 g4 g5 g6 g7
    generalize ((((((((w1.setCell ⟨w.heap.size, 0, none⟩ (.int .i64 0)).setCell ⟨w.heap.size, 1, none⟩ (.int .i64 0)).setCell ⟨w.heap.size, 2, none⟩ (.int .u8 0)).setCell ⟨w.heap.size, 3, none⟩ (.int .i64 0)).setCell ⟨w.heap.size, 4, none⟩ (.int .i64 0)).setCell ⟨w.heap.size, 5, none⟩ (.int .i64 0)).setCell ⟨w.heap.size, 6, none⟩ (.int .i64 0)).setCell ⟨w.heap.size, 7, none⟩ (.int .i64 0)) = W9 at *
    refine bodyPost_ret (v := .tuple #[.agg #[.int .i64 0, .int .i64 0, .int .u8 0, .int .i64 0, .int .i64 0, .int .i64 0, .int .i64 0, .int .i64 0], .bool false, .int .i64 ae]) (by simp [results, Tryz.results48, go_sem, x0, x1, x2, x3, x4, x5, x6, x7, zPo]) rfl ⟨HBW.out, zPo, false, by rw [Hae.out, if_neg hc], by rw [Hae.out, if_neg hc], by rw [Hae.out]; rfl⟩
  have Hae := Lib.hid hc
  obtain ⟨q, hq⟩ : ∃ q, (lastL xs who what).getD zPo = q := ⟨_, rfl⟩
  obtain ⟨is, his⟩ : ∃ is, (lastL xs who what).isSome = is := ⟨_, rfl⟩
  have Hq := Lib.hid hq
  have His := Lib.hid his
  have hlk : (Instr.lookup 79 (.map (some L.last)) (.agg #[.int .i64 what, .int .i64 who]) true).run Tryz.prog w1 =
      .ok (.tuple #[.agg #[.int .i64 q.id, .int .i64 q.hour, .int .u8 q.kind, .int .i64 q.party, .int .i64 q.parcel, .int .i64 q.amount, .int .i64 q.reason, .int .i64 q.known], .bool is]) w1 := by
    rw [look_last_ok hch.last hp2 hp1 (q := q) (by unfold getP; rw [hbk.last]; exact hq), hbk.last, his]
  obtain ⟨c0, c1, c2, c3, c4, c5, c6⟩ := hch.cs
  have bx2 := bx.below' hB
  have hba := (Below.refl w1.heap.size w1).alloc (Nat.le_refl _) (.cells #[.int .i64 q.id, .int .i64 q.hour, .int .u8 q.kind, .int .i64 q.party, .int .i64 q.parcel, .int .i64 q.amount, .int .i64 q.reason, .int .i64 q.known] 63)
  have HB3 := Lib.hid (below_then (below_then hb0 hB (Nat.le_refl _)) hba (Nat.le_refl _))
  have HF3 := Lib.hid (below_then hB hba (Nat.le_refl _))
  have bx3 := bx2.below' hba
  have by3 := BoxPo.made w1 q 63
  clear hB hq his bx bx2 hba hb0 H hc hch hbk hL
  go_upto_region 5 with (fail)
  generalize w1.alloc (.cells #[.int .i64 q.id, .int .i64 q.hour, .int .u8 q.kind, .int .i64 q.party, .int .i64 q.parcel, .int .i64 q.amount, .int .i64 q.reason, .int .i64 q.known] 63) = w3 at *
  obtain ⟨y0, y1, y2, y3, y4, y5, y6, y7⟩ := bx3.cells
  obtain ⟨v0, v1, v2, v3, v4, v5, v6, v7⟩ := by3.cells
  obtain ⟨g0, g1, g2, g3, g4, g5, g6, g7⟩ : w3.frozen? ⟨w.heap.size, 0, none⟩ = false ∧ w3.frozen? ⟨w.heap.size, 1, none⟩ = false ∧ w3.frozen? ⟨w.heap.size, 2, none⟩ = false ∧ w3.frozen? ⟨w.heap.size, 3, none⟩ = false ∧ w3.frozen? ⟨w.heap.size, 4, none⟩ = false ∧ w3.frozen? ⟨w.heap.size, 5, none⟩ = false ∧ w3.frozen? ⟨w.heap.size, 6, none⟩ = false ∧ w3.frozen? ⟨w.heap.size, 7, none⟩ = false := ⟨(zeros_later HF3.out 0).2, (zeros_later HF3.out 1).2, (zeros_later HF3.out 2).2, (zeros_later HF3.out 3).2, (zeros_later HF3.out 4).2, (zeros_later HF3.out 5).2, (zeros_later HF3.out 6).2, (zeros_later HF3.out 7).2⟩
  go_wp2_with fail
  have hX : BoxPo ((((((((w3.setCell ⟨w.heap.size, 0, none⟩ (.int .i64 q.id)).setCell ⟨w.heap.size, 1, none⟩ (.int .i64 q.hour)).setCell ⟨w.heap.size, 2, none⟩ (.int .u8 q.kind)).setCell ⟨w.heap.size, 3, none⟩ (.int .i64 q.party)).setCell ⟨w.heap.size, 4, none⟩ (.int .i64 q.parcel)).setCell ⟨w.heap.size, 5, none⟩ (.int .i64 q.amount)).setCell ⟨w.heap.size, 6, none⟩ (.int .i64 q.reason)).setCell ⟨w.heap.size, 7, none⟩ (.int .i64 q.known)) w.heap.size q := put8_cells bx3 q
  obtain ⟨x0, x1, x2, x3, x4, x5, x6, x7⟩ := hX.cells
  have HBW := Lib.hid (show Below w.heap.size w ((((((((w3.setCell ⟨w.heap.size, 0, none⟩ (.int .i64 q.id)).setCell ⟨w.heap.size, 1, none⟩ (.int .i64 q.hour)).setCell ⟨w.heap.size, 2, none⟩ (.int .u8 q.kind)).setCell ⟨w.heap.size, 3, none⟩ (.int .i64 q.party)).setCell ⟨w.heap.size, 4, none⟩ (.int .i64 q.parcel)).setCell ⟨w.heap.size, 5, none⟩ (.int .i64 q.amount)).setCell ⟨w.heap.size, 6, none⟩ (.int .i64 q.reason)).setCell ⟨w.heap.size, 7, none⟩ (.int .i64 q.known)) from put8_below HB3.out (Nat.le_refl _) q)
  clear hX g0 g1 g2 g3 g4 g5 g6 g7
  generalize ((((((((w3.setCell ⟨w.heap.size, 0, none⟩ (.int .i64 q.id)).setCell ⟨w.heap.size, 1, none⟩ (.int .i64 q.hour)).setCell ⟨w.heap.size, 2, none⟩ (.int .u8 q.kind)).setCell ⟨w.heap.size, 3, none⟩ (.int .i64 q.party)).setCell ⟨w.heap.size, 4, none⟩ (.int .i64 q.parcel)).setCell ⟨w.heap.size, 5, none⟩ (.int .i64 q.amount)).setCell ⟨w.heap.size, 6, none⟩ (.int .i64 q.reason)).setCell ⟨w.heap.size, 7, none⟩ (.int .i64 q.known)) = W9 at *
  refine bodyPost_ret (v := .tuple #[.agg #[.int .i64 q.id, .int .i64 q.hour, .int .u8 q.kind, .int .i64 q.party, .int .i64 q.parcel, .int .i64 q.amount, .int .i64 q.reason, .int .i64 q.known], .bool is, .int .i64 0]) (by simp [results, Tryz.results48, go_sem, x0, x1, x2, x3, x4, x5, x6, x7, zPo]) rfl ⟨HBW.out, q, is, by rw [Hae.out, if_pos rfl, Hq.out], by rw [Hae.out, if_pos rfl, His.out], by rw [Hae.out]⟩
end Go.Proofs.YtehedodogkhmgaaGreat

/- The walk of the reference's Balances. -/
set_option linter.unusedSimpArgs false
set_option linter.unusedVariables false
namespace Go.Proofs.YtehedodogkhmgaaGreat
open Go.RowKit Go.Shelf

/-- what a party was paid, and what came back -/
def pbStep (who : Int) (s : Int × Int) (p : Po) : Int × Int := (if p.party = who ∧ p.kind = 2 then s.1 + p.amount else s.1, if p.party = who ∧ p.kind = 3 then s.2 + p.amount else s.2)
def pb (xs : List Po) (who : Int) : Int × Int := xs.foldl (pbStep who) (0, 0)
theorem pb_snoc (xs : List Po) (p : Po) (who : Int) : pb (xs ++ [p]) who = pbStep who (pb xs who) p := by simp [pb]
def rbStep (xs : List Po) (who : Nat) : Option Du := if 0 < (pb xs who).1 then some ⟨who, (pb xs who).1, (pb xs who).2⟩ else none
def rBalL (xs : List Po) : List Du := if (checkL xs).2 = 0 then (List.range 41).filterMap (rbStep xs) else []
theorem foldP_bd (who : Int) : ∀ (xs : List Po) (s : Int × Int) (m : Nat), (∀ p ∈ xs, 0 ≤ p.amount ∧ p.amount ≤ 1000000000) → (0 ≤ s.1 ∧ s.1 ≤ 1000000000 * m ∧ 0 ≤ s.2 ∧ s.2 ≤ 1000000000 * m) →
    0 ≤ (xs.foldl (pbStep who) s).1 ∧ (xs.foldl (pbStep who) s).1 ≤ 1000000000 * ((m + xs.length : Nat) : Int) ∧ 0 ≤ (xs.foldl (pbStep who) s).2 ∧ (xs.foldl (pbStep who) s).2 ≤ 1000000000 * ((m + xs.length : Nat) : Int)
  | [], s, m, _, h => by simpa using h
  | p :: r, s, m, hp, h => by
    have hp1 := hp p (by simp)
    have := foldP_bd who r (pbStep who s p) (m + 1) (fun q hq => hp q (by simp [hq])) (by
      unfold pbStep
      refine ⟨?_, ?_, ?_, ?_⟩ <;> (dsimp only; split <;> omega))
    rw [List.foldl_cons, List.length_cons, show m + (r.length + 1) = m + 1 + r.length by omega]
    exact this
theorem pb_bd {xs : List Po} (h : ∀ p ∈ xs, 0 ≤ p.amount ∧ p.amount ≤ 1000000000) (hl : xs.length ≤ 1000) (who : Int) : 0 ≤ (pb xs who).1 ∧ (pb xs who).1 ≤ 1000000000000 ∧ 0 ≤ (pb xs who).2 ∧ (pb xs who).2 ≤ 1000000000000 := by
  have := foldP_bd who xs (0, 0) 0 h (by simp)
  unfold pb
  omega

/-- a balance lies in block B -/
def BoxD (W : World) (B : Nat) (x : Du) : Prop := W.heap[B]? = some (.cells #[.int .i64 x.party, .int .i64 x.parcel, .int .i64 x.amount] 59 (0, 0))
theorem BoxD.lt {W : World} {B : Nat} {x : Du} (h : BoxD W B x) : B < W.heap.size := (Array.getElem?_eq_some_iff.1 h).1
theorem BoxD.frozen {W : World} {B : Nat} {x : Du} (h : BoxD W B x) (j : Nat) : W.frozen? ⟨B, j, none⟩ = false := frz0 h j
theorem BoxD.same {W W' : World} {B : Nat} {x : Du} (h : BoxD W B x) (e : W'.heap[B]? = W.heap[B]?) : BoxD W' B x := by unfold BoxD; rw [e]; exact h
theorem BoxD.cells {W : World} {B : Nat} {x : Du} (h : BoxD W B x) : W.cell? ⟨B, 0, none⟩ = some (.int .i64 x.party) ∧ W.cell? ⟨B, 1, none⟩ = some (.int .i64 x.parcel) ∧ W.cell? ⟨B, 2, none⟩ = some (.int .i64 x.amount) := by
  refine ⟨?_, ?_, ?_⟩ <;> (rw [cell_of_row _ _ _ _ _ (0, 0) h]; rfl)
theorem BoxD.set1 {W : World} {B : Nat} {x : Du} (h : BoxD W B x) (v : Int) : BoxD (W.setCell ⟨B, 1, none⟩ (.int .i64 v)) B ⟨x.party, v, x.amount⟩ := by
  unfold BoxD at *; simp [World.setCell, Array.getElem?_modify, h]
theorem BoxD.set2 {W : World} {B : Nat} {x : Du} (h : BoxD W B x) (v : Int) : BoxD (W.setCell ⟨B, 2, none⟩ (.int .i64 v)) B ⟨x.party, x.parcel, v⟩ := by
  unfold BoxD at *; simp [World.setCell, Array.getElem?_modify, h]
theorem BoxD.new (w : World) (x : Du) : BoxD (w.alloc (.cells #[.int .i64 x.party, .int .i64 x.parcel, .int .i64 x.amount] 59)) w.heap.size x := heap_alloc_new w _

set_option maxRecDepth 100000 in
set_option maxHeartbeats 8000000 in
theorem rBalances_any (a : Option Addr) (n cap : Nat) (xs : List Po) (w : World) (h : Rd Po.vals 8 w a n xs) (hn : n ≤ 1000) (hcap : n ≤ cap) :
    Calls Tryz.prog 51 #[.slice a n cap] w (RowPost 59 w (rBalL xs)) := by
  have H := Lib.hid h
  have Hl := Lib.hid h.len
  obtain ⟨i0, hi0, hz0, hz1, hz2⟩ := info_parts info_ba
  clear h
  go_enter Tryz.func51, Tryz.ntmps51
  go_wp2_with fail
  go_loopw [3, 4] (fun v i wr => ∃ k : Nat, k ≤ 41 ∧ i = .int .i64 k ∧ (k = 0 ∨ (checkL xs).2 = 0) ∧ wr.ownsRow w.heap.size 59 3 v ((List.range k).filterMap (rbStep xs)).length (((List.range k).filterMap (rbStep xs)).flatMap Du.vals) ∧ Below w.heap.size w wr) (fun _ i _ => 41 - (intOf i).toNat)
  case atStart => exact ⟨0, Nat.zero_le _, rfl, .inl rfl, World.ownsRow_nil _ _ _ _, Below.refl _ _⟩
  case round =>
    obtain ⟨k, hk, rfl, hkb, hrow, hB⟩ := hrel
    have h1 := Lib.hid (H.out.below' hB)
    have HB := Lib.hid hB
    have HR := Lib.hid hrow
    have HK := Lib.hid hkb
    clear hB hrow hkb
    by_cases hlt : k ≤ 40
    · have hlt' : (k : Int) ≤ 40 := by omega
      go_wp2_with fail
      refine (book_any a n cap xs _ h1.out hn hcap).mono ?_
      rintro e w1 ⟨rfl, hB⟩
      have HB1 := Lib.hid (below_then HB.out hB (Nat.le_refl _))
      have HR1 := Lib.hid (own_later HR.out hB)
      clear hB HR HB
      by_cases hc : (checkL xs).2 = 0
      · have hd : decide ((checkL xs).2 = 0) = true := by simp [hc]
        rw [hd]
        have Hc := Lib.hid hc
        have HO := Lib.hid (checkL_okl hc)
        clear hc hd
        obtain ⟨B, hBe⟩ : ∃ B, w1.heap.size = B := ⟨_, rfl⟩
        have bx := BoxD.new w1 ⟨k, 0, 0⟩
        rw [hBe] at bx
        have HB2 := Lib.hid (HB1.out.alloc HB1.out.size (.cells #[.int .i64 k, .int .i64 0, .int .i64 0] 59))
        have HR2 := Lib.hid (HR1.out.alloc (.cells #[.int .i64 k, .int .i64 0, .int .i64 0] 59))
        have HRl := Lib.hid HR1.out.lt
        have HwB := Lib.hid (show w.heap.size ≤ B by rw [← hBe]; exact HB1.out.size)
        have HBe := Lib.hid hBe
        go_upto_region 6 with (fail)
        clear hBe
        try dsimp only at bx
        obtain ⟨W2, hW2⟩ : ∃ W2, w1.alloc (.cells #[.int .i64 k, .int .i64 0, .int .i64 0] 59) = W2 := ⟨_, rfl⟩
        rw [hW2] at bx HB2 HR2 ⊢
        clear hW2
        have HBx := Lib.hid bx
        clear bx
        go_wp2_with fail
        go_loopw [6] (fun j wi => ∃ m : Nat, m ≤ n ∧ j = .int .i64 m ∧ BoxD wi B ⟨k, (pb (xs.take m) k).1, (pb (xs.take m) k).2⟩ ∧ wi.ownsRow w.heap.size 59 3 u3 ((List.range k).filterMap (rbStep xs)).length (((List.range k).filterMap (rbStep xs)).flatMap Du.vals) ∧ Below w.heap.size w wi) (fun j _ => n - (intOf j).toNat)
        case atStart => exact ⟨0, Nat.zero_le _, rfl, HBx.out, HR2.out, HB2.out⟩
        case round =>
          obtain ⟨m, hm, rfl, bx, hrow, hB⟩ := hrel
          have hR := H.out.below' hB
          have HBi := Lib.hid hB
          have HRi := Lib.hid hrow
          have hbd := pb_bd (xs := xs.take m) (fun p hp => by have := HO.out p (List.mem_of_mem_take hp); unfold okPo at this; omega) (by rw [List.length_take]; omega) k
          obtain ⟨⟨pd, bk⟩, hpb⟩ : ∃ s, pb (xs.take m) k = s := ⟨_, rfl⟩
          rw [hpb] at bx hbd
          dsimp only at bx hbd
          have HBx2 := Lib.hid bx
          obtain ⟨c0, c1, c2⟩ := bx.cells
          dsimp only at c0 c1 c2
          have z1 := bx.frozen 1
          have z2 := bx.frozen 2
          have hown : u3.ownBlock ≠ some B := fun e => by have := (HRl.out _ e).2; have := HBe.out; omega
          have Hown := Lib.hid hown
          clear hrow hB bx hown
          by_cases hlt2 : m < n
          · have hlt2' : (m : Int) < (n : Int) := by omega
            obtain ⟨b0, off0, y0, hae, hbw, _⟩ := H.out.po hlt2
            obtain ⟨b, off, x, rfl, hb, hx, x0, x1, x2, x3, x4, x5, x6, x7⟩ := hR.po hlt2
            have hbB : b ≠ B := fun e => by cases hae; have := HwB.out; omega
            have HbB := Lib.hid hbB
            clear hae hbB hbw
            have Hx := Lib.hid hx
            have hxa : 0 ≤ x.amount ∧ x.amount ≤ 1000000000 := by have := HO.out x (List.mem_of_getElem? hx); unfold okPo at this; omega
            have HS := Lib.hid (show pb (xs.take (m + 1)) k = pbStep k (pd, bk) x by rw [take_succ_snoc hx, pb_snoc, hpb])
            clear hx hpb hR
            by_cases q1 : x.party = (k : Int)
            case neg =>
              have e1 : (x.party == (k : Int)) = false := by simp [q1]
              have HE := Lib.hid (show pbStep k (pd, bk) x = (pd, bk) by unfold pbStep; rw [if_neg (fun e => q1 e.1), if_neg (fun e => q1 e.1)])
              clear q1
              go_wp2_with fail
              exact ⟨⟨m + 1, by omega, by go_num, by rw [HS.out, HE.out]; exact HBx2.out, HRi.out, HBi.out⟩, by simp [intOf]; omega⟩
            have e1 : (x.party == (k : Int)) = true := by simp [q1]
            have Q1 := Lib.hid q1
            clear q1
            by_cases q2 : x.kind = 2
            · have e2 : (x.kind == 2) = true := by simp [q2]
              have e3 : (x.kind == 3) = false := by simp [q2]
              have HE := Lib.hid (show pbStep k (pd, bk) x = (pd + x.amount, bk) by unfold pbStep; rw [if_pos ⟨Q1.out, q2⟩, if_neg (fun e => by omega)])
              clear q2
              have hwr : IntKind.i64.wrap (pd + x.amount) = pd + x.amount := IntWalk.i64_in _ (by omega)
              go_upto_region 10 with (fail)
              have hg : wr.grownBy (wr.setCell ⟨B, 1, none⟩ (.int .i64 (pd + x.amount))).drew (some B) := (grownBy_setCell'' wr B 1 _).trans ⟨rfl, rfl, rfl, Nat.le_refl _, fun _ _ _ => rfl⟩
              have w2 : ((wr.setCell ⟨B, 1, none⟩ (.int .i64 (pd + x.amount))).drew).cell? ⟨b, off + m * 8 + 2, none⟩ = some (.int .u8 x.kind) := (hg.cell_far ⟨b, off + m * 8 + 2, none⟩ hb (by simpa using HbB.out)).trans x2
              have w3 : ((wr.setCell ⟨B, 1, none⟩ (.int .i64 (pd + x.amount))).drew).cell? ⟨b, off + m * 8 + 3, none⟩ = some (.int .i64 x.party) := (hg.cell_far ⟨b, off + m * 8 + 3, none⟩ hb (by simpa using HbB.out)).trans x3
              have HBx3 := Lib.hid (show BoxD (wr.setCell ⟨B, 1, none⟩ (.int .i64 (pd + x.amount))).drew B ⟨k, pd + x.amount, bk⟩ from HBx2.out.set1 _)
              have HR3 := Lib.hid (HRi.out.kept hg (.inr Hown.out))
              have HB3 := Lib.hid (HBi.out.grown hg HBi.out.size (fun j e => by cases e; exact HwB.out))
              clear hg
              go_region
              all_goals generalize (wr.setCell ⟨B, 1, none⟩ (.int .i64 (pd + x.amount))).drew = W3 at *
              all_goals go_wp2_with fail
              all_goals exact ⟨⟨m + 1, by omega, by go_num, by rw [HS.out, HE.out]; exact HBx3.out, HR3.out, HB3.out⟩, by simp [intOf]; omega⟩
            have e2 : (x.kind == 2) = false := by simp [q2]
            have Q2 := Lib.hid q2
            clear q2
            by_cases q3 : x.kind = 3
            · have e3 : (x.kind == 3) = true := by simp [q3]
              have HE := Lib.hid (show pbStep k (pd, bk) x = (pd, bk + x.amount) by unfold pbStep; rw [if_neg (fun e => Q2.out e.2), if_pos ⟨Q1.out, q3⟩])
              clear q3
              have hwr : IntKind.i64.wrap (bk + x.amount) = bk + x.amount := IntWalk.i64_in _ (by omega)
              go_upto_region 12 with (fail)
              have hg : wr.grownBy (wr.setCell ⟨B, 2, none⟩ (.int .i64 (bk + x.amount))).drew (some B) := (grownBy_setCell'' wr B 2 _).trans ⟨rfl, rfl, rfl, Nat.le_refl _, fun _ _ _ => rfl⟩
              have w2 : ((wr.setCell ⟨B, 2, none⟩ (.int .i64 (bk + x.amount))).drew).cell? ⟨b, off + m * 8 + 2, none⟩ = some (.int .u8 x.kind) := (hg.cell_far ⟨b, off + m * 8 + 2, none⟩ hb (by simpa using HbB.out)).trans x2
              have w3 : ((wr.setCell ⟨B, 2, none⟩ (.int .i64 (bk + x.amount))).drew).cell? ⟨b, off + m * 8 + 3, none⟩ = some (.int .i64 x.party) := (hg.cell_far ⟨b, off + m * 8 + 3, none⟩ hb (by simpa using HbB.out)).trans x3
              have HBx3 := Lib.hid (show BoxD (wr.setCell ⟨B, 2, none⟩ (.int .i64 (bk + x.amount))).drew B ⟨k, pd, bk + x.amount⟩ from HBx2.out.set2 _)
              have HR3 := Lib.hid (HRi.out.kept hg (.inr Hown.out))
              have HB3 := Lib.hid (HBi.out.grown hg HBi.out.size (fun j e => by cases e; exact HwB.out))
              clear hg
              go_region
              all_goals generalize (wr.setCell ⟨B, 2, none⟩ (.int .i64 (bk + x.amount))).drew = W3 at *
              all_goals go_wp2_with fail
              all_goals exact ⟨⟨m + 1, by omega, by go_num, by rw [HS.out, HE.out]; exact HBx3.out, HR3.out, HB3.out⟩, by simp [intOf]; omega⟩
            have e3 : (x.kind == 3) = false := by simp [q3]
            have HE := Lib.hid (show pbStep k (pd, bk) x = (pd, bk) by unfold pbStep; rw [if_neg (fun e => Q2.out e.2), if_neg (fun e => q3 e.2)])
            clear q3
            go_wp2_with fail
            exact ⟨⟨m + 1, by omega, by go_num, by rw [HS.out, HE.out]; exact HBx2.out, HRi.out, HBi.out⟩, by simp [intOf]; omega⟩
          · have hlt2' : ¬ (m : Int) < (n : Int) := by omega
            have hpx : pb xs k = (pd, bk) := by rw [← hpb, List.take_of_length_le (by rw [Hl.out]; omega)]
            have Hpx := Lib.hid hpx
            clear hpb hpx
            have hml : ((List.range k).filterMap (rbStep xs)).length ≤ 41 := Nat.le_trans (fm_range_len _ _) (by omega)
            have Hgo := Lib.hid HBi.out.size
            by_cases hp : 0 < pd
            · have HS := Lib.hid (show (List.range (k + 1)).filterMap (rbStep xs) = (List.range k).filterMap (rbStep xs) ++ [⟨k, pd, bk⟩] from fm_range_some (by unfold rbStep; rw [Hpx.out, if_pos hp]))
              go_wp2_with (at_builtin; refine wpList_append_own _ rfl _ _ 56 rfl w.heap.size 59 i0 _ 3 24 Tryz.underlying56 hi0 hz0 hz1 hz2 rfl (by decide) _ _ _ rfl (HRi.out.alloc _) ⟨wr.heap.size, 0, none⟩ 1 1 (Du.vals ⟨k, pd, bk⟩) rfl rfl (World.news_of_block (cs := #[.int .i64 k, .int .i64 pd, .int .i64 bk]) (t := 59) (fr := (0, 0)) (heap_alloc_new wr _)) (by simp [Du.vals, Value.oneCell']) (by unfold maxLen; omega) (by omega) (Nat.le_trans HBi.out.size (by simp)) ?_; intro v2 w3 hown2 hgrow2 _)
              have HB3 := Lib.hid ((HBi.out.alloc HBi.out.size (.cells #[.int .i64 k, .int .i64 pd, .int .i64 bk] 59)).grown hgrow2 (Nat.le_trans HBi.out.size (by simp)) (fun k e => (HRi.out.lt k e).1))
              have HO2 := Lib.hid hown2
              clear hgrow2 hown2
              go_wp2_with fail
              refine ⟨⟨k + 1, by omega, by go_num, .inr Hc.out, ?_, HB3.out⟩, by simp [intOf]; omega⟩
              rw [HS.out, List.length_append, List.flatMap_append]
              simpa using HO2.out
            · have HS := Lib.hid (show (List.range (k + 1)).filterMap (rbStep xs) = (List.range k).filterMap (rbStep xs) from fm_range_none (by unfold rbStep; rw [Hpx.out, if_neg hp]))
              go_wp2_with fail
              refine ⟨⟨k + 1, by omega, by go_num, .inr Hc.out, ?_, HBi.out⟩, by simp [intOf]; omega⟩
              rw [HS.out]
              exact HRi.out
      · have hd : decide ((checkL xs).2 = 0) = false := by simp [hc]
        rw [hd]
        have hk0 : k = 0 := HK.out.resolve_right hc
        have hL : rBalL xs = (List.range k).filterMap (rbStep xs) := by unfold rBalL; rw [if_neg hc, hk0]; simp
        have HL := Lib.hid hL
        clear hc hd hk0 hL
        go_wp2_with fail
        go_ret
        exact ⟨_, rfl, by rw [HL.out]; exact HR1.out, HB1.out⟩
    · have hlt' : ¬ (k : Int) ≤ 40 := by omega
      have hL : rBalL xs = (List.range k).filterMap (rbStep xs) := by
        unfold rBalL
        rw [if_pos (HK.out.resolve_left (by omega)), show k = 41 by omega]
      have HL := Lib.hid hL
      clear hL
      go_wp2_with fail
      go_ret
      exact ⟨_, rfl, by rw [HL.out]; exact HR.out, HB.out⟩
end Go.Proofs.YtehedodogkhmgaaGreat
