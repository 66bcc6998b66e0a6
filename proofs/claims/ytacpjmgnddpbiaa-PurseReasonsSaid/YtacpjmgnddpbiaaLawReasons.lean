/- PurseReasons returns true: each clawback has a reason that is known later than the last payment before it, and takes no more than the party had. -/
import Derived.Test.YtacpjmgnddpbiaaLawHours
import Derived.Test.YtacpjmgnddpbiaaLast
set_option linter.unusedSimpArgs false
set_option linter.unusedVariables false
namespace Go.Proofs.Ytacpjmgnddpbiaa
open Go.RowKit Go.Shelf

theorem drop_mid {α : Type} {xs : List α} {k : Nat} {x : α} (h : xs[k]? = some x) : xs = xs.take k ++ x :: xs.drop (k + 1) := by
  have h1 : k < xs.length := (List.getElem?_eq_some_iff.1 h).1
  have h2 : xs[k] = x := (List.getElem?_eq_some_iff.1 h).2
  rw [← h2, ← List.drop_eq_getElem_cons h1, List.take_append_drop]
theorem refused_at_aux : ∀ (pre0 pre r : List Po) (p : Po), (checkAux pre0 (pre ++ p :: r)).2 = 0 → refusedL (pre0 ++ pre) p = 0
  | pre0, [], r, p, h => by
    by_cases h1 : refusedL pre0 p = 0
    · simpa using h1
    · rw [List.nil_append, checkAux_stop h1] at h
      exact absurd h h1
  | pre0, q :: pre, r, p, h => by
    by_cases h1 : refusedL pre0 q = 0
    · rw [List.cons_append, checkAux_go h1] at h
      have := refused_at_aux (pre0 ++ [q]) pre r p h
      simpa using this
    · rw [List.cons_append, checkAux_stop h1] at h
      exact absurd h h1
theorem refused_at {xs : List Po} {k : Nat} {p : Po} (h : (checkL xs).2 = 0) (hk : xs[k]? = some p) : refusedL (xs.take k) p = 0 := by
  rw [drop_mid hk] at h
  have := refused_at_aux [] _ _ p h
  simpa using this
theorem last_none (who what : Int) : ∀ (ys : List Po) (n : Int) (o : Option Po), (∀ p ∈ ys, 0 ≤ p.amount) → ys.foldl (lastStep who what) o = none → o = none ∧ ys.foldl (hasStep who what) n ≤ n
  | [], n, o, _, h => ⟨h, Int.le_refl _⟩
  | p :: r, n, o, ha, h => by
    rw [List.foldl_cons] at h ⊢
    obtain ⟨h1, h2⟩ := last_none who what r (hasStep who what n p) (lastStep who what o p) (fun q hq => ha q (by simp [hq])) h
    have h3 := ha p (by simp)
    unfold lastStep at h1
    by_cases hc : p.kind = 2 ∧ p.party = who ∧ p.parcel = what
    · rw [if_pos hc] at h1; cases h1
    · rw [if_neg hc] at h1
      refine ⟨h1, Int.le_trans h2 ?_⟩
      unfold hasStep
      split
      · rename_i h4
        rw [if_neg (fun e => hc ⟨e, h4⟩)]
        split <;> omega
      · omega
/-- a clawback of a book -/
theorem clawback {xs : List Po} {k : Nat} {q : Po} (h : (checkL xs).2 = 0) (hk : xs[k]? = some q) (h3 : q.kind = 3) :
    askE (xs.take k) q.parcel q.party = 0 ∧ ∃ x, lastL (xs.take k) q.party q.parcel = some x ∧ ¬ q.known ≤ x.known ∧ ¬ hasL (xs.take k) q.party q.parcel < q.amount := by
  have hr := refused_at h hk
  have hok := refusedL_ok hr
  have hb := book_take h k
  have hol := checkL_okl hb
  generalize xs.take k = ys at *
  have hr3 : refused3 ys q = 0 := by
    unfold refusedL at hr
    repeat' split at hr
    all_goals first | exact hr | omega
  unfold okPo at hok
  refine ⟨?_, ?_⟩
  · unfold askE
    rw [if_pos hb, if_pos (show okAsk q.parcel q.party from ⟨by omega, by omega⟩)]
  unfold refused3 at hr3
  rw [if_neg (by omega)] at hr3
  split at hr3
  · omega
  rw [if_neg (by omega)] at hr3
  split at hr3
  · omega
  split at hr3
  · omega
  rename_i h4 h5
  cases hl : lastL ys q.party q.parcel with
  | none =>
    have := (last_none q.party q.parcel ys 0 none (fun p hp => by have := hol p hp; unfold okPo at this; omega) hl).2
    have h6 : hasL ys q.party q.parcel ≤ 0 := this
    omega
  | some x => rw [hl] at h5; exact ⟨x, rfl, h5, h4⟩

theorem zeros_later {W W' : World} {vs : Array Value} {T : TypeId} (hB : Below (W.alloc (.cells vs T)).heap.size (W.alloc (.cells vs T)) W') (j : Nat) :
    W'.cell? ⟨W.heap.size, j, none⟩ = vs[j]? ∧ W'.frozen? ⟨W.heap.size, j, none⟩ = false := by
  have hl : W.heap.size < (W.alloc (.cells vs T)).heap.size := by simp
  exact ⟨(hB.cell (p := ⟨W.heap.size, j, none⟩) hl).trans (cell_of_row _ _ _ _ _ (0, 0) (heap_alloc_new W _)), (hB.frozen (p := ⟨W.heap.size, j, none⟩) hl).trans (frz0 (heap_alloc_new W _) j)⟩
theorem Below.drew_out {B : Nat} {w w' : World} (h : Below B w.drew w') : Below B w w' := (below_drewN (Below.refl B w) 1).trans h
theorem Below.dr {B : Nat} {w w' : World} (h : Below B w w') : Below B w w'.drew := below_drewN h 1
theorem zeros8 {W W' : World} {T : TypeId} (hB : Below (W.alloc (.cells #[.int .i64 0, .int .i64 0, .int .u8 0, .int .i64 0, .int .i64 0, .int .i64 0, .int .i64 0, .int .i64 0] T)).drew.heap.size (W.alloc (.cells #[.int .i64 0, .int .i64 0, .int .u8 0, .int .i64 0, .int .i64 0, .int .i64 0, .int .i64 0, .int .i64 0] T)).drew W') :
    W'.cell? ⟨W.heap.size, 0, none⟩ = some (.int .i64 0) ∧ W'.cell? ⟨W.heap.size, 1, none⟩ = some (.int .i64 0) ∧ W'.cell? ⟨W.heap.size, 2, none⟩ = some (.int .u8 0) ∧ W'.cell? ⟨W.heap.size, 3, none⟩ = some (.int .i64 0) ∧ W'.cell? ⟨W.heap.size, 4, none⟩ = some (.int .i64 0) ∧ W'.cell? ⟨W.heap.size, 5, none⟩ = some (.int .i64 0) ∧ W'.cell? ⟨W.heap.size, 6, none⟩ = some (.int .i64 0) ∧ W'.cell? ⟨W.heap.size, 7, none⟩ = some (.int .i64 0) ∧ W'.frozen? ⟨W.heap.size, 0, none⟩ = false ∧ W'.frozen? ⟨W.heap.size, 1, none⟩ = false ∧ W'.frozen? ⟨W.heap.size, 2, none⟩ = false ∧ W'.frozen? ⟨W.heap.size, 3, none⟩ = false ∧ W'.frozen? ⟨W.heap.size, 4, none⟩ = false ∧ W'.frozen? ⟨W.heap.size, 5, none⟩ = false ∧ W'.frozen? ⟨W.heap.size, 6, none⟩ = false ∧ W'.frozen? ⟨W.heap.size, 7, none⟩ = false ∧ W.heap.size < W'.heap.size := by
  have hB' := Below.drew_out hB
  have h := fun j => (zeros_later hB' j).1
  have h' := fun j => (zeros_later hB' j).2
  exact ⟨h 0, h 1, h 2, h 3, h 4, h 5, h 6, h 7, h' 0, h' 1, h' 2, h' 3, h' 4, h' 5, h' 6, h' 7, Nat.lt_of_lt_of_le (show W.heap.size < (W.alloc _).heap.size by simp) hB.size⟩
theorem zbox {W W' : World} {T : TypeId} (hB : Below (W.alloc (.cells #[.int .i64 0, .int .i64 0, .int .u8 0, .int .i64 0, .int .i64 0, .int .i64 0, .int .i64 0, .int .i64 0] T)).drew.heap.size (W.alloc (.cells #[.int .i64 0, .int .i64 0, .int .u8 0, .int .i64 0, .int .i64 0, .int .i64 0, .int .i64 0, .int .i64 0] T)).drew W') : BoxPo W' W.heap.size zPo := ((BoxPo.made W zPo T).drewN 1).below' hB
theorem bl0 (w : World) : Below w.heap.size w w.drew := Below.dr (Below.refl _ _)
theorem bl1 (w : World) (o : Obj) : Below w.heap.size w (w.alloc o).drew := Below.dr (Below.alloc (Below.refl _ w) (Nat.le_refl _) o)
theorem bl3 {w w' : World} (h : Below w.heap.size w w') (o : Obj) : Below w.heap.size w (w'.alloc o) := Below.alloc h h.size o
theorem below8 {w w' : World} (h : Below w.heap.size w w') (p : Po) : Below w.heap.size w ((((((((w'.setCell ⟨w.heap.size, 0, none⟩ (.int .i64 p.id)).setCell ⟨w.heap.size, 1, none⟩ (.int .i64 p.hour)).setCell ⟨w.heap.size, 2, none⟩ (.int .u8 p.kind)).setCell ⟨w.heap.size, 3, none⟩ (.int .i64 p.party)).setCell ⟨w.heap.size, 4, none⟩ (.int .i64 p.parcel)).setCell ⟨w.heap.size, 5, none⟩ (.int .i64 p.amount)).setCell ⟨w.heap.size, 6, none⟩ (.int .i64 p.reason)).setCell ⟨w.heap.size, 7, none⟩ (.int .i64 p.known)) := put8_below h (Nat.le_refl _) p
theorem keep2 {W W' : World} {a a' : Addr} {u v : Value} (h : W.cell? a = some u ∧ W.cell? a' = some v) (hB : Below W.heap.size W W') : W'.cell? a = some u ∧ W'.cell? a' = some v := ⟨cell_keep h.1 hB, cell_keep h.2 hB⟩
theorem lastPay_some (a : Option Addr) (n cap : Nat) (xs : List Po) (party parcel : Int) (w : World) (h : Rd Po.vals 8 w a n xs) (hw : ∀ p ∈ xs, p.Wf) (hp1 : I64 party) (hp2 : I64 parcel) (ha : askE xs parcel party = 0) (x : Po) (hx : lastL xs party parcel = some x) :
    Calls Try.prog 23 #[.slice a n cap, .int .i64 party, .int .i64 parcel] w fun e w' => Below w.heap.size w w' ∧ e = .returned (.tuple #[.agg #[.int .i64 x.id, .int .i64 x.hour, .int .u8 x.kind, .int .i64 x.party, .int .i64 x.parcel, .int .i64 x.amount, .int .i64 x.reason, .int .i64 x.known], .bool true, .int .i64 0]) := by
  refine (lastPay_all a n cap xs party parcel w h hw hp1 hp2).mono ?_
  rintro e w' ⟨hB, rfl⟩
  exact ⟨hB, by rw [if_pos ha, if_pos ha, ha, hx]; rfl⟩
theorem has_some (a : Option Addr) (n cap : Nat) (xs : List Po) (party parcel : Int) (w : World) (h : Rd Po.vals 8 w a n xs) (hw : ∀ p ∈ xs, p.Wf) (hp1 : I64 party) (hp2 : I64 parcel) (ha : askE xs parcel party = 0) (m : Int) (hm : hasL xs party parcel = m) :
    Calls Try.prog 24 #[.slice a n cap, .int .i64 party, .int .i64 parcel] w fun e w' => Below w.heap.size w w' ∧ e = .returned (.tuple #[.int .i64 m, .int .i64 0]) := by
  refine (has_all a n cap xs party parcel w h hw hp1 hp2).mono ?_
  rintro e w' ⟨hB, rfl⟩
  exact ⟨hB, by rw [if_pos ha, ha, hm]⟩

set_option maxRecDepth 100000 in
set_option maxHeartbeats 8000000 in
theorem law_reasons (a : Option Addr) (n cap : Nat) (xs : List Po) (w : World) (h : Rd Po.vals 8 w a n xs) (hw : ∀ p ∈ xs, p.Wf) (hcap : n ≤ cap) (_ : a = none → cap = 0) :
    Calls Try.prog 8 #[.slice a n cap] w fun e w' => e = .returned (.bool true) ∧ Below w.heap.size w w' := by
  have Hl := Lib.hid h.len
  have Hw := Lib.hid hw
  have H := Lib.hid h
  have hm := h.cap
  unfold maxLen at hm
  clear h hw
  go_enter Try.func8, Try.ntmps8
  by_cases hn : 24 < n
  · have hn' : (24 : Int) < (n : Int) := by omega
    go_wp2_with fail
    refine (purses_any _).mono ?_
    rintro e w1 ⟨rfl, hB⟩
    have HB := Lib.hid hB
    clear hB
    go_wp2_with fail
    go_ret
    exact ⟨rfl, HB.out⟩
  have hn' : ¬ (24 : Int) < (n : Int) := by omega
  go_wp2_with fail
  refine (right_any a n cap xs _ H.out Hw.out).mono ?_
  rintro e w1 ⟨rfl, hB⟩
  have HB := Lib.hid hB
  have H1 := Lib.hid (H.out.below' hB)
  clear hB
  by_cases hc : (checkL xs).2 = 0
  case neg =>
    have hd : decide ((checkL xs).2 = 0) = false := by simp [hc]
    rw [hd]
    clear hc hd
    go_wp2_with fail
    refine (purses_any _).mono ?_
    rintro e w2 ⟨rfl, hB⟩
    have HB2 := Lib.hid (below_then HB.out hB (Nat.le_refl _))
    clear hB
    go_wp2_with fail
    go_ret
    exact ⟨rfl, HB2.out⟩
  have hd : decide ((checkL xs).2 = 0) = true := by simp [hc]
  rw [hd]
  have Hc := Lib.hid hc
  clear hc hd
  go_wp2_with fail
  go_loopw [3] (fun i wr => ∃ k : Nat, k ≤ n ∧ i = .int .i64 k ∧ Below w1.heap.size w1 wr) (fun i _ => n - (intOf i).toNat)
  case atStart => exact ⟨0, Nat.zero_le _, rfl, Below.refl _ _⟩
  case round =>
    obtain ⟨k, hk, rfl, hB⟩ := hrel
    have HBr := Lib.hid (below_then HB.out hB (Nat.le_refl _))
    have H4 := Lib.hid (H1.out.below' hB)
    have HBk := Lib.hid hB
    clear hB
    by_cases hlt : k < n
    case neg =>
      have hlt' : ¬ (k : Int) < (n : Int) := by omega
      go_wp2_with fail
      refine (purses_any _).mono ?_
      rintro e w2 ⟨rfl, hB⟩
      have HB2 := Lib.hid (below_then HBr.out hB (Nat.le_refl _))
      clear hB
      go_wp2_with fail
      go_ret
      exact ⟨rfl, HB2.out⟩
    have hlt' : (k : Int) < (n : Int) := by omega
    obtain ⟨b, off, q, rfl, hb, hx, x0, x1, x2, x3, x4, x5, x6, x7⟩ := H4.out.po hlt
    by_cases hq : q.kind = 3
    case neg =>
      have hq' : (q.kind != 3) = true := by simp [hq]
      clear hx
      go_wp2_with fail
      exact ⟨⟨k + 1, by omega, by go_num, HBk.out⟩, by simp [intOf]; omega⟩
    have hq' : (q.kind != 3) = false := by simp [hq]
    obtain ⟨hask, x, hlast, hkn, hhas⟩ := clawback Hc.out hx hq
    have hqw := Hw.out q (List.mem_of_getElem? hx)
    obtain ⟨m, hm2⟩ : ∃ m, hasL (xs.take k) q.party q.parcel = m := ⟨_, rfl⟩
    have hcl : ∀ W, Below wr.heap.size wr W → _ := fun W hB => lastPay_some (some ⟨b, off, none⟩) k k (xs.take k) q.party q.parcel W ((H4.out.below' hB).take hk) (fun p hp => Hw.out p (List.mem_of_mem_take hp)) hqw.party hqw.parcel hask x hlast
    have hch : ∀ W, Below wr.heap.size wr W → _ := fun W hB => has_some (some ⟨b, off, none⟩) k k (xs.take k) q.party q.parcel W ((H4.out.below' hB).take hk) (fun p hp => Hw.out p (List.mem_of_mem_take hp)) hqw.party hqw.parcel hask m hm2
    have HCL := Lib.hid hcl
    have HCH := Lib.hid hch
    have HKN := Lib.hid hkn
    have HHAS := Lib.hid (show ¬ m < q.amount by rw [← hm2]; exact hhas)
    clear hcl hch hkn hhas hx hask hlast hm2 hqw
    have hk0 : (0 : Int) ≤ (k : Int) := by omega
    have hkc : (k : Int) ≤ (cap : Int) := by omega
    have hkc' : k ≤ cap := by omega
    go_upto_region 7 with (fail)
    go_region_held3 (fun w' => w'.cell? ⟨b, off + k * 8 + 3, none⟩ = some (.int .i64 q.party) ∧ w'.cell? ⟨b, off + k * 8 + 4, none⟩ = some (.int .i64 q.parcel))
      ((refine keep2 ⟨x3, x4⟩ ?_; first | with_reducible apply bl0 | with_reducible apply bl1 | with_reducible apply HB3.out | with_reducible apply bl3 HB3.out | with_reducible apply below8 HB3.out))
      (first
        | (go_at_call 23; with_reducible refine (HCL.out _ (Below.dr (Below.refl _ _))).mono ?_; rintro e w3 ⟨hB3, rfl⟩; have HB3 := Lib.hid (below_then (Below.dr (Below.refl wr.heap.size wr)) hB3 (Nat.le_refl _)); clear hB3)
        | (go_at_call 23; with_reducible refine (HCL.out _ (Below.dr (Below.alloc (Below.refl _ _) (Nat.le_refl _) _))).mono ?_; rintro e w3 ⟨hB3, rfl⟩; have HB3 := Lib.hid (below_then (Below.dr (Below.alloc (Below.refl wr.heap.size wr) (Nat.le_refl _) _)) hB3 (Nat.le_refl _)); obtain ⟨z0, z1, z2, z3, z4, z5, z6, z7, y0, y1, y2, y3, y4, y5, y6, y7, zl⟩ := zeros8 hB3; have HZ3 := Lib.hid (zbox hB3); clear hB3))
    all_goals first
      | (have hX : BoxPo ((((((((w3.setCell ⟨wr.heap.size, 0, none⟩ (.int .i64 x.id)).setCell ⟨wr.heap.size, 1, none⟩ (.int .i64 x.hour)).setCell ⟨wr.heap.size, 2, none⟩ (.int .u8 x.kind)).setCell ⟨wr.heap.size, 3, none⟩ (.int .i64 x.party)).setCell ⟨wr.heap.size, 4, none⟩ (.int .i64 x.parcel)).setCell ⟨wr.heap.size, 5, none⟩ (.int .i64 x.amount)).setCell ⟨wr.heap.size, 6, none⟩ (.int .i64 x.reason)).setCell ⟨wr.heap.size, 7, none⟩ (.int .i64 x.known)) wr.heap.size x := put8_cells HZ3.out x; have hW := below8 HB3.out x; generalize ((((((((w3.setCell ⟨wr.heap.size, 0, none⟩ (.int .i64 x.id)).setCell ⟨wr.heap.size, 1, none⟩ (.int .i64 x.hour)).setCell ⟨wr.heap.size, 2, none⟩ (.int .u8 x.kind)).setCell ⟨wr.heap.size, 3, none⟩ (.int .i64 x.party)).setCell ⟨wr.heap.size, 4, none⟩ (.int .i64 x.parcel)).setCell ⟨wr.heap.size, 5, none⟩ (.int .i64 x.amount)).setCell ⟨wr.heap.size, 6, none⟩ (.int .i64 x.reason)).setCell ⟨wr.heap.size, 7, none⟩ (.int .i64 x.known)) = W at *)
      | (have hX := BoxPo.made w3 x 24; have hW := bl3 HB3.out (.cells #[.int .i64 x.id, .int .i64 x.hour, .int .u8 x.kind, .int .i64 x.party, .int .i64 x.parcel, .int .i64 x.amount, .int .i64 x.reason, .int .i64 x.known] 24); generalize w3.alloc (.cells #[.int .i64 x.id, .int .i64 x.hour, .int .u8 x.kind, .int .i64 x.party, .int .i64 x.parcel, .int .i64 x.amount, .int .i64 x.reason, .int .i64 x.known] 24) = W at *)
    all_goals
      have c3 := cell_keep x3 hW
      have c4 := cell_keep x4 hW
      have cb : b < W.heap.size := Nat.lt_of_lt_of_le hb hW.size
      have HX := Lib.hid hX
      have HW := Lib.hid hW
      clear hX hW
      go_upto_region 8 with (fail)
      go_region_held3 (fun w' => w'.cell? ⟨b, off + k * 8 + 3, none⟩ = some (.int .i64 q.party) ∧ w'.cell? ⟨b, off + k * 8 + 4, none⟩ = some (.int .i64 q.parcel))
        ((refine keep2 ⟨c3, c4⟩ ?_; first | with_reducible apply bl0 | with_reducible apply HB4.out))
        (first
          | (go_at_call 24; refine (HCH.out _ (Below.dr HW.out)).mono ?_; rintro e w4 ⟨hB4, rfl⟩; have HB4 := Lib.hid (below_then (bl0 W) hB4 (Nat.le_refl _)); clear hB4))
    all_goals
      have HBr2 := Lib.hid (below_then HBk.out (below_then HW.out HB4.out (Nat.le_refl _)) (Nat.le_refl _))
      obtain ⟨v0, v1, v2, v3, v4, v5, v6, v7⟩ := (HX.out.below' HB4.out).cells
      have vl := (HX.out.below' HB4.out).1
      have c5 := cell_keep (cell_keep x5 HW.out) HB4.out
      have c7 := cell_keep (cell_keep x7 HW.out) HB4.out
      have cb2 : b < w4.heap.size := Nat.lt_of_lt_of_le cb HB4.out.size
      have n1 := HKN.out
      have n2 := HHAS.out
      have n3 : ¬ q.known ≤ x.known := by omega
      clear x0 x1 x2 x3 x4 x5 x6 x7 c3 c4
      go_wp2_with fail
      go_quiet (fail)
      go_wp2_with fail
      exact ⟨⟨k + 1, by omega, by go_num, below_drewN HBr2.out _⟩, by simp [intOf]; omega⟩
end Go.Proofs.Ytacpjmgnddpbiaa
