/- PurseMost returns true: a book of sales has at most 400 postings. -/
import Derived.Test.YtacpjmgnddpbiaaRefAppend
set_option linter.unusedSimpArgs false
set_option linter.unusedVariables false
namespace Go.Proofs.Ytacpjmgnddpbiaa
open Go.RowKit Go.Shelf

def mostP (i : Nat) : Po := ⟨(i : Int) + 1, i, 1, 0, 10 * ((i : Int) + 1), 1 + (i : Int), 1, 0⟩
def mostL (n : Nat) : List Po := (List.range n).map mostP
theorem mostL_succ (n : Nat) : mostL (n + 1) = mostL n ++ [mostP n] := by simp [mostL, List.range_succ]
theorem mostL_length (n : Nat) : (mostL n).length = n := by simp [mostL]
theorem mostP_ok {i : Nat} (h : i < 10000) : okPo (mostP i) := by unfold okPo mostP; dsimp only; omega
theorem mostL_id (n : Nat) : noId (mostL n) ((n : Int) + 1) := by
  intro q hq
  obtain ⟨i, hi, rfl⟩ := List.mem_map.1 hq
  have := List.mem_range.1 hi
  unfold mostP; dsimp only; omega
theorem mostL_sold : ∀ (n : Nat) (what : Int), 10 * (n : Int) < what → soldL (mostL n) what = 0
  | 0, _, _ => rfl
  | n + 1, what, h => by
    rw [mostL_succ, soldL_snoc, mostL_sold n what (by push_cast at h; omega)]
    unfold soldStep mostP
    rw [if_neg (by push_cast at h; dsimp only; omega)]
theorem mostL_hour : ∀ (n : Nat), lastHour (mostL n) ≤ n
  | 0 => by simp [mostL, lastHour]
  | n + 1 => by
    rw [mostL_succ, lastHour_at (q := mostP n) (n := n) (by simp [mostL_length]) (by simp [mostL])]
    show (n : Int) ≤ ((n + 1 : Nat) : Int)
    omega
theorem mostL_take {n : Nat} (h : n < 400) : refusedL (mostL n) (mostP n) = 0 := by
  rw [refusedL_else (by rw [mostL_length]; omega) (mostP_ok (by omega)) (mostL_id n) (fun hh => by have := mostL_hour n; have := hh.2; unfold mostP at this; dsimp only at this; omega)]
  exact refused3_1b rfl (by rw [mostL_sold n _ (by unfold mostP; dsimp only; omega)]; omega)
theorem mostL_check : ∀ (k n : Nat), k ≤ n → k ≤ 400 → checkL (mostL n) = checkAux (mostL k) ((mostL n).drop k)
  | 0, n, _, _ => rfl
  | k + 1, n, h, h4 => by
    rw [mostL_check k n (by omega) (by omega)]
    have hl : k < (mostL n).length := by rw [mostL_length]; omega
    rw [List.drop_eq_getElem_cons hl, show (mostL n)[k] = mostP k by simp [mostL], checkAux_go (mostL_take (by omega)), ← mostL_succ]
theorem mostL_good {n : Nat} (h : n ≤ 400) : checkL (mostL n) = (0, 0) := by
  rw [mostL_check n n (Nat.le_refl _) h, List.drop_of_length_le (by rw [mostL_length]; omega)]; rfl
theorem mostL_bad {n : Nat} (h : 400 < n) : checkL (mostL n) = (400, 2) := by
  rw [mostL_check 400 n (by omega) (Nat.le_refl _)]
  have hl : 400 < (mostL n).length := by rw [mostL_length]; omega
  have hr : refusedL (mostL 400) (mostL n)[400] = 2 := by unfold refusedL; rw [if_pos (by rw [mostL_length]; omega)]
  rw [List.drop_eq_getElem_cons hl, checkAux_stop (by rw [hr]; omega), hr, mostL_length]
theorem mostL_tot : ∀ n : Nat, 2 * totL (mostL n) = (n : Int) * ((n : Int) + 1)
  | 0 => rfl
  | n + 1 => by
    rw [mostL_succ, totL_snoc]
    have h := mostL_tot n
    have e : totStep (totL (mostL n)) (mostP n) = totL (mostL n) + (1 + (n : Int)) := by unfold totStep mostP; simp
    rw [e, Int.mul_add, h]
    push_cast
    rw [show ((n : Int) + 1) * ((n : Int) + 1 + 1) = (n : Int) * ((n : Int) + 1) + 2 * ((n : Int) + 1) by rw [Int.mul_add ((n : Int) + 1), Int.mul_comm ((n : Int) + 1) ((n : Int) + 1), Int.add_mul]; omega]
    omega
theorem mostL_wf {n : Nat} (h : n ≤ 1000) : ∀ p ∈ mostL n, p.Wf := by
  intro q hq
  obtain ⟨i, hi, rfl⟩ := List.mem_map.1 hq
  have := List.mem_range.1 hi
  constructor <;> first | (unfold I64 mostP; dsimp only; omega) | (unfold mostP; dsimp only; omega)

theorem most_n (many : Int) : ∃ N : Nat, wrap64 (395 + wrap64 ((IntKind.u64.wrap many).tmod 10)) = (N : Int) ∧ 395 ≤ N ∧ N ≤ 404 := by
  have h0 : 0 ≤ IntKind.u64.wrap many := by rw [IntKind.wrap_u64]; omega
  generalize IntKind.u64.wrap many = u at *
  rw [Int.tmod_eq_emod_of_nonneg h0]
  have h1 : 0 ≤ u % 10 ∧ u % 10 < 10 := by omega
  generalize u % 10 = r at *
  have h2 : wrap64 r = r := by unfold wrap64; omega
  rw [h2]
  have h3 : wrap64 (395 + r) = 395 + r := by unfold wrap64; omega
  rw [h3]
  exact ⟨(395 + r).toNat, by omega, by omega, by omega⟩

set_option maxRecDepth 100000 in
set_option maxHeartbeats 8000000 in
theorem law_most (many : Int) (w : World) (hi : I64 many) :
    Calls Try.prog 4 #[.int .i64 many] w fun e w' => e = .returned (.bool true) ∧ Below w.heap.size w w' := by
  go_enter Try.func4, Try.ntmps4
  go_upto_region 2 with (fail)
  obtain ⟨N, hN, hN1, hN2⟩ := most_n many
  rw [hN]
  clear hN
  obtain ⟨i0, hi0, hz0, hz1, hz2⟩ := info_parts info_po
  go_wp2_with fail
  go_loopw [4, 5] (fun v i wr => ∃ k : Nat, k ≤ N ∧ i = .int .i64 k ∧ wr.ownsRow w.heap.size 24 8 v k ((mostL k).flatMap Po.vals) ∧ Below w.heap.size w wr) (fun _ i _ => N - (intOf i).toNat)
  case atStart => exact ⟨0, Nat.zero_le _, rfl, World.ownsRow_nil _ _ _ _, Below.refl _ _⟩
  case round =>
    obtain ⟨k, hk, rfl, hrow, hB⟩ := hrel
    have HR := Lib.hid hrow
    have HB := Lib.hid hB
    clear hrow hB
    by_cases hlt : k < N
    · have hlt' : (k : Int) < (N : Int) := by omega
      have Hnew := Lib.hid (heap_alloc_new wr (.cells #[.int .i64 ((k : Int) + 1), .int .i64 (k : Int), .int .u8 1, .int .i64 0, .int .i64 (10 * ((k : Int) + 1)), .int .i64 (1 + (k : Int)), .int .i64 1, .int .i64 0] 24))
      go_wp2_with (at_builtin; refine wpList_append_own _ rfl _ _ 22 rfl w.heap.size 24 i0 _ 8 64 Try.underlying22 hi0 hz0 hz1 hz2 rfl (by decide) _ _ _ rfl (HR.out.alloc _) ⟨wr.heap.size, 0, none⟩ 1 1 (Po.vals (mostP k)) rfl rfl (World.news_of_block (cs := #[.int .i64 ((k : Int) + 1), .int .i64 (k : Int), .int .u8 1, .int .i64 0, .int .i64 (10 * ((k : Int) + 1)), .int .i64 (1 + (k : Int)), .int .i64 1, .int .i64 0]) (t := 24) (fr := (0, 0)) Hnew.out) (by simp [Po.vals, Value.oneCell']) (by unfold maxLen; omega) (by omega) (by have := HB.out.size; simp; omega) ?_; intro v' w3 hown' hgrow _; have HO := Lib.hid hown'; have HG := Lib.hid ((HB.out.alloc HB.out.size (.cells #[.int .i64 ((k : Int) + 1), .int .i64 (k : Int), .int .u8 1, .int .i64 0, .int .i64 (10 * ((k : Int) + 1)), .int .i64 (1 + (k : Int)), .int .i64 1, .int .i64 0] 24)).grown hgrow (Nat.le_trans HB.out.size (by simp)) (fun j e => (HR.out.lt j e).1)); clear hown' hgrow)
      refine ⟨⟨k + 1, by omega, by go_num, ?_, HG.out⟩, by simp [intOf]; omega⟩
      have := HO.out
      rw [mostL_succ, List.flatMap_append]
      simpa using this
    · have hlt' : ¬ (k : Int) < (N : Int) := by omega
      obtain rfl : k = N := by omega
      obtain ⟨au, cu, rfl, hcu, hu, _⟩ := Rd.of_own HR.out po_vals_length (by omega) (mostL_length _) (by unfold maxLen; omega)
      have HU := Lib.hid hu
      clear hu HR
      go_wp2_with fail
      refine (check_any _ k cu (mostL k) _ HU.out (mostL_wf (by omega))).mono ?_
      rintro e w1 ⟨rfl, hB⟩
      have HU1 := Lib.hid (HU.out.below' hB)
      have HB1 := Lib.hid (below_then HB.out hB (Nat.le_refl _))
      clear hB HU HB
      by_cases hb : 400 < k
      · have hb' : (400 : Int) < (k : Int) := by omega
        rw [mostL_bad hb]
        go_wp2_with fail
        refine (purses_any _).mono ?_
        rintro e w2 ⟨rfl, hB⟩
        have HB2 := Lib.hid (below_then HB1.out hB (Nat.le_refl _))
        clear hB
        go_wp2_with fail
        go_ret
        exact ⟨rfl, HB2.out⟩
      · have hb' : ¬ (400 : Int) < (k : Int) := by omega
        have hg := mostL_good (n := k) (by omega)
        rw [hg]
        have Hg := Lib.hid (congrArg Prod.snd hg)
        clear hg
        go_wp2_with fail
        refine (held_all _ k cu (mostL k) _ HU1.out (mostL_wf (by omega))).mono ?_
        rintro e w2 ⟨hB, ⟨hc, rfl⟩ | ⟨hc, rfl⟩⟩
        · exact absurd Hg.out hc
        have HB2 := Lib.hid (below_then HB1.out hB (Nat.le_refl _))
        obtain ⟨tt, htt⟩ : ∃ tt, totL (mostL k) = tt := ⟨_, rfl⟩
        have htot := mostL_tot k
        rw [htt] at htot ⊢
        clear hB hc htt
        go_wp2_with fail
        refine (purses_any _).mono ?_
        rintro e w3 ⟨rfl, hB⟩
        have HB3 := Lib.hid (below_then HB2.out hB (Nat.le_refl _))
        clear hB
        have hk6 : k = 395 ∨ k = 396 ∨ k = 397 ∨ k = 398 ∨ k = 399 ∨ k = 400 := by omega
        clear HU1 Hg hb hb' hlt hlt' hk
        rcases hk6 with rfl | rfl | rfl | rfl | rfl | rfl
        · obtain rfl : tt = 78210 := by omega
          go_wp2_with fail
          go_ret
          exact ⟨rfl, HB3.out⟩
        · obtain rfl : tt = 78606 := by omega
          go_wp2_with fail
          go_ret
          exact ⟨rfl, HB3.out⟩
        · obtain rfl : tt = 79003 := by omega
          go_wp2_with fail
          go_ret
          exact ⟨rfl, HB3.out⟩
        · obtain rfl : tt = 79401 := by omega
          go_wp2_with fail
          go_ret
          exact ⟨rfl, HB3.out⟩
        · obtain rfl : tt = 79800 := by omega
          go_wp2_with fail
          go_ret
          exact ⟨rfl, HB3.out⟩
        · obtain rfl : tt = 80200 := by omega
          go_wp2_with fail
          go_ret
          exact ⟨rfl, HB3.out⟩
end Go.Proofs.Ytacpjmgnddpbiaa
