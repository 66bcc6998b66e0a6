/- The walk of the reference's Write. -/
import Derived.Test.YtpgojnofdgibeaaGreatDoorCRText
import Derived.Test.YtpgojnofdgibeaaGreatDoorCRFormed
import Derived.Deep.RegionHeld3
set_option linter.unusedSimpArgs false
set_option linter.unusedVariables false
namespace Go.Proofs.YtpgojnofdgibeaaGreatDoor
open Go.RowKit Go.Shelf

theorem row_block (l : List UInt8) {W : World} {Bk : Nat} {cs : Array Value} {xs : List Int} (hx : ∀ x ∈ xs, 0 ≤ x ∧ x ≤ 1000000000000) (hn : xs.length ≤ 100) (hl : l.length ≤ 100000) (hcs : cs = (xs.map (Value.int .i64)).toArray) (hb : W.heap[Bk]? = some (.cells cs 3 (0, 0))) :
    Calls Tryz.prog 58 #[.string ⟨l.toArray⟩, .slice (some ⟨Bk, 0, none⟩) xs.length xs.length] W fun e w' => e = .returned (.string ⟨(l ++ rowL xs).toArray⟩) ∧ Below W.heap.size W w' := by
  subst hcs
  have hr : Rd ints 1 W (some ⟨Bk, 0, none⟩) xs.length xs := by
    refine ⟨rfl, by unfold maxLen; omega, fun i hi => ⟨Bk, 0, xs[i], rfl, (Array.getElem?_eq_some_iff.1 hb).1, List.getElem?_eq_getElem hi, fun j hj => ?_⟩⟩
    obtain rfl : j = 0 := by omega
    rw [cell_of_row _ _ _ _ _ (0, 0) hb]
    simp [ints, hi]
  exact row_any l (some ⟨Bk, 0, none⟩) xs.length xs.length xs hx W hr hn hl
def hd0 (x : Pa) : List UInt8 := dig x.id ++ rowL [x.known]
theorem rwrite_3 {x : Pa} (h : x.kind = 3) : hd0 x ++ [32, 118, 111, 105, 100] ++ rowL [x.of] = writeP x := by
  unfold writeP headP tailP hd0; rw [h]; simp [numL, rowL, Lib.join, List.intercalate, wordP]
theorem rwrite_2 {x : Pa} (h : x.kind = 2) : hd0 x ++ [32, 116, 111, 116, 97, 108] ++ rowL [x.loss, x.pack, x.count, x.low, x.high] = writeP x := by
  unfold writeP headP tailP hd0; rw [h]; simp [numL, rowL, Lib.join, List.intercalate, wordP]
theorem rwrite_1 {x : Pa} (h : x.kind = 1) : hd0 x ++ [32, 112, 97, 99, 107, 97, 103, 101] ++ rowL [x.loss, x.pack, x.inn] ++ [32] ++ x.mark ++ [32] ++ x.goods ++ rowL [x.low, x.high, x.pieces, x.owner] = writeP x := by
  unfold writeP headP tailP hd0; rw [h]; simp [numL, rowL, Lib.join, List.intercalate, wordP]

set_option maxRecDepth 100000 in
set_option maxHeartbeats 16000000 in
theorem rwrite_any (x : Pa) (hs : x.Short) (w : World) :
    Calls Tryz.prog 15 #[.agg #[.int .i64 x.id, .int .i64 x.known, .int .u8 x.kind, .int .i64 x.loss, .int .i64 x.pack, .int .i64 x.inn, .string ⟨x.mark.toArray⟩, .string ⟨x.goods.toArray⟩, .int .i64 x.low, .int .i64 x.high, .int .i64 x.pieces, .int .i64 x.owner, .int .i64 x.count, .int .i64 x.of]] w (WritePost w x) := by
  have hBx := al' (Below.refl w.heap.size w) (.cells #[.int .i64 x.id, .int .i64 x.known, .int .u8 x.kind, .int .i64 x.loss, .int .i64 x.pack, .int .i64 x.inn, .string ⟨x.mark.toArray⟩, .string ⟨x.goods.toArray⟩, .int .i64 x.low, .int .i64 x.high, .int .i64 x.pieces, .int .i64 x.owner, .int .i64 x.count, .int .i64 x.of] 28)
  have hbx := BoxG.made w x.vals 28
  simp only [Pa.vals] at hbx
  have HB1 := Lib.hid hBx
  go_enter Tryz.func15, Tryz.ntmps15
  go_upto_region 1 with (fail)
  generalize w.alloc (.cells #[.int .i64 x.id, .int .i64 x.known, .int .u8 x.kind, .int .i64 x.loss, .int .i64 x.pack, .int .i64 x.inn, .string ⟨x.mark.toArray⟩, .string ⟨x.goods.toArray⟩, .int .i64 x.low, .int .i64 x.high, .int .i64 x.pieces, .int .i64 x.owner, .int .i64 x.count, .int .i64 x.of] 28) = w1 at *
  obtain ⟨B, hBe⟩ : ∃ B, w.heap.size = B := ⟨_, rfl⟩
  rw [hBe] at hbx ⊢
  have HBe := Lib.hid hBe
  obtain ⟨c0, c1, c2, c3, c4, c5, c6, c7, c8, c9, c10, c11, c12, c13⟩ := BoxG.pa (x := x) hbx
  have bl := hbx.1
  have CF := Lib.hid (rformed_any x hs w1)
  by_cases hf : formedP x
  case neg =>
    have hd : decide (formedP x) = false := by simp [hf]
    rw [hd] at CF
    have HN := Lib.hid hf
    clear hf hd hbx hBx
    go_wp2_with (go_at_call 57; refine CF.out.mono ?_; rintro e w2 ⟨rfl, hB2⟩)
    exact bodyPost_ret (by simp [results, Tryz.results15, go_sem]) rfl (show WritePost w x (.returned (.tuple #[.string ⟨#[]⟩, .int .i64 1])) w2 from ⟨HB1.out.trans (hB2.mono HB1.out.size), .inr ⟨HN.out, rfl⟩⟩)
  have hd : decide (formedP x) = true := by simp [hf]
  rw [hd] at CF
  have HF := Lib.hid hf
  have hid : (0 ≤ x.id ∧ x.id ≤ 1000000000000) ∧ (0 ≤ x.known ∧ x.known ≤ 1000000000000) := by have h1 := hf.1; have h2 := hf.2.1; omega
  have hk : x.kind = 1 ∨ x.kind = 2 ∨ x.kind = 3 := by rcases hf.2.2 with h | h | h; exact .inl h.1; exact .inr (.inl h.1); exact .inr (.inr h.1)
  obtain ⟨kd, hkd⟩ : ∃ k, x.kind = k := ⟨_, rfl⟩
  have HKd := Lib.hid hkd
  rw [hkd] at c2 hk CF ⊢
  clear hd hf hbx hBx hkd
  go_upto_region 4 with (go_at_call 57; refine CF.out.mono ?_; rintro e w2 ⟨rfl, hB2⟩)
  have hst := keep14_below (B := B) (x := x) (kd := kd) ⟨c0, c1, c2, c3, c4, c5, c6, c7, c8, c9, c10, c11, c12, c13⟩ hB2
  have HSt := Lib.hid hst
  have HB2 := Lib.hid (HB1.out.trans (hB2.mono HB1.out.size))
  clear c0 c1 c2 c3 c4 c5 c6 c7 c8 c9 c10 c11 c12 c13 CF hB2 bl HB1
  obtain ⟨c0, c1, c2, c3, c4, c5, c6, c7, c8, c9, c10, c11, c12, c13⟩ := hst
  clear c2 c3 c4 c5 c6 c7 c8 c9 c10 c11 c12 c13
  have bl := World.block_lt_of_cell? _ _ c0
  have hdl := dig_le hid.1.2
  obtain ⟨D, hD⟩ : ∃ A, (⟨(dig x.id).toArray⟩ : ByteArray) = A := ⟨_, rfl⟩
  obtain ⟨H, hH⟩ : ∃ A, (⟨(hd0 x).toArray⟩ : ByteArray) = A := ⟨_, rfl⟩
  have hHl : (hd0 x).length ≤ 40 := by
    unfold hd0
    have := rowL_len [x.known] (by intro y hy; simp only [List.mem_cons, List.not_mem_nil, or_false] at hy; subst hy; omega)
    simp only [List.length_append, List.length_cons, List.length_nil] at this ⊢
    omega
  have CD := Lib.hid (fun W => rdigits_any hid.1.1 hid.1.2 W)
  rw [hD] at CD
  have CRw := Lib.hid (show ∀ W Bk, W.heap[Bk]? = some (.cells #[.int .i64 x.known] 3 (0, 0)) → Calls Tryz.prog 58 #[.string D, .slice (some ⟨Bk, 0, none⟩) 1 1] W fun e w' => e = .returned (.string H) ∧ Below W.heap.size W w' from fun W Bk hb => by
    rw [← hD, ← hH]
    exact row_block (dig x.id) (xs := [x.known]) (by intro y hy; simp only [List.mem_cons, List.not_mem_nil, or_false] at hy; subst hy; omega) (by simp) (by omega) rfl hb)
  have HHH := Lib.hid (And.intro hH hHl)
  have Hid := Lib.hid hid
  clear hD hH hHl hdl hid
  go_cut [5] from 10 (fun s5 wx => s5 = .string H ∧ keep14 B x kd wx ∧ Below w.heap.size w wx)
  case first =>
    go_region_held3 (fun w' => w'.cell? ⟨B, 0, none⟩ = some (.int .i64 x.id) ∧ w'.cell? ⟨B, 1, none⟩ = some (.int .i64 x.known))
      (first | go_keep | exact ⟨cell_stays c0 hb7.out, cell_stays c1 hb7.out⟩ | exact ⟨cell_stays c0 hb5.out, cell_stays c1 hb5.out⟩)
      (first
        | (go_at_call 59; with_reducible refine (CD.out _).mono ?_; rintro e w5 ⟨rfl, hB5⟩; have hb5 := Lib.hid (show Below w2.heap.size w2 w5 from by first | exact below_on (dr' (Below.refl _ _)) hB5 (Nat.le_refl _) | exact below_on (dr' (al' (Below.refl _ _) _)) hB5 (Nat.le_refl _)))
        | (go_at_call 58; with_reducible refine (CRw.out _ _ (heap_alloc_new w5 _)).mono ?_; rintro e w6 ⟨rfl, hB6⟩; have hb7 := Lib.hid (show Below w2.heap.size w2 w6 from below_on (al' hb5.out _) hB6 (Nat.le_refl _)))
        | (go_at_call 58; with_reducible refine (CRw.out w5 _ ((hB5.block _ (by simp)).trans (blk0d w2 _ _))).mono ?_; rintro e w6 ⟨rfl, hB6⟩; have hb7 := Lib.hid (show Below w2.heap.size w2 w6 from below_on hb5.out hB6 (Nat.le_refl _))))
    all_goals
      go_wp2_with fail
      go_meet
      case rel => exact ⟨rfl, keep14_below HSt.out hb7.out, HB2.out.trans (hb7.out.mono HB2.out.size)⟩
  case rest =>
  obtain ⟨rfl, hst, hb⟩ := hcut
  rename World => w6
  have HSt6 := Lib.hid hst
  have HB6 := Lib.hid hb
  clear hst hb HSt HB2 c0 c1 bl CD CRw
  obtain ⟨c0, c1, c2, c3, c4, c5, c6, c7, c8, c9, c10, c11, c12, c13⟩ := HSt6.out
  have bl := World.block_lt_of_cell? _ _ c0
  have hf := HF.out
  unfold formedP at hf
  have hkx := HKd.out
  obtain ⟨hH, hHl⟩ := HHH.out
  rcases hk with rfl | rfl | rfl
  · have hmk : x.mark.length ≤ 1000 := by
      have : isMark x.mark = true := by rcases hf.2.2 with h | h | h; exact h.2.2.2.2.2.1; exact absurd (hkx.symm.trans h.1) (by decide); exact absurd (hkx.symm.trans h.1) (by decide)
      simp only [isMark, within, Bool.and_eq_true, decide_eq_true_eq] at this; omega
    have hgd : x.goods.length ≤ 1000 := by
      have : isName x.goods = true := by rcases hf.2.2 with h | h | h; exact h.2.2.2.2.2.2.1; exact absurd (hkx.symm.trans h.1) (by decide); exact absurd (hkx.symm.trans h.1) (by decide)
      simp only [isName, within, Bool.and_eq_true, decide_eq_true_eq] at this; omega
    have HNm := (show ∀ y ∈ [x.loss, x.pack, x.inn], 0 ≤ y ∧ y ≤ 1000000000000 from by intro y hy; simp only [List.mem_cons, List.not_mem_nil, or_false] at hy; omega)
    have HNq := (show ∀ y ∈ [x.low, x.high, x.pieces, x.owner], 0 ≤ y ∧ y ≤ 1000000000000 from by intro y hy; simp only [List.mem_cons, List.not_mem_nil, or_false] at hy; omega)
    have hrl := rowL_len _ HNm
    simp only [List.length_cons, List.length_nil] at hrl
    obtain ⟨A1, hA1⟩ : ∃ A, (⟨(hd0 x ++ [32, 112, 97, 99, 107, 97, 103, 101]).toArray⟩ : ByteArray) = A := ⟨_, rfl⟩
    obtain ⟨k1, _, e1⟩ := add_facts (A := H) (B := ⟨#[32, 112, 97, 99, 107, 97, 103, 101]⟩) (C := A1) (hd0 x) [32, 112, 97, 99, 107, 97, 103, 101] hH rfl hA1 (by simp only [List.length_cons, List.length_nil]; omega)
    simp only [List.length_cons, List.length_nil] at k1
    obtain ⟨T, hT⟩ : ∃ T, hd0 x ++ [32, 112, 97, 99, 107, 97, 103, 101] ++ rowL [x.loss, x.pack, x.inn] = T := ⟨_, rfl⟩
    have hTl : T.length ≤ 200 := by rw [← hT]; simp only [List.length_append, List.length_cons, List.length_nil]; omega
    obtain ⟨A2, hA2⟩ : ∃ A, (⟨T.toArray⟩ : ByteArray) = A := ⟨_, rfl⟩
    have CNm := Lib.hid (show ∀ W Bk, W.heap[Bk]? = some (.cells #[.int .i64 x.loss, .int .i64 x.pack, .int .i64 x.inn] 3 (0, 0)) → Calls Tryz.prog 58 #[.string A1, .slice (some ⟨Bk, 0, none⟩) 3 3] W fun e w' => e = .returned (.string A2) ∧ Below W.heap.size W w' from fun W Bk hb => by
      rw [← hA1, ← hA2, ← hT]
      exact row_block (hd0 x ++ [32, 112, 97, 99, 107, 97, 103, 101]) (xs := [x.loss, x.pack, x.inn]) HNm (by simp) (by simp only [List.length_append, List.length_cons, List.length_nil]; omega) rfl hb)
    obtain ⟨A3, hA3⟩ : ∃ A, (⟨(T ++ [32]).toArray⟩ : ByteArray) = A := ⟨_, rfl⟩
    obtain ⟨k3, k3', e3⟩ := add_facts (A := A2) (B := ⟨#[32]⟩) (C := A3) T [32] hA2 rfl hA3 (by simp only [List.length_cons, List.length_nil]; omega)
    simp only [List.length_cons, List.length_nil] at k3
    obtain ⟨A4, hA4⟩ : ∃ A, (⟨(T ++ [32] ++ x.mark).toArray⟩ : ByteArray) = A := ⟨_, rfl⟩
    obtain ⟨k4, k4', e4⟩ := add_facts (A := A3) (B := ⟨x.mark.toArray⟩) (C := A4) (T ++ [32]) x.mark hA3 rfl hA4 (by simp only [List.length_append, List.length_cons, List.length_nil]; omega)
    obtain ⟨A5, hA5⟩ : ∃ A, (⟨(T ++ [32] ++ x.mark ++ [32]).toArray⟩ : ByteArray) = A := ⟨_, rfl⟩
    obtain ⟨k5, k5', e5⟩ := add_facts (A := A4) (B := ⟨#[32]⟩) (C := A5) (T ++ [32] ++ x.mark) [32] hA4 rfl hA5 (by simp only [List.length_append, List.length_cons, List.length_nil]; omega)
    simp only [List.length_cons, List.length_nil] at k5
    obtain ⟨A6, hA6⟩ : ∃ A, (⟨(T ++ [32] ++ x.mark ++ [32] ++ x.goods).toArray⟩ : ByteArray) = A := ⟨_, rfl⟩
    obtain ⟨k6, k6', e6⟩ := add_facts (A := A5) (B := ⟨x.goods.toArray⟩) (C := A6) (T ++ [32] ++ x.mark ++ [32]) x.goods hA5 rfl hA6 (by simp only [List.length_append, List.length_cons, List.length_nil]; omega)
    obtain ⟨A7, hA7⟩ : ∃ A, (⟨(writeP x).toArray⟩ : ByteArray) = A := ⟨_, rfl⟩
    have CNq := Lib.hid (show ∀ W Bk, W.heap[Bk]? = some (.cells #[.int .i64 x.low, .int .i64 x.high, .int .i64 x.pieces, .int .i64 x.owner] 3 (0, 0)) → Calls Tryz.prog 58 #[.string A6, .slice (some ⟨Bk, 0, none⟩) 4 4] W fun e w' => e = .returned (.string A7) ∧ Below W.heap.size W w' from fun W Bk hb => by
      rw [← hA6, ← hA7, ← rwrite_1 hkx, hT]
      exact row_block (T ++ [32] ++ x.mark ++ [32] ++ x.goods) (xs := [x.low, x.high, x.pieces, x.owner]) HNq (by simp) (by simp only [List.length_append, List.length_cons, List.length_nil]; omega) rfl hb)
    have HA7 := Lib.hid hA7
    have HK6 := Lib.hid (show keepT B x w6 from ⟨c3, c4, c5, c6, c7, c8, c9, c10, c11⟩)
    clear hf hkx hA1 hA2 hA3 hA4 hA5 hA6 hA7 HNm HNq hrl hTl hT hmk hgd hH hHl
    go_upto_region 9 with (fail)
    clear c0 c1 c2 c3 c4 c5 c6 c7 c8 c9 c10 c11 c12 c13
    obtain ⟨c3, c4, c5, c6, c7, c8, c9, c10, c11⟩ := HK6.out
    go_region_held3 (fun w' => w'.cell? ⟨B, 3, none⟩ = some (.int .i64 x.loss) ∧ w'.cell? ⟨B, 4, none⟩ = some (.int .i64 x.pack) ∧ w'.cell? ⟨B, 5, none⟩ = some (.int .i64 x.inn) ∧ w'.cell? ⟨B, 6, none⟩ = some (.string ⟨x.mark.toArray⟩) ∧ w'.cell? ⟨B, 7, none⟩ = some (.string ⟨x.goods.toArray⟩) ∧ w'.cell? ⟨B, 8, none⟩ = some (.int .i64 x.low) ∧ w'.cell? ⟨B, 9, none⟩ = some (.int .i64 x.high) ∧ w'.cell? ⟨B, 10, none⟩ = some (.int .i64 x.pieces) ∧ w'.cell? ⟨B, 11, none⟩ = some (.int .i64 x.owner))
      ((refine keepT_below HK6.out ?_; first | with_reducible apply dr' (Below.refl _ _) | with_reducible apply hb9.out | with_reducible apply hb8.out | with_reducible apply al' hb8.out | with_reducible apply dr' (al' (Below.refl _ _) _) | with_reducible apply dr' (al' (al' (Below.refl _ _) _) _)))
      (first
        | (go_at_call 58; with_reducible refine (CNm.out _ _ (blk0d w6 _ _)).mono ?_; rintro e w8 ⟨rfl, hB8⟩; have hb8 := Lib.hid (show Below w6.heap.size w6 w8 from below_on (dr' (al' (Below.refl _ _) _)) hB8 (Nat.le_refl _)))
        | (go_at_call 58; with_reducible refine (CNm.out _ _ (blk0d' w6 _ _ _)).mono ?_; rintro e w8 ⟨rfl, hB8⟩; have hb8 := Lib.hid (show Below w6.heap.size w6 w8 from below_on (dr' (al' (al' (Below.refl _ _) _) _)) hB8 (Nat.le_refl _)))
        | (go_at_call 58; with_reducible refine (CNm.out _ _ (blk1d w6 _ _ _)).mono ?_; rintro e w8 ⟨rfl, hB8⟩; have hb8 := Lib.hid (show Below w6.heap.size w6 w8 from below_on (dr' (al' (al' (Below.refl _ _) _) _)) hB8 (Nat.le_refl _)))
        | (go_at_call 58; with_reducible refine (CNq.out _ _ (heap_alloc_new w8 _)).mono ?_; rintro e w9 ⟨rfl, hB9⟩; have hb9 := Lib.hid (show Below w6.heap.size w6 w9 from below_on (al' hb8.out _) hB9 (Nat.le_refl _)))
        | (go_at_call 58; with_reducible refine (CNq.out w8 _ ((hB8.block _ (by simp)).trans (blk1d w6 _ _ _))).mono ?_; rintro e w9 ⟨rfl, hB9⟩; have hb9 := Lib.hid (show Below w6.heap.size w6 w9 from below_on hb8.out hB9 (Nat.le_refl _)))
        | (go_at_call 58; with_reducible refine (CNq.out w8 _ ((hB8.block _ (by simp; omega)).trans (blk0d' w6 _ _ _))).mono ?_; rintro e w9 ⟨rfl, hB9⟩; have hb9 := Lib.hid (show Below w6.heap.size w6 w9 from below_on hb8.out hB9 (Nat.le_refl _))))
    all_goals
      have HB9 := Lib.hid hb9.out
      clear hB8 hB9 hb8 hb9
      go_wp2_with fail
      exact bodyPost_ret (by simp [results, Tryz.results15, go_sem]) rfl (show WritePost w x (.returned (.tuple #[.string A7, .int .i64 0])) w9 from ⟨HB6.out.trans (HB9.out.mono HB6.out.size), .inl ⟨HF.out, by rw [HA7.out]⟩⟩)
  · have HX := (show ∀ y ∈ [x.loss, x.pack, x.count, x.low, x.high], 0 ≤ y ∧ y ≤ 1000000000000 from by intro y hy; simp only [List.mem_cons, List.not_mem_nil, or_false] at hy; omega)
    obtain ⟨A1, hA1⟩ : ∃ A, (⟨(hd0 x ++ [32, 116, 111, 116, 97, 108]).toArray⟩ : ByteArray) = A := ⟨_, rfl⟩
    obtain ⟨k1, _, e1⟩ := add_facts (A := H) (B := ⟨#[32, 116, 111, 116, 97, 108]⟩) (C := A1) (hd0 x) [32, 116, 111, 116, 97, 108] hH rfl hA1 (by simp only [List.length_cons, List.length_nil]; omega)
    simp only [List.length_cons, List.length_nil] at k1
    obtain ⟨A2, hA2⟩ : ∃ A, (⟨(writeP x).toArray⟩ : ByteArray) = A := ⟨_, rfl⟩
    have CR := Lib.hid (show ∀ W Bk, W.heap[Bk]? = some (.cells #[.int .i64 x.loss, .int .i64 x.pack, .int .i64 x.count, .int .i64 x.low, .int .i64 x.high] 3 (0, 0)) → Calls Tryz.prog 58 #[.string A1, .slice (some ⟨Bk, 0, none⟩) 5 5] W fun e w' => e = .returned (.string A2) ∧ Below W.heap.size W w' from fun W Bk hb => by
      rw [← hA1, ← hA2, ← rwrite_2 hkx]
      exact row_block (hd0 x ++ [32, 116, 111, 116, 97, 108]) (xs := [x.loss, x.pack, x.count, x.low, x.high]) HX (by simp) (by simp only [List.length_append, List.length_cons, List.length_nil]; omega) rfl hb)
    have HA2 := Lib.hid hA2
    clear HX hA1 hA2 hf hkx hH hHl
    go_wp2_with (go_at_call 58; refine (CR.out _ _ (heap_alloc_new w6 _)).mono ?_; rintro e w8 ⟨rfl, hB8⟩)
    exact bodyPost_ret (by simp [results, Tryz.results15, go_sem]) rfl (show WritePost w x (.returned (.tuple #[.string A2, .int .i64 0])) w8 from ⟨below_on (HB6.out.alloc HB6.out.size _) hB8 (Nat.le_refl _), .inl ⟨HF.out, by rw [HA2.out]⟩⟩)
  · have HX := (show ∀ y ∈ [x.of], 0 ≤ y ∧ y ≤ 1000000000000 from by intro y hy; simp only [List.mem_cons, List.not_mem_nil, or_false] at hy; omega)
    obtain ⟨A1, hA1⟩ : ∃ A, (⟨(hd0 x ++ [32, 118, 111, 105, 100]).toArray⟩ : ByteArray) = A := ⟨_, rfl⟩
    obtain ⟨k1, _, e1⟩ := add_facts (A := H) (B := ⟨#[32, 118, 111, 105, 100]⟩) (C := A1) (hd0 x) [32, 118, 111, 105, 100] hH rfl hA1 (by simp only [List.length_cons, List.length_nil]; omega)
    simp only [List.length_cons, List.length_nil] at k1
    obtain ⟨A2, hA2⟩ : ∃ A, (⟨(writeP x).toArray⟩ : ByteArray) = A := ⟨_, rfl⟩
    have CR := Lib.hid (show ∀ W Bk, W.heap[Bk]? = some (.cells #[.int .i64 x.of] 3 (0, 0)) → Calls Tryz.prog 58 #[.string A1, .slice (some ⟨Bk, 0, none⟩) 1 1] W fun e w' => e = .returned (.string A2) ∧ Below W.heap.size W w' from fun W Bk hb => by
      rw [← hA1, ← hA2, ← rwrite_3 hkx]
      exact row_block (hd0 x ++ [32, 118, 111, 105, 100]) (xs := [x.of]) HX (by simp) (by simp only [List.length_append, List.length_cons, List.length_nil]; omega) rfl hb)
    have HA2 := Lib.hid hA2
    clear HX hA1 hA2 hf hkx hH hHl
    go_wp2_with (go_at_call 58; refine (CR.out _ _ (heap_alloc_new w6 _)).mono ?_; rintro e w8 ⟨rfl, hB8⟩)
    exact bodyPost_ret (by simp [results, Tryz.results15, go_sem]) rfl (show WritePost w x (.returned (.tuple #[.string A2, .int .i64 0])) w8 from ⟨below_on (HB6.out.alloc HB6.out.size _) hB8 (Nat.le_refl _), .inl ⟨HF.out, by rw [HA2.out]⟩⟩)
end Go.Proofs.YtpgojnofdgibeaaGreatDoor
