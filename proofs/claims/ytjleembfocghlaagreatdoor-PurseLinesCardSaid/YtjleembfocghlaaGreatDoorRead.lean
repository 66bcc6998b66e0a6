/- The walk of purse's Read. -/
import Derived.Test.YtjleembfocghlaaGreatDoorNumber
import Derived.Test.YtjleembfocghlaaGreatDoorSettle
import Derived.Deep.Cut
set_option linter.unusedSimpArgs false
set_option linter.unusedVariables false
namespace Go.Proofs.YtjleembfocghlaaGreatDoor
open Go.RowKit

def kindsB : List ByteArray := [⟨#[]⟩, ⟨#[115, 97, 108, 101]⟩, ⟨#[112, 97, 121]⟩, ⟨#[98, 97, 99, 107]⟩]
def idxK (x : List UInt8) : Int := Lib.idxOfS kindsB ⟨x.toArray⟩
theorem ba_eq (a b : List UInt8) : ((⟨a.toArray⟩ : ByteArray) = ⟨b.toArray⟩) ↔ a = b := by
  constructor
  · intro h
    have := congrArg (fun z : ByteArray => z.data.toList) h
    simpa using this
  · rintro rfl; rfl
theorem idxK_is (x : List UInt8) : (idxK x = -1 ∧ kindI x = 0) ∨ (0 ≤ idxK x ∧ idxK x ≤ 3 ∧ kindI x = idxK x) := by
  have e0 := ba_eq [] x
  have e1 := ba_eq [115, 97, 108, 101] x
  have e2 := ba_eq [112, 97, 121] x
  have e3 := ba_eq [98, 97, 99, 107] x
  unfold idxK kindsB Lib.idxOfS kindI
  simp only [Lib.idxFromS]
  by_cases h0 : x = []
  · subst h0; simp
  · have h0' : ¬ (⟨#[]⟩ : ByteArray) = ⟨x.toArray⟩ := fun e => h0 (e0.1 e).symm
    rw [if_neg h0']
    by_cases h1 : x = [115, 97, 108, 101]
    · subst h1; simp
    · have h1' : ¬ (⟨#[115, 97, 108, 101]⟩ : ByteArray) = ⟨x.toArray⟩ := fun e => h1 (e1.1 e).symm
      rw [if_neg h1', if_neg h1]
      by_cases h2 : x = [112, 97, 121]
      · subst h2; simp
      · have h2' : ¬ (⟨#[112, 97, 121]⟩ : ByteArray) = ⟨x.toArray⟩ := fun e => h2 (e2.1 e).symm
        rw [if_neg h2', if_neg h2]
        by_cases h3 : x = [98, 97, 99, 107]
        · subst h3; simp
        · have h3' : ¬ (⟨#[98, 97, 99, 107]⟩ : ByteArray) = ⟨x.toArray⟩ := fun e => h3 (e3.1 e).symm
          rw [if_neg h3', if_neg h3]
          simp
theorem index_any (B : Nat) (x : List UInt8) (w : World) (hb : w.heap[B]? = some (.cells #[.string ⟨#[]⟩, .string ⟨#[115, 97, 108, 101]⟩, .string ⟨#[112, 97, 121]⟩, .string ⟨#[98, 97, 99, 107]⟩] 51 (0, 0))) :
    Calls Tryz.prog 27 #[.slice (some ⟨B, 0, none⟩) 4 4, .string ⟨x.toArray⟩] w fun e w' => e = .returned (.int .i64 (idxK x)) ∧ w' = w := by
  refine Tryz.slices_Index_string B 0 4 4 kindsB ⟨x.toArray⟩ w (by decide) (by omega) (fun j hj => ?_)
  have : j = 0 ∨ j = 1 ∨ j = 2 ∨ j = 3 := by simp [kindsB] at hj; omega
  rw [Nat.zero_add, cell_of_row _ _ _ _ _ (0, 0) hb]
  rcases this with rfl | rfl | rfl | rfl <;> simp [kindsB]
theorem paA_none (ws : List (List UInt8)) (h : ¬ (ws.length = 7 ∨ ws.length = 8)) : paA ws = none := by
  unfold paA
  split
  · simp at h
  · simp at h
  · rfl
set_option maxRecDepth 100000 in
set_option maxHeartbeats 4000000 in
theorem read_any (l : List UInt8) (hl : l.length ≤ 1000) (w : World) (hw : Laid w) :
    Calls Tryz.prog 7 #[.string ⟨l.toArray⟩] w (ReadPost w (readL l)) := by
  have HW := Lib.hid hw
  clear hw
  go_enter Tryz.func7, Tryz.ntmps7
  go_upto_region 1 with (fail)
  have bx := BoxF.made w po0 23
  have hb := (Below.refl w.heap.size w).alloc (Nat.le_refl _) (.cells #[.int .i64 0, .int .i64 0, .int .u8 0, .int .i64 0, .int .i64 0, .int .i64 0, .int .i64 0, .int .i64 0] 23)
  simp only [po0] at bx
  generalize hw1 : w.alloc (.cells #[.int .i64 0, .int .i64 0, .int .u8 0, .int .i64 0, .int .i64 0, .int .i64 0, .int .i64 0, .int .i64 0] 23) = w1 at *
  have hs1 : w1.heap.size = w.heap.size + 1 := by rw [← hw1]; simp
  have HB1 := Lib.hid hb
  have HS1 := Lib.hid hs1
  have HX1 := Lib.hid bx
  clear hw1 hb hs1 bx
  go_wp2_with fail
  refine (split_any l hl _ (HW.out.below HB1.out)).mono ?_
  rintro e w2 ⟨rfl, hw2⟩
  obtain ⟨ws, hws⟩ : ∃ ws, spl l = ws := ⟨_, rfl⟩
  obtain ⟨n, hn⟩ : ∃ n, ws.length = n := ⟨_, rfl⟩
  have hnl : n ≤ 1001 := by have := spl_len l; rw [hws, hn] at this; omega
  rw [hws, hn]
  have HWL := Lib.hid (show ∀ x ∈ ws, x.length ≤ 1000 from fun x hx => Nat.le_trans (spl_mem_len l x (by rw [hws]; exact hx)) hl)
  have HWS := Lib.hid hws
  have HN := Lib.hid hn
  have HR2 := Lib.hid (show Rd strs 1 w2 (some ⟨w1.heap.size, 0, none⟩) n ws from by
    rw [hw2, hws]
    exact rd_words w1 ws n hn (by unfold maxLen; omega) 9)
  have HB2 := Lib.hid (show Below w.heap.size w w2 from by rw [hw2]; exact al' HB1.out _)
  have HX2 := Lib.hid (show BoxF w2 w.heap.size po0 from by rw [hw2]; exact HX1.out.below' ((Below.refl _ _).alloc (Nat.le_refl _) _))
  clear hws hn hw2 HX1 HB1 HS1
  go_upto_region 2 with (fail)
  obtain ⟨S, hS⟩ : ∃ S, w1.heap.size = S := ⟨_, rfl⟩
  rw [hS] at HR2 ⊢
  clear hS
  have HR3 := Lib.hid (HR2.out.below' (al' (Below.refl _ _) (.cells #[.slice (some ⟨S, 0, none⟩) n n] 53)))
  have HX3 := Lib.hid (HX2.out.below' (al' (Below.refl _ _) (.cells #[.slice (some ⟨S, 0, none⟩) n n] 53)))
  have HB3 := Lib.hid (al' HB2.out (.cells #[.slice (some ⟨S, 0, none⟩) n n] 53))
  have c4 : (w2.alloc (.cells #[.slice (some ⟨S, 0, none⟩) n n] 53)).cell? ⟨w2.heap.size, 0, none⟩ = some (.slice (some ⟨S, 0, none⟩) n n) := by rw [cell_of_row _ _ _ _ _ (0, 0) (heap_alloc_new w2 _)]; rfl
  have hB4 : w.heap.size < w2.heap.size := HX2.out.1.1
  generalize w2.alloc (.cells #[.slice (some ⟨S, 0, none⟩) n n] 53) = w3 at *
  obtain ⟨B4, hB4e⟩ : ∃ B, w2.heap.size = B := ⟨_, rfl⟩
  rw [hB4e] at c4 hB4 ⊢
  have HB4 := Lib.hid hB4
  clear HR2 HX2 HB2 hB4e hB4
  by_cases h78 : (7 : Int) ≤ (n : Int) ∧ (n : Int) ≤ 8
  case neg =>
    have CI := Lib.hid (show ∀ W, Calls Tryz.prog 24 #[.int .i64 (n : Int), .int .i64 7, .int .i64 8] W fun e w' => e = .returned (.bool false) ∧ w' = W from fun W => by
      have h1 := in_any (n : Int) 7 8 W
      rw [decide_eq_false h78] at h1
      exact h1)
    have HE := Lib.hid (show readL l = (po0, 4) from by
      unfold readL
      rw [HWS.out, paA_none ws (by rw [HN.out]; omega)]
      rfl)
    clear h78
    obtain ⟨c0, c1, c2, c3, c4', c5, c6, c7, f0, f1, f2, f3, f4, f5, f6, f7⟩ := HX3.out.all
    simp only [po0] at c0 c1 c2 c3 c4' c5 c6 c7
    go_wp2_with fail
    refine (CI.out _).mono ?_
    rintro e w' ⟨rfl, rfl⟩
    go_wp2_with fail
    have HY := And.intro (HX3.out.put po0).1 (put8_below HB3.out (Nat.le_refl _) po0)
    simp only [put8, po0] at HY
    clear c0 c1 c2 c3 c4' c5 c6 c7 f0 f1 f2 f3 f4 f5 f6 f7
    generalize ((((((((w'.setCell ⟨w.heap.size, 0, none⟩ (.int .i64 0)).setCell ⟨w.heap.size, 1, none⟩ (.int .i64 0)).setCell ⟨w.heap.size, 2, none⟩ (.int .u8 0)).setCell ⟨w.heap.size, 3, none⟩ (.int .i64 0)).setCell ⟨w.heap.size, 4, none⟩ (.int .i64 0)).setCell ⟨w.heap.size, 5, none⟩ (.int .i64 0)).setCell ⟨w.heap.size, 6, none⟩ (.int .i64 0)).setCell ⟨w.heap.size, 7, none⟩ (.int .i64 0)) = W3 at *
    obtain ⟨HY, HBY⟩ := HY
    have zl3 := HY.1
    obtain ⟨r0, r1, r2, r3, r4, r5, r6, r7⟩ := HY.cells
    dsimp only at r0 r1 r2 r3 r4 r5 r6 r7
    have Hres := Lib.hid HBY
    clear HBY HY
    refine bodyPost_ret (v := .tuple #[.agg #[.int .i64 0, .int .i64 0, .int .u8 0, .int .i64 0, .int .i64 0, .int .i64 0, .int .i64 0, .int .i64 0], .int .i64 4]) (by simp [results, Tryz.results7, go_sem, zl3, r0, r1, r2, r3, r4, r5, r6, r7]) rfl ⟨?_, Hres.out⟩
    rw [HE.out]; rfl
  have CI := Lib.hid (show ∀ W, Calls Tryz.prog 24 #[.int .i64 (n : Int), .int .i64 7, .int .i64 8] W fun e w' => e = .returned (.bool true) ∧ w' = W from fun W => by
    have h1 := in_any (n : Int) 7 8 W
    rw [decide_eq_true h78] at h1
    exact h1)
  go_wp2_with fail
  refine (CI.out _).mono ?_
  rintro e w' ⟨rfl, rfl⟩
  go_wp2_with fail
  refine (words_any _).mono ?_
  rintro e w5 ⟨rfl, hB⟩
  have HX5 := Lib.hid (HX3.out.below' hB)
  have HR5 := Lib.hid (HR3.out.below' hB)
  have HB5 := Lib.hid (below_then HB3.out hB (Nat.le_refl _))
  have c5 := cell_stays c4 hB
  clear hB c4 HX3 HR3 HB3
  go_upto_region 6 with (fail)
  have HX6 := Lib.hid (HX5.out.below' (al' (Below.refl _ _) (.cells #[.string ⟨#[]⟩, .string ⟨#[115, 97, 108, 101]⟩, .string ⟨#[112, 97, 121]⟩, .string ⟨#[98, 97, 99, 107]⟩] 51)))
  have HR6 := Lib.hid (HR5.out.below' (al' (Below.refl _ _) (.cells #[.string ⟨#[]⟩, .string ⟨#[115, 97, 108, 101]⟩, .string ⟨#[112, 97, 121]⟩, .string ⟨#[98, 97, 99, 107]⟩] 51)))
  have HB6 := Lib.hid (al' HB5.out (.cells #[.string ⟨#[]⟩, .string ⟨#[115, 97, 108, 101]⟩, .string ⟨#[112, 97, 121]⟩, .string ⟨#[98, 97, 99, 107]⟩] 51))
  have c4 := cell_stays c5 (al' (Below.refl _ _) (.cells #[.string ⟨#[]⟩, .string ⟨#[115, 97, 108, 101]⟩, .string ⟨#[112, 97, 121]⟩, .string ⟨#[98, 97, 99, 107]⟩] 51))
  have h6 := heap_alloc_new w5 (.cells #[.string ⟨#[]⟩, .string ⟨#[115, 97, 108, 101]⟩, .string ⟨#[112, 97, 121]⟩, .string ⟨#[98, 97, 99, 107]⟩] 51)
  generalize w5.alloc (.cells #[.string ⟨#[]⟩, .string ⟨#[115, 97, 108, 101]⟩, .string ⟨#[112, 97, 121]⟩, .string ⟨#[98, 97, 99, 107]⟩] 51) = w6 at *
  obtain ⟨B6, hB6⟩ : ∃ B, w5.heap.size = B := ⟨_, rfl⟩
  rw [hB6] at h6 ⊢
  clear HX5 HR5 HB5 c5 hB6
  have get : ∀ i, i < 7 → ∃ x, ws[i]? = some x := fun i hi => ⟨ws[i]'(by rw [HN.out]; omega), List.getElem?_eq_getElem _⟩
  obtain ⟨x0, hx0⟩ := get 0 (by omega)
  obtain ⟨x1, hx1⟩ := get 1 (by omega)
  obtain ⟨x2, hx2⟩ := get 2 (by omega)
  clear get
  have HG := Lib.hid (And.intro hx0 (And.intro hx1 hx2))
  have H4 := Lib.hid c4
  have CN := Lib.hid (show ∀ (i : Nat) (x : List UInt8) (W : World), ws[i]? = some x → Below w6.heap.size w6 W → Calls Tryz.prog 25 #[.int .i64 (i : Int), .pointer (some ⟨B4, 0, none⟩)] W fun e w' => e = .returned (.int .i64 (atoiV x)) ∧ Below w6.heap.size w6 w' ∧ Below W.heap.size W w' from fun i x W hx hB =>
    (number_any S ws n n B4 i x W ((HW.out.below HB6.out).below hB) (cell_stays H4.out hB) (HR6.out.below' hB) hx (HWL.out x (List.mem_of_getElem? hx))).mono (by
      rintro e w' ⟨h1, h2⟩
      exact ⟨h1, below_then hB h2 (Nat.le_refl _), h2⟩))
  obtain ⟨v0, hv0⟩ : ∃ v, atoiV x0 = v := ⟨_, rfl⟩
  obtain ⟨v1, hv1⟩ : ∃ v, atoiV x1 = v := ⟨_, rfl⟩
  obtain ⟨ki, hki⟩ : ∃ v, idxK x2 = v := ⟨_, rfl⟩
  have C0 := Lib.hid (show ∀ W, Below w6.heap.size w6 W → Calls Tryz.prog 25 #[.int .i64 0, .pointer (some ⟨B4, 0, none⟩)] W fun e w' => e = .returned (.int .i64 v0) ∧ Below w6.heap.size w6 w' ∧ Below W.heap.size W w' from fun W hB => by
    have := CN.out 0 x0 W hx0 hB
    rw [hv0] at this; exact this)
  have C1 := Lib.hid (show ∀ W, Below w6.heap.size w6 W → Calls Tryz.prog 25 #[.int .i64 1, .pointer (some ⟨B4, 0, none⟩)] W fun e w' => e = .returned (.int .i64 v1) ∧ Below w6.heap.size w6 w' ∧ Below W.heap.size W w' from fun W hB => by
    have := CN.out 1 x1 W hx1 hB
    rw [hv1] at this; exact this)
  have C2 := Lib.hid (show ∀ W, Below w6.heap.size w6 W → Calls Tryz.prog 27 #[.slice (some ⟨B6, 0, none⟩) 4 4, .string ⟨x2.toArray⟩] W fun e w' => e = .returned (.int .i64 ki) ∧ w' = W from fun W hB => by
    have := index_any B6 x2 W ((hB.block B6 (Array.getElem?_eq_some_iff.1 h6).1).trans h6)
    rw [hki] at this; exact this)
  have hS2 : w6.cell? ⟨S, 2, none⟩ = some (.string ⟨x2.toArray⟩) := by
    obtain ⟨b, off, x, h1, h2, h3, h4⟩ := HR6.out.str (i := 2) (by omega)
    cases h1
    rw [hx2] at h3; cases h3
    exact h4
  have hS6 : w6.cell? ⟨B6, 0, none⟩ = some (.string ⟨#[]⟩) := by rw [cell_of_row _ _ _ _ _ (0, 0) h6]; rfl
  have hn2 : (2 : Int) < (n : Int) := by omega
  have HV := Lib.hid (And.intro hv0 (And.intro hv1 hki))
  have HKW := Lib.hid (show IntKind.u8.wrap (max 0 ki) = kindI x2 from by
    rw [← hki]
    rcases idxK_is x2 with ⟨h1, h2⟩ | ⟨h1, h2, h3⟩
    · rw [h1, h2]; rfl
    · rw [h3, Int.max_eq_right h1]
      exact wrap_small h1 h2)
  have Hn78 := Lib.hid h78
  clear hx0 hx1 hx2 hv0 hv1 hki h6 h78
  go_region_held3 (fun w' => w'.cell? ⟨B4, 0, none⟩ = some (.slice (some ⟨S, 0, none⟩) n n) ∧ w'.cell? ⟨S, 2, none⟩ = some (.string ⟨x2.toArray⟩) ∧ w'.cell? ⟨B6, 0, none⟩ = some (.string ⟨#[]⟩))
      ((refine keepW ⟨c4, hS2, hS6⟩ ?_; first | with_reducible apply dr' (Below.refl _ _) | with_reducible apply al' (dr' (Below.refl _ _)) | with_reducible apply bl1 | with_reducible apply HY1.out | with_reducible apply HY2.out | with_reducible apply al' HY1.out | with_reducible apply al' HY2.out | with_reducible apply below8g HY2.out (Nat.le_refl _) | with_reducible apply below8g HY2.out HY1.out.size | with_reducible apply below8g HY2.out HY2.out.size))
      (first
        | (go_at_call 25; with_reducible refine (C0.out _ (dr' (Below.refl _ _))).mono ?_; rintro e w7 ⟨rfl, hB, hB'⟩; have HY1 := Lib.hid hB; clear hB hB')
        | (go_at_call 25; with_reducible refine (C0.out _ (bl1 _ _)).mono ?_; rintro e w7 ⟨rfl, hB, hB'⟩; have HY1 := Lib.hid hB; have HZ1 := Lib.hid (zboxF hB'); clear hB hB')
        | (go_at_call 25; with_reducible refine (C1.out _ HY1.out).mono ?_; rintro e w8 ⟨rfl, hB, hB'⟩; have HY2 := Lib.hid hB; first | (obtain ⟨z0, z1, z2, z3, z4, z5, z6, z7, y0, y1, y2, y3, y4, y5, y6, y7⟩ := (HZ1.out.below' hB').all; have HZ2 := Lib.hid (HZ1.out.below' hB'); clear hB hB') | clear hB hB')
        | (go_at_call 25; with_reducible refine (C1.out _ (al' HY1.out _)).mono ?_; rintro e w8 ⟨rfl, hB, hB'⟩; have HY2 := Lib.hid hB; obtain ⟨z0, z1, z2, z3, z4, z5, z6, z7, y0, y1, y2, y3, y4, y5, y6, y7⟩ := (zboxG hB').all; have HZ2 := Lib.hid (zboxG hB'); clear hB hB')
        | (go_at_call 27; with_reducible refine (C2.out _ HY2.out).mono ?_; rintro e w9 ⟨rfl, rfl⟩)
        | (go_at_call 27; with_reducible refine (C2.out _ (al' HY2.out _)).mono ?_; rintro e w9 ⟨rfl, rfl⟩))
  -- behind the region
  all_goals
    rename_i hheld
    clear hheld
    generalize hkk : IntKind.u8.wrap (max 0 ki) = kk at *
  all_goals first
    | (have hX := HZ2.out.put (⟨v0, v1, kk, 0, 0, 0, 0, 0⟩ : Po); have hB := put8_below HY2.out (Nat.le_refl _) (⟨v0, v1, kk, 0, 0, 0, 0, 0⟩ : Po); simp only [put8] at hX hB; generalize ((((((((w9.setCell ⟨w6.heap.size, 0, none⟩ (.int .i64 v0)).setCell ⟨w6.heap.size, 1, none⟩ (.int .i64 v1)).setCell ⟨w6.heap.size, 2, none⟩ (.int .u8 kk)).setCell ⟨w6.heap.size, 3, none⟩ (.int .i64 0)).setCell ⟨w6.heap.size, 4, none⟩ (.int .i64 0)).setCell ⟨w6.heap.size, 5, none⟩ (.int .i64 0)).setCell ⟨w6.heap.size, 6, none⟩ (.int .i64 0)).setCell ⟨w6.heap.size, 7, none⟩ (.int .i64 0)) = W7 at *; obtain ⟨B7, hB7⟩ : ∃ B, w6.heap.size = B := ⟨_, rfl⟩; rw [hB7] at hX ⊢; have hle : w6.heap.size ≤ B7 := by rw [← hB7]; exact (Nat.le_refl _))
    | (have hX := HZ2.out.put (⟨v0, v1, kk, 0, 0, 0, 0, 0⟩ : Po); have hB := put8_below HY2.out HY1.out.size (⟨v0, v1, kk, 0, 0, 0, 0, 0⟩ : Po); simp only [put8] at hX hB; generalize ((((((((w9.setCell ⟨w7.heap.size, 0, none⟩ (.int .i64 v0)).setCell ⟨w7.heap.size, 1, none⟩ (.int .i64 v1)).setCell ⟨w7.heap.size, 2, none⟩ (.int .u8 kk)).setCell ⟨w7.heap.size, 3, none⟩ (.int .i64 0)).setCell ⟨w7.heap.size, 4, none⟩ (.int .i64 0)).setCell ⟨w7.heap.size, 5, none⟩ (.int .i64 0)).setCell ⟨w7.heap.size, 6, none⟩ (.int .i64 0)).setCell ⟨w7.heap.size, 7, none⟩ (.int .i64 0)) = W7 at *; obtain ⟨B7, hB7⟩ : ∃ B, w7.heap.size = B := ⟨_, rfl⟩; rw [hB7] at hX ⊢; have hle : w6.heap.size ≤ B7 := by rw [← hB7]; exact HY1.out.size)
    | (have hX := BoxF.made w9 (⟨v0, v1, kk, 0, 0, 0, 0, 0⟩ : Po) 23; have hB := al' HY2.out (.cells #[.int .i64 v0, .int .i64 v1, .int .u8 kk, .int .i64 0, .int .i64 0, .int .i64 0, .int .i64 0, .int .i64 0] 23); simp only at hX hB; generalize w9.alloc (.cells #[.int .i64 v0, .int .i64 v1, .int .u8 kk, .int .i64 0, .int .i64 0, .int .i64 0, .int .i64 0, .int .i64 0] 23) = W7 at *; obtain ⟨B7, hB7⟩ : ∃ B, w9.heap.size = B := ⟨_, rfl⟩; rw [hB7] at hX ⊢; have hle : w6.heap.size ≤ B7 := by rw [← hB7]; exact HY2.out.size)
    | (have hX := BoxF.made w8 (⟨v0, v1, kk, 0, 0, 0, 0, 0⟩ : Po) 23; have hB := al' HY2.out (.cells #[.int .i64 v0, .int .i64 v1, .int .u8 kk, .int .i64 0, .int .i64 0, .int .i64 0, .int .i64 0, .int .i64 0] 23); simp only at hX hB; generalize w8.alloc (.cells #[.int .i64 v0, .int .i64 v1, .int .u8 kk, .int .i64 0, .int .i64 0, .int .i64 0, .int .i64 0, .int .i64 0] 23) = W7 at *; obtain ⟨B7, hB7⟩ : ∃ B, w8.heap.size = B := ⟨_, rfl⟩; rw [hB7] at hX ⊢; have hle : w6.heap.size ≤ B7 := by rw [← hB7]; exact HY2.out.size)
  all_goals
    have HX7 := Lib.hid hX
    have HB7 := Lib.hid hB
    have HLE := Lib.hid hle
    have HKK := Lib.hid HKW.out
    have d4 := cell_stays c4 hB
    clear hX hB hle hkk hB7 c4 hS2 hS6
    have h78 : n = 7 ∨ n = 8 := by have := Hn78.out; omega
  all_goals rcases h78 with rfl | rfl
  · obtain ⟨a0, a1, a2, a3, a4, a5, a6, rfl⟩ := list7 HN.out
    obtain ⟨e0, e1, e2⟩ : a0 = x0 ∧ a1 = x1 ∧ a2 = x2 := by simpa using HG.out
    obtain ⟨v3, hv3⟩ : ∃ v, atoiV a3 = v := ⟨_, rfl⟩
    obtain ⟨v4, hv4⟩ : ∃ v, atoiV a4 = v := ⟨_, rfl⟩
    obtain ⟨v5, hv5⟩ : ∃ v, atoiV a5 = v := ⟨_, rfl⟩
    obtain ⟨v6, hv6⟩ : ∃ v, atoiV a6 = v := ⟨_, rfl⟩
    have M3 := Lib.hid (show ∀ W, Below w6.heap.size w6 W → Calls Tryz.prog 25 #[.int .i64 3, .pointer (some ⟨B4, 0, none⟩)] W fun e w' => e = .returned (.int .i64 v3) ∧ Below w6.heap.size w6 w' ∧ Below W.heap.size W w' from fun W hB => by rw [← hv3]; exact CN.out 3 a3 W rfl hB)
    have M4 := Lib.hid (show ∀ W, Below w6.heap.size w6 W → Calls Tryz.prog 25 #[.int .i64 4, .pointer (some ⟨B4, 0, none⟩)] W fun e w' => e = .returned (.int .i64 v4) ∧ Below w6.heap.size w6 w' ∧ Below W.heap.size W w' from fun W hB => by rw [← hv4]; exact CN.out 4 a4 W rfl hB)
    have M5 := Lib.hid (show ∀ W, Below w6.heap.size w6 W → Calls Tryz.prog 25 #[.int .i64 5, .pointer (some ⟨B4, 0, none⟩)] W fun e w' => e = .returned (.int .i64 v5) ∧ Below w6.heap.size w6 w' ∧ Below W.heap.size W w' from fun W hB => by rw [← hv5]; exact CN.out 5 a5 W rfl hB)
    have M6 := Lib.hid (show ∀ W, Below w6.heap.size w6 W → Calls Tryz.prog 25 #[.int .i64 6, .pointer (some ⟨B4, 0, none⟩)] W fun e w' => e = .returned (.int .i64 v6) ∧ Below w6.heap.size w6 w' ∧ Below W.heap.size W w' from fun W hB => by rw [← hv6]; exact CN.out 6 a6 W rfl hB)
    have HP := Lib.hid (show paA [a0, a1, a2, a3, a4, a5, a6] = some (⟨v0, v1, kk, 0, v3, v4, v5, v6⟩ : Po) from by simp only [paA, hv3, hv4, hv5, hv6, e0, e1, e2, HV.out.1, HV.out.2.1, ← HKK.out])
    have HS := Lib.hid HWS.out
    clear HG CN C0 C1 C2 HV hv3 hv4 hv5 hv6 e0 e1 e2
    go_wp2_with fail
    refine (M3.out _ HB7.out).mono ?_
    rintro e u3 ⟨rfl, hB, hB'⟩
    have HU3 := Lib.hid hB
    have HX3' := Lib.hid (HX7.out.below' hB')
    clear hB hB'
    go_wp2_with fail
    refine (M4.out _ HU3.out).mono ?_
    rintro e u4 ⟨rfl, hB, hB'⟩
    have HU4 := Lib.hid hB
    have HX4' := Lib.hid (HX3'.out.below' hB')
    clear hB hB'
    go_wp2_with fail
    refine (M5.out _ HU4.out).mono ?_
    rintro e u5 ⟨rfl, hB, hB'⟩
    have HU5 := Lib.hid hB
    have HX5' := Lib.hid (HX4'.out.below' hB')
    clear hB hB'
    go_wp2_with fail
    refine (M6.out _ HU5.out).mono ?_
    rintro e u6 ⟨rfl, hB, hB'⟩
    have HU6 := Lib.hid hB
    have HX6' := Lib.hid (HX5'.out.below' hB')
    clear hB hB'
    obtain ⟨z0, z1, z2, z3, z4, z5, z6, z7, y0, y1, y2, y3, y4, y5, y6, y7⟩ := HX6'.out.all
    go_upto_region 11 with (fail)
    have HX9 := Lib.hid (HX6'.out.set4 v3 v4 v5 v6)
    have HB9 := Lib.hid (((((HU6.out.setCell (p := ⟨B7, 4, none⟩) HLE.out (.int .i64 v3)).setCell (p := ⟨B7, 5, none⟩) HLE.out (.int .i64 v4)).setCell (p := ⟨B7, 6, none⟩) HLE.out (.int .i64 v5)).setCell (p := ⟨B7, 7, none⟩) HLE.out (.int .i64 v6)))
    generalize ((((u6.setCell ⟨B7, 4, none⟩ (.int .i64 v3)).setCell ⟨B7, 5, none⟩ (.int .i64 v4)).setCell ⟨B7, 6, none⟩ (.int .i64 v5)).setCell ⟨B7, 7, none⟩ (.int .i64 v6)) = W9 at *
    clear z0 z1 z2 z3 z4 z5 z6 z7 y0 y1 y2 y3 y4 y5 y6 y7
    obtain ⟨z0, z1, z2, z3, z4, z5, z6, z7, y0, y1, y2, y3, y4, y5, y6, y7⟩ := HX9.out.all
    dsimp only at z0 z1 z2 z3 z4 z5 z6 z7
    go_wp2_with fail
    have hkk0 : 0 ≤ kk ∧ kk ≤ 3 := by rw [HKK.out]; exact kindI_bd _
    refine (write_any (⟨v0, v1, kk, 0, v3, v4, v5, v6⟩ : Po) _ ((HW.out.below (below_then HB6.out HB9.out (Nat.le_refl _))).tab) hkk0.1 (by show kk ≤ 255; omega)).mono ?_
    rintro e wa ⟨rfl, hB⟩
    have HXa := Lib.hid (HX9.out.below' hB)
    have HBa := Lib.hid (below_then (below_then HB6.out HB9.out (Nat.le_refl _)) hB (Nat.le_refl _))
    have HRa := Lib.hid (HX6.out.below' (below_then HB9.out hB (Nat.le_refl _)))
    clear hB z0 z1 z2 z3 z4 z5 z6 z7 y0 y1 y2 y3 y4 y5 y6 y7 hkk0
    have HE := Lib.hid (show readL l = ans (some (⟨v0, v1, kk, 0, v3, v4, v5, v6⟩ : Po)) l from by unfold readL; rw [HS.out, HP.out])
    clear HP
    by_cases hok : okPo (⟨v0, v1, kk, 0, v3, v4, v5, v6⟩ : Po)
    case neg =>
      have hc : chkPo (⟨v0, v1, kk, 0, v3, v4, v5, v6⟩ : Po) = 1 := if_neg hok
      have HE2 := Lib.hid (show readL l = (po0, 4) from by rw [HE.out]; exact if_neg (fun h => hok h.1))
      rw [hc, if_neg (by decide)]
      clear hc hok HE
      obtain ⟨r0, r1, r2, r3, r4, r5, r6, r7, f0, f1, f2, f3, f4, f5, f6, f7⟩ := HRa.out.all
      simp only [po0] at r0 r1 r2 r3 r4 r5 r6 r7
      simp only [str]
      go_wp2_with fail
      have HY := And.intro (HRa.out.put po0).1 (put8_below HBa.out (Nat.le_refl _) po0)
      simp only [put8, po0] at HY
      clear r0 r1 r2 r3 r4 r5 r6 r7 f0 f1 f2 f3 f4 f5 f6 f7
      generalize ((((((((wa.setCell ⟨w.heap.size, 0, none⟩ (.int .i64 0)).setCell ⟨w.heap.size, 1, none⟩ (.int .i64 0)).setCell ⟨w.heap.size, 2, none⟩ (.int .u8 0)).setCell ⟨w.heap.size, 3, none⟩ (.int .i64 0)).setCell ⟨w.heap.size, 4, none⟩ (.int .i64 0)).setCell ⟨w.heap.size, 5, none⟩ (.int .i64 0)).setCell ⟨w.heap.size, 6, none⟩ (.int .i64 0)).setCell ⟨w.heap.size, 7, none⟩ (.int .i64 0)) = W3 at *
      obtain ⟨HY, HBY⟩ := HY
      have zl3 := HY.1
      obtain ⟨r0, r1, r2, r3, r4, r5, r6, r7⟩ := HY.cells
      dsimp only at r0 r1 r2 r3 r4 r5 r6 r7
      have Hres := Lib.hid HBY
      clear HBY HY
      refine bodyPost_ret (v := .tuple #[.agg #[.int .i64 0, .int .i64 0, .int .u8 0, .int .i64 0, .int .i64 0, .int .i64 0, .int .i64 0, .int .i64 0], .int .i64 4]) (by simp [results, Tryz.results7, go_sem, zl3, r0, r1, r2, r3, r4, r5, r6, r7]) rfl ⟨?_, Hres.out⟩
      rw [HE2.out]; rfl
    have hc : chkPo (⟨v0, v1, kk, 0, v3, v4, v5, v6⟩ : Po) = 0 := if_pos hok
    rw [hc, if_pos rfl]
    clear hc
    simp only [str]
    obtain ⟨l2, hl2⟩ : ∃ x, lineL (⟨v0, v1, kk, 0, v3, v4, v5, v6⟩ : Po) = x := ⟨_, rfl⟩
    rw [hl2]
    by_cases hll : l2 = l
    · have HE2 := Lib.hid (show readL l = ((⟨v0, v1, kk, 0, v3, v4, v5, v6⟩ : Po), 0) from by rw [HE.out]; exact if_pos ⟨hok, hl2.trans hll⟩)
      subst hll
      clear hok HE hl2
      obtain ⟨r0, r1, r2, r3, r4, r5, r6, r7, f0, f1, f2, f3, f4, f5, f6, f7⟩ := HRa.out.all
      simp only [po0] at r0 r1 r2 r3 r4 r5 r6 r7
      obtain ⟨z0, z1, z2, z3, z4, z5, z6, z7, y0, y1, y2, y3, y4, y5, y6, y7⟩ := HXa.out.all
      dsimp only at z0 z1 z2 z3 z4 z5 z6 z7
      go_wp2_with fail
      have HY := And.intro (HRa.out.put (⟨v0, v1, kk, 0, v3, v4, v5, v6⟩ : Po)).1 (put8_below HBa.out (Nat.le_refl _) (⟨v0, v1, kk, 0, v3, v4, v5, v6⟩ : Po))
      simp only [put8, po0] at HY
      clear r0 r1 r2 r3 r4 r5 r6 r7 f0 f1 f2 f3 f4 f5 f6 f7 z0 z1 z2 z3 z4 z5 z6 z7 y0 y1 y2 y3 y4 y5 y6 y7
      generalize ((((((((wa.setCell ⟨w.heap.size, 0, none⟩ (.int .i64 v0)).setCell ⟨w.heap.size, 1, none⟩ (.int .i64 v1)).setCell ⟨w.heap.size, 2, none⟩ (.int .u8 kk)).setCell ⟨w.heap.size, 3, none⟩ (.int .i64 0)).setCell ⟨w.heap.size, 4, none⟩ (.int .i64 v3)).setCell ⟨w.heap.size, 5, none⟩ (.int .i64 v4)).setCell ⟨w.heap.size, 6, none⟩ (.int .i64 v5)).setCell ⟨w.heap.size, 7, none⟩ (.int .i64 v6)) = W3 at *
      obtain ⟨HY, HBY⟩ := HY
      have zl3 := HY.1
      obtain ⟨r0, r1, r2, r3, r4, r5, r6, r7⟩ := HY.cells
      dsimp only at r0 r1 r2 r3 r4 r5 r6 r7
      have Hres := Lib.hid HBY
      clear HBY HY
      refine bodyPost_ret (v := .tuple #[.agg #[.int .i64 v0, .int .i64 v1, .int .u8 kk, .int .i64 0, .int .i64 v3, .int .i64 v4, .int .i64 v5, .int .i64 v6], .int .i64 0]) (by simp [results, Tryz.results7, go_sem, zl3, r0, r1, r2, r3, r4, r5, r6, r7]) rfl ⟨?_, Hres.out⟩
      rw [HE2.out]
    · have HE2 := Lib.hid (show readL l = (po0, 4) from by rw [HE.out]; exact if_neg (fun h => hll (hl2.symm.trans h.2)))
      have hb2 : (l2 == l) = false := by simpa using hll
      clear hok HE hl2 hll
      obtain ⟨r0, r1, r2, r3, r4, r5, r6, r7, f0, f1, f2, f3, f4, f5, f6, f7⟩ := HRa.out.all
      simp only [po0] at r0 r1 r2 r3 r4 r5 r6 r7
      go_wp2_with fail
      have HY := And.intro (HRa.out.put po0).1 (put8_below HBa.out (Nat.le_refl _) po0)
      simp only [put8, po0] at HY
      clear r0 r1 r2 r3 r4 r5 r6 r7 f0 f1 f2 f3 f4 f5 f6 f7
      generalize ((((((((wa.setCell ⟨w.heap.size, 0, none⟩ (.int .i64 0)).setCell ⟨w.heap.size, 1, none⟩ (.int .i64 0)).setCell ⟨w.heap.size, 2, none⟩ (.int .u8 0)).setCell ⟨w.heap.size, 3, none⟩ (.int .i64 0)).setCell ⟨w.heap.size, 4, none⟩ (.int .i64 0)).setCell ⟨w.heap.size, 5, none⟩ (.int .i64 0)).setCell ⟨w.heap.size, 6, none⟩ (.int .i64 0)).setCell ⟨w.heap.size, 7, none⟩ (.int .i64 0)) = W3 at *
      obtain ⟨HY, HBY⟩ := HY
      have zl3 := HY.1
      obtain ⟨r0, r1, r2, r3, r4, r5, r6, r7⟩ := HY.cells
      dsimp only at r0 r1 r2 r3 r4 r5 r6 r7
      have Hres := Lib.hid HBY
      clear HBY HY
      refine bodyPost_ret (v := .tuple #[.agg #[.int .i64 0, .int .i64 0, .int .u8 0, .int .i64 0, .int .i64 0, .int .i64 0, .int .i64 0, .int .i64 0], .int .i64 4]) (by simp [results, Tryz.results7, go_sem, zl3, r0, r1, r2, r3, r4, r5, r6, r7]) rfl ⟨?_, Hres.out⟩
      rw [HE2.out]; rfl
  · obtain ⟨a0, a1, a2, a3, a4, a5, a6, a7, rfl⟩ := list8 HN.out
    obtain ⟨e0, e1, e2⟩ : a0 = x0 ∧ a1 = x1 ∧ a2 = x2 := by simpa using HG.out
    obtain ⟨v3, hv3⟩ : ∃ v, atoiV a3 = v := ⟨_, rfl⟩
    obtain ⟨v4, hv4⟩ : ∃ v, atoiV a4 = v := ⟨_, rfl⟩
    obtain ⟨v5, hv5⟩ : ∃ v, atoiV a5 = v := ⟨_, rfl⟩
    obtain ⟨v6, hv6⟩ : ∃ v, atoiV a6 = v := ⟨_, rfl⟩
    obtain ⟨v7, hv7⟩ : ∃ v, atoiV a7 = v := ⟨_, rfl⟩
    have M3 := Lib.hid (show ∀ W, Below w6.heap.size w6 W → Calls Tryz.prog 25 #[.int .i64 3, .pointer (some ⟨B4, 0, none⟩)] W fun e w' => e = .returned (.int .i64 v3) ∧ Below w6.heap.size w6 w' ∧ Below W.heap.size W w' from fun W hB => by rw [← hv3]; exact CN.out 3 a3 W rfl hB)
    have M4 := Lib.hid (show ∀ W, Below w6.heap.size w6 W → Calls Tryz.prog 25 #[.int .i64 4, .pointer (some ⟨B4, 0, none⟩)] W fun e w' => e = .returned (.int .i64 v4) ∧ Below w6.heap.size w6 w' ∧ Below W.heap.size W w' from fun W hB => by rw [← hv4]; exact CN.out 4 a4 W rfl hB)
    have M5 := Lib.hid (show ∀ W, Below w6.heap.size w6 W → Calls Tryz.prog 25 #[.int .i64 5, .pointer (some ⟨B4, 0, none⟩)] W fun e w' => e = .returned (.int .i64 v5) ∧ Below w6.heap.size w6 w' ∧ Below W.heap.size W w' from fun W hB => by rw [← hv5]; exact CN.out 5 a5 W rfl hB)
    have M6 := Lib.hid (show ∀ W, Below w6.heap.size w6 W → Calls Tryz.prog 25 #[.int .i64 6, .pointer (some ⟨B4, 0, none⟩)] W fun e w' => e = .returned (.int .i64 v6) ∧ Below w6.heap.size w6 w' ∧ Below W.heap.size W w' from fun W hB => by rw [← hv6]; exact CN.out 6 a6 W rfl hB)
    have M7 := Lib.hid (show ∀ W, Below w6.heap.size w6 W → Calls Tryz.prog 25 #[.int .i64 7, .pointer (some ⟨B4, 0, none⟩)] W fun e w' => e = .returned (.int .i64 v7) ∧ Below w6.heap.size w6 w' ∧ Below W.heap.size W w' from fun W hB => by rw [← hv7]; exact CN.out 7 a7 W rfl hB)
    have HP := Lib.hid (show paA [a0, a1, a2, a3, a4, a5, a6, a7] = some (⟨v0, v1, kk, v3, v4, v5, v6, v7⟩ : Po) from by simp only [paA, hv3, hv4, hv5, hv6, hv7, e0, e1, e2, HV.out.1, HV.out.2.1, ← HKK.out])
    have HS := Lib.hid HWS.out
    clear HG CN C0 C1 C2 HV hv3 hv4 hv5 hv6 hv7 e0 e1 e2
    go_wp2_with fail
    refine (M3.out _ HB7.out).mono ?_
    rintro e u3 ⟨rfl, hB, hB'⟩
    have HU3 := Lib.hid hB
    have HX3' := Lib.hid (HX7.out.below' hB')
    clear hB hB'
    obtain ⟨z0, z1, z2, z3, z4, z5, z6, z7, y0, y1, y2, y3, y4, y5, y6, y7⟩ := HX3'.out.all
    go_upto_region 10 with (fail)
    have HX8 := Lib.hid (HX3'.out.set3 v3)
    have HB8 := Lib.hid (HU3.out.setCell (p := ⟨B7, 3, none⟩) HLE.out (.int .i64 v3))
    generalize u3.setCell ⟨B7, 3, none⟩ (.int .i64 v3) = W8 at *
    clear z0 z1 z2 z3 z4 z5 z6 z7 y0 y1 y2 y3 y4 y5 y6 y7
    go_wp2_with fail
    refine (M4.out _ HB8.out).mono ?_
    rintro e u4 ⟨rfl, hB, hB'⟩
    have HU4 := Lib.hid hB
    have HX4' := Lib.hid (HX8.out.below' hB')
    clear hB hB'
    go_wp2_with fail
    refine (M5.out _ HU4.out).mono ?_
    rintro e u5 ⟨rfl, hB, hB'⟩
    have HU5 := Lib.hid hB
    have HX5' := Lib.hid (HX4'.out.below' hB')
    clear hB hB'
    go_wp2_with fail
    refine (M6.out _ HU5.out).mono ?_
    rintro e u6 ⟨rfl, hB, hB'⟩
    have HU6 := Lib.hid hB
    have HX6' := Lib.hid (HX5'.out.below' hB')
    clear hB hB'
    go_wp2_with fail
    refine (M7.out _ HU6.out).mono ?_
    rintro e u7 ⟨rfl, hB, hB'⟩
    have HU7 := Lib.hid hB
    have HX7' := Lib.hid (HX6'.out.below' hB')
    clear hB hB'
    obtain ⟨z0, z1, z2, z3, z4, z5, z6, z7, y0, y1, y2, y3, y4, y5, y6, y7⟩ := HX7'.out.all
    go_upto_region 11 with (fail)
    have HX9 := Lib.hid (HX7'.out.set4 v4 v5 v6 v7)
    have HB9 := Lib.hid (((((HU7.out.setCell (p := ⟨B7, 4, none⟩) HLE.out (.int .i64 v4)).setCell (p := ⟨B7, 5, none⟩) HLE.out (.int .i64 v5)).setCell (p := ⟨B7, 6, none⟩) HLE.out (.int .i64 v6)).setCell (p := ⟨B7, 7, none⟩) HLE.out (.int .i64 v7)))
    generalize ((((u7.setCell ⟨B7, 4, none⟩ (.int .i64 v4)).setCell ⟨B7, 5, none⟩ (.int .i64 v5)).setCell ⟨B7, 6, none⟩ (.int .i64 v6)).setCell ⟨B7, 7, none⟩ (.int .i64 v7)) = W9 at *
    clear z0 z1 z2 z3 z4 z5 z6 z7 y0 y1 y2 y3 y4 y5 y6 y7
    obtain ⟨z0, z1, z2, z3, z4, z5, z6, z7, y0, y1, y2, y3, y4, y5, y6, y7⟩ := HX9.out.all
    dsimp only at z0 z1 z2 z3 z4 z5 z6 z7
    go_wp2_with fail
    have hkk0 : 0 ≤ kk ∧ kk ≤ 3 := by rw [HKK.out]; exact kindI_bd _
    refine (write_any (⟨v0, v1, kk, v3, v4, v5, v6, v7⟩ : Po) _ ((HW.out.below (below_then HB6.out HB9.out (Nat.le_refl _))).tab) hkk0.1 (by show kk ≤ 255; omega)).mono ?_
    rintro e wa ⟨rfl, hB⟩
    have HXa := Lib.hid (HX9.out.below' hB)
    have HBa := Lib.hid (below_then (below_then HB6.out HB9.out (Nat.le_refl _)) hB (Nat.le_refl _))
    have HRa := Lib.hid (HX6.out.below' (below_then HB9.out hB (Nat.le_refl _)))
    clear hB z0 z1 z2 z3 z4 z5 z6 z7 y0 y1 y2 y3 y4 y5 y6 y7 hkk0
    have HE := Lib.hid (show readL l = ans (some (⟨v0, v1, kk, v3, v4, v5, v6, v7⟩ : Po)) l from by unfold readL; rw [HS.out, HP.out])
    clear HP
    by_cases hok : okPo (⟨v0, v1, kk, v3, v4, v5, v6, v7⟩ : Po)
    case neg =>
      have hc : chkPo (⟨v0, v1, kk, v3, v4, v5, v6, v7⟩ : Po) = 1 := if_neg hok
      have HE2 := Lib.hid (show readL l = (po0, 4) from by rw [HE.out]; exact if_neg (fun h => hok h.1))
      rw [hc, if_neg (by decide)]
      clear hc hok HE
      obtain ⟨r0, r1, r2, r3, r4, r5, r6, r7, f0, f1, f2, f3, f4, f5, f6, f7⟩ := HRa.out.all
      simp only [po0] at r0 r1 r2 r3 r4 r5 r6 r7
      simp only [str]
      go_wp2_with fail
      have HY := And.intro (HRa.out.put po0).1 (put8_below HBa.out (Nat.le_refl _) po0)
      simp only [put8, po0] at HY
      clear r0 r1 r2 r3 r4 r5 r6 r7 f0 f1 f2 f3 f4 f5 f6 f7
      generalize ((((((((wa.setCell ⟨w.heap.size, 0, none⟩ (.int .i64 0)).setCell ⟨w.heap.size, 1, none⟩ (.int .i64 0)).setCell ⟨w.heap.size, 2, none⟩ (.int .u8 0)).setCell ⟨w.heap.size, 3, none⟩ (.int .i64 0)).setCell ⟨w.heap.size, 4, none⟩ (.int .i64 0)).setCell ⟨w.heap.size, 5, none⟩ (.int .i64 0)).setCell ⟨w.heap.size, 6, none⟩ (.int .i64 0)).setCell ⟨w.heap.size, 7, none⟩ (.int .i64 0)) = W3 at *
      obtain ⟨HY, HBY⟩ := HY
      have zl3 := HY.1
      obtain ⟨r0, r1, r2, r3, r4, r5, r6, r7⟩ := HY.cells
      dsimp only at r0 r1 r2 r3 r4 r5 r6 r7
      have Hres := Lib.hid HBY
      clear HBY HY
      refine bodyPost_ret (v := .tuple #[.agg #[.int .i64 0, .int .i64 0, .int .u8 0, .int .i64 0, .int .i64 0, .int .i64 0, .int .i64 0, .int .i64 0], .int .i64 4]) (by simp [results, Tryz.results7, go_sem, zl3, r0, r1, r2, r3, r4, r5, r6, r7]) rfl ⟨?_, Hres.out⟩
      rw [HE2.out]; rfl
    have hc : chkPo (⟨v0, v1, kk, v3, v4, v5, v6, v7⟩ : Po) = 0 := if_pos hok
    rw [hc, if_pos rfl]
    clear hc
    simp only [str]
    obtain ⟨l2, hl2⟩ : ∃ x, lineL (⟨v0, v1, kk, v3, v4, v5, v6, v7⟩ : Po) = x := ⟨_, rfl⟩
    rw [hl2]
    by_cases hll : l2 = l
    · have HE2 := Lib.hid (show readL l = ((⟨v0, v1, kk, v3, v4, v5, v6, v7⟩ : Po), 0) from by rw [HE.out]; exact if_pos ⟨hok, hl2.trans hll⟩)
      subst hll
      clear hok HE hl2
      obtain ⟨r0, r1, r2, r3, r4, r5, r6, r7, f0, f1, f2, f3, f4, f5, f6, f7⟩ := HRa.out.all
      simp only [po0] at r0 r1 r2 r3 r4 r5 r6 r7
      obtain ⟨z0, z1, z2, z3, z4, z5, z6, z7, y0, y1, y2, y3, y4, y5, y6, y7⟩ := HXa.out.all
      dsimp only at z0 z1 z2 z3 z4 z5 z6 z7
      go_wp2_with fail
      have HY := And.intro (HRa.out.put (⟨v0, v1, kk, v3, v4, v5, v6, v7⟩ : Po)).1 (put8_below HBa.out (Nat.le_refl _) (⟨v0, v1, kk, v3, v4, v5, v6, v7⟩ : Po))
      simp only [put8, po0] at HY
      clear r0 r1 r2 r3 r4 r5 r6 r7 f0 f1 f2 f3 f4 f5 f6 f7 z0 z1 z2 z3 z4 z5 z6 z7 y0 y1 y2 y3 y4 y5 y6 y7
      generalize ((((((((wa.setCell ⟨w.heap.size, 0, none⟩ (.int .i64 v0)).setCell ⟨w.heap.size, 1, none⟩ (.int .i64 v1)).setCell ⟨w.heap.size, 2, none⟩ (.int .u8 kk)).setCell ⟨w.heap.size, 3, none⟩ (.int .i64 v3)).setCell ⟨w.heap.size, 4, none⟩ (.int .i64 v4)).setCell ⟨w.heap.size, 5, none⟩ (.int .i64 v5)).setCell ⟨w.heap.size, 6, none⟩ (.int .i64 v6)).setCell ⟨w.heap.size, 7, none⟩ (.int .i64 v7)) = W3 at *
      obtain ⟨HY, HBY⟩ := HY
      have zl3 := HY.1
      obtain ⟨r0, r1, r2, r3, r4, r5, r6, r7⟩ := HY.cells
      dsimp only at r0 r1 r2 r3 r4 r5 r6 r7
      have Hres := Lib.hid HBY
      clear HBY HY
      refine bodyPost_ret (v := .tuple #[.agg #[.int .i64 v0, .int .i64 v1, .int .u8 kk, .int .i64 v3, .int .i64 v4, .int .i64 v5, .int .i64 v6, .int .i64 v7], .int .i64 0]) (by simp [results, Tryz.results7, go_sem, zl3, r0, r1, r2, r3, r4, r5, r6, r7]) rfl ⟨?_, Hres.out⟩
      rw [HE2.out]
    · have HE2 := Lib.hid (show readL l = (po0, 4) from by rw [HE.out]; exact if_neg (fun h => hll (hl2.symm.trans h.2)))
      have hb2 : (l2 == l) = false := by simpa using hll
      clear hok HE hl2 hll
      obtain ⟨r0, r1, r2, r3, r4, r5, r6, r7, f0, f1, f2, f3, f4, f5, f6, f7⟩ := HRa.out.all
      simp only [po0] at r0 r1 r2 r3 r4 r5 r6 r7
      go_wp2_with fail
      have HY := And.intro (HRa.out.put po0).1 (put8_below HBa.out (Nat.le_refl _) po0)
      simp only [put8, po0] at HY
      clear r0 r1 r2 r3 r4 r5 r6 r7 f0 f1 f2 f3 f4 f5 f6 f7
      generalize ((((((((wa.setCell ⟨w.heap.size, 0, none⟩ (.int .i64 0)).setCell ⟨w.heap.size, 1, none⟩ (.int .i64 0)).setCell ⟨w.heap.size, 2, none⟩ (.int .u8 0)).setCell ⟨w.heap.size, 3, none⟩ (.int .i64 0)).setCell ⟨w.heap.size, 4, none⟩ (.int .i64 0)).setCell ⟨w.heap.size, 5, none⟩ (.int .i64 0)).setCell ⟨w.heap.size, 6, none⟩ (.int .i64 0)).setCell ⟨w.heap.size, 7, none⟩ (.int .i64 0)) = W3 at *
      obtain ⟨HY, HBY⟩ := HY
      have zl3 := HY.1
      obtain ⟨r0, r1, r2, r3, r4, r5, r6, r7⟩ := HY.cells
      dsimp only at r0 r1 r2 r3 r4 r5 r6 r7
      have Hres := Lib.hid HBY
      clear HBY HY
      refine bodyPost_ret (v := .tuple #[.agg #[.int .i64 0, .int .i64 0, .int .u8 0, .int .i64 0, .int .i64 0, .int .i64 0, .int .i64 0, .int .i64 0], .int .i64 4]) (by simp [results, Tryz.results7, go_sem, zl3, r0, r1, r2, r3, r4, r5, r6, r7]) rfl ⟨?_, Hres.out⟩
      rw [HE2.out]; rfl
  · obtain ⟨a0, a1, a2, a3, a4, a5, a6, rfl⟩ := list7 HN.out
    obtain ⟨e0, e1, e2⟩ : a0 = x0 ∧ a1 = x1 ∧ a2 = x2 := by simpa using HG.out
    obtain ⟨v3, hv3⟩ : ∃ v, atoiV a3 = v := ⟨_, rfl⟩
    obtain ⟨v4, hv4⟩ : ∃ v, atoiV a4 = v := ⟨_, rfl⟩
    obtain ⟨v5, hv5⟩ : ∃ v, atoiV a5 = v := ⟨_, rfl⟩
    obtain ⟨v6, hv6⟩ : ∃ v, atoiV a6 = v := ⟨_, rfl⟩
    have M3 := Lib.hid (show ∀ W, Below w6.heap.size w6 W → Calls Tryz.prog 25 #[.int .i64 3, .pointer (some ⟨B4, 0, none⟩)] W fun e w' => e = .returned (.int .i64 v3) ∧ Below w6.heap.size w6 w' ∧ Below W.heap.size W w' from fun W hB => by rw [← hv3]; exact CN.out 3 a3 W rfl hB)
    have M4 := Lib.hid (show ∀ W, Below w6.heap.size w6 W → Calls Tryz.prog 25 #[.int .i64 4, .pointer (some ⟨B4, 0, none⟩)] W fun e w' => e = .returned (.int .i64 v4) ∧ Below w6.heap.size w6 w' ∧ Below W.heap.size W w' from fun W hB => by rw [← hv4]; exact CN.out 4 a4 W rfl hB)
    have M5 := Lib.hid (show ∀ W, Below w6.heap.size w6 W → Calls Tryz.prog 25 #[.int .i64 5, .pointer (some ⟨B4, 0, none⟩)] W fun e w' => e = .returned (.int .i64 v5) ∧ Below w6.heap.size w6 w' ∧ Below W.heap.size W w' from fun W hB => by rw [← hv5]; exact CN.out 5 a5 W rfl hB)
    have M6 := Lib.hid (show ∀ W, Below w6.heap.size w6 W → Calls Tryz.prog 25 #[.int .i64 6, .pointer (some ⟨B4, 0, none⟩)] W fun e w' => e = .returned (.int .i64 v6) ∧ Below w6.heap.size w6 w' ∧ Below W.heap.size W w' from fun W hB => by rw [← hv6]; exact CN.out 6 a6 W rfl hB)
    have HP := Lib.hid (show paA [a0, a1, a2, a3, a4, a5, a6] = some (⟨v0, v1, kk, 0, v3, v4, v5, v6⟩ : Po) from by simp only [paA, hv3, hv4, hv5, hv6, e0, e1, e2, HV.out.1, HV.out.2.1, ← HKK.out])
    have HS := Lib.hid HWS.out
    clear HG CN C0 C1 C2 HV hv3 hv4 hv5 hv6 e0 e1 e2
    go_wp2_with fail
    refine (M3.out _ HB7.out).mono ?_
    rintro e u3 ⟨rfl, hB, hB'⟩
    have HU3 := Lib.hid hB
    have HX3' := Lib.hid (HX7.out.below' hB')
    clear hB hB'
    go_wp2_with fail
    refine (M4.out _ HU3.out).mono ?_
    rintro e u4 ⟨rfl, hB, hB'⟩
    have HU4 := Lib.hid hB
    have HX4' := Lib.hid (HX3'.out.below' hB')
    clear hB hB'
    go_wp2_with fail
    refine (M5.out _ HU4.out).mono ?_
    rintro e u5 ⟨rfl, hB, hB'⟩
    have HU5 := Lib.hid hB
    have HX5' := Lib.hid (HX4'.out.below' hB')
    clear hB hB'
    go_wp2_with fail
    refine (M6.out _ HU5.out).mono ?_
    rintro e u6 ⟨rfl, hB, hB'⟩
    have HU6 := Lib.hid hB
    have HX6' := Lib.hid (HX5'.out.below' hB')
    clear hB hB'
    obtain ⟨z0, z1, z2, z3, z4, z5, z6, z7, y0, y1, y2, y3, y4, y5, y6, y7⟩ := HX6'.out.all
    go_upto_region 11 with (fail)
    have HX9 := Lib.hid (HX6'.out.set4 v3 v4 v5 v6)
    have HB9 := Lib.hid (((((HU6.out.setCell (p := ⟨B7, 4, none⟩) HLE.out (.int .i64 v3)).setCell (p := ⟨B7, 5, none⟩) HLE.out (.int .i64 v4)).setCell (p := ⟨B7, 6, none⟩) HLE.out (.int .i64 v5)).setCell (p := ⟨B7, 7, none⟩) HLE.out (.int .i64 v6)))
    generalize ((((u6.setCell ⟨B7, 4, none⟩ (.int .i64 v3)).setCell ⟨B7, 5, none⟩ (.int .i64 v4)).setCell ⟨B7, 6, none⟩ (.int .i64 v5)).setCell ⟨B7, 7, none⟩ (.int .i64 v6)) = W9 at *
    clear z0 z1 z2 z3 z4 z5 z6 z7 y0 y1 y2 y3 y4 y5 y6 y7
    obtain ⟨z0, z1, z2, z3, z4, z5, z6, z7, y0, y1, y2, y3, y4, y5, y6, y7⟩ := HX9.out.all
    dsimp only at z0 z1 z2 z3 z4 z5 z6 z7
    go_wp2_with fail
    have hkk0 : 0 ≤ kk ∧ kk ≤ 3 := by rw [HKK.out]; exact kindI_bd _
    refine (write_any (⟨v0, v1, kk, 0, v3, v4, v5, v6⟩ : Po) _ ((HW.out.below (below_then HB6.out HB9.out (Nat.le_refl _))).tab) hkk0.1 (by show kk ≤ 255; omega)).mono ?_
    rintro e wa ⟨rfl, hB⟩
    have HXa := Lib.hid (HX9.out.below' hB)
    have HBa := Lib.hid (below_then (below_then HB6.out HB9.out (Nat.le_refl _)) hB (Nat.le_refl _))
    have HRa := Lib.hid (HX6.out.below' (below_then HB9.out hB (Nat.le_refl _)))
    clear hB z0 z1 z2 z3 z4 z5 z6 z7 y0 y1 y2 y3 y4 y5 y6 y7 hkk0
    have HE := Lib.hid (show readL l = ans (some (⟨v0, v1, kk, 0, v3, v4, v5, v6⟩ : Po)) l from by unfold readL; rw [HS.out, HP.out])
    clear HP
    by_cases hok : okPo (⟨v0, v1, kk, 0, v3, v4, v5, v6⟩ : Po)
    case neg =>
      have hc : chkPo (⟨v0, v1, kk, 0, v3, v4, v5, v6⟩ : Po) = 1 := if_neg hok
      have HE2 := Lib.hid (show readL l = (po0, 4) from by rw [HE.out]; exact if_neg (fun h => hok h.1))
      rw [hc, if_neg (by decide)]
      clear hc hok HE
      obtain ⟨r0, r1, r2, r3, r4, r5, r6, r7, f0, f1, f2, f3, f4, f5, f6, f7⟩ := HRa.out.all
      simp only [po0] at r0 r1 r2 r3 r4 r5 r6 r7
      simp only [str]
      go_wp2_with fail
      have HY := And.intro (HRa.out.put po0).1 (put8_below HBa.out (Nat.le_refl _) po0)
      simp only [put8, po0] at HY
      clear r0 r1 r2 r3 r4 r5 r6 r7 f0 f1 f2 f3 f4 f5 f6 f7
      generalize ((((((((wa.setCell ⟨w.heap.size, 0, none⟩ (.int .i64 0)).setCell ⟨w.heap.size, 1, none⟩ (.int .i64 0)).setCell ⟨w.heap.size, 2, none⟩ (.int .u8 0)).setCell ⟨w.heap.size, 3, none⟩ (.int .i64 0)).setCell ⟨w.heap.size, 4, none⟩ (.int .i64 0)).setCell ⟨w.heap.size, 5, none⟩ (.int .i64 0)).setCell ⟨w.heap.size, 6, none⟩ (.int .i64 0)).setCell ⟨w.heap.size, 7, none⟩ (.int .i64 0)) = W3 at *
      obtain ⟨HY, HBY⟩ := HY
      have zl3 := HY.1
      obtain ⟨r0, r1, r2, r3, r4, r5, r6, r7⟩ := HY.cells
      dsimp only at r0 r1 r2 r3 r4 r5 r6 r7
      have Hres := Lib.hid HBY
      clear HBY HY
      refine bodyPost_ret (v := .tuple #[.agg #[.int .i64 0, .int .i64 0, .int .u8 0, .int .i64 0, .int .i64 0, .int .i64 0, .int .i64 0, .int .i64 0], .int .i64 4]) (by simp [results, Tryz.results7, go_sem, zl3, r0, r1, r2, r3, r4, r5, r6, r7]) rfl ⟨?_, Hres.out⟩
      rw [HE2.out]; rfl
    have hc : chkPo (⟨v0, v1, kk, 0, v3, v4, v5, v6⟩ : Po) = 0 := if_pos hok
    rw [hc, if_pos rfl]
    clear hc
    simp only [str]
    obtain ⟨l2, hl2⟩ : ∃ x, lineL (⟨v0, v1, kk, 0, v3, v4, v5, v6⟩ : Po) = x := ⟨_, rfl⟩
    rw [hl2]
    by_cases hll : l2 = l
    · have HE2 := Lib.hid (show readL l = ((⟨v0, v1, kk, 0, v3, v4, v5, v6⟩ : Po), 0) from by rw [HE.out]; exact if_pos ⟨hok, hl2.trans hll⟩)
      subst hll
      clear hok HE hl2
      obtain ⟨r0, r1, r2, r3, r4, r5, r6, r7, f0, f1, f2, f3, f4, f5, f6, f7⟩ := HRa.out.all
      simp only [po0] at r0 r1 r2 r3 r4 r5 r6 r7
      obtain ⟨z0, z1, z2, z3, z4, z5, z6, z7, y0, y1, y2, y3, y4, y5, y6, y7⟩ := HXa.out.all
      dsimp only at z0 z1 z2 z3 z4 z5 z6 z7
      go_wp2_with fail
      have HY := And.intro (HRa.out.put (⟨v0, v1, kk, 0, v3, v4, v5, v6⟩ : Po)).1 (put8_below HBa.out (Nat.le_refl _) (⟨v0, v1, kk, 0, v3, v4, v5, v6⟩ : Po))
      simp only [put8, po0] at HY
      clear r0 r1 r2 r3 r4 r5 r6 r7 f0 f1 f2 f3 f4 f5 f6 f7 z0 z1 z2 z3 z4 z5 z6 z7 y0 y1 y2 y3 y4 y5 y6 y7
      generalize ((((((((wa.setCell ⟨w.heap.size, 0, none⟩ (.int .i64 v0)).setCell ⟨w.heap.size, 1, none⟩ (.int .i64 v1)).setCell ⟨w.heap.size, 2, none⟩ (.int .u8 kk)).setCell ⟨w.heap.size, 3, none⟩ (.int .i64 0)).setCell ⟨w.heap.size, 4, none⟩ (.int .i64 v3)).setCell ⟨w.heap.size, 5, none⟩ (.int .i64 v4)).setCell ⟨w.heap.size, 6, none⟩ (.int .i64 v5)).setCell ⟨w.heap.size, 7, none⟩ (.int .i64 v6)) = W3 at *
      obtain ⟨HY, HBY⟩ := HY
      have zl3 := HY.1
      obtain ⟨r0, r1, r2, r3, r4, r5, r6, r7⟩ := HY.cells
      dsimp only at r0 r1 r2 r3 r4 r5 r6 r7
      have Hres := Lib.hid HBY
      clear HBY HY
      refine bodyPost_ret (v := .tuple #[.agg #[.int .i64 v0, .int .i64 v1, .int .u8 kk, .int .i64 0, .int .i64 v3, .int .i64 v4, .int .i64 v5, .int .i64 v6], .int .i64 0]) (by simp [results, Tryz.results7, go_sem, zl3, r0, r1, r2, r3, r4, r5, r6, r7]) rfl ⟨?_, Hres.out⟩
      rw [HE2.out]
    · have HE2 := Lib.hid (show readL l = (po0, 4) from by rw [HE.out]; exact if_neg (fun h => hll (hl2.symm.trans h.2)))
      have hb2 : (l2 == l) = false := by simpa using hll
      clear hok HE hl2 hll
      obtain ⟨r0, r1, r2, r3, r4, r5, r6, r7, f0, f1, f2, f3, f4, f5, f6, f7⟩ := HRa.out.all
      simp only [po0] at r0 r1 r2 r3 r4 r5 r6 r7
      go_wp2_with fail
      have HY := And.intro (HRa.out.put po0).1 (put8_below HBa.out (Nat.le_refl _) po0)
      simp only [put8, po0] at HY
      clear r0 r1 r2 r3 r4 r5 r6 r7 f0 f1 f2 f3 f4 f5 f6 f7
      generalize ((((((((wa.setCell ⟨w.heap.size, 0, none⟩ (.int .i64 0)).setCell ⟨w.heap.size, 1, none⟩ (.int .i64 0)).setCell ⟨w.heap.size, 2, none⟩ (.int .u8 0)).setCell ⟨w.heap.size, 3, none⟩ (.int .i64 0)).setCell ⟨w.heap.size, 4, none⟩ (.int .i64 0)).setCell ⟨w.heap.size, 5, none⟩ (.int .i64 0)).setCell ⟨w.heap.size, 6, none⟩ (.int .i64 0)).setCell ⟨w.heap.size, 7, none⟩ (.int .i64 0)) = W3 at *
      obtain ⟨HY, HBY⟩ := HY
      have zl3 := HY.1
      obtain ⟨r0, r1, r2, r3, r4, r5, r6, r7⟩ := HY.cells
      dsimp only at r0 r1 r2 r3 r4 r5 r6 r7
      have Hres := Lib.hid HBY
      clear HBY HY
      refine bodyPost_ret (v := .tuple #[.agg #[.int .i64 0, .int .i64 0, .int .u8 0, .int .i64 0, .int .i64 0, .int .i64 0, .int .i64 0, .int .i64 0], .int .i64 4]) (by simp [results, Tryz.results7, go_sem, zl3, r0, r1, r2, r3, r4, r5, r6, r7]) rfl ⟨?_, Hres.out⟩
      rw [HE2.out]; rfl
  · obtain ⟨a0, a1, a2, a3, a4, a5, a6, a7, rfl⟩ := list8 HN.out
    obtain ⟨e0, e1, e2⟩ : a0 = x0 ∧ a1 = x1 ∧ a2 = x2 := by simpa using HG.out
    obtain ⟨v3, hv3⟩ : ∃ v, atoiV a3 = v := ⟨_, rfl⟩
    obtain ⟨v4, hv4⟩ : ∃ v, atoiV a4 = v := ⟨_, rfl⟩
    obtain ⟨v5, hv5⟩ : ∃ v, atoiV a5 = v := ⟨_, rfl⟩
    obtain ⟨v6, hv6⟩ : ∃ v, atoiV a6 = v := ⟨_, rfl⟩
    obtain ⟨v7, hv7⟩ : ∃ v, atoiV a7 = v := ⟨_, rfl⟩
    have M3 := Lib.hid (show ∀ W, Below w6.heap.size w6 W → Calls Tryz.prog 25 #[.int .i64 3, .pointer (some ⟨B4, 0, none⟩)] W fun e w' => e = .returned (.int .i64 v3) ∧ Below w6.heap.size w6 w' ∧ Below W.heap.size W w' from fun W hB => by rw [← hv3]; exact CN.out 3 a3 W rfl hB)
    have M4 := Lib.hid (show ∀ W, Below w6.heap.size w6 W → Calls Tryz.prog 25 #[.int .i64 4, .pointer (some ⟨B4, 0, none⟩)] W fun e w' => e = .returned (.int .i64 v4) ∧ Below w6.heap.size w6 w' ∧ Below W.heap.size W w' from fun W hB => by rw [← hv4]; exact CN.out 4 a4 W rfl hB)
    have M5 := Lib.hid (show ∀ W, Below w6.heap.size w6 W → Calls Tryz.prog 25 #[.int .i64 5, .pointer (some ⟨B4, 0, none⟩)] W fun e w' => e = .returned (.int .i64 v5) ∧ Below w6.heap.size w6 w' ∧ Below W.heap.size W w' from fun W hB => by rw [← hv5]; exact CN.out 5 a5 W rfl hB)
    have M6 := Lib.hid (show ∀ W, Below w6.heap.size w6 W → Calls Tryz.prog 25 #[.int .i64 6, .pointer (some ⟨B4, 0, none⟩)] W fun e w' => e = .returned (.int .i64 v6) ∧ Below w6.heap.size w6 w' ∧ Below W.heap.size W w' from fun W hB => by rw [← hv6]; exact CN.out 6 a6 W rfl hB)
    have M7 := Lib.hid (show ∀ W, Below w6.heap.size w6 W → Calls Tryz.prog 25 #[.int .i64 7, .pointer (some ⟨B4, 0, none⟩)] W fun e w' => e = .returned (.int .i64 v7) ∧ Below w6.heap.size w6 w' ∧ Below W.heap.size W w' from fun W hB => by rw [← hv7]; exact CN.out 7 a7 W rfl hB)
    have HP := Lib.hid (show paA [a0, a1, a2, a3, a4, a5, a6, a7] = some (⟨v0, v1, kk, v3, v4, v5, v6, v7⟩ : Po) from by simp only [paA, hv3, hv4, hv5, hv6, hv7, e0, e1, e2, HV.out.1, HV.out.2.1, ← HKK.out])
    have HS := Lib.hid HWS.out
    clear HG CN C0 C1 C2 HV hv3 hv4 hv5 hv6 hv7 e0 e1 e2
    go_wp2_with fail
    refine (M3.out _ HB7.out).mono ?_
    rintro e u3 ⟨rfl, hB, hB'⟩
    have HU3 := Lib.hid hB
    have HX3' := Lib.hid (HX7.out.below' hB')
    clear hB hB'
    obtain ⟨z0, z1, z2, z3, z4, z5, z6, z7, y0, y1, y2, y3, y4, y5, y6, y7⟩ := HX3'.out.all
    go_upto_region 10 with (fail)
    have HX8 := Lib.hid (HX3'.out.set3 v3)
    have HB8 := Lib.hid (HU3.out.setCell (p := ⟨B7, 3, none⟩) HLE.out (.int .i64 v3))
    generalize u3.setCell ⟨B7, 3, none⟩ (.int .i64 v3) = W8 at *
    clear z0 z1 z2 z3 z4 z5 z6 z7 y0 y1 y2 y3 y4 y5 y6 y7
    go_wp2_with fail
    refine (M4.out _ HB8.out).mono ?_
    rintro e u4 ⟨rfl, hB, hB'⟩
    have HU4 := Lib.hid hB
    have HX4' := Lib.hid (HX8.out.below' hB')
    clear hB hB'
    go_wp2_with fail
    refine (M5.out _ HU4.out).mono ?_
    rintro e u5 ⟨rfl, hB, hB'⟩
    have HU5 := Lib.hid hB
    have HX5' := Lib.hid (HX4'.out.below' hB')
    clear hB hB'
    go_wp2_with fail
    refine (M6.out _ HU5.out).mono ?_
    rintro e u6 ⟨rfl, hB, hB'⟩
    have HU6 := Lib.hid hB
    have HX6' := Lib.hid (HX5'.out.below' hB')
    clear hB hB'
    go_wp2_with fail
    refine (M7.out _ HU6.out).mono ?_
    rintro e u7 ⟨rfl, hB, hB'⟩
    have HU7 := Lib.hid hB
    have HX7' := Lib.hid (HX6'.out.below' hB')
    clear hB hB'
    obtain ⟨z0, z1, z2, z3, z4, z5, z6, z7, y0, y1, y2, y3, y4, y5, y6, y7⟩ := HX7'.out.all
    go_upto_region 11 with (fail)
    have HX9 := Lib.hid (HX7'.out.set4 v4 v5 v6 v7)
    have HB9 := Lib.hid (((((HU7.out.setCell (p := ⟨B7, 4, none⟩) HLE.out (.int .i64 v4)).setCell (p := ⟨B7, 5, none⟩) HLE.out (.int .i64 v5)).setCell (p := ⟨B7, 6, none⟩) HLE.out (.int .i64 v6)).setCell (p := ⟨B7, 7, none⟩) HLE.out (.int .i64 v7)))
    generalize ((((u7.setCell ⟨B7, 4, none⟩ (.int .i64 v4)).setCell ⟨B7, 5, none⟩ (.int .i64 v5)).setCell ⟨B7, 6, none⟩ (.int .i64 v6)).setCell ⟨B7, 7, none⟩ (.int .i64 v7)) = W9 at *
    clear z0 z1 z2 z3 z4 z5 z6 z7 y0 y1 y2 y3 y4 y5 y6 y7
    obtain ⟨z0, z1, z2, z3, z4, z5, z6, z7, y0, y1, y2, y3, y4, y5, y6, y7⟩ := HX9.out.all
    dsimp only at z0 z1 z2 z3 z4 z5 z6 z7
    go_wp2_with fail
    have hkk0 : 0 ≤ kk ∧ kk ≤ 3 := by rw [HKK.out]; exact kindI_bd _
    refine (write_any (⟨v0, v1, kk, v3, v4, v5, v6, v7⟩ : Po) _ ((HW.out.below (below_then HB6.out HB9.out (Nat.le_refl _))).tab) hkk0.1 (by show kk ≤ 255; omega)).mono ?_
    rintro e wa ⟨rfl, hB⟩
    have HXa := Lib.hid (HX9.out.below' hB)
    have HBa := Lib.hid (below_then (below_then HB6.out HB9.out (Nat.le_refl _)) hB (Nat.le_refl _))
    have HRa := Lib.hid (HX6.out.below' (below_then HB9.out hB (Nat.le_refl _)))
    clear hB z0 z1 z2 z3 z4 z5 z6 z7 y0 y1 y2 y3 y4 y5 y6 y7 hkk0
    have HE := Lib.hid (show readL l = ans (some (⟨v0, v1, kk, v3, v4, v5, v6, v7⟩ : Po)) l from by unfold readL; rw [HS.out, HP.out])
    clear HP
    by_cases hok : okPo (⟨v0, v1, kk, v3, v4, v5, v6, v7⟩ : Po)
    case neg =>
      have hc : chkPo (⟨v0, v1, kk, v3, v4, v5, v6, v7⟩ : Po) = 1 := if_neg hok
      have HE2 := Lib.hid (show readL l = (po0, 4) from by rw [HE.out]; exact if_neg (fun h => hok h.1))
      rw [hc, if_neg (by decide)]
      clear hc hok HE
      obtain ⟨r0, r1, r2, r3, r4, r5, r6, r7, f0, f1, f2, f3, f4, f5, f6, f7⟩ := HRa.out.all
      simp only [po0] at r0 r1 r2 r3 r4 r5 r6 r7
      simp only [str]
      go_wp2_with fail
      have HY := And.intro (HRa.out.put po0).1 (put8_below HBa.out (Nat.le_refl _) po0)
      simp only [put8, po0] at HY
      clear r0 r1 r2 r3 r4 r5 r6 r7 f0 f1 f2 f3 f4 f5 f6 f7
      generalize ((((((((wa.setCell ⟨w.heap.size, 0, none⟩ (.int .i64 0)).setCell ⟨w.heap.size, 1, none⟩ (.int .i64 0)).setCell ⟨w.heap.size, 2, none⟩ (.int .u8 0)).setCell ⟨w.heap.size, 3, none⟩ (.int .i64 0)).setCell ⟨w.heap.size, 4, none⟩ (.int .i64 0)).setCell ⟨w.heap.size, 5, none⟩ (.int .i64 0)).setCell ⟨w.heap.size, 6, none⟩ (.int .i64 0)).setCell ⟨w.heap.size, 7, none⟩ (.int .i64 0)) = W3 at *
      obtain ⟨HY, HBY⟩ := HY
      have zl3 := HY.1
      obtain ⟨r0, r1, r2, r3, r4, r5, r6, r7⟩ := HY.cells
      dsimp only at r0 r1 r2 r3 r4 r5 r6 r7
      have Hres := Lib.hid HBY
      clear HBY HY
      refine bodyPost_ret (v := .tuple #[.agg #[.int .i64 0, .int .i64 0, .int .u8 0, .int .i64 0, .int .i64 0, .int .i64 0, .int .i64 0, .int .i64 0], .int .i64 4]) (by simp [results, Tryz.results7, go_sem, zl3, r0, r1, r2, r3, r4, r5, r6, r7]) rfl ⟨?_, Hres.out⟩
      rw [HE2.out]; rfl
    have hc : chkPo (⟨v0, v1, kk, v3, v4, v5, v6, v7⟩ : Po) = 0 := if_pos hok
    rw [hc, if_pos rfl]
    clear hc
    simp only [str]
    obtain ⟨l2, hl2⟩ : ∃ x, lineL (⟨v0, v1, kk, v3, v4, v5, v6, v7⟩ : Po) = x := ⟨_, rfl⟩
    rw [hl2]
    by_cases hll : l2 = l
    · have HE2 := Lib.hid (show readL l = ((⟨v0, v1, kk, v3, v4, v5, v6, v7⟩ : Po), 0) from by rw [HE.out]; exact if_pos ⟨hok, hl2.trans hll⟩)
      subst hll
      clear hok HE hl2
      obtain ⟨r0, r1, r2, r3, r4, r5, r6, r7, f0, f1, f2, f3, f4, f5, f6, f7⟩ := HRa.out.all
      simp only [po0] at r0 r1 r2 r3 r4 r5 r6 r7
      obtain ⟨z0, z1, z2, z3, z4, z5, z6, z7, y0, y1, y2, y3, y4, y5, y6, y7⟩ := HXa.out.all
      dsimp only at z0 z1 z2 z3 z4 z5 z6 z7
      go_wp2_with fail
      have HY := And.intro (HRa.out.put (⟨v0, v1, kk, v3, v4, v5, v6, v7⟩ : Po)).1 (put8_below HBa.out (Nat.le_refl _) (⟨v0, v1, kk, v3, v4, v5, v6, v7⟩ : Po))
      simp only [put8, po0] at HY
      clear r0 r1 r2 r3 r4 r5 r6 r7 f0 f1 f2 f3 f4 f5 f6 f7 z0 z1 z2 z3 z4 z5 z6 z7 y0 y1 y2 y3 y4 y5 y6 y7
      generalize ((((((((wa.setCell ⟨w.heap.size, 0, none⟩ (.int .i64 v0)).setCell ⟨w.heap.size, 1, none⟩ (.int .i64 v1)).setCell ⟨w.heap.size, 2, none⟩ (.int .u8 kk)).setCell ⟨w.heap.size, 3, none⟩ (.int .i64 v3)).setCell ⟨w.heap.size, 4, none⟩ (.int .i64 v4)).setCell ⟨w.heap.size, 5, none⟩ (.int .i64 v5)).setCell ⟨w.heap.size, 6, none⟩ (.int .i64 v6)).setCell ⟨w.heap.size, 7, none⟩ (.int .i64 v7)) = W3 at *
      obtain ⟨HY, HBY⟩ := HY
      have zl3 := HY.1
      obtain ⟨r0, r1, r2, r3, r4, r5, r6, r7⟩ := HY.cells
      dsimp only at r0 r1 r2 r3 r4 r5 r6 r7
      have Hres := Lib.hid HBY
      clear HBY HY
      refine bodyPost_ret (v := .tuple #[.agg #[.int .i64 v0, .int .i64 v1, .int .u8 kk, .int .i64 v3, .int .i64 v4, .int .i64 v5, .int .i64 v6, .int .i64 v7], .int .i64 0]) (by simp [results, Tryz.results7, go_sem, zl3, r0, r1, r2, r3, r4, r5, r6, r7]) rfl ⟨?_, Hres.out⟩
      rw [HE2.out]
    · have HE2 := Lib.hid (show readL l = (po0, 4) from by rw [HE.out]; exact if_neg (fun h => hll (hl2.symm.trans h.2)))
      have hb2 : (l2 == l) = false := by simpa using hll
      clear hok HE hl2 hll
      obtain ⟨r0, r1, r2, r3, r4, r5, r6, r7, f0, f1, f2, f3, f4, f5, f6, f7⟩ := HRa.out.all
      simp only [po0] at r0 r1 r2 r3 r4 r5 r6 r7
      go_wp2_with fail
      have HY := And.intro (HRa.out.put po0).1 (put8_below HBa.out (Nat.le_refl _) po0)
      simp only [put8, po0] at HY
      clear r0 r1 r2 r3 r4 r5 r6 r7 f0 f1 f2 f3 f4 f5 f6 f7
      generalize ((((((((wa.setCell ⟨w.heap.size, 0, none⟩ (.int .i64 0)).setCell ⟨w.heap.size, 1, none⟩ (.int .i64 0)).setCell ⟨w.heap.size, 2, none⟩ (.int .u8 0)).setCell ⟨w.heap.size, 3, none⟩ (.int .i64 0)).setCell ⟨w.heap.size, 4, none⟩ (.int .i64 0)).setCell ⟨w.heap.size, 5, none⟩ (.int .i64 0)).setCell ⟨w.heap.size, 6, none⟩ (.int .i64 0)).setCell ⟨w.heap.size, 7, none⟩ (.int .i64 0)) = W3 at *
      obtain ⟨HY, HBY⟩ := HY
      have zl3 := HY.1
      obtain ⟨r0, r1, r2, r3, r4, r5, r6, r7⟩ := HY.cells
      dsimp only at r0 r1 r2 r3 r4 r5 r6 r7
      have Hres := Lib.hid HBY
      clear HBY HY
      refine bodyPost_ret (v := .tuple #[.agg #[.int .i64 0, .int .i64 0, .int .u8 0, .int .i64 0, .int .i64 0, .int .i64 0, .int .i64 0, .int .i64 0], .int .i64 4]) (by simp [results, Tryz.results7, go_sem, zl3, r0, r1, r2, r3, r4, r5, r6, r7]) rfl ⟨?_, Hres.out⟩
      rw [HE2.out]; rfl
  · obtain ⟨a0, a1, a2, a3, a4, a5, a6, rfl⟩ := list7 HN.out
    obtain ⟨e0, e1, e2⟩ : a0 = x0 ∧ a1 = x1 ∧ a2 = x2 := by simpa using HG.out
    obtain ⟨v3, hv3⟩ : ∃ v, atoiV a3 = v := ⟨_, rfl⟩
    obtain ⟨v4, hv4⟩ : ∃ v, atoiV a4 = v := ⟨_, rfl⟩
    obtain ⟨v5, hv5⟩ : ∃ v, atoiV a5 = v := ⟨_, rfl⟩
    obtain ⟨v6, hv6⟩ : ∃ v, atoiV a6 = v := ⟨_, rfl⟩
    have M3 := Lib.hid (show ∀ W, Below w6.heap.size w6 W → Calls Tryz.prog 25 #[.int .i64 3, .pointer (some ⟨B4, 0, none⟩)] W fun e w' => e = .returned (.int .i64 v3) ∧ Below w6.heap.size w6 w' ∧ Below W.heap.size W w' from fun W hB => by rw [← hv3]; exact CN.out 3 a3 W rfl hB)
    have M4 := Lib.hid (show ∀ W, Below w6.heap.size w6 W → Calls Tryz.prog 25 #[.int .i64 4, .pointer (some ⟨B4, 0, none⟩)] W fun e w' => e = .returned (.int .i64 v4) ∧ Below w6.heap.size w6 w' ∧ Below W.heap.size W w' from fun W hB => by rw [← hv4]; exact CN.out 4 a4 W rfl hB)
    have M5 := Lib.hid (show ∀ W, Below w6.heap.size w6 W → Calls Tryz.prog 25 #[.int .i64 5, .pointer (some ⟨B4, 0, none⟩)] W fun e w' => e = .returned (.int .i64 v5) ∧ Below w6.heap.size w6 w' ∧ Below W.heap.size W w' from fun W hB => by rw [← hv5]; exact CN.out 5 a5 W rfl hB)
    have M6 := Lib.hid (show ∀ W, Below w6.heap.size w6 W → Calls Tryz.prog 25 #[.int .i64 6, .pointer (some ⟨B4, 0, none⟩)] W fun e w' => e = .returned (.int .i64 v6) ∧ Below w6.heap.size w6 w' ∧ Below W.heap.size W w' from fun W hB => by rw [← hv6]; exact CN.out 6 a6 W rfl hB)
    have HP := Lib.hid (show paA [a0, a1, a2, a3, a4, a5, a6] = some (⟨v0, v1, kk, 0, v3, v4, v5, v6⟩ : Po) from by simp only [paA, hv3, hv4, hv5, hv6, e0, e1, e2, HV.out.1, HV.out.2.1, ← HKK.out])
    have HS := Lib.hid HWS.out
    clear HG CN C0 C1 C2 HV hv3 hv4 hv5 hv6 e0 e1 e2
    go_wp2_with fail
    refine (M3.out _ HB7.out).mono ?_
    rintro e u3 ⟨rfl, hB, hB'⟩
    have HU3 := Lib.hid hB
    have HX3' := Lib.hid (HX7.out.below' hB')
    clear hB hB'
    go_wp2_with fail
    refine (M4.out _ HU3.out).mono ?_
    rintro e u4 ⟨rfl, hB, hB'⟩
    have HU4 := Lib.hid hB
    have HX4' := Lib.hid (HX3'.out.below' hB')
    clear hB hB'
    go_wp2_with fail
    refine (M5.out _ HU4.out).mono ?_
    rintro e u5 ⟨rfl, hB, hB'⟩
    have HU5 := Lib.hid hB
    have HX5' := Lib.hid (HX4'.out.below' hB')
    clear hB hB'
    go_wp2_with fail
    refine (M6.out _ HU5.out).mono ?_
    rintro e u6 ⟨rfl, hB, hB'⟩
    have HU6 := Lib.hid hB
    have HX6' := Lib.hid (HX5'.out.below' hB')
    clear hB hB'
    obtain ⟨z0, z1, z2, z3, z4, z5, z6, z7, y0, y1, y2, y3, y4, y5, y6, y7⟩ := HX6'.out.all
    go_upto_region 11 with (fail)
    have HX9 := Lib.hid (HX6'.out.set4 v3 v4 v5 v6)
    have HB9 := Lib.hid (((((HU6.out.setCell (p := ⟨B7, 4, none⟩) HLE.out (.int .i64 v3)).setCell (p := ⟨B7, 5, none⟩) HLE.out (.int .i64 v4)).setCell (p := ⟨B7, 6, none⟩) HLE.out (.int .i64 v5)).setCell (p := ⟨B7, 7, none⟩) HLE.out (.int .i64 v6)))
    generalize ((((u6.setCell ⟨B7, 4, none⟩ (.int .i64 v3)).setCell ⟨B7, 5, none⟩ (.int .i64 v4)).setCell ⟨B7, 6, none⟩ (.int .i64 v5)).setCell ⟨B7, 7, none⟩ (.int .i64 v6)) = W9 at *
    clear z0 z1 z2 z3 z4 z5 z6 z7 y0 y1 y2 y3 y4 y5 y6 y7
    obtain ⟨z0, z1, z2, z3, z4, z5, z6, z7, y0, y1, y2, y3, y4, y5, y6, y7⟩ := HX9.out.all
    dsimp only at z0 z1 z2 z3 z4 z5 z6 z7
    go_wp2_with fail
    have hkk0 : 0 ≤ kk ∧ kk ≤ 3 := by rw [HKK.out]; exact kindI_bd _
    refine (write_any (⟨v0, v1, kk, 0, v3, v4, v5, v6⟩ : Po) _ ((HW.out.below (below_then HB6.out HB9.out (Nat.le_refl _))).tab) hkk0.1 (by show kk ≤ 255; omega)).mono ?_
    rintro e wa ⟨rfl, hB⟩
    have HXa := Lib.hid (HX9.out.below' hB)
    have HBa := Lib.hid (below_then (below_then HB6.out HB9.out (Nat.le_refl _)) hB (Nat.le_refl _))
    have HRa := Lib.hid (HX6.out.below' (below_then HB9.out hB (Nat.le_refl _)))
    clear hB z0 z1 z2 z3 z4 z5 z6 z7 y0 y1 y2 y3 y4 y5 y6 y7 hkk0
    have HE := Lib.hid (show readL l = ans (some (⟨v0, v1, kk, 0, v3, v4, v5, v6⟩ : Po)) l from by unfold readL; rw [HS.out, HP.out])
    clear HP
    by_cases hok : okPo (⟨v0, v1, kk, 0, v3, v4, v5, v6⟩ : Po)
    case neg =>
      have hc : chkPo (⟨v0, v1, kk, 0, v3, v4, v5, v6⟩ : Po) = 1 := if_neg hok
      have HE2 := Lib.hid (show readL l = (po0, 4) from by rw [HE.out]; exact if_neg (fun h => hok h.1))
      rw [hc, if_neg (by decide)]
      clear hc hok HE
      obtain ⟨r0, r1, r2, r3, r4, r5, r6, r7, f0, f1, f2, f3, f4, f5, f6, f7⟩ := HRa.out.all
      simp only [po0] at r0 r1 r2 r3 r4 r5 r6 r7
      simp only [str]
      go_wp2_with fail
      have HY := And.intro (HRa.out.put po0).1 (put8_below HBa.out (Nat.le_refl _) po0)
      simp only [put8, po0] at HY
      clear r0 r1 r2 r3 r4 r5 r6 r7 f0 f1 f2 f3 f4 f5 f6 f7
      generalize ((((((((wa.setCell ⟨w.heap.size, 0, none⟩ (.int .i64 0)).setCell ⟨w.heap.size, 1, none⟩ (.int .i64 0)).setCell ⟨w.heap.size, 2, none⟩ (.int .u8 0)).setCell ⟨w.heap.size, 3, none⟩ (.int .i64 0)).setCell ⟨w.heap.size, 4, none⟩ (.int .i64 0)).setCell ⟨w.heap.size, 5, none⟩ (.int .i64 0)).setCell ⟨w.heap.size, 6, none⟩ (.int .i64 0)).setCell ⟨w.heap.size, 7, none⟩ (.int .i64 0)) = W3 at *
      obtain ⟨HY, HBY⟩ := HY
      have zl3 := HY.1
      obtain ⟨r0, r1, r2, r3, r4, r5, r6, r7⟩ := HY.cells
      dsimp only at r0 r1 r2 r3 r4 r5 r6 r7
      have Hres := Lib.hid HBY
      clear HBY HY
      refine bodyPost_ret (v := .tuple #[.agg #[.int .i64 0, .int .i64 0, .int .u8 0, .int .i64 0, .int .i64 0, .int .i64 0, .int .i64 0, .int .i64 0], .int .i64 4]) (by simp [results, Tryz.results7, go_sem, zl3, r0, r1, r2, r3, r4, r5, r6, r7]) rfl ⟨?_, Hres.out⟩
      rw [HE2.out]; rfl
    have hc : chkPo (⟨v0, v1, kk, 0, v3, v4, v5, v6⟩ : Po) = 0 := if_pos hok
    rw [hc, if_pos rfl]
    clear hc
    simp only [str]
    obtain ⟨l2, hl2⟩ : ∃ x, lineL (⟨v0, v1, kk, 0, v3, v4, v5, v6⟩ : Po) = x := ⟨_, rfl⟩
    rw [hl2]
    by_cases hll : l2 = l
    · have HE2 := Lib.hid (show readL l = ((⟨v0, v1, kk, 0, v3, v4, v5, v6⟩ : Po), 0) from by rw [HE.out]; exact if_pos ⟨hok, hl2.trans hll⟩)
      subst hll
      clear hok HE hl2
      obtain ⟨r0, r1, r2, r3, r4, r5, r6, r7, f0, f1, f2, f3, f4, f5, f6, f7⟩ := HRa.out.all
      simp only [po0] at r0 r1 r2 r3 r4 r5 r6 r7
      obtain ⟨z0, z1, z2, z3, z4, z5, z6, z7, y0, y1, y2, y3, y4, y5, y6, y7⟩ := HXa.out.all
      dsimp only at z0 z1 z2 z3 z4 z5 z6 z7
      go_wp2_with fail
      have HY := And.intro (HRa.out.put (⟨v0, v1, kk, 0, v3, v4, v5, v6⟩ : Po)).1 (put8_below HBa.out (Nat.le_refl _) (⟨v0, v1, kk, 0, v3, v4, v5, v6⟩ : Po))
      simp only [put8, po0] at HY
      clear r0 r1 r2 r3 r4 r5 r6 r7 f0 f1 f2 f3 f4 f5 f6 f7 z0 z1 z2 z3 z4 z5 z6 z7 y0 y1 y2 y3 y4 y5 y6 y7
      generalize ((((((((wa.setCell ⟨w.heap.size, 0, none⟩ (.int .i64 v0)).setCell ⟨w.heap.size, 1, none⟩ (.int .i64 v1)).setCell ⟨w.heap.size, 2, none⟩ (.int .u8 kk)).setCell ⟨w.heap.size, 3, none⟩ (.int .i64 0)).setCell ⟨w.heap.size, 4, none⟩ (.int .i64 v3)).setCell ⟨w.heap.size, 5, none⟩ (.int .i64 v4)).setCell ⟨w.heap.size, 6, none⟩ (.int .i64 v5)).setCell ⟨w.heap.size, 7, none⟩ (.int .i64 v6)) = W3 at *
      obtain ⟨HY, HBY⟩ := HY
      have zl3 := HY.1
      obtain ⟨r0, r1, r2, r3, r4, r5, r6, r7⟩ := HY.cells
      dsimp only at r0 r1 r2 r3 r4 r5 r6 r7
      have Hres := Lib.hid HBY
      clear HBY HY
      refine bodyPost_ret (v := .tuple #[.agg #[.int .i64 v0, .int .i64 v1, .int .u8 kk, .int .i64 0, .int .i64 v3, .int .i64 v4, .int .i64 v5, .int .i64 v6], .int .i64 0]) (by simp [results, Tryz.results7, go_sem, zl3, r0, r1, r2, r3, r4, r5, r6, r7]) rfl ⟨?_, Hres.out⟩
      rw [HE2.out]
    · have HE2 := Lib.hid (show readL l = (po0, 4) from by rw [HE.out]; exact if_neg (fun h => hll (hl2.symm.trans h.2)))
      have hb2 : (l2 == l) = false := by simpa using hll
      clear hok HE hl2 hll
      obtain ⟨r0, r1, r2, r3, r4, r5, r6, r7, f0, f1, f2, f3, f4, f5, f6, f7⟩ := HRa.out.all
      simp only [po0] at r0 r1 r2 r3 r4 r5 r6 r7
      go_wp2_with fail
      have HY := And.intro (HRa.out.put po0).1 (put8_below HBa.out (Nat.le_refl _) po0)
      simp only [put8, po0] at HY
      clear r0 r1 r2 r3 r4 r5 r6 r7 f0 f1 f2 f3 f4 f5 f6 f7
      generalize ((((((((wa.setCell ⟨w.heap.size, 0, none⟩ (.int .i64 0)).setCell ⟨w.heap.size, 1, none⟩ (.int .i64 0)).setCell ⟨w.heap.size, 2, none⟩ (.int .u8 0)).setCell ⟨w.heap.size, 3, none⟩ (.int .i64 0)).setCell ⟨w.heap.size, 4, none⟩ (.int .i64 0)).setCell ⟨w.heap.size, 5, none⟩ (.int .i64 0)).setCell ⟨w.heap.size, 6, none⟩ (.int .i64 0)).setCell ⟨w.heap.size, 7, none⟩ (.int .i64 0)) = W3 at *
      obtain ⟨HY, HBY⟩ := HY
      have zl3 := HY.1
      obtain ⟨r0, r1, r2, r3, r4, r5, r6, r7⟩ := HY.cells
      dsimp only at r0 r1 r2 r3 r4 r5 r6 r7
      have Hres := Lib.hid HBY
      clear HBY HY
      refine bodyPost_ret (v := .tuple #[.agg #[.int .i64 0, .int .i64 0, .int .u8 0, .int .i64 0, .int .i64 0, .int .i64 0, .int .i64 0, .int .i64 0], .int .i64 4]) (by simp [results, Tryz.results7, go_sem, zl3, r0, r1, r2, r3, r4, r5, r6, r7]) rfl ⟨?_, Hres.out⟩
      rw [HE2.out]; rfl
  · obtain ⟨a0, a1, a2, a3, a4, a5, a6, a7, rfl⟩ := list8 HN.out
    obtain ⟨e0, e1, e2⟩ : a0 = x0 ∧ a1 = x1 ∧ a2 = x2 := by simpa using HG.out
    obtain ⟨v3, hv3⟩ : ∃ v, atoiV a3 = v := ⟨_, rfl⟩
    obtain ⟨v4, hv4⟩ : ∃ v, atoiV a4 = v := ⟨_, rfl⟩
    obtain ⟨v5, hv5⟩ : ∃ v, atoiV a5 = v := ⟨_, rfl⟩
    obtain ⟨v6, hv6⟩ : ∃ v, atoiV a6 = v := ⟨_, rfl⟩
    obtain ⟨v7, hv7⟩ : ∃ v, atoiV a7 = v := ⟨_, rfl⟩
    have M3 := Lib.hid (show ∀ W, Below w6.heap.size w6 W → Calls Tryz.prog 25 #[.int .i64 3, .pointer (some ⟨B4, 0, none⟩)] W fun e w' => e = .returned (.int .i64 v3) ∧ Below w6.heap.size w6 w' ∧ Below W.heap.size W w' from fun W hB => by rw [← hv3]; exact CN.out 3 a3 W rfl hB)
    have M4 := Lib.hid (show ∀ W, Below w6.heap.size w6 W → Calls Tryz.prog 25 #[.int .i64 4, .pointer (some ⟨B4, 0, none⟩)] W fun e w' => e = .returned (.int .i64 v4) ∧ Below w6.heap.size w6 w' ∧ Below W.heap.size W w' from fun W hB => by rw [← hv4]; exact CN.out 4 a4 W rfl hB)
    have M5 := Lib.hid (show ∀ W, Below w6.heap.size w6 W → Calls Tryz.prog 25 #[.int .i64 5, .pointer (some ⟨B4, 0, none⟩)] W fun e w' => e = .returned (.int .i64 v5) ∧ Below w6.heap.size w6 w' ∧ Below W.heap.size W w' from fun W hB => by rw [← hv5]; exact CN.out 5 a5 W rfl hB)
    have M6 := Lib.hid (show ∀ W, Below w6.heap.size w6 W → Calls Tryz.prog 25 #[.int .i64 6, .pointer (some ⟨B4, 0, none⟩)] W fun e w' => e = .returned (.int .i64 v6) ∧ Below w6.heap.size w6 w' ∧ Below W.heap.size W w' from fun W hB => by rw [← hv6]; exact CN.out 6 a6 W rfl hB)
    have M7 := Lib.hid (show ∀ W, Below w6.heap.size w6 W → Calls Tryz.prog 25 #[.int .i64 7, .pointer (some ⟨B4, 0, none⟩)] W fun e w' => e = .returned (.int .i64 v7) ∧ Below w6.heap.size w6 w' ∧ Below W.heap.size W w' from fun W hB => by rw [← hv7]; exact CN.out 7 a7 W rfl hB)
    have HP := Lib.hid (show paA [a0, a1, a2, a3, a4, a5, a6, a7] = some (⟨v0, v1, kk, v3, v4, v5, v6, v7⟩ : Po) from by simp only [paA, hv3, hv4, hv5, hv6, hv7, e0, e1, e2, HV.out.1, HV.out.2.1, ← HKK.out])
    have HS := Lib.hid HWS.out
    clear HG CN C0 C1 C2 HV hv3 hv4 hv5 hv6 hv7 e0 e1 e2
    go_wp2_with fail
    refine (M3.out _ HB7.out).mono ?_
    rintro e u3 ⟨rfl, hB, hB'⟩
    have HU3 := Lib.hid hB
    have HX3' := Lib.hid (HX7.out.below' hB')
    clear hB hB'
    obtain ⟨z0, z1, z2, z3, z4, z5, z6, z7, y0, y1, y2, y3, y4, y5, y6, y7⟩ := HX3'.out.all
    go_upto_region 10 with (fail)
    have HX8 := Lib.hid (HX3'.out.set3 v3)
    have HB8 := Lib.hid (HU3.out.setCell (p := ⟨B7, 3, none⟩) HLE.out (.int .i64 v3))
    generalize u3.setCell ⟨B7, 3, none⟩ (.int .i64 v3) = W8 at *
    clear z0 z1 z2 z3 z4 z5 z6 z7 y0 y1 y2 y3 y4 y5 y6 y7
    go_wp2_with fail
    refine (M4.out _ HB8.out).mono ?_
    rintro e u4 ⟨rfl, hB, hB'⟩
    have HU4 := Lib.hid hB
    have HX4' := Lib.hid (HX8.out.below' hB')
    clear hB hB'
    go_wp2_with fail
    refine (M5.out _ HU4.out).mono ?_
    rintro e u5 ⟨rfl, hB, hB'⟩
    have HU5 := Lib.hid hB
    have HX5' := Lib.hid (HX4'.out.below' hB')
    clear hB hB'
    go_wp2_with fail
    refine (M6.out _ HU5.out).mono ?_
    rintro e u6 ⟨rfl, hB, hB'⟩
    have HU6 := Lib.hid hB
    have HX6' := Lib.hid (HX5'.out.below' hB')
    clear hB hB'
    go_wp2_with fail
    refine (M7.out _ HU6.out).mono ?_
    rintro e u7 ⟨rfl, hB, hB'⟩
    have HU7 := Lib.hid hB
    have HX7' := Lib.hid (HX6'.out.below' hB')
    clear hB hB'
    obtain ⟨z0, z1, z2, z3, z4, z5, z6, z7, y0, y1, y2, y3, y4, y5, y6, y7⟩ := HX7'.out.all
    go_upto_region 11 with (fail)
    have HX9 := Lib.hid (HX7'.out.set4 v4 v5 v6 v7)
    have HB9 := Lib.hid (((((HU7.out.setCell (p := ⟨B7, 4, none⟩) HLE.out (.int .i64 v4)).setCell (p := ⟨B7, 5, none⟩) HLE.out (.int .i64 v5)).setCell (p := ⟨B7, 6, none⟩) HLE.out (.int .i64 v6)).setCell (p := ⟨B7, 7, none⟩) HLE.out (.int .i64 v7)))
    generalize ((((u7.setCell ⟨B7, 4, none⟩ (.int .i64 v4)).setCell ⟨B7, 5, none⟩ (.int .i64 v5)).setCell ⟨B7, 6, none⟩ (.int .i64 v6)).setCell ⟨B7, 7, none⟩ (.int .i64 v7)) = W9 at *
    clear z0 z1 z2 z3 z4 z5 z6 z7 y0 y1 y2 y3 y4 y5 y6 y7
    obtain ⟨z0, z1, z2, z3, z4, z5, z6, z7, y0, y1, y2, y3, y4, y5, y6, y7⟩ := HX9.out.all
    dsimp only at z0 z1 z2 z3 z4 z5 z6 z7
    go_wp2_with fail
    have hkk0 : 0 ≤ kk ∧ kk ≤ 3 := by rw [HKK.out]; exact kindI_bd _
    refine (write_any (⟨v0, v1, kk, v3, v4, v5, v6, v7⟩ : Po) _ ((HW.out.below (below_then HB6.out HB9.out (Nat.le_refl _))).tab) hkk0.1 (by show kk ≤ 255; omega)).mono ?_
    rintro e wa ⟨rfl, hB⟩
    have HXa := Lib.hid (HX9.out.below' hB)
    have HBa := Lib.hid (below_then (below_then HB6.out HB9.out (Nat.le_refl _)) hB (Nat.le_refl _))
    have HRa := Lib.hid (HX6.out.below' (below_then HB9.out hB (Nat.le_refl _)))
    clear hB z0 z1 z2 z3 z4 z5 z6 z7 y0 y1 y2 y3 y4 y5 y6 y7 hkk0
    have HE := Lib.hid (show readL l = ans (some (⟨v0, v1, kk, v3, v4, v5, v6, v7⟩ : Po)) l from by unfold readL; rw [HS.out, HP.out])
    clear HP
    by_cases hok : okPo (⟨v0, v1, kk, v3, v4, v5, v6, v7⟩ : Po)
    case neg =>
      have hc : chkPo (⟨v0, v1, kk, v3, v4, v5, v6, v7⟩ : Po) = 1 := if_neg hok
      have HE2 := Lib.hid (show readL l = (po0, 4) from by rw [HE.out]; exact if_neg (fun h => hok h.1))
      rw [hc, if_neg (by decide)]
      clear hc hok HE
      obtain ⟨r0, r1, r2, r3, r4, r5, r6, r7, f0, f1, f2, f3, f4, f5, f6, f7⟩ := HRa.out.all
      simp only [po0] at r0 r1 r2 r3 r4 r5 r6 r7
      simp only [str]
      go_wp2_with fail
      have HY := And.intro (HRa.out.put po0).1 (put8_below HBa.out (Nat.le_refl _) po0)
      simp only [put8, po0] at HY
      clear r0 r1 r2 r3 r4 r5 r6 r7 f0 f1 f2 f3 f4 f5 f6 f7
      generalize ((((((((wa.setCell ⟨w.heap.size, 0, none⟩ (.int .i64 0)).setCell ⟨w.heap.size, 1, none⟩ (.int .i64 0)).setCell ⟨w.heap.size, 2, none⟩ (.int .u8 0)).setCell ⟨w.heap.size, 3, none⟩ (.int .i64 0)).setCell ⟨w.heap.size, 4, none⟩ (.int .i64 0)).setCell ⟨w.heap.size, 5, none⟩ (.int .i64 0)).setCell ⟨w.heap.size, 6, none⟩ (.int .i64 0)).setCell ⟨w.heap.size, 7, none⟩ (.int .i64 0)) = W3 at *
      obtain ⟨HY, HBY⟩ := HY
      have zl3 := HY.1
      obtain ⟨r0, r1, r2, r3, r4, r5, r6, r7⟩ := HY.cells
      dsimp only at r0 r1 r2 r3 r4 r5 r6 r7
      have Hres := Lib.hid HBY
      clear HBY HY
      refine bodyPost_ret (v := .tuple #[.agg #[.int .i64 0, .int .i64 0, .int .u8 0, .int .i64 0, .int .i64 0, .int .i64 0, .int .i64 0, .int .i64 0], .int .i64 4]) (by simp [results, Tryz.results7, go_sem, zl3, r0, r1, r2, r3, r4, r5, r6, r7]) rfl ⟨?_, Hres.out⟩
      rw [HE2.out]; rfl
    have hc : chkPo (⟨v0, v1, kk, v3, v4, v5, v6, v7⟩ : Po) = 0 := if_pos hok
    rw [hc, if_pos rfl]
    clear hc
    simp only [str]
    obtain ⟨l2, hl2⟩ : ∃ x, lineL (⟨v0, v1, kk, v3, v4, v5, v6, v7⟩ : Po) = x := ⟨_, rfl⟩
    rw [hl2]
    by_cases hll : l2 = l
    · have HE2 := Lib.hid (show readL l = ((⟨v0, v1, kk, v3, v4, v5, v6, v7⟩ : Po), 0) from by rw [HE.out]; exact if_pos ⟨hok, hl2.trans hll⟩)
      subst hll
      clear hok HE hl2
      obtain ⟨r0, r1, r2, r3, r4, r5, r6, r7, f0, f1, f2, f3, f4, f5, f6, f7⟩ := HRa.out.all
      simp only [po0] at r0 r1 r2 r3 r4 r5 r6 r7
      obtain ⟨z0, z1, z2, z3, z4, z5, z6, z7, y0, y1, y2, y3, y4, y5, y6, y7⟩ := HXa.out.all
      dsimp only at z0 z1 z2 z3 z4 z5 z6 z7
      go_wp2_with fail
      have HY := And.intro (HRa.out.put (⟨v0, v1, kk, v3, v4, v5, v6, v7⟩ : Po)).1 (put8_below HBa.out (Nat.le_refl _) (⟨v0, v1, kk, v3, v4, v5, v6, v7⟩ : Po))
      simp only [put8, po0] at HY
      clear r0 r1 r2 r3 r4 r5 r6 r7 f0 f1 f2 f3 f4 f5 f6 f7 z0 z1 z2 z3 z4 z5 z6 z7 y0 y1 y2 y3 y4 y5 y6 y7
      generalize ((((((((wa.setCell ⟨w.heap.size, 0, none⟩ (.int .i64 v0)).setCell ⟨w.heap.size, 1, none⟩ (.int .i64 v1)).setCell ⟨w.heap.size, 2, none⟩ (.int .u8 kk)).setCell ⟨w.heap.size, 3, none⟩ (.int .i64 v3)).setCell ⟨w.heap.size, 4, none⟩ (.int .i64 v4)).setCell ⟨w.heap.size, 5, none⟩ (.int .i64 v5)).setCell ⟨w.heap.size, 6, none⟩ (.int .i64 v6)).setCell ⟨w.heap.size, 7, none⟩ (.int .i64 v7)) = W3 at *
      obtain ⟨HY, HBY⟩ := HY
      have zl3 := HY.1
      obtain ⟨r0, r1, r2, r3, r4, r5, r6, r7⟩ := HY.cells
      dsimp only at r0 r1 r2 r3 r4 r5 r6 r7
      have Hres := Lib.hid HBY
      clear HBY HY
      refine bodyPost_ret (v := .tuple #[.agg #[.int .i64 v0, .int .i64 v1, .int .u8 kk, .int .i64 v3, .int .i64 v4, .int .i64 v5, .int .i64 v6, .int .i64 v7], .int .i64 0]) (by simp [results, Tryz.results7, go_sem, zl3, r0, r1, r2, r3, r4, r5, r6, r7]) rfl ⟨?_, Hres.out⟩
      rw [HE2.out]
    · have HE2 := Lib.hid (show readL l = (po0, 4) from by rw [HE.out]; exact if_neg (fun h => hll (hl2.symm.trans h.2)))
      have hb2 : (l2 == l) = false := by simpa using hll
      clear hok HE hl2 hll
      obtain ⟨r0, r1, r2, r3, r4, r5, r6, r7, f0, f1, f2, f3, f4, f5, f6, f7⟩ := HRa.out.all
      simp only [po0] at r0 r1 r2 r3 r4 r5 r6 r7
      go_wp2_with fail
      have HY := And.intro (HRa.out.put po0).1 (put8_below HBa.out (Nat.le_refl _) po0)
      simp only [put8, po0] at HY
      clear r0 r1 r2 r3 r4 r5 r6 r7 f0 f1 f2 f3 f4 f5 f6 f7
      generalize ((((((((wa.setCell ⟨w.heap.size, 0, none⟩ (.int .i64 0)).setCell ⟨w.heap.size, 1, none⟩ (.int .i64 0)).setCell ⟨w.heap.size, 2, none⟩ (.int .u8 0)).setCell ⟨w.heap.size, 3, none⟩ (.int .i64 0)).setCell ⟨w.heap.size, 4, none⟩ (.int .i64 0)).setCell ⟨w.heap.size, 5, none⟩ (.int .i64 0)).setCell ⟨w.heap.size, 6, none⟩ (.int .i64 0)).setCell ⟨w.heap.size, 7, none⟩ (.int .i64 0)) = W3 at *
      obtain ⟨HY, HBY⟩ := HY
      have zl3 := HY.1
      obtain ⟨r0, r1, r2, r3, r4, r5, r6, r7⟩ := HY.cells
      dsimp only at r0 r1 r2 r3 r4 r5 r6 r7
      have Hres := Lib.hid HBY
      clear HBY HY
      refine bodyPost_ret (v := .tuple #[.agg #[.int .i64 0, .int .i64 0, .int .u8 0, .int .i64 0, .int .i64 0, .int .i64 0, .int .i64 0, .int .i64 0], .int .i64 4]) (by simp [results, Tryz.results7, go_sem, zl3, r0, r1, r2, r3, r4, r5, r6, r7]) rfl ⟨?_, Hres.out⟩
      rw [HE2.out]; rfl
  · obtain ⟨a0, a1, a2, a3, a4, a5, a6, rfl⟩ := list7 HN.out
    obtain ⟨e0, e1, e2⟩ : a0 = x0 ∧ a1 = x1 ∧ a2 = x2 := by simpa using HG.out
    obtain ⟨v3, hv3⟩ : ∃ v, atoiV a3 = v := ⟨_, rfl⟩
    obtain ⟨v4, hv4⟩ : ∃ v, atoiV a4 = v := ⟨_, rfl⟩
    obtain ⟨v5, hv5⟩ : ∃ v, atoiV a5 = v := ⟨_, rfl⟩
    obtain ⟨v6, hv6⟩ : ∃ v, atoiV a6 = v := ⟨_, rfl⟩
    have M3 := Lib.hid (show ∀ W, Below w6.heap.size w6 W → Calls Tryz.prog 25 #[.int .i64 3, .pointer (some ⟨B4, 0, none⟩)] W fun e w' => e = .returned (.int .i64 v3) ∧ Below w6.heap.size w6 w' ∧ Below W.heap.size W w' from fun W hB => by rw [← hv3]; exact CN.out 3 a3 W rfl hB)
    have M4 := Lib.hid (show ∀ W, Below w6.heap.size w6 W → Calls Tryz.prog 25 #[.int .i64 4, .pointer (some ⟨B4, 0, none⟩)] W fun e w' => e = .returned (.int .i64 v4) ∧ Below w6.heap.size w6 w' ∧ Below W.heap.size W w' from fun W hB => by rw [← hv4]; exact CN.out 4 a4 W rfl hB)
    have M5 := Lib.hid (show ∀ W, Below w6.heap.size w6 W → Calls Tryz.prog 25 #[.int .i64 5, .pointer (some ⟨B4, 0, none⟩)] W fun e w' => e = .returned (.int .i64 v5) ∧ Below w6.heap.size w6 w' ∧ Below W.heap.size W w' from fun W hB => by rw [← hv5]; exact CN.out 5 a5 W rfl hB)
    have M6 := Lib.hid (show ∀ W, Below w6.heap.size w6 W → Calls Tryz.prog 25 #[.int .i64 6, .pointer (some ⟨B4, 0, none⟩)] W fun e w' => e = .returned (.int .i64 v6) ∧ Below w6.heap.size w6 w' ∧ Below W.heap.size W w' from fun W hB => by rw [← hv6]; exact CN.out 6 a6 W rfl hB)
    have HP := Lib.hid (show paA [a0, a1, a2, a3, a4, a5, a6] = some (⟨v0, v1, kk, 0, v3, v4, v5, v6⟩ : Po) from by simp only [paA, hv3, hv4, hv5, hv6, e0, e1, e2, HV.out.1, HV.out.2.1, ← HKK.out])
    have HS := Lib.hid HWS.out
    clear HG CN C0 C1 C2 HV hv3 hv4 hv5 hv6 e0 e1 e2
    go_wp2_with fail
    refine (M3.out _ HB7.out).mono ?_
    rintro e u3 ⟨rfl, hB, hB'⟩
    have HU3 := Lib.hid hB
    have HX3' := Lib.hid (HX7.out.below' hB')
    clear hB hB'
    go_wp2_with fail
    refine (M4.out _ HU3.out).mono ?_
    rintro e u4 ⟨rfl, hB, hB'⟩
    have HU4 := Lib.hid hB
    have HX4' := Lib.hid (HX3'.out.below' hB')
    clear hB hB'
    go_wp2_with fail
    refine (M5.out _ HU4.out).mono ?_
    rintro e u5 ⟨rfl, hB, hB'⟩
    have HU5 := Lib.hid hB
    have HX5' := Lib.hid (HX4'.out.below' hB')
    clear hB hB'
    go_wp2_with fail
    refine (M6.out _ HU5.out).mono ?_
    rintro e u6 ⟨rfl, hB, hB'⟩
    have HU6 := Lib.hid hB
    have HX6' := Lib.hid (HX5'.out.below' hB')
    clear hB hB'
    obtain ⟨z0, z1, z2, z3, z4, z5, z6, z7, y0, y1, y2, y3, y4, y5, y6, y7⟩ := HX6'.out.all
    go_upto_region 11 with (fail)
    have HX9 := Lib.hid (HX6'.out.set4 v3 v4 v5 v6)
    have HB9 := Lib.hid (((((HU6.out.setCell (p := ⟨B7, 4, none⟩) HLE.out (.int .i64 v3)).setCell (p := ⟨B7, 5, none⟩) HLE.out (.int .i64 v4)).setCell (p := ⟨B7, 6, none⟩) HLE.out (.int .i64 v5)).setCell (p := ⟨B7, 7, none⟩) HLE.out (.int .i64 v6)))
    generalize ((((u6.setCell ⟨B7, 4, none⟩ (.int .i64 v3)).setCell ⟨B7, 5, none⟩ (.int .i64 v4)).setCell ⟨B7, 6, none⟩ (.int .i64 v5)).setCell ⟨B7, 7, none⟩ (.int .i64 v6)) = W9 at *
    clear z0 z1 z2 z3 z4 z5 z6 z7 y0 y1 y2 y3 y4 y5 y6 y7
    obtain ⟨z0, z1, z2, z3, z4, z5, z6, z7, y0, y1, y2, y3, y4, y5, y6, y7⟩ := HX9.out.all
    dsimp only at z0 z1 z2 z3 z4 z5 z6 z7
    go_wp2_with fail
    have hkk0 : 0 ≤ kk ∧ kk ≤ 3 := by rw [HKK.out]; exact kindI_bd _
    refine (write_any (⟨v0, v1, kk, 0, v3, v4, v5, v6⟩ : Po) _ ((HW.out.below (below_then HB6.out HB9.out (Nat.le_refl _))).tab) hkk0.1 (by show kk ≤ 255; omega)).mono ?_
    rintro e wa ⟨rfl, hB⟩
    have HXa := Lib.hid (HX9.out.below' hB)
    have HBa := Lib.hid (below_then (below_then HB6.out HB9.out (Nat.le_refl _)) hB (Nat.le_refl _))
    have HRa := Lib.hid (HX6.out.below' (below_then HB9.out hB (Nat.le_refl _)))
    clear hB z0 z1 z2 z3 z4 z5 z6 z7 y0 y1 y2 y3 y4 y5 y6 y7 hkk0
    have HE := Lib.hid (show readL l = ans (some (⟨v0, v1, kk, 0, v3, v4, v5, v6⟩ : Po)) l from by unfold readL; rw [HS.out, HP.out])
    clear HP
    by_cases hok : okPo (⟨v0, v1, kk, 0, v3, v4, v5, v6⟩ : Po)
    case neg =>
      have hc : chkPo (⟨v0, v1, kk, 0, v3, v4, v5, v6⟩ : Po) = 1 := if_neg hok
      have HE2 := Lib.hid (show readL l = (po0, 4) from by rw [HE.out]; exact if_neg (fun h => hok h.1))
      rw [hc, if_neg (by decide)]
      clear hc hok HE
      obtain ⟨r0, r1, r2, r3, r4, r5, r6, r7, f0, f1, f2, f3, f4, f5, f6, f7⟩ := HRa.out.all
      simp only [po0] at r0 r1 r2 r3 r4 r5 r6 r7
      simp only [str]
      go_wp2_with fail
      have HY := And.intro (HRa.out.put po0).1 (put8_below HBa.out (Nat.le_refl _) po0)
      simp only [put8, po0] at HY
      clear r0 r1 r2 r3 r4 r5 r6 r7 f0 f1 f2 f3 f4 f5 f6 f7
      generalize ((((((((wa.setCell ⟨w.heap.size, 0, none⟩ (.int .i64 0)).setCell ⟨w.heap.size, 1, none⟩ (.int .i64 0)).setCell ⟨w.heap.size, 2, none⟩ (.int .u8 0)).setCell ⟨w.heap.size, 3, none⟩ (.int .i64 0)).setCell ⟨w.heap.size, 4, none⟩ (.int .i64 0)).setCell ⟨w.heap.size, 5, none⟩ (.int .i64 0)).setCell ⟨w.heap.size, 6, none⟩ (.int .i64 0)).setCell ⟨w.heap.size, 7, none⟩ (.int .i64 0)) = W3 at *
      obtain ⟨HY, HBY⟩ := HY
      have zl3 := HY.1
      obtain ⟨r0, r1, r2, r3, r4, r5, r6, r7⟩ := HY.cells
      dsimp only at r0 r1 r2 r3 r4 r5 r6 r7
      have Hres := Lib.hid HBY
      clear HBY HY
      refine bodyPost_ret (v := .tuple #[.agg #[.int .i64 0, .int .i64 0, .int .u8 0, .int .i64 0, .int .i64 0, .int .i64 0, .int .i64 0, .int .i64 0], .int .i64 4]) (by simp [results, Tryz.results7, go_sem, zl3, r0, r1, r2, r3, r4, r5, r6, r7]) rfl ⟨?_, Hres.out⟩
      rw [HE2.out]; rfl
    have hc : chkPo (⟨v0, v1, kk, 0, v3, v4, v5, v6⟩ : Po) = 0 := if_pos hok
    rw [hc, if_pos rfl]
    clear hc
    simp only [str]
    obtain ⟨l2, hl2⟩ : ∃ x, lineL (⟨v0, v1, kk, 0, v3, v4, v5, v6⟩ : Po) = x := ⟨_, rfl⟩
    rw [hl2]
    by_cases hll : l2 = l
    · have HE2 := Lib.hid (show readL l = ((⟨v0, v1, kk, 0, v3, v4, v5, v6⟩ : Po), 0) from by rw [HE.out]; exact if_pos ⟨hok, hl2.trans hll⟩)
      subst hll
      clear hok HE hl2
      obtain ⟨r0, r1, r2, r3, r4, r5, r6, r7, f0, f1, f2, f3, f4, f5, f6, f7⟩ := HRa.out.all
      simp only [po0] at r0 r1 r2 r3 r4 r5 r6 r7
      obtain ⟨z0, z1, z2, z3, z4, z5, z6, z7, y0, y1, y2, y3, y4, y5, y6, y7⟩ := HXa.out.all
      dsimp only at z0 z1 z2 z3 z4 z5 z6 z7
      go_wp2_with fail
      have HY := And.intro (HRa.out.put (⟨v0, v1, kk, 0, v3, v4, v5, v6⟩ : Po)).1 (put8_below HBa.out (Nat.le_refl _) (⟨v0, v1, kk, 0, v3, v4, v5, v6⟩ : Po))
      simp only [put8, po0] at HY
      clear r0 r1 r2 r3 r4 r5 r6 r7 f0 f1 f2 f3 f4 f5 f6 f7 z0 z1 z2 z3 z4 z5 z6 z7 y0 y1 y2 y3 y4 y5 y6 y7
      generalize ((((((((wa.setCell ⟨w.heap.size, 0, none⟩ (.int .i64 v0)).setCell ⟨w.heap.size, 1, none⟩ (.int .i64 v1)).setCell ⟨w.heap.size, 2, none⟩ (.int .u8 kk)).setCell ⟨w.heap.size, 3, none⟩ (.int .i64 0)).setCell ⟨w.heap.size, 4, none⟩ (.int .i64 v3)).setCell ⟨w.heap.size, 5, none⟩ (.int .i64 v4)).setCell ⟨w.heap.size, 6, none⟩ (.int .i64 v5)).setCell ⟨w.heap.size, 7, none⟩ (.int .i64 v6)) = W3 at *
      obtain ⟨HY, HBY⟩ := HY
      have zl3 := HY.1
      obtain ⟨r0, r1, r2, r3, r4, r5, r6, r7⟩ := HY.cells
      dsimp only at r0 r1 r2 r3 r4 r5 r6 r7
      have Hres := Lib.hid HBY
      clear HBY HY
      refine bodyPost_ret (v := .tuple #[.agg #[.int .i64 v0, .int .i64 v1, .int .u8 kk, .int .i64 0, .int .i64 v3, .int .i64 v4, .int .i64 v5, .int .i64 v6], .int .i64 0]) (by simp [results, Tryz.results7, go_sem, zl3, r0, r1, r2, r3, r4, r5, r6, r7]) rfl ⟨?_, Hres.out⟩
      rw [HE2.out]
    · have HE2 := Lib.hid (show readL l = (po0, 4) from by rw [HE.out]; exact if_neg (fun h => hll (hl2.symm.trans h.2)))
      have hb2 : (l2 == l) = false := by simpa using hll
      clear hok HE hl2 hll
      obtain ⟨r0, r1, r2, r3, r4, r5, r6, r7, f0, f1, f2, f3, f4, f5, f6, f7⟩ := HRa.out.all
      simp only [po0] at r0 r1 r2 r3 r4 r5 r6 r7
      go_wp2_with fail
      have HY := And.intro (HRa.out.put po0).1 (put8_below HBa.out (Nat.le_refl _) po0)
      simp only [put8, po0] at HY
      clear r0 r1 r2 r3 r4 r5 r6 r7 f0 f1 f2 f3 f4 f5 f6 f7
      generalize ((((((((wa.setCell ⟨w.heap.size, 0, none⟩ (.int .i64 0)).setCell ⟨w.heap.size, 1, none⟩ (.int .i64 0)).setCell ⟨w.heap.size, 2, none⟩ (.int .u8 0)).setCell ⟨w.heap.size, 3, none⟩ (.int .i64 0)).setCell ⟨w.heap.size, 4, none⟩ (.int .i64 0)).setCell ⟨w.heap.size, 5, none⟩ (.int .i64 0)).setCell ⟨w.heap.size, 6, none⟩ (.int .i64 0)).setCell ⟨w.heap.size, 7, none⟩ (.int .i64 0)) = W3 at *
      obtain ⟨HY, HBY⟩ := HY
      have zl3 := HY.1
      obtain ⟨r0, r1, r2, r3, r4, r5, r6, r7⟩ := HY.cells
      dsimp only at r0 r1 r2 r3 r4 r5 r6 r7
      have Hres := Lib.hid HBY
      clear HBY HY
      refine bodyPost_ret (v := .tuple #[.agg #[.int .i64 0, .int .i64 0, .int .u8 0, .int .i64 0, .int .i64 0, .int .i64 0, .int .i64 0, .int .i64 0], .int .i64 4]) (by simp [results, Tryz.results7, go_sem, zl3, r0, r1, r2, r3, r4, r5, r6, r7]) rfl ⟨?_, Hres.out⟩
      rw [HE2.out]; rfl
  · obtain ⟨a0, a1, a2, a3, a4, a5, a6, a7, rfl⟩ := list8 HN.out
    obtain ⟨e0, e1, e2⟩ : a0 = x0 ∧ a1 = x1 ∧ a2 = x2 := by simpa using HG.out
    obtain ⟨v3, hv3⟩ : ∃ v, atoiV a3 = v := ⟨_, rfl⟩
    obtain ⟨v4, hv4⟩ : ∃ v, atoiV a4 = v := ⟨_, rfl⟩
    obtain ⟨v5, hv5⟩ : ∃ v, atoiV a5 = v := ⟨_, rfl⟩
    obtain ⟨v6, hv6⟩ : ∃ v, atoiV a6 = v := ⟨_, rfl⟩
    obtain ⟨v7, hv7⟩ : ∃ v, atoiV a7 = v := ⟨_, rfl⟩
    have M3 := Lib.hid (show ∀ W, Below w6.heap.size w6 W → Calls Tryz.prog 25 #[.int .i64 3, .pointer (some ⟨B4, 0, none⟩)] W fun e w' => e = .returned (.int .i64 v3) ∧ Below w6.heap.size w6 w' ∧ Below W.heap.size W w' from fun W hB => by rw [← hv3]; exact CN.out 3 a3 W rfl hB)
    have M4 := Lib.hid (show ∀ W, Below w6.heap.size w6 W → Calls Tryz.prog 25 #[.int .i64 4, .pointer (some ⟨B4, 0, none⟩)] W fun e w' => e = .returned (.int .i64 v4) ∧ Below w6.heap.size w6 w' ∧ Below W.heap.size W w' from fun W hB => by rw [← hv4]; exact CN.out 4 a4 W rfl hB)
    have M5 := Lib.hid (show ∀ W, Below w6.heap.size w6 W → Calls Tryz.prog 25 #[.int .i64 5, .pointer (some ⟨B4, 0, none⟩)] W fun e w' => e = .returned (.int .i64 v5) ∧ Below w6.heap.size w6 w' ∧ Below W.heap.size W w' from fun W hB => by rw [← hv5]; exact CN.out 5 a5 W rfl hB)
    have M6 := Lib.hid (show ∀ W, Below w6.heap.size w6 W → Calls Tryz.prog 25 #[.int .i64 6, .pointer (some ⟨B4, 0, none⟩)] W fun e w' => e = .returned (.int .i64 v6) ∧ Below w6.heap.size w6 w' ∧ Below W.heap.size W w' from fun W hB => by rw [← hv6]; exact CN.out 6 a6 W rfl hB)
    have M7 := Lib.hid (show ∀ W, Below w6.heap.size w6 W → Calls Tryz.prog 25 #[.int .i64 7, .pointer (some ⟨B4, 0, none⟩)] W fun e w' => e = .returned (.int .i64 v7) ∧ Below w6.heap.size w6 w' ∧ Below W.heap.size W w' from fun W hB => by rw [← hv7]; exact CN.out 7 a7 W rfl hB)
    have HP := Lib.hid (show paA [a0, a1, a2, a3, a4, a5, a6, a7] = some (⟨v0, v1, kk, v3, v4, v5, v6, v7⟩ : Po) from by simp only [paA, hv3, hv4, hv5, hv6, hv7, e0, e1, e2, HV.out.1, HV.out.2.1, ← HKK.out])
    have HS := Lib.hid HWS.out
    clear HG CN C0 C1 C2 HV hv3 hv4 hv5 hv6 hv7 e0 e1 e2
    go_wp2_with fail
    refine (M3.out _ HB7.out).mono ?_
    rintro e u3 ⟨rfl, hB, hB'⟩
    have HU3 := Lib.hid hB
    have HX3' := Lib.hid (HX7.out.below' hB')
    clear hB hB'
    obtain ⟨z0, z1, z2, z3, z4, z5, z6, z7, y0, y1, y2, y3, y4, y5, y6, y7⟩ := HX3'.out.all
    go_upto_region 10 with (fail)
    have HX8 := Lib.hid (HX3'.out.set3 v3)
    have HB8 := Lib.hid (HU3.out.setCell (p := ⟨B7, 3, none⟩) HLE.out (.int .i64 v3))
    generalize u3.setCell ⟨B7, 3, none⟩ (.int .i64 v3) = W8 at *
    clear z0 z1 z2 z3 z4 z5 z6 z7 y0 y1 y2 y3 y4 y5 y6 y7
    go_wp2_with fail
    refine (M4.out _ HB8.out).mono ?_
    rintro e u4 ⟨rfl, hB, hB'⟩
    have HU4 := Lib.hid hB
    have HX4' := Lib.hid (HX8.out.below' hB')
    clear hB hB'
    go_wp2_with fail
    refine (M5.out _ HU4.out).mono ?_
    rintro e u5 ⟨rfl, hB, hB'⟩
    have HU5 := Lib.hid hB
    have HX5' := Lib.hid (HX4'.out.below' hB')
    clear hB hB'
    go_wp2_with fail
    refine (M6.out _ HU5.out).mono ?_
    rintro e u6 ⟨rfl, hB, hB'⟩
    have HU6 := Lib.hid hB
    have HX6' := Lib.hid (HX5'.out.below' hB')
    clear hB hB'
    go_wp2_with fail
    refine (M7.out _ HU6.out).mono ?_
    rintro e u7 ⟨rfl, hB, hB'⟩
    have HU7 := Lib.hid hB
    have HX7' := Lib.hid (HX6'.out.below' hB')
    clear hB hB'
    obtain ⟨z0, z1, z2, z3, z4, z5, z6, z7, y0, y1, y2, y3, y4, y5, y6, y7⟩ := HX7'.out.all
    go_upto_region 11 with (fail)
    have HX9 := Lib.hid (HX7'.out.set4 v4 v5 v6 v7)
    have HB9 := Lib.hid (((((HU7.out.setCell (p := ⟨B7, 4, none⟩) HLE.out (.int .i64 v4)).setCell (p := ⟨B7, 5, none⟩) HLE.out (.int .i64 v5)).setCell (p := ⟨B7, 6, none⟩) HLE.out (.int .i64 v6)).setCell (p := ⟨B7, 7, none⟩) HLE.out (.int .i64 v7)))
    generalize ((((u7.setCell ⟨B7, 4, none⟩ (.int .i64 v4)).setCell ⟨B7, 5, none⟩ (.int .i64 v5)).setCell ⟨B7, 6, none⟩ (.int .i64 v6)).setCell ⟨B7, 7, none⟩ (.int .i64 v7)) = W9 at *
    clear z0 z1 z2 z3 z4 z5 z6 z7 y0 y1 y2 y3 y4 y5 y6 y7
    obtain ⟨z0, z1, z2, z3, z4, z5, z6, z7, y0, y1, y2, y3, y4, y5, y6, y7⟩ := HX9.out.all
    dsimp only at z0 z1 z2 z3 z4 z5 z6 z7
    go_wp2_with fail
    have hkk0 : 0 ≤ kk ∧ kk ≤ 3 := by rw [HKK.out]; exact kindI_bd _
    refine (write_any (⟨v0, v1, kk, v3, v4, v5, v6, v7⟩ : Po) _ ((HW.out.below (below_then HB6.out HB9.out (Nat.le_refl _))).tab) hkk0.1 (by show kk ≤ 255; omega)).mono ?_
    rintro e wa ⟨rfl, hB⟩
    have HXa := Lib.hid (HX9.out.below' hB)
    have HBa := Lib.hid (below_then (below_then HB6.out HB9.out (Nat.le_refl _)) hB (Nat.le_refl _))
    have HRa := Lib.hid (HX6.out.below' (below_then HB9.out hB (Nat.le_refl _)))
    clear hB z0 z1 z2 z3 z4 z5 z6 z7 y0 y1 y2 y3 y4 y5 y6 y7 hkk0
    have HE := Lib.hid (show readL l = ans (some (⟨v0, v1, kk, v3, v4, v5, v6, v7⟩ : Po)) l from by unfold readL; rw [HS.out, HP.out])
    clear HP
    by_cases hok : okPo (⟨v0, v1, kk, v3, v4, v5, v6, v7⟩ : Po)
    case neg =>
      have hc : chkPo (⟨v0, v1, kk, v3, v4, v5, v6, v7⟩ : Po) = 1 := if_neg hok
      have HE2 := Lib.hid (show readL l = (po0, 4) from by rw [HE.out]; exact if_neg (fun h => hok h.1))
      rw [hc, if_neg (by decide)]
      clear hc hok HE
      obtain ⟨r0, r1, r2, r3, r4, r5, r6, r7, f0, f1, f2, f3, f4, f5, f6, f7⟩ := HRa.out.all
      simp only [po0] at r0 r1 r2 r3 r4 r5 r6 r7
      simp only [str]
      go_wp2_with fail
      have HY := And.intro (HRa.out.put po0).1 (put8_below HBa.out (Nat.le_refl _) po0)
      simp only [put8, po0] at HY
      clear r0 r1 r2 r3 r4 r5 r6 r7 f0 f1 f2 f3 f4 f5 f6 f7
      generalize ((((((((wa.setCell ⟨w.heap.size, 0, none⟩ (.int .i64 0)).setCell ⟨w.heap.size, 1, none⟩ (.int .i64 0)).setCell ⟨w.heap.size, 2, none⟩ (.int .u8 0)).setCell ⟨w.heap.size, 3, none⟩ (.int .i64 0)).setCell ⟨w.heap.size, 4, none⟩ (.int .i64 0)).setCell ⟨w.heap.size, 5, none⟩ (.int .i64 0)).setCell ⟨w.heap.size, 6, none⟩ (.int .i64 0)).setCell ⟨w.heap.size, 7, none⟩ (.int .i64 0)) = W3 at *
      obtain ⟨HY, HBY⟩ := HY
      have zl3 := HY.1
      obtain ⟨r0, r1, r2, r3, r4, r5, r6, r7⟩ := HY.cells
      dsimp only at r0 r1 r2 r3 r4 r5 r6 r7
      have Hres := Lib.hid HBY
      clear HBY HY
      refine bodyPost_ret (v := .tuple #[.agg #[.int .i64 0, .int .i64 0, .int .u8 0, .int .i64 0, .int .i64 0, .int .i64 0, .int .i64 0, .int .i64 0], .int .i64 4]) (by simp [results, Tryz.results7, go_sem, zl3, r0, r1, r2, r3, r4, r5, r6, r7]) rfl ⟨?_, Hres.out⟩
      rw [HE2.out]; rfl
    have hc : chkPo (⟨v0, v1, kk, v3, v4, v5, v6, v7⟩ : Po) = 0 := if_pos hok
    rw [hc, if_pos rfl]
    clear hc
    simp only [str]
    obtain ⟨l2, hl2⟩ : ∃ x, lineL (⟨v0, v1, kk, v3, v4, v5, v6, v7⟩ : Po) = x := ⟨_, rfl⟩
    rw [hl2]
    by_cases hll : l2 = l
    · have HE2 := Lib.hid (show readL l = ((⟨v0, v1, kk, v3, v4, v5, v6, v7⟩ : Po), 0) from by rw [HE.out]; exact if_pos ⟨hok, hl2.trans hll⟩)
      subst hll
      clear hok HE hl2
      obtain ⟨r0, r1, r2, r3, r4, r5, r6, r7, f0, f1, f2, f3, f4, f5, f6, f7⟩ := HRa.out.all
      simp only [po0] at r0 r1 r2 r3 r4 r5 r6 r7
      obtain ⟨z0, z1, z2, z3, z4, z5, z6, z7, y0, y1, y2, y3, y4, y5, y6, y7⟩ := HXa.out.all
      dsimp only at z0 z1 z2 z3 z4 z5 z6 z7
      go_wp2_with fail
      have HY := And.intro (HRa.out.put (⟨v0, v1, kk, v3, v4, v5, v6, v7⟩ : Po)).1 (put8_below HBa.out (Nat.le_refl _) (⟨v0, v1, kk, v3, v4, v5, v6, v7⟩ : Po))
      simp only [put8, po0] at HY
      clear r0 r1 r2 r3 r4 r5 r6 r7 f0 f1 f2 f3 f4 f5 f6 f7 z0 z1 z2 z3 z4 z5 z6 z7 y0 y1 y2 y3 y4 y5 y6 y7
      generalize ((((((((wa.setCell ⟨w.heap.size, 0, none⟩ (.int .i64 v0)).setCell ⟨w.heap.size, 1, none⟩ (.int .i64 v1)).setCell ⟨w.heap.size, 2, none⟩ (.int .u8 kk)).setCell ⟨w.heap.size, 3, none⟩ (.int .i64 v3)).setCell ⟨w.heap.size, 4, none⟩ (.int .i64 v4)).setCell ⟨w.heap.size, 5, none⟩ (.int .i64 v5)).setCell ⟨w.heap.size, 6, none⟩ (.int .i64 v6)).setCell ⟨w.heap.size, 7, none⟩ (.int .i64 v7)) = W3 at *
      obtain ⟨HY, HBY⟩ := HY
      have zl3 := HY.1
      obtain ⟨r0, r1, r2, r3, r4, r5, r6, r7⟩ := HY.cells
      dsimp only at r0 r1 r2 r3 r4 r5 r6 r7
      have Hres := Lib.hid HBY
      clear HBY HY
      refine bodyPost_ret (v := .tuple #[.agg #[.int .i64 v0, .int .i64 v1, .int .u8 kk, .int .i64 v3, .int .i64 v4, .int .i64 v5, .int .i64 v6, .int .i64 v7], .int .i64 0]) (by simp [results, Tryz.results7, go_sem, zl3, r0, r1, r2, r3, r4, r5, r6, r7]) rfl ⟨?_, Hres.out⟩
      rw [HE2.out]
    · have HE2 := Lib.hid (show readL l = (po0, 4) from by rw [HE.out]; exact if_neg (fun h => hll (hl2.symm.trans h.2)))
      have hb2 : (l2 == l) = false := by simpa using hll
      clear hok HE hl2 hll
      obtain ⟨r0, r1, r2, r3, r4, r5, r6, r7, f0, f1, f2, f3, f4, f5, f6, f7⟩ := HRa.out.all
      simp only [po0] at r0 r1 r2 r3 r4 r5 r6 r7
      go_wp2_with fail
      have HY := And.intro (HRa.out.put po0).1 (put8_below HBa.out (Nat.le_refl _) po0)
      simp only [put8, po0] at HY
      clear r0 r1 r2 r3 r4 r5 r6 r7 f0 f1 f2 f3 f4 f5 f6 f7
      generalize ((((((((wa.setCell ⟨w.heap.size, 0, none⟩ (.int .i64 0)).setCell ⟨w.heap.size, 1, none⟩ (.int .i64 0)).setCell ⟨w.heap.size, 2, none⟩ (.int .u8 0)).setCell ⟨w.heap.size, 3, none⟩ (.int .i64 0)).setCell ⟨w.heap.size, 4, none⟩ (.int .i64 0)).setCell ⟨w.heap.size, 5, none⟩ (.int .i64 0)).setCell ⟨w.heap.size, 6, none⟩ (.int .i64 0)).setCell ⟨w.heap.size, 7, none⟩ (.int .i64 0)) = W3 at *
      obtain ⟨HY, HBY⟩ := HY
      have zl3 := HY.1
      obtain ⟨r0, r1, r2, r3, r4, r5, r6, r7⟩ := HY.cells
      dsimp only at r0 r1 r2 r3 r4 r5 r6 r7
      have Hres := Lib.hid HBY
      clear HBY HY
      refine bodyPost_ret (v := .tuple #[.agg #[.int .i64 0, .int .i64 0, .int .u8 0, .int .i64 0, .int .i64 0, .int .i64 0, .int .i64 0, .int .i64 0], .int .i64 4]) (by simp [results, Tryz.results7, go_sem, zl3, r0, r1, r2, r3, r4, r5, r6, r7]) rfl ⟨?_, Hres.out⟩
      rw [HE2.out]; rfl
  · obtain ⟨a0, a1, a2, a3, a4, a5, a6, rfl⟩ := list7 HN.out
    obtain ⟨e0, e1, e2⟩ : a0 = x0 ∧ a1 = x1 ∧ a2 = x2 := by simpa using HG.out
    obtain ⟨v3, hv3⟩ : ∃ v, atoiV a3 = v := ⟨_, rfl⟩
    obtain ⟨v4, hv4⟩ : ∃ v, atoiV a4 = v := ⟨_, rfl⟩
    obtain ⟨v5, hv5⟩ : ∃ v, atoiV a5 = v := ⟨_, rfl⟩
    obtain ⟨v6, hv6⟩ : ∃ v, atoiV a6 = v := ⟨_, rfl⟩
    have M3 := Lib.hid (show ∀ W, Below w6.heap.size w6 W → Calls Tryz.prog 25 #[.int .i64 3, .pointer (some ⟨B4, 0, none⟩)] W fun e w' => e = .returned (.int .i64 v3) ∧ Below w6.heap.size w6 w' ∧ Below W.heap.size W w' from fun W hB => by rw [← hv3]; exact CN.out 3 a3 W rfl hB)
    have M4 := Lib.hid (show ∀ W, Below w6.heap.size w6 W → Calls Tryz.prog 25 #[.int .i64 4, .pointer (some ⟨B4, 0, none⟩)] W fun e w' => e = .returned (.int .i64 v4) ∧ Below w6.heap.size w6 w' ∧ Below W.heap.size W w' from fun W hB => by rw [← hv4]; exact CN.out 4 a4 W rfl hB)
    have M5 := Lib.hid (show ∀ W, Below w6.heap.size w6 W → Calls Tryz.prog 25 #[.int .i64 5, .pointer (some ⟨B4, 0, none⟩)] W fun e w' => e = .returned (.int .i64 v5) ∧ Below w6.heap.size w6 w' ∧ Below W.heap.size W w' from fun W hB => by rw [← hv5]; exact CN.out 5 a5 W rfl hB)
    have M6 := Lib.hid (show ∀ W, Below w6.heap.size w6 W → Calls Tryz.prog 25 #[.int .i64 6, .pointer (some ⟨B4, 0, none⟩)] W fun e w' => e = .returned (.int .i64 v6) ∧ Below w6.heap.size w6 w' ∧ Below W.heap.size W w' from fun W hB => by rw [← hv6]; exact CN.out 6 a6 W rfl hB)
    have HP := Lib.hid (show paA [a0, a1, a2, a3, a4, a5, a6] = some (⟨v0, v1, kk, 0, v3, v4, v5, v6⟩ : Po) from by simp only [paA, hv3, hv4, hv5, hv6, e0, e1, e2, HV.out.1, HV.out.2.1, ← HKK.out])
    have HS := Lib.hid HWS.out
    clear HG CN C0 C1 C2 HV hv3 hv4 hv5 hv6 e0 e1 e2
    go_wp2_with fail
    refine (M3.out _ HB7.out).mono ?_
    rintro e u3 ⟨rfl, hB, hB'⟩
    have HU3 := Lib.hid hB
    have HX3' := Lib.hid (HX7.out.below' hB')
    clear hB hB'
    go_wp2_with fail
    refine (M4.out _ HU3.out).mono ?_
    rintro e u4 ⟨rfl, hB, hB'⟩
    have HU4 := Lib.hid hB
    have HX4' := Lib.hid (HX3'.out.below' hB')
    clear hB hB'
    go_wp2_with fail
    refine (M5.out _ HU4.out).mono ?_
    rintro e u5 ⟨rfl, hB, hB'⟩
    have HU5 := Lib.hid hB
    have HX5' := Lib.hid (HX4'.out.below' hB')
    clear hB hB'
    go_wp2_with fail
    refine (M6.out _ HU5.out).mono ?_
    rintro e u6 ⟨rfl, hB, hB'⟩
    have HU6 := Lib.hid hB
    have HX6' := Lib.hid (HX5'.out.below' hB')
    clear hB hB'
    obtain ⟨z0, z1, z2, z3, z4, z5, z6, z7, y0, y1, y2, y3, y4, y5, y6, y7⟩ := HX6'.out.all
    go_upto_region 11 with (fail)
    have HX9 := Lib.hid (HX6'.out.set4 v3 v4 v5 v6)
    have HB9 := Lib.hid (((((HU6.out.setCell (p := ⟨B7, 4, none⟩) HLE.out (.int .i64 v3)).setCell (p := ⟨B7, 5, none⟩) HLE.out (.int .i64 v4)).setCell (p := ⟨B7, 6, none⟩) HLE.out (.int .i64 v5)).setCell (p := ⟨B7, 7, none⟩) HLE.out (.int .i64 v6)))
    generalize ((((u6.setCell ⟨B7, 4, none⟩ (.int .i64 v3)).setCell ⟨B7, 5, none⟩ (.int .i64 v4)).setCell ⟨B7, 6, none⟩ (.int .i64 v5)).setCell ⟨B7, 7, none⟩ (.int .i64 v6)) = W9 at *
    clear z0 z1 z2 z3 z4 z5 z6 z7 y0 y1 y2 y3 y4 y5 y6 y7
    obtain ⟨z0, z1, z2, z3, z4, z5, z6, z7, y0, y1, y2, y3, y4, y5, y6, y7⟩ := HX9.out.all
    dsimp only at z0 z1 z2 z3 z4 z5 z6 z7
    go_wp2_with fail
    have hkk0 : 0 ≤ kk ∧ kk ≤ 3 := by rw [HKK.out]; exact kindI_bd _
    refine (write_any (⟨v0, v1, kk, 0, v3, v4, v5, v6⟩ : Po) _ ((HW.out.below (below_then HB6.out HB9.out (Nat.le_refl _))).tab) hkk0.1 (by show kk ≤ 255; omega)).mono ?_
    rintro e wa ⟨rfl, hB⟩
    have HXa := Lib.hid (HX9.out.below' hB)
    have HBa := Lib.hid (below_then (below_then HB6.out HB9.out (Nat.le_refl _)) hB (Nat.le_refl _))
    have HRa := Lib.hid (HX6.out.below' (below_then HB9.out hB (Nat.le_refl _)))
    clear hB z0 z1 z2 z3 z4 z5 z6 z7 y0 y1 y2 y3 y4 y5 y6 y7 hkk0
    have HE := Lib.hid (show readL l = ans (some (⟨v0, v1, kk, 0, v3, v4, v5, v6⟩ : Po)) l from by unfold readL; rw [HS.out, HP.out])
    clear HP
    by_cases hok : okPo (⟨v0, v1, kk, 0, v3, v4, v5, v6⟩ : Po)
    case neg =>
      have hc : chkPo (⟨v0, v1, kk, 0, v3, v4, v5, v6⟩ : Po) = 1 := if_neg hok
      have HE2 := Lib.hid (show readL l = (po0, 4) from by rw [HE.out]; exact if_neg (fun h => hok h.1))
      rw [hc, if_neg (by decide)]
      clear hc hok HE
      obtain ⟨r0, r1, r2, r3, r4, r5, r6, r7, f0, f1, f2, f3, f4, f5, f6, f7⟩ := HRa.out.all
      simp only [po0] at r0 r1 r2 r3 r4 r5 r6 r7
      simp only [str]
      go_wp2_with fail
      have HY := And.intro (HRa.out.put po0).1 (put8_below HBa.out (Nat.le_refl _) po0)
      simp only [put8, po0] at HY
      clear r0 r1 r2 r3 r4 r5 r6 r7 f0 f1 f2 f3 f4 f5 f6 f7
      generalize ((((((((wa.setCell ⟨w.heap.size, 0, none⟩ (.int .i64 0)).setCell ⟨w.heap.size, 1, none⟩ (.int .i64 0)).setCell ⟨w.heap.size, 2, none⟩ (.int .u8 0)).setCell ⟨w.heap.size, 3, none⟩ (.int .i64 0)).setCell ⟨w.heap.size, 4, none⟩ (.int .i64 0)).setCell ⟨w.heap.size, 5, none⟩ (.int .i64 0)).setCell ⟨w.heap.size, 6, none⟩ (.int .i64 0)).setCell ⟨w.heap.size, 7, none⟩ (.int .i64 0)) = W3 at *
      obtain ⟨HY, HBY⟩ := HY
      have zl3 := HY.1
      obtain ⟨r0, r1, r2, r3, r4, r5, r6, r7⟩ := HY.cells
      dsimp only at r0 r1 r2 r3 r4 r5 r6 r7
      have Hres := Lib.hid HBY
      clear HBY HY
      refine bodyPost_ret (v := .tuple #[.agg #[.int .i64 0, .int .i64 0, .int .u8 0, .int .i64 0, .int .i64 0, .int .i64 0, .int .i64 0, .int .i64 0], .int .i64 4]) (by simp [results, Tryz.results7, go_sem, zl3, r0, r1, r2, r3, r4, r5, r6, r7]) rfl ⟨?_, Hres.out⟩
      rw [HE2.out]; rfl
    have hc : chkPo (⟨v0, v1, kk, 0, v3, v4, v5, v6⟩ : Po) = 0 := if_pos hok
    rw [hc, if_pos rfl]
    clear hc
    simp only [str]
    obtain ⟨l2, hl2⟩ : ∃ x, lineL (⟨v0, v1, kk, 0, v3, v4, v5, v6⟩ : Po) = x := ⟨_, rfl⟩
    rw [hl2]
    by_cases hll : l2 = l
    · have HE2 := Lib.hid (show readL l = ((⟨v0, v1, kk, 0, v3, v4, v5, v6⟩ : Po), 0) from by rw [HE.out]; exact if_pos ⟨hok, hl2.trans hll⟩)
      subst hll
      clear hok HE hl2
      obtain ⟨r0, r1, r2, r3, r4, r5, r6, r7, f0, f1, f2, f3, f4, f5, f6, f7⟩ := HRa.out.all
      simp only [po0] at r0 r1 r2 r3 r4 r5 r6 r7
      obtain ⟨z0, z1, z2, z3, z4, z5, z6, z7, y0, y1, y2, y3, y4, y5, y6, y7⟩ := HXa.out.all
      dsimp only at z0 z1 z2 z3 z4 z5 z6 z7
      go_wp2_with fail
      have HY := And.intro (HRa.out.put (⟨v0, v1, kk, 0, v3, v4, v5, v6⟩ : Po)).1 (put8_below HBa.out (Nat.le_refl _) (⟨v0, v1, kk, 0, v3, v4, v5, v6⟩ : Po))
      simp only [put8, po0] at HY
      clear r0 r1 r2 r3 r4 r5 r6 r7 f0 f1 f2 f3 f4 f5 f6 f7 z0 z1 z2 z3 z4 z5 z6 z7 y0 y1 y2 y3 y4 y5 y6 y7
      generalize ((((((((wa.setCell ⟨w.heap.size, 0, none⟩ (.int .i64 v0)).setCell ⟨w.heap.size, 1, none⟩ (.int .i64 v1)).setCell ⟨w.heap.size, 2, none⟩ (.int .u8 kk)).setCell ⟨w.heap.size, 3, none⟩ (.int .i64 0)).setCell ⟨w.heap.size, 4, none⟩ (.int .i64 v3)).setCell ⟨w.heap.size, 5, none⟩ (.int .i64 v4)).setCell ⟨w.heap.size, 6, none⟩ (.int .i64 v5)).setCell ⟨w.heap.size, 7, none⟩ (.int .i64 v6)) = W3 at *
      obtain ⟨HY, HBY⟩ := HY
      have zl3 := HY.1
      obtain ⟨r0, r1, r2, r3, r4, r5, r6, r7⟩ := HY.cells
      dsimp only at r0 r1 r2 r3 r4 r5 r6 r7
      have Hres := Lib.hid HBY
      clear HBY HY
      refine bodyPost_ret (v := .tuple #[.agg #[.int .i64 v0, .int .i64 v1, .int .u8 kk, .int .i64 0, .int .i64 v3, .int .i64 v4, .int .i64 v5, .int .i64 v6], .int .i64 0]) (by simp [results, Tryz.results7, go_sem, zl3, r0, r1, r2, r3, r4, r5, r6, r7]) rfl ⟨?_, Hres.out⟩
      rw [HE2.out]
    · have HE2 := Lib.hid (show readL l = (po0, 4) from by rw [HE.out]; exact if_neg (fun h => hll (hl2.symm.trans h.2)))
      have hb2 : (l2 == l) = false := by simpa using hll
      clear hok HE hl2 hll
      obtain ⟨r0, r1, r2, r3, r4, r5, r6, r7, f0, f1, f2, f3, f4, f5, f6, f7⟩ := HRa.out.all
      simp only [po0] at r0 r1 r2 r3 r4 r5 r6 r7
      go_wp2_with fail
      have HY := And.intro (HRa.out.put po0).1 (put8_below HBa.out (Nat.le_refl _) po0)
      simp only [put8, po0] at HY
      clear r0 r1 r2 r3 r4 r5 r6 r7 f0 f1 f2 f3 f4 f5 f6 f7
      generalize ((((((((wa.setCell ⟨w.heap.size, 0, none⟩ (.int .i64 0)).setCell ⟨w.heap.size, 1, none⟩ (.int .i64 0)).setCell ⟨w.heap.size, 2, none⟩ (.int .u8 0)).setCell ⟨w.heap.size, 3, none⟩ (.int .i64 0)).setCell ⟨w.heap.size, 4, none⟩ (.int .i64 0)).setCell ⟨w.heap.size, 5, none⟩ (.int .i64 0)).setCell ⟨w.heap.size, 6, none⟩ (.int .i64 0)).setCell ⟨w.heap.size, 7, none⟩ (.int .i64 0)) = W3 at *
      obtain ⟨HY, HBY⟩ := HY
      have zl3 := HY.1
      obtain ⟨r0, r1, r2, r3, r4, r5, r6, r7⟩ := HY.cells
      dsimp only at r0 r1 r2 r3 r4 r5 r6 r7
      have Hres := Lib.hid HBY
      clear HBY HY
      refine bodyPost_ret (v := .tuple #[.agg #[.int .i64 0, .int .i64 0, .int .u8 0, .int .i64 0, .int .i64 0, .int .i64 0, .int .i64 0, .int .i64 0], .int .i64 4]) (by simp [results, Tryz.results7, go_sem, zl3, r0, r1, r2, r3, r4, r5, r6, r7]) rfl ⟨?_, Hres.out⟩
      rw [HE2.out]; rfl
  · obtain ⟨a0, a1, a2, a3, a4, a5, a6, a7, rfl⟩ := list8 HN.out
    obtain ⟨e0, e1, e2⟩ : a0 = x0 ∧ a1 = x1 ∧ a2 = x2 := by simpa using HG.out
    obtain ⟨v3, hv3⟩ : ∃ v, atoiV a3 = v := ⟨_, rfl⟩
    obtain ⟨v4, hv4⟩ : ∃ v, atoiV a4 = v := ⟨_, rfl⟩
    obtain ⟨v5, hv5⟩ : ∃ v, atoiV a5 = v := ⟨_, rfl⟩
    obtain ⟨v6, hv6⟩ : ∃ v, atoiV a6 = v := ⟨_, rfl⟩
    obtain ⟨v7, hv7⟩ : ∃ v, atoiV a7 = v := ⟨_, rfl⟩
    have M3 := Lib.hid (show ∀ W, Below w6.heap.size w6 W → Calls Tryz.prog 25 #[.int .i64 3, .pointer (some ⟨B4, 0, none⟩)] W fun e w' => e = .returned (.int .i64 v3) ∧ Below w6.heap.size w6 w' ∧ Below W.heap.size W w' from fun W hB => by rw [← hv3]; exact CN.out 3 a3 W rfl hB)
    have M4 := Lib.hid (show ∀ W, Below w6.heap.size w6 W → Calls Tryz.prog 25 #[.int .i64 4, .pointer (some ⟨B4, 0, none⟩)] W fun e w' => e = .returned (.int .i64 v4) ∧ Below w6.heap.size w6 w' ∧ Below W.heap.size W w' from fun W hB => by rw [← hv4]; exact CN.out 4 a4 W rfl hB)
    have M5 := Lib.hid (show ∀ W, Below w6.heap.size w6 W → Calls Tryz.prog 25 #[.int .i64 5, .pointer (some ⟨B4, 0, none⟩)] W fun e w' => e = .returned (.int .i64 v5) ∧ Below w6.heap.size w6 w' ∧ Below W.heap.size W w' from fun W hB => by rw [← hv5]; exact CN.out 5 a5 W rfl hB)
    have M6 := Lib.hid (show ∀ W, Below w6.heap.size w6 W → Calls Tryz.prog 25 #[.int .i64 6, .pointer (some ⟨B4, 0, none⟩)] W fun e w' => e = .returned (.int .i64 v6) ∧ Below w6.heap.size w6 w' ∧ Below W.heap.size W w' from fun W hB => by rw [← hv6]; exact CN.out 6 a6 W rfl hB)
    have M7 := Lib.hid (show ∀ W, Below w6.heap.size w6 W → Calls Tryz.prog 25 #[.int .i64 7, .pointer (some ⟨B4, 0, none⟩)] W fun e w' => e = .returned (.int .i64 v7) ∧ Below w6.heap.size w6 w' ∧ Below W.heap.size W w' from fun W hB => by rw [← hv7]; exact CN.out 7 a7 W rfl hB)
    have HP := Lib.hid (show paA [a0, a1, a2, a3, a4, a5, a6, a7] = some (⟨v0, v1, kk, v3, v4, v5, v6, v7⟩ : Po) from by simp only [paA, hv3, hv4, hv5, hv6, hv7, e0, e1, e2, HV.out.1, HV.out.2.1, ← HKK.out])
    have HS := Lib.hid HWS.out
    clear HG CN C0 C1 C2 HV hv3 hv4 hv5 hv6 hv7 e0 e1 e2
    go_wp2_with fail
    refine (M3.out _ HB7.out).mono ?_
    rintro e u3 ⟨rfl, hB, hB'⟩
    have HU3 := Lib.hid hB
    have HX3' := Lib.hid (HX7.out.below' hB')
    clear hB hB'
    obtain ⟨z0, z1, z2, z3, z4, z5, z6, z7, y0, y1, y2, y3, y4, y5, y6, y7⟩ := HX3'.out.all
    go_upto_region 10 with (fail)
    have HX8 := Lib.hid (HX3'.out.set3 v3)
    have HB8 := Lib.hid (HU3.out.setCell (p := ⟨B7, 3, none⟩) HLE.out (.int .i64 v3))
    generalize u3.setCell ⟨B7, 3, none⟩ (.int .i64 v3) = W8 at *
    clear z0 z1 z2 z3 z4 z5 z6 z7 y0 y1 y2 y3 y4 y5 y6 y7
    go_wp2_with fail
    refine (M4.out _ HB8.out).mono ?_
    rintro e u4 ⟨rfl, hB, hB'⟩
    have HU4 := Lib.hid hB
    have HX4' := Lib.hid (HX8.out.below' hB')
    clear hB hB'
    go_wp2_with fail
    refine (M5.out _ HU4.out).mono ?_
    rintro e u5 ⟨rfl, hB, hB'⟩
    have HU5 := Lib.hid hB
    have HX5' := Lib.hid (HX4'.out.below' hB')
    clear hB hB'
    go_wp2_with fail
    refine (M6.out _ HU5.out).mono ?_
    rintro e u6 ⟨rfl, hB, hB'⟩
    have HU6 := Lib.hid hB
    have HX6' := Lib.hid (HX5'.out.below' hB')
    clear hB hB'
    go_wp2_with fail
    refine (M7.out _ HU6.out).mono ?_
    rintro e u7 ⟨rfl, hB, hB'⟩
    have HU7 := Lib.hid hB
    have HX7' := Lib.hid (HX6'.out.below' hB')
    clear hB hB'
    obtain ⟨z0, z1, z2, z3, z4, z5, z6, z7, y0, y1, y2, y3, y4, y5, y6, y7⟩ := HX7'.out.all
    go_upto_region 11 with (fail)
    have HX9 := Lib.hid (HX7'.out.set4 v4 v5 v6 v7)
    have HB9 := Lib.hid (((((HU7.out.setCell (p := ⟨B7, 4, none⟩) HLE.out (.int .i64 v4)).setCell (p := ⟨B7, 5, none⟩) HLE.out (.int .i64 v5)).setCell (p := ⟨B7, 6, none⟩) HLE.out (.int .i64 v6)).setCell (p := ⟨B7, 7, none⟩) HLE.out (.int .i64 v7)))
    generalize ((((u7.setCell ⟨B7, 4, none⟩ (.int .i64 v4)).setCell ⟨B7, 5, none⟩ (.int .i64 v5)).setCell ⟨B7, 6, none⟩ (.int .i64 v6)).setCell ⟨B7, 7, none⟩ (.int .i64 v7)) = W9 at *
    clear z0 z1 z2 z3 z4 z5 z6 z7 y0 y1 y2 y3 y4 y5 y6 y7
    obtain ⟨z0, z1, z2, z3, z4, z5, z6, z7, y0, y1, y2, y3, y4, y5, y6, y7⟩ := HX9.out.all
    dsimp only at z0 z1 z2 z3 z4 z5 z6 z7
    go_wp2_with fail
    have hkk0 : 0 ≤ kk ∧ kk ≤ 3 := by rw [HKK.out]; exact kindI_bd _
    refine (write_any (⟨v0, v1, kk, v3, v4, v5, v6, v7⟩ : Po) _ ((HW.out.below (below_then HB6.out HB9.out (Nat.le_refl _))).tab) hkk0.1 (by show kk ≤ 255; omega)).mono ?_
    rintro e wa ⟨rfl, hB⟩
    have HXa := Lib.hid (HX9.out.below' hB)
    have HBa := Lib.hid (below_then (below_then HB6.out HB9.out (Nat.le_refl _)) hB (Nat.le_refl _))
    have HRa := Lib.hid (HX6.out.below' (below_then HB9.out hB (Nat.le_refl _)))
    clear hB z0 z1 z2 z3 z4 z5 z6 z7 y0 y1 y2 y3 y4 y5 y6 y7 hkk0
    have HE := Lib.hid (show readL l = ans (some (⟨v0, v1, kk, v3, v4, v5, v6, v7⟩ : Po)) l from by unfold readL; rw [HS.out, HP.out])
    clear HP
    by_cases hok : okPo (⟨v0, v1, kk, v3, v4, v5, v6, v7⟩ : Po)
    case neg =>
      have hc : chkPo (⟨v0, v1, kk, v3, v4, v5, v6, v7⟩ : Po) = 1 := if_neg hok
      have HE2 := Lib.hid (show readL l = (po0, 4) from by rw [HE.out]; exact if_neg (fun h => hok h.1))
      rw [hc, if_neg (by decide)]
      clear hc hok HE
      obtain ⟨r0, r1, r2, r3, r4, r5, r6, r7, f0, f1, f2, f3, f4, f5, f6, f7⟩ := HRa.out.all
      simp only [po0] at r0 r1 r2 r3 r4 r5 r6 r7
      simp only [str]
      go_wp2_with fail
      have HY := And.intro (HRa.out.put po0).1 (put8_below HBa.out (Nat.le_refl _) po0)
      simp only [put8, po0] at HY
      clear r0 r1 r2 r3 r4 r5 r6 r7 f0 f1 f2 f3 f4 f5 f6 f7
      generalize ((((((((wa.setCell ⟨w.heap.size, 0, none⟩ (.int .i64 0)).setCell ⟨w.heap.size, 1, none⟩ (.int .i64 0)).setCell ⟨w.heap.size, 2, none⟩ (.int .u8 0)).setCell ⟨w.heap.size, 3, none⟩ (.int .i64 0)).setCell ⟨w.heap.size, 4, none⟩ (.int .i64 0)).setCell ⟨w.heap.size, 5, none⟩ (.int .i64 0)).setCell ⟨w.heap.size, 6, none⟩ (.int .i64 0)).setCell ⟨w.heap.size, 7, none⟩ (.int .i64 0)) = W3 at *
      obtain ⟨HY, HBY⟩ := HY
      have zl3 := HY.1
      obtain ⟨r0, r1, r2, r3, r4, r5, r6, r7⟩ := HY.cells
      dsimp only at r0 r1 r2 r3 r4 r5 r6 r7
      have Hres := Lib.hid HBY
      clear HBY HY
      refine bodyPost_ret (v := .tuple #[.agg #[.int .i64 0, .int .i64 0, .int .u8 0, .int .i64 0, .int .i64 0, .int .i64 0, .int .i64 0, .int .i64 0], .int .i64 4]) (by simp [results, Tryz.results7, go_sem, zl3, r0, r1, r2, r3, r4, r5, r6, r7]) rfl ⟨?_, Hres.out⟩
      rw [HE2.out]; rfl
    have hc : chkPo (⟨v0, v1, kk, v3, v4, v5, v6, v7⟩ : Po) = 0 := if_pos hok
    rw [hc, if_pos rfl]
    clear hc
    simp only [str]
    obtain ⟨l2, hl2⟩ : ∃ x, lineL (⟨v0, v1, kk, v3, v4, v5, v6, v7⟩ : Po) = x := ⟨_, rfl⟩
    rw [hl2]
    by_cases hll : l2 = l
    · have HE2 := Lib.hid (show readL l = ((⟨v0, v1, kk, v3, v4, v5, v6, v7⟩ : Po), 0) from by rw [HE.out]; exact if_pos ⟨hok, hl2.trans hll⟩)
      subst hll
      clear hok HE hl2
      obtain ⟨r0, r1, r2, r3, r4, r5, r6, r7, f0, f1, f2, f3, f4, f5, f6, f7⟩ := HRa.out.all
      simp only [po0] at r0 r1 r2 r3 r4 r5 r6 r7
      obtain ⟨z0, z1, z2, z3, z4, z5, z6, z7, y0, y1, y2, y3, y4, y5, y6, y7⟩ := HXa.out.all
      dsimp only at z0 z1 z2 z3 z4 z5 z6 z7
      go_wp2_with fail
      have HY := And.intro (HRa.out.put (⟨v0, v1, kk, v3, v4, v5, v6, v7⟩ : Po)).1 (put8_below HBa.out (Nat.le_refl _) (⟨v0, v1, kk, v3, v4, v5, v6, v7⟩ : Po))
      simp only [put8, po0] at HY
      clear r0 r1 r2 r3 r4 r5 r6 r7 f0 f1 f2 f3 f4 f5 f6 f7 z0 z1 z2 z3 z4 z5 z6 z7 y0 y1 y2 y3 y4 y5 y6 y7
      generalize ((((((((wa.setCell ⟨w.heap.size, 0, none⟩ (.int .i64 v0)).setCell ⟨w.heap.size, 1, none⟩ (.int .i64 v1)).setCell ⟨w.heap.size, 2, none⟩ (.int .u8 kk)).setCell ⟨w.heap.size, 3, none⟩ (.int .i64 v3)).setCell ⟨w.heap.size, 4, none⟩ (.int .i64 v4)).setCell ⟨w.heap.size, 5, none⟩ (.int .i64 v5)).setCell ⟨w.heap.size, 6, none⟩ (.int .i64 v6)).setCell ⟨w.heap.size, 7, none⟩ (.int .i64 v7)) = W3 at *
      obtain ⟨HY, HBY⟩ := HY
      have zl3 := HY.1
      obtain ⟨r0, r1, r2, r3, r4, r5, r6, r7⟩ := HY.cells
      dsimp only at r0 r1 r2 r3 r4 r5 r6 r7
      have Hres := Lib.hid HBY
      clear HBY HY
      refine bodyPost_ret (v := .tuple #[.agg #[.int .i64 v0, .int .i64 v1, .int .u8 kk, .int .i64 v3, .int .i64 v4, .int .i64 v5, .int .i64 v6, .int .i64 v7], .int .i64 0]) (by simp [results, Tryz.results7, go_sem, zl3, r0, r1, r2, r3, r4, r5, r6, r7]) rfl ⟨?_, Hres.out⟩
      rw [HE2.out]
    · have HE2 := Lib.hid (show readL l = (po0, 4) from by rw [HE.out]; exact if_neg (fun h => hll (hl2.symm.trans h.2)))
      have hb2 : (l2 == l) = false := by simpa using hll
      clear hok HE hl2 hll
      obtain ⟨r0, r1, r2, r3, r4, r5, r6, r7, f0, f1, f2, f3, f4, f5, f6, f7⟩ := HRa.out.all
      simp only [po0] at r0 r1 r2 r3 r4 r5 r6 r7
      go_wp2_with fail
      have HY := And.intro (HRa.out.put po0).1 (put8_below HBa.out (Nat.le_refl _) po0)
      simp only [put8, po0] at HY
      clear r0 r1 r2 r3 r4 r5 r6 r7 f0 f1 f2 f3 f4 f5 f6 f7
      generalize ((((((((wa.setCell ⟨w.heap.size, 0, none⟩ (.int .i64 0)).setCell ⟨w.heap.size, 1, none⟩ (.int .i64 0)).setCell ⟨w.heap.size, 2, none⟩ (.int .u8 0)).setCell ⟨w.heap.size, 3, none⟩ (.int .i64 0)).setCell ⟨w.heap.size, 4, none⟩ (.int .i64 0)).setCell ⟨w.heap.size, 5, none⟩ (.int .i64 0)).setCell ⟨w.heap.size, 6, none⟩ (.int .i64 0)).setCell ⟨w.heap.size, 7, none⟩ (.int .i64 0)) = W3 at *
      obtain ⟨HY, HBY⟩ := HY
      have zl3 := HY.1
      obtain ⟨r0, r1, r2, r3, r4, r5, r6, r7⟩ := HY.cells
      dsimp only at r0 r1 r2 r3 r4 r5 r6 r7
      have Hres := Lib.hid HBY
      clear HBY HY
      refine bodyPost_ret (v := .tuple #[.agg #[.int .i64 0, .int .i64 0, .int .u8 0, .int .i64 0, .int .i64 0, .int .i64 0, .int .i64 0, .int .i64 0], .int .i64 4]) (by simp [results, Tryz.results7, go_sem, zl3, r0, r1, r2, r3, r4, r5, r6, r7]) rfl ⟨?_, Hres.out⟩
      rw [HE2.out]; rfl
end Go.Proofs.YtjleembfocghlaaGreatDoor
