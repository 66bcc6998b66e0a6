/- The walk of the law package's without. -/
import Derived.Test.YtleiapljnjaloaaGreatDoorCAppend
import Derived.Test.YtleiapljnjaloaaGreatDoorCPathP
import Derived.Test.YtleiapljnjaloaaGreatDoorCRestsR
import Derived.Test.YtleiapljnjaloaaGreatDoorCAlive
set_option linter.unusedSimpArgs false
set_option linter.unusedVariables false
namespace Go.Proofs.YtleiapljnjaloaaGreatDoor
open Go.RowKit Go.Shelf
theorem drop_without_l {w : World} {b off n : Nat} {xs : List Int} (h : Rd ints 1 w (some ⟨b, off, none⟩) n xs) {m : Nat} (hm : m ≤ n) : Rd ints 1 w (some ⟨b, off + m * 1, none⟩) (n - m) (xs.drop m) :=
 ⟨by have := h.len; simp; omega, by have := h.cap; omega, fun i hi => by
  obtain ⟨b', off', x, he, hlt, hx, hc⟩ := h.read (m + i) (by omega)
  cases he
  refine ⟨b, off + m * 1, x, rfl, hlt, by rw [List.getElem?_drop]; exact hx, fun j hj => ?_⟩
  have := hc j hj
  rw [Nat.add_mul] at this
  rw [← this]
  congr 2
  omega⟩
set_option maxRecDepth 100000 in
set_option maxHeartbeats 4000000 in
theorem without_l (b off n cap : Nat) (xs : List Int) (i : Nat) (w : World) (h : Rd ints 1 w (some ⟨b, off, none⟩) n xs) (hi : i < n) (hn : n ≤ 1000) (hcap : n ≤ cap) :
 Calls Tryz.prog 29 #[.slice (some ⟨b, off, none⟩) n cap, .int .i64 i] w fun e w' => ∃ v, e = .returned v ∧ w'.ownsRow w.heap.size 3 1 v (xs.eraseIdx i).length ((xs.eraseIdx i).flatMap ints) ∧ Below w.heap.size w w' := by
 obtain ⟨j0, hj0, hy0, hy1, hy2⟩ := info_parts info_int
 have hl := h.len
 have HT := Hd (h.take (m := i) (by omega))
 have HD := Hd (drop_without_l h (m := i + 1) (by omega))
 have HE := Hd (show (xs.take i).flatMap ints ++ (xs.drop (i + 1)).flatMap ints = (xs.eraseIdx i).flatMap ints from by rw [List.eraseIdx_eq_take_drop_succ, List.flatMap_append])
 have HL := Hd (show i + (n - (i + 1)) = (xs.eraseIdx i).length from by rw [List.length_eraseIdx, if_pos (by omega)]; omega)
 have hlT : (xs.take i).length = i := by rw [List.length_take]; omega
 have hlD : (xs.drop (i + 1)).length = n - (i + 1) := by rw [List.length_drop]; omega
 have HlT := Hd (show ((xs.take i).flatMap ints).length = i * 1 from by rw [flat_length ints_length, hlT])
 have HlD := Hd (show ((xs.drop (i + 1)).flatMap ints).length = (n - (i + 1)) * 1 from by rw [flat_length ints_length, hlD])
 obtain ⟨LT, hLT⟩ : ∃ l, xs.take i = l := ⟨_, rfl⟩
 obtain ⟨LD, hLD⟩ : ∃ l, xs.drop (i + 1) = l := ⟨_, rfl⟩
 rw [hLT] at HT HE HlT
 rw [hLD] at HD HE HlD
 have g0 : (i : Int) ≤ (cap : Int) := by omega
 have g1 : (i : Int) + 1 ≤ (n : Int) := by omega
 have g2 : (n : Int) ≤ (cap : Int) := by omega
 have hin : (i : Int) < (n : Int) := by omega
 have g3 : (0 : Int) ≤ (i : Int) := by omega
 have g4 : (0 : Int) ≤ (i : Int) + 1 := by omega
 have gw : IntKind.i64.wrap ((i : Int) + 1) = (i : Int) + 1 := by rw [IntKind.wrap_i64]; omega
 have hBa := (drewN_below w 1).alloc (Nat.le_refl _) (.cells #[] 3)
 have HBa := Hd hBa
 clear h hl hlT hlD hLT hLD hBa
 by_cases hcz : cap = i + 1
 · have HL0 := Hd (show LD.flatMap ints = [] from List.eq_nil_of_length_eq_zero (by rw [HlD.out]; omega))
   have HC := Hd hcz
   clear hcz
   go_enter Tryz.func29, Tryz.ntmps29
   go_wp2_with fail
   go_region_held3 (fun _ => True)
    (first | trivial | go_keep)
    (first
      | (refine step_append_own' _ rfl _ _ _ rfl w.heap.size 3 j0 _ 1 8 Tryz.underlying34 hj0 hy0 hy1 hy2 rfl (by omega) v3 (0 + i) ([] ++ LT.flatMap ints) rfl hown3 ⟨b, off, none⟩ (n - (i + 1)) (cap - (i + 1)) (LD.flatMap ints) (show Value.slice (if cap = i + 1 then some ⟨b, off, none⟩ else some ⟨b, off + (i + 1), none⟩) (n - (i + 1)) (cap - (i + 1)) = _ from by rw [if_pos HC.out]) HlD.out
          (fun j u hu => by rw [HL0.out] at hu; simp at hu) (ints_one _) (by unfold maxLen; omega) (by omega) hB3.size ?_; intro v4 w4 hown4 hgrow4 hnil4)
      | (refine step_append_own' _ rfl _ _ _ rfl w.heap.size 3 j0 _ 1 8 Tryz.underlying34 hj0 hy0 hy1 hy2 rfl (by omega) (.slice (some ⟨w.heap.size, 0, none⟩) 0 0) 0 [] rfl (World.ownsRow_made w.drew #[] 0 (Nat.le_refl _) (Nat.zero_le _) rfl) ⟨b, off, none⟩ i cap (LT.flatMap ints) rfl HlT.out
          (Rd.news (HT.out.below' HBa.out) ints_length) (ints_one _) (by unfold maxLen; omega) (by omega) HBa.out.size ?_; intro v3 w3 hown3 hgrow3 hnil3; have hB3 := HBa.out.grown hgrow3 HBa.out.size (fun k e => by simp [Value.ownBlock] at e; omega)))
   all_goals
    have HB4 := Hd (hB3.grown hgrow4 hB3.size (fun k e => (hown3.lt k e).1))
    have HO4 := Hd hown4
    clear hown4 hgrow4 hown3 hgrow3 hnil3 hnil4 hB3
    go_wp2_with fail
    go_ret
   all_goals
    refine ⟨_, rfl, ?_, HB4.out⟩
    have := HO4.out
    rw [List.nil_append, Nat.zero_add, HE.out, HL.out] at this
    exact this
 · rw [Nat.mul_one] at HD
   have HC := Hd hcz
   clear hcz
   go_enter Tryz.func29, Tryz.ntmps29
   go_wp2_with fail
   go_region_held3 (fun _ => True)
    (first | trivial | go_keep)
    (first
      | (refine step_append_own' _ rfl _ _ _ rfl w.heap.size 3 j0 _ 1 8 Tryz.underlying34 hj0 hy0 hy1 hy2 rfl (by omega) v3 (0 + i) ([] ++ LT.flatMap ints) rfl hown3 ⟨b, off + (i + 1), none⟩ (n - (i + 1)) (cap - (i + 1)) (LD.flatMap ints) (show Value.slice (if cap = i + 1 then some ⟨b, off, none⟩ else some ⟨b, off + (i + 1), none⟩) (n - (i + 1)) (cap - (i + 1)) = _ from by rw [if_neg HC.out]) HlD.out
          (Rd.news (HD.out.below' hB3) ints_length) (ints_one _) (by unfold maxLen; omega) (by omega) hB3.size ?_; intro v4 w4 hown4 hgrow4 hnil4)
      | (refine step_append_own' _ rfl _ _ _ rfl w.heap.size 3 j0 _ 1 8 Tryz.underlying34 hj0 hy0 hy1 hy2 rfl (by omega) (.slice (some ⟨w.heap.size, 0, none⟩) 0 0) 0 [] rfl (World.ownsRow_made w.drew #[] 0 (Nat.le_refl _) (Nat.zero_le _) rfl) ⟨b, off, none⟩ i cap (LT.flatMap ints) rfl HlT.out
          (Rd.news (HT.out.below' HBa.out) ints_length) (ints_one _) (by unfold maxLen; omega) (by omega) HBa.out.size ?_; intro v3 w3 hown3 hgrow3 hnil3; have hB3 := HBa.out.grown hgrow3 HBa.out.size (fun k e => by simp [Value.ownBlock] at e; omega)))
   all_goals
    have HB4 := Hd (hB3.grown hgrow4 hB3.size (fun k e => (hown3.lt k e).1))
    have HO4 := Hd hown4
    clear hown4 hgrow4 hown3 hgrow3 hnil3 hnil4 hB3
    go_wp2_with fail
    go_ret
   all_goals
    refine ⟨_, rfl, ?_, HB4.out⟩
    have := HO4.out
    rw [List.nil_append, Nat.zero_add, HE.out, HL.out] at this
    exact this
theorem rests_all {l : List Pa} {known loss pack : Int} {upper : Bool} (h : weighE l known loss (hasP l known loss pack) = 0) :
 rootE l known loss (hasP l known loss pack) = 0 ∧ ckLineV l known loss pack upper (sideR (weighV l known loss pack) upper) (lineV l known loss pack upper) = true ∧
 (∀ endv ids, ckLineV l known loss pack upper endv ids = true → (upper = true → (weighV l known loss pack).2 ≤ endv) ∧ (upper = false → endv ≤ (weighV l known loss pack).1)) ∧
 ∀ i, i < (lineV l known loss pack upper).length → ckLineV l known loss pack upper (sideR (weighV l known loss pack) upper) ((lineV l known loss pack upper).eraseIdx i) = false := by
 have := rests_is (upper := upper) h
 unfold weighV lineV
 rw [if_pos h, if_pos h]
 exact ⟨weigh_root h, this⟩
theorem lineV_len (l : List Pa) (known loss pack : Int) (upper : Bool) : (lineV l known loss pack upper).length ≤ l.length := by
 unfold lineV
 split
 · exact Nat.le_trans (leftL_len _ _) (by rw [idsA_eq]; exact idsA_len _ _)
 · exact Nat.zero_le _
set_option maxRecDepth 100000 in
set_option maxHeartbeats 8000000 in
theorem law_rests (a : Option Addr) (n cap : Nat) (xs : List Pa) (known loss pack : Int) (upper : Bool) (endv : Int) (ia : Option Addr) (inn ic : Nat) (ids : List Int) (w : World) (h : Rd Pa.vals 14 w a n xs) (hz : a = none → cap = 0) (hcap : n ≤ cap) (hi : Rd ints 1 w ia inn ids) (hw : Laid w) :
 Calls Tryz.prog 6 #[.slice a n cap, .int .i64 known, .int .i64 loss, .int .i64 pack, .bool upper, .int .i64 endv, .slice ia inn ic] w fun e w' => e = .returned (.bool true) ∧ Below w.heap.size w w' := by
 have CA := Hd (show ∀ W, Below w.heap.size w W → Calls Tryz.prog 13 #[] W fun e w' => e = .returned (.bool true) ∧ Below W.heap.size W w' from fun W hB => alive_any W (hw.below hB))
 have CF := Hd (lfew_any a n cap xs w h)
 have HR := Hd h
 have HI := Hd hi
 have Hlen := Hd h.len
 clear h hw hz hi
 obtain ⟨F1, hF1⟩ : ∃ b, fewB xs 30 = b := ⟨_, rfl⟩
 rw [hF1] at CF
 have HF := Hd hF1
 clear hF1
 have HB := Hd (Below.refl w.heap.size w)
 by_cases hen : 40 < inn
 · have hen' : (40 : Int) < (inn : Int) := by omega
   go_enter Tryz.func6, Tryz.ntmps6
   cases F1 <;>
   · go_wp2_with (first
      | (go_at_call 11; refine CF.out.mono ?_; rintro e w2 ⟨rfl, hw2⟩; obtain rfl := hw2.symm; clear hw2)
      | (go_at_call 13; refine (CA.out _ HB.out).mono ?_; rintro e w3 ⟨rfl, hS⟩))
     go_ret
     exact ⟨rfl, hS⟩
 have hen' : ¬ (40 : Int) < (inn : Int) := by omega
 cases F1 with
 | false =>
   go_enter Tryz.func6, Tryz.ntmps6
   go_wp2_with (first
    | (go_at_call 11; refine CF.out.mono ?_; rintro e w2 ⟨rfl, hw2⟩; obtain rfl := hw2.symm; clear hw2)
    | (go_at_call 13; refine (CA.out _ HB.out).mono ?_; rintro e w3 ⟨rfl, hS⟩))
   go_ret
   exact ⟨rfl, hS⟩
 | true =>
 have HS : ∀ y ∈ xs, y.Short := fun y hy => by have := (few_short HF.out).2 y hy; exact ⟨by omega, by omega⟩
 have hn : n ≤ 1000 := by have h1 := (few_short HF.out).1; rw [Hlen.out] at h1; omega
 have C1 := Hd (weigh_any a n cap xs HS known loss pack w HR.out hcap)
 have C2 := Hd (fun W (hW : Below w.heap.size w W) => lineage_any a n cap xs HS known loss pack upper W (HR.out.below' hW) hcap)
 have C3 := Hd (fun (ev : Int) (ja : Option Addr) (jn jc : Nat) (js : List Int) W (hW : Below w.heap.size w W) (h1 : Rd ints 1 W ja jn js) => checkLineage_any a n cap xs HS known loss pack upper ev ja jn jc js W (HR.out.below' hW) hcap h1)
 unfold WeighedPost at C1
 unfold LinePost at C2
 unfold CkPost at C3
 have HRs := Hd (fun h => rests_all (l := xs) (known := known) (loss := loss) (pack := pack) (upper := upper) h)
 have HLn := Hd (show ¬ weighE xs known loss (hasP xs known loss pack) = 0 → lineV xs known loss pack upper = [] from fun h => by unfold lineV; rw [if_neg h])
 have HLl := Hd (show (lineV xs known loss pack upper).length ≤ 1000 from by have h1 := lineV_len xs known loss pack upper; rw [Hlen.out] at h1; omega)
 obtain ⟨CK, hCK⟩ : ∃ f : Int → List Int → Bool, (fun ev js => ckLineV xs known loss pack upper ev js) = f := ⟨_, rfl⟩
 have hCK' : ∀ ev js, ckLineV xs known loss pack upper ev js = CK ev js := fun ev js => congrFun (congrFun hCK ev) js
 simp only [hCK'] at C3 HRs
 clear hCK' hCK
 obtain ⟨E, hE⟩ : ∃ P, weighE xs known loss (hasP xs known loss pack) = P := ⟨_, rfl⟩
 obtain ⟨RE, hRE⟩ : ∃ P, rootE xs known loss (hasP xs known loss pack) = P := ⟨_, rfl⟩
 obtain ⟨AV, hAV⟩ : ∃ P, lineV xs known loss pack upper = P := ⟨_, rfl⟩
 obtain ⟨V, hV⟩ : ∃ P, weighV xs known loss pack = P := ⟨_, rfl⟩
 rw [hE] at C1 C2 HRs HLn
 rw [hRE] at C3 HRs
 rw [hAV] at C2 HRs HLn HLl
 rw [hV] at C1 HRs
 clear hE hRE hAV hV
 obtain ⟨lo, hiV⟩ := V
 simp only at C1 HRs
 go_enter Tryz.func6, Tryz.ntmps6
 go_upto_region 4 with (first
  | (go_at_call 11; refine CF.out.mono ?_; rintro e w2 ⟨rfl, hw2⟩; obtain rfl := hw2.symm; clear hw2)
  | (go_at_call 28; refine C1.out.mono ?_; rintro e w3 ⟨rfl, hB3⟩))
 have hM := BoxG.made w3 [.int .i64 lo, .int .i64 hiV] 24
 have hB4 := hB3.trans ((al' (Below.refl w3.heap.size w3) (.cells #[.int .i64 lo, .int .i64 hiV] 24)).mono hB3.size)
 have HB4 := Hd hB4
 clear hB3 hB4
 generalize w3.alloc (.cells #[.int .i64 lo, .int .i64 hiV] 24) = w4 at *
 obtain ⟨M, hMe⟩ : ∃ M, w3.heap.size = M := ⟨_, rfl⟩
 rw [hMe] at hM ⊢
 clear hMe
 obtain ⟨m0, m1, _, _⟩ := pair_facts hM
 go_upto_region 5 with (go_at_call 16; refine (C2.out w4 HB4.out).mono ?_; rintro e w5 ⟨v5, rfl, hrow5, hB5⟩)
 obtain ⟨ja, jc, rfl, hjc, hrI, hbI⟩ := Rd.of_own hrow5 ints_length (by decide) rfl (by have := HLl.out; unfold maxLen; omega)
 have HB5 := Hd (HB4.out.trans (hB5.mono HB4.out.size))
 have m05 := cell_stays m0 hB5
 have m15 := cell_stays m1 hB5
 have HrI := Hd hrI
 have HbI := Hd (fun p e => (hbI p e).2)
 clear hrow5 hrI hbI hB5
 by_cases h0 : E = 0
 case neg =>
  have h1 : (E != 0) = true := by simp [h0]
  have h2 : (E == E) = true := by simp
  have h3 := HLn.out h0
  subst h3
  clear h0
  go_wp2_with (go_at_call 13; refine (CA.out _ HB5.out).mono ?_; rintro e w6 ⟨rfl, hS⟩)
  go_ret
  exact ⟨rfl, HB5.out.trans (hS.mono HB5.out.size)⟩
 subst h0
 obtain ⟨hre, q1, q2, q3⟩ := HRs.out rfl
 subst hre
 obtain ⟨NV, hNV⟩ : ∃ z, sideR (lo, hiV) upper = z := ⟨_, rfl⟩
 rw [hNV] at q1 q3
 have Q1 := Hd q1
 have Q2 := Hd (q2 endv ids)
 have Q3 := Hd q3
 obtain ⟨SH, hSH⟩ : ∃ b, CK endv ids = b := ⟨_, rfl⟩
 have D1 := Hd (C3.out NV ja AV.length jc AV w5 HB5.out HrI.out)
 have D2 := Hd (fun W (hW : Below w5.heap.size w5 W) => C3.out endv ia inn ic ids W (HB5.out.trans (hW.mono HB5.out.size)) (HI.out.below' (HB5.out.trans (hW.mono HB5.out.size))))
 rw [q1] at D1
 rw [hSH] at D2 Q2
 clear q1 q2 q3 hSH HRs HLn
 cases upper with
 | true =>
   obtain rfl : hiV = NV := hNV
   cases SH with
   | true =>
     have g : ¬ endv < hiV := by have := (Q2.out rfl).1 rfl; omega
     go_wp2_with (first
      | (go_at_call 26; with_reducible refine D1.out.mono ?_; rintro e w6 ⟨rfl, hB6⟩)
      | (go_at_call 26; with_reducible refine (D2.out w6 hB6).mono ?_; rintro e w7 ⟨rfl, hB7⟩; have m07 := cell_stays (cell_stays m05 hB6) hB7; have m17 := cell_stays (cell_stays m15 hB6) hB7))
     have HB57 := Hd (hB6.trans (hB7.mono hB6.size))
     have HB7 := Hd (HB5.out.trans (HB57.out.mono HB5.out.size))
     have Hr7 := Hd (HrI.out.below' HB57.out)
     clear hB6 hB7 m0 m1 m05 m15 m07 m17 D1 D2
     go_loopw [131] (fun i wr => ∃ k : Nat, k ≤ AV.length ∧ i = .int .i64 k ∧ Below w7.heap.size w7 wr) (fun i _ => AV.length - (intOf i).toNat)
     case atStart => exact ⟨0, Nat.zero_le _, rfl, Below.refl _ _⟩
     case round =>
      obtain ⟨k, hk, rfl, hw⟩ := hrel
      have HBr := Hd hw
      have HBe := Hd (HB7.out.trans (hw.mono HB7.out.size))
      have Hr := Hd (Hr7.out.below' hw)
      have al := HLl.out
      clear hw
      by_cases hlt : k < AV.length
      · have hlt' : (k : Int) < (AV.length : Int) := by omega
        have q3 := Q3.out k hlt
        obtain ⟨b, off, y, rfl, _, _, _⟩ := Hr.out.int hlt
        have D3 := Hd (without_l b off AV.length jc AV k wr Hr.out hlt al hjc)
        have D4 := Hd (fun jb jd W (hW : Below wr.heap.size wr W) => C3.out hiV jb (AV.eraseIdx k).length jd (AV.eraseIdx k) W (HBe.out.trans (hW.mono HBe.out.size)))
        rw [q3] at D4
        have el : (AV.eraseIdx k).length ≤ 1000 := Nat.le_trans (List.length_eraseIdx_le _ _) al
        obtain ⟨LE, hLE⟩ : ∃ z, AV.eraseIdx k = z := ⟨_, rfl⟩
        rw [hLE] at D3 D4 el
        clear q3 hLE
        go_wp2_with (first
         | (go_at_call 29; refine D3.out.mono ?_; rintro e w8 ⟨v8, rfl, hrow8, hB8⟩; obtain ⟨jb, jd, rfl, hjd, hr8, hb8⟩ := Rd.of_own hrow8 ints_length (by decide) rfl (by unfold maxLen; omega))
         | (go_at_call 26; refine (D4.out jb jd w8 hB8 hr8).mono ?_; rintro e w9 ⟨rfl, hB9⟩))
        exact ⟨⟨k + 1, by omega, by go_num, (HBr.out.trans (hB8.mono HBr.out.size)).trans (hB9.mono (HBr.out.trans (hB8.mono HBr.out.size)).size)⟩, by simp [intOf]; omega⟩
      · have hltg : ¬ (k : Int) < (AV.length : Int) := by omega
        clear hlt
        go_wp2_with (go_at_call 13; refine (CA.out _ HBe.out).mono ?_; rintro e w8 ⟨rfl, hS⟩)
        go_ret
        exact ⟨rfl, HBe.out.trans (hS.mono HBe.out.size)⟩
   | false =>
     skip
     go_wp2_with (first
      | (go_at_call 26; with_reducible refine D1.out.mono ?_; rintro e w6 ⟨rfl, hB6⟩)
      | (go_at_call 26; with_reducible refine (D2.out w6 hB6).mono ?_; rintro e w7 ⟨rfl, hB7⟩; have m07 := cell_stays (cell_stays m05 hB6) hB7; have m17 := cell_stays (cell_stays m15 hB6) hB7))
     have HB57 := Hd (hB6.trans (hB7.mono hB6.size))
     have HB7 := Hd (HB5.out.trans (HB57.out.mono HB5.out.size))
     have Hr7 := Hd (HrI.out.below' HB57.out)
     clear hB6 hB7 m0 m1 m05 m15 m07 m17 D1 D2
     go_loopw [131] (fun i wr => ∃ k : Nat, k ≤ AV.length ∧ i = .int .i64 k ∧ Below w7.heap.size w7 wr) (fun i _ => AV.length - (intOf i).toNat)
     case atStart => exact ⟨0, Nat.zero_le _, rfl, Below.refl _ _⟩
     case round =>
      obtain ⟨k, hk, rfl, hw⟩ := hrel
      have HBr := Hd hw
      have HBe := Hd (HB7.out.trans (hw.mono HB7.out.size))
      have Hr := Hd (Hr7.out.below' hw)
      have al := HLl.out
      clear hw
      by_cases hlt : k < AV.length
      · have hlt' : (k : Int) < (AV.length : Int) := by omega
        have q3 := Q3.out k hlt
        obtain ⟨b, off, y, rfl, _, _, _⟩ := Hr.out.int hlt
        have D3 := Hd (without_l b off AV.length jc AV k wr Hr.out hlt al hjc)
        have D4 := Hd (fun jb jd W (hW : Below wr.heap.size wr W) => C3.out hiV jb (AV.eraseIdx k).length jd (AV.eraseIdx k) W (HBe.out.trans (hW.mono HBe.out.size)))
        rw [q3] at D4
        have el : (AV.eraseIdx k).length ≤ 1000 := Nat.le_trans (List.length_eraseIdx_le _ _) al
        obtain ⟨LE, hLE⟩ : ∃ z, AV.eraseIdx k = z := ⟨_, rfl⟩
        rw [hLE] at D3 D4 el
        clear q3 hLE
        go_wp2_with (first
         | (go_at_call 29; refine D3.out.mono ?_; rintro e w8 ⟨v8, rfl, hrow8, hB8⟩; obtain ⟨jb, jd, rfl, hjd, hr8, hb8⟩ := Rd.of_own hrow8 ints_length (by decide) rfl (by unfold maxLen; omega))
         | (go_at_call 26; refine (D4.out jb jd w8 hB8 hr8).mono ?_; rintro e w9 ⟨rfl, hB9⟩))
        exact ⟨⟨k + 1, by omega, by go_num, (HBr.out.trans (hB8.mono HBr.out.size)).trans (hB9.mono (HBr.out.trans (hB8.mono HBr.out.size)).size)⟩, by simp [intOf]; omega⟩
      · have hltg : ¬ (k : Int) < (AV.length : Int) := by omega
        clear hlt
        go_wp2_with (go_at_call 13; refine (CA.out _ HBe.out).mono ?_; rintro e w8 ⟨rfl, hS⟩)
        go_ret
        exact ⟨rfl, HBe.out.trans (hS.mono HBe.out.size)⟩
 | false =>
   obtain rfl : lo = NV := hNV
   cases SH with
   | true =>
     have g : ¬ lo < endv := by have := (Q2.out rfl).2 rfl; omega
     go_wp2_with (first
      | (go_at_call 26; with_reducible refine D1.out.mono ?_; rintro e w6 ⟨rfl, hB6⟩)
      | (go_at_call 26; with_reducible refine (D2.out w6 hB6).mono ?_; rintro e w7 ⟨rfl, hB7⟩; have m07 := cell_stays (cell_stays m05 hB6) hB7; have m17 := cell_stays (cell_stays m15 hB6) hB7))
     have HB57 := Hd (hB6.trans (hB7.mono hB6.size))
     have HB7 := Hd (HB5.out.trans (HB57.out.mono HB5.out.size))
     have Hr7 := Hd (HrI.out.below' HB57.out)
     clear hB6 hB7 m0 m1 m05 m15 m07 m17 D1 D2
     go_loopw [131] (fun i wr => ∃ k : Nat, k ≤ AV.length ∧ i = .int .i64 k ∧ Below w7.heap.size w7 wr) (fun i _ => AV.length - (intOf i).toNat)
     case atStart => exact ⟨0, Nat.zero_le _, rfl, Below.refl _ _⟩
     case round =>
      obtain ⟨k, hk, rfl, hw⟩ := hrel
      have HBr := Hd hw
      have HBe := Hd (HB7.out.trans (hw.mono HB7.out.size))
      have Hr := Hd (Hr7.out.below' hw)
      have al := HLl.out
      clear hw
      by_cases hlt : k < AV.length
      · have hlt' : (k : Int) < (AV.length : Int) := by omega
        have q3 := Q3.out k hlt
        obtain ⟨b, off, y, rfl, _, _, _⟩ := Hr.out.int hlt
        have D3 := Hd (without_l b off AV.length jc AV k wr Hr.out hlt al hjc)
        have D4 := Hd (fun jb jd W (hW : Below wr.heap.size wr W) => C3.out lo jb (AV.eraseIdx k).length jd (AV.eraseIdx k) W (HBe.out.trans (hW.mono HBe.out.size)))
        rw [q3] at D4
        have el : (AV.eraseIdx k).length ≤ 1000 := Nat.le_trans (List.length_eraseIdx_le _ _) al
        obtain ⟨LE, hLE⟩ : ∃ z, AV.eraseIdx k = z := ⟨_, rfl⟩
        rw [hLE] at D3 D4 el
        clear q3 hLE
        go_wp2_with (first
         | (go_at_call 29; refine D3.out.mono ?_; rintro e w8 ⟨v8, rfl, hrow8, hB8⟩; obtain ⟨jb, jd, rfl, hjd, hr8, hb8⟩ := Rd.of_own hrow8 ints_length (by decide) rfl (by unfold maxLen; omega))
         | (go_at_call 26; refine (D4.out jb jd w8 hB8 hr8).mono ?_; rintro e w9 ⟨rfl, hB9⟩))
        exact ⟨⟨k + 1, by omega, by go_num, (HBr.out.trans (hB8.mono HBr.out.size)).trans (hB9.mono (HBr.out.trans (hB8.mono HBr.out.size)).size)⟩, by simp [intOf]; omega⟩
      · have hltg : ¬ (k : Int) < (AV.length : Int) := by omega
        clear hlt
        go_wp2_with (go_at_call 13; refine (CA.out _ HBe.out).mono ?_; rintro e w8 ⟨rfl, hS⟩)
        go_ret
        exact ⟨rfl, HBe.out.trans (hS.mono HBe.out.size)⟩
   | false =>
     skip
     go_wp2_with (first
      | (go_at_call 26; with_reducible refine D1.out.mono ?_; rintro e w6 ⟨rfl, hB6⟩)
      | (go_at_call 26; with_reducible refine (D2.out w6 hB6).mono ?_; rintro e w7 ⟨rfl, hB7⟩; have m07 := cell_stays (cell_stays m05 hB6) hB7; have m17 := cell_stays (cell_stays m15 hB6) hB7))
     have HB57 := Hd (hB6.trans (hB7.mono hB6.size))
     have HB7 := Hd (HB5.out.trans (HB57.out.mono HB5.out.size))
     have Hr7 := Hd (HrI.out.below' HB57.out)
     clear hB6 hB7 m0 m1 m05 m15 m07 m17 D1 D2
     go_loopw [131] (fun i wr => ∃ k : Nat, k ≤ AV.length ∧ i = .int .i64 k ∧ Below w7.heap.size w7 wr) (fun i _ => AV.length - (intOf i).toNat)
     case atStart => exact ⟨0, Nat.zero_le _, rfl, Below.refl _ _⟩
     case round =>
      obtain ⟨k, hk, rfl, hw⟩ := hrel
      have HBr := Hd hw
      have HBe := Hd (HB7.out.trans (hw.mono HB7.out.size))
      have Hr := Hd (Hr7.out.below' hw)
      have al := HLl.out
      clear hw
      by_cases hlt : k < AV.length
      · have hlt' : (k : Int) < (AV.length : Int) := by omega
        have q3 := Q3.out k hlt
        obtain ⟨b, off, y, rfl, _, _, _⟩ := Hr.out.int hlt
        have D3 := Hd (without_l b off AV.length jc AV k wr Hr.out hlt al hjc)
        have D4 := Hd (fun jb jd W (hW : Below wr.heap.size wr W) => C3.out lo jb (AV.eraseIdx k).length jd (AV.eraseIdx k) W (HBe.out.trans (hW.mono HBe.out.size)))
        rw [q3] at D4
        have el : (AV.eraseIdx k).length ≤ 1000 := Nat.le_trans (List.length_eraseIdx_le _ _) al
        obtain ⟨LE, hLE⟩ : ∃ z, AV.eraseIdx k = z := ⟨_, rfl⟩
        rw [hLE] at D3 D4 el
        clear q3 hLE
        go_wp2_with (first
         | (go_at_call 29; refine D3.out.mono ?_; rintro e w8 ⟨v8, rfl, hrow8, hB8⟩; obtain ⟨jb, jd, rfl, hjd, hr8, hb8⟩ := Rd.of_own hrow8 ints_length (by decide) rfl (by unfold maxLen; omega))
         | (go_at_call 26; refine (D4.out jb jd w8 hB8 hr8).mono ?_; rintro e w9 ⟨rfl, hB9⟩))
        exact ⟨⟨k + 1, by omega, by go_num, (HBr.out.trans (hB8.mono HBr.out.size)).trans (hB9.mono (HBr.out.trans (hB8.mono HBr.out.size)).size)⟩, by simp [intOf]; omega⟩
      · have hltg : ¬ (k : Int) < (AV.length : Int) := by omega
        clear hlt
        go_wp2_with (go_at_call 13; refine (CA.out _ HBe.out).mono ?_; rintro e w8 ⟨rfl, hS⟩)
        go_ret
        exact ⟨rfl, HBe.out.trans (hS.mono HBe.out.size)⟩
end Go.Proofs.YtleiapljnjaloaaGreatDoor
