/- The walks of slices.Index and slices.Contains over weights, where what is looked for is there. -/
import Derived.Test.YtehplmeckfinoaaGreatDoorCComp
import Derived.Test.YtehplmeckfinoaaGreatDoorCCompl
import Derived.Test.YtehplmeckfinoaaGreatDoorCRComp
import Derived.Test.YtehplmeckfinoaaGreatDoorCRWeighOne
import Derived.Test.YtehplmeckfinoaaGreatDoorCTreeE
set_option linter.unusedSimpArgs false
set_option linter.unusedVariables false
namespace Go.Proofs.YtehplmeckfinoaaGreatDoor
open Go.RowKit Go.Shelf
set_option maxRecDepth 100000 in
set_option maxHeartbeats 4000000 in
theorem indexW_any (a : Option Addr) (n cap : Nat) (xs : List (Int × Int)) (x : Int × Int) (hx : x ∈ xs) (w : World) (h : Rd weiV 2 w a n xs) :
 Calls Tryz.prog 41 #[.slice a n cap, .agg #[.int .i64 x.1, .int .i64 x.2]] w fun e w' => (∃ i : Nat, e = .returned (.int .i64 i)) ∧ Below w.heap.size w w' := by
 have hbx := BoxG.made w [.int .i64 x.1, .int .i64 x.2] 37
 have hB := al' (Below.refl w.heap.size w) (.cells #[.int .i64 x.1, .int .i64 x.2] 37)
 have HR := Hd (h.below' hB)
 have HX := Hd hx
 obtain ⟨x0, x1, _, _⟩ := pair_facts hbx
 have HB := Hd hB
 have hcl := h.cap
 unfold maxLen at hcl
 clear h hx hbx hB
 go_enter Tryz.func41, Tryz.ntmps41
 go_upto_region 2 with (fail)
 generalize w.alloc (.cells #[.int .i64 x.1, .int .i64 x.2] 37) = w1 at *
 obtain ⟨B, hBe⟩ : ∃ B, w.heap.size = B := ⟨_, rfl⟩
 rw [hBe] at x0 x1 ⊢
 have HX0 := Hd x0
 have HX1 := Hd x1
 clear x0 x1
 go_loopw [8] (fun i wr => ∃ k : Nat, k ≤ n ∧ i = .int .i64 k ∧ (∀ j, j < k → xs[j]? ≠ some x) ∧ Below w1.heap.size w1 wr) (fun i _ => n - (intOf i).toNat)
 case atStart => exact ⟨0, Nat.zero_le _, rfl, fun j hj => absurd hj (Nat.not_lt_zero _), Below.refl _ _⟩
 case round =>
  obtain ⟨k, hk, rfl, hno, hBr⟩ := hrel
  have HNo := Hd hno
  have HBr := Hd hBr
  have HRr := Hd (HR.out.below' hBr)
  have x0 := cell_stays HX0.out hBr
  have x1 := cell_stays HX1.out hBr
  clear hno hBr
  by_cases hlt : k < n
  case neg =>
   exfalso
   obtain ⟨j, hj⟩ := List.getElem?_of_mem HX.out
   have h1 := (List.getElem?_eq_some_iff.1 hj).1
   have h2 := HRr.out.len
   exact HNo.out j (by omega) hj
  have hlt' : (k : Int) < (n : Int) := by omega
  obtain ⟨b, off, y, rfl, hb, hy, c0, c1⟩ := HRr.out.wei hlt
  go_upto_region 4 with (fail)
  obtain ⟨p1, hp1⟩ : ∃ v, x.1 = v := ⟨_, rfl⟩
  obtain ⟨p2, hp2⟩ : ∃ v, x.2 = v := ⟨_, rfl⟩
  obtain ⟨r1, hr1⟩ : ∃ v, y.1 = v := ⟨_, rfl⟩
  obtain ⟨r2, hr2⟩ : ∃ v, y.2 = v := ⟨_, rfl⟩
  rw [hp1] at x0
  rw [hp2] at x1
  rw [hr1] at c0
  rw [hr2] at c1
  have HE := Hd (show (p1 = r1 ∧ p2 = r2) → y = x from fun h => by
   rw [← hp1, ← hp2, ← hr1, ← hr2] at h
   exact Prod.ext h.1.symm h.2.symm)
  have HYk := Hd hy
  have HEn := Hd (show ¬ (p1 = r1 ∧ p2 = r2) → ∀ j, j < k + 1 → xs[j]? ≠ some x from fun h j hj e => by
   by_cases hjk : j < k
   · exact HNo.out j hjk e
   · obtain rfl : j = k := by omega
     rw [HYk.out] at e
     have e2 := Option.some.inj e
     subst e2
     exact h ⟨by rw [← hp1, ← hr1], by rw [← hp2, ← hr2]⟩)
  clear hp1 hp2 hr1 hr2 hy
  by_cases q1 : p1 = r1
  · subst q1
    by_cases q2 : p2 = r2
    · subst q2
      clear HEn
      go_region_held3 (fun w' => w'.cell? ⟨B, 0, none⟩ = some (.int .i64 p1) ∧ w'.cell? ⟨B, 1, none⟩ = some (.int .i64 p2) ∧ w'.cell? ⟨b, off + k * 2, none⟩ = some (.int .i64 p1) ∧ w'.cell? ⟨b, off + k * 2 + 1, none⟩ = some (.int .i64 p2)) (first | assumption | go_keep) (fail)
      go_wp2_with fail
      have HBd := Hd (show Below wr.heap.size wr wr.drew from drewN_below wr 1)
      go_ret
      exact ⟨⟨k, rfl⟩, by rw [← hBe]; exact HB.out.trans ((HBr.out.trans (HBd.out.mono HBr.out.size)).mono HB.out.size)⟩
    · have g2 : (p2 == r2) = false := by simp [q2]
      have HN := Hd (HEn.out (fun h => q2 h.2))
      clear q2 HEn HE
      go_region_held3 (fun w' => w'.cell? ⟨B, 0, none⟩ = some (.int .i64 p1) ∧ w'.cell? ⟨B, 1, none⟩ = some (.int .i64 p2) ∧ w'.cell? ⟨b, off + k * 2, none⟩ = some (.int .i64 p1) ∧ w'.cell? ⟨b, off + k * 2 + 1, none⟩ = some (.int .i64 r2)) (first | assumption | go_keep) (fail)
      go_wp2_with fail
      have HBd := Hd (show Below wr.heap.size wr wr.drew from drewN_below wr 1)
      exact ⟨⟨k + 1, by omega, by go_num, HN.out, HBr.out.trans (HBd.out.mono HBr.out.size)⟩, by simp [intOf]; omega⟩
  · have g1 : (p1 == r1) = false := by simp [q1]
    have HN := Hd (HEn.out (fun h => q1 h.1))
    clear q1 HEn HE
    go_region_held3 (fun w' => w'.cell? ⟨B, 0, none⟩ = some (.int .i64 p1) ∧ w'.cell? ⟨B, 1, none⟩ = some (.int .i64 p2) ∧ w'.cell? ⟨b, off + k * 2, none⟩ = some (.int .i64 r1) ∧ w'.cell? ⟨b, off + k * 2 + 1, none⟩ = some (.int .i64 r2)) (first | assumption | go_keep) (fail)
    go_wp2_with fail
    have HBd := Hd (show Below wr.heap.size wr wr.drew from drewN_below wr 1)
    exact ⟨⟨k + 1, by omega, by go_num, HN.out, HBr.out.trans (HBd.out.mono HBr.out.size)⟩, by simp [intOf]; omega⟩
set_option maxRecDepth 100000 in
set_option maxHeartbeats 4000000 in
theorem containsW_any (a : Option Addr) (n cap : Nat) (xs : List (Int × Int)) (x : Int × Int) (hx : x ∈ xs) (w : World) (h : Rd weiV 2 w a n xs) :
 Calls Tryz.prog 11 #[.slice a n cap, .agg #[.int .i64 x.1, .int .i64 x.2]] w fun e w' => e = .returned (.bool true) ∧ Below w.heap.size w w' := by
 have hbx := BoxG.made w [.int .i64 x.1, .int .i64 x.2] 37
 have hB := al' (Below.refl w.heap.size w) (.cells #[.int .i64 x.1, .int .i64 x.2] 37)
 have CI := Hd (indexW_any a n cap xs x hx _ (h.below' hB))
 obtain ⟨x0, x1, _, _⟩ := pair_facts hbx
 have HB := Hd hB
 clear h hx hbx hB
 go_enter Tryz.func11, Tryz.ntmps11
 go_upto_region 1 with (fail)
 generalize w.alloc (.cells #[.int .i64 x.1, .int .i64 x.2] 37) = w1 at *
 go_wp2_with (go_at_call 41; refine CI.out.mono ?_; rintro e w2 ⟨⟨i, rfl⟩, hB2⟩)
 go_ret
 exact ⟨by congr 2, HB.out.trans (hB2.mono HB.out.size)⟩
theorem compl_off {xs : List Pa} {known loss pack weight : Int} (h : ¬ (weighE xs known loss (hasP xs known loss pack) = 0 ∧ (weighP xs known loss pack).1 ≤ weight ∧ weight ≤ (weighP xs known loss pack).2)) : complIs xs known loss pack weight = false ∧ complV xs known loss pack weight = [] := by
 have h1 : complIs xs known loss pack weight = false := by
  unfold complIs within
  by_cases h0 : weighE xs known loss (hasP xs known loss pack) = 0
  · rw [decide_eq_false (fun h2 => h ⟨h0, h2⟩), Bool.false_and, Bool.and_false]
  · rw [decide_eq_false h0, Bool.false_and]
 exact ⟨h1, compl_none h1⟩
set_option maxRecDepth 100000 in
set_option maxHeartbeats 8000000 in
theorem law_completions (a : Option Addr) (n cap : Nat) (xs : List Pa) (known loss pack weight : Int) (ca : Option Addr) (cn cc : Nat) (cs : List (Int × Int)) (w : World) (h : Rd Pa.vals 14 w a n xs) (hz : a = none → cap = 0) (hcap : n ≤ cap) (hc : Rd weiV 2 w ca cn cs) (hi : ∀ x ∈ cs, I64 x.1) (hw : Laid w) :
 Calls Tryz.prog 3 #[.slice a n cap, .int .i64 known, .int .i64 loss, .int .i64 pack, .int .i64 weight, .slice ca cn cc] w fun e w' => e = .returned (.bool true) ∧ Below w.heap.size w w' := by
 have CA := Hd (show ∀ W, Below w.heap.size w W → Calls Tryz.prog 6 #[] W fun e w' => e = .returned (.bool true) ∧ Below W.heap.size W w' from fun W hB => alive_any W (hw.below hB))
 have CF := Hd (lfew_any a n cap xs w h)
 have HR := Hd h
 have HC := Hd hc
 have HI := Hd hi
 have Hlen := Hd h.len
 clear h hw hz hc hi
 obtain ⟨F1, hF1⟩ : ∃ b, fewB xs 30 = b := ⟨_, rfl⟩
 rw [hF1] at CF
 have HF := Hd hF1
 clear hF1
 have HB := Hd (Below.refl w.heap.size w)
 by_cases hen : 60 < cn
 · have hen' : (60 : Int) < (cn : Int) := by omega
   go_enter Tryz.func3, Tryz.ntmps3
   cases F1 <;>
   · go_wp2_with (first
      | (go_at_call 5; refine CF.out.mono ?_; rintro e w2 ⟨rfl, hw2⟩; obtain rfl := hw2.symm; clear hw2)
      | (go_at_call 6; refine (CA.out _ HB.out).mono ?_; rintro e w3 ⟨rfl, hS⟩))
     go_ret
     exact ⟨rfl, hS⟩
 have hen' : ¬ (60 : Int) < (cn : Int) := by omega
 cases F1 with
 | false =>
   go_enter Tryz.func3, Tryz.ntmps3
   go_wp2_with (first
    | (go_at_call 5; refine CF.out.mono ?_; rintro e w2 ⟨rfl, hw2⟩; obtain rfl := hw2.symm; clear hw2)
    | (go_at_call 6; refine (CA.out _ HB.out).mono ?_; rintro e w3 ⟨rfl, hS⟩))
   go_ret
   exact ⟨rfl, hS⟩
 | true =>
 have HS : ∀ y ∈ xs, y.Short := fun y hy => by have := (few_short HF.out).2 y hy; exact ⟨by omega, by omega⟩
 have hn : n ≤ 30 := by have h1 := (few_short HF.out).1; rw [Hlen.out] at h1; omega
 have C1 := Hd (checkCompletion_any a n cap xs HS known loss ca cn cc cs HI.out w HR.out hcap HC.out)
 have C2 := Hd (fun (ia : Option Addr) (inn ic : Nat) (ids : List (Int × Int)) W (hW : Below w.heap.size w W) (h : Rd weiV 2 W ia inn ids) => checkCompletion_r a n cap xs HS known loss ia inn ic ids W (HR.out.below' hW) hcap (by omega) h)
 have C3 := Hd (fun W (hW : Below w.heap.size w W) => completion_any a n cap xs HS known loss pack weight W (HR.out.below' hW) hcap)
 have C4 := Hd (fun W (hW : Below w.heap.size w W) => weigh_r a n cap xs HS known loss pack W (HR.out.below' hW) hcap (by omega))
 have P1 := Hd (show ¬ (weighE xs known loss (hasP xs known loss pack) = 0 ∧ (weighV xs known loss pack).1 ≤ weight ∧ weight ≤ (weighV xs known loss pack).2) → complIs xs known loss pack weight = false ∧ complV xs known loss pack weight = [] from fun h => compl_off (fun h2 => h (by
  unfold weighV; rw [if_pos h2.1]; exact h2)))
 have P2 := Hd (show weighE xs known loss (hasP xs known loss pack) = 0 → ((weighV xs known loss pack).1 ≤ weight ∧ weight ≤ (weighV xs known loss pack).2) → complIs xs known loss pack weight = true ∧ compB xs known loss (complV xs known loss pack weight) = true ∧ (pack, weight) ∈ complV xs known loss pack weight ∧ rootE xs known loss true = 0 from fun h0 h1 => by
  obtain ⟨ho, hh⟩ := root_open (weigh_root h0)
  have hr0 := weigh_root h0
  rw [hh] at hr0
  unfold weighV at h1
  rw [if_pos h0] at h1
  obtain ⟨g1, g2, G, g3, g4⟩ := compl_good h0 h1
  refine ⟨g1, g2, ?_, hr0⟩
  rw [g3]
  obtain ⟨y, hy⟩ := Option.isSome_iff_exists.1 (show (ofI (papersL xs known loss) pack).isSome = true from hh)
  obtain ⟨hy1, hy2⟩ := ofI_mem hy
  exact List.mem_map.2 ⟨y, hy1, by rw [hy2, g4]⟩)
 unfold CkPost at C1 C2
 unfold ComplPost at C3
 unfold WeighedPost at C4
 have hcomp : ∀ js, refB xs known loss js = compB xs known loss js := fun js => (comp_is xs known loss js).symm
 simp only [hcomp] at C2
 clear hcomp
 obtain ⟨CK, hCK⟩ : ∃ f : List (Int × Int) → Bool, (fun js => compB xs known loss js) = f := ⟨_, rfl⟩
 have hCK' : ∀ js, compB xs known loss js = CK js := fun js => congrFun hCK js
 simp only [hCK'] at C1 C2 P2
 obtain ⟨E, hE⟩ : ∃ P, rootE xs known loss true = P := ⟨_, rfl⟩
 obtain ⟨I, hI⟩ : ∃ P, complIs xs known loss pack weight = P := ⟨_, rfl⟩
 obtain ⟨V, hV⟩ : ∃ P, complV xs known loss pack weight = P := ⟨_, rfl⟩
 obtain ⟨WE, hWE⟩ : ∃ P, weighE xs known loss (hasP xs known loss pack) = P := ⟨_, rfl⟩
 obtain ⟨lo, hlo⟩ : ∃ P, (weighV xs known loss pack).1 = P := ⟨_, rfl⟩
 obtain ⟨hi, hhi⟩ : ∃ P, (weighV xs known loss pack).2 = P := ⟨_, rfl⟩
 rw [hE] at C1 C2 P2
 rw [hI, hV] at C3 P1
 rw [hI, hV] at P2
 rw [hWE] at C3 C4 P1 P2
 rw [hlo, hhi] at C4 P1 P2
 clear hE hI hV hWE hlo hhi hCK hCK' HF
 go_enter Tryz.func3, Tryz.ntmps3
 go_upto_region 4 with (first
  | (go_at_call 5; refine CF.out.mono ?_; rintro e w2 ⟨rfl, hw2⟩; obtain rfl := hw2.symm; clear hw2)
  | (go_at_call 7; refine C1.out.mono ?_; rintro e w3 ⟨rfl, hS⟩))
 have HB3 := Hd hS
 have HC3 := Hd (HC.out.below' hS)
 clear hS C1 HB HC
 go_upto_region 7 with (go_at_call 8; refine (C2.out ca cn cc cs w3 HB3.out HC3.out).mono ?_; rintro e w4 ⟨rfl, hS⟩)
 have HB4 := Hd (HB3.out.trans (hS.mono HB3.out.size))
 clear hS HB3 HC3
 go_upto_region 8 with (go_at_call 9; refine (C3.out w4 HB4.out).mono ?_; rintro e w5 ⟨ma, mc, rfl, hrm, hS⟩)
 have HB5 := Hd (HB4.out.trans (hS.mono HB4.out.size))
 have HM5 := Hd hrm
 clear hS C3 HB4 hrm
 go_upto_region 9 with (go_at_call 10; refine (C4.out w5 HB5.out).mono ?_; rintro e w6 ⟨rfl, hS⟩)
 have HB6 := Hd (HB5.out.trans (hS.mono HB5.out.size))
 have HM6 := Hd (HM5.out.below' hS)
 clear hS C4 HB5 HM5
 have hbx := BoxG.made w6 [.int .i64 lo, .int .i64 hi] 32
 have hBx := al' (Below.refl w6.heap.size w6) (.cells #[.int .i64 lo, .int .i64 hi] 32)
 have HB7 := Hd (HB6.out.trans (hBx.mono HB6.out.size))
 have HM7 := Hd (HM6.out.below' hBx)
 clear hBx HB6 HM6
 generalize w6.alloc (.cells #[.int .i64 lo, .int .i64 hi] 32) = w7 at *
 obtain ⟨X, hXe⟩ : ∃ M, w6.heap.size = M := ⟨_, rfl⟩
 rw [hXe] at hbx ⊢
 clear hXe
 obtain ⟨x0, x1, _, _⟩ := pair_facts hbx
 clear hbx
 have HL := Hd (show ∀ l : List (Int × Int), l = [] → l.length = 0 from fun l h => by rw [h]; rfl)
 obtain ⟨vn, hvn⟩ : ∃ m, V.length = m := ⟨_, rfl⟩
 rw [hvn] at HM7 ⊢
 have HVn := Hd hvn
 clear hvn
 by_cases hE0 : WE = 0
 case neg =>
  have g1 : (WE != 0) = true := by simp [hE0]
  have g2 : (WE == WE) = true := by simp
  obtain ⟨e1, e2⟩ := P1.out (fun h => hE0 h.1)
  subst e1
  have g3 : ((vn : Int) == 0) = true := by have h1 := HVn.out; rw [e2] at h1; simp at h1; simp [← h1]
  clear hE0 e2 P1 P2 C2
  go_wp2_with fail
  refine (CA.out _ HB7.out).mono ?_
  rintro e w8 ⟨rfl, hS⟩
  have HB' := Hd (HB7.out.trans (hS.mono HB7.out.size))
  clear hS
  go_wp2_with fail
  go_ret
  exact ⟨rfl, HB'.out⟩
 subst hE0
 by_cases hwr : lo ≤ weight ∧ weight ≤ hi
 case neg =>
  obtain ⟨e1, e2⟩ := P1.out (fun h => hwr h.2)
  subst e1
  have g3 : ((vn : Int) == 0) = true := by have h1 := HVn.out; rw [e2] at h1; simp at h1; simp [← h1]
  by_cases hl : lo ≤ weight
  · have hh : ¬ weight ≤ hi := fun h => hwr ⟨hl, h⟩
    have g4 : decide (lo ≤ weight) = true := decide_eq_true hl
    have g5 : decide (weight ≤ hi) = false := decide_eq_false hh
    clear hwr hl hh e2 P1 P2 C2
    go_wp2_with fail
    refine (CA.out _ HB7.out).mono ?_
    rintro e w8 ⟨rfl, hS⟩
    have HB' := Hd (HB7.out.trans (hS.mono HB7.out.size))
    clear hS
    go_wp2_with fail
    go_ret
    exact ⟨rfl, HB'.out⟩
  · have g4 : decide (lo ≤ weight) = false := decide_eq_false hl
    clear hwr hl e2 P1 P2 C2
    go_wp2_with fail
    refine (CA.out _ HB7.out).mono ?_
    rintro e w8 ⟨rfl, hS⟩
    have HB' := Hd (HB7.out.trans (hS.mono HB7.out.size))
    clear hS
    go_wp2_with fail
    go_ret
    exact ⟨rfl, HB'.out⟩
 obtain ⟨e1, e2, e3, e4⟩ := P2.out rfl hwr
 subst e1 e4
 have g4 : decide (lo ≤ weight) = true := decide_eq_true hwr.1
 have g5 : decide (weight ≤ hi) = true := decide_eq_true hwr.2
 have C5 := Hd (C2.out ma vn mc V w7 HB7.out HM7.out)
 rw [e2] at C5
 have C6 := Hd (fun W (h : Rd weiV 2 W ma vn V) => containsW_any ma vn mc V (pack, weight) e3 W h)
 clear hwr e2 e3 P1 P2 C2
 go_upto_region 16 with (go_at_call 8; refine C5.out.mono ?_; rintro e w8 ⟨rfl, hS⟩)
 have HB8 := Hd (HB7.out.trans (hS.mono HB7.out.size))
 have HM8 := Hd (HM7.out.below' hS)
 clear hS C5 HB7 HM7 x0 x1
 go_upto_region 17 with (go_at_call 11; refine (C6.out w8 HM8.out).mono ?_; rintro e w9 ⟨rfl, hS⟩)
 have HB9 := Hd (HB8.out.trans (hS.mono HB8.out.size))
 clear hS C6
 go_wp2_with fail
 refine (CA.out _ HB9.out).mono ?_
 rintro e w10 ⟨rfl, hS⟩
 have HB' := Hd (HB9.out.trans (hS.mono HB9.out.size))
 clear hS
 go_wp2_with fail
 go_ret
 exact ⟨rfl, HB'.out⟩
end Go.Proofs.YtehplmeckfinoaaGreatDoor
