/- The law CargoEither walked. -/
import Derived.Test.YtleiapljnjaloaaGreatDoorCComp
import Derived.Test.YtleiapljnjaloaaGreatDoorCCheckDb
import Derived.Test.YtleiapljnjaloaaGreatDoorCWeights
import Derived.Test.YtleiapljnjaloaaGreatDoorCLawRests
set_option linter.unusedSimpArgs false
set_option linter.unusedVariables false
namespace Go.Proofs.YtleiapljnjaloaaGreatDoor
open Go.RowKit Go.Shelf
theorem doubtV_lenE (xs : List Pa) (known loss : Int) : (doubtV xs known loss).length ≤ xs.length := by
 unfold doubtV
 split
 · unfold doubtP
   refine Nat.le_trans (leftL_len _ _) ?_
   unfold idsM
   rw [List.length_map]
   exact List.length_filter_le _ _
 · simp
set_option maxRecDepth 100000 in
set_option maxHeartbeats 8000000 in
theorem law_either (a : Option Addr) (n cap : Nat) (xs : List Pa) (known loss : Int) (ca : Option Addr) (cn cc : Nat) (cs : List (Int × Int)) (w : World) (h : Rd Pa.vals 14 w a n xs) (hz : a = none → cap = 0) (hcap : n ≤ cap) (hc : Rd weiV 2 w ca cn cs) (hi : ∀ x ∈ cs, I64 x.1) (hw : Laid w) :
 Calls Tryz.prog 8 #[.slice a n cap, .int .i64 known, .int .i64 loss, .slice ca cn cc] w fun e w' => e = .returned (.bool true) ∧ Below w.heap.size w w' := by
 have CA := Hd (show ∀ W, Below w.heap.size w W → Calls Tryz.prog 13 #[] W fun e w' => e = .returned (.bool true) ∧ Below W.heap.size W w' from fun W hB => alive_any W (hw.below hB))
 have CF := Hd (lfew_any a n cap xs w h)
 have HR := Hd h
 have HC := Hd hc
 have HI := Hd hi
 have Hlen := Hd h.len
 clear h hw hz hc hi
 obtain ⟨F1, hF1⟩ : ∃ b, fewB xs 30 = b := ⟨_, rfl⟩
 rw [hF1] at CF
 have HF := Hd hF1
 clear hF1
 have HB := Hd (Below.refl w.heap.size w)
 by_cases hen : 60 < cn
 · have hen' : (60 : Int) < (cn : Int) := by omega
   go_enter Tryz.func8, Tryz.ntmps8
   cases F1 <;>
   · go_wp2_with (first
      | (go_at_call 11; refine CF.out.mono ?_; rintro e w2 ⟨rfl, hw2⟩; obtain rfl := hw2.symm; clear hw2)
      | (go_at_call 13; refine (CA.out _ HB.out).mono ?_; rintro e w3 ⟨rfl, hS⟩))
     go_ret
     exact ⟨rfl, hS⟩
 have hen' : ¬ (60 : Int) < (cn : Int) := by omega
 cases F1 with
 | false =>
   go_enter Tryz.func8, Tryz.ntmps8
   go_wp2_with (first
    | (go_at_call 11; refine CF.out.mono ?_; rintro e w2 ⟨rfl, hw2⟩; obtain rfl := hw2.symm; clear hw2)
    | (go_at_call 13; refine (CA.out _ HB.out).mono ?_; rintro e w3 ⟨rfl, hS⟩))
   go_ret
   exact ⟨rfl, hS⟩
 | true =>
 have HS : ∀ y ∈ xs, y.Short := fun y hy => by have := (few_short HF.out).2 y hy; exact ⟨by omega, by omega⟩
 have hn : n ≤ 30 := by have h1 := (few_short HF.out).1; rw [Hlen.out] at h1; omega
 have C1 := Hd (doubt_any a n cap xs HS known loss w HR.out hcap)
 have C2 := Hd (fun W (hW : Below w.heap.size w W) => weights_any a n cap xs HS known loss W (HR.out.below' hW) hcap)
 have C3 := Hd (fun W (hW : Below w.heap.size w W) => checkCompletion_any a n cap xs HS known loss ca cn cc cs HI.out W (HR.out.below' hW) hcap (HC.out.below' hW))
 have C4 := Hd (fun ia inn ic ids W (hW : Below w.heap.size w W) (h : Rd ints 1 W ia inn ids) => checkDoubt_any a n cap xs HS known loss ia inn ic ids W (HR.out.below' hW) hcap h)
 have HLl := Hd (show (doubtV xs known loss).length ≤ 1000 from by have h1 := doubtV_lenE xs known loss; rw [Hlen.out] at h1; omega)
 have P1 := Hd (fun h => either_bad (l := xs) (known := known) (loss := loss) h)
 have P2 := Hd (fun h => either_no (l := xs) (known := known) (loss := loss) h)
 have P3 := Hd (fun h => either_yes (l := xs) (known := known) (loss := loss) h)
 have P4 := Hd (fun h => comp_doubt (xs := xs) (known := known) (loss := loss) (cs := cs) h)
 unfold DoubtPost at C1
 unfold WeightsPost at C2
 unfold CkPost at C3 C4
 obtain ⟨CK, hCK⟩ : ∃ f : List Int → Bool, (fun js => ckDoubtV xs known loss js) = f := ⟨_, rfl⟩
 have hCK' : ∀ js, ckDoubtV xs known loss js = CK js := fun js => congrFun hCK js
 simp only [hCK'] at C4 P2 P3
 obtain ⟨E, hE⟩ : ∃ P, rootE xs known loss true = P := ⟨_, rfl⟩
 obtain ⟨D, hD⟩ : ∃ P, doubtIs xs known loss = P := ⟨_, rfl⟩
 obtain ⟨L, hL⟩ : ∃ P, doubtV xs known loss = P := ⟨_, rfl⟩
 obtain ⟨V, hV⟩ : ∃ P, compB xs known loss cs = P := ⟨_, rfl⟩
 obtain ⟨WE, hWE⟩ : ∃ P, weighE xs known loss true = P := ⟨_, rfl⟩
 obtain ⟨AV, hAV⟩ : ∃ P, weightsV xs known loss = P := ⟨_, rfl⟩
 rw [hE, hD, hL] at C1 P1 P3
 rw [hE, hD, hL] at P2
 rw [hE] at C3 C4
 rw [hV] at C3 P4
 rw [hD] at P4
 rw [hWE] at C2 P1 P2 P3
 rw [hAV] at C2
 rw [hL] at HLl
 clear hE hD hL hV hWE hAV hCK hCK' HF
 go_enter Tryz.func8, Tryz.ntmps8
 go_upto_region 4 with (first
  | (go_at_call 11; refine CF.out.mono ?_; rintro e w2 ⟨rfl, hw2⟩; obtain rfl := hw2.symm; clear hw2)
  | (go_at_call 22; refine C1.out.mono ?_; rintro e w3 ⟨v3, rfl, ho, hS⟩))
 obtain ⟨la, lc, rfl, hlc, hrl, _⟩ := Rd.of_own ho ints_length (by decide) rfl (by have := HLl.out; unfold maxLen; omega)
 have HL3 := Hd hrl
 have HB3 := Hd hS
 clear ho hS hrl C1 HB
 go_upto_region 5 with (go_at_call 15; refine (C2.out w3 HB3.out).mono ?_; rintro e w4 ⟨ra, rn, rc, rfl, _, hS, _⟩)
 have HB4 := Hd (HB3.out.trans (hS.mono HB3.out.size))
 have HL4 := Hd (HL3.out.below' hS)
 clear hS C2 HL3 HB3
 go_upto_region 6 with (go_at_call 31; refine (C3.out w4 HB4.out).mono ?_; rintro e w5 ⟨rfl, hS⟩)
 have HB := Hd (HB4.out.trans (hS.mono HB4.out.size))
 have HL := Hd (HL4.out.below' hS)
 clear hS C3 HL4 HB4
 obtain ⟨ln, hln⟩ : ∃ m, L.length = m := ⟨_, rfl⟩
 rw [hln] at HL HLl hlc ⊢
 have HLn := Hd hln
 have hl1 := HLl.out
 clear hln
 by_cases hE0 : E = 0
 case neg =>
  have g1 : (E != 0) = true := by simp [hE0]
  have g2 : (E == E) = true := by simp
  obtain ⟨e1, e2, e3⟩ := P1.out hE0
  subst e1 e2
  have g3 : ((ln : Int) == 0) = true := by have h1 := HLn.out; rw [e3] at h1; simp at h1; simp [← h1]
  clear hE0 e3 P1 P2 P3 P4
  go_wp2_with fail
  refine (CA.out _ HB.out).mono ?_
  rintro e w6 ⟨rfl, hS⟩
  have HB' := Hd (HB.out.trans (hS.mono HB.out.size))
  clear hS
  go_wp2_with fail
  go_ret
  exact ⟨rfl, HB'.out⟩
 subst hE0
 cases D with
 | false =>
   obtain ⟨e1, e2, e3⟩ := P2.out rfl rfl
   subst e1
   have g3 : ((ln : Int) == 0) = true := by have h1 := HLn.out; rw [e2] at h1; simp at h1; simp [← h1]
   have C5 := Hd (C4.out none 0 0 [] w5 HB.out (Rd.empty _ _))
   rw [e3] at C5
   clear e2 e3 P1 P2 P3 P4
   go_upto_region 12 with (go_at_call 24; refine C5.out.mono ?_; rintro e w6 ⟨rfl, hS⟩)
   have HB6 := Hd (HB.out.trans (hS.mono HB.out.size))
   clear hS HB
   go_wp2_with fail
   refine (CA.out _ HB6.out).mono ?_
   rintro e w7 ⟨rfl, hS⟩
   have HB' := Hd (HB6.out.trans (hS.mono HB6.out.size))
   clear hS
   go_wp2_with fail
   go_ret
   exact ⟨rfl, HB'.out⟩
 | true =>
   obtain ⟨e1, e2, e3, e4⟩ := P3.out rfl rfl
   subst e1
   have hV : V = false := by
    cases V with
    | false => rfl
    | true => have := P4.out rfl; cases this
   subst hV
   have g3 : ((ln : Int) == 0) = false := by
    have h1 : ln ≠ 0 := fun e => e3 (List.eq_nil_of_length_eq_zero (HLn.out.trans e))
    simp; omega
   have C5 := Hd (C4.out la ln lc L w5 HB.out HL.out)
   rw [e2] at C5
   have H4 := Hd e4
   clear e2 e3 e4 P1 P2 P3 P4
   go_upto_region 14 with (go_at_call 24; refine C5.out.mono ?_; rintro e w6 ⟨rfl, hS⟩)
   have HB6 := Hd (HB.out.trans (hS.mono HB.out.size))
   have HL6 := Hd (HL.out.below' hS)
   clear hS HB HL
   go_upto_region 17 with (fail)
   go_loopw [143] (fun i wr => ∃ k : Nat, k ≤ ln ∧ i = .int .i64 k ∧ Below w6.heap.size w6 wr) (fun i _ => ln - (intOf i).toNat)
   case atStart => exact ⟨0, Nat.zero_le _, rfl, Below.refl _ _⟩
   case round =>
    obtain ⟨k, hk, rfl, hB⟩ := hrel
    have HBr := Hd hB
    have HBw := Hd (HB6.out.trans (hB.mono HB6.out.size))
    have HLr := Hd (HL6.out.below' hB)
    clear hB
    by_cases hlt : k < ln
    case neg =>
     have hltg : ¬ (k : Int) < (ln : Int) := by omega
     clear hlt
     go_wp2_with fail
     refine (CA.out _ HBw.out).mono ?_
     rintro e w7 ⟨rfl, hS⟩
     have HB' := Hd (HBw.out.trans (hS.mono HBw.out.size))
     clear hS
     go_wp2_with fail
     go_ret
     exact ⟨rfl, HB'.out⟩
    have hlt' : (k : Int) < (ln : Int) := by omega
    obtain ⟨lb, lf, z, rfl, _, _, _⟩ := HLr.out.int hlt
    have CW := Hd (without_l lb lf ln lc L k wr HLr.out hlt hl1 hlc)
    have HF := Hd (H4.out k (by rw [HLn.out]; exact hlt))
    have HEl := Hd (show (L.eraseIdx k).length ≤ 1000 from by have h1 := HLn.out; rw [List.length_eraseIdx]; split <;> omega)
    obtain ⟨LS, hLS⟩ : ∃ l, L.eraseIdx k = l := ⟨_, rfl⟩
    rw [hLS] at CW HF HEl
    have C6 := Hd (fun ia ic W (hW : Below w.heap.size w W) (h : Rd ints 1 W ia LS.length LS) => C4.out ia LS.length ic LS W hW h)
    rw [HF.out] at C6
    clear hLS
    go_wp2_with (first
     | (go_at_call 29; refine CW.out.mono ?_; rintro e w7 ⟨v7, rfl, ho, hS⟩; obtain ⟨sa, sc, rfl, _, hrs, _⟩ := Rd.of_own ho ints_length (by decide) rfl (by have := HEl.out; unfold maxLen; omega))
     | (go_at_call 24; refine (C6.out sa sc w7 (HBw.out.trans (hS.mono HBw.out.size)) hrs).mono ?_; rintro e w8 ⟨rfl, hS8⟩))
    exact ⟨⟨k + 1, by omega, by go_num, HBr.out.trans ((hS.trans (hS8.mono hS.size)).mono HBr.out.size)⟩, by simp [intOf]; omega⟩
end Go.Proofs.YtleiapljnjaloaaGreatDoor
