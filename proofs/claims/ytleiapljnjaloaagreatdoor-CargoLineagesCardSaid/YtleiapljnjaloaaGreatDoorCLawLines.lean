/- The law CargoLineages walked. -/
import Derived.Test.YtleiapljnjaloaaGreatDoorCRLine
import Derived.Test.YtleiapljnjaloaaGreatDoorCAlive
set_option linter.unusedSimpArgs false
set_option linter.unusedVariables false
namespace Go.Proofs.YtleiapljnjaloaaGreatDoor
open Go.RowKit Go.Shelf
theorem lineV_long (l : List Pa) (known loss pack : Int) (upper : Bool) : (lineV l known loss pack upper).length ≤ l.length := by
 unfold lineV
 split
 · exact Nat.le_trans (leftL_len _ _) (by rw [idsA_eq]; exact idsA_len _ _)
 · exact Nat.zero_le _
set_option maxRecDepth 100000 in
set_option maxHeartbeats 8000000 in
theorem law_lineages (a : Option Addr) (n cap : Nat) (xs : List Pa) (known loss pack : Int) (upper : Bool) (endv : Int) (ia : Option Addr) (inn ic : Nat) (ids : List Int) (w : World) (h : Rd Pa.vals 14 w a n xs) (hz : a = none → cap = 0) (hcap : n ≤ cap) (hi : Rd ints 1 w ia inn ids) (hw : Laid w) :
 Calls Tryz.prog 5 #[.slice a n cap, .int .i64 known, .int .i64 loss, .int .i64 pack, .bool upper, .int .i64 endv, .slice ia inn ic] w fun e w' => e = .returned (.bool true) ∧ Below w.heap.size w w' := by
 have CA := Hd (show ∀ W, Below w.heap.size w W → Calls Tryz.prog 13 #[] W fun e w' => e = .returned (.bool true) ∧ Below W.heap.size W w' from fun W hB => alive_any W (hw.below hB))
 have CF := Hd (lfew_any a n cap xs w h)
 have HR := Hd h
 have HI := Hd hi
 have Hlen := Hd h.len
 clear h hw hz hi
 obtain ⟨F1, hF1⟩ : ∃ b, fewB xs 30 = b := ⟨_, rfl⟩
 rw [hF1] at CF
 have HF := Hd hF1
 clear hF1
 have HB := Hd (Below.refl w.heap.size w)
 by_cases hen : 40 < inn
 · have hen' : (40 : Int) < (inn : Int) := by omega
   go_enter Tryz.func5, Tryz.ntmps5
   cases F1 <;>
   · go_wp2_with (first
      | (go_at_call 11; refine CF.out.mono ?_; rintro e w2 ⟨rfl, hw2⟩; obtain rfl := hw2.symm; clear hw2)
      | (go_at_call 13; refine (CA.out _ HB.out).mono ?_; rintro e w3 ⟨rfl, hS⟩))
     go_ret
     exact ⟨rfl, hS⟩
 have hen' : ¬ (40 : Int) < (inn : Int) := by omega
 cases F1 with
 | false =>
   go_enter Tryz.func5, Tryz.ntmps5
   go_wp2_with (first
    | (go_at_call 11; refine CF.out.mono ?_; rintro e w2 ⟨rfl, hw2⟩; obtain rfl := hw2.symm; clear hw2)
    | (go_at_call 13; refine (CA.out _ HB.out).mono ?_; rintro e w3 ⟨rfl, hS⟩))
   go_ret
   exact ⟨rfl, hS⟩
 | true =>
 have HS : ∀ y ∈ xs, y.Short := fun y hy => by have := (few_short HF.out).2 y hy; exact ⟨by omega, by omega⟩
 have hn : n ≤ 30 := by have h1 := (few_short HF.out).1; rw [Hlen.out] at h1; omega
 have C1 := Hd (lineage_any a n cap xs HS known loss pack upper w HR.out hcap)
 have C2 := Hd (fun W (hW : Below w.heap.size w W) => lineage_r a n cap xs HS known loss pack upper W (HR.out.below' hW) hcap (by omega))
 have C3 := Hd (fun W (hW : Below w.heap.size w W) => checkLineage_any a n cap xs HS known loss pack upper endv ia inn ic ids W (HR.out.below' hW) hcap (HI.out.below' hW))
 have C4 := Hd (fun W (hW : Below w.heap.size w W) => checkLineage_r a n cap xs HS known loss pack upper endv ia inn ic ids W (HR.out.below' hW) hcap (by omega) (HI.out.below' hW))
 have HLl := Hd (show (lineV xs known loss pack upper).length ≤ 1000 from by have h1 := lineV_long xs known loss pack upper; rw [Hlen.out] at h1; omega)
 unfold LinePost at C1 C2
 unfold CkPost at C3 C4
 obtain ⟨E, hE⟩ : ∃ P, weighE xs known loss (hasP xs known loss pack) = P := ⟨_, rfl⟩
 obtain ⟨D, hD⟩ : ∃ P, rootE xs known loss (hasP xs known loss pack) = P := ⟨_, rfl⟩
 obtain ⟨L, hL⟩ : ∃ P, lineV xs known loss pack upper = P := ⟨_, rfl⟩
 obtain ⟨V, hV⟩ : ∃ P, ckLineV xs known loss pack upper endv ids = P := ⟨_, rfl⟩
 rw [hE, hL] at C1 C2
 rw [hD, hV] at C3 C4
 rw [hL] at HLl
 clear hE hD hL hV HF
 have q1 : (E == E) = true := by simp
 have q2 : (D == D) = true := by simp
 have q3 : (V == V) = true := by simp
 go_enter Tryz.func5, Tryz.ntmps5
 go_wp2_with (go_at_call 11; refine CF.out.mono ?_; rintro e w2 ⟨rfl, hw2⟩; obtain rfl := hw2.symm; clear hw2)
 refine C1.out.mono ?_
 rintro e w3 ⟨v3, rfl, ho, hS⟩
 obtain ⟨a3, n3, m3, rfl, hr3⟩ := rd_own ho HLl.out
 have HB3 := Hd hS
 have H3 := Hd hr3
 clear ho hS hr3 C1
 go_wp2_with fail
 refine (C2.out w3 HB3.out).mono ?_
 rintro e w4 ⟨v4, rfl, ho, hS⟩
 obtain ⟨a4, n4, m4, rfl, hr4⟩ := rd_own ho HLl.out
 have HB4 := Hd (HB3.out.trans (hS.mono HB3.out.size))
 have H34 := Hd (H3.out.below' hS)
 have H4 := Hd hr4
 clear ho hS hr4 C2 H3 HB3
 go_wp2_with fail
 refine (C3.out w4 HB4.out).mono ?_
 rintro e w5 ⟨rfl, hS⟩
 have HB5 := Hd (HB4.out.trans (hS.mono HB4.out.size))
 have H35 := Hd (H34.out.below' hS)
 have H45 := Hd (H4.out.below' hS)
 clear hS C3 H34 H4 HB4
 go_wp2_with fail
 refine (C4.out w5 HB5.out).mono ?_
 rintro e w6 ⟨rfl, hS⟩
 have HB6 := Hd (HB5.out.trans (hS.mono HB5.out.size))
 have H36 := Hd (H35.out.below' hS)
 have H46 := Hd (H45.out.below' hS)
 clear hS C4 H35 H45 HB5
 go_wp2_with fail
 refine (CA.out _ HB6.out).mono ?_
 rintro e w7 ⟨rfl, hS⟩
 have HB7 := Hd (HB6.out.trans (hS.mono HB6.out.size))
 have CQ := Hd (equalI_any a3 a4 n3 m3 n4 m4 L L w7 (H36.out.below' hS) (H46.out.below' hS))
 rw [decide_eq_true rfl] at CQ
 clear hS H36 H46 HB6
 go_wp2_with fail
 refine CQ.out.mono ?_
 rintro e w8 ⟨rfl, hS⟩
 have HBf := Hd (HB7.out.trans (hS.mono HB7.out.size))
 clear hS CQ HB7
 go_wp2_with fail
 go_ret
 exact ⟨rfl, HBf.out⟩
end Go.Proofs.YtleiapljnjaloaaGreatDoor
