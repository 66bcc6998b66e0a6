/- The law CargoTrees walked. -/
import Derived.Test.YtpgojnofdgibeaaGreatDoorCAlive
import Derived.Test.YtpgojnofdgibeaaGreatDoorCRTop
import Derived.Test.YtpgojnofdgibeaaGreatDoorCRLeaf
set_option linter.unusedSimpArgs false
set_option linter.unusedVariables false
namespace Go.Proofs.YtpgojnofdgibeaaGreatDoor
open Go.RowKit Go.Shelf

/-! plain -/
theorem root_is {l : List Pa} {known loss pack : Int} {b : Bool} {E : Int} (h : openE l loss = 0 → E = if b then 0 else 5) (h2 : ¬ openE l loss = 0 → E = openE l loss) :
    rootE l known loss b = treeE E (papersO l known loss) (totalsO l known loss) := by
  by_cases h0 : openE l loss = 0
  · obtain ⟨p1, p2⟩ := open_some (known := known) h0
    rw [h h0, p1, p2]
    unfold rootE treeE
    rw [if_pos h0, tree_iff (mani_ok (check_good (open_check h0)).1 known loss) totals_in]
    cases b <;> simp
  · rw [rootE_bad h0, h2 h0]
    unfold treeE
    rw [if_neg h0]
theorem rootP_is (l : List Pa) (known loss pack : Int) : rootE l known loss (hasP l known loss pack) = treeE (paperE l known loss pack) (papersO l known loss) (totalsO l known loss) :=
  root_is (pack := pack) (fun h0 => by unfold paperE hasP; rw [if_pos h0, (open_some (known := known) h0).1]) (fun h0 => paperE_bad h0)
theorem rootM_is (l : List Pa) (known loss pack : Int) : rootE l known loss (missB l known loss pack) = treeE (missE l known loss pack) (papersO l known loss) (totalsO l known loss) :=
  root_is (pack := pack) (fun h0 => by
    unfold missE missB
    by_cases hp : pack = 0
    · rw [if_pos hp, h0]; simp [hp]
    · rw [if_neg hp]; unfold paperE hasP; rw [if_pos h0, (open_some (known := known) h0).1]; simp [hp]) (fun h0 => by
    unfold missE; rw [paperE_bad h0]; split <;> rfl)
theorem rootE_zero {l : List Pa} {known loss : Int} {b : Bool} (h : rootE l known loss b = 0) : openE l loss = 0 ∧ b = true ∧ ∃ t, rootT l known loss = some t := by
  by_cases h0 : openE l loss = 0
  · cases b with
    | false => rw [rootE_none h0] at h; cases h
    | true =>
      rw [rootE_tree h0] at h
      cases e : rootT l known loss with
      | none => rw [e] at h; cases h
      | some t => exact ⟨h0, rfl, t, rfl⟩
  · rw [rootE_bad h0] at h; exact absurd h h0
theorem path_is (l : List Pa) (known loss pack : Int) : pathV l known loss pack = pathRV l known loss pack := by
  unfold pathV pathRV
  rw [← rootP_is]
  by_cases h : rootE l known loss (hasP l known loss pack) = 0
  · rw [if_pos h, if_pos h]
    obtain ⟨h0, hh, t, ht⟩ := rootE_zero h
    have hmo := mani_ok (check_good (open_check h0)).1 known loss
    have hp := hmo.packs
    have hm := tree_has hp (show treeT (papersL l known loss) (totalsL l known loss) (fun _ => true) = some t from ht) (pack := pack) hh
    obtain ⟨c, hc⟩ := tree_chain hp ht hm
    have hl := hc.len hp
    simp only [List.length_cons] at hl
    have := hmo.ln
    rw [(open_some (known := known) h0).1, chain_way hp 201 300 pack c [] hc (by omega) (by omega)]
    rfl
  · rw [if_neg h, if_neg h]
theorem miss_is (l : List Pa) (known loss pack : Int) : missV l known loss pack = missRV l known loss pack := by
  unfold missV missRV
  rw [← rootM_is]
  by_cases h : rootE l known loss (missB l known loss pack) = 0
  · rw [if_pos h, if_pos h]
    obtain ⟨h0, hh, t, ht⟩ := rootE_zero h
    obtain ⟨p1, p2⟩ := open_some (known := known) h0
    rw [p1, p2]
    have hmo := mani_ok (check_good (open_check h0)).1 known loss
    have hp := hmo.packs
    have hg := tree_grown ht
    unfold missP
    rw [ht]
    simp only
    by_cases hz : pack = 0
    · rw [if_pos hz, hz, hg.1.miss.1, hg.2.1]
    · rw [if_neg hz]
      unfold missB at hh
      rw [decide_eq_false hz, Bool.false_or] at hh
      have hm := tree_has hp (show treeT (papersL l known loss) (totalsL l known loss) (fun _ => true) = some t from ht) (pack := pack) hh
      obtain ⟨k, hk, hkm, hkp⟩ := find_of_pack hm
      rw [hk]
      simp only [nodeF]
      rw [(grown_pre t hg.1 k hkm).1.miss.1, hkp]
  · rw [if_neg h, if_neg h]
theorem leaves_is (l : List Pa) (known loss : Int) : leavesV l known loss = leavesA (papersO l known loss) (totalsO l known loss) (papersO l known loss) := by
  unfold leavesV
  by_cases h0 : openE l loss = 0
  · obtain ⟨p1, p2⟩ := open_some (known := known) h0
    rw [if_pos h0, p1, p2, leaves_eq]
  · obtain ⟨p1, p2⟩ := open_none (known := known) h0
    rw [if_neg h0, p1]; rfl
theorem lfew_any (a : Option Addr) (n cap : Nat) (xs : List Pa) (w : World) (h : Rd Pa.vals 14 w a n xs) :
    Calls Tryz.prog 25 #[.slice a n cap] w fun e w' => e = .returned (.bool (fewB xs 30)) ∧ w' = w := by
  have CF := Lib.hid (rfew_any a n cap xs 30 w h)
  clear h
  obtain ⟨F, hF⟩ : ∃ F, fewB xs 30 = F := ⟨_, rfl⟩
  rw [hF] at CF ⊢
  clear hF
  go_enter Tryz.func25, Tryz.ntmps25
  go_wp2_with fail
  refine CF.out.mono ?_
  rintro e w2 ⟨rfl, rfl⟩
  go_wp2_with fail
  go_ret
  exact ⟨rfl, rfl⟩
/-- an own row of numbers as what it reads -/
theorem rd_own {w w' : World} {v : Value} {L : List Int} (h : w'.ownsRow w.heap.size 3 1 v L.length (L.flatMap ints)) (hl : L.length ≤ 1000) : ∃ a n c, v = .slice a n c ∧ Rd ints 1 w' a n L := by
  obtain ⟨a, c, rfl, _, hr, _⟩ := Rd.of_own h ints_length (by decide) rfl (by unfold maxLen; omega)
  exact ⟨a, _, c, rfl, hr⟩
def NumsPost (w : World) (L : List Int) (e : Ending) (w' : World) : Prop := ∃ a n c, e = .returned (.slice a n c) ∧ Rd ints 1 w' a n L ∧ Below w.heap.size w w'
theorem nums_post {w w' : World} {L : List Int} {e : Ending} (hl : L.length ≤ 1000) (h : ∃ v, e = .returned v ∧ w'.ownsRow w.heap.size 3 1 v L.length (L.flatMap ints) ∧ Below w.heap.size w w') : NumsPost w L e w' := by
  obtain ⟨v, rfl, ho, hB⟩ := h
  obtain ⟨a, n, c, rfl, hr⟩ := rd_own ho hl
  exact ⟨a, n, c, rfl, hr, hB⟩
theorem pathP_len (ps : List Pa) : ∀ (d : Nat) (p : Int) (acc : List Int), (pathP ps d p acc).length ≤ acc.length + d
  | 0, p, acc => Nat.le_refl _
  | d + 1, p, acc => by
    unfold pathP
    split
    · omega
    · have := pathP_len ps d (((ofI ps p).getD pa0).inn) (p :: acc)
      simp only [List.length_cons] at this
      omega
theorem pathV_len (l : List Pa) (known loss pack : Int) : (pathV l known loss pack).length ≤ 1000 := by
  unfold pathV
  split
  · have := pathP_len (papersL l known loss) 300 pack []
    simp only [List.length_nil] at this
    omega
  · simp

set_option maxRecDepth 100000 in
set_option maxHeartbeats 8000000 in
theorem law_trees (a : Option Addr) (n cap : Nat) (xs : List Pa) (known loss pack : Int) (w : World) (h : Rd Pa.vals 14 w a n xs) (hz : a = none → cap = 0) (hcap : n ≤ cap) (hw : Laid w) :
    Calls Tryz.prog 6 #[.slice a n cap, .int .i64 known, .int .i64 loss, .int .i64 pack] w fun e w' => e = .returned (.bool true) ∧ Below w.heap.size w w' := by
  have CA := Lib.hid (show ∀ W, Below w.heap.size w W → Calls Tryz.prog 8 #[] W fun e w' => e = .returned (.bool true) ∧ Below W.heap.size W w' from fun W hB => alive_any W (hw.below hB))
  have CF := Lib.hid (lfew_any a n cap xs w h)
  have HR := Lib.hid h
  have Hlen := Lib.hid h.len
  clear h hw hz
  obtain ⟨F1, hF1⟩ : ∃ b, fewB xs 30 = b := ⟨_, rfl⟩
  rw [hF1] at CF
  have HF := Lib.hid hF1
  clear hF1
  have HB0 := Lib.hid (Below.refl w.heap.size w)
  go_enter Tryz.func6, Tryz.ntmps6
  go_wp2_with fail
  refine CF.out.mono ?_
  rintro e w2 ⟨rfl, hw2⟩
  obtain rfl := hw2.symm
  clear hw2 CF
  have HB := HB0
  clear HB0
  cases F1 with
  | false =>
    go_wp2_with fail
    refine (CA.out _ HB.out).mono ?_
    rintro e w3 ⟨rfl, hS⟩
    have HB' := Lib.hid (HB.out.trans (hS.mono HB.out.size))
    clear hS
    go_wp2_with fail
    go_ret
    exact ⟨rfl, HB'.out⟩
  | true =>
  have HS : ∀ y ∈ xs, y.Short := fun y hy => by have := (few_short HF.out).2 y hy; exact ⟨by omega, by omega⟩
  have hn : n ≤ 1000 := by have h1 := (few_short HF.out).1; rw [Hlen.out] at h1; omega
  have hpl := (papersO_len xs known loss).1
  have C1 := Lib.hid (fun W (hW : Below w.heap.size w W) => path_any a n cap xs HS known loss pack W (HR.out.below' hW) hcap)
  have C2 := Lib.hid (fun W (hW : Below w.heap.size w W) => paths_r a n cap xs HS known loss pack W (HR.out.below' hW) hcap (by omega))
  have C3 := Lib.hid (fun W (hW : Below w.heap.size w W) => missing_any a n cap xs HS known loss pack W (HR.out.below' hW) hcap)
  have C4 := Lib.hid (fun W (hW : Below w.heap.size w W) => missings_r a n cap xs HS known loss pack W (HR.out.below' hW) hcap (by omega))
  have C5 := Lib.hid (fun W (hW : Below w.heap.size w W) => (insides_any a n cap xs HS known loss pack W (HR.out.below' hW) hcap).mono (fun _ _ h => nums_post (by have := insideL_len (papersO xs known loss) pack; omega) h))
  have C6 := Lib.hid (fun W (hW : Below w.heap.size w W) => insides_r a n cap xs HS known loss pack W (HR.out.below' hW) hcap (by omega))
  have C7 := Lib.hid (fun W (hW : Below w.heap.size w W) => (leaves_any a n cap xs HS known loss W (HR.out.below' hW) hcap).mono (fun _ _ h => nums_post (by rw [leaves_is]; have := leavesA_len (papersO xs known loss) (totalsO xs known loss) (papersO xs known loss); omega) h))
  have C8 := Lib.hid (fun W (hW : Below w.heap.size w W) => (leaves_r a n cap xs HS known loss W (HR.out.below' hW) hcap (by omega)).mono (fun _ _ h => nums_post (by have := leavesA_len (papersO xs known loss) (totalsO xs known loss) (papersO xs known loss); omega) h))
  have hpv := pathV_len xs known loss pack
  unfold PathPost at C1
  unfold PathRPost at C2
  unfold MissPost at C3
  rw [← path_is, ← rootP_is] at C2
  rw [← miss_is, ← rootM_is] at C4
  rw [leaves_is] at C7
  have hIL : insideL (papersO xs known loss) pack = insideI (papersO xs known loss) pack := rfl
  rw [hIL] at C5
  unfold NumsPost at C5 C7 C8
  unfold InsPost at C6
  obtain ⟨PV, hPV⟩ : ∃ I, pathV xs known loss pack = I := ⟨_, rfl⟩
  obtain ⟨E1, hE1⟩ : ∃ I, rootE xs known loss (hasP xs known loss pack) = I := ⟨_, rfl⟩
  obtain ⟨MV, hMV⟩ : ∃ I, missV xs known loss pack = I := ⟨_, rfl⟩
  obtain ⟨E2, hE2⟩ : ∃ I, rootE xs known loss (missB xs known loss pack) = I := ⟨_, rfl⟩
  obtain ⟨IV, hIV⟩ : ∃ I, insideI (papersO xs known loss) pack = I := ⟨_, rfl⟩
  obtain ⟨LV, hLV⟩ : ∃ I, leavesA (papersO xs known loss) (totalsO xs known loss) (papersO xs known loss) = I := ⟨_, rfl⟩
  rw [hPV] at hpv C1 C2
  rw [hE1] at C1 C2
  rw [hMV, hE2] at C3 C4
  rw [hIV] at C5 C6
  rw [hLV] at C7 C8
  obtain ⟨il, hil⟩ : ∃ I, IV.length = I := ⟨_, rfl⟩
  rw [hil] at C6
  have hEE : (E1 == E1) = true := by simp
  have hFF : (E2 == E2) = true := by simp
  have hMM : (MV == MV) = true := by simp
  have CQ := Lib.hid (show ∀ a1 n1 c1 a2 n2 c2 (L : List Int) W, Rd ints 1 W a1 n1 L → Rd ints 1 W a2 n2 L → Calls Tryz.prog 30 #[.slice a1 n1 c1, .slice a2 n2 c2] W fun e w' => e = .returned (.bool true) ∧ Below W.heap.size W w' from fun a1 n1 c1 a2 n2 c2 L W h1 h2 => by
    have := equalI_any a1 a2 n1 c1 n2 c2 L L W h1 h2
    rw [decide_eq_true rfl] at this
    exact this)
  clear hPV hE1 hMV hE2 hIV hLV hil hIL HF hpl
  go_wp2_with fail
  refine (C1.out _ HB.out).mono ?_
  rintro e w5 ⟨v1, rfl, ho, hS⟩
  obtain ⟨a1, n1, c1, rfl, hr⟩ := rd_own ho hpv
  have HB' := Lib.hid (HB.out.trans (hS.mono HB.out.size))
  have HP := Lib.hid hr
  clear ho hr hS HB C1
  have HB := Lib.hid HB'.out
  clear HB'
  go_wp2_with fail
  refine (C2.out _ HB.out).mono ?_
  rintro e w6 ⟨a2, n2, c2, rfl, hr, hS⟩
  have HB' := Lib.hid (HB.out.trans (hS.mono HB.out.size))
  have HP' := Lib.hid (HP.out.below' hS)
  have HQ := Lib.hid hr
  clear hr
  clear hS HB HP C2
  have HB := Lib.hid HB'.out
  have HP := Lib.hid HP'.out
  clear HB' HP'
  go_wp2_with fail
  refine (C3.out _ HB.out).mono ?_
  rintro e w7 ⟨rfl, hS⟩
  have HB' := Lib.hid (HB.out.trans (hS.mono HB.out.size))
  have HP' := Lib.hid (HP.out.below' hS)
  have HQ' := Lib.hid (HQ.out.below' hS)
  clear hS HB HP HQ C3
  have HB := Lib.hid HB'.out
  have HP := Lib.hid HP'.out
  have HQ := Lib.hid HQ'.out
  clear HB' HP' HQ'
  go_wp2_with fail
  refine (C4.out _ HB.out).mono ?_
  rintro e w8 ⟨rfl, hS⟩
  have HB' := Lib.hid (HB.out.trans (hS.mono HB.out.size))
  have HP' := Lib.hid (HP.out.below' hS)
  have HQ' := Lib.hid (HQ.out.below' hS)
  clear hS HB HP HQ C4
  have HB := Lib.hid HB'.out
  have HP := Lib.hid HP'.out
  have HQ := Lib.hid HQ'.out
  clear HB' HP' HQ'
  go_wp2_with fail
  refine (C5.out _ HB.out).mono ?_
  rintro e w9 ⟨a3, n3, c3, rfl, hr, hS⟩
  have HB' := Lib.hid (HB.out.trans (hS.mono HB.out.size))
  have HP' := Lib.hid (HP.out.below' hS)
  have HQ' := Lib.hid (HQ.out.below' hS)
  have HI := Lib.hid hr
  clear hr
  clear hS HB HP HQ C5
  have HB := Lib.hid HB'.out
  have HP := Lib.hid HP'.out
  have HQ := Lib.hid HQ'.out
  clear HB' HP' HQ'
  go_wp2_with fail
  refine (C6.out _ HB.out).mono ?_
  rintro e w10 ⟨a4, c4, rfl, hr, hS⟩
  have HB' := Lib.hid (HB.out.trans (hS.mono HB.out.size))
  have HP' := Lib.hid (HP.out.below' hS)
  have HQ' := Lib.hid (HQ.out.below' hS)
  have HI' := Lib.hid (HI.out.below' hS)
  have HJ := Lib.hid hr
  clear hr
  clear hS HB HP HQ HI C6
  have HB := Lib.hid HB'.out
  have HP := Lib.hid HP'.out
  have HQ := Lib.hid HQ'.out
  have HI := Lib.hid HI'.out
  clear HB' HP' HQ' HI'
  go_wp2_with fail
  refine (CQ.out a3 n3 c3 a4 il c4 IV _ HI.out HJ.out).mono ?_
  rintro e w11 ⟨rfl, hS⟩
  have HB' := Lib.hid (HB.out.trans (hS.mono HB.out.size))
  have HP' := Lib.hid (HP.out.below' hS)
  have HQ' := Lib.hid (HQ.out.below' hS)
  clear hS HB HP HQ HI HJ
  have HB := Lib.hid HB'.out
  have HP := Lib.hid HP'.out
  have HQ := Lib.hid HQ'.out
  clear HB' HP' HQ'
  go_wp2_with fail
  refine (C7.out _ HB.out).mono ?_
  rintro e w12 ⟨a5, n5, c5, rfl, hr, hS⟩
  have HB' := Lib.hid (HB.out.trans (hS.mono HB.out.size))
  have HP' := Lib.hid (HP.out.below' hS)
  have HQ' := Lib.hid (HQ.out.below' hS)
  have HK := Lib.hid hr
  clear hr
  clear hS HB HP HQ C7
  have HB := Lib.hid HB'.out
  have HP := Lib.hid HP'.out
  have HQ := Lib.hid HQ'.out
  clear HB' HP' HQ'
  go_wp2_with fail
  refine (C8.out _ HB.out).mono ?_
  rintro e w13 ⟨a6, n6, c6, rfl, hr, hS⟩
  have HB' := Lib.hid (HB.out.trans (hS.mono HB.out.size))
  have HP' := Lib.hid (HP.out.below' hS)
  have HQ' := Lib.hid (HQ.out.below' hS)
  have HK' := Lib.hid (HK.out.below' hS)
  have HL := Lib.hid hr
  clear hr
  clear hS HB HP HQ HK C8
  have HB := Lib.hid HB'.out
  have HP := Lib.hid HP'.out
  have HQ := Lib.hid HQ'.out
  have HK := Lib.hid HK'.out
  clear HB' HP' HQ' HK'
  go_wp2_with fail
  refine (CQ.out a5 n5 c5 a6 n6 c6 LV _ HK.out HL.out).mono ?_
  rintro e w14 ⟨rfl, hS⟩
  have HB' := Lib.hid (HB.out.trans (hS.mono HB.out.size))
  have HP' := Lib.hid (HP.out.below' hS)
  have HQ' := Lib.hid (HQ.out.below' hS)
  clear hS HB HP HQ HK HL
  have HB := Lib.hid HB'.out
  have HP := Lib.hid HP'.out
  have HQ := Lib.hid HQ'.out
  clear HB' HP' HQ'
  go_wp2_with fail
  refine (CA.out _ HB.out).mono ?_
  rintro e w15 ⟨rfl, hS⟩
  have HB' := Lib.hid (HB.out.trans (hS.mono HB.out.size))
  have HP' := Lib.hid (HP.out.below' hS)
  have HQ' := Lib.hid (HQ.out.below' hS)
  clear hS HB HP HQ CA
  have HB := Lib.hid HB'.out
  have HP := Lib.hid HP'.out
  have HQ := Lib.hid HQ'.out
  clear HB' HP' HQ'
  go_wp2_with fail
  refine (CQ.out a1 n1 c1 a2 n2 c2 PV _ HP.out HQ.out).mono ?_
  rintro e w16 ⟨rfl, hS⟩
  have HB' := Lib.hid (HB.out.trans (hS.mono HB.out.size))
  clear hS HB  CQ HP HQ
  have HB := Lib.hid HB'.out
  clear HB' 
  go_wp2_with fail
  go_ret
  exact ⟨rfl, HB.out⟩
end Go.Proofs.YtpgojnofdgibeaaGreatDoor
