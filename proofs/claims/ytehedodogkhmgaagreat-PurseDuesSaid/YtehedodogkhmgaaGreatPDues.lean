/- The walk of the law's few. -/
import Derived.Test.YtehedodogkhmgaaGreatPurses
import Derived.Test.YtehedodogkhmgaaGreatCovered
import Derived.Test.YtehedodogkhmgaaGreatRefK
import Derived.Test.YtehedodogkhmgaaGreatRefP
import Derived.Test.YtehedodogkhmgaaGreatRows
import Derived.Test.YtehedodogkhmgaaGreatOpen
set_option linter.unusedSimpArgs false
set_option linter.unusedVariables false
namespace Go.Proofs.YtehedodogkhmgaaGreat
open Go.RowKit Go.Shelf

/-- the sizes that the laws ask -/
def fewB (n n' n'' : Nat) : Prop := n ≤ 24 ∧ (n' ≤ 20 ∨ (400 < n' ∧ n' ≤ 405)) ∧ (n'' ≤ 20 ∨ (400 < n'' ∧ n'' ≤ 405))
instance (n n' n'' : Nat) : Decidable (fewB n n' n'') := by unfold fewB; infer_instance
set_option maxHeartbeats 4000000 in
theorem few_any (a : Option Addr) (n cap : Nat) (a' : Option Addr) (n' cap' : Nat) (a'' : Option Addr) (n'' cap'' : Nat) (w : World) :
    Calls Tryz.prog 10 #[.slice a n cap, .slice a' n' cap', .slice a'' n'' cap''] w fun e w' => e = .returned (.bool (decide (fewB n n' n''))) ∧ w' = w := by
  by_cases h1 : n ≤ 24
  · have h' : n' ≤ 20 ∨ (20 < n' ∧ n' ≤ 400) ∨ (400 < n' ∧ n' ≤ 405) ∨ 405 < n' := by omega
    have h'' : n'' ≤ 20 ∨ (20 < n'' ∧ n'' ≤ 400) ∨ (400 < n'' ∧ n'' ≤ 405) ∨ 405 < n'' := by omega
    rcases h' with h' | h' | h' | h' <;> rcases h'' with h'' | h'' | h'' | h''
    all_goals
      go_enter Tryz.func10, Tryz.ntmps10
      go_wp2_with fail
      go_ret
      refine ⟨ret_bool ?_, rfl⟩
      rw [Bool.eq_iff_iff, decide_eq_true_iff (p := fewB n n' n'')]; unfold fewB; simp only [Bool.or_eq_true, Bool.and_eq_true, decide_eq_true_eq, Bool.false_eq_true, Bool.true_eq_false, true_iff, false_iff, iff_true, iff_false]; omega
  · go_enter Tryz.func10, Tryz.ntmps10
    go_wp2_with fail
    go_ret
    refine ⟨ret_bool ?_, rfl⟩
    rw [Bool.eq_iff_iff, decide_eq_true_iff (p := fewB n n' n'')]; unfold fewB; simp only [Bool.or_eq_true, Bool.and_eq_true, decide_eq_true_eq, Bool.false_eq_true, Bool.true_eq_false, true_iff, false_iff, iff_true, iff_false]; omega
end Go.Proofs.YtehedodogkhmgaaGreat

/- PurseDues returns true: CheckDues, CheckCauses, Open, Over, Settled, Covered return what the reference returns. -/
set_option linter.unusedSimpArgs false
set_option linter.unusedVariables false
namespace Go.Proofs.YtehedodogkhmgaaGreat
open Go.RowKit Go.Shelf

theorem accL_len' {xs : List Po} (h : Okl xs) : (accL xs).length ≤ xs.length := by
  have h1 : (accL xs).Nodup := (accL_sorted xs).imp fun {a b} hab e => by subst e; exact accLt_irrefl a hab
  have h2 : (accL xs).length ≤ (xs.map (fun p => (p.parcel, p.party))).length := h1.length_le_of_subset fun a ha => by
    have hne := (accL_mem h a).1 ha
    have : ∃ p ∈ xs, p.party = a.2 ∧ p.parcel = a.1 := Classical.byContradiction fun hc => hne (hasL_zero fun p hp e => hc ⟨p, hp, e⟩)
    obtain ⟨p, hp, e1, e2⟩ := this
    exact List.mem_map.2 ⟨p, hp, by rw [e1, e2]⟩
  rwa [List.length_map] at h2
theorem overM_len {xs : List Po} {d : List Du} (h : cmpE xs d = 0) : (overM xs d).length ≤ xs.length :=
  Nat.le_trans (List.length_filterMap_le _ _) (accL_len' (checkL_okl (cmpE_0 h).1))
theorem openL_len (xs : List Po) (d : List Du) : (openL xs d).length ≤ d.length := List.length_filterMap_le _ _
theorem covR_len (xs : List Po) (d : List Du) : (covR xs d).length ≤ d.length := by have := covFold_len xs d d []; simpa [covR] using this

theorem OverPost.both {w w' : World} {xs : List Po} {d : List Du} {l : List Du} {e : Ending} (hp : OverPost w xs d l e w') (hl : cmpE xs d = 0 → l.length ≤ 1000) :
    Below w.heap.size w w' ∧ ∃ a n cap, e = .returned (.tuple #[.slice a n cap, .int .i64 (cmpE xs d)]) ∧ Rd Du.vals 3 w' a n (if cmpE xs d = 0 then l else []) := by
  obtain ⟨hB, ⟨hc, rfl⟩ | ⟨hc, v, rfl, hrow⟩⟩ := hp
  · exact ⟨hB, none, 0, 0, rfl, by rw [if_neg hc]; exact Rd.empty _ _⟩
  · have := hl hc
    obtain ⟨a, cap, rfl, _, hrd, _⟩ := Rd.of_own hrow du_vals_length (by decide) rfl (by unfold maxLen; omega)
    exact ⟨hB, a, _, cap, by rw [hc], by rw [if_pos hc]; exact hrd⟩
theorem CovPost.both {w w' : World} {xs : List Po} {d : List Du} {e : Ending} (hp : CovPost w xs d e w') (hl : d.length ≤ 1000) :
    Below w.heap.size w w' ∧ ∃ a n cap, e = .returned (.tuple #[.slice a n cap, .int .i64 (cmpE xs d)]) ∧ Rd ints 1 w' a n (if cmpE xs d = 0 then covR xs d else []) := by
  obtain ⟨hB, ⟨hc, rfl⟩ | ⟨hc, v, rfl, hrow⟩⟩ := hp
  · exact ⟨hB, none, 0, 0, rfl, by rw [if_neg hc]; exact Rd.empty _ _⟩
  · have := covR_len xs d
    obtain ⟨a, cap, rfl, _, hrd, _⟩ := Rd.of_own hrow ints_length (by decide) rfl (by unfold maxLen; omega)
    exact ⟨hB, a, _, cap, by rw [hc], by rw [if_pos hc]; exact hrd⟩

set_option maxRecDepth 100000 in
set_option maxHeartbeats 8000000 in
theorem law_dues (a : Option Addr) (n cap : Nat) (xs : List Po) (a' : Option Addr) (n' cap' : Nat) (d : List Du) (a'' : Option Addr) (n'' cap'' : Nat) (c : List Ca) (w : World)
    (h : Rd Po.vals 8 w a n xs) (hw : ∀ p ∈ xs, p.Wf) (hcap : n ≤ cap) (hz : a = none → cap = 0) (h' : Rd Du.vals 3 w a' n' d) (_ : n' ≤ cap') (_ : a' = none → cap' = 0) (h'' : Rd Ca.vals 3 w a'' n'' c) (_ : n'' ≤ cap'') (_ : a'' = none → cap'' = 0) :
    Calls Tryz.prog 6 #[.slice a n cap, .slice a' n' cap', .slice a'' n'' cap''] w fun e w' => e = .returned (.bool true) ∧ Below w.heap.size w w' := by
  have K := Lib.hid h
  have K' := Lib.hid h'
  have K'' := Lib.hid h''
  have Hw := Lib.hid hw
  have hxl := Lib.hid h.len
  have hdl := Lib.hid h'.len
  clear h h' h'' hw hz
  go_enter Tryz.func6, Tryz.ntmps6
  go_wp2_with fail
  refine (few_any a n cap a' n' cap' a'' n'' cap'' _).mono ?_
  rintro e wf ⟨rfl, rfl⟩
  by_cases hf : fewB n n' n''
  case neg =>
    have hd : decide (fewB n n' n'') = false := by simp [hf]
    rw [hd]
    clear hd hf
    go_wp2_with fail
    refine (purses_any _).mono ?_
    rintro e w1 ⟨rfl, hB⟩
    have HB := Lib.hid hB
    clear hB
    go_wp2_with fail
    go_ret
    exact ⟨rfl, HB.out⟩
  have hd : decide (fewB n n' n'') = true := by simp [hf]
  rw [hd]
  obtain ⟨f1, f2, f3⟩ := hf
  have hn4 : n ≤ 24 := f1
  have hn5 : n' ≤ 405 := by omega
  clear hd f1 f2 f3
  have HB0 := Lib.hid (Below.refl wf.heap.size wf)
  go_wp2_with fail
  refine (checkDues_any a' n' cap' d _ K'.out).mono ?_
  rintro e w1 ⟨rfl, hB⟩
  obtain ⟨E1, hE1⟩ : ∃ E, chkDu d = E := ⟨_, rfl⟩
  rw [hE1]
  have HE1 := Lib.hid hE1
  have H1 := Lib.hid (And.intro (K.out.below' hB) (And.intro (K'.out.below' hB) (K''.out.below' hB)))
  have HB1 := Lib.hid hB
  clear hB hE1 HB0 K K' K''
  go_wp2_with fail
  refine (rcheckDues_any a' n' cap' d _ H1.out.2.1).mono ?_
  rintro e w2 ⟨rfl, hB⟩
  rw [HE1.out]
  have H2 := Lib.hid (And.intro (H1.out.1.below' hB) (And.intro (H1.out.2.1.below' hB) (H1.out.2.2.below' hB)))
  have HB2 := Lib.hid (below_then HB1.out hB (Nat.le_refl _))
  clear hB H1 HB1
  have hne : (E1 != E1) = false := by simp
  go_wp2_with fail
  refine (checkCauses_any a'' n'' cap'' c _ H2.out.2.2).mono ?_
  rintro e w1 ⟨rfl, hB⟩
  obtain ⟨E2, hE2⟩ : ∃ E, chkCa c = E := ⟨_, rfl⟩
  rw [hE2]
  have HE2 := Lib.hid hE2
  have H1 := Lib.hid (And.intro (H2.out.1.below' hB) (And.intro (H2.out.2.1.below' hB) (H2.out.2.2.below' hB)))
  have HB1 := Lib.hid (below_then HB2.out hB (Nat.le_refl _))
  clear hB hE2 H2 HB2 hne
  go_wp2_with fail
  refine (rcheckCauses_any a'' n'' cap'' c _ H1.out.2.2).mono ?_
  rintro e w2 ⟨rfl, hB⟩
  rw [HE2.out]
  have H2 := Lib.hid (And.intro (H1.out.1.below' hB) (H1.out.2.1.below' hB))
  have HB2 := Lib.hid (below_then HB1.out hB (Nat.le_refl _))
  clear hB H1 HB1
  have hne : (E2 != E2) = false := by simp
  go_wp2_with fail
  obtain ⟨E, hE⟩ : ∃ E, cmpE xs d = E := ⟨_, rfl⟩
  have hlo : ∀ _ : cmpE xs d = 0, (openL xs d).length ≤ 1000 := fun _ => by have := openL_len xs d; have := hdl.out; omega
  have hlv : ∀ _ : cmpE xs d = 0, (overM xs d).length ≤ 1000 := fun hc => by have := overM_len hc; have := hxl.out; omega
  have HLo := Lib.hid hlo
  have HLv := Lib.hid hlv
  have HE := Lib.hid hE
  obtain ⟨lo, hlo'⟩ : ∃ l, (if cmpE xs d = 0 then openL xs d else []) = l := ⟨_, rfl⟩
  obtain ⟨lv, hlv'⟩ : ∃ l, (if cmpE xs d = 0 then overM xs d else []) = l := ⟨_, rfl⟩
  obtain ⟨lc, hlc'⟩ : ∃ l, (if cmpE xs d = 0 then covR xs d else []) = l := ⟨_, rfl⟩
  obtain ⟨bs, hbs'⟩ : ∃ b, decide (cmpE xs d = 0 ∧ openL xs d = [] ∧ overM xs d = []) = b := ⟨_, rfl⟩
  have HO := Lib.hid hlo'
  have HV := Lib.hid hlv'
  have HC := Lib.hid hlc'
  have HS := Lib.hid hbs'
  clear hE hlo hlv hlo' hlv' hlc' hbs' hne
  refine (open_all a n cap xs a' n' cap' d _ H2.out.1 Hw.out H2.out.2).mono ?_
  rintro e w1 hp
  obtain ⟨hB, oa, on, oc, rfl, hr⟩ := hp.both HLo.out
  rw [HO.out] at hr
  rw [HE.out]
  have HOA := Lib.hid hr
  have H1 := Lib.hid (And.intro (H2.out.1.below' hB) (H2.out.2.below' hB))
  have HB1 := Lib.hid (below_then HB2.out hB (Nat.le_refl _))
  clear hp hB hr H2 HB2
  go_wp2_with fail
  refine (rOpen_any a n cap xs a' n' cap' d _ H1.out.1 (by omega) hcap H1.out.2).mono ?_
  rintro e w2 hp
  obtain ⟨hB, pa, pn, pc, rfl, hr⟩ := hp.both HLo.out
  rw [HO.out] at hr
  rw [HE.out]
  have HOB := Lib.hid (And.intro (HOA.out.below' hB) hr)
  have H2 := Lib.hid (And.intro (H1.out.1.below' hB) (H1.out.2.below' hB))
  have HB2 := Lib.hid (below_then HB1.out hB (Nat.le_refl _))
  clear hp hB hr H1 HB1 HOA
  go_wp2_with fail
  refine (over_all a n cap xs a' n' cap' d _ H2.out.1 Hw.out H2.out.2).mono ?_
  rintro e w1 hp
  obtain ⟨hB, va, vn, vc, rfl, hr⟩ := hp.both HLv.out
  rw [HV.out] at hr
  rw [HE.out]
  have HVA := Lib.hid (And.intro (HOB.out.1.below' hB) (And.intro (HOB.out.2.below' hB) hr))
  have H1 := Lib.hid (And.intro (H2.out.1.below' hB) (H2.out.2.below' hB))
  have HB1 := Lib.hid (below_then HB2.out hB (Nat.le_refl _))
  clear hp hB hr H2 HB2 HOB
  go_wp2_with fail
  refine (rOver_any a n cap xs a' n' cap' d _ H1.out.1 (by omega) hcap H1.out.2).mono ?_
  rintro e w2 hp
  obtain ⟨hB, ua, un, uc, rfl, hr⟩ := hp.both HLv.out
  rw [HV.out] at hr
  rw [HE.out]
  have HVB := Lib.hid (And.intro (HVA.out.1.below' hB) (And.intro (HVA.out.2.1.below' hB) (And.intro (HVA.out.2.2.below' hB) hr)))
  have H2 := Lib.hid (And.intro (H1.out.1.below' hB) (H1.out.2.below' hB))
  have HB2 := Lib.hid (below_then HB1.out hB (Nat.le_refl _))
  have hne : (E != E) = false := by simp
  clear hp hB hr H1 HB1 HVA
  go_wp2_with fail
  refine (sameDues_any oa pa on pn oc pc lo lo _ HVB.out.1 HVB.out.2.1).mono ?_
  rintro e w1 ⟨rfl, hB⟩
  rw [show decide (lo = lo) = true by simp]
  have HVC := Lib.hid (And.intro (HVB.out.2.2.1.below' hB) (HVB.out.2.2.2.below' hB))
  have H1 := Lib.hid (And.intro (H2.out.1.below' hB) (H2.out.2.below' hB))
  have HB1 := Lib.hid (below_then HB2.out hB (Nat.le_refl _))
  clear hB H2 HB2 HVB
  go_wp2_with fail
  refine (sameDues_any va ua vn un vc uc lv lv _ HVC.out.1 HVC.out.2).mono ?_
  rintro e w2 ⟨rfl, hB⟩
  rw [show decide (lv = lv) = true by simp]
  have H2 := Lib.hid (And.intro (H1.out.1.below' hB) (H1.out.2.below' hB))
  have HB2 := Lib.hid (below_then HB1.out hB (Nat.le_refl _))
  clear hB H1 HB1 HVC
  go_wp2_with fail
  refine (settled_all a n cap xs a' n' cap' d _ H2.out.1 Hw.out H2.out.2).mono ?_
  rintro e w1 ⟨hB, rfl⟩
  rw [HS.out, HE.out]
  have H1 := Lib.hid (And.intro (H2.out.1.below' hB) (H2.out.2.below' hB))
  have HB1 := Lib.hid (below_then HB2.out hB (Nat.le_refl _))
  clear hB H2 HB2
  go_wp2_with fail
  refine (rSettled_any a n cap xs a' n' cap' d _ H1.out.1 (by omega) hcap H1.out.2).mono ?_
  rintro e w2 ⟨hB, rfl⟩
  rw [HS.out, HE.out]
  have H2 := Lib.hid (And.intro (H1.out.1.below' hB) (H1.out.2.below' hB))
  have HB2 := Lib.hid (below_then HB1.out hB (Nat.le_refl _))
  clear hB H1 HB1
  go_wp2_with fail
  refine (covered_all a n cap xs a' n' cap' d _ H2.out.1 Hw.out H2.out.2).mono ?_
  rintro e w1 hp
  obtain ⟨hB, ca, cn, cc, rfl, hr⟩ := hp.both (by have := hdl.out; omega)
  rw [HC.out] at hr
  rw [HE.out]
  have HCA := Lib.hid hr
  have H1 := Lib.hid (And.intro (H2.out.1.below' hB) (H2.out.2.below' hB))
  have HB1 := Lib.hid (below_then HB2.out hB (Nat.le_refl _))
  clear hp hB hr H2 HB2
  go_wp2_with fail
  refine (rCovered_any a n cap xs a' n' cap' d _ H1.out.1 (by omega) hcap H1.out.2).mono ?_
  rintro e w2 ⟨hB, da, dn, dc, rfl, hr⟩
  rw [HC.out] at hr
  rw [HE.out]
  have HCB := Lib.hid (And.intro (HCA.out.below' hB) hr)
  have HB2 := Lib.hid (below_then HB1.out hB (Nat.le_refl _))
  clear hB hr H1 HB1 HCA
  go_wp2_with fail
  refine (purses_any _).mono ?_
  rintro e w1 ⟨rfl, hB⟩
  have HCC := Lib.hid (And.intro (HCB.out.1.below' hB) (HCB.out.2.below' hB))
  have HB1 := Lib.hid (below_then HB2.out hB (Nat.le_refl _))
  have heq : (E == E) = true := by simp
  have hbq : (bs == bs) = true := by simp
  clear hB HB2 HCB
  go_wp2_with fail
  refine (sameInts_any ca da cn dn cc dc lc lc _ HCC.out.1 HCC.out.2).mono ?_
  rintro e w2 ⟨rfl, hB⟩
  rw [show decide (lc = lc) = true by simp]
  have HB2 := Lib.hid (below_then HB1.out hB (Nat.le_refl _))
  clear hB HB1 HCC
  go_wp2_with fail
  go_ret
  exact ⟨rfl, HB2.out⟩
end Go.Proofs.YtehedodogkhmgaaGreat

/- 'Rows.PurseDuesSaid': whatever the arguments, PurseDues returns true and leaves its arguments as they were. -/
set_option linter.unusedSimpArgs false
set_option linter.unusedVariables false
namespace Go.Proofs.YtehedodogkhmgaaGreat.purseDues
open Go.ChangeShapes Go.WideShapes Go.ChangeAt Go.RowKit

theorem own : ownKnob Tryz.prog.godebug = none := by kernel_rfl
theorem laidOut : laidOutB Tryz.prog = true := by kernel_rfl

set_option maxRecDepth 100000 in
theorem lifted (os : Os) (started : os.Started) (H : Type) (enc : TypeId × Value → H) :
    ReturnsInHanded {} Tryz.checked os 6 .any (Rows.purseDuesSpec.pre6 enc Tryz.prog Tryz.f6 Rows.purseDuesRow.domain false) (Rows.purseDuesSpec.post enc Tryz.prog Tryz.f6 false true false false) := by
  refine returnsInHanded_of_change (C := Tryz.checked) own started (by kernel_rfl) Tryz.func6
    (ChangeSpec.witness6 (enc := enc) (C := Tryz.checked) false ⟨#[], #[.slice none 0 0, .slice none 0 0, .slice none 0 0], []⟩ 8 (by kernel_rfl) (by kernel_rfl) (by kernel_rfl) (by kernel_rfl)) ?_
  intro W base args ds gs before hval0 hW hcnd _
  have hval : ∀ (j : Nat) t v, Tryz.f6.params[j]? = some t → args[j]? = some v → Value.okWide Tryz.prog W .any base t v := hval0
  have hW' := hW
  obtain ⟨p, q, hA0, hV, rfl, hfz, hnd⟩ := hW
  have hA : DataW.TrodAll enc Tryz.prog W 0 (fun _ => true) true Tryz.f6.params.toList args.toList ds p := hA0
  rw [Tryz.params6] at hA hval
  obtain ⟨v0, vs0, d0, ds0, p0, q0, hargs, rfl, rfl, h0, r0⟩ := trodAll_cons hA
  obtain ⟨v1, vs1, d1, ds1, p1, q1, rfl, rfl, rfl, h1, r1⟩ := trodAll_cons r0
  obtain ⟨v2, vs2, d2, ds2, p2, q2, rfl, rfl, rfl, h2, r2⟩ := trodAll_cons r1
  obtain ⟨rfl, rfl, rfl⟩ := trodAll_nil r2
  obtain rfl : args = #[v0, v1, v2] := by cases args; simp_all
  obtain ⟨rfl, rfl⟩ := trodVars_none hV
  have h0k := h0
  have hlt0 : ∀ x ∈ p0, x.block < W.heap.size := fun x hx => hW'.lt x (by simp [hx])
  have h1k := h1
  have hlt1 : ∀ x ∈ p1, x.block < W.heap.size := fun x hx => hW'.lt x (by simp [hx])
  have h2k := h2
  have hlt2 : ∀ x ∈ p2, x.block < W.heap.size := fun x hx => hW'.lt x (by simp [hx])
  obtain ⟨y0, l0, c0, rfl⟩ := okWide_slice Tryz.underlying22 (hval 0 _ v0 rfl rfl)
  obtain ⟨fuel0, hf0⟩ := h0
  obtain ⟨a0, n0, cap0, xs0, hcs0, hrd0, hwf0, hcap0, hz0⟩ := open_pos hf0
  obtain ⟨rfl, rfl, rfl⟩ : y0 = a0 ∧ l0 = n0 ∧ c0 = cap0 := by simpa [Value.cells] using hcs0
  obtain ⟨y1, l1, c1, rfl⟩ := okWide_slice Tryz.underlying23 (hval 1 _ v1 rfl rfl)
  obtain ⟨fuel1, hf1⟩ := h1
  obtain ⟨a1, n1, cap1, xs1, hcs1, hrd1, hcap1, hz1⟩ := open_dus hf1
  obtain ⟨rfl, rfl, rfl⟩ : y1 = a1 ∧ l1 = n1 ∧ c1 = cap1 := by simpa [Value.cells] using hcs1
  obtain ⟨y2, l2, c2, rfl⟩ := okWide_slice Tryz.underlying24 (hval 2 _ v2 rfl rfl)
  obtain ⟨fuel2, hf2⟩ := h2
  obtain ⟨a2, n2, cap2, xs2, hcs2, hrd2, hcap2, hz2⟩ := open_cas hf2
  obtain ⟨rfl, rfl, rfl⟩ : y2 = a2 ∧ l2 = n2 ∧ c2 = cap2 := by simpa [Value.cells] using hcs2
  clear hA0 hval0
  simp only [List.append_nil] at hW'
  refine (law_dues y0 l0 c0 xs0 y1 l1 c1 xs1 y2 l2 c2 xs2 W hrd0 hwf0 hcap0 hz0 hrd1 hcap1 hz1 hrd2 hcap2 hz2).mono fun e W' ⟨he, hb⟩ => ?_
  subst he
  exact ⟨_, rfl, _, _, _, [], p0 ++ (p1 ++ (p2 ++ [])), [], hW', trodAll_cons_mk (shut_bool Tryz.underlying4 _) trodAll_mk0, trodAll_cons_mk (Below.trod laidOut (by kernel_rfl) (of_decide_eq_true (by kernel_rfl)) h0k hb hlt0) (trodAll_cons_mk (Below.trod laidOut (by kernel_rfl) (of_decide_eq_true (by kernel_rfl)) h1k hb hlt1) (trodAll_cons_mk (Below.trod laidOut (by kernel_rfl) (of_decide_eq_true (by kernel_rfl)) h2k hb hlt2) (trodAll_mk0))), rfl, hb.frame _, fun h => by cases h⟩

theorem over : Rows.purseDuesRow.holds Tryz.pinned (OpenSpec.ofChange Rows.purseDuesSpec) :=
  OpenClaim.holds_of_wide 6 Tryz.f6 rfl rfl rfl rfl rfl rfl rfl ⟨rfl, rfl, rfl, rfl, rfl⟩ rfl rfl rfl rfl rfl (by kernel_rfl) Tryz.func6 (by kernel_rfl)
    (of_decide_eq_true (by kernel_rfl)) (by unfold Func.isWrapper; first | (rw [if_pos (by decide +kernel)]; kernel_rfl) | (rw [if_neg (by decide +kernel)]; exact ⟨rfl, rfl⟩))
    (fun os started H enc _ => lifted os started H enc)

theorem proved : Rows.PurseDuesSaid :=
  over
#print axioms proved
end Go.Proofs.YtehedodogkhmgaaGreat.purseDues
