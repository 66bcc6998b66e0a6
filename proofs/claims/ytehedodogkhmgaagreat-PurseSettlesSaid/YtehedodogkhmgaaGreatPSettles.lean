/- PurseSettles returns true: Settle returns what the reference returns. -/
import Derived.Test.YtehedodogkhmgaaGreatFew
import Derived.Test.YtehedodogkhmgaaGreatRefL
import Derived.Test.YtehedodogkhmgaaGreatRefF
import Derived.Test.YtehedodogkhmgaaGreatRows
import Derived.Test.YtehedodogkhmgaaGreatOpen
set_option linter.unusedSimpArgs false
set_option linter.unusedVariables false
namespace Go.Proofs.YtehedodogkhmgaaGreat
open Go.RowKit Go.Shelf

theorem SettlePost.both {w w' : World} {xs : List Po} {d : List Du} {c : List Ca} {h : Int} {e : Ending} (hp : SettlePost w xs d c h e w') :
    Below w.heap.size w w' ∧ ∃ a n cap, e = .returned (.tuple #[.slice a n cap, .int .i64 (settleE xs d c h)]) ∧ Rd Po.vals 8 w' a n (if settleE xs d c h = 0 then (settleSt xs d c h).out else []) := by
  obtain ⟨hB, ⟨hc, rfl⟩ | ⟨hc, v, rfl, hrow⟩⟩ := hp
  · exact ⟨hB, none, 0, 0, rfl, by rw [if_neg hc]; exact Rd.empty _ _⟩
  · have hl : (settleSt xs d c h).out.length ≤ 400 := by
      have := (settleE_zero hc).2.1
      omega
    obtain ⟨a, cap, rfl, _, hrd, _⟩ := Rd.of_own hrow po_vals_length (by decide) rfl (by unfold maxLen; omega)
    exact ⟨hB, a, _, cap, by rw [hc], by rw [if_pos hc]; exact hrd⟩

set_option maxRecDepth 100000 in
set_option maxHeartbeats 8000000 in
theorem law_settles (a : Option Addr) (n cap : Nat) (xs : List Po) (a' : Option Addr) (n' cap' : Nat) (d : List Du) (a'' : Option Addr) (n'' cap'' : Nat) (c : List Ca) (hour : Int) (w : World)
    (h : Rd Po.vals 8 w a n xs) (hw : ∀ p ∈ xs, p.Wf) (hcap : n ≤ cap) (hz : a = none → cap = 0) (h' : Rd Du.vals 3 w a' n' d) (_ : n' ≤ cap') (_ : a' = none → cap' = 0) (h'' : Rd Ca.vals 3 w a'' n'' c) (_ : n'' ≤ cap'') (_ : a'' = none → cap'' = 0) (_ : I64 hour) :
    Calls Tryz.prog 3 #[.slice a n cap, .slice a' n' cap', .slice a'' n'' cap'', .int .i64 hour] w fun e w' => e = .returned (.bool true) ∧ Below w.heap.size w w' := by
  have H1 := Lib.hid h
  have H1' := Lib.hid h'
  have H1'' := Lib.hid h''
  have Hw := Lib.hid hw
  have Hz := Lib.hid hz
  clear h h' h'' hw hz
  go_enter Tryz.func3, Tryz.ntmps3
  go_wp2_with fail
  refine (few_any a n cap a' n' cap' a'' n'' cap'' _).mono ?_
  rintro e wf ⟨rfl, rfl⟩
  by_cases hf : fewB n n' n''
  case neg =>
    have hd : decide (fewB n n' n'') = false := by simp [hf]
    rw [hd]
    clear hd hf
    go_wp2_with fail
    refine (purses_any _).mono ?_
    rintro e w1 ⟨rfl, hB⟩
    have HB := Lib.hid hB
    clear hB
    go_wp2_with fail
    go_ret
    exact ⟨rfl, HB.out⟩
  have hd : decide (fewB n n' n'') = true := by simp [hf]
  rw [hd]
  obtain ⟨f1, f2, f3⟩ := hf
  clear hd
  go_wp2_with fail
  refine (settle_any a n cap xs a' n' cap' d a'' n'' cap'' c hour _ H1.out Hw.out H1'.out H1''.out).mono ?_
  rintro e w1 hp
  obtain ⟨hB, sa, sn, sc, rfl, hrd⟩ := hp.both
  obtain ⟨E, hE⟩ : ∃ E, settleE xs d c hour = E := ⟨_, rfl⟩
  obtain ⟨L, hL⟩ : ∃ L, (if settleE xs d c hour = 0 then (settleSt xs d c hour).out else []) = L := ⟨_, rfl⟩
  rw [hL] at hrd
  rw [hE]
  have HE := Lib.hid hE
  have HL := Lib.hid hL
  have HS := Lib.hid hrd
  have H2 := Lib.hid (H1.out.below' hB)
  have H2' := Lib.hid (H1'.out.below' hB)
  have H2'' := Lib.hid (H1''.out.below' hB)
  have HB1 := Lib.hid hB
  clear hp hB hrd hE hL H1 H1' H1''
  go_wp2_with fail
  refine (rsettle_any a n cap xs a' n' cap' d a'' n'' cap'' c hour _ H2.out (by omega) hcap Hz.out H2'.out H2''.out).mono ?_
  rintro e w2 ⟨hB, ra, rn, rc, rfl, hrd⟩
  rw [HL.out] at hrd
  rw [HE.out]
  have HR := Lib.hid hrd
  have HS2 := Lib.hid (HS.out.below' hB)
  have HB2 := Lib.hid (below_then HB1.out hB (Nat.le_refl _))
  clear hB hrd HS HB1
  go_wp2_with fail
  refine (purses_any _).mono ?_
  rintro e w3 ⟨rfl, hB⟩
  have HR3 := Lib.hid (HR.out.below' hB)
  have HS3 := Lib.hid (HS2.out.below' hB)
  have HB3 := Lib.hid (below_then HB2.out hB (Nat.le_refl _))
  clear hB HR HS2 HB2
  go_wp2_with fail
  refine (samePostings_any sa ra sn rn sc rc _ _ _ HS3.out HR3.out).mono ?_
  rintro e w4 ⟨rfl, hB⟩
  have hd : decide (L = L) = true := by simp
  rw [hd]
  have HB4 := Lib.hid (below_then HB3.out hB (Nat.le_refl _))
  clear hB hd
  go_wp2_with fail
  go_ret
  exact ⟨rfl, HB4.out⟩
end Go.Proofs.YtehedodogkhmgaaGreat

/- 'Rows.PurseSettlesSaid': whatever the arguments, PurseSettles returns true and leaves its arguments as they were. -/
set_option linter.unusedSimpArgs false
set_option linter.unusedVariables false
namespace Go.Proofs.YtehedodogkhmgaaGreat.purseSettles
open Go.ChangeShapes Go.WideShapes Go.ChangeAt Go.RowKit

theorem own : ownKnob Tryz.prog.godebug = none := by kernel_rfl
theorem laidOut : laidOutB Tryz.prog = true := by kernel_rfl

set_option maxRecDepth 100000 in
theorem lifted (os : Os) (started : os.Started) (H : Type) (enc : TypeId × Value → H) :
    ReturnsInHanded {} Tryz.checked os 3 .any (Rows.purseSettlesSpec.pre6 enc Tryz.prog Tryz.f3 Rows.purseSettlesRow.domain false) (Rows.purseSettlesSpec.post enc Tryz.prog Tryz.f3 false true false false) := by
  refine returnsInHanded_of_change (C := Tryz.checked) own started (by kernel_rfl) Tryz.func3
    (ChangeSpec.witness6 (enc := enc) (C := Tryz.checked) false ⟨#[], #[.slice none 0 0, .slice none 0 0, .slice none 0 0, .int .i64 0], []⟩ 8 (by kernel_rfl) (by kernel_rfl) (by kernel_rfl) (by kernel_rfl)) ?_
  intro W base args ds gs before hval0 hW hcnd _
  have hval : ∀ (j : Nat) t v, Tryz.f3.params[j]? = some t → args[j]? = some v → Value.okWide Tryz.prog W .any base t v := hval0
  have hW' := hW
  obtain ⟨p, q, hA0, hV, rfl, hfz, hnd⟩ := hW
  have hA : DataW.TrodAll enc Tryz.prog W 0 (fun _ => true) true Tryz.f3.params.toList args.toList ds p := hA0
  rw [Tryz.params3] at hA hval
  obtain ⟨v0, vs0, d0, ds0, p0, q0, hargs, rfl, rfl, h0, r0⟩ := trodAll_cons hA
  obtain ⟨v1, vs1, d1, ds1, p1, q1, rfl, rfl, rfl, h1, r1⟩ := trodAll_cons r0
  obtain ⟨v2, vs2, d2, ds2, p2, q2, rfl, rfl, rfl, h2, r2⟩ := trodAll_cons r1
  obtain ⟨v3, vs3, d3, ds3, p3, q3, rfl, rfl, rfl, h3, r3⟩ := trodAll_cons r2
  obtain ⟨rfl, rfl, rfl⟩ := trodAll_nil r3
  obtain rfl : args = #[v0, v1, v2, v3] := by cases args; simp_all
  obtain ⟨rfl, rfl⟩ := trodVars_none hV
  have h0k := h0
  have hlt0 : ∀ x ∈ p0, x.block < W.heap.size := fun x hx => hW'.lt x (by simp [hx])
  have h1k := h1
  have hlt1 : ∀ x ∈ p1, x.block < W.heap.size := fun x hx => hW'.lt x (by simp [hx])
  have h2k := h2
  have hlt2 : ∀ x ∈ p2, x.block < W.heap.size := fun x hx => hW'.lt x (by simp [hx])
  have h3k := h3
  have hlt3 : ∀ x ∈ p3, x.block < W.heap.size := fun x hx => hW'.lt x (by simp [hx])
  obtain ⟨y0, l0, c0, rfl⟩ := okWide_slice Tryz.underlying22 (hval 0 _ v0 rfl rfl)
  obtain ⟨fuel0, hf0⟩ := h0
  obtain ⟨a0, n0, cap0, xs0, hcs0, hrd0, hwf0, hcap0, hz0⟩ := open_pos hf0
  obtain ⟨rfl, rfl, rfl⟩ : y0 = a0 ∧ l0 = n0 ∧ c0 = cap0 := by simpa [Value.cells] using hcs0
  obtain ⟨y1, l1, c1, rfl⟩ := okWide_slice Tryz.underlying23 (hval 1 _ v1 rfl rfl)
  obtain ⟨fuel1, hf1⟩ := h1
  obtain ⟨a1, n1, cap1, xs1, hcs1, hrd1, hcap1, hz1⟩ := open_dus hf1
  obtain ⟨rfl, rfl, rfl⟩ : y1 = a1 ∧ l1 = n1 ∧ c1 = cap1 := by simpa [Value.cells] using hcs1
  obtain ⟨y2, l2, c2, rfl⟩ := okWide_slice Tryz.underlying24 (hval 2 _ v2 rfl rfl)
  obtain ⟨fuel2, hf2⟩ := h2
  obtain ⟨a2, n2, cap2, xs2, hcs2, hrd2, hcap2, hz2⟩ := open_cas hf2
  obtain ⟨rfl, rfl, rfl⟩ : y2 = a2 ∧ l2 = n2 ∧ c2 = cap2 := by simpa [Value.cells] using hcs2
  obtain ⟨i3, rfl, rfl, rfl, wi3⟩ := open_int Tryz.underlying3 (hval 3 _ v3 rfl rfl) h3
  clear hA0 hval0
  simp only [List.append_nil] at hW'
  refine (law_settles y0 l0 c0 xs0 y1 l1 c1 xs1 y2 l2 c2 xs2 i3 W hrd0 hwf0 hcap0 hz0 hrd1 hcap1 hz1 hrd2 hcap2 hz2 (wf_i64' wi3)).mono fun e W' ⟨he, hb⟩ => ?_
  subst he
  exact ⟨_, rfl, _, _, _, [], p0 ++ (p1 ++ (p2 ++ ([] ++ []))), [], hW', trodAll_cons_mk (shut_bool Tryz.underlying4 _) trodAll_mk0, trodAll_cons_mk (Below.trod laidOut (by kernel_rfl) (of_decide_eq_true (by kernel_rfl)) h0k hb hlt0) (trodAll_cons_mk (Below.trod laidOut (by kernel_rfl) (of_decide_eq_true (by kernel_rfl)) h1k hb hlt1) (trodAll_cons_mk (Below.trod laidOut (by kernel_rfl) (of_decide_eq_true (by kernel_rfl)) h2k hb hlt2) (trodAll_cons_mk (Below.trod laidOut (by kernel_rfl) (of_decide_eq_true (by kernel_rfl)) h3k hb hlt3) (trodAll_mk0)))), rfl, hb.frame _, fun h => by cases h⟩

theorem over : Rows.purseSettlesRow.holds Tryz.pinned (OpenSpec.ofChange Rows.purseSettlesSpec) :=
  OpenClaim.holds_of_wide 3 Tryz.f3 rfl rfl rfl rfl rfl rfl rfl ⟨rfl, rfl, rfl, rfl, rfl⟩ rfl rfl rfl rfl rfl (by kernel_rfl) Tryz.func3 (by kernel_rfl)
    (of_decide_eq_true (by kernel_rfl)) (by unfold Func.isWrapper; first | (rw [if_pos (by decide +kernel)]; kernel_rfl) | (rw [if_neg (by decide +kernel)]; exact ⟨rfl, rfl⟩))
    (fun os started H enc _ => lifted os started H enc)

theorem proved : Rows.PurseSettlesSaid :=
  over
#print axioms proved
end Go.Proofs.YtehedodogkhmgaaGreat.purseSettles
