/- 'Rows.PurseSettledSaid': whatever the arguments, PurseSettled returns true and leaves its arguments as they were. -/
import Derived.Test.YtehedodogkhmgaaGreatRows
import Derived.Test.YtehedodogkhmgaaGreatLawSettled
import Derived.Test.YtehedodogkhmgaaGreatOpen
set_option linter.unusedSimpArgs false
set_option linter.unusedVariables false
namespace Go.Proofs.YtehedodogkhmgaaGreat.purseSettled
open Go.ChangeShapes Go.WideShapes Go.ChangeAt Go.RowKit

theorem own : ownKnob Tryz.prog.godebug = none := by kernel_rfl
theorem laidOut : laidOutB Tryz.prog = true := by kernel_rfl

set_option maxRecDepth 100000 in
theorem lifted (os : Os) (started : os.Started) (H : Type) (enc : TypeId × Value → H) :
    ReturnsInHanded {} Tryz.checked os 7 .any (Rows.purseSettledSpec.pre6 enc Tryz.prog Tryz.f7 Rows.purseSettledRow.domain false) (Rows.purseSettledSpec.post enc Tryz.prog Tryz.f7 false true false false) := by
  refine returnsInHanded_of_change (C := Tryz.checked) own started (by kernel_rfl) Tryz.func7
    (ChangeSpec.witness6 (enc := enc) (C := Tryz.checked) false ⟨#[], #[.slice none 0 0, .slice none 0 0, .slice none 0 0, .int .i64 0], []⟩ 8 (by kernel_rfl) (by kernel_rfl) (by kernel_rfl) (by kernel_rfl)) ?_
  intro W base args ds gs before hval0 hW hcnd _
  have hval : ∀ (j : Nat) t v, Tryz.f7.params[j]? = some t → args[j]? = some v → Value.okWide Tryz.prog W .any base t v := hval0
  have hW' := hW
  obtain ⟨p, q, hA0, hV, rfl, hfz, hnd⟩ := hW
  have hA : DataW.TrodAll enc Tryz.prog W 0 (fun _ => true) true Tryz.f7.params.toList args.toList ds p := hA0
  rw [Tryz.params7] at hA hval
  obtain ⟨v0, vs0, d0, ds0, p0, q0, hargs, rfl, rfl, h0, r0⟩ := trodAll_cons hA
  obtain ⟨v1, vs1, d1, ds1, p1, q1, rfl, rfl, rfl, h1, r1⟩ := trodAll_cons r0
  obtain ⟨v2, vs2, d2, ds2, p2, q2, rfl, rfl, rfl, h2, r2⟩ := trodAll_cons r1
  obtain ⟨v3, vs3, d3, ds3, p3, q3, rfl, rfl, rfl, h3, r3⟩ := trodAll_cons r2
  obtain ⟨rfl, rfl, rfl⟩ := trodAll_nil r3
  obtain rfl : args = #[v0, v1, v2, v3] := by cases args; simp_all
  obtain ⟨rfl, rfl⟩ := trodVars_none hV
  have h0k := h0
  have hlt0 : ∀ x ∈ p0, x.block < W.heap.size := fun x hx => hW'.lt x (by simp [hx])
  have h1k := h1
  have hlt1 : ∀ x ∈ p1, x.block < W.heap.size := fun x hx => hW'.lt x (by simp [hx])
  have h2k := h2
  have hlt2 : ∀ x ∈ p2, x.block < W.heap.size := fun x hx => hW'.lt x (by simp [hx])
  have h3k := h3
  have hlt3 : ∀ x ∈ p3, x.block < W.heap.size := fun x hx => hW'.lt x (by simp [hx])
  obtain ⟨y0, l0, c0, rfl⟩ := okWide_slice Tryz.underlying22 (hval 0 _ v0 rfl rfl)
  obtain ⟨fuel0, hf0⟩ := h0
  obtain ⟨a0, n0, cap0, xs0, hcs0, hrd0, hwf0, hcap0, hz0⟩ := open_pos hf0
  obtain ⟨rfl, rfl, rfl⟩ : y0 = a0 ∧ l0 = n0 ∧ c0 = cap0 := by simpa [Value.cells] using hcs0
  obtain ⟨y1, l1, c1, rfl⟩ := okWide_slice Tryz.underlying23 (hval 1 _ v1 rfl rfl)
  obtain ⟨fuel1, hf1⟩ := h1
  obtain ⟨a1, n1, cap1, xs1, hcs1, hrd1, hcap1, hz1⟩ := open_dus hf1
  obtain ⟨rfl, rfl, rfl⟩ : y1 = a1 ∧ l1 = n1 ∧ c1 = cap1 := by simpa [Value.cells] using hcs1
  obtain ⟨y2, l2, c2, rfl⟩ := okWide_slice Tryz.underlying24 (hval 2 _ v2 rfl rfl)
  obtain ⟨fuel2, hf2⟩ := h2
  obtain ⟨a2, n2, cap2, xs2, hcs2, hrd2, hcap2, hz2⟩ := open_cas hf2
  obtain ⟨rfl, rfl, rfl⟩ : y2 = a2 ∧ l2 = n2 ∧ c2 = cap2 := by simpa [Value.cells] using hcs2
  obtain ⟨i3, rfl, rfl, rfl, wi3⟩ := open_int Tryz.underlying3 (hval 3 _ v3 rfl rfl) h3
  clear hA0 hval0
  simp only [List.append_nil] at hW'
  refine (law_settled y0 l0 c0 xs0 y1 l1 c1 xs1 y2 l2 c2 xs2 i3 W hrd0 hwf0 hcap0 hz0 hrd1 hcap1 hz1 hrd2 hcap2 hz2 (wf_i64' wi3)).mono fun e W' ⟨he, hb⟩ => ?_
  subst he
  exact ⟨_, rfl, _, _, _, [], p0 ++ (p1 ++ (p2 ++ ([] ++ []))), [], hW', trodAll_cons_mk (shut_bool Tryz.underlying4 _) trodAll_mk0, trodAll_cons_mk (Below.trod laidOut (by kernel_rfl) (of_decide_eq_true (by kernel_rfl)) h0k hb hlt0) (trodAll_cons_mk (Below.trod laidOut (by kernel_rfl) (of_decide_eq_true (by kernel_rfl)) h1k hb hlt1) (trodAll_cons_mk (Below.trod laidOut (by kernel_rfl) (of_decide_eq_true (by kernel_rfl)) h2k hb hlt2) (trodAll_cons_mk (Below.trod laidOut (by kernel_rfl) (of_decide_eq_true (by kernel_rfl)) h3k hb hlt3) (trodAll_mk0)))), rfl, hb.frame _, fun h => by cases h⟩

theorem over : Rows.purseSettledRow.holds Tryz.pinned (OpenSpec.ofChange Rows.purseSettledSpec) :=
  OpenClaim.holds_of_wide 7 Tryz.f7 rfl rfl rfl rfl rfl rfl rfl ⟨rfl, rfl, rfl, rfl, rfl⟩ rfl rfl rfl rfl rfl (by kernel_rfl) Tryz.func7 (by kernel_rfl)
    (of_decide_eq_true (by kernel_rfl)) (by unfold Func.isWrapper; first | (rw [if_pos (by decide +kernel)]; kernel_rfl) | (rw [if_neg (by decide +kernel)]; exact ⟨rfl, rfl⟩))
    (fun os started H enc _ => lifted os started H enc)

theorem proved : Rows.PurseSettledSaid :=
  over
#print axioms proved
end Go.Proofs.YtehedodogkhmgaaGreat.purseSettled
