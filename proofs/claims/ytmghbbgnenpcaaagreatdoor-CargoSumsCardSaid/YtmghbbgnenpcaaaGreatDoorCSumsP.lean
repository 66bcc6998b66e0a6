/- The plain law of the ends: what is in a package weighs, by its low ends, at most the package's low end (no dump). -/
import Derived.Test.YtmghbbgnenpcaaaGreatDoorCModel
set_option linter.unusedSimpArgs false
set_option linter.unusedVariables false
namespace Go.Proofs.YtmghbbgnenpcaaaGreatDoor

def sumEnd (ks : List Tr) : Int := (ks.map (fun k => k.f.endL)).sum
theorem sumEnd_nil : sumEnd [] = 0 := rfl
theorem sumEnd_cons (k : Tr) (r : List Tr) : sumEnd (k :: r) = k.f.endL + sumEnd r := by simp [sumEnd]
def Fine (t : Tr) : Prop := t.f.endL ≤ t.f.endH ∧ t.f.missing + sumEnd t.ks ≤ t.f.endL
theorem sinkT_ends (lo hi : Int) : ∀ t : Tr, (sinkT lo hi t).f.endL = lo ∧ (sinkT lo hi t).f.endH = hi
  | .node b f ks => by unfold sinkT; exact ⟨rfl, rfl⟩
theorem gap_le : ∀ {ks : List Tr}, (∀ k ∈ ks, Up k) → (0 ≤ sumOwn ks - sumLow ks) ∧ ∀ k ∈ ks, k.f.ownH - k.f.low ≤ sumOwn ks - sumLow ks
  | [], _ => ⟨by simp only [sumOwn_nil, sumLow_nil]; omega, by simp⟩
  | x :: r, h => by
    have h1 := gap_le (ks := r) (fun y hy => h y (List.mem_cons_of_mem _ hy))
    have h2 := (h x (by simp)).low
    simp only [sumOwn_cons, sumLow_cons]
    refine ⟨by omega, fun k hk => ?_⟩
    rcases List.mem_cons.1 hk with rfl | hk
    · omega
    · have := h1.2 k hk; omega
theorem mx (a b : Int) : a ≤ max a b ∧ b ≤ max a b ∧ (max a b = a ∨ max a b = b) := by omega
theorem sinkL_sum (top sl low high : Int) (hc : sl ≤ high) : ∀ (ks : List Tr), (∀ k ∈ ks, Up k) → sumEnd (sinkL top sl low high ks) ≤ max (sumLow ks) (sl - high + sumOwn ks)
  | [], _ => by simp only [sinkL, sumEnd_nil, sumLow_nil, sumOwn_nil]; omega
  | k :: r, h => by
    have h1 := sinkL_sum top sl low high hc r (fun x hx => h x (List.mem_cons_of_mem _ hx))
    have h2 := (h k (by simp)).low
    have h3 := (gap_le (ks := r) (fun x hx => h x (List.mem_cons_of_mem _ hx))).1
    simp only [sinkL, sumEnd_cons, sumLow_cons, sumOwn_cons, (sinkT_ends _ _ k).1]
    have e1 := mx (sumLow r) (sl - high + sumOwn r)
    have e2 := mx k.f.low (sl - (high - k.f.ownH))
    have e3 := mx (k.f.low + sumLow r) (sl - high + (k.f.ownH + sumOwn r))
    generalize max (sumLow r) (sl - high + sumOwn r) = m1 at *
    generalize max k.f.low (sl - (high - k.f.ownH)) = m2 at *
    generalize max (k.f.low + sumLow r) (sl - high + (k.f.ownH + sumOwn r)) = m3 at *
    omega
mutual
theorem sinkT_fine : ∀ (t : Tr) (lo hi : Int), Up t → Bd t → t.f.low ≤ hi → (∀ k ∈ (sinkT lo hi t).pre, Fine k) ∧ (t.f.low ≤ lo → lo ≤ hi → Fine (sinkT lo hi t))
  | .node b f ks, lo, hi, hu, hb, hl => by
    have hk : ∀ k ∈ ks, Up k := hu.kids
    have hbk : ∀ k ∈ ks, Bd k := hb.kids
    have hf : FB f := hb.fb
    have hg := gap_le hk
    cases hu with
    | node h1 h2 h3 h4 h5 h6 h7 _ =>
      have hl' : f.low ≤ hi := hl
      clear hl
      have hm := hf.1.1
      have hs := sinkL_sum (min f.sumH hi) f.sumL (f.missing + sumLow ks) (f.missing * 100000 + sumOwn ks) h6 ks hk
      refine ⟨?_, fun h8 h9 => ⟨?_, ?_⟩⟩
      · unfold sinkT
        simp only [Tr.pre]
        exact sinkL_fine ks _ _ _ _ hk hbk (by omega) h6 (by omega) (fun k hk' => by have := hg.2 k hk'; omega)
      · unfold sinkT; exact h9
      · unfold sinkT
        simp only [Tr.f, Tr.ks] at h8 ⊢
        omega
theorem sinkL_fine : ∀ (ks : List Tr) (top sl low high : Int), (∀ k ∈ ks, Up k) → (∀ k ∈ ks, Bd k) → low ≤ top → sl ≤ high → sl ≤ top → (∀ k ∈ ks, k.f.ownH - k.f.low ≤ high - low) → ∀ k ∈ preL (sinkL top sl low high ks), Fine k
  | [], _, _, _, _, _, _, _, _, _, _, k, hk => by simp [sinkL, preL] at hk
  | x :: r, top, sl, low, high, hu, hb, h1, h2, h3, h4, k, hk => by
    have hx := (hu x (by simp)).low
    have hg := h4 x (by simp)
    have ht := sinkT_fine x (max x.f.low (sl - (high - x.f.ownH))) (min x.f.ownH (top - (low - x.f.low))) (hu x (by simp)) (hb x (by simp)) (by omega)
    simp only [sinkL, preL, List.mem_cons, List.mem_append] at hk
    rcases hk with rfl | hk | hk
    · exact ht.2 (by omega) (by omega)
    · exact ht.1 k hk
    · exact sinkL_fine r top sl low high (fun y hy => hu y (List.mem_cons_of_mem _ hy)) (fun y hy => hb y (List.mem_cons_of_mem _ hy)) h1 h2 h3 (fun y hy => h4 y (List.mem_cons_of_mem _ hy)) k hk
end
theorem solve_fine {t t' : Tr} (hb : Bd t) (h : solveT t = some t') : ∀ k ∈ t'.pre, Fine k := by
  unfold solveT at h
  split at h
  · cases h
  · rename_i u hu
    cases h
    obtain ⟨h1, h2, _⟩ := riseT_up t u hb hu
    exact (sinkT_fine u _ _ h2 h1 h2.low.2).1
end Go.Proofs.YtmghbbgnenpcaaaGreatDoor
