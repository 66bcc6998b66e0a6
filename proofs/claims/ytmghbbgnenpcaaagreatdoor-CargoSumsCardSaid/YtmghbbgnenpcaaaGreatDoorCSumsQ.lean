/- The plain law of the paths: each package of a path is directly in the one before it (no dump). -/
import Derived.Test.YtmghbbgnenpcaaaGreatDoorCTreesP
import Derived.Test.YtmghbbgnenpcaaaGreatDoorCSumsP
set_option linter.unusedSimpArgs false
set_option linter.unusedVariables false
namespace Go.Proofs.YtmghbbgnenpcaaaGreatDoor

def Linked (ps : List Pa) : Int → List Int → Prop
  | _, [] => True
  | i, q :: r => q ∈ insideI ps i ∧ Linked ps q r
theorem in_inside {ps : List Pa} {x : Pa} (h : x ∈ ps) : x.pack ∈ insideI ps x.inn := by
  unfold insideI
  exact List.mem_map.2 ⟨x, List.mem_filter.2 ⟨h, by simp⟩, rfl⟩
theorem path_linked {ps : List Pa} (hp : Packs ps) : ∀ (d : Nat) (p : Int) (acc c : List Int), Chain ps (p :: c) → c.length < d → Linked ps p acc → Linked ps 0 (pathP ps d p acc) ∧ ∃ pre, pathP ps d p acc = pre ++ acc
  | 0, p, acc, c, _, h, _ => by omega
  | d + 1, p, acc, c, h, hd, hl => by
    by_cases h0 : p = 0
    · subst h0
      rw [path_end]
      exact ⟨hl, [], rfl⟩
    · obtain ⟨x, c', h1, h2, rfl, h3⟩ := chain_step hp h h0
      rw [path_step h0 h1]
      simp only [List.length_cons] at hd
      obtain ⟨hx, hxp⟩ := ofI_mem h1
      obtain ⟨k1, pre, k2⟩ := path_linked hp d x.inn (p :: acc) c' h3 (by omega) ⟨by rw [← hxp]; exact in_inside hx, hl⟩
      exact ⟨k1, pre ++ [p], by rw [k2]; simp⟩
theorem path_last {ps : List Pa} (hp : Packs ps) {p : Int} {c : List Int} (h : Chain ps (p :: c)) (h0 : p ≠ 0) (hc : c.length < 300) : Linked ps 0 (pathP ps 300 p []) ∧ ∃ pre, pathP ps 300 p [] = pre ++ [p] := by
  refine ⟨(path_linked hp 300 p [] c h hc trivial).1, ?_⟩
  obtain ⟨x, c', h1, h2, rfl, h3⟩ := chain_step hp h h0
  rw [path_step (d := 299) h0 h1]
  simp only [List.length_cons] at hc
  obtain ⟨hx, hxp⟩ := ofI_mem h1
  obtain ⟨_, pre, k2⟩ := path_linked hp 299 x.inn [p] c' h3 (by omega) ⟨by rw [← hxp]; exact in_inside hx, trivial⟩
  exact ⟨pre, k2⟩
end Go.Proofs.YtmghbbgnenpcaaaGreatDoor
