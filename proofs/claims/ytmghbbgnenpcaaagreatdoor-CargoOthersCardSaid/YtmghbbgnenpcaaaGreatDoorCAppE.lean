/- What Append answers. -/
import Derived.Test.YtmghbbgnenpcaaaGreatDoorCRAppend
import Derived.Test.YtmghbbgnenpcaaaGreatDoorLater
set_option linter.unusedSimpArgs false
set_option linter.unusedVariables false
namespace Go.Proofs.YtmghbbgnenpcaaaGreatDoor
open Go.RowKit Go.Shelf

theorem Rd.of_block {α : Type} {E : α → List Value} {k : Nat} {w : World} {b : Nat} {cs : Array Value} {t : TypeId} {xs : List α} (hb : w.heap[b]? = some (.cells cs t (0, 0))) (hcs : cs.toList = xs.flatMap E) (hk : ∀ x, (E x).length = k) (hn : xs.length ≤ maxLen) :
    Rd E k w (some ⟨b, 0, none⟩) xs.length xs :=
  ⟨rfl, hn, fun i hi => ⟨b, 0, xs[i], rfl, (Array.getElem?_eq_some_iff.1 hb).1, List.getElem?_eq_getElem hi, fun j hj => by
    rw [cell_of_row _ _ _ _ _ (0, 0) hb, ← Array.getElem?_toList, hcs, Nat.zero_add]
    exact flat_at hk xs i xs[i] j (List.getElem?_eq_getElem hi) hj⟩⟩
theorem rd_pa (w : World) (x : Pa) (T : TypeId) : Rd Pa.vals 14 (w.alloc (.cells #[.int .i64 x.id, .int .i64 x.known, .int .u8 x.kind, .int .i64 x.loss, .int .i64 x.pack, .int .i64 x.inn, .string ⟨x.mark.toArray⟩, .string ⟨x.goods.toArray⟩, .int .i64 x.low, .int .i64 x.high, .int .i64 x.pieces, .int .i64 x.owner, .int .i64 x.count, .int .i64 x.of] T)) (some ⟨w.heap.size, 0, none⟩) 1 [x] :=
  Rd.of_block (xs := [x]) (heap_alloc_new w _) (by simp [Pa.vals]) Pa.vals_length (by unfold maxLen; simp)
/-- what Append answers -/
def appE (xs : List Pa) (x : Pa) : Int := if (checkC xs).2 = 0 then followsL xs x else (checkC xs).2
def appR (xs : List Pa) (x : Pa) : List Pa := if (checkC xs).2 = 0 then (if followsL xs x = 0 then xs ++ [x] else []) else []
def AppPost (w : World) (xs : List Pa) (x : Pa) (e : Ending) (w' : World) : Prop :=
  ∃ a n c, e = .returned (.tuple #[.slice a n c, .int .i64 (appE xs x)]) ∧ Rd Pa.vals 14 w' a n (appR xs x) ∧ n ≤ c ∧ Below w.heap.size w w'
theorem app_of {w w' : World} {xs : List Pa} {x : Pa} {e : Ending} (h : AppendC w xs x e w') : AppPost w xs x e w' := by
  obtain ⟨hB, ⟨h1, rfl⟩ | ⟨h1, h2, rfl⟩ | ⟨h1, h2, v, rfl, ho⟩⟩ := h
  · refine ⟨none, 0, 0, by unfold appE; rw [if_neg h1], ?_, Nat.le_refl _, hB⟩
    unfold appR; rw [if_neg h1]; exact Rd.empty _ _
  · refine ⟨none, 0, 0, by unfold appE; rw [if_pos h1], ?_, Nat.le_refl _, hB⟩
    unfold appR; rw [if_pos h1, if_neg h2]; exact Rd.empty _ _
  · have hl := followsL_len h2
    obtain ⟨a, c, rfl, hc, hr, _⟩ := Rd.of_own (n := xs.length + 1) ho Pa.vals_length (by decide) (by simp) (by unfold maxLen; omega)
    refine ⟨a, xs.length + 1, c, by unfold appE; rw [if_pos h1, h2], ?_, hc, hB⟩
    unfold appR; rw [if_pos h1, if_pos h2]; exact hr
end Go.Proofs.YtmghbbgnenpcaaaGreatDoor
