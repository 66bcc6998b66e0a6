/- Rows of records that a call owns, and how they read; no dump. -/
import Derived.Test.YtehplmeckfinoaaGreatDoorBase
import Derived.Deep.AppendLies
import Derived.Maps.AppendAt
set_option linter.unusedSimpArgs false
set_option linter.unusedVariables false
namespace Go.Proofs.YtehplmeckfinoaaGreatDoor
open Go.RowKit
section
variable {α : Type} {E : α → List Value} {k : Nat} {w w' : World} {a : Option Addr} {n : Nat} {xs : List α}
theorem flat_length (hk : ∀ x, (E x).length = k) (xs : List α) : (xs.flatMap E).length = xs.length * k := by
 induction xs with
 | nil => simp
 | cons x r ih => simp [hk, ih, Nat.succ_mul, Nat.add_comm]
theorem flat_at (hk : ∀ x, (E x).length = k) : ∀ (xs : List α) (i : Nat) (x : α) (j : Nat), xs[i]? = some x → j < k → (xs.flatMap E)[i * k + j]? = (E x)[j]?
 | [], i, x, j, h, _ => by simp at h
 | y :: r, 0, x, j, h, hj => by
   simp at h
   subst h
   rw [List.flatMap_cons, List.getElem?_append_left (by rw [hk]; omega)]
   simp
 | y :: r, i + 1, x, j, h, hj => by
   simp at h
   rw [List.flatMap_cons, List.getElem?_append_right (by rw [hk, Nat.succ_mul]; omega), hk, show (i + 1) * k + j - k = i * k + j from by rw [Nat.succ_mul]; omega]
   exact flat_at hk r i x j h hj
theorem flat_in (hk : ∀ x, (E x).length = k) {xs : List α} {j : Nat} {u : Value} (h : (xs.flatMap E)[j]? = some u) :
 ∃ i x, i < xs.length ∧ xs[i]? = some x ∧ j = i * k + j % k ∧ j % k < k ∧ (E x)[j % k]? = some u := by
 have hj : j < xs.length * k := by rw [← flat_length hk]; exact (List.getElem?_eq_some_iff.1 h).1
 have hk0 : 0 < k := Nat.pos_of_ne_zero fun e => by subst e; omega
 have hi : j / k < xs.length := (Nat.div_lt_iff_lt_mul hk0).2 hj
 have hm := Nat.mod_lt j hk0
 have hd : j = j / k * k + j % k := by rw [Nat.mul_comm]; exact (Nat.div_add_mod j k).symm
 refine ⟨j / k, xs[j / k], hi, List.getElem?_eq_getElem hi, hd, hm, ?_⟩
 rw [← flat_at hk xs (j / k) _ (j % k) (List.getElem?_eq_getElem hi) hm, ← hd]; exact h
theorem Rd.nil_of (h : Rd E k w none n xs) : n = 0 ∧ xs = [] := by
 have : n = 0 := Nat.eq_zero_of_not_pos fun hn => by
  obtain ⟨b, off, x, h1, _⟩ := h.read 0 hn
  cases h1
 exact ⟨this, List.eq_nil_of_length_eq_zero (by rw [h.len, this])⟩
theorem Rd.empty (a : Option Addr) (w : World) : Rd E k w a 0 ([] : List α) := ⟨rfl, Nat.zero_le _, fun i hi => absurd hi (by omega)⟩
theorem Rd.news {ad : Addr} (h : Rd E k w (some ad) n xs) (hk : ∀ x, (E x).length = k) : ∀ j u, (xs.flatMap E)[j]? = some u → w.cell? (ad.add j) = some u := by
 intro j u hj
 obtain ⟨i, x, hi, hx, hji, hm, hu⟩ := flat_in hk hj
 obtain ⟨b, off, x', ha, _, hx', hc⟩ := h.read i (by rw [← h.len]; exact hi)
 cases ha
 rw [hx] at hx'
 cases hx'
 rw [Addr.add_lit, hji, ← Nat.add_assoc, hc _ hm, hu]
theorem Rd.of_own {base : Nat} {e : TypeId} {v : Value} (h : w.ownsRow base e k v n (xs.flatMap E)) (hk : ∀ x, (E x).length = k) (hk0 : 0 < k) (hn : xs.length = n) (hm : n ≤ maxLen) :
 ∃ a cap, v = .slice a n cap ∧ n ≤ cap ∧ Rd E k w a n xs ∧ (∀ q, a = some q → base ≤ q.block ∧ q.block < w.heap.size) := by
 have h0 := h
 rcases h.2 with ⟨rfl, rfl⟩ | ⟨g, cap, cur, rfl, hb, hg, hc, _, hs, ht⟩
 · refine ⟨none, 0, rfl, Nat.le_refl _, ⟨hn, hm, fun i hi => absurd hi (by omega)⟩, fun q e => by cases e⟩
 · have hlt := (Array.getElem?_eq_some_iff.1 hg).1
   refine ⟨some ⟨g, 0, none⟩, cap, rfl, hc, ⟨hn, hm, fun i hi => ?_⟩, fun q e => by cases e; exact ⟨hb, hlt⟩⟩
   have hi' : i < xs.length := by omega
   refine ⟨g, 0, xs[i], rfl, hlt, List.getElem?_eq_getElem hi', fun j hj => ?_⟩
   have h1 := flat_at hk xs i xs[i] j (List.getElem?_eq_getElem hi') hj
   have hjl : j < (E xs[i]).length := by rw [hk]; exact hj
   rw [List.getElem?_eq_getElem hjl] at h1 ⊢
   have := h0.cells (g := g) rfl _ _ h1
   rw [Addr.add_lit] at this
   rw [← this]
   congr 2
   omega
end
theorem po_vals_length (p : Po) : p.vals.length = 8 := rfl
theorem du_vals_length (p : Du) : p.vals.length = 3 := rfl
theorem ca_vals_length (p : Ca) : p.vals.length = 3 := rfl
def ints (x : Int) : List Value := [.int .i64 x]
def accs (x : Int × Int) : List Value := [.int .i64 x.1, .int .i64 x.2]
theorem ints_length (x : Int) : (ints x).length = 1 := rfl
theorem accs_length (x : Int × Int) : (accs x).length = 2 := rfl
theorem po_one (xs : List Po) : ∀ u ∈ xs.flatMap Po.vals, u.oneCell' = true := by
 intro u hu
 obtain ⟨x, _, hx⟩ := List.mem_flatMap.1 hu
 simp only [Po.vals, List.mem_cons, List.not_mem_nil, or_false] at hx
 rcases hx with rfl | rfl | rfl | rfl | rfl | rfl | rfl | rfl <;> rfl
theorem du_one (xs : List Du) : ∀ u ∈ xs.flatMap Du.vals, u.oneCell' = true := by
 intro u hu
 obtain ⟨x, _, hx⟩ := List.mem_flatMap.1 hu
 simp only [Du.vals, List.mem_cons, List.not_mem_nil, or_false] at hx
 rcases hx with rfl | rfl | rfl <;> rfl
theorem accs_one (xs : List (Int × Int)) : ∀ u ∈ xs.flatMap accs, u.oneCell' = true := by
 intro u hu
 obtain ⟨x, _, hx⟩ := List.mem_flatMap.1 hu
 simp only [accs, List.mem_cons, List.not_mem_nil, or_false] at hx
 rcases hx with rfl | rfl <;> rfl
theorem ints_one (xs : List Int) : ∀ u ∈ xs.flatMap ints, u.oneCell' = true := by
 intro u hu
 obtain ⟨x, _, hx⟩ := List.mem_flatMap.1 hu
 simp only [ints, List.mem_cons, List.not_mem_nil, or_false] at hx
 subst hx; rfl
end Go.Proofs.YtehplmeckfinoaaGreatDoor
