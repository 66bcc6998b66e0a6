/- Plain Lean: the reference's way to cut a line and to read its numbers. -/
import Derived.Test.YtjleembfocghlaaGreatDoorLine
set_option linter.unusedSimpArgs false
set_option linter.unusedVariables false
namespace Go.Proofs.YtjleembfocghlaaGreatDoor

/-- what the split loop has cut off behind k bytes -/
def cutInv (l : List UInt8) (k f : Nat) (ws : List (List UInt8)) : Prop :=
  f ≤ k ∧ ws.length ≤ k ∧ ((k ≤ l.length ∧ ws ++ cutL ((l.take k).drop f) (l.drop k) = spl l) ∨ (k = l.length + 1 ∧ ws = spl l))
theorem cutInv_0 (l : List UInt8) : cutInv l 0 0 [] := ⟨Nat.le_refl _, by simp, .inl ⟨Nat.zero_le _, by simp [cut_is]⟩⟩
theorem cutInv_end {l : List UInt8} {k f : Nat} {ws : List (List UInt8)} (h : cutInv l k f ws) (hk : k = l.length) : cutInv l (k + 1) (k + 1) (ws ++ [(l.take k).drop f]) := by
  obtain ⟨h1, h2, h3⟩ := h
  refine ⟨Nat.le_refl _, by simp; omega, .inr ⟨by omega, ?_⟩⟩
  rcases h3 with ⟨_, h3⟩ | ⟨h4, _⟩
  · rw [← h3, List.drop_eq_nil_of_le (by omega : l.length ≤ k), cutL]
  · omega
theorem cutDrop {l : List UInt8} {k : Nat} {c : UInt8} (h : l[k]? = some c) : l.drop k = c :: l.drop (k + 1) := by
  obtain ⟨h1, h2⟩ := List.getElem?_eq_some_iff.1 h
  rw [List.drop_eq_getElem_cons h1, h2]
theorem cutInv_sp {l : List UInt8} {k f : Nat} {ws : List (List UInt8)} (h : cutInv l k f ws) (hk : l[k]? = some 32) : cutInv l (k + 1) (k + 1) (ws ++ [(l.take k).drop f]) := by
  have hl := (List.getElem?_eq_some_iff.1 hk).1
  obtain ⟨h1, h2, h3⟩ := h
  refine ⟨Nat.le_refl _, by simp; omega, .inl ⟨by omega, ?_⟩⟩
  rcases h3 with ⟨_, h3⟩ | ⟨h4, _⟩
  · rw [← h3, cutDrop hk, cutL, if_pos rfl, List.drop_eq_nil_of_le (by rw [List.length_take]; omega : (l.take (k + 1)).length ≤ k + 1)]
    simp
  · omega
theorem cutInv_on {l : List UInt8} {k f : Nat} {ws : List (List UInt8)} {c : UInt8} (h : cutInv l k f ws) (hk : l[k]? = some c) (hc : ¬ c = 32) : cutInv l (k + 1) f ws := by
  have hl := (List.getElem?_eq_some_iff.1 hk).1
  obtain ⟨h1, h2, h3⟩ := h
  refine ⟨by omega, by omega, .inl ⟨by omega, ?_⟩⟩
  rcases h3 with ⟨_, h3⟩ | ⟨h4, _⟩
  · rw [← h3, cutDrop hk, cutL, if_neg hc, take_succ_snoc hk, List.drop_append_of_le_length (by rw [List.length_take]; omega)]
  · omega
theorem cutInv_done {l : List UInt8} {k f : Nat} {ws : List (List UInt8)} (h : cutInv l k f ws) (hk : ¬ k ≤ l.length) : ws = spl l := by
  rcases h.2.2 with ⟨h3, _⟩ | ⟨_, h4⟩
  · exact absurd h3 hk
  · exact h4
theorem cutInv_le {l : List UInt8} {k f : Nat} {ws : List (List UInt8)} (h : cutInv l k f ws) : k ≤ l.length + 1 := by
  rcases h.2.2 with ⟨h3, _⟩ | ⟨h4, _⟩ <;> omega

/-- the words that are numbers, of the first k -/
def nums (ws : List (List UInt8)) (k : Nat) : List (List UInt8) := (ws.take k).eraseIdx 2
theorem nums_two {ws : List (List UInt8)} {x : List UInt8} (hx : ws[2]? = some x) : nums ws 3 = nums ws 2 := by
  unfold nums
  have hl := (List.getElem?_eq_some_iff.1 hx).1
  have h2 : (ws.take 2).length = 2 := by rw [List.length_take]; omega
  rw [show 3 = 2 + 1 from rfl, take_succ_snoc hx, List.eraseIdx_append_of_length_le (by omega), h2, List.eraseIdx_of_length_le (l := ws.take 2) (by omega)]
  simp
theorem nums_on {ws : List (List UInt8)} {k : Nat} {x : List UInt8} (hk : ¬ k = 2) (hx : ws[k]? = some x) : nums ws (k + 1) = nums ws k ++ [x] := by
  unfold nums
  have hl := (List.getElem?_eq_some_iff.1 hx).1
  rw [take_succ_snoc hx]
  by_cases h2 : k < 2
  · rw [List.eraseIdx_of_length_le (by simp; omega), List.eraseIdx_of_length_le (by simp; omega)]
  · rw [List.eraseIdx_append_of_lt_length (by rw [List.length_take]; omega)]
theorem nums_len (ws : List (List UInt8)) (k : Nat) : (nums ws k).length ≤ k := by
  unfold nums
  exact Nat.le_trans (List.length_eraseIdx_le _ _) (by rw [List.length_take]; omega)
theorem paB_bad {ws : List (List UInt8)} {k : Nat} {x : List UInt8} (hk : ¬ k = 2) (hx : ws[k]? = some x) (h : ¬ okW x = true) : paB ws = none := by
  have hf : okW x = false := by simpa using h
  unfold paB
  split
  · rename_i a b c d e f g
    have h8 : k < 7 := by have := (List.getElem?_eq_some_iff.1 hx).1; simpa using this
    have hc : k = 0 ∨ k = 1 ∨ k = 3 ∨ k = 4 ∨ k = 5 ∨ k = 6 := by omega
    rcases hc with rfl | rfl | rfl | rfl | rfl | rfl <;> (simp only [List.getElem?_cons_zero, List.getElem?_cons_succ, Option.some.injEq] at hx; subst hx; simp [hf])
  · rename_i a b c d e f g z
    have h8 : k < 8 := by have := (List.getElem?_eq_some_iff.1 hx).1; simpa using this
    have hc : k = 0 ∨ k = 1 ∨ k = 3 ∨ k = 4 ∨ k = 5 ∨ k = 6 ∨ k = 7 := by omega
    rcases hc with rfl | rfl | rfl | rfl | rfl | rfl | rfl <;> (simp only [List.getElem?_cons_zero, List.getElem?_cons_succ, Option.some.injEq] at hx; subst hx; simp [hf])
  · rfl
theorem paB_none (ws : List (List UInt8)) (h : ¬ (ws.length = 7 ∨ ws.length = 8)) : paB ws = none := by
  unfold paB
  split
  · simp at h
  · simp at h
  · rfl
/-- digits only -/
def digW (x : List UInt8) : Prop := ∀ c ∈ x, 48 ≤ c.toNat ∧ c.toNat ≤ 57
theorem okW_of {x : List UInt8} (h1 : 1 ≤ x.length) (h2 : x.length ≤ 10) (h3 : digW x) : okW x = true := by
  simp only [okW, h1, h2, decide_true, Bool.true_and, List.all_eq_true, decide_eq_true_eq]
  exact h3
theorem okW_is {x : List UInt8} (h : okW x = true) : 1 ≤ x.length ∧ x.length ≤ 10 ∧ digW x := by
  simp only [okW, Bool.and_eq_true, decide_eq_true_eq, List.all_eq_true] at h
  exact ⟨h.1.1, h.1.2, h.2⟩
theorem digW_not {x : List UInt8} {j : Nat} {c : UInt8} (hc : x[j]? = some c) (h : c.toNat < 48 ∨ 57 < c.toNat) : ¬ okW x = true := fun e => by
  have := (okW_is e).2.2 c (List.mem_of_getElem? hc)
  omega
theorem valL_snoc (x : List UInt8) (c : UInt8) : valL (x ++ [c]) = 10 * valL x + ((c.toNat : Int) - 48) := by simp [valL, List.foldl_append]
theorem valL_bd (n : Nat) : ∀ x : List UInt8, x.length = n → digW x → 0 ≤ valL x ∧ valL x < (10 : Int) ^ n := by
  induction n with
  | zero => intro x hx _; obtain rfl : x = [] := List.eq_nil_of_length_eq_zero hx; simp [valL]
  | succ n ih =>
    intro x hx hd
    have hne : x ≠ [] := fun e => by subst e; simp at hx
    have e := List.dropLast_concat_getLast hne
    have h1 := ih x.dropLast (by rw [List.length_dropLast]; omega) (fun c hc => hd c (List.dropLast_subset _ hc))
    have h2 := hd (x.getLast hne) (List.getLast_mem hne)
    rw [← e, valL_snoc, Int.pow_succ]
    omega
theorem valL_max {x : List UInt8} (h : x.length ≤ 10) (hd : digW x) : 0 ≤ valL x ∧ valL x ≤ 9999999999 := by
  have h1 := valL_bd x.length x rfl hd
  have h2 : x.length = 0 ∨ x.length = 1 ∨ x.length = 2 ∨ x.length = 3 ∨ x.length = 4 ∨ x.length = 5 ∨ x.length = 6 ∨ x.length = 7 ∨ x.length = 8 ∨ x.length = 9 ∨ x.length = 10 := by omega
  refine ⟨h1.1, ?_⟩
  have h3 := h1.2
  rcases h2 with e | e | e | e | e | e | e | e | e | e | e <;> rw [e] at h3 <;> simp at h3 <;> omega
theorem dig_take {x : List UInt8} {j : Nat} {c : UInt8} (hd : digW (x.take j)) (hc : x[j]? = some c) (h : ¬ (c.toNat < 48 ∨ 57 < c.toNat)) : digW (x.take (j + 1)) := by
  rw [take_succ_snoc hc]
  intro d hd'
  rcases List.mem_append.1 hd' with h1 | h1
  · exact hd d h1
  · rw [List.mem_singleton] at h1; subst h1; omega
end Go.Proofs.YtjleembfocghlaaGreatDoor
