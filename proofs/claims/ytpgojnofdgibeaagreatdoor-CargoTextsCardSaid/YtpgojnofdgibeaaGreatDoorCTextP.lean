/- The lines of papers: what is written is read; the plain law (no dump). -/
import Derived.Test.YtpgojnofdgibeaaGreatDoorCRead
set_option linter.unusedSimpArgs false
set_option linter.unusedVariables false
namespace Go.Proofs.YtpgojnofdgibeaaGreatDoor
open Go.RowKit

theorem spl_join : ∀ (ws : List (List UInt8)), ws ≠ [] → (∀ x ∈ ws, 32 ∉ x) → spl (Lib.join ws [32]) = ws
  | [], h, _ => absurd rfl h
  | [x], _, h => by rw [Lib.join_one]; exact spl_no x (h x (by simp))
  | x :: y :: ws, _, h => by
    have ih := spl_join (y :: ws) (by simp) (fun z hz => h z (List.mem_cons_of_mem _ hz))
    have e : Lib.join (x :: y :: ws) [32] = x ++ 32 :: Lib.join (y :: ws) [32] := by
      simp [Lib.join, List.intercalate]
    rw [e, spl_sp _ _ (h x (by simp)), ih]
theorem dig_mem (n : Nat) : ∀ c ∈ Lib.decDigits n, 48 ≤ c.toNat ∧ c.toNat ≤ 57 := by
  induction n using Nat.strongRecOn with
  | ind n ih =>
    by_cases h : n < 10
    · rw [Lib.decDigits_one h]
      intro c hc
      rw [List.mem_singleton] at hc
      subst hc
      rw [UInt8.toNat_ofNat']
      omega
    · rw [decDigits_step h, Lib.decDigits_one (show n % 10 < 10 by omega)]
      intro c hc
      rcases List.mem_append.1 hc with h1 | h1
      · exact ih (n / 10) (by omega) c h1
      · rw [List.mem_singleton] at h1
        subst h1
        rw [UInt8.toNat_ofNat']
        omega
theorem dig_nosp (n : Int) : (32 : UInt8) ∉ dig n := fun h => by
  have := (dig_mem _ _ h).1
  simp at this
theorem dig_pos (n : Int) : 1 ≤ (dig n).length := by
  unfold dig
  by_cases h : n.toNat < 10
  · rw [Lib.decDigits_one h]; simp
  · rw [decDigits_step h, Lib.decDigits_one (show n.toNat % 10 < 10 by omega)]; simp
/-- a row of digits' value -/
def valL (x : List UInt8) : Int := x.foldl (fun a c => 10 * a + ((c.toNat : Int) - 48)) 0
theorem val_dig : ∀ n : Nat, valL (Lib.decDigits n) = (n : Int) := by
  intro n
  induction n using Nat.strongRecOn with
  | ind n ih =>
    by_cases h : n < 10
    · rw [Lib.decDigits_one h]
      simp only [valL, List.foldl_cons, List.foldl_nil, UInt8.toNat_ofNat']
      omega
    · have h1 := ih (n / 10) (by omega)
      rw [decDigits_step h, Lib.decDigits_one (show n % 10 < 10 by omega)]
      unfold valL at h1 ⊢
      rw [List.foldl_append, h1]
      simp only [List.foldl_cons, List.foldl_nil, UInt8.toNat_ofNat']
      omega
theorem val_of {n : Int} (h : 0 ≤ n) : valL (dig n) = n := by unfold dig; rw [val_dig]; omega
theorem parse_app (a : List UInt8) : ∀ (acc : Nat) (b : List UInt8) (u : Nat), Lib.parseUint10 acc a = .ok u → Lib.parseUint10 acc (a ++ b) = Lib.parseUint10 u b := by
  induction a with
  | nil => intro acc b u h; simp only [Lib.parseUint10, Lib.NumEnd.ok.injEq] at h; subst h; rfl
  | cons c a ih =>
    intro acc b u h
    simp only [Lib.parseUint10] at h
    simp only [List.cons_append, Lib.parseUint10]
    split at h
    · rename_i h1
      rw [if_pos h1]
      split at h
      · cases h
      · rename_i h2
        rw [if_neg h2]
        split at h
        · cases h
        · rename_i h3
          rw [if_neg h3]
          exact ih _ b u h
    · cases h
theorem parse_dec : ∀ n : Nat, n ≤ 1000000000000 → Lib.parseUint10 0 (Lib.decDigits n) = .ok n := by
  intro n
  induction n using Nat.strongRecOn with
  | ind n ih =>
    intro hn
    have last : ∀ (m d : Nat), m ≤ 1000000000000 → d < 10 → Lib.parseUint10 m [UInt8.ofNat (48 + d)] = .ok (m * 10 + d) := by
      intro m d hm hd
      have e : (UInt8.ofNat (48 + d)).toNat = 48 + d := by rw [UInt8.toNat_ofNat']; omega
      simp only [Lib.parseUint10, e]
      rw [if_pos (by omega), if_neg (by omega), if_neg (by omega)]
      congr 1
      omega
    by_cases h : n < 10
    · rw [Lib.decDigits_one h, last 0 n (by omega) h]
      simp
    · rw [decDigits_step h, parse_app _ _ _ _ (ih (n / 10) (by omega) (by omega)), Lib.decDigits_one (show n % 10 < 10 by omega), last _ _ (by omega) (by omega)]
      congr 1
      omega
theorem numW_dig {n : Int} (h0 : 0 ≤ n) (h1 : n ≤ 1000000000000) : numW (dig n) = some n := by
  have hp := parse_dec n.toNat (by omega)
  have hl := dig_pos n
  have hm := dig_mem n.toNat
  unfold dig at hl ⊢
  cases hd : Lib.decDigits n.toNat with
  | nil => rw [hd] at hl; simp at hl
  | cons c r =>
    rw [hd] at hp hm
    have hc := hm c (by simp)
    have e : Lib.atoiAll (c :: r) = .ok n := by
      rw [Lib.atoiAll_plain c r (by omega) (by omega)]
      unfold Lib.parseMag
      rw [if_neg (by simp), hp]
      simp only [Lib.signless]
      rw [if_neg (by omega)]
      congr 1
      omega
    unfold numW
    rw [e]
/-- the reference's number of a word -/
def digC (c : UInt8) : Bool := decide (48 ≤ c.toNat ∧ c.toNat ≤ 57)
def numR (x : List UInt8) : Int := if x.length ≤ 13 ∧ x.all digC = true then valL x else 0
theorem numR_dig {n : Int} (h0 : 0 ≤ n) (h1 : n ≤ 1000000000000) : numR (dig n) = n := by
  unfold numR
  rw [if_pos ⟨dig_le h1, List.all_eq_true.2 fun c hc => by unfold digC; exact decide_eq_true (dig_mem _ c hc)⟩]
  exact val_of h0
/-- the words of a paper -/
def wordsP (x : Pa) : List (List UInt8) := [dig x.id, dig x.known, wordP x.kind] ++ (if x.kind = 1 then [dig x.loss, dig x.pack, dig x.inn, x.mark, x.goods, dig x.low, dig x.high, dig x.pieces, dig x.owner] else if x.kind = 2 then [dig x.loss, dig x.pack, dig x.count, dig x.low, dig x.high] else [dig x.of])
theorem join_words (x : Pa) : Lib.join (wordsP x) [32] = writeP x := by
  unfold wordsP writeP headP tailP numL
  by_cases h1 : x.kind = 1
  · rw [if_pos h1, if_pos h1]; simp [Lib.join, List.intercalate]
  · rw [if_neg h1, if_neg h1]
    by_cases h2 : x.kind = 2
    · rw [if_pos h2, if_pos h2]; simp [Lib.join, List.intercalate]
    · rw [if_neg h2, if_neg h2]; simp [Lib.join, List.intercalate]
theorem mark_nosp {m : List UInt8} (h : isMark m = true) : (32 : UInt8) ∉ m := fun hm => by
  unfold isMark at h
  simp only [Bool.and_eq_true] at h
  have := List.all_eq_true.1 h.1 32 hm
  revert this; decide
theorem name_nosp {m : List UInt8} (h : isName m = true) : (32 : UInt8) ∉ m := fun hm => by
  unfold isName at h
  simp only [Bool.and_eq_true] at h
  have := List.all_eq_true.1 h.2 32 hm
  revert this; decide
theorem word_nosp (k : Int) : (32 : UInt8) ∉ wordP k := by unfold wordP; (repeat' split) <;> decide
theorem words_nosp {x : Pa} (h : formedP x) : ∀ y ∈ wordsP x, (32 : UInt8) ∉ y := by
  intro y hy
  unfold wordsP at hy
  rw [List.mem_append] at hy
  rcases hy with hy | hy
  · simp only [List.mem_cons, List.not_mem_nil, or_false] at hy
    rcases hy with rfl | rfl | rfl
    · exact dig_nosp _
    · exact dig_nosp _
    · exact word_nosp _
  · split at hy
    · rename_i hk
      have hm : isMark x.mark = true ∧ isName x.goods = true := by
        unfold formedP at h
        obtain ⟨_, _, h3 | h3 | h3⟩ := h
        · exact ⟨h3.2.2.2.2.2.1, h3.2.2.2.2.2.2.1⟩
        · omega
        · omega
      simp only [List.mem_cons, List.not_mem_nil, or_false] at hy
      rcases hy with rfl | rfl | rfl | rfl | rfl | rfl | rfl | rfl | rfl
      iterate 3 exact dig_nosp _
      · exact mark_nosp hm.1
      · exact name_nosp hm.2
      iterate 4 exact dig_nosp _
    · split at hy
      · simp only [List.mem_cons, List.not_mem_nil, or_false] at hy
        rcases hy with rfl | rfl | rfl | rfl | rfl <;> exact dig_nosp _
      · simp only [List.mem_cons, List.not_mem_nil, or_false] at hy
        subst hy; exact dig_nosp _
theorem spl_write {x : Pa} (h : formedP x) : spl (writeP x) = wordsP x := by
  rw [← join_words, spl_join _ (by unfold wordsP; simp) (words_nosp h)]
/-- the reference's reading of the words -/
def paR (ws : List (List UInt8)) : Option Pa := match ws with
  | [a, b, _, d] => some ⟨numR a, numR b, 3, 0, 0, 0, [], [], 0, 0, 0, 0, 0, numR d⟩
  | [a, b, _, d, e, f, g, h] => some ⟨numR a, numR b, 2, numR d, numR e, 0, [], [], numR g, numR h, 0, 0, numR f, 0⟩
  | [a, b, _, d, e, f, m, n, i, j, k, o] => some ⟨numR a, numR b, 1, numR d, numR e, numR f, m, n, numR i, numR j, numR k, numR o, 0, 0⟩
  | _ => none
def ansP (q : Option Pa) (l : List UInt8) : Option Pa := match q with
  | some x => if formedP x ∧ writeP x = l then some x else none
  | none => none
def readR (l : List UInt8) : Option Pa := ansP (paR (spl l)) l
theorem readV_is (l : List UInt8) : readV l = ansP (parseW (spl l)) l := rfl
theorem ans_some {q : Option Pa} {l : List UInt8} {x : Pa} (h : ansP q l = some x) : formedP x ∧ writeP x = l := by
  unfold ansP at h
  split at h
  · split at h
    · rename_i h1
      have := Option.some.inj h
      subst this
      exact h1
    · cases h
  · cases h
theorem ans_write (f : List (List UInt8) → Option Pa) (hf : ∀ p, formedP p → f (wordsP p) = some p) {x : Pa} (h : formedP x) : ansP (f (spl (writeP x))) (writeP x) = some x := by
  rw [spl_write h, hf x h]; exact if_pos ⟨h, rfl⟩
theorem ans_eq (f g : List (List UInt8) → Option Pa) (hf : ∀ p, formedP p → f (wordsP p) = some p) (hg : ∀ p, formedP p → g (wordsP p) = some p) (l : List UInt8) : ansP (f (spl l)) l = ansP (g (spl l)) l := by
  cases e : ansP (f (spl l)) l with
  | some x =>
    obtain ⟨h1, h2⟩ := ans_some e
    subst h2
    exact (ans_write g hg h1).symm
  | none =>
    cases e2 : ansP (g (spl l)) l with
    | none => rfl
    | some x =>
      obtain ⟨h1, h2⟩ := ans_some e2
      subst h2
      rw [ans_write f hf h1] at e
      cases e
theorem formed_cases {x : Pa} (h : formedP x) : ∃ a b, x.id = a ∧ x.known = b ∧ (0 ≤ a ∧ a ≤ 1000000 ∧ 0 ≤ b ∧ b ≤ 1000000) := by
  unfold formedP at h; exact ⟨_, _, rfl, rfl, by omega⟩
theorem paR_words (x : Pa) (h : formedP x) : paR (wordsP x) = some x := by
  unfold formedP at h
  obtain ⟨i, kn, k, lo, pk, inn, m, g, l, hi, pc, ow, ct, o⟩ := x
  simp only at h
  obtain ⟨h1, h2, h3 | h3 | h3⟩ := h
  · obtain ⟨rfl, a1, a2, a3, a4, a5, a6, a7, a8, a9, rfl, rfl⟩ := h3
    simp only [wordsP, if_pos, List.cons_append, List.nil_append, paR]
    rw [numR_dig (by omega) (by omega), numR_dig (by omega) (by omega), numR_dig (by omega) (by omega), numR_dig (by omega) (by omega), numR_dig (by omega) (by omega), numR_dig (by omega) (by omega), numR_dig (by omega) (by omega), numR_dig (by omega) (by omega), numR_dig (by omega) (by omega)]
  · obtain ⟨rfl, a1, a2, a3, a4, rfl, rfl, rfl, rfl, rfl, rfl⟩ := h3
    simp only [wordsP, if_pos, show ¬ (2 : Int) = 1 by omega, if_false, List.cons_append, List.nil_append, paR]
    rw [numR_dig (by omega) (by omega), numR_dig (by omega) (by omega), numR_dig (by omega) (by omega), numR_dig (by omega) (by omega), numR_dig (by omega) (by omega), numR_dig (by omega) (by omega), numR_dig (by omega) (by omega)]
  · obtain ⟨rfl, a1, rfl, rfl, rfl, rfl, rfl, rfl, rfl, rfl, rfl, rfl⟩ := h3
    simp only [wordsP, show ¬ (3 : Int) = 1 by omega, show ¬ (3 : Int) = 2 by omega, if_false, List.cons_append, List.nil_append, paR]
    rw [numR_dig (by omega) (by omega), numR_dig (by omega) (by omega), numR_dig (by omega) (by omega)]
theorem parseW_words (x : Pa) (h : formedP x) : parseW (wordsP x) = some x := by
  unfold formedP at h
  obtain ⟨i, kn, k, lo, pk, inn, m, g, l, hi, pc, ow, ct, o⟩ := x
  simp only at h
  obtain ⟨h1, h2, h3 | h3 | h3⟩ := h
  · obtain ⟨rfl, a1, a2, a3, a4, a5, a6, a7, a8, a9, rfl, rfl⟩ := h3
    have hk : kindP (wordP 1) = 1 := by decide
    simp only [wordsP, if_pos, List.cons_append, List.nil_append, parseW]
    rw [bindN_some (numW_dig (n := i) (by omega) (by omega)), bindN_some (numW_dig (n := kn) (by omega) (by omega)), bindS_some, if_pos hk]
    unfold packageP
    rw [bindN_some (numW_dig (n := lo) (by omega) (by omega)), bindN_some (numW_dig (n := pk) (by omega) (by omega)), bindN_some (numW_dig (n := inn) (by omega) (by omega)), bindS_some, bindS_some,
      bindN_some (numW_dig (n := l) (by omega) (by omega)), bindN_some (numW_dig (n := hi) (by omega) (by omega)), bindN_some (numW_dig (n := pc) (by omega) (by omega)), bindN_some (numW_dig (n := ow) (by omega) (by omega))]
  · obtain ⟨rfl, a1, a2, a3, a4, rfl, rfl, rfl, rfl, rfl, rfl⟩ := h3
    have hk : kindP (wordP 2) = 2 := by decide
    simp only [wordsP, if_pos, show ¬ (2 : Int) = 1 by omega, if_false, List.cons_append, List.nil_append, parseW]
    rw [bindN_some (numW_dig (n := i) (by omega) (by omega)), bindN_some (numW_dig (n := kn) (by omega) (by omega)), bindS_some, if_neg (by rw [hk]; decide), if_pos hk]
    unfold totalP
    rw [bindN_some (numW_dig (n := lo) (by omega) (by omega)), bindN_some (numW_dig (n := pk) (by omega) (by omega)), bindN_some (numW_dig (n := ct) (by omega) (by omega)),
      bindN_some (numW_dig (n := l) (by omega) (by omega)), bindN_some (numW_dig (n := hi) (by omega) (by omega))]
  · obtain ⟨rfl, a1, rfl, rfl, rfl, rfl, rfl, rfl, rfl, rfl, rfl, rfl⟩ := h3
    have hk : kindP (wordP 3) = 3 := by decide
    simp only [wordsP, show ¬ (3 : Int) = 1 by omega, show ¬ (3 : Int) = 2 by omega, if_false, List.cons_append, List.nil_append, parseW]
    rw [bindN_some (numW_dig (n := i) (by omega) (by omega)), bindN_some (numW_dig (n := kn) (by omega) (by omega)), bindS_some, if_neg (by rw [hk]; decide), if_neg (by rw [hk]; decide), if_pos hk]
    unfold voidP
    rw [bindN_some (numW_dig (n := o) (by omega) (by omega))]
theorem readR_eq (l : List UInt8) : readR l = readV l := ans_eq paR parseW paR_words parseW_words l
theorem read_write {x : Pa} (h : formedP x) : readV (writeP x) = some x := ans_write parseW parseW_words h
theorem write_read {l : List UInt8} {x : Pa} (h : readV l = some x) : formedP x ∧ writeP x = l := ans_some (by rw [readV_is] at h; exact h)
end Go.Proofs.YtpgojnofdgibeaaGreatDoor
