/- A posting's line, in plain Lean: its words, and what reading them gives. -/
import Derived.Test.YtjleembfocghlaaGreatDoorRWrite
import Derived.Lib.SplitLaws
import Derived.Lib.AtoiAllCases
import Derived.Lib.SlicesS
import Derived.Lib.Join
set_option linter.unusedSimpArgs false
set_option linter.unusedVariables false
namespace Go.Proofs.YtjleembfocghlaaGreatDoor

/-- the words of the kinds -/
def kindW (k : Int) : List UInt8 := if k = 1 then [115, 97, 108, 101] else if k = 2 then [112, 97, 121] else [98, 97, 99, 107]
def wordsL (p : Po) : List (List UInt8) := [dig p.id, dig p.hour, kindW p.kind] ++ (if p.kind = 1 then [] else [dig p.party]) ++ [dig p.parcel, dig p.amount, dig p.reason, dig p.known]
theorem words_line (p : Po) (hk : p.kind = 1 ∨ p.kind = 2 ∨ p.kind = 3) : Lib.join (wordsL p) [32] = lineL p := by
  rcases hk with h | h | h
  · simp [wordsL, lineL, h, Lib.join, kindW, headL, tailL]
  · simp [wordsL, lineL, h, Lib.join, kindW, headL, tailL]
  · simp [wordsL, lineL, h, Lib.join, kindW, headL, tailL]
theorem words_len (p : Po) : (wordsL p).length = if p.kind = 1 then 7 else 8 := by
  unfold wordsL; split <;> rfl

theorem index_sp : ∀ (x r : List UInt8), 32 ∉ x → Lib.index (x ++ 32 :: r) [32] = (x.length : Int)
  | [], r, _ => by simp [Lib.index, List.isPrefixOf]
  | b :: x, r, h => by
    have hb : ¬ (32 : UInt8) = b := fun e => h (by simp [e])
    have ih := index_sp x r (fun e => h (List.mem_cons_of_mem _ e))
    rw [List.cons_append, Lib.index]
    have hp : ([32] : List UInt8).isPrefixOf (b :: (x ++ 32 :: r)) = false := by simp [List.isPrefixOf, hb]
    rw [hp, ih]
    have h1 : ((x.length : Int) == -1) = false := by simp
    simp [h1]
theorem index_no : ∀ (x : List UInt8), 32 ∉ x → Lib.index x [32] = -1
  | [], _ => by simp [Lib.index]
  | b :: x, h => by
    have hb : ¬ (32 : UInt8) = b := fun e => h (by simp [e])
    have ih := index_no x (fun e => h (List.mem_cons_of_mem _ e))
    rw [Lib.index]
    have hp : ([32] : List UInt8).isPrefixOf (b :: x) = false := by simp [List.isPrefixOf, hb]
    rw [hp, ih]
    simp
def spl (l : List UInt8) : List (List UInt8) := Lib.split l [32]
theorem spl_sp (x r : List UInt8) (h : 32 ∉ x) : spl (x ++ 32 :: r) = x :: spl r := by
  unfold spl Lib.split
  have hix := index_sp x r h
  have hd : (x ++ 32 :: r).drop (x.length + 1) = r := by
    rw [← List.drop_drop, List.drop_left]; rfl
  have hc : Lib.count (x ++ 32 :: r) [32] = Lib.count r [32] + 1 := by
    rw [Lib.count_hit (by simp) hix]
    simp only [List.length_cons, List.length_nil, Nat.zero_add, hd]
    omega
  rw [hc, Lib.splitK, hix]
  have h1 : ((x.length : Int) == -1) = false := by simp
  simp only [h1, Bool.false_eq_true, if_false, Int.toNat_natCast, Nat.add_zero, List.length_cons, List.length_nil, Nat.zero_add, hd]
  simp
theorem spl_no (x : List UInt8) (h : 32 ∉ x) : spl x = [x] := by
  unfold spl Lib.split
  rw [Lib.count_miss (index_no x h)]
  rfl
theorem spl_join : ∀ (ws : List (List UInt8)), ws ≠ [] → (∀ x ∈ ws, 32 ∉ x) → spl (Lib.join ws [32]) = ws
  | [], h, _ => absurd rfl h
  | [x], _, h => by rw [Lib.join_one]; exact spl_no x (h x (by simp))
  | x :: y :: ws, _, h => by
    have ih := spl_join (y :: ws) (by simp) (fun z hz => h z (List.mem_cons_of_mem _ hz))
    have e : Lib.join (x :: y :: ws) [32] = x ++ 32 :: Lib.join (y :: ws) [32] := by
      simp [Lib.join, List.intercalate]
    rw [e, spl_sp _ _ (h x (by simp)), ih]

/-- the words by one walk along the line -/
def cutL : List UInt8 → List UInt8 → List (List UInt8)
  | acc, [] => [acc]
  | acc, c :: r => if c = 32 then acc :: cutL [] r else cutL (acc ++ [c]) r
theorem cut_spl : ∀ (r acc : List UInt8), 32 ∉ acc → cutL acc r = spl (acc ++ r)
  | [], acc, h => by rw [cutL, List.append_nil, spl_no acc h]
  | c :: r, acc, h => by
    rw [cutL]
    split
    · rename_i hc
      subst hc
      rw [spl_sp acc r h, cut_spl r [] (by simp)]
      rfl
    · rename_i hc
      rw [cut_spl r (acc ++ [c]) (by
        intro e
        rcases List.mem_append.1 e with h1 | h1
        · exact h h1
        · simp at h1; exact hc h1.symm), List.append_assoc]
      rfl
theorem cut_is (l : List UInt8) : cutL [] l = spl l := cut_spl l [] (by simp)

theorem dig_mem (n : Nat) : ∀ c ∈ Lib.decDigits n, 48 ≤ c.toNat ∧ c.toNat ≤ 57 := by
  induction n using Nat.strongRecOn with
  | ind n ih =>
    by_cases h : n < 10
    · rw [Lib.decDigits_one h]
      intro c hc
      rw [List.mem_singleton] at hc
      subst hc
      rw [UInt8.toNat_ofNat']
      omega
    · rw [decDigits_step h, Lib.decDigits_one (show n % 10 < 10 by omega)]
      intro c hc
      rcases List.mem_append.1 hc with h1 | h1
      · exact ih (n / 10) (by omega) c h1
      · rw [List.mem_singleton] at h1
        subst h1
        rw [UInt8.toNat_ofNat']
        omega
theorem dig_nosp (n : Int) : (32 : UInt8) ∉ dig n := fun h => by
  have := (dig_mem _ _ h).1
  simp at this
theorem dig_pos (n : Int) : 1 ≤ (dig n).length := by
  unfold dig
  by_cases h : n.toNat < 10
  · rw [Lib.decDigits_one h]; simp
  · rw [decDigits_step h, Lib.decDigits_one (show n.toNat % 10 < 10 by omega)]; simp
theorem kind_nosp (k : Int) : (32 : UInt8) ∉ kindW k := by unfold kindW; (repeat' split) <;> decide
theorem words_nosp (p : Po) : ∀ x ∈ wordsL p, (32 : UInt8) ∉ x := by
  intro x hx
  unfold wordsL at hx
  rw [List.mem_append, List.mem_append] at hx
  rcases hx with (hx | hx) | hx
  · simp only [List.mem_cons, List.not_mem_nil, or_false] at hx
    rcases hx with rfl | rfl | rfl
    · exact dig_nosp _
    · exact dig_nosp _
    · exact kind_nosp _
  · split at hx
    · cases hx
    · simp only [List.mem_cons, List.not_mem_nil, or_false] at hx
      subst hx; exact dig_nosp _
  · simp only [List.mem_cons, List.not_mem_nil, or_false] at hx
    rcases hx with rfl | rfl | rfl | rfl <;> exact dig_nosp _
theorem ok_kind {p : Po} (h : okPo p) : p.kind = 1 ∨ p.kind = 2 ∨ p.kind = 3 := by unfold okPo at h; omega
theorem spl_line {p : Po} (h : okPo p) : spl (lineL p) = wordsL p := by
  rw [← words_line p (ok_kind h), spl_join _ (by unfold wordsL; simp) (words_nosp p)]

/-- a row of digits' value -/
def valL (x : List UInt8) : Int := x.foldl (fun a c => 10 * a + ((c.toNat : Int) - 48)) 0
theorem val_dig : ∀ n : Nat, valL (Lib.decDigits n) = (n : Int) := by
  intro n
  induction n using Nat.strongRecOn with
  | ind n ih =>
    by_cases h : n < 10
    · rw [Lib.decDigits_one h]
      simp only [valL, List.foldl_cons, List.foldl_nil, UInt8.toNat_ofNat']
      omega
    · have h1 := ih (n / 10) (by omega)
      rw [decDigits_step h, Lib.decDigits_one (show n % 10 < 10 by omega)]
      unfold valL at h1 ⊢
      rw [List.foldl_append, h1]
      simp only [List.foldl_cons, List.foldl_nil, UInt8.toNat_ofNat']
      omega
theorem val_of {n : Int} (h : 0 ≤ n) : valL (dig n) = n := by unfold dig; rw [val_dig]; omega

/-- what Atoi gives, beside its error -/
def atoiV (x : List UInt8) : Int := match Lib.atoiAll x with
  | .ok v => v
  | .range => Lib.atoiSat x
  | _ => 0
theorem atoiV_bd (x : List UInt8) : -9223372036854775808 ≤ atoiV x ∧ atoiV x ≤ 9223372036854775807 := by
  unfold atoiV
  split
  · rename_i v h; exact Lib.atoiAll_bounds h
  · exact Lib.atoiSat_bounds x
  · omega
theorem parse_app (a : List UInt8) : ∀ (acc : Nat) (b : List UInt8) (u : Nat), Lib.parseUint10 acc a = .ok u → Lib.parseUint10 acc (a ++ b) = Lib.parseUint10 u b := by
  induction a with
  | nil => intro acc b u h; simp only [Lib.parseUint10, Lib.NumEnd.ok.injEq] at h; subst h; rfl
  | cons c a ih =>
    intro acc b u h
    simp only [Lib.parseUint10] at h
    simp only [List.cons_append, Lib.parseUint10]
    split at h
    · rename_i h1
      rw [if_pos h1]
      split at h
      · cases h
      · rename_i h2
        rw [if_neg h2]
        split at h
        · cases h
        · rename_i h3
          rw [if_neg h3]
          exact ih _ b u h
    · cases h
theorem parse_dec : ∀ n : Nat, n ≤ 1000000000000 → Lib.parseUint10 0 (Lib.decDigits n) = .ok n := by
  intro n
  induction n using Nat.strongRecOn with
  | ind n ih =>
    intro hn
    have last : ∀ (m d : Nat), m ≤ 1000000000000 → d < 10 → Lib.parseUint10 m [UInt8.ofNat (48 + d)] = .ok (m * 10 + d) := by
      intro m d hm hd
      have e : (UInt8.ofNat (48 + d)).toNat = 48 + d := by rw [UInt8.toNat_ofNat']; omega
      simp only [Lib.parseUint10, e]
      rw [if_pos (by omega), if_neg (by omega), if_neg (by omega)]
      congr 1
      omega
    by_cases h : n < 10
    · rw [Lib.decDigits_one h, last 0 n (by omega) h]
      simp
    · rw [decDigits_step h, parse_app _ _ _ _ (ih (n / 10) (by omega) (by omega)), Lib.decDigits_one (show n % 10 < 10 by omega), last _ _ (by omega) (by omega)]
      congr 1
      omega
theorem atoiV_dig {n : Int} (h0 : 0 ≤ n) (h1 : n ≤ 1000000000000) : atoiV (dig n) = n := by
  have hp := parse_dec n.toNat (by omega)
  have hl := dig_pos n
  have hm := dig_mem n.toNat
  unfold dig at hl ⊢
  cases hd : Lib.decDigits n.toNat with
  | nil => rw [hd] at hl; simp at hl
  | cons c r =>
    rw [hd] at hp hm
    have hc := hm c (by simp)
    have e : Lib.atoiAll (c :: r) = .ok n := by
      rw [Lib.atoiAll_plain c r (by omega) (by omega)]
      unfold Lib.parseMag
      rw [if_neg (by simp), hp]
      simp only [Lib.signless]
      rw [if_neg (by omega)]
      congr 1
      omega
    unfold atoiV
    rw [e]

/-- the purse's reading of the words -/
def kindI (x : List UInt8) : Int := if x = [115, 97, 108, 101] then 1 else if x = [112, 97, 121] then 2 else if x = [98, 97, 99, 107] then 3 else 0
def paA (ws : List (List UInt8)) : Option Po := match ws with
  | [a, b, c, d, e, f, g] => some ⟨atoiV a, atoiV b, kindI c, 0, atoiV d, atoiV e, atoiV f, atoiV g⟩
  | [a, b, c, d, e, f, g, h] => some ⟨atoiV a, atoiV b, kindI c, atoiV d, atoiV e, atoiV f, atoiV g, atoiV h⟩
  | _ => none
theorem paA_words {p : Po} (h : okPo p) : paA (wordsL p) = some p := by
  have hk := ok_kind h
  unfold okPo at h
  have a0 := atoiV_dig (n := p.id) (by omega) (by omega)
  have a1 := atoiV_dig (n := p.hour) (by omega) (by omega)
  have a2 := atoiV_dig (n := p.party) (by omega) (by omega)
  have a3 := atoiV_dig (n := p.parcel) (by omega) (by omega)
  have a4 := atoiV_dig (n := p.amount) (by omega) (by omega)
  have a5 := atoiV_dig (n := p.reason) (by omega) (by omega)
  have a6 := atoiV_dig (n := p.known) (by omega) (by omega)
  obtain ⟨pid, ph, pk, pp, ppc, pa, pr, pkn⟩ := p
  simp only at *
  rcases hk with rfl | rfl | rfl
  · have : pp = 0 := h.2.2.2.2.2.2.2.2 rfl
    subst this
    simp [wordsL, paA, kindW, kindI, a0, a1, a3, a4, a5, a6]
  · simp [wordsL, paA, kindW, kindI, a0, a1, a2, a3, a4, a5, a6]
  · simp [wordsL, paA, kindW, kindI, a0, a1, a2, a3, a4, a5, a6]

/-- the reference's reading of the words -/
def okW (x : List UInt8) : Bool := decide (1 ≤ x.length) && decide (x.length ≤ 10) && x.all (fun c => decide (48 ≤ c.toNat ∧ c.toNat ≤ 57))
def paB (ws : List (List UInt8)) : Option Po := match ws with
  | [a, b, c, d, e, f, g] => if okW a && okW b && okW d && okW e && okW f && okW g then some ⟨valL a, valL b, 1, 0, valL d, valL e, valL f, valL g⟩ else none
  | [a, b, c, d, e, f, g, h] => if okW a && okW b && okW d && okW e && okW f && okW g && okW h then some ⟨valL a, valL b, if c = [98, 97, 99, 107] then 3 else 2, valL d, valL e, valL f, valL g, valL h⟩ else none
  | _ => none
theorem okW_dig {n : Int} (h0 : 0 ≤ n) (h1 : n ≤ 9999999999) : okW (dig n) = true := by
  have h2 := dig_pos n
  have h3 : (dig n).length ≤ 10 := decDigits_le 9 _ (by omega)
  simp only [okW, h2, h3, decide_true, Bool.true_and, List.all_eq_true, decide_eq_true_eq]
  exact fun c hc => dig_mem _ c hc
theorem paB_words {p : Po} (h : okPo p) : paB (wordsL p) = some p := by
  have hk := ok_kind h
  unfold okPo at h
  have a0 := val_of (n := p.id) (by omega)
  have a1 := val_of (n := p.hour) (by omega)
  have a2 := val_of (n := p.party) (by omega)
  have a3 := val_of (n := p.parcel) (by omega)
  have a4 := val_of (n := p.amount) (by omega)
  have a5 := val_of (n := p.reason) (by omega)
  have a6 := val_of (n := p.known) (by omega)
  have b0 := okW_dig (n := p.id) (by omega) (by omega)
  have b1 := okW_dig (n := p.hour) (by omega) (by omega)
  have b2 := okW_dig (n := p.party) (by omega) (by omega)
  have b3 := okW_dig (n := p.parcel) (by omega) (by omega)
  have b4 := okW_dig (n := p.amount) (by omega) (by omega)
  have b5 := okW_dig (n := p.reason) (by omega) (by omega)
  have b6 := okW_dig (n := p.known) (by omega) (by omega)
  obtain ⟨pid, ph, pk, pp, ppc, pa, pr, pkn⟩ := p
  simp only at *
  rcases hk with rfl | rfl | rfl
  · have : pp = 0 := h.2.2.2.2.2.2.2.2 rfl
    subst this
    simp [wordsL, paB, kindW, a0, a1, a3, a4, a5, a6, b0, b1, b3, b4, b5, b6]
  · simp [wordsL, paB, kindW, a0, a1, a2, a3, a4, a5, a6, b0, b1, b2, b3, b4, b5, b6]
  · simp [wordsL, paB, kindW, a0, a1, a2, a3, a4, a5, a6, b0, b1, b2, b3, b4, b5, b6]

/-- what Read answers, out of a reading of the words -/
def po0 : Po := ⟨0, 0, 0, 0, 0, 0, 0, 0⟩
def ans (q : Option Po) (l : List UInt8) : Po × Int := match q with
  | some p => if okPo p ∧ lineL p = l then (p, 0) else (po0, 4)
  | none => (po0, 4)
def readL (l : List UInt8) : Po × Int := ans (paA (spl l)) l
theorem ans_line (f : List (List UInt8) → Option Po) (hf : ∀ p, okPo p → f (wordsL p) = some p) {p : Po} (h : okPo p) : ans (f (spl (lineL p))) (lineL p) = (p, 0) := by
  rw [spl_line h, hf p h]
  exact if_pos ⟨h, rfl⟩
theorem ans_cases (q : Option Po) (l : List UInt8) : (∃ p, okPo p ∧ lineL p = l ∧ ans q l = (p, 0)) ∨ ans q l = (po0, 4) := by
  cases q with
  | none => exact .inr rfl
  | some p =>
    by_cases h : okPo p ∧ lineL p = l
    · exact .inl ⟨p, h.1, h.2, by simp only [ans]; rw [if_pos h]⟩
    · exact .inr (by simp only [ans]; rw [if_neg h])
theorem ans_same (l : List UInt8) : ans (paB (spl l)) l = readL l := by
  unfold readL
  rcases ans_cases (paB (spl l)) l with ⟨p, h1, rfl, h3⟩ | h
  · rw [ans_line paA (fun p hp => paA_words hp) h1, h3]
  · rcases ans_cases (paA (spl l)) l with ⟨p, h1, rfl, h3⟩ | h4
    · rw [ans_line paB (fun p hp => paB_words hp) h1] at h
      cases h
    · rw [h, h4]
/-- the two invert each other -/
theorem read_line {p : Po} (h : okPo p) : readL (lineL p) = (p, 0) := ans_line paA (fun p hp => paA_words hp) h
theorem line_read {l : List UInt8} (h : (readL l).2 = 0) : okPo (readL l).1 ∧ lineL (readL l).1 = l := by
  unfold readL at h ⊢
  rcases ans_cases (paA (spl l)) l with ⟨p, h1, h2, h3⟩ | h4
  · rw [h3]; exact ⟨h1, h2⟩
  · rw [h4] at h; cases h
end Go.Proofs.YtjleembfocghlaaGreatDoor
