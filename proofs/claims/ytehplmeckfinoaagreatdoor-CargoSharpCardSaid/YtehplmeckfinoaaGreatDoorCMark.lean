/- The walks of the small functions on numbers, bytes, marks and names. -/
import Derived.Test.YtehplmeckfinoaaGreatDoorCBase
import Derived.Test.YtehplmeckfinoaaGreatDoorLater
import Derived.Test.YtehplmeckfinoaaGreatDoorChecked
import Derived.BigQuiet
set_option linter.unusedSimpArgs false
set_option linter.unusedVariables false
namespace Go.Proofs.YtehplmeckfinoaaGreatDoor
open Go.RowKit
theorem within_any (n a b : Int) (w : World) : Calls Tryz.prog 35 #[.int .i64 n, .int .i64 a, .int .i64 b] w fun e w' => e = .returned (.bool (within n a b)) ∧ w' = w := by
 unfold within
 go_enter Tryz.func35, Tryz.ntmps35
 by_cases h1 : a ≤ n
 · by_cases h2 : n ≤ b
   · have e1 : decide (a ≤ n ∧ n ≤ b) = true := by simp [h1, h2]
     rw [e1]
     go_wp2_with fail
     go_ret
     exact ⟨rfl, rfl⟩
   · have e1 : decide (a ≤ n ∧ n ≤ b) = false := by simp [h2]
     rw [e1]
     go_wp2_with fail
     go_ret
     exact ⟨rfl, rfl⟩
 · have e1 : decide (a ≤ n ∧ n ≤ b) = false := by simp [h1]
   rw [e1]
   go_wp2_with fail
   go_ret
   exact ⟨rfl, rfl⟩
theorem spanB_any (lo hi a b : Int) (w : World) : Calls Tryz.prog 117 #[.agg #[.int .i64 lo, .int .i64 hi], .int .i64 a, .int .i64 b] w fun e w' => e = .returned (.bool (spanB lo hi a b)) ∧ Below w.heap.size w w' := by
 have HB := Hd ((Below.refl w.heap.size w).alloc (Nat.le_refl _) (.cells #[.int .i64 lo, .int .i64 hi] 32))
 unfold spanB
 go_enter Tryz.func117, Tryz.ntmps117
 by_cases h1 : a ≤ lo
 case neg =>
  have e1 : decide (a ≤ lo ∧ hi ≤ b ∧ lo ≤ hi) = false := by simp [h1]
  rw [e1]
  go_wp2_with fail
  go_ret
  exact ⟨rfl, HB.out⟩
 by_cases h2 : hi ≤ b
 case neg =>
  have e1 : decide (a ≤ lo ∧ hi ≤ b ∧ lo ≤ hi) = false := by simp [h2]
  rw [e1]
  go_wp2_with fail
  go_ret
  exact ⟨rfl, HB.out⟩
 by_cases h3 : lo ≤ hi
 · have e1 : decide (a ≤ lo ∧ hi ≤ b ∧ lo ≤ hi) = true := by simp [h1, h2, h3]
   rw [e1]
   go_wp2_with fail
   go_ret
   exact ⟨rfl, HB.out⟩
 · have e1 : decide (a ≤ lo ∧ hi ≤ b ∧ lo ≤ hi) = false := by simp [h3]
   rw [e1]
   go_wp2_with fail
   go_ret
   exact ⟨rfl, HB.out⟩
theorem small_any (c : UInt8) (w : World) : Calls Tryz.prog 102 #[.int .u8 c.toNat] w fun e w' => e = .returned (.bool (smallC c)) ∧ w' = w := by
 unfold smallC
 go_enter Tryz.func102, Tryz.ntmps102
 obtain ⟨n, hn⟩ : ∃ n, c.toNat = n := ⟨_, rfl⟩
 rw [hn]
 by_cases h1 : 97 ≤ n
 · by_cases h2 : n ≤ 122
   · have e1 : decide (97 ≤ n ∧ n ≤ 122 ∨ 48 ≤ n ∧ n ≤ 57) = true := by simp; omega
     have h1' : (97 : Int) ≤ (n : Int) := by omega
     have h2' : (n : Int) ≤ 122 := by omega
     rw [e1]
     go_wp2_with fail
     go_ret
     exact ⟨rfl, rfl⟩
   · have e1 : decide (97 ≤ n ∧ n ≤ 122 ∨ 48 ≤ n ∧ n ≤ 57) = false := by simp; omega
     have h1' : (97 : Int) ≤ (n : Int) := by omega
     have h2' : ¬ (n : Int) ≤ 122 := by omega
     have h3' : (48 : Int) ≤ (n : Int) := by omega
     have h4' : ¬ (n : Int) ≤ 57 := by omega
     rw [e1]
     go_wp2_with fail
     go_ret
     exact ⟨rfl, rfl⟩
 · have h1' : ¬ (97 : Int) ≤ (n : Int) := by omega
   by_cases h3 : 48 ≤ n
   · have h3' : (48 : Int) ≤ (n : Int) := by omega
     by_cases h4 : n ≤ 57
     · have e1 : decide (97 ≤ n ∧ n ≤ 122 ∨ 48 ≤ n ∧ n ≤ 57) = true := by simp; omega
       have h4' : (n : Int) ≤ 57 := by omega
       rw [e1]
       go_wp2_with fail
       go_ret
       exact ⟨rfl, rfl⟩
     · have e1 : decide (97 ≤ n ∧ n ≤ 122 ∨ 48 ≤ n ∧ n ≤ 57) = false := by simp; omega
       have h4' : ¬ (n : Int) ≤ 57 := by omega
       rw [e1]
       go_wp2_with fail
       go_ret
       exact ⟨rfl, rfl⟩
   · have e1 : decide (97 ≤ n ∧ n ≤ 122 ∨ 48 ≤ n ∧ n ≤ 57) = false := by simp; omega
     have h3' : ¬ (48 : Int) ≤ (n : Int) := by omega
     rw [e1]
     go_wp2_with fail
     go_ret
     exact ⟨rfl, rfl⟩
theorem take_all_snoc {α : Type} {p : α → Bool} {l : List α} {k : Nat} {x : α} (h : l[k]? = some x) (h1 : (l.take k).all p = true) (h2 : p x = true) : (l.take (k + 1)).all p = true := by
 rw [take_succ_snoc h, List.all_append, h1]; simp [h2]
theorem all_no {α : Type} {p : α → Bool} {l : List α} {k : Nat} {x : α} (h : l[k]? = some x) (h2 : p x = false) : l.all p = false := by
 rw [Bool.eq_false_iff]
 intro e
 have := List.all_eq_true.1 e x (List.mem_of_getElem? h)
 rw [h2] at this; cases this
theorem byte63 {c : UInt8} (h : ¬ c = 63) : ((c.toNat : Int) != 63) = true := by
 have : ¬ c.toNat = 63 := fun e => h (UInt8.toNat_inj.1 (by rw [e]; rfl))
 simp; omega
theorem byte45 {c : UInt8} (h : ¬ c = 45) : ((c.toNat : Int) != 45) = true := by
 have : ¬ c.toNat = 45 := fun e => h (UInt8.toNat_inj.1 (by rw [e]; rfl))
 simp; omega
set_option maxHeartbeats 2000000 in
theorem isMark_any (s : List UInt8) (hs : s.length ≤ 9223372036854775806) (w : World) : Calls Tryz.prog 60 #[.string ⟨s.toArray⟩] w fun e w' => e = .returned (.bool (isMark s)) ∧ w' = w := by
 go_enter Tryz.func60, Tryz.ntmps60
 go_wp2_with fail
 go_loopw [6] (fun i wr => ∃ k : Nat, k ≤ s.length ∧ i = .int .i64 k ∧ (s.take k).all markC = true ∧ wr = w) (fun i _ => s.length - (intOf i).toNat)
 case atStart => exact ⟨0, Nat.zero_le _, rfl, rfl, rfl⟩
 case round =>
  obtain ⟨k, hk, rfl, hall, rfl⟩ := hrel
  have HA := Hd hall
  clear hall
  by_cases hlt : k < s.length
  · have hlt' : (k : Int) < (s.length : Int) := by omega
    obtain ⟨c, hc⟩ : ∃ c, s[k]? = some c := ⟨_, List.getElem?_eq_getElem hlt⟩
    have hi : ∀ h, (⟨s.toArray⟩ : ByteArray)[k]'h = c := fun h => (List.getElem?_eq_some_iff.1 hc).2
    have HC := Hd hc
    clear hc
    obtain ⟨b, hb⟩ : ∃ b, smallC c = b := ⟨_, rfl⟩
    go_wp2_with fail
    refine (small_any c _).mono ?_
    rintro e w' ⟨rfl, rfl⟩
    rw [hb]
    cases b with
    | true =>
      have HN := Hd (take_all_snoc (p := markC) HC.out HA.out (by simp [markC, hb]))
      clear hb
      go_wp2_with fail
      exact ⟨⟨k + 1, by omega, by go_num, HN.out, by first | rfl | trivial⟩, by simp [intOf]; omega⟩
    | false =>
      by_cases h63 : c = 63
      · subst h63
        have HN := Hd (take_all_snoc (p := markC) HC.out HA.out (by decide))
        clear hb
        go_wp2_with fail
        exact ⟨⟨k + 1, by omega, by go_num, HN.out, by first | rfl | trivial⟩, by simp [intOf]; omega⟩
      · have hne := byte63 h63
        have HE := Hd (show isMark s = false from by
         have := all_no HC.out (show markC c = false by simp [markC, hb, h63])
         unfold isMark; rw [this]; rfl)
        clear hb h63
        go_wp2_with fail
        go_ret
        exact ⟨by rw [HE.out] <;> rfl, by first | rfl | trivial⟩
  · have hltg : ¬ (k : Int) < (s.length : Int) := by omega
    rw [List.take_of_length_le (by omega)] at HA
    have HE := Hd (show isMark s = within s.length 1 12 from by
     unfold isMark within
     rw [HA.out, Bool.true_and]
     by_cases h : 1 ≤ s.length ∧ s.length ≤ 12
     · rw [decide_eq_true h, decide_eq_true (by omega)]
     · rw [decide_eq_false h, decide_eq_false (by omega)])
    clear hlt
    go_wp2_with fail
    refine (within_any _ 1 12 _).mono ?_
    rintro e w' ⟨rfl, rfl⟩
    rw [← HE.out]
    go_wp2_with fail
    go_ret
    exact ⟨rfl, by first | rfl | trivial⟩
set_option maxHeartbeats 2000000 in
theorem isName_any (s : List UInt8) (hs : s.length ≤ 9223372036854775806) (w : World) : Calls Tryz.prog 116 #[.string ⟨s.toArray⟩] w fun e w' => e = .returned (.bool (isName s)) ∧ w' = w := by
 by_cases hl : 1 ≤ s.length ∧ s.length ≤ 24
 case neg =>
  have CI := Hd (show ∀ W, Calls Tryz.prog 35 #[.int .i64 (s.length : Int), .int .i64 1, .int .i64 24] W fun e w' => e = .returned (.bool false) ∧ w' = W from fun W => by
   have h1 := within_any (s.length : Int) 1 24 W
   unfold within at h1
   rw [decide_eq_false (by omega)] at h1
   exact h1)
  have HE := Hd (show isName s = false from by unfold isName; rw [decide_eq_false hl]; rfl)
  clear hl
  go_enter Tryz.func116, Tryz.ntmps116
  go_wp2_with fail
  refine (CI.out _).mono ?_
  rintro e w' ⟨rfl, rfl⟩
  go_wp2_with fail
  go_ret
  exact ⟨by rw [HE.out] <;> rfl, rfl⟩
 have CI := Hd (show ∀ W, Calls Tryz.prog 35 #[.int .i64 (s.length : Int), .int .i64 1, .int .i64 24] W fun e w' => e = .returned (.bool true) ∧ w' = W from fun W => by
  have h1 := within_any (s.length : Int) 1 24 W
  unfold within at h1
  rw [decide_eq_true (by omega)] at h1
  exact h1)
 obtain ⟨c0, r, hsr⟩ : ∃ c r, s = c :: r := by
  cases s with
  | nil => simp at hl
  | cons c r => exact ⟨c, r, rfl⟩
 have h0 : s[0]? = some c0 := by rw [hsr]; rfl
 have hi0 : ∀ h, (⟨s.toArray⟩ : ByteArray)[0]'h = c0 := fun h => (List.getElem?_eq_some_iff.1 h0).2
 have HH := Hd (show isName s = (decide (97 ≤ c0.toNat ∧ c0.toNat ≤ 122) && s.all nameC) from by
  unfold isName
  rw [decide_eq_true hl, Bool.true_and, hsr])
 have hpos : (0 : Int) < (s.length : Int) := by omega
 clear hl hsr h0
 go_enter Tryz.func116, Tryz.ntmps116
 go_wp2_with fail
 refine (CI.out _).mono ?_
 rintro e w' ⟨rfl, rfl⟩
 by_cases g1 : c0.toNat < 97
 · have g1' : (c0.toNat : Int) < 97 := by omega
   have HE := Hd (show isName s = false from by rw [HH.out, decide_eq_false (by omega)]; rfl)
   clear g1
   go_wp2_with fail
   go_ret
   exact ⟨by rw [HE.out] <;> rfl, by first | rfl | trivial⟩
 have g1' : ¬ (c0.toNat : Int) < 97 := by omega
 by_cases g2 : 122 < c0.toNat
 · have g2' : (122 : Int) < (c0.toNat : Int) := by omega
   have HE := Hd (show isName s = false from by rw [HH.out, decide_eq_false (by omega)]; rfl)
   clear g2
   go_wp2_with fail
   go_ret
   exact ⟨by rw [HE.out] <;> rfl, by first | rfl | trivial⟩
 have g2' : ¬ (122 : Int) < (c0.toNat : Int) := by omega
 have HH2 := Hd (show isName s = s.all nameC from by rw [HH.out, decide_eq_true (by omega)]; rfl)
 clear g1 g2 HH
 rename World => w
 go_wp2_with fail
 go_loopw [20] (fun i wr => ∃ k : Nat, k ≤ s.length ∧ i = .int .i64 k ∧ (s.take k).all nameC = true ∧ wr = w) (fun i _ => s.length - (intOf i).toNat)
 case atStart => exact ⟨0, Nat.zero_le _, rfl, rfl, rfl⟩
 case round =>
  obtain ⟨k, hk, rfl, hall, rfl⟩ := hrel
  have HA := Hd hall
  clear hall
  by_cases hlt : k < s.length
  · have hlt' : (k : Int) < (s.length : Int) := by omega
    obtain ⟨c, hc⟩ : ∃ c, s[k]? = some c := ⟨_, List.getElem?_eq_getElem hlt⟩
    have hi : ∀ h, (⟨s.toArray⟩ : ByteArray)[k]'h = c := fun h => (List.getElem?_eq_some_iff.1 hc).2
    have HC := Hd hc
    clear hc
    obtain ⟨b, hb⟩ : ∃ b, smallC c = b := ⟨_, rfl⟩
    go_wp2_with fail
    refine (small_any c _).mono ?_
    rintro e w' ⟨rfl, rfl⟩
    rw [hb]
    cases b with
    | true =>
      have HN := Hd (take_all_snoc (p := nameC) HC.out HA.out (by simp [nameC, hb]))
      clear hb
      go_wp2_with fail
      exact ⟨⟨k + 1, by omega, by go_num, HN.out, by first | rfl | trivial⟩, by simp [intOf]; omega⟩
    | false =>
      by_cases h63 : c = 45
      · subst h63
        have HN := Hd (take_all_snoc (p := nameC) HC.out HA.out (by decide))
        clear hb
        go_wp2_with fail
        exact ⟨⟨k + 1, by omega, by go_num, HN.out, by first | rfl | trivial⟩, by simp [intOf]; omega⟩
      · have hne := byte45 h63
        have HE := Hd (show isName s = false from by
         have := all_no HC.out (show nameC c = false by simp [nameC, hb, h63])
         rw [HH2.out, this])
        clear hb h63
        go_wp2_with fail
        go_ret
        exact ⟨by rw [HE.out] <;> rfl, by first | rfl | trivial⟩
  · have hltg : ¬ (k : Int) < (s.length : Int) := by omega
    rw [List.take_of_length_le (by omega)] at HA
    have HE := Hd (show isName s = true from by rw [HH2.out, HA.out])
    clear hlt
    go_wp2_with fail
    go_ret
    exact ⟨by rw [HE.out] <;> rfl, by first | rfl | trivial⟩
end Go.Proofs.YtehplmeckfinoaaGreatDoor
