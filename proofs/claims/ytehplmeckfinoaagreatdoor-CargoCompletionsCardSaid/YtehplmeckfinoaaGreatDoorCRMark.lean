/- The plain law of marks (no dump). -/
import Derived.Test.YtehplmeckfinoaaGreatDoorCBase
import Derived.Test.YtehplmeckfinoaaGreatDoorCSigns
set_option linter.unusedSimpArgs false
set_option linter.unusedVariables false
namespace Go.Proofs.YtehplmeckfinoaaGreatDoor
open Go.RowKit
def meetC2 (p : UInt8 × UInt8) : Bool := p.1 == p.2 || p.1 == 63 || p.2 == 63
theorem zip_all_comm : ∀ a b : List UInt8, (a.zip b).all meetC2 = (b.zip a).all meetC2
 | [], b => by simp
 | a :: r, [] => by simp
 | a :: r, b :: t => by
   simp only [List.zip_cons_cons, List.all_cons]
   rw [zip_all_comm r t]
   congr 1
   unfold meetC2
   simp only
   rw [show (a == b) = (b == a) from Bool.beq_comm ..]
   cases (b == a) <;> cases (a == 63) <;> cases (b == 63) <;> rfl
theorem zip_self : ∀ a : List UInt8, (a.zip a).all meetC2 = true
 | [] => rfl
 | a :: r => by
   simp only [List.zip_cons_cons, List.all_cons, zip_self r, Bool.and_true]
   simp [meetC2]
theorem meet_eq (a b : List UInt8) : meetL a b = (isMark a && isMark b && decide (a.length = b.length) && (a.zip b).all meetC2) := rfl
theorem meetL_comm (a b : List UInt8) : meetL a b = meetL b a := by
 rw [meet_eq, meet_eq, zip_all_comm a b, Bool.and_comm (isMark a)]
 congr 2
 simp only [decide_eq_decide]
 exact eq_comm
theorem meetL_self {a : List UInt8} (h : isMark a = true) : meetL a a = true := by
 rw [meet_eq, h, zip_self]; simp
theorem meetL_mark {a b : List UInt8} (h : meetL a b = true) : isMark a = true ∧ a.length = b.length := by
 rw [meet_eq] at h
 simp only [Bool.and_eq_true, decide_eq_true_eq] at h
 exact ⟨h.1.1.1, h.1.2⟩
theorem signsL_le (a : List UInt8) : 0 ≤ signsL a ∧ signsL a ≤ (a.length : Int) := by
 unfold signsL
 have := List.length_filter_le (fun c : UInt8 => !(c == 63)) a
 split <;> omega
theorem signsL_mark {a : List UInt8} (h : isMark a = false) : signsL a = 0 := by
 unfold signsL; rw [h]; rfl
theorem rwithin_any (n a b : Int) (w : World) : Calls Tryz.prog 30 #[.int .i64 n, .int .i64 a, .int .i64 b] w fun e w' => e = .returned (.bool (within n a b)) ∧ w' = w := by
 unfold within
 go_enter Tryz.func30, Tryz.ntmps30
 by_cases h1 : a ≤ n
 · by_cases h2 : n ≤ b
   · have e1 : decide (a ≤ n ∧ n ≤ b) = true := by simp [h1, h2]
     rw [e1]
     go_wp2_with fail
     go_ret
     exact ⟨rfl, rfl⟩
   · have e1 : decide (a ≤ n ∧ n ≤ b) = false := by simp [h2]
     rw [e1]
     go_wp2_with fail
     go_ret
     exact ⟨rfl, rfl⟩
 · have e1 : decide (a ≤ n ∧ n ≤ b) = false := by simp [h1]
   rw [e1]
   go_wp2_with fail
   go_ret
   exact ⟨rfl, rfl⟩
theorem letter_any (c : UInt8) (w : World) : Calls Tryz.prog 199 #[.int .u8 c.toNat] w fun e w' => e = .returned (.bool (smallC c)) ∧ w' = w := by
 unfold smallC
 go_enter Tryz.func199, Tryz.ntmps199
 obtain ⟨n, hn⟩ : ∃ n, c.toNat = n := ⟨_, rfl⟩
 rw [hn]
 by_cases h1 : 97 ≤ n
 · by_cases h2 : n ≤ 122
   · have e1 : decide (97 ≤ n ∧ n ≤ 122 ∨ 48 ≤ n ∧ n ≤ 57) = true := by simp; omega
     have h1' : (97 : Int) ≤ (n : Int) := by omega
     have h2' : (n : Int) ≤ 122 := by omega
     rw [e1]
     go_wp2_with fail
     go_ret
     exact ⟨rfl, rfl⟩
   · have e1 : decide (97 ≤ n ∧ n ≤ 122 ∨ 48 ≤ n ∧ n ≤ 57) = false := by simp; omega
     have h1' : (97 : Int) ≤ (n : Int) := by omega
     have h2' : ¬ (n : Int) ≤ 122 := by omega
     have h3' : (48 : Int) ≤ (n : Int) := by omega
     have h4' : ¬ (n : Int) ≤ 57 := by omega
     rw [e1]
     go_wp2_with fail
     go_ret
     exact ⟨rfl, rfl⟩
 · have h1' : ¬ (97 : Int) ≤ (n : Int) := by omega
   by_cases h3 : 48 ≤ n
   · have h3' : (48 : Int) ≤ (n : Int) := by omega
     by_cases h4 : n ≤ 57
     · have e1 : decide (97 ≤ n ∧ n ≤ 122 ∨ 48 ≤ n ∧ n ≤ 57) = true := by simp; omega
       have h4' : (n : Int) ≤ 57 := by omega
       rw [e1]
       go_wp2_with fail
       go_ret
       exact ⟨rfl, rfl⟩
     · have e1 : decide (97 ≤ n ∧ n ≤ 122 ∨ 48 ≤ n ∧ n ≤ 57) = false := by simp; omega
       have h4' : ¬ (n : Int) ≤ 57 := by omega
       rw [e1]
       go_wp2_with fail
       go_ret
       exact ⟨rfl, rfl⟩
   · have e1 : decide (97 ≤ n ∧ n ≤ 122 ∨ 48 ≤ n ∧ n ≤ 57) = false := by simp; omega
     have h3' : ¬ (48 : Int) ≤ (n : Int) := by omega
     rw [e1]
     go_wp2_with fail
     go_ret
     exact ⟨rfl, rfl⟩
theorem mark_take {s : List UInt8} {k : Nat} {c : UInt8} (h : s[k]? = some c) : (s.take (k + 1)).all markC = ((s.take k).all markC && markC c) := by
 rw [take_succ_snoc h, List.all_append]; simp
set_option maxHeartbeats 4000000 in
theorem rmark_any (s : List UInt8) (hs : s.length ≤ 9223372036854775806) (w : World) : Calls Tryz.prog 181 #[.string ⟨s.toArray⟩] w fun e w' => e = .returned (.bool (isMark s)) ∧ w' = w := by
 obtain ⟨lb, hlb⟩ : ∃ b, decide (1 ≤ s.length ∧ s.length ≤ 12) = b := ⟨_, rfl⟩
 have HM := Hd (show isMark s = (lb && s.all markC) from by unfold isMark; rw [hlb, Bool.and_comm])
 go_enter Tryz.func181, Tryz.ntmps181
 by_cases h1 : 1 ≤ s.length
 · have g1 : (0 : Int) < (s.length : Int) := by omega
   by_cases h2 : s.length ≤ 12
   · have g2 : (s.length : Int) ≤ 12 := by omega
     obtain rfl : true = lb := by rw [← hlb]; simp [h1, h2]
     clear hlb h1 h2
     go_wp2_with fail
     go_loopw [3, 4] (fun o i wr => ∃ k : Nat, k ≤ s.length ∧ i = .int .i64 k ∧ o = .bool (true && (s.take k).all markC) ∧ wr = w) (fun _ i _ => s.length - (intOf i).toNat)
     case atStart => exact ⟨0, Nat.zero_le _, rfl, rfl, rfl⟩
     case round =>
      obtain ⟨k, hk, rfl, rfl, rfl⟩ := hrel
      by_cases hlt : k < s.length
      · have hlt' : (k : Int) < (s.length : Int) := by omega
        obtain ⟨c, hc⟩ : ∃ c, s[k]? = some c := ⟨_, List.getElem?_eq_getElem hlt⟩
        have hi : ∀ h, (⟨s.toArray⟩ : ByteArray)[k]'h = c := fun h => (List.getElem?_eq_some_iff.1 hc).2
        have HT := Hd (mark_take hc)
        clear hc
        obtain ⟨b, hb⟩ : ∃ b, smallC c = b := ⟨_, rfl⟩
        obtain ⟨pb, hpb⟩ : ∃ b, (s.take k).all markC = b := ⟨_, rfl⟩
        have HT2 := Hd (show (s.take (k + 1)).all markC = (pb && (b || c == 63)) from by rw [HT.out, hpb]; unfold markC; rw [hb])
        rw [hpb]
        have CL := Hd (show ∀ W, Calls Tryz.prog 199 #[.int .u8 c.toNat] W fun e w' => e = .returned (.bool b) ∧ w' = W from fun W => by rw [← hb]; exact letter_any c W)
        clear HT hpb hb
        by_cases h63 : c = 63
        · have h63' : (c == 63) = true := by simp [h63]
          have HT3 := Hd (show (s.take (k + 1)).all markC = pb from by rw [HT2.out, h63']; simp)
          have hq : ((c.toNat : Int) == 63) = true := by rw [h63]; rfl
          clear HT2 h63 h63'
          cases pb <;> cases b
          all_goals
           go_wp2_with (go_at_call 199; refine (CL.out _).mono ?_; rintro e w' ⟨rfl, rfl⟩)
           exact ⟨⟨k + 1, by omega, by go_num, by rw [HT3.out] <;> rfl, by first | rfl | trivial⟩, by simp [intOf]; omega⟩
        · have hq : ((c.toNat : Int) == 63) = false := by
           have := byte63 h63
           simpa using this
          have h63' : (c == 63) = false := by simp [h63]
          have HT3 := Hd (show (s.take (k + 1)).all markC = (pb && b) from by rw [HT2.out, h63']; simp)
          clear HT2 h63 h63'
          cases pb <;> cases b
          all_goals
           go_wp2_with (go_at_call 199; refine (CL.out _).mono ?_; rintro e w' ⟨rfl, rfl⟩)
           exact ⟨⟨k + 1, by omega, by go_num, by rw [HT3.out] <;> rfl, by first | rfl | trivial⟩, by simp [intOf]; omega⟩
      · have hltg : ¬ (k : Int) < (s.length : Int) := by omega
        have HE := Hd (show isMark s = (true && (s.take k).all markC) from by rw [HM.out, List.take_of_length_le (by omega)])
        rw [← HE.out]
        clear hlt
        go_wp2_with fail
        go_ret
        exact ⟨rfl, by first | rfl | trivial⟩
   · have g2 : ¬ (s.length : Int) ≤ 12 := by omega
     obtain rfl : false = lb := by rw [← hlb]; simp [h2]
     clear hlb h1 h2
     go_wp2_with fail
     go_loopw [3, 4] (fun o i wr => ∃ k : Nat, k ≤ s.length ∧ i = .int .i64 k ∧ o = .bool (false && (s.take k).all markC) ∧ wr = w) (fun _ i _ => s.length - (intOf i).toNat)
     case atStart => exact ⟨0, Nat.zero_le _, rfl, rfl, rfl⟩
     case round =>
      obtain ⟨k, hk, rfl, rfl, rfl⟩ := hrel
      by_cases hlt : k < s.length
      · have hlt' : (k : Int) < (s.length : Int) := by omega
        obtain ⟨c, hc⟩ : ∃ c, s[k]? = some c := ⟨_, List.getElem?_eq_getElem hlt⟩
        have hi : ∀ h, (⟨s.toArray⟩ : ByteArray)[k]'h = c := fun h => (List.getElem?_eq_some_iff.1 hc).2
        have HT := Hd (mark_take hc)
        clear hc
        obtain ⟨b, hb⟩ : ∃ b, smallC c = b := ⟨_, rfl⟩
        obtain ⟨pb, hpb⟩ : ∃ b, (s.take k).all markC = b := ⟨_, rfl⟩
        have HT2 := Hd (show (s.take (k + 1)).all markC = (pb && (b || c == 63)) from by rw [HT.out, hpb]; unfold markC; rw [hb])
        rw [hpb]
        have CL := Hd (show ∀ W, Calls Tryz.prog 199 #[.int .u8 c.toNat] W fun e w' => e = .returned (.bool b) ∧ w' = W from fun W => by rw [← hb]; exact letter_any c W)
        clear HT hpb hb
        by_cases h63 : c = 63
        · have h63' : (c == 63) = true := by simp [h63]
          have HT3 := Hd (show (s.take (k + 1)).all markC = pb from by rw [HT2.out, h63']; simp)
          have hq : ((c.toNat : Int) == 63) = true := by rw [h63]; rfl
          clear HT2 h63 h63'
          cases pb <;> cases b
          all_goals
           go_wp2_with (go_at_call 199; refine (CL.out _).mono ?_; rintro e w' ⟨rfl, rfl⟩)
           exact ⟨⟨k + 1, by omega, by go_num, by rw [HT3.out] <;> rfl, by first | rfl | trivial⟩, by simp [intOf]; omega⟩
        · have hq : ((c.toNat : Int) == 63) = false := by
           have := byte63 h63
           simpa using this
          have h63' : (c == 63) = false := by simp [h63]
          have HT3 := Hd (show (s.take (k + 1)).all markC = (pb && b) from by rw [HT2.out, h63']; simp)
          clear HT2 h63 h63'
          cases pb <;> cases b
          all_goals
           go_wp2_with (go_at_call 199; refine (CL.out _).mono ?_; rintro e w' ⟨rfl, rfl⟩)
           exact ⟨⟨k + 1, by omega, by go_num, by rw [HT3.out] <;> rfl, by first | rfl | trivial⟩, by simp [intOf]; omega⟩
      · have hltg : ¬ (k : Int) < (s.length : Int) := by omega
        have HE := Hd (show isMark s = (false && (s.take k).all markC) from by rw [HM.out, List.take_of_length_le (by omega)])
        rw [← HE.out]
        clear hlt
        go_wp2_with fail
        go_ret
        exact ⟨rfl, by first | rfl | trivial⟩
 · have g1 : ¬ (0 : Int) < (s.length : Int) := by omega
   obtain rfl : false = lb := by rw [← hlb]; simp [h1]
   clear hlb h1
   go_wp2_with fail
   go_loopw [3, 4] (fun o i wr => ∃ k : Nat, k ≤ s.length ∧ i = .int .i64 k ∧ o = .bool (false && (s.take k).all markC) ∧ wr = w) (fun _ i _ => s.length - (intOf i).toNat)
   case atStart => exact ⟨0, Nat.zero_le _, rfl, rfl, rfl⟩
   case round =>
    obtain ⟨k, hk, rfl, rfl, rfl⟩ := hrel
    by_cases hlt : k < s.length
    · have hlt' : (k : Int) < (s.length : Int) := by omega
      obtain ⟨c, hc⟩ : ∃ c, s[k]? = some c := ⟨_, List.getElem?_eq_getElem hlt⟩
      have hi : ∀ h, (⟨s.toArray⟩ : ByteArray)[k]'h = c := fun h => (List.getElem?_eq_some_iff.1 hc).2
      have HT := Hd (mark_take hc)
      clear hc
      obtain ⟨b, hb⟩ : ∃ b, smallC c = b := ⟨_, rfl⟩
      obtain ⟨pb, hpb⟩ : ∃ b, (s.take k).all markC = b := ⟨_, rfl⟩
      have HT2 := Hd (show (s.take (k + 1)).all markC = (pb && (b || c == 63)) from by rw [HT.out, hpb]; unfold markC; rw [hb])
      rw [hpb]
      have CL := Hd (show ∀ W, Calls Tryz.prog 199 #[.int .u8 c.toNat] W fun e w' => e = .returned (.bool b) ∧ w' = W from fun W => by rw [← hb]; exact letter_any c W)
      clear HT hpb hb
      by_cases h63 : c = 63
      · have h63' : (c == 63) = true := by simp [h63]
        have HT3 := Hd (show (s.take (k + 1)).all markC = pb from by rw [HT2.out, h63']; simp)
        have hq : ((c.toNat : Int) == 63) = true := by rw [h63]; rfl
        clear HT2 h63 h63'
        cases pb <;> cases b
        all_goals
         go_wp2_with (go_at_call 199; refine (CL.out _).mono ?_; rintro e w' ⟨rfl, rfl⟩)
         exact ⟨⟨k + 1, by omega, by go_num, by rw [HT3.out] <;> rfl, by first | rfl | trivial⟩, by simp [intOf]; omega⟩
      · have hq : ((c.toNat : Int) == 63) = false := by
         have := byte63 h63
         simpa using this
        have h63' : (c == 63) = false := by simp [h63]
        have HT3 := Hd (show (s.take (k + 1)).all markC = (pb && b) from by rw [HT2.out, h63']; simp)
        clear HT2 h63 h63'
        cases pb <;> cases b
        all_goals
         go_wp2_with (go_at_call 199; refine (CL.out _).mono ?_; rintro e w' ⟨rfl, rfl⟩)
         exact ⟨⟨k + 1, by omega, by go_num, by rw [HT3.out] <;> rfl, by first | rfl | trivial⟩, by simp [intOf]; omega⟩
    · have hltg : ¬ (k : Int) < (s.length : Int) := by omega
      have HE := Hd (show isMark s = (false && (s.take k).all markC) from by rw [HM.out, List.take_of_length_le (by omega)])
      rw [← HE.out]
      clear hlt
      go_wp2_with fail
      go_ret
      exact ⟨rfl, by first | rfl | trivial⟩
end Go.Proofs.YtehplmeckfinoaaGreatDoor
