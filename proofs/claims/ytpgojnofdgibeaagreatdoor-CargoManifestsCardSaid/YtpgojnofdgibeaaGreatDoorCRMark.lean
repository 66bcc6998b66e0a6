/- The plain law of marks (no dump). -/
import Derived.Test.YtpgojnofdgibeaaGreatDoorCBase
import Derived.Test.YtpgojnofdgibeaaGreatDoorCSigns
set_option linter.unusedSimpArgs false
set_option linter.unusedVariables false
namespace Go.Proofs.YtpgojnofdgibeaaGreatDoor
open Go.RowKit

def meetC2 (p : UInt8 × UInt8) : Bool := p.1 == p.2 || p.1 == 63 || p.2 == 63
theorem zip_all_comm : ∀ a b : List UInt8, (a.zip b).all meetC2 = (b.zip a).all meetC2
  | [], b => by simp
  | a :: r, [] => by simp
  | a :: r, b :: t => by
    simp only [List.zip_cons_cons, List.all_cons]
    rw [zip_all_comm r t]
    congr 1
    unfold meetC2
    simp only
    rw [show (a == b) = (b == a) from Bool.beq_comm ..]
    cases (b == a) <;> cases (a == 63) <;> cases (b == 63) <;> rfl
theorem zip_self : ∀ a : List UInt8, (a.zip a).all meetC2 = true
  | [] => rfl
  | a :: r => by
    simp only [List.zip_cons_cons, List.all_cons, zip_self r, Bool.and_true]
    simp [meetC2]
theorem meet_eq (a b : List UInt8) : meetL a b = (isMark a && isMark b && decide (a.length = b.length) && (a.zip b).all meetC2) := rfl
theorem meetL_comm (a b : List UInt8) : meetL a b = meetL b a := by
  rw [meet_eq, meet_eq, zip_all_comm a b, Bool.and_comm (isMark a)]
  congr 2
  simp only [decide_eq_decide]
  exact eq_comm
theorem meetL_self {a : List UInt8} (h : isMark a = true) : meetL a a = true := by
  rw [meet_eq, h, zip_self]; simp
theorem meetL_mark {a b : List UInt8} (h : meetL a b = true) : isMark a = true ∧ a.length = b.length := by
  rw [meet_eq] at h
  simp only [Bool.and_eq_true, decide_eq_true_eq] at h
  exact ⟨h.1.1.1, h.1.2⟩
theorem signsL_le (a : List UInt8) : 0 ≤ signsL a ∧ signsL a ≤ (a.length : Int) := by
  unfold signsL
  have := List.length_filter_le (fun c : UInt8 => !(c == 63)) a
  split <;> omega
theorem signsL_mark {a : List UInt8} (h : isMark a = false) : signsL a = 0 := by
  unfold signsL; rw [h]; rfl
end Go.Proofs.YtpgojnofdgibeaaGreatDoor

/- The walks of the reference's small functions on numbers, bytes and marks. -/
set_option linter.unusedSimpArgs false
set_option linter.unusedVariables false
namespace Go.Proofs.YtpgojnofdgibeaaGreatDoor
open Go.RowKit

theorem rwithin_any (n a b : Int) (w : World) : Calls Tryz.prog 107 #[.int .i64 n, .int .i64 a, .int .i64 b] w fun e w' => e = .returned (.bool (within n a b)) ∧ w' = w := by
  unfold within
  go_enter Tryz.func107, Tryz.ntmps107
  by_cases h1 : a ≤ n
  · by_cases h2 : n ≤ b
    · have e1 : decide (a ≤ n ∧ n ≤ b) = true := by simp [h1, h2]
      rw [e1]
      go_wp2_with fail
      go_ret
      exact ⟨rfl, rfl⟩
    · have e1 : decide (a ≤ n ∧ n ≤ b) = false := by simp [h2]
      rw [e1]
      go_wp2_with fail
      go_ret
      exact ⟨rfl, rfl⟩
  · have e1 : decide (a ≤ n ∧ n ≤ b) = false := by simp [h1]
    rw [e1]
    go_wp2_with fail
    go_ret
    exact ⟨rfl, rfl⟩
theorem letter_any (c : UInt8) (w : World) : Calls Tryz.prog 97 #[.int .u8 c.toNat] w fun e w' => e = .returned (.bool (smallC c)) ∧ w' = w := by
  unfold smallC
  go_enter Tryz.func97, Tryz.ntmps97
  obtain ⟨n, hn⟩ : ∃ n, c.toNat = n := ⟨_, rfl⟩
  rw [hn]
  by_cases h1 : 97 ≤ n
  · by_cases h2 : n ≤ 122
    · have e1 : decide (97 ≤ n ∧ n ≤ 122 ∨ 48 ≤ n ∧ n ≤ 57) = true := by simp; omega
      have h1' : (97 : Int) ≤ (n : Int) := by omega
      have h2' : (n : Int) ≤ 122 := by omega
      rw [e1]
      go_wp2_with fail
      go_ret
      exact ⟨rfl, rfl⟩
    · have e1 : decide (97 ≤ n ∧ n ≤ 122 ∨ 48 ≤ n ∧ n ≤ 57) = false := by simp; omega
      have h1' : (97 : Int) ≤ (n : Int) := by omega
      have h2' : ¬ (n : Int) ≤ 122 := by omega
      have h3' : (48 : Int) ≤ (n : Int) := by omega
      have h4' : ¬ (n : Int) ≤ 57 := by omega
      rw [e1]
      go_wp2_with fail
      go_ret
      exact ⟨rfl, rfl⟩
  · have h1' : ¬ (97 : Int) ≤ (n : Int) := by omega
    by_cases h3 : 48 ≤ n
    · have h3' : (48 : Int) ≤ (n : Int) := by omega
      by_cases h4 : n ≤ 57
      · have e1 : decide (97 ≤ n ∧ n ≤ 122 ∨ 48 ≤ n ∧ n ≤ 57) = true := by simp; omega
        have h4' : (n : Int) ≤ 57 := by omega
        rw [e1]
        go_wp2_with fail
        go_ret
        exact ⟨rfl, rfl⟩
      · have e1 : decide (97 ≤ n ∧ n ≤ 122 ∨ 48 ≤ n ∧ n ≤ 57) = false := by simp; omega
        have h4' : ¬ (n : Int) ≤ 57 := by omega
        rw [e1]
        go_wp2_with fail
        go_ret
        exact ⟨rfl, rfl⟩
    · have e1 : decide (97 ≤ n ∧ n ≤ 122 ∨ 48 ≤ n ∧ n ≤ 57) = false := by simp; omega
      have h3' : ¬ (48 : Int) ≤ (n : Int) := by omega
      rw [e1]
      go_wp2_with fail
      go_ret
      exact ⟨rfl, rfl⟩

theorem mark_take {s : List UInt8} {k : Nat} {c : UInt8} (h : s[k]? = some c) : (s.take (k + 1)).all markC = ((s.take k).all markC && markC c) := by
  rw [take_succ_snoc h, List.all_append]; simp
set_option maxHeartbeats 4000000 in
theorem rmark_any (s : List UInt8) (hs : s.length ≤ 9223372036854775806) (w : World) : Calls Tryz.prog 50 #[.string ⟨s.toArray⟩] w fun e w' => e = .returned (.bool (isMark s)) ∧ w' = w := by
  obtain ⟨lb, hlb⟩ : ∃ b, decide (1 ≤ s.length ∧ s.length ≤ 12) = b := ⟨_, rfl⟩
  have HM := Lib.hid (show isMark s = (lb && s.all markC) from by unfold isMark; rw [hlb, Bool.and_comm])
  go_enter Tryz.func50, Tryz.ntmps50
  by_cases h1 : 1 ≤ s.length
  · have g1 : (0 : Int) < (s.length : Int) := by omega
    by_cases h2 : s.length ≤ 12
    · have g2 : (s.length : Int) ≤ 12 := by omega
      obtain rfl : true = lb := by rw [← hlb]; simp [h1, h2]
      clear hlb h1 h2
      go_wp2_with fail
      go_loopw [3, 4] (fun o i wr => ∃ k : Nat, k ≤ s.length ∧ i = .int .i64 k ∧ o = .bool (true && (s.take k).all markC) ∧ wr = w) (fun _ i _ => s.length - (intOf i).toNat)
      case atStart => exact ⟨0, Nat.zero_le _, rfl, rfl, rfl⟩
      case round =>
        obtain ⟨k, hk, rfl, rfl, rfl⟩ := hrel
        by_cases hlt : k < s.length
        · have hlt' : (k : Int) < (s.length : Int) := by omega
          obtain ⟨c, hc⟩ : ∃ c, s[k]? = some c := ⟨_, List.getElem?_eq_getElem hlt⟩
          have hi : ∀ h, (⟨s.toArray⟩ : ByteArray)[k]'h = c := fun h => (List.getElem?_eq_some_iff.1 hc).2
          have HT := Lib.hid (mark_take hc)
          clear hc
          obtain ⟨b, hb⟩ : ∃ b, smallC c = b := ⟨_, rfl⟩
          obtain ⟨pb, hpb⟩ : ∃ b, (s.take k).all markC = b := ⟨_, rfl⟩
          have HT2 := Lib.hid (show (s.take (k + 1)).all markC = (pb && (b || c == 63)) from by rw [HT.out, hpb]; unfold markC; rw [hb])
          rw [hpb]
          have CL := Lib.hid (show ∀ W, Calls Tryz.prog 97 #[.int .u8 c.toNat] W fun e w' => e = .returned (.bool b) ∧ w' = W from fun W => by rw [← hb]; exact letter_any c W)
          clear HT hpb hb
          by_cases h63 : c = 63
          · have h63' : (c == 63) = true := by simp [h63]
            have HT3 := Lib.hid (show (s.take (k + 1)).all markC = pb from by rw [HT2.out, h63']; simp)
            have hq : ((c.toNat : Int) == 63) = true := by rw [h63]; rfl
            clear HT2 h63 h63'
            cases pb <;> cases b
            all_goals
              go_wp2_with (go_at_call 97; refine (CL.out _).mono ?_; rintro e w' ⟨rfl, rfl⟩)
              exact ⟨⟨k + 1, by omega, by go_num, by rw [HT3.out] <;> rfl, by first | rfl | trivial⟩, by simp [intOf]; omega⟩
          · have hq : ((c.toNat : Int) == 63) = false := by
              have := byte63 h63
              simpa using this
            have h63' : (c == 63) = false := by simp [h63]
            have HT3 := Lib.hid (show (s.take (k + 1)).all markC = (pb && b) from by rw [HT2.out, h63']; simp)
            clear HT2 h63 h63'
            cases pb <;> cases b
            all_goals
              go_wp2_with (go_at_call 97; refine (CL.out _).mono ?_; rintro e w' ⟨rfl, rfl⟩)
              exact ⟨⟨k + 1, by omega, by go_num, by rw [HT3.out] <;> rfl, by first | rfl | trivial⟩, by simp [intOf]; omega⟩
        · have hltg : ¬ (k : Int) < (s.length : Int) := by omega
          have HE := Lib.hid (show isMark s = (true && (s.take k).all markC) from by rw [HM.out, List.take_of_length_le (by omega)])
          rw [← HE.out]
          clear hlt
          go_wp2_with fail
          go_ret
          exact ⟨rfl, by first | rfl | trivial⟩
    · have g2 : ¬ (s.length : Int) ≤ 12 := by omega
      obtain rfl : false = lb := by rw [← hlb]; simp [h2]
      clear hlb h1 h2
      go_wp2_with fail
      go_loopw [3, 4] (fun o i wr => ∃ k : Nat, k ≤ s.length ∧ i = .int .i64 k ∧ o = .bool (false && (s.take k).all markC) ∧ wr = w) (fun _ i _ => s.length - (intOf i).toNat)
      case atStart => exact ⟨0, Nat.zero_le _, rfl, rfl, rfl⟩
      case round =>
        obtain ⟨k, hk, rfl, rfl, rfl⟩ := hrel
        by_cases hlt : k < s.length
        · have hlt' : (k : Int) < (s.length : Int) := by omega
          obtain ⟨c, hc⟩ : ∃ c, s[k]? = some c := ⟨_, List.getElem?_eq_getElem hlt⟩
          have hi : ∀ h, (⟨s.toArray⟩ : ByteArray)[k]'h = c := fun h => (List.getElem?_eq_some_iff.1 hc).2
          have HT := Lib.hid (mark_take hc)
          clear hc
          obtain ⟨b, hb⟩ : ∃ b, smallC c = b := ⟨_, rfl⟩
          obtain ⟨pb, hpb⟩ : ∃ b, (s.take k).all markC = b := ⟨_, rfl⟩
          have HT2 := Lib.hid (show (s.take (k + 1)).all markC = (pb && (b || c == 63)) from by rw [HT.out, hpb]; unfold markC; rw [hb])
          rw [hpb]
          have CL := Lib.hid (show ∀ W, Calls Tryz.prog 97 #[.int .u8 c.toNat] W fun e w' => e = .returned (.bool b) ∧ w' = W from fun W => by rw [← hb]; exact letter_any c W)
          clear HT hpb hb
          by_cases h63 : c = 63
          · have h63' : (c == 63) = true := by simp [h63]
            have HT3 := Lib.hid (show (s.take (k + 1)).all markC = pb from by rw [HT2.out, h63']; simp)
            have hq : ((c.toNat : Int) == 63) = true := by rw [h63]; rfl
            clear HT2 h63 h63'
            cases pb <;> cases b
            all_goals
              go_wp2_with (go_at_call 97; refine (CL.out _).mono ?_; rintro e w' ⟨rfl, rfl⟩)
              exact ⟨⟨k + 1, by omega, by go_num, by rw [HT3.out] <;> rfl, by first | rfl | trivial⟩, by simp [intOf]; omega⟩
          · have hq : ((c.toNat : Int) == 63) = false := by
              have := byte63 h63
              simpa using this
            have h63' : (c == 63) = false := by simp [h63]
            have HT3 := Lib.hid (show (s.take (k + 1)).all markC = (pb && b) from by rw [HT2.out, h63']; simp)
            clear HT2 h63 h63'
            cases pb <;> cases b
            all_goals
              go_wp2_with (go_at_call 97; refine (CL.out _).mono ?_; rintro e w' ⟨rfl, rfl⟩)
              exact ⟨⟨k + 1, by omega, by go_num, by rw [HT3.out] <;> rfl, by first | rfl | trivial⟩, by simp [intOf]; omega⟩
        · have hltg : ¬ (k : Int) < (s.length : Int) := by omega
          have HE := Lib.hid (show isMark s = (false && (s.take k).all markC) from by rw [HM.out, List.take_of_length_le (by omega)])
          rw [← HE.out]
          clear hlt
          go_wp2_with fail
          go_ret
          exact ⟨rfl, by first | rfl | trivial⟩
  · have g1 : ¬ (0 : Int) < (s.length : Int) := by omega
    obtain rfl : false = lb := by rw [← hlb]; simp [h1]
    clear hlb h1
    go_wp2_with fail
    go_loopw [3, 4] (fun o i wr => ∃ k : Nat, k ≤ s.length ∧ i = .int .i64 k ∧ o = .bool (false && (s.take k).all markC) ∧ wr = w) (fun _ i _ => s.length - (intOf i).toNat)
    case atStart => exact ⟨0, Nat.zero_le _, rfl, rfl, rfl⟩
    case round =>
      obtain ⟨k, hk, rfl, rfl, rfl⟩ := hrel
      by_cases hlt : k < s.length
      · have hlt' : (k : Int) < (s.length : Int) := by omega
        obtain ⟨c, hc⟩ : ∃ c, s[k]? = some c := ⟨_, List.getElem?_eq_getElem hlt⟩
        have hi : ∀ h, (⟨s.toArray⟩ : ByteArray)[k]'h = c := fun h => (List.getElem?_eq_some_iff.1 hc).2
        have HT := Lib.hid (mark_take hc)
        clear hc
        obtain ⟨b, hb⟩ : ∃ b, smallC c = b := ⟨_, rfl⟩
        obtain ⟨pb, hpb⟩ : ∃ b, (s.take k).all markC = b := ⟨_, rfl⟩
        have HT2 := Lib.hid (show (s.take (k + 1)).all markC = (pb && (b || c == 63)) from by rw [HT.out, hpb]; unfold markC; rw [hb])
        rw [hpb]
        have CL := Lib.hid (show ∀ W, Calls Tryz.prog 97 #[.int .u8 c.toNat] W fun e w' => e = .returned (.bool b) ∧ w' = W from fun W => by rw [← hb]; exact letter_any c W)
        clear HT hpb hb
        by_cases h63 : c = 63
        · have h63' : (c == 63) = true := by simp [h63]
          have HT3 := Lib.hid (show (s.take (k + 1)).all markC = pb from by rw [HT2.out, h63']; simp)
          have hq : ((c.toNat : Int) == 63) = true := by rw [h63]; rfl
          clear HT2 h63 h63'
          cases pb <;> cases b
          all_goals
            go_wp2_with (go_at_call 97; refine (CL.out _).mono ?_; rintro e w' ⟨rfl, rfl⟩)
            exact ⟨⟨k + 1, by omega, by go_num, by rw [HT3.out] <;> rfl, by first | rfl | trivial⟩, by simp [intOf]; omega⟩
        · have hq : ((c.toNat : Int) == 63) = false := by
            have := byte63 h63
            simpa using this
          have h63' : (c == 63) = false := by simp [h63]
          have HT3 := Lib.hid (show (s.take (k + 1)).all markC = (pb && b) from by rw [HT2.out, h63']; simp)
          clear HT2 h63 h63'
          cases pb <;> cases b
          all_goals
            go_wp2_with (go_at_call 97; refine (CL.out _).mono ?_; rintro e w' ⟨rfl, rfl⟩)
            exact ⟨⟨k + 1, by omega, by go_num, by rw [HT3.out] <;> rfl, by first | rfl | trivial⟩, by simp [intOf]; omega⟩
      · have hltg : ¬ (k : Int) < (s.length : Int) := by omega
        have HE := Lib.hid (show isMark s = (false && (s.take k).all markC) from by rw [HM.out, List.take_of_length_le (by omega)])
        rw [← HE.out]
        clear hlt
        go_wp2_with fail
        go_ret
        exact ⟨rfl, by first | rfl | trivial⟩
set_option maxRecDepth 100000 in
set_option maxHeartbeats 2000000 in
theorem rmeet_any (a b : List UInt8) (ha : a.length ≤ 9223372036854775806) (hb : b.length ≤ 9223372036854775806) (w : World) :
    Calls Tryz.prog 10 #[.string ⟨a.toArray⟩, .string ⟨b.toArray⟩] w fun e w' => e = .returned (.bool (meetL a b)) ∧ Below w.heap.size w w' := by
  go_enter Tryz.func10, Tryz.ntmps10
  go_wp2_with fail
  refine (rmark_any a ha _).mono ?_
  rintro e w' ⟨rfl, rfl⟩
  go_wp2_with fail
  refine (rmark_any b hb _).mono ?_
  rintro e w' ⟨rfl, rfl⟩
  cases h1 : isMark a with
  | false =>
    have HE := Lib.hid (show meetL a b = false from by unfold meetL; rw [h1]; rfl)
    clear h1
    go_wp2_with fail
    go_ret
    exact ⟨by rw [HE.out] <;> rfl, Below.refl _ _⟩
  | true =>
  have H1 := Lib.hid h1
  clear h1
  cases h2 : isMark b with
  | false =>
    have HE := Lib.hid (show meetL a b = false from by unfold meetL; rw [h2, H1.out]; rfl)
    clear h2
    go_wp2_with fail
    go_ret
    exact ⟨by rw [HE.out] <;> rfl, Below.refl _ _⟩
  | true =>
  have H2 := Lib.hid h2
  clear h2
  by_cases hl : a.length = b.length
  case neg =>
    have HE := Lib.hid (show meetL a b = false from by unfold meetL; rw [H2.out, H1.out, decide_eq_false hl]; rfl)
    have hl1 : ((a.length : Int) != (b.length : Int)) = true := by simp; omega
    clear hl
    go_wp2_with fail
    go_ret
    exact ⟨by rw [HE.out] <;> rfl, Below.refl _ _⟩
  have HM := Lib.hid (show meetL a b = (a.zip b).all meetC from by unfold meetL; rw [H2.out, H1.out, decide_eq_true hl]; rfl)
  have hl1 : ((a.length : Int) != (b.length : Int)) = false := by simp; omega
  have HL := Lib.hid hl
  clear hl
  rename World => w
  go_wp2_with fail
  go_loopw [7] (fun i wr => ∃ k : Nat, k ≤ a.length ∧ i = .int .i64 k ∧ ((a.zip b).take k).all meetC = true ∧ Below w.heap.size w wr) (fun i _ => a.length - (intOf i).toNat)
  case atStart => exact ⟨0, Nat.zero_le _, rfl, rfl, Below.refl _ _⟩
  case round =>
    obtain ⟨k, hk, rfl, hall, hB⟩ := hrel
    have HA := Lib.hid hall
    have HB := Lib.hid hB
    clear hall hB
    by_cases hlt : k < a.length
    · have hlt' : (k : Int) < (a.length : Int) := by omega
      have hltb : k < b.length := by have := HL.out; omega
      have hltb' : (k : Int) < (b.length : Int) := by omega
      obtain ⟨c, hc⟩ : ∃ c, a[k]? = some c := ⟨_, List.getElem?_eq_getElem hlt⟩
      obtain ⟨d, hd⟩ : ∃ d, b[k]? = some d := ⟨_, List.getElem?_eq_getElem hltb⟩
      have hi : ∀ h, (⟨a.toArray⟩ : ByteArray)[k]'h = c := fun h => (List.getElem?_eq_some_iff.1 hc).2
      have hj : ∀ h, (⟨b.toArray⟩ : ByteArray)[k]'h = d := fun h => (List.getElem?_eq_some_iff.1 hd).2
      have HZ := Lib.hid (zip_at hc hd)
      clear hc hd
      by_cases q1 : c = d
      · have q1' : ((c.toNat : Int) != (d.toNat : Int)) = false := by rw [q1]; simp
        have HN := Lib.hid (take_all_snoc (p := meetC) HZ.out HA.out (by simp [meetC, q1]))
        clear q1
        go_upto_region 8 with (fail)
        refine wp_region_later (by kernel_rfl) (by kernel_rfl) ?_
        repeat (go_big_quiet_step (fail))
        refine wpQuiet_nil ?_
        intro wz hw'
        obtain ⟨⟨W, hW⟩, hw2⟩ := hw'
        obtain rfl : W = wz := hw2.symm
        have HB2 := Lib.hid (HB.out.trans (hW.mono HB.out.size))
        clear hw2 hW
        go_wp2_with fail
        exact ⟨⟨k + 1, by omega, by go_num, HN.out, HB2.out⟩, by simp [intOf]; omega⟩
      have q1' : ((c.toNat : Int) != (d.toNat : Int)) = true := by
        have : ¬ c.toNat = d.toNat := fun e => q1 (UInt8.toNat_inj.1 e)
        simp; omega
      by_cases q2 : c = 63
      · have q2' : ((c.toNat : Int) != 63) = false := by rw [q2]; rfl
        have HN := Lib.hid (take_all_snoc (p := meetC) HZ.out HA.out (by simp [meetC, q2]))
        clear q1 q2
        go_upto_region 8 with (fail)
        refine wp_region_later (by kernel_rfl) (by kernel_rfl) ?_
        repeat (go_big_quiet_step (fail))
        refine wpQuiet_nil ?_
        intro wz hw'
        obtain ⟨⟨W, hW⟩, hw2⟩ := hw'
        obtain rfl : W = wz := hw2.symm
        have HB2 := Lib.hid (HB.out.trans (hW.mono HB.out.size))
        clear hw2 hW
        go_wp2_with fail
        exact ⟨⟨k + 1, by omega, by go_num, HN.out, HB2.out⟩, by simp [intOf]; omega⟩
      have q2' := byte63 q2
      by_cases q3 : d = 63
      · have q3' : ((d.toNat : Int) != 63) = false := by rw [q3]; rfl
        have HN := Lib.hid (take_all_snoc (p := meetC) HZ.out HA.out (by simp [meetC, q3]))
        clear q1 q2 q3
        go_upto_region 8 with (fail)
        refine wp_region_later (by kernel_rfl) (by kernel_rfl) ?_
        repeat (go_big_quiet_step (fail))
        refine wpQuiet_nil ?_
        intro wz hw'
        obtain ⟨⟨W, hW⟩, hw2⟩ := hw'
        obtain rfl : W = wz := hw2.symm
        have HB2 := Lib.hid (HB.out.trans (hW.mono HB.out.size))
        clear hw2 hW
        go_wp2_with fail
        exact ⟨⟨k + 1, by omega, by go_num, HN.out, HB2.out⟩, by simp [intOf]; omega⟩
      have q3' := byte63 q3
      have HE := Lib.hid (show meetL a b = false from by rw [HM.out, all_no HZ.out (by simp [meetC, q1, q2, q3])])
      clear q1 q2 q3
      go_upto_region 8 with (fail)
      refine wp_region_later (by kernel_rfl) (by kernel_rfl) ?_
      repeat (go_big_quiet_step (fail))
      refine wpQuiet_nil ?_
      intro wz hw'
      obtain ⟨⟨W, hW⟩, hw2⟩ := hw'
      obtain rfl : W = wz := hw2.symm
      have HB2 := Lib.hid (HB.out.trans (hW.mono HB.out.size))
      clear hw2 hW
      go_wp2_with fail
      go_ret
      exact ⟨by rw [HE.out] <;> rfl, HB2.out⟩
    · have hltg : ¬ (k : Int) < (a.length : Int) := by omega
      have HE := Lib.hid (show meetL a b = true from by
        have := HA.out
        rw [List.take_of_length_le (by rw [List.length_zip]; omega)] at this
        rw [HM.out, this])
      clear hlt
      go_wp2_with fail
      go_ret
      exact ⟨by rw [HE.out] <;> rfl, HB.out⟩

theorem signs_step {s : List UInt8} {k : Nat} {c : UInt8} (h : s[k]? = some c) : ((s.take (k + 1)).filter (fun c => !(c == 63))).length = ((s.take k).filter (fun c => !(c == 63))).length + (if c = 63 then 0 else 1) := by
  rw [take_succ_snoc h, List.filter_append, List.length_append]
  by_cases hc : c = 63
  · subst hc; rfl
  · rw [if_neg hc]; simp [hc]
set_option maxHeartbeats 4000000 in
theorem rsigns_any (s : List UInt8) (hs : s.length ≤ 9223372036854775806) (w : World) :
    Calls Tryz.prog 12 #[.string ⟨s.toArray⟩] w fun e w' => e = .returned (.int .i64 (signsL s)) ∧ w' = w := by
  go_enter Tryz.func12, Tryz.ntmps12
  go_wp2_with fail
  refine (rmark_any s hs _).mono ?_
  rintro e w' ⟨rfl, rfl⟩
  cases h1 : isMark s with
  | false =>
    have HE := Lib.hid (show signsL s = 0 from by unfold signsL; rw [h1]; rfl)
    clear h1
    rename World => w
    go_wp2_with fail
    go_loopw [4, 5] (fun n i wr => n = .int .i64 0 ∧ i = .int .i64 0 ∧ wr = w) (fun _ i _ => s.length - (intOf i).toNat)
    case atStart => exact ⟨rfl, rfl, rfl⟩
    case round =>
      obtain ⟨rfl, rfl, rfl⟩ := hrel
      by_cases h0 : (0 : Int) < (s.length : Int)
      · go_wp2_with fail
        go_ret
        exact ⟨by rw [HE.out] <;> rfl, by first | rfl | trivial⟩
      · go_wp2_with fail
        go_ret
        exact ⟨by rw [HE.out] <;> rfl, by first | rfl | trivial⟩
  | true =>
    have HE := Lib.hid (show signsL s = ((s.filter (fun c => !(c == 63))).length : Int) from by unfold signsL; rw [h1]; rfl)
    clear h1
    rename World => w
    go_wp2_with fail
    go_loopw [4, 5] (fun n i wr => ∃ k : Nat, k ≤ s.length ∧ i = .int .i64 k ∧ n = .int .i64 (((s.take k).filter (fun c => !(c == 63))).length : Nat) ∧ wr = w) (fun _ i _ => s.length - (intOf i).toNat)
    case atStart => exact ⟨0, Nat.zero_le _, rfl, rfl, rfl⟩
    case round =>
      obtain ⟨k, hk, rfl, rfl, rfl⟩ := hrel
      have hle := List.length_filter_le (fun c : UInt8 => !(c == 63)) (s.take k)
      have hle2 : (s.take k).length ≤ k := List.length_take_le _ _
      by_cases hlt : k < s.length
      · have hlt' : (k : Int) < (s.length : Int) := by omega
        obtain ⟨c, hc⟩ : ∃ c, s[k]? = some c := ⟨_, List.getElem?_eq_getElem hlt⟩
        have hi : ∀ h, (⟨s.toArray⟩ : ByteArray)[k]'h = c := fun h => (List.getElem?_eq_some_iff.1 hc).2
        have HT := Lib.hid (signs_step hc)
        obtain ⟨m, hm⟩ : ∃ m, ((s.take k).filter (fun c => !(c == 63))).length = m := ⟨_, rfl⟩
        rw [hm] at hle HT ⊢
        have hmk : m ≤ k := by omega
        clear hc hm hle hle2
        by_cases h63 : c = 63
        · have hq : ((c.toNat : Int) != 63) = false := by rw [h63]; rfl
          have HT2 := Lib.hid (show ((s.take (k + 1)).filter (fun c => !(c == 63))).length = m from by rw [HT.out, if_pos h63]; omega)
          clear HT h63
          go_wp2_with fail
          exact ⟨⟨k + 1, by omega, by go_num, by rw [HT2.out] <;> rfl, by first | rfl | trivial⟩, by simp [intOf]; omega⟩
        · have hq := byte63 h63
          have HT2 := Lib.hid (show ((s.take (k + 1)).filter (fun c => !(c == 63))).length = m + 1 from by rw [HT.out, if_neg h63])
          clear HT h63
          go_wp2_with fail
          exact ⟨⟨k + 1, by omega, by go_num, by rw [HT2.out]; go_num, by first | rfl | trivial⟩, by simp [intOf]; omega⟩
      · have hltg : ¬ (k : Int) < (s.length : Int) := by omega
        rw [List.take_of_length_le (by omega), ← HE.out]
        clear hlt hle hle2
        go_wp2_with fail
        go_ret
        exact ⟨rfl, by first | rfl | trivial⟩
end Go.Proofs.YtpgojnofdgibeaaGreatDoor
