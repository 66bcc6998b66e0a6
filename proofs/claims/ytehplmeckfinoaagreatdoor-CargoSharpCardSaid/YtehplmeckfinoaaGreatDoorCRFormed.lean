/- The walks of the reference's Name, span and Formed. -/
import Derived.Test.YtehplmeckfinoaaGreatDoorCRMark
import Derived.Test.YtehplmeckfinoaaGreatDoorCFormed
import Derived.Deep.Cut
set_option linter.unusedSimpArgs false
set_option linter.unusedVariables false
namespace Go.Proofs.YtehplmeckfinoaaGreatDoor
open Go.RowKit
theorem rspan_any (lo hi a b : Int) (w : World) : Calls Tryz.prog 180 #[.agg #[.int .i64 lo, .int .i64 hi], .int .i64 a, .int .i64 b] w fun e w' => e = .returned (.bool (spanB lo hi a b)) ∧ Below w.heap.size w w' := by
 have HB := Hd ((Below.refl w.heap.size w).alloc (Nat.le_refl _) (.cells #[.int .i64 lo, .int .i64 hi] 32))
 unfold spanB
 go_enter Tryz.func180, Tryz.ntmps180
 by_cases h1 : a ≤ lo
 case neg =>
  have e1 : decide (a ≤ lo ∧ hi ≤ b ∧ lo ≤ hi) = false := by simp [h1]
  rw [e1]
  go_wp2_with fail
  go_ret
  exact ⟨rfl, HB.out⟩
 by_cases h3 : lo ≤ hi
 case neg =>
  have e1 : decide (a ≤ lo ∧ hi ≤ b ∧ lo ≤ hi) = false := by simp [h3]
  rw [e1]
  go_wp2_with fail
  go_ret
  exact ⟨rfl, HB.out⟩
 by_cases h2 : hi ≤ b
 · have e1 : decide (a ≤ lo ∧ hi ≤ b ∧ lo ≤ hi) = true := by simp [h1, h2, h3]
   rw [e1]
   go_wp2_with fail
   go_ret
   exact ⟨rfl, HB.out⟩
 · have e1 : decide (a ≤ lo ∧ hi ≤ b ∧ lo ≤ hi) = false := by simp [h2]
   rw [e1]
   go_wp2_with fail
   go_ret
   exact ⟨rfl, HB.out⟩
def nameR (i : Nat) (c : UInt8) : Bool := nameC c && (decide (0 < i) || decide (97 ≤ c.toNat))
def nameAll : Nat → List UInt8 → Bool
 | _, [] => true
 | i, c :: r => nameR i c && nameAll (i + 1) r
theorem nameAll_pos : ∀ (r : List UInt8) (i : Nat), 0 < i → nameAll i r = r.all nameC
 | [], i, h => rfl
 | c :: r, i, h => by
   simp only [nameAll, List.all_cons, nameAll_pos r (i + 1) (by omega), nameR]
   rw [decide_eq_true h]; simp
theorem nameAll_snoc : ∀ (r : List UInt8) (i : Nat) (c : UInt8), nameAll i (r ++ [c]) = (nameAll i r && nameR (i + r.length) c)
 | [], i, c => by simp [nameAll]
 | d :: r, i, c => by
   simp only [List.cons_append, nameAll, nameAll_snoc r (i + 1) c, List.length_cons, Bool.and_assoc]
   rw [show i + 1 + r.length = i + (r.length + 1) by omega]
theorem isName_is (s : List UInt8) : isName s = (decide (1 ≤ s.length ∧ s.length ≤ 24) && nameAll 0 s) := by
 unfold isName
 cases s with
 | nil => simp
 | cons c r =>
   simp only [nameAll, List.all_cons, nameAll_pos r (0 + 1) (by omega)]
   rw [Bool.and_assoc]
   congr 1
   unfold nameR
   rw [decide_eq_false (show ¬ 0 < 0 by omega), Bool.false_or]
   by_cases h1 : 97 ≤ c.toNat
   · rw [decide_eq_true h1]
     by_cases h2 : c.toNat ≤ 122
     · rw [decide_eq_true (show 97 ≤ c.toNat ∧ c.toNat ≤ 122 from ⟨h1, h2⟩)]; simp
     · rw [decide_eq_false (show ¬ (97 ≤ c.toNat ∧ c.toNat ≤ 122) by omega)]
       have : nameC c = false := by
        unfold nameC smallC
        rw [decide_eq_false (by omega)]
        have : ¬ c = 45 := fun e => by subst e; exact absurd h1 (by decide)
        simp [this]
       rw [this]; simp
   · rw [decide_eq_false h1, decide_eq_false (show ¬ (97 ≤ c.toNat ∧ c.toNat ≤ 122) by omega)]; simp
theorem name_take {s : List UInt8} {k : Nat} {c : UInt8} (h : s[k]? = some c) : nameAll 0 (s.take (k + 1)) = (nameAll 0 (s.take k) && nameR k c) := by
 rw [take_succ_snoc h, nameAll_snoc]
 have := (List.getElem?_eq_some_iff.1 h).1
 rw [List.length_take, show 0 + min k s.length = k by omega]
set_option maxHeartbeats 4000000 in
theorem rname_any (s : List UInt8) (hs : s.length ≤ 9223372036854775806) (w : World) : Calls Tryz.prog 182 #[.string ⟨s.toArray⟩] w fun e w' => e = .returned (.bool (isName s)) ∧ w' = w := by
 obtain ⟨lb, hlb⟩ : ∃ b, decide (1 ≤ s.length ∧ s.length ≤ 24) = b := ⟨_, rfl⟩
 have HM := Hd (show isName s = (lb && nameAll 0 s) from by rw [isName_is, hlb])
 go_enter Tryz.func182, Tryz.ntmps182
 by_cases h1 : 1 ≤ s.length
 · have g1 : (0 : Int) < (s.length : Int) := by omega
   by_cases h2 : s.length ≤ 24
   · have g2 : (s.length : Int) ≤ 24 := by omega
     obtain rfl : true = lb := by rw [← hlb]; simp [h1, h2]
     clear hlb h1 h2
     go_wp2_with fail
     go_loopw [3, 4] (fun o i wr => ∃ k : Nat, k ≤ s.length ∧ i = .int .i64 k ∧ o = .bool (true && nameAll 0 (s.take k)) ∧ wr = w) (fun _ i _ => s.length - (intOf i).toNat)
     case atStart => exact ⟨0, Nat.zero_le _, rfl, rfl, rfl⟩
     case round =>
      obtain ⟨k, hk, rfl, rfl, rfl⟩ := hrel
      by_cases hlt : k < s.length
      · have hlt' : (k : Int) < (s.length : Int) := by omega
        obtain ⟨c, hc⟩ : ∃ c, s[k]? = some c := ⟨_, List.getElem?_eq_getElem hlt⟩
        have hi : ∀ h, (⟨s.toArray⟩ : ByteArray)[k]'h = c := fun h => (List.getElem?_eq_some_iff.1 hc).2
        have HT := Hd (name_take hc)
        clear hc
        obtain ⟨b, hb⟩ : ∃ b, smallC c = b := ⟨_, rfl⟩
        obtain ⟨pb, hpb⟩ : ∃ b, nameAll 0 (s.take k) = b := ⟨_, rfl⟩
        obtain ⟨rb, hrb⟩ : ∃ b, nameR k c = b := ⟨_, rfl⟩
        have HT2 := Hd (show nameAll 0 (s.take (k + 1)) = (pb && rb) from by rw [HT.out, hpb, hrb])
        have HR := Hd (show rb = ((b || c == 45) && (decide (0 < k) || decide (97 ≤ c.toNat))) from by rw [← hrb, ← hb]; rfl)
        rw [hpb]
        have CL := Hd (show ∀ W, Calls Tryz.prog 199 #[.int .u8 c.toNat] W fun e w' => e = .returned (.bool b) ∧ w' = W from fun W => by rw [← hb]; exact letter_any c W)
        clear HT hpb hb hrb
        obtain ⟨q, hq⟩ : ∃ q, ((c.toNat : Int) == 45) = q := ⟨_, rfl⟩
        have HQ := Hd (show (c == 45) = q from by
         rw [← hq]
         by_cases h : c = 45
         · subst h; rfl
         · have h1 := byte45 h
           have h2 : (c == 45) = false := by simp [h]
           rw [h2]
           have : ((c.toNat : Int) == 45) = false := by simpa using h1
           rw [this])
        by_cases hk0 : 0 < k
        · have hk0' : (0 : Int) < (k : Int) := by omega
          have HR2 := Hd (show rb = (b || q) from by rw [HR.out, HQ.out, decide_eq_true hk0]; simp)
          clear HR HQ hk0
          cases pb <;> cases b <;> cases q
          all_goals
           go_wp2_with (go_at_call 199; refine (CL.out _).mono ?_; rintro e w' ⟨rfl, rfl⟩)
           exact ⟨⟨k + 1, by omega, by go_num, by rw [HT2.out, HR2.out] <;> rfl, by first | rfl | trivial⟩, by simp [intOf]; omega⟩
        · have hk0' : ¬ (0 : Int) < (k : Int) := by omega
          have hi0 : ∀ h, (⟨s.toArray⟩ : ByteArray)[0]'h = c := by
           obtain rfl : k = 0 := by omega
           exact hi
          by_cases h97 : 97 ≤ c.toNat
          · have h97' : (97 : Int) ≤ (c.toNat : Int) := by omega
            have HR2 := Hd (show rb = (b || q) from by rw [HR.out, HQ.out, decide_eq_true h97]; simp)
            clear HR HQ hk0 h97
            cases pb <;> cases b <;> cases q
            all_goals
             go_wp2_with (go_at_call 199; refine (CL.out _).mono ?_; rintro e w' ⟨rfl, rfl⟩)
             exact ⟨⟨k + 1, by omega, by go_num, by rw [HT2.out, HR2.out] <;> rfl, by first | rfl | trivial⟩, by simp [intOf]; omega⟩
          · have h97' : decide ((97 : Int) ≤ (c.toNat : Int)) = false := decide_eq_false (by omega)
            have HR2 := Hd (show rb = false from by rw [HR.out, decide_eq_false h97, decide_eq_false hk0]; simp)
            clear HR HQ hk0 h97
            cases pb <;> cases b <;> cases q
            all_goals
             go_wp2_with (go_at_call 199; refine (CL.out _).mono ?_; rintro e w' ⟨rfl, rfl⟩)
             exact ⟨⟨k + 1, by omega, by go_num, by rw [HT2.out, HR2.out] <;> rfl, by first | rfl | trivial⟩, by simp [intOf]; omega⟩
      · have hltg : ¬ (k : Int) < (s.length : Int) := by omega
        have HE := Hd (show isName s = (true && nameAll 0 (s.take k)) from by rw [HM.out, List.take_of_length_le (by omega)])
        rw [← HE.out]
        clear hlt
        go_wp2_with fail
        go_ret
        exact ⟨rfl, by first | rfl | trivial⟩
   · have g2 : ¬ (s.length : Int) ≤ 24 := by omega
     obtain rfl : false = lb := by rw [← hlb]; simp [h2]
     clear hlb h1 h2
     go_wp2_with fail
     go_loopw [3, 4] (fun o i wr => ∃ k : Nat, k ≤ s.length ∧ i = .int .i64 k ∧ o = .bool (false && nameAll 0 (s.take k)) ∧ wr = w) (fun _ i _ => s.length - (intOf i).toNat)
     case atStart => exact ⟨0, Nat.zero_le _, rfl, rfl, rfl⟩
     case round =>
      obtain ⟨k, hk, rfl, rfl, rfl⟩ := hrel
      by_cases hlt : k < s.length
      · have hlt' : (k : Int) < (s.length : Int) := by omega
        obtain ⟨c, hc⟩ : ∃ c, s[k]? = some c := ⟨_, List.getElem?_eq_getElem hlt⟩
        have hi : ∀ h, (⟨s.toArray⟩ : ByteArray)[k]'h = c := fun h => (List.getElem?_eq_some_iff.1 hc).2
        have HT := Hd (name_take hc)
        clear hc
        obtain ⟨b, hb⟩ : ∃ b, smallC c = b := ⟨_, rfl⟩
        obtain ⟨pb, hpb⟩ : ∃ b, nameAll 0 (s.take k) = b := ⟨_, rfl⟩
        obtain ⟨rb, hrb⟩ : ∃ b, nameR k c = b := ⟨_, rfl⟩
        have HT2 := Hd (show nameAll 0 (s.take (k + 1)) = (pb && rb) from by rw [HT.out, hpb, hrb])
        have HR := Hd (show rb = ((b || c == 45) && (decide (0 < k) || decide (97 ≤ c.toNat))) from by rw [← hrb, ← hb]; rfl)
        rw [hpb]
        have CL := Hd (show ∀ W, Calls Tryz.prog 199 #[.int .u8 c.toNat] W fun e w' => e = .returned (.bool b) ∧ w' = W from fun W => by rw [← hb]; exact letter_any c W)
        clear HT hpb hb hrb
        obtain ⟨q, hq⟩ : ∃ q, ((c.toNat : Int) == 45) = q := ⟨_, rfl⟩
        have HQ := Hd (show (c == 45) = q from by
         rw [← hq]
         by_cases h : c = 45
         · subst h; rfl
         · have h1 := byte45 h
           have h2 : (c == 45) = false := by simp [h]
           rw [h2]
           have : ((c.toNat : Int) == 45) = false := by simpa using h1
           rw [this])
        by_cases hk0 : 0 < k
        · have hk0' : (0 : Int) < (k : Int) := by omega
          have HR2 := Hd (show rb = (b || q) from by rw [HR.out, HQ.out, decide_eq_true hk0]; simp)
          clear HR HQ hk0
          cases pb <;> cases b <;> cases q
          all_goals
           go_wp2_with (go_at_call 199; refine (CL.out _).mono ?_; rintro e w' ⟨rfl, rfl⟩)
           exact ⟨⟨k + 1, by omega, by go_num, by rw [HT2.out, HR2.out] <;> rfl, by first | rfl | trivial⟩, by simp [intOf]; omega⟩
        · have hk0' : ¬ (0 : Int) < (k : Int) := by omega
          have hi0 : ∀ h, (⟨s.toArray⟩ : ByteArray)[0]'h = c := by
           obtain rfl : k = 0 := by omega
           exact hi
          by_cases h97 : 97 ≤ c.toNat
          · have h97' : (97 : Int) ≤ (c.toNat : Int) := by omega
            have HR2 := Hd (show rb = (b || q) from by rw [HR.out, HQ.out, decide_eq_true h97]; simp)
            clear HR HQ hk0 h97
            cases pb <;> cases b <;> cases q
            all_goals
             go_wp2_with (go_at_call 199; refine (CL.out _).mono ?_; rintro e w' ⟨rfl, rfl⟩)
             exact ⟨⟨k + 1, by omega, by go_num, by rw [HT2.out, HR2.out] <;> rfl, by first | rfl | trivial⟩, by simp [intOf]; omega⟩
          · have h97' : decide ((97 : Int) ≤ (c.toNat : Int)) = false := decide_eq_false (by omega)
            have HR2 := Hd (show rb = false from by rw [HR.out, decide_eq_false h97, decide_eq_false hk0]; simp)
            clear HR HQ hk0 h97
            cases pb <;> cases b <;> cases q
            all_goals
             go_wp2_with (go_at_call 199; refine (CL.out _).mono ?_; rintro e w' ⟨rfl, rfl⟩)
             exact ⟨⟨k + 1, by omega, by go_num, by rw [HT2.out, HR2.out] <;> rfl, by first | rfl | trivial⟩, by simp [intOf]; omega⟩
      · have hltg : ¬ (k : Int) < (s.length : Int) := by omega
        have HE := Hd (show isName s = (false && nameAll 0 (s.take k)) from by rw [HM.out, List.take_of_length_le (by omega)])
        rw [← HE.out]
        clear hlt
        go_wp2_with fail
        go_ret
        exact ⟨rfl, by first | rfl | trivial⟩
 · have g1 : ¬ (0 : Int) < (s.length : Int) := by omega
   obtain rfl : false = lb := by rw [← hlb]; simp [h1]
   clear hlb h1
   go_wp2_with fail
   go_loopw [3, 4] (fun o i wr => ∃ k : Nat, k ≤ s.length ∧ i = .int .i64 k ∧ o = .bool (false && nameAll 0 (s.take k)) ∧ wr = w) (fun _ i _ => s.length - (intOf i).toNat)
   case atStart => exact ⟨0, Nat.zero_le _, rfl, rfl, rfl⟩
   case round =>
    obtain ⟨k, hk, rfl, rfl, rfl⟩ := hrel
    by_cases hlt : k < s.length
    · have hlt' : (k : Int) < (s.length : Int) := by omega
      obtain ⟨c, hc⟩ : ∃ c, s[k]? = some c := ⟨_, List.getElem?_eq_getElem hlt⟩
      have hi : ∀ h, (⟨s.toArray⟩ : ByteArray)[k]'h = c := fun h => (List.getElem?_eq_some_iff.1 hc).2
      have HT := Hd (name_take hc)
      clear hc
      obtain ⟨b, hb⟩ : ∃ b, smallC c = b := ⟨_, rfl⟩
      obtain ⟨pb, hpb⟩ : ∃ b, nameAll 0 (s.take k) = b := ⟨_, rfl⟩
      obtain ⟨rb, hrb⟩ : ∃ b, nameR k c = b := ⟨_, rfl⟩
      have HT2 := Hd (show nameAll 0 (s.take (k + 1)) = (pb && rb) from by rw [HT.out, hpb, hrb])
      have HR := Hd (show rb = ((b || c == 45) && (decide (0 < k) || decide (97 ≤ c.toNat))) from by rw [← hrb, ← hb]; rfl)
      rw [hpb]
      have CL := Hd (show ∀ W, Calls Tryz.prog 199 #[.int .u8 c.toNat] W fun e w' => e = .returned (.bool b) ∧ w' = W from fun W => by rw [← hb]; exact letter_any c W)
      clear HT hpb hb hrb
      obtain ⟨q, hq⟩ : ∃ q, ((c.toNat : Int) == 45) = q := ⟨_, rfl⟩
      have HQ := Hd (show (c == 45) = q from by
       rw [← hq]
       by_cases h : c = 45
       · subst h; rfl
       · have h1 := byte45 h
         have h2 : (c == 45) = false := by simp [h]
         rw [h2]
         have : ((c.toNat : Int) == 45) = false := by simpa using h1
         rw [this])
      by_cases hk0 : 0 < k
      · have hk0' : (0 : Int) < (k : Int) := by omega
        have HR2 := Hd (show rb = (b || q) from by rw [HR.out, HQ.out, decide_eq_true hk0]; simp)
        clear HR HQ hk0
        cases pb <;> cases b <;> cases q
        all_goals
         go_wp2_with (go_at_call 199; refine (CL.out _).mono ?_; rintro e w' ⟨rfl, rfl⟩)
         exact ⟨⟨k + 1, by omega, by go_num, by rw [HT2.out, HR2.out] <;> rfl, by first | rfl | trivial⟩, by simp [intOf]; omega⟩
      · have hk0' : ¬ (0 : Int) < (k : Int) := by omega
        have hi0 : ∀ h, (⟨s.toArray⟩ : ByteArray)[0]'h = c := by
         obtain rfl : k = 0 := by omega
         exact hi
        by_cases h97 : 97 ≤ c.toNat
        · have h97' : (97 : Int) ≤ (c.toNat : Int) := by omega
          have HR2 := Hd (show rb = (b || q) from by rw [HR.out, HQ.out, decide_eq_true h97]; simp)
          clear HR HQ hk0 h97
          cases pb <;> cases b <;> cases q
          all_goals
           go_wp2_with (go_at_call 199; refine (CL.out _).mono ?_; rintro e w' ⟨rfl, rfl⟩)
           exact ⟨⟨k + 1, by omega, by go_num, by rw [HT2.out, HR2.out] <;> rfl, by first | rfl | trivial⟩, by simp [intOf]; omega⟩
        · have h97' : decide ((97 : Int) ≤ (c.toNat : Int)) = false := decide_eq_false (by omega)
          have HR2 := Hd (show rb = false from by rw [HR.out, decide_eq_false h97, decide_eq_false hk0]; simp)
          clear HR HQ hk0 h97
          cases pb <;> cases b <;> cases q
          all_goals
           go_wp2_with (go_at_call 199; refine (CL.out _).mono ?_; rintro e w' ⟨rfl, rfl⟩)
           exact ⟨⟨k + 1, by omega, by go_num, by rw [HT2.out, HR2.out] <;> rfl, by first | rfl | trivial⟩, by simp [intOf]; omega⟩
    · have hltg : ¬ (k : Int) < (s.length : Int) := by omega
      have HE := Hd (show isName s = (false && nameAll 0 (s.take k)) from by rw [HM.out, List.take_of_length_le (by omega)])
      rw [← HE.out]
      clear hlt
      go_wp2_with fail
      go_ret
      exact ⟨rfl, by first | rfl | trivial⟩
set_option maxRecDepth 100000 in
set_option maxHeartbeats 8000000 in
theorem rformed_any (x : Pa) (hx : x.Short) (w : World) : Calls Tryz.prog 145 #[.agg #[.int .i64 x.id, .int .i64 x.known, .int .u8 x.kind, .int .i64 x.loss, .int .i64 x.pack, .int .i64 x.inn, .string ⟨x.mark.toArray⟩, .string ⟨x.goods.toArray⟩, .int .i64 x.low, .int .i64 x.high, .int .i64 x.pieces, .int .i64 x.owner, .int .i64 x.count, .int .i64 x.of]] w fun e w' => e = .returned (.bool (decide (formedP x))) ∧ Below w.heap.size w w' := by
 have hb := BoxG.made w x.vals 42
 have hB := al' (Below.refl w.heap.size w) (.cells x.vals.toArray 42)
 simp only [Pa.vals] at hb hB
 have HX0 := Hd hb
 have HB0 := Hd hB
 have HSh := Hd hx
 clear hb hB hx
 go_enter Tryz.func145, Tryz.ntmps145
 go_upto_region 1 with (fail)
 generalize w.alloc (.cells #[.int .i64 x.id, .int .i64 x.known, .int .u8 x.kind, .int .i64 x.loss, .int .i64 x.pack, .int .i64 x.inn, .string ⟨x.mark.toArray⟩, .string ⟨x.goods.toArray⟩, .int .i64 x.low, .int .i64 x.high, .int .i64 x.pieces, .int .i64 x.owner, .int .i64 x.count, .int .i64 x.of] 42) = w1 at *
 have HX1 := Hd (show BoxG w1 w.heap.size x.vals from HX0.out)
 obtain ⟨c0, c1, c2, c3, c4, c5, c6, c7, c8, c9, c10, c11, c12, c13⟩ := HX1.out.pa
 clear HX0
 have CW := Hd (fun n a b W => rwithin_any n a b W)
 by_cases hid : 1 ≤ x.id ∧ x.id ≤ 1000000
 case neg =>
  have HE := Hd (show decide (formedP x) = false from decide_eq_false (fun h => hid h.1))
  have h1 : within x.id 1 1000000 = false := decide_eq_false hid
  clear hid
  go_wp2_with fail
  refine (CW.out _ _ _ _).mono ?_
  rintro e w' ⟨rfl, rfl⟩
  rw [h1]
  go_wp2_with fail
  go_ret
  exact ⟨by rw [HE.out] <;> rfl, HB0.out⟩
 have h1 : within x.id 1 1000000 = true := decide_eq_true hid
 go_wp2_with fail
 refine (CW.out _ _ _ _).mono ?_
 rintro e w' ⟨rfl, rfl⟩
 rw [h1]
 by_cases hkn : 0 ≤ x.known ∧ x.known ≤ 1000000
 case neg =>
  have HE := Hd (show decide (formedP x) = false from decide_eq_false (fun h => hkn h.2.1))
  have h2 : within x.known 0 1000000 = false := decide_eq_false hkn
  clear hid hkn h1
  go_wp2_with fail
  refine (CW.out _ _ _ _).mono ?_
  rintro e w' ⟨rfl, rfl⟩
  rw [h2]
  go_wp2_with fail
  go_ret
  exact ⟨by rw [HE.out] <;> rfl, HB0.out⟩
 have h2 : within x.known 0 1000000 = true := decide_eq_true hkn
 have HIK := Hd (And.intro hid hkn)
 clear hid hkn h1
 go_wp2_with fail
 refine (CW.out _ _ _ _).mono ?_
 rintro e w' ⟨rfl, rfl⟩
 rw [h2]
 clear h2
 go_upto_region 4 with (fail)
 -- the reference's own paper
 have hb := BoxG.made w' (Pa.vals { pa0 with id := x.id, known := x.known, kind := x.kind }) 42
 have hB := al' (Below.refl w'.heap.size w') (.cells (Pa.vals { pa0 with id := x.id, known := x.known, kind := x.kind }).toArray 42)
 have hy := HX1.out.below' hB
 have hB2 := HB0.out.alloc HB0.out.size (.cells (Pa.vals { pa0 with id := x.id, known := x.known, kind := x.kind }).toArray 42)
 have hlt : w.heap.size < w'.heap.size := HX1.out.1
 simp only [Pa.vals, pa0] at hb hB hy hB2
 generalize w'.alloc (.cells #[.int .i64 x.id, .int .i64 x.known, .int .u8 x.kind, .int .i64 0, .int .i64 0, .int .i64 0, .string ⟨#[]⟩, .string ⟨#[]⟩, .int .i64 0, .int .i64 0, .int .i64 0, .int .i64 0, .int .i64 0, .int .i64 0] 42) = w2 at *
 obtain ⟨B2, hB2e⟩ : ∃ B, w'.heap.size = B := ⟨_, rfl⟩
 rw [hB2e] at hb hlt ⊢
 have HX2 := Hd (show BoxG w2 w.heap.size x.vals from hy)
 have HY2 := Hd (show BoxG w2 B2 (Pa.vals { pa0 with id := x.id, known := x.known, kind := x.kind }) from hb)
 have HB2 := Hd hB2
 have HLT := Hd hlt
 clear hb hB hy hB2 hlt hB2e HB0 HX1 c0 c1 c2 c3 c4 c5 c6 c7 c8 c9 c10 c11 c12 c13
 obtain ⟨c0, c1, c2, c3, c4, c5, c6, c7, c8, c9, c10, c11, c12, c13⟩ := HX2.out.pa
 by_cases k3 : x.kind = 3
 case pos =>
  have e3 : (x.kind == 3) = true := by simp [k3]
  have HD := Hd (show decide (formedP x) = (within x.of 1 1000000 && decide (x.loss = 0) && decide (x.pack = 0) && decide (x.inn = 0) && decide (x.mark = []) && decide (x.goods = []) && decide (x.low = 0) && decide (x.high = 0) && decide (x.pieces = 0) && decide (x.owner = 0) && decide (x.count = 0)) from by
   rw [Bool.eq_iff_iff, decide_eq_true_eq, formed_3 k3 HIK.out]
   simp only [Bool.and_eq_true, decide_eq_true_eq, and_assoc])
  clear k3
  obtain ⟨d0, d1, d2, d3, d4, d5, d6, d7, d8, d9, d10, d11, d12, d13⟩ := HY2.out.pa
  dsimp only [pa0] at d0 d1 d2 d3 d4 d5 d6 d7 d8 d9 d10 d11 d12 d13
  obtain ⟨g0, g1, g2, g3, g4, g5, g6, g7, g8, g9, g10, g11, g12, g13⟩ := HY2.out.fr
  go_upto_region 6 with (fail)
  have hz : BoxG (w2.setCell ⟨B2, 13, none⟩ (.int .i64 x.of)) B2 (Pa.vals { pa0 with id := x.id, known := x.known, kind := x.kind, of := x.of }) := (HY2.out.set 13 (.int .i64 x.of) (by simp [Pa.vals]))
  have hx5 : BoxG (w2.setCell ⟨B2, 13, none⟩ (.int .i64 x.of)) w.heap.size x.vals := (HX2.out.aside (Nat.ne_of_lt HLT.out) 13 (.int .i64 x.of))
  have hb5 := (HB2.out.setCell (p := ⟨B2, 13, none⟩) (Nat.le_of_lt HLT.out) (.int .i64 x.of))
  clear c0 c1 c2 c3 c4 c5 c6 c7 c8 c9 c10 c11 c12 c13 d0 d1 d2 d3 d4 d5 d6 d7 d8 d9 d10 d11 d12 d13 g0 g1 g2 g3 g4 g5 g6 g7 g8 g9 g10 g11 g12 g13 HX2 HY2 HB2
  generalize (w2.setCell ⟨B2, 13, none⟩ (.int .i64 x.of)) = w5 at *
  have HZ := Hd hz
  have HX := Hd hx5
  have HB := Hd hb5
  clear hz hx5 hb5
  obtain ⟨c0, c1, c2, c3, c4, c5, c6, c7, c8, c9, c10, c11, c12, c13⟩ := HX.out.pa
  obtain ⟨d0, d1, d2, d3, d4, d5, d6, d7, d8, d9, d10, d11, d12, d13⟩ := HZ.out.pa
  dsimp only [pa0] at d0 d1 d2 d3 d4 d5 d6 d7 d8 d9 d10 d11 d12 d13
  clear e3
  by_cases z_loss : x.loss = 0
  case neg =>
   have q_loss : (x.loss == 0) = false := by simp [z_loss]
   have HN := Hd (show decide (x.loss = 0) = false from decide_eq_false z_loss)
   clear z_loss
   go_wp2_with fail
   go_ret
   exact ⟨by rw [HD.out] <;> simp [HN.out], HB.out⟩
  have q_loss : (x.loss == 0) = true := by simp [z_loss]
  have Z_loss := Hd (show decide (x.loss = 0) = true from decide_eq_true z_loss)
  clear z_loss
  by_cases z_pack : x.pack = 0
  case neg =>
   have q_pack : (x.pack == 0) = false := by simp [z_pack]
   have HN := Hd (show decide (x.pack = 0) = false from decide_eq_false z_pack)
   clear z_pack
   go_wp2_with fail
   go_ret
   exact ⟨by rw [HD.out] <;> simp [Z_loss.out, HN.out], HB.out⟩
  have q_pack : (x.pack == 0) = true := by simp [z_pack]
  have Z_pack := Hd (show decide (x.pack = 0) = true from decide_eq_true z_pack)
  clear z_pack
  by_cases z_inn : x.inn = 0
  case neg =>
   have q_inn : (x.inn == 0) = false := by simp [z_inn]
   have HN := Hd (show decide (x.inn = 0) = false from decide_eq_false z_inn)
   clear z_inn
   go_wp2_with fail
   go_ret
   exact ⟨by rw [HD.out] <;> simp [Z_loss.out, Z_pack.out, HN.out], HB.out⟩
  have q_inn : (x.inn == 0) = true := by simp [z_inn]
  have Z_inn := Hd (show decide (x.inn = 0) = true from decide_eq_true z_inn)
  clear z_inn
  by_cases z_mark : x.mark = []
  case neg =>
   have q_mark : (x.mark == []) = false := by simp [z_mark]
   have HN := Hd (show decide (x.mark = []) = false from decide_eq_false z_mark)
   clear z_mark
   go_wp2_with fail
   go_ret
   exact ⟨by rw [HD.out] <;> simp [Z_loss.out, Z_pack.out, Z_inn.out, HN.out], HB.out⟩
  have q_mark : (x.mark == []) = true := by simp [z_mark]
  have Z_mark := Hd (show decide (x.mark = []) = true from decide_eq_true z_mark)
  clear z_mark
  by_cases z_goods : x.goods = []
  case neg =>
   have q_goods : (x.goods == []) = false := by simp [z_goods]
   have HN := Hd (show decide (x.goods = []) = false from decide_eq_false z_goods)
   clear z_goods
   go_wp2_with fail
   go_ret
   exact ⟨by rw [HD.out] <;> simp [Z_loss.out, Z_pack.out, Z_inn.out, Z_mark.out, HN.out], HB.out⟩
  have q_goods : (x.goods == []) = true := by simp [z_goods]
  have Z_goods := Hd (show decide (x.goods = []) = true from decide_eq_true z_goods)
  clear z_goods
  by_cases z_low : x.low = 0
  case neg =>
   have q_low : (x.low == 0) = false := by simp [z_low]
   have HN := Hd (show decide (x.low = 0) = false from decide_eq_false z_low)
   clear z_low
   go_wp2_with fail
   go_ret
   exact ⟨by rw [HD.out] <;> simp [Z_loss.out, Z_pack.out, Z_inn.out, Z_mark.out, Z_goods.out, HN.out], HB.out⟩
  have q_low : (x.low == 0) = true := by simp [z_low]
  have Z_low := Hd (show decide (x.low = 0) = true from decide_eq_true z_low)
  clear z_low
  by_cases z_high : x.high = 0
  case neg =>
   have q_high : (x.high == 0) = false := by simp [z_high]
   have HN := Hd (show decide (x.high = 0) = false from decide_eq_false z_high)
   clear z_high
   go_wp2_with fail
   go_ret
   exact ⟨by rw [HD.out] <;> simp [Z_loss.out, Z_pack.out, Z_inn.out, Z_mark.out, Z_goods.out, Z_low.out, HN.out], HB.out⟩
  have q_high : (x.high == 0) = true := by simp [z_high]
  have Z_high := Hd (show decide (x.high = 0) = true from decide_eq_true z_high)
  clear z_high
  by_cases z_pieces : x.pieces = 0
  case neg =>
   have q_pieces : (x.pieces == 0) = false := by simp [z_pieces]
   have HN := Hd (show decide (x.pieces = 0) = false from decide_eq_false z_pieces)
   clear z_pieces
   go_wp2_with fail
   go_ret
   exact ⟨by rw [HD.out] <;> simp [Z_loss.out, Z_pack.out, Z_inn.out, Z_mark.out, Z_goods.out, Z_low.out, Z_high.out, HN.out], HB.out⟩
  have q_pieces : (x.pieces == 0) = true := by simp [z_pieces]
  have Z_pieces := Hd (show decide (x.pieces = 0) = true from decide_eq_true z_pieces)
  clear z_pieces
  by_cases z_owner : x.owner = 0
  case neg =>
   have q_owner : (x.owner == 0) = false := by simp [z_owner]
   have HN := Hd (show decide (x.owner = 0) = false from decide_eq_false z_owner)
   clear z_owner
   go_wp2_with fail
   go_ret
   exact ⟨by rw [HD.out] <;> simp [Z_loss.out, Z_pack.out, Z_inn.out, Z_mark.out, Z_goods.out, Z_low.out, Z_high.out, Z_pieces.out, HN.out], HB.out⟩
  have q_owner : (x.owner == 0) = true := by simp [z_owner]
  have Z_owner := Hd (show decide (x.owner = 0) = true from decide_eq_true z_owner)
  clear z_owner
  by_cases z_count : x.count = 0
  case neg =>
   have q_count : (x.count == 0) = false := by simp [z_count]
   have HN := Hd (show decide (x.count = 0) = false from decide_eq_false z_count)
   clear z_count
   go_wp2_with fail
   go_ret
   exact ⟨by rw [HD.out] <;> simp [Z_loss.out, Z_pack.out, Z_inn.out, Z_mark.out, Z_goods.out, Z_low.out, Z_high.out, Z_pieces.out, Z_owner.out, HN.out], HB.out⟩
  have q_count : (x.count == 0) = true := by simp [z_count]
  have Z_count := Hd (show decide (x.count = 0) = true from decide_eq_true z_count)
  clear z_count
  obtain ⟨b11, hb11⟩ : ∃ b, within x.of 1 1000000 = b := ⟨_, rfl⟩
  have HB11' := Hd hb11
  go_wp2_with fail
  refine (CW.out _ _ _ _).mono ?_
  rintro e w5 ⟨rfl, rfl⟩
  rw [hb11]
  clear hb11
  cases b11 with
  | false =>
    go_wp2_with fail
    go_ret
    exact ⟨by rw [HD.out] <;> simp [Z_loss.out, Z_pack.out, Z_inn.out, Z_mark.out, Z_goods.out, Z_low.out, Z_high.out, Z_pieces.out, Z_owner.out, Z_count.out, HB11'.out], HB.out⟩
  | true =>
  go_wp2_with fail
  go_ret
  exact ⟨by rw [HD.out] <;> simp [Z_loss.out, Z_pack.out, Z_inn.out, Z_mark.out, Z_goods.out, Z_low.out, Z_high.out, Z_pieces.out, Z_owner.out, Z_count.out, HB11'.out], HB.out⟩
 have e3 : (x.kind == 3) = false := by simp [k3]
 by_cases k2 : x.kind = 2
 case pos =>
  have e2 : (x.kind == 2) = true := by simp [k2]
  have HD := Hd (show decide (formedP x) = (within x.loss 1 20 && within x.pack 0 200 && within x.count 0 40 && spanB x.low x.high 0 10000000 && decide (x.inn = 0) && decide (x.mark = []) && decide (x.goods = []) && decide (x.pieces = 0) && decide (x.owner = 0) && decide (x.of = 0)) from by
   rw [Bool.eq_iff_iff, decide_eq_true_eq, formed_2 k2 HIK.out]
   simp only [Bool.and_eq_true, decide_eq_true_eq, and_assoc])
  clear k3 k2
  obtain ⟨d0, d1, d2, d3, d4, d5, d6, d7, d8, d9, d10, d11, d12, d13⟩ := HY2.out.pa
  dsimp only [pa0] at d0 d1 d2 d3 d4 d5 d6 d7 d8 d9 d10 d11 d12 d13
  obtain ⟨g0, g1, g2, g3, g4, g5, g6, g7, g8, g9, g10, g11, g12, g13⟩ := HY2.out.fr
  go_upto_region 12 with (fail)
  have hz : BoxG (((((w2.setCell ⟨B2, 3, none⟩ (.int .i64 x.loss)).setCell ⟨B2, 4, none⟩ (.int .i64 x.pack)).setCell ⟨B2, 8, none⟩ (.int .i64 x.low)).setCell ⟨B2, 9, none⟩ (.int .i64 x.high)).setCell ⟨B2, 12, none⟩ (.int .i64 x.count)) B2 (Pa.vals { pa0 with id := x.id, known := x.known, kind := x.kind, loss := x.loss, pack := x.pack, low := x.low, high := x.high, count := x.count }) := (((((HY2.out.set 3 (.int .i64 x.loss) (by simp [Pa.vals])).set 4 (.int .i64 x.pack) (by simp [Pa.vals])).set 8 (.int .i64 x.low) (by simp [Pa.vals])).set 9 (.int .i64 x.high) (by simp [Pa.vals])).set 12 (.int .i64 x.count) (by simp [Pa.vals]))
  have hx5 : BoxG (((((w2.setCell ⟨B2, 3, none⟩ (.int .i64 x.loss)).setCell ⟨B2, 4, none⟩ (.int .i64 x.pack)).setCell ⟨B2, 8, none⟩ (.int .i64 x.low)).setCell ⟨B2, 9, none⟩ (.int .i64 x.high)).setCell ⟨B2, 12, none⟩ (.int .i64 x.count)) w.heap.size x.vals := (((((HX2.out.aside (Nat.ne_of_lt HLT.out) 3 (.int .i64 x.loss)).aside (Nat.ne_of_lt HLT.out) 4 (.int .i64 x.pack)).aside (Nat.ne_of_lt HLT.out) 8 (.int .i64 x.low)).aside (Nat.ne_of_lt HLT.out) 9 (.int .i64 x.high)).aside (Nat.ne_of_lt HLT.out) 12 (.int .i64 x.count))
  have hb5 := (((((HB2.out.setCell (p := ⟨B2, 3, none⟩) (Nat.le_of_lt HLT.out) (.int .i64 x.loss)).setCell (p := ⟨B2, 4, none⟩) (Nat.le_of_lt HLT.out) (.int .i64 x.pack)).setCell (p := ⟨B2, 8, none⟩) (Nat.le_of_lt HLT.out) (.int .i64 x.low)).setCell (p := ⟨B2, 9, none⟩) (Nat.le_of_lt HLT.out) (.int .i64 x.high)).setCell (p := ⟨B2, 12, none⟩) (Nat.le_of_lt HLT.out) (.int .i64 x.count))
  clear c0 c1 c2 c3 c4 c5 c6 c7 c8 c9 c10 c11 c12 c13 d0 d1 d2 d3 d4 d5 d6 d7 d8 d9 d10 d11 d12 d13 g0 g1 g2 g3 g4 g5 g6 g7 g8 g9 g10 g11 g12 g13 HX2 HY2 HB2
  generalize (((((w2.setCell ⟨B2, 3, none⟩ (.int .i64 x.loss)).setCell ⟨B2, 4, none⟩ (.int .i64 x.pack)).setCell ⟨B2, 8, none⟩ (.int .i64 x.low)).setCell ⟨B2, 9, none⟩ (.int .i64 x.high)).setCell ⟨B2, 12, none⟩ (.int .i64 x.count)) = w5 at *
  have HZ := Hd hz
  have HX := Hd hx5
  have HB := Hd hb5
  clear hz hx5 hb5
  clear e3 e2
  obtain ⟨bw, hbw⟩ : ∃ b, spanB x.low x.high 0 10000000 = b := ⟨_, rfl⟩
  have HBW := Hd hbw
  obtain ⟨c0, c1, c2, c3, c4, c5, c6, c7, c8, c9, c10, c11, c12, c13⟩ := HX.out.pa
  obtain ⟨d0, d1, d2, d3, d4, d5, d6, d7, d8, d9, d10, d11, d12, d13⟩ := HZ.out.pa
  dsimp only [pa0] at d0 d1 d2 d3 d4 d5 d6 d7 d8 d9 d10 d11 d12 d13
  go_wp2_with fail
  refine (rspan_any x.low x.high _ _ _).mono ?_
  rintro e w6 ⟨rfl, hS⟩
  rw [hbw]
  clear hbw c0 c1 c2 c3 c4 c5 c6 c7 c8 c9 c10 c11 c12 c13 d0 d1 d2 d3 d4 d5 d6 d7 d8 d9 d10 d11 d12 d13
  have HX' := Hd (HX.out.below' hS)
  have HZ' := Hd (HZ.out.below' hS)
  have HB' := Hd (HB.out.trans (hS.mono HB.out.size))
  clear HX HZ HB hS
  have HX := Hd HX'.out
  have HZ := Hd HZ'.out
  have HB := Hd HB'.out
  clear HX' HZ' HB'
  rename World => w5
  obtain ⟨c0, c1, c2, c3, c4, c5, c6, c7, c8, c9, c10, c11, c12, c13⟩ := HX.out.pa
  obtain ⟨d0, d1, d2, d3, d4, d5, d6, d7, d8, d9, d10, d11, d12, d13⟩ := HZ.out.pa
  dsimp only [pa0] at d0 d1 d2 d3 d4 d5 d6 d7 d8 d9 d10 d11 d12 d13
  by_cases z_inn : x.inn = 0
  case neg =>
   have q_inn : (x.inn == 0) = false := by simp [z_inn]
   have HN := Hd (show decide (x.inn = 0) = false from decide_eq_false z_inn)
   clear z_inn
   go_wp2_with fail
   go_ret
   exact ⟨by rw [HD.out] <;> simp [HN.out], HB.out⟩
  have q_inn : (x.inn == 0) = true := by simp [z_inn]
  have Z_inn := Hd (show decide (x.inn = 0) = true from decide_eq_true z_inn)
  clear z_inn
  by_cases z_mark : x.mark = []
  case neg =>
   have q_mark : (x.mark == []) = false := by simp [z_mark]
   have HN := Hd (show decide (x.mark = []) = false from decide_eq_false z_mark)
   clear z_mark
   go_wp2_with fail
   go_ret
   exact ⟨by rw [HD.out] <;> simp [Z_inn.out, HN.out], HB.out⟩
  have q_mark : (x.mark == []) = true := by simp [z_mark]
  have Z_mark := Hd (show decide (x.mark = []) = true from decide_eq_true z_mark)
  clear z_mark
  by_cases z_goods : x.goods = []
  case neg =>
   have q_goods : (x.goods == []) = false := by simp [z_goods]
   have HN := Hd (show decide (x.goods = []) = false from decide_eq_false z_goods)
   clear z_goods
   go_wp2_with fail
   go_ret
   exact ⟨by rw [HD.out] <;> simp [Z_inn.out, Z_mark.out, HN.out], HB.out⟩
  have q_goods : (x.goods == []) = true := by simp [z_goods]
  have Z_goods := Hd (show decide (x.goods = []) = true from decide_eq_true z_goods)
  clear z_goods
  by_cases z_pieces : x.pieces = 0
  case neg =>
   have q_pieces : (x.pieces == 0) = false := by simp [z_pieces]
   have HN := Hd (show decide (x.pieces = 0) = false from decide_eq_false z_pieces)
   clear z_pieces
   go_wp2_with fail
   go_ret
   exact ⟨by rw [HD.out] <;> simp [Z_inn.out, Z_mark.out, Z_goods.out, HN.out], HB.out⟩
  have q_pieces : (x.pieces == 0) = true := by simp [z_pieces]
  have Z_pieces := Hd (show decide (x.pieces = 0) = true from decide_eq_true z_pieces)
  clear z_pieces
  by_cases z_owner : x.owner = 0
  case neg =>
   have q_owner : (x.owner == 0) = false := by simp [z_owner]
   have HN := Hd (show decide (x.owner = 0) = false from decide_eq_false z_owner)
   clear z_owner
   go_wp2_with fail
   go_ret
   exact ⟨by rw [HD.out] <;> simp [Z_inn.out, Z_mark.out, Z_goods.out, Z_pieces.out, HN.out], HB.out⟩
  have q_owner : (x.owner == 0) = true := by simp [z_owner]
  have Z_owner := Hd (show decide (x.owner = 0) = true from decide_eq_true z_owner)
  clear z_owner
  by_cases z_of : x.of = 0
  case neg =>
   have q_of : (x.of == 0) = false := by simp [z_of]
   have HN := Hd (show decide (x.of = 0) = false from decide_eq_false z_of)
   clear z_of
   go_wp2_with fail
   go_ret
   exact ⟨by rw [HD.out] <;> simp [Z_inn.out, Z_mark.out, Z_goods.out, Z_pieces.out, Z_owner.out, HN.out], HB.out⟩
  have q_of : (x.of == 0) = true := by simp [z_of]
  have Z_of := Hd (show decide (x.of = 0) = true from decide_eq_true z_of)
  clear z_of
  cases bw with
  | false =>
    go_wp2_with fail
    go_ret
    exact ⟨by rw [HD.out] <;> simp [Z_inn.out, Z_mark.out, Z_goods.out, Z_pieces.out, Z_owner.out, Z_of.out, HBW.out], HB.out⟩
  | true =>
  obtain ⟨b19, hb19⟩ : ∃ b, within x.loss 1 20 = b := ⟨_, rfl⟩
  have HB19' := Hd hb19
  go_wp2_with fail
  refine (CW.out _ _ _ _).mono ?_
  rintro e w5 ⟨rfl, rfl⟩
  rw [hb19]
  clear hb19
  cases b19 with
  | false =>
    go_wp2_with fail
    go_ret
    exact ⟨by rw [HD.out] <;> simp [Z_inn.out, Z_mark.out, Z_goods.out, Z_pieces.out, Z_owner.out, Z_of.out, HBW.out, HB19'.out], HB.out⟩
  | true =>
  obtain ⟨b20, hb20⟩ : ∃ b, within x.pack 0 200 = b := ⟨_, rfl⟩
  have HB20' := Hd hb20
  go_wp2_with fail
  refine (CW.out _ _ _ _).mono ?_
  rintro e w5 ⟨rfl, rfl⟩
  rw [hb20]
  clear hb20
  cases b20 with
  | false =>
    go_wp2_with fail
    go_ret
    exact ⟨by rw [HD.out] <;> simp [Z_inn.out, Z_mark.out, Z_goods.out, Z_pieces.out, Z_owner.out, Z_of.out, HBW.out, HB19'.out, HB20'.out], HB.out⟩
  | true =>
  obtain ⟨b21, hb21⟩ : ∃ b, within x.count 0 40 = b := ⟨_, rfl⟩
  have HB21' := Hd hb21
  go_wp2_with fail
  refine (CW.out _ _ _ _).mono ?_
  rintro e w5 ⟨rfl, rfl⟩
  rw [hb21]
  clear hb21
  cases b21 with
  | false =>
    go_wp2_with fail
    go_ret
    exact ⟨by rw [HD.out] <;> simp [Z_inn.out, Z_mark.out, Z_goods.out, Z_pieces.out, Z_owner.out, Z_of.out, HBW.out, HB19'.out, HB20'.out, HB21'.out], HB.out⟩
  | true =>
  go_wp2_with fail
  go_ret
  exact ⟨by rw [HD.out] <;> simp [Z_inn.out, Z_mark.out, Z_goods.out, Z_pieces.out, Z_owner.out, Z_of.out, HBW.out, HB19'.out, HB20'.out, HB21'.out], HB.out⟩
 have e2 : (x.kind == 2) = false := by simp [k2]
 obtain ⟨kb, hkb⟩ : ∃ b, (x.kind == 1) = b := ⟨_, rfl⟩
 have HD := Hd (show decide (formedP x) = (kb && (within x.loss 1 20 && within x.pack 1 200 && within x.inn 0 200 && (x.inn != x.pack) && isMark x.mark && isName x.goods && spanB x.low x.high 1 100000 && within x.pieces 1 20 && within x.owner 1 40) && decide (x.count = 0) && decide (x.of = 0)) from by
  rw [← hkb]
  by_cases k1 : x.kind = 1
  · rw [Bool.eq_iff_iff, decide_eq_true_eq, formed_1 k1 HIK.out]
    simp only [Bool.and_eq_true, decide_eq_true_eq, k1, beq_self_eq_true, true_and, and_assoc]
  · rw [decide_eq_false (fun h => by unfold formedP at h; obtain ⟨_, _, h | h | h⟩ := h <;> omega)]
    rw [show (x.kind == 1) = false by simp [k1]]
    simp)
 clear k3 k2
 obtain ⟨d0, d1, d2, d3, d4, d5, d6, d7, d8, d9, d10, d11, d12, d13⟩ := HY2.out.pa
 dsimp only [pa0] at d0 d1 d2 d3 d4 d5 d6 d7 d8 d9 d10 d11 d12 d13
 obtain ⟨g0, g1, g2, g3, g4, g5, g6, g7, g8, g9, g10, g11, g12, g13⟩ := HY2.out.fr
 go_upto_region 19 with (fail)
 have hz : BoxG (((((((((w2.setCell ⟨B2, 3, none⟩ (.int .i64 x.loss)).setCell ⟨B2, 4, none⟩ (.int .i64 x.pack)).setCell ⟨B2, 8, none⟩ (.int .i64 x.low)).setCell ⟨B2, 9, none⟩ (.int .i64 x.high)).setCell ⟨B2, 5, none⟩ (.int .i64 x.inn)).setCell ⟨B2, 6, none⟩ (.string ⟨x.mark.toArray⟩)).setCell ⟨B2, 7, none⟩ (.string ⟨x.goods.toArray⟩)).setCell ⟨B2, 10, none⟩ (.int .i64 x.pieces)).setCell ⟨B2, 11, none⟩ (.int .i64 x.owner)) B2 (Pa.vals { pa0 with id := x.id, known := x.known, kind := x.kind, loss := x.loss, pack := x.pack, low := x.low, high := x.high, inn := x.inn, mark := x.mark, goods := x.goods, pieces := x.pieces, owner := x.owner }) := (((((((((HY2.out.set 3 (.int .i64 x.loss) (by simp [Pa.vals])).set 4 (.int .i64 x.pack) (by simp [Pa.vals])).set 8 (.int .i64 x.low) (by simp [Pa.vals])).set 9 (.int .i64 x.high) (by simp [Pa.vals])).set 5 (.int .i64 x.inn) (by simp [Pa.vals])).set 6 (.string ⟨x.mark.toArray⟩) (by simp [Pa.vals])).set 7 (.string ⟨x.goods.toArray⟩) (by simp [Pa.vals])).set 10 (.int .i64 x.pieces) (by simp [Pa.vals])).set 11 (.int .i64 x.owner) (by simp [Pa.vals]))
 have hx5 : BoxG (((((((((w2.setCell ⟨B2, 3, none⟩ (.int .i64 x.loss)).setCell ⟨B2, 4, none⟩ (.int .i64 x.pack)).setCell ⟨B2, 8, none⟩ (.int .i64 x.low)).setCell ⟨B2, 9, none⟩ (.int .i64 x.high)).setCell ⟨B2, 5, none⟩ (.int .i64 x.inn)).setCell ⟨B2, 6, none⟩ (.string ⟨x.mark.toArray⟩)).setCell ⟨B2, 7, none⟩ (.string ⟨x.goods.toArray⟩)).setCell ⟨B2, 10, none⟩ (.int .i64 x.pieces)).setCell ⟨B2, 11, none⟩ (.int .i64 x.owner)) w.heap.size x.vals := (((((((((HX2.out.aside (Nat.ne_of_lt HLT.out) 3 (.int .i64 x.loss)).aside (Nat.ne_of_lt HLT.out) 4 (.int .i64 x.pack)).aside (Nat.ne_of_lt HLT.out) 8 (.int .i64 x.low)).aside (Nat.ne_of_lt HLT.out) 9 (.int .i64 x.high)).aside (Nat.ne_of_lt HLT.out) 5 (.int .i64 x.inn)).aside (Nat.ne_of_lt HLT.out) 6 (.string ⟨x.mark.toArray⟩)).aside (Nat.ne_of_lt HLT.out) 7 (.string ⟨x.goods.toArray⟩)).aside (Nat.ne_of_lt HLT.out) 10 (.int .i64 x.pieces)).aside (Nat.ne_of_lt HLT.out) 11 (.int .i64 x.owner))
 have hb5 := (((((((((HB2.out.setCell (p := ⟨B2, 3, none⟩) (Nat.le_of_lt HLT.out) (.int .i64 x.loss)).setCell (p := ⟨B2, 4, none⟩) (Nat.le_of_lt HLT.out) (.int .i64 x.pack)).setCell (p := ⟨B2, 8, none⟩) (Nat.le_of_lt HLT.out) (.int .i64 x.low)).setCell (p := ⟨B2, 9, none⟩) (Nat.le_of_lt HLT.out) (.int .i64 x.high)).setCell (p := ⟨B2, 5, none⟩) (Nat.le_of_lt HLT.out) (.int .i64 x.inn)).setCell (p := ⟨B2, 6, none⟩) (Nat.le_of_lt HLT.out) (.string ⟨x.mark.toArray⟩)).setCell (p := ⟨B2, 7, none⟩) (Nat.le_of_lt HLT.out) (.string ⟨x.goods.toArray⟩)).setCell (p := ⟨B2, 10, none⟩) (Nat.le_of_lt HLT.out) (.int .i64 x.pieces)).setCell (p := ⟨B2, 11, none⟩) (Nat.le_of_lt HLT.out) (.int .i64 x.owner))
 clear c0 c1 c2 c3 c4 c5 c6 c7 c8 c9 c10 c11 c12 c13 d0 d1 d2 d3 d4 d5 d6 d7 d8 d9 d10 d11 d12 d13 g0 g1 g2 g3 g4 g5 g6 g7 g8 g9 g10 g11 g12 g13 HX2 HY2 HB2
 generalize (((((((((w2.setCell ⟨B2, 3, none⟩ (.int .i64 x.loss)).setCell ⟨B2, 4, none⟩ (.int .i64 x.pack)).setCell ⟨B2, 8, none⟩ (.int .i64 x.low)).setCell ⟨B2, 9, none⟩ (.int .i64 x.high)).setCell ⟨B2, 5, none⟩ (.int .i64 x.inn)).setCell ⟨B2, 6, none⟩ (.string ⟨x.mark.toArray⟩)).setCell ⟨B2, 7, none⟩ (.string ⟨x.goods.toArray⟩)).setCell ⟨B2, 10, none⟩ (.int .i64 x.pieces)).setCell ⟨B2, 11, none⟩ (.int .i64 x.owner)) = w5 at *
 have HZ := Hd hz
 have HX := Hd hx5
 have HB := Hd hb5
 clear hz hx5 hb5
 clear e3 e2
 obtain ⟨bw, hbw⟩ : ∃ b, spanB x.low x.high 1 100000 = b := ⟨_, rfl⟩
 obtain ⟨bm, hbm⟩ : ∃ b, isMark x.mark = b := ⟨_, rfl⟩
 obtain ⟨bn, hbn⟩ : ∃ b, isName x.goods = b := ⟨_, rfl⟩
 have HBW := Hd hbw
 have HBM := Hd hbm
 have HBN := Hd hbn
 obtain ⟨c0, c1, c2, c3, c4, c5, c6, c7, c8, c9, c10, c11, c12, c13⟩ := HX.out.pa
 obtain ⟨d0, d1, d2, d3, d4, d5, d6, d7, d8, d9, d10, d11, d12, d13⟩ := HZ.out.pa
 dsimp only [pa0] at d0 d1 d2 d3 d4 d5 d6 d7 d8 d9 d10 d11 d12 d13
 go_wp2_with fail
 refine (rspan_any x.low x.high _ _ _).mono ?_
 rintro e w6 ⟨rfl, hS⟩
 rw [hbw]
 clear hbw c0 c1 c2 c3 c4 c5 c6 c7 c8 c9 c10 c11 c12 c13 d0 d1 d2 d3 d4 d5 d6 d7 d8 d9 d10 d11 d12 d13
 have HX' := Hd (HX.out.below' hS)
 have HZ' := Hd (HZ.out.below' hS)
 have HB' := Hd (HB.out.trans (hS.mono HB.out.size))
 clear HX HZ HB hS
 have HX := Hd HX'.out
 have HZ := Hd HZ'.out
 have HB := Hd HB'.out
 clear HX' HZ' HB'
 obtain ⟨c0, c1, c2, c3, c4, c5, c6, c7, c8, c9, c10, c11, c12, c13⟩ := HX.out.pa
 obtain ⟨d0, d1, d2, d3, d4, d5, d6, d7, d8, d9, d10, d11, d12, d13⟩ := HZ.out.pa
 dsimp only [pa0] at d0 d1 d2 d3 d4 d5 d6 d7 d8 d9 d10 d11 d12 d13
 go_wp2_with fail
 refine (rmark_any x.mark HSh.out.1 _).mono ?_
 rintro e w5 ⟨rfl, rfl⟩
 rw [hbm]
 go_wp2_with fail
 refine (rname_any x.goods HSh.out.2 _).mono ?_
 rintro e w5 ⟨rfl, rfl⟩
 rw [hbn]
 clear hbm hbn
 have HKB := Hd hkb
 by_cases z_count : x.count = 0
 case neg =>
  have q_count : (x.count == 0) = false := by simp [z_count]
  have HN := Hd (show decide (x.count = 0) = false from decide_eq_false z_count)
  clear z_count
  go_wp2_with fail
  go_ret
  exact ⟨by rw [HD.out] <;> simp [HN.out], HB.out⟩
 have q_count : (x.count == 0) = true := by simp [z_count]
 have Z_count := Hd (show decide (x.count = 0) = true from decide_eq_true z_count)
 clear z_count
 by_cases z_of : x.of = 0
 case neg =>
  have q_of : (x.of == 0) = false := by simp [z_of]
  have HN := Hd (show decide (x.of = 0) = false from decide_eq_false z_of)
  clear z_of
  go_wp2_with fail
  go_ret
  exact ⟨by rw [HD.out] <;> simp [Z_count.out, HN.out], HB.out⟩
 have q_of : (x.of == 0) = true := by simp [z_of]
 have Z_of := Hd (show decide (x.of = 0) = true from decide_eq_true z_of)
 clear z_of
 cases kb with
 | false =>
   go_wp2_with fail
   go_ret
   exact ⟨by rw [HD.out] <;> simp [Z_count.out, Z_of.out, HKB.out], HB.out⟩
 | true =>
 cases bw with
 | false =>
   go_wp2_with fail
   go_ret
   exact ⟨by rw [HD.out] <;> simp [Z_count.out, Z_of.out, HKB.out, HBW.out], HB.out⟩
 | true =>
 cases bm with
 | false =>
   go_wp2_with fail
   go_ret
   exact ⟨by rw [HD.out] <;> simp [Z_count.out, Z_of.out, HKB.out, HBW.out, HBM.out], HB.out⟩
 | true =>
 cases bn with
 | false =>
   go_wp2_with fail
   go_ret
   exact ⟨by rw [HD.out] <;> simp [Z_count.out, Z_of.out, HKB.out, HBW.out, HBM.out, HBN.out], HB.out⟩
 | true =>
 obtain ⟨b28, hb28⟩ : ∃ b, within x.loss 1 20 = b := ⟨_, rfl⟩
 have HB28' := Hd hb28
 go_wp2_with fail
 refine (CW.out _ _ _ _).mono ?_
 rintro e w5 ⟨rfl, rfl⟩
 rw [hb28]
 clear hb28
 cases b28 with
 | false =>
   go_wp2_with fail
   go_ret
   exact ⟨by rw [HD.out] <;> simp [Z_count.out, Z_of.out, HKB.out, HBW.out, HBM.out, HBN.out, HB28'.out], HB.out⟩
 | true =>
 obtain ⟨b29, hb29⟩ : ∃ b, within x.pack 1 200 = b := ⟨_, rfl⟩
 have HB29' := Hd hb29
 go_wp2_with fail
 refine (CW.out _ _ _ _).mono ?_
 rintro e w5 ⟨rfl, rfl⟩
 rw [hb29]
 clear hb29
 cases b29 with
 | false =>
   go_wp2_with fail
   go_ret
   exact ⟨by rw [HD.out] <;> simp [Z_count.out, Z_of.out, HKB.out, HBW.out, HBM.out, HBN.out, HB28'.out, HB29'.out], HB.out⟩
 | true =>
 obtain ⟨b30, hb30⟩ : ∃ b, within x.inn 0 200 = b := ⟨_, rfl⟩
 have HB30' := Hd hb30
 go_wp2_with fail
 refine (CW.out _ _ _ _).mono ?_
 rintro e w5 ⟨rfl, rfl⟩
 rw [hb30]
 clear hb30
 cases b30 with
 | false =>
   go_wp2_with fail
   go_ret
   exact ⟨by rw [HD.out] <;> simp [Z_count.out, Z_of.out, HKB.out, HBW.out, HBM.out, HBN.out, HB28'.out, HB29'.out, HB30'.out], HB.out⟩
 | true =>
 by_cases hne : x.inn = x.pack
 · have hne1 : (x.inn != x.pack) = false := by simp [hne]
   clear hne
   go_wp2_with fail
   go_ret
   exact ⟨by rw [HD.out] <;> simp [Z_count.out, Z_of.out, HKB.out, HBW.out, HBM.out, HBN.out, HB28'.out, HB29'.out, HB30'.out, hne1], HB.out⟩
 · have hne1 : (x.inn != x.pack) = true := by simp [hne]
   clear hne
   obtain ⟨b32, hb32⟩ : ∃ b, within x.pieces 1 20 = b := ⟨_, rfl⟩
   have HB32' := Hd hb32
   go_wp2_with fail
   refine (CW.out _ _ _ _).mono ?_
   rintro e w5 ⟨rfl, rfl⟩
   rw [hb32]
   clear hb32
   cases b32 with
   | false =>
     go_wp2_with fail
     go_ret
     exact ⟨by rw [HD.out] <;> simp [Z_count.out, Z_of.out, HKB.out, HBW.out, HBM.out, HBN.out, HB28'.out, HB29'.out, HB30'.out, hne1, HB32'.out], HB.out⟩
   | true =>
   obtain ⟨b33, hb33⟩ : ∃ b, within x.owner 1 40 = b := ⟨_, rfl⟩
   have HB33' := Hd hb33
   go_wp2_with fail
   refine (CW.out _ _ _ _).mono ?_
   rintro e w5 ⟨rfl, rfl⟩
   rw [hb33]
   clear hb33
   cases b33 with
   | false =>
     go_wp2_with fail
     go_ret
     exact ⟨by rw [HD.out] <;> simp [Z_count.out, Z_of.out, HKB.out, HBW.out, HBM.out, HBN.out, HB28'.out, HB29'.out, HB30'.out, hne1, HB32'.out, HB33'.out], HB.out⟩
   | true =>
   go_wp2_with fail
   go_ret
   exact ⟨by rw [HD.out] <;> simp [Z_count.out, Z_of.out, HKB.out, HBW.out, HBM.out, HBN.out, HB28'.out, HB29'.out, HB30'.out, hne1, HB32'.out, HB33'.out], HB.out⟩
end Go.Proofs.YtehplmeckfinoaaGreatDoor
