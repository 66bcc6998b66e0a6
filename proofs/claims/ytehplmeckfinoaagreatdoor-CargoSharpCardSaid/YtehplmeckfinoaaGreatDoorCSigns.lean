/- The walk of Meet of cargo. -/
import Derived.Test.YtehplmeckfinoaaGreatDoorCMark
import Derived.Deep.Cut
import Derived.Test.YtehplmeckfinoaaGreatDoorCShelf
set_option linter.unusedSimpArgs false
set_option linter.unusedVariables false
namespace Go.Proofs.YtehplmeckfinoaaGreatDoor
open Go.RowKit
def meetC (p : UInt8 × UInt8) : Bool := p.1 == p.2 || p.1 == 63 || p.2 == 63
theorem zip_at {a b : List UInt8} {k : Nat} {x y : UInt8} (hx : a[k]? = some x) (hy : b[k]? = some y) : (a.zip b)[k]? = some (x, y) := by
 rw [List.getElem?_zip_eq_some]; exact ⟨hx, hy⟩
theorem u8_eq {c d : UInt8} : ((c.toNat : Int) != (d.toNat : Int)) = !(c == d) := by
 by_cases h : c = d
 · subst h; simp
 · have : ¬ c.toNat = d.toNat := fun e => h (UInt8.toNat_inj.1 e)
   have h1 : (c == d) = false := by simpa using h
   rw [h1]; simp; omega
set_option maxRecDepth 100000 in
set_option maxHeartbeats 2000000 in
theorem meet_any (a b : List UInt8) (ha : a.length ≤ 9223372036854775806) (hb : b.length ≤ 9223372036854775806) (w : World) :
 Calls Tryz.prog 24 #[.string ⟨a.toArray⟩, .string ⟨b.toArray⟩] w fun e w' => e = .returned (.bool (meetL a b)) ∧ Below w.heap.size w w' := by
 go_enter Tryz.func24, Tryz.ntmps24
 go_wp2_with fail
 refine (isMark_any a ha _).mono ?_
 rintro e w' ⟨rfl, rfl⟩
 cases h1 : isMark a with
 | false =>
   have HE := Hd (show meetL a b = false from by unfold meetL; rw [h1]; rfl)
   clear h1
   go_wp2_with fail
   go_ret
   exact ⟨by rw [HE.out] <;> rfl, Below.refl _ _⟩
 | true =>
 have H1 := Hd h1
 clear h1
 go_wp2_with fail
 refine (isMark_any b hb _).mono ?_
 rintro e w' ⟨rfl, rfl⟩
 cases h2 : isMark b with
 | false =>
   have HE := Hd (show meetL a b = false from by unfold meetL; rw [h2, H1.out]; rfl)
   clear h2
   go_wp2_with fail
   go_ret
   exact ⟨by rw [HE.out] <;> rfl, Below.refl _ _⟩
 | true =>
 have H2 := Hd h2
 clear h2
 by_cases hl : a.length = b.length
 case neg =>
  have HE := Hd (show meetL a b = false from by unfold meetL; rw [H2.out, H1.out, decide_eq_false hl]; rfl)
  have hl1 : ((a.length : Int) != (b.length : Int)) = true := by simp; omega
  clear hl
  go_wp2_with fail
  go_ret
  exact ⟨by rw [HE.out] <;> rfl, Below.refl _ _⟩
 have HM := Hd (show meetL a b = (a.zip b).all meetC from by unfold meetL; rw [H2.out, H1.out, decide_eq_true hl]; rfl)
 have hl1 : ((a.length : Int) != (b.length : Int)) = false := by simp; omega
 have HL := Hd hl
 clear hl
 rename World => w
 go_wp2_with fail
 go_loopw [23] (fun i wr => ∃ k : Nat, k ≤ a.length ∧ i = .int .i64 k ∧ ((a.zip b).take k).all meetC = true ∧ Below w.heap.size w wr) (fun i _ => a.length - (intOf i).toNat)
 case atStart => exact ⟨0, Nat.zero_le _, rfl, rfl, Below.refl _ _⟩
 case round =>
  obtain ⟨k, hk, rfl, hall, hB⟩ := hrel
  have HA := Hd hall
  have HB := Hd hB
  clear hall hB
  by_cases hlt : k < a.length
  · have hlt' : (k : Int) < (a.length : Int) := by omega
    have hltb : k < b.length := by have := HL.out; omega
    have hltb' : (k : Int) < (b.length : Int) := by omega
    obtain ⟨c, hc⟩ : ∃ c, a[k]? = some c := ⟨_, List.getElem?_eq_getElem hlt⟩
    obtain ⟨d, hd⟩ : ∃ d, b[k]? = some d := ⟨_, List.getElem?_eq_getElem hltb⟩
    have hi : ∀ h, (⟨a.toArray⟩ : ByteArray)[k]'h = c := fun h => (List.getElem?_eq_some_iff.1 hc).2
    have hj : ∀ h, (⟨b.toArray⟩ : ByteArray)[k]'h = d := fun h => (List.getElem?_eq_some_iff.1 hd).2
    have HZ := Hd (zip_at hc hd)
    clear hc hd
    by_cases q1 : c = d
    · have q1' : ((c.toNat : Int) != (d.toNat : Int)) = false := by rw [q1]; simp
      have HN := Hd (take_all_snoc (p := meetC) HZ.out HA.out (by simp [meetC, q1]))
      clear q1
      go_upto_region 6 with (fail)
      refine wp_region_later (by kernel_rfl) (by kernel_rfl) ?_
      repeat (go_big_quiet_step (fail))
      refine wpQuiet_nil ?_
      intro wz hw'
      obtain ⟨⟨W, hW⟩, hw2⟩ := hw'
      obtain rfl : W = wz := hw2.symm
      have HB2 := Hd (HB.out.trans (hW.mono HB.out.size))
      clear hw2 hW
      go_wp2_with fail
      exact ⟨⟨k + 1, by omega, by go_num, HN.out, HB2.out⟩, by simp [intOf]; omega⟩
    have q1' : ((c.toNat : Int) != (d.toNat : Int)) = true := by
     have : ¬ c.toNat = d.toNat := fun e => q1 (UInt8.toNat_inj.1 e)
     simp; omega
    by_cases q2 : c = 63
    · have q2' : ((c.toNat : Int) != 63) = false := by rw [q2]; rfl
      have HN := Hd (take_all_snoc (p := meetC) HZ.out HA.out (by simp [meetC, q2]))
      clear q1 q2
      go_upto_region 6 with (fail)
      refine wp_region_later (by kernel_rfl) (by kernel_rfl) ?_
      repeat (go_big_quiet_step (fail))
      refine wpQuiet_nil ?_
      intro wz hw'
      obtain ⟨⟨W, hW⟩, hw2⟩ := hw'
      obtain rfl : W = wz := hw2.symm
      have HB2 := Hd (HB.out.trans (hW.mono HB.out.size))
      clear hw2 hW
      go_wp2_with fail
      exact ⟨⟨k + 1, by omega, by go_num, HN.out, HB2.out⟩, by simp [intOf]; omega⟩
    have q2' := byte63 q2
    by_cases q3 : d = 63
    · have q3' : ((d.toNat : Int) != 63) = false := by rw [q3]; rfl
      have HN := Hd (take_all_snoc (p := meetC) HZ.out HA.out (by simp [meetC, q3]))
      clear q1 q2 q3
      go_upto_region 6 with (fail)
      refine wp_region_later (by kernel_rfl) (by kernel_rfl) ?_
      repeat (go_big_quiet_step (fail))
      refine wpQuiet_nil ?_
      intro wz hw'
      obtain ⟨⟨W, hW⟩, hw2⟩ := hw'
      obtain rfl : W = wz := hw2.symm
      have HB2 := Hd (HB.out.trans (hW.mono HB.out.size))
      clear hw2 hW
      go_wp2_with fail
      exact ⟨⟨k + 1, by omega, by go_num, HN.out, HB2.out⟩, by simp [intOf]; omega⟩
    have q3' := byte63 q3
    have HE := Hd (show meetL a b = false from by rw [HM.out, all_no HZ.out (by simp [meetC, q1, q2, q3])])
    clear q1 q2 q3
    go_upto_region 6 with (fail)
    refine wp_region_later (by kernel_rfl) (by kernel_rfl) ?_
    repeat (go_big_quiet_step (fail))
    refine wpQuiet_nil ?_
    intro wz hw'
    obtain ⟨⟨W, hW⟩, hw2⟩ := hw'
    obtain rfl : W = wz := hw2.symm
    have HB2 := Hd (HB.out.trans (hW.mono HB.out.size))
    clear hw2 hW
    go_wp2_with fail
    go_ret
    exact ⟨by rw [HE.out] <;> rfl, HB2.out⟩
  · have hltg : ¬ (k : Int) < (a.length : Int) := by omega
    have HE := Hd (show meetL a b = true from by
     have := HA.out
     rw [List.take_of_length_le (by rw [List.length_zip]; omega)] at this
     rw [HM.out, this])
    clear hlt
    go_wp2_with fail
    go_ret
    exact ⟨by rw [HE.out] <;> rfl, HB.out⟩
theorem count_signs : ∀ a : List UInt8, (Lib.countByte a 63 : Int) + ((a.filter (fun c => !(c == 63))).length : Int) = (a.length : Int)
 | [] => by simp [Lib.countByte]
 | c :: r => by
   have ih := count_signs r
   by_cases h : c = 63
   · subst h; simp [Lib.countByte] at ih ⊢; omega
   · have h1 : (c == 63) = false := by simpa using h
     simp [Lib.countByte, h1, h] at ih ⊢; omega
set_option maxHeartbeats 2000000 in
theorem signs_any (a : List UInt8) (ha : a.length ≤ 9223372036854775806) (w : World) :
 Calls Tryz.prog 25 #[.string ⟨a.toArray⟩] w fun e w' => e = .returned (.int .i64 (signsL a)) ∧ w' = w := by
 go_enter Tryz.func25, Tryz.ntmps25
 go_wp2_with fail
 refine (isMark_any a ha _).mono ?_
 rintro e w' ⟨rfl, rfl⟩
 cases h1 : isMark a with
 | false =>
   have HE := Hd (show signsL a = 0 from by unfold signsL; rw [h1]; rfl)
   clear h1
   go_wp2_with fail
   go_ret
   exact ⟨by rw [HE.out] <;> rfl, rfl⟩
 | true =>
   have HE := Hd (show signsL a = (a.length : Int) - Lib.countByte a 63 from by
    unfold signsL; rw [h1, if_pos rfl]; have := count_signs a; omega)
   have hc := count_signs a
   have hcn : (0 : Int) ≤ ((a.filter (fun c => !(c == 63))).length : Int) := by omega
   have C1 := Hd (show ∀ W, Calls Tryz.prog 61 #[.string ⟨a.toArray⟩, .string ⟨#[63]⟩] W fun e w' => e = .returned (.int .i64 (Lib.countByte a 63)) ∧ w' = W from fun W => by
    have := Tryz.strings_Count_one ⟨a.toArray⟩ 63 W
    simpa using this)
   obtain ⟨cb, hcb⟩ : ∃ c, (Lib.countByte a 63 : Int) = c := ⟨_, rfl⟩
   have h0 : 0 ≤ cb := by rw [← hcb]; exact Int.natCast_nonneg _
   rw [hcb] at HE hc C1
   have h2 : cb ≤ (a.length : Int) := by omega
   clear h1 hcb hc hcn
   go_wp2_with fail
   refine (C1.out _).mono ?_
   rintro e w' ⟨rfl, rfl⟩
   go_wp2_with fail
   go_ret
   exact ⟨by rw [HE.out] <;> rfl, rfl⟩
end Go.Proofs.YtehplmeckfinoaaGreatDoor
