/- The walks of the references' due, cause, CheckDues, CheckCauses. -/
import Derived.Test.YtehedodogkhmgaaGreatRefH
import Derived.Test.YtehedodogkhmgaaGreatSettleP
import Derived.Test.YtehedodogkhmgaaGreatLater
import Derived.BigQuiet
set_option linter.unusedSimpArgs false
set_option linter.unusedVariables false
namespace Go.Proofs.YtehedodogkhmgaaGreat
open Go.RowKit Go.Shelf

theorem split_mid {α : Type} {xs : List α} {k : Nat} {x : α} (h : xs[k]? = some x) : xs = xs.take k ++ x :: xs.drop (k + 1) := by
  have h1 : k < xs.length := (List.getElem?_eq_some_iff.1 h).1
  have h2 : xs[k] = x := (List.getElem?_eq_some_iff.1 h).2
  rw [← h2, ← List.drop_eq_getElem_cons h1, List.take_append_drop]
theorem find_at {α : Type} {p : α → Bool} {xs : List α} {k : Nat} {x : α} (h : xs[k]? = some x) (hno : (xs.take k).find? p = none) (hp : p x = true) : xs.find? p = some x := by
  rw [split_mid h, List.find?_append, hno]; simp [hp]
theorem find_snoc {α : Type} {p : α → Bool} {xs : List α} {k : Nat} {x : α} (h : xs[k]? = some x) (hno : (xs.take k).find? p = none) (hp : p x = false) : (xs.take (k + 1)).find? p = none := by
  rw [take_succ_snoc h, List.find?_append, hno]; simp [hp]
theorem find_end {α : Type} {p : α → Bool} {xs : List α} {k : Nat} (hk : xs.length ≤ k) (hno : (xs.take k).find? p = none) : xs.find? p = none := by rwa [List.take_of_length_le hk] at hno

/-- what is due -/
def isDue (who what : Int) (x : Du) : Bool := decide (x.party = who ∧ x.parcel = what)
def dueL (d : List Du) (who what : Int) : Int := match d.find? (isDue who what) with | some x => x.amount | none => 0
set_option maxHeartbeats 1000000 in
theorem due_any (a : Option Addr) (n cap : Nat) (d : List Du) (who what : Int) (w : World) (h : Rd Du.vals 3 w a n d) :
    Calls Tryz.prog 116 #[.slice a n cap, .int .i64 who, .int .i64 what] w fun e w' => e = .returned (.int .i64 (dueL d who what)) ∧ w' = w := by
  have hm := h.cap
  unfold maxLen at hm
  go_enter Tryz.func116, Tryz.ntmps116
  go_wp2
  go_loop [7] (fun i => ∃ k : Nat, k ≤ n ∧ i = .int .i64 k ∧ (d.take k).find? (isDue who what) = none) (fun i => n - (intOf i).toNat)
  case atStart => exact ⟨0, Nat.zero_le _, rfl, rfl⟩
  case round =>
    obtain ⟨k, hk, rfl, hno⟩ := hrel
    have Hno := Lib.hid hno
    clear hno
    by_cases hlt : k < n
    · have hlt' : (k : Int) < (n : Int) := by omega
      obtain ⟨b, off, x, rfl, hb, hx, x0, x1, x2⟩ := h.du hlt
      have Hx := Lib.hid hx
      clear hx h
      by_cases h1 : x.party = who
      · have e1 : (x.party == who) = true := by simp [h1]
        by_cases h2 : x.parcel = what
        · have e2 : (x.parcel == what) = true := by simp [h2]
          have HE := Lib.hid (show dueL d who what = x.amount by unfold dueL; rw [find_at Hx.out Hno.out (by simp [isDue, h1, h2])])
          clear h1 h2
          go_wp2
          go_ret
          exact ⟨ret_int HE.out.symm, rfl⟩
        · have e2 : (x.parcel == what) = false := by simp [h2]
          have HE := Lib.hid (find_snoc (p := isDue who what) Hx.out Hno.out (by simp [isDue, h2]))
          clear h1 h2
          go_wp2
          exact ⟨⟨k + 1, by omega, by go_num, HE.out⟩, by simp [intOf]; omega⟩
      · have e1 : (x.party == who) = false := by simp [h1]
        have HE := Lib.hid (find_snoc (p := isDue who what) Hx.out Hno.out (by simp [isDue, h1]))
        clear h1
        go_wp2
        exact ⟨⟨k + 1, by omega, by go_num, HE.out⟩, by simp [intOf]; omega⟩
    · have hlt' : ¬ (k : Int) < (n : Int) := by omega
      have HE := Lib.hid (show dueL d who what = 0 by unfold dueL; rw [find_end (by rw [h.len]; omega) Hno.out])
      go_wp2
      go_ret
      exact ⟨ret_int HE.out.symm, rfl⟩

/-- the first cause of a parcel -/
def isFor (what : Int) (x : Ca) : Bool := decide (x.parcel = what)
def causeR (c : List Ca) (what : Int) : Option Ca := c.find? (isFor what)
set_option maxRecDepth 100000 in
set_option maxHeartbeats 4000000 in
theorem rcause_any (a : Option Addr) (n cap : Nat) (c : List Ca) (what : Int) (w : World) (h : Rd Ca.vals 3 w a n c) :
    Calls Tryz.prog 69 #[.slice a n cap, .int .i64 what] w fun e w' =>
      e = .returned (.tuple #[caV ((causeR c what).getD zCa), .bool (causeR c what).isSome]) ∧ Below w.heap.size w w' := by
  have hm := h.cap
  unfold maxLen at hm
  have Hl := Lib.hid h.len
  have hb0 : Below w.heap.size w (w.alloc (.cells #[.int .i64 0, .int .i64 0, .int .i64 0] 71)) := (Below.refl _ w).alloc (Nat.le_refl _) _
  have H1 := Lib.hid (h.below' hb0)
  have HB := Lib.hid hb0
  have z : ∀ j, (w.alloc (.cells #[.int .i64 0, .int .i64 0, .int .i64 0] 71)).cell? ⟨w.heap.size, j, none⟩ = #[Value.int .i64 0, .int .i64 0, .int .i64 0][j]? := fun j => cell_of_row _ _ j _ _ (0, 0) (heap_alloc_new w _)
  have zf : ∀ j, (w.alloc (.cells #[.int .i64 0, .int .i64 0, .int .i64 0] 71)).frozen? ⟨w.heap.size, j, none⟩ = false := fun j => Blk0.frozen (heap_alloc_new w _) j
  have Z := Lib.hid z
  have ZF := Lib.hid zf
  clear hb0 h z zf
  go_enter Tryz.func69, Tryz.ntmps69
  go_wp2_with fail
  generalize w.alloc (.cells #[.int .i64 0, .int .i64 0, .int .i64 0] 71) = W at *
  have z0 := Z.out 0
  have z1 := Z.out 1
  have z2 := Z.out 2
  have zf0 := ZF.out 0
  have zf1 := ZF.out 1
  have zf2 := ZF.out 2
  simp only [List.getElem?_toArray, List.getElem?_cons_zero, List.getElem?_cons_succ] at z0 z1 z2
  have zl : w.heap.size < W.heap.size := World.block_lt_of_cell? _ _ z0
  have Hz := Lib.hid (And.intro z0 (And.intro z1 z2))
  go_loopw [6] (fun i wr => ∃ k : Nat, k ≤ n ∧ i = .int .i64 k ∧ (c.take k).find? (isFor what) = none ∧ wr = W) (fun i _ => n - (intOf i).toNat)
  case atStart => exact ⟨0, Nat.zero_le _, rfl, rfl, rfl⟩
  case round =>
    obtain ⟨k, hk, rfl, hno, rfl⟩ := hrel
    have Hno := Lib.hid hno
    clear hno
    by_cases hlt : k < n
    · have hlt' : (k : Int) < (n : Int) := by omega
      obtain ⟨b, off, x, rfl, hb, hx, x0, x1, x2⟩ := H1.out.ca hlt
      have Hx := Lib.hid hx
      clear hx
      by_cases h1 : x.parcel = what
      · have e1 : (x.parcel == what) = true := by simp [h1]
        have HE := Lib.hid (show causeR c what = some x from find_at Hx.out Hno.out (by simp [isFor, h1]))
        clear h1
        go_wp2_with fail
        obtain ⟨r0, r1, r2⟩ := set3_cells Hz.out.1 Hz.out.2.1 Hz.out.2.2 (.int .i64 x.parcel) (.int .i64 x.reason) (.int .i64 x.known)
        have HB3 := Lib.hid (((HB.out.setCell (p := ⟨w.heap.size, 0, none⟩) (by simp) (.int .i64 x.parcel)).setCell (p := ⟨w.heap.size, 1, none⟩) (by simp) (.int .i64 x.reason)).setCell (p := ⟨w.heap.size, 2, none⟩) (by simp) (.int .i64 x.known))
        generalize ((wr.setCell ⟨w.heap.size, 0, none⟩ (.int .i64 x.parcel)).setCell ⟨w.heap.size, 1, none⟩ (.int .i64 x.reason)).setCell ⟨w.heap.size, 2, none⟩ (.int .i64 x.known) = W3 at *
        have zl3 : w.heap.size < W3.heap.size := World.block_lt_of_cell? _ _ r0
        refine bodyPost_ret (v := .tuple #[.agg #[.int .i64 x.parcel, .int .i64 x.reason, .int .i64 x.known], .bool true]) (by simp [results, Tryz.results69, go_sem, zl3, r0, r1, r2]) rfl ⟨?_, HB3.out⟩
        rw [HE.out]; rfl
      · have e1 : (x.parcel == what) = false := by simp [h1]
        have HE := Lib.hid (find_snoc (p := isFor what) Hx.out Hno.out (by simp [isFor, h1]))
        clear h1
        go_wp2_with fail
        exact ⟨⟨k + 1, by omega, by go_num, HE.out, by first | rfl | trivial⟩, by simp [intOf]; omega⟩
    · have hlt' : ¬ (k : Int) < (n : Int) := by omega
      have HE := Lib.hid (show causeR c what = none from find_end (by rw [Hl.out]; omega) Hno.out)
      go_wp2_with fail
      obtain ⟨r0, r1, r2⟩ := set3_cells Hz.out.1 Hz.out.2.1 Hz.out.2.2 (.int .i64 0) (.int .i64 0) (.int .i64 0)
      have HB3 := Lib.hid (((HB.out.setCell (p := ⟨w.heap.size, 0, none⟩) (by simp) (.int .i64 0)).setCell (p := ⟨w.heap.size, 1, none⟩) (by simp) (.int .i64 0)).setCell (p := ⟨w.heap.size, 2, none⟩) (by simp) (.int .i64 0))
      generalize ((wr.setCell ⟨w.heap.size, 0, none⟩ (.int .i64 0)).setCell ⟨w.heap.size, 1, none⟩ (.int .i64 0)).setCell ⟨w.heap.size, 2, none⟩ (.int .i64 0) = W3 at *
      have zl3 : w.heap.size < W3.heap.size := World.block_lt_of_cell? _ _ r0
      refine bodyPost_ret (v := .tuple #[.agg #[.int .i64 0, .int .i64 0, .int .i64 0], .bool false]) (by simp [results, Tryz.results69, go_sem, zl3, r0, r1, r2]) rfl ⟨?_, HB3.out⟩
      rw [HE.out]; rfl
end Go.Proofs.YtehedodogkhmgaaGreat

/- The walks of the references' CheckDues, CheckCauses. -/
set_option linter.unusedSimpArgs false
set_option linter.unusedVariables false
namespace Go.Proofs.YtehedodogkhmgaaGreat
open Go.RowKit Go.Shelf

theorem listL_bad {α : Type} {ok : α → Bool} {lt : α → α → Bool} {xs : List α} (h : xs.length ≤ 400) (hg : goodB ok lt none xs = false) : listL ok lt xs = 1 := by unfold listL; rw [if_neg (by omega), hg]; rfl
theorem listL_good {α : Type} {ok : α → Bool} {lt : α → α → Bool} {xs : List α} (h : xs.length ≤ 400) (hg : goodB ok lt none xs = true) : listL ok lt xs = 0 := by unfold listL; rw [if_neg (by omega), hg]; rfl
theorem listL_long {α : Type} {ok : α → Bool} {lt : α → α → Bool} {xs : List α} (h : 400 < xs.length) : listL ok lt xs = 2 := by unfold listL; rw [if_pos h]
theorem ltDu_yes {y x : Du} (h : y.parcel < x.parcel ∨ (y.parcel = x.parcel ∧ y.party < x.party)) : ltDu y x = true := by
  unfold ltDu cmpAcc orI cmpI
  dsimp only
  simp only [decide_eq_true_eq]
  repeat' split
  all_goals omega
theorem ltDu_no {y x : Du} (h : ¬ (y.parcel < x.parcel ∨ (y.parcel = x.parcel ∧ y.party < x.party))) : ltDu y x = false := by
  cases hl : ltDu y x with
  | false => rfl
  | true =>
    exfalso
    apply h
    unfold ltDu cmpAcc orI cmpI at hl
    dsimp only at hl
    simp only [decide_eq_true_eq] at hl
    repeat' split at hl
    all_goals omega

theorem within_any (n lo hi : Int) (w : World) : Calls Tryz.prog 96 #[.int .i64 n, .int .i64 lo, .int .i64 hi] w fun e w' => e = .returned (.bool (decide (lo ≤ n ∧ n ≤ hi))) ∧ w' = w := by
  by_cases h1 : lo ≤ n
  · by_cases h2 : n ≤ hi
    · go_enter Tryz.func96, Tryz.ntmps96
      go_wp2
      go_ret
      exact ⟨ret_bool (by simp [h1, h2]), rfl⟩
    · go_enter Tryz.func96, Tryz.ntmps96
      go_wp2
      go_ret
      exact ⟨ret_bool (by simp [h1, h2]), rfl⟩
  · go_enter Tryz.func96, Tryz.ntmps96
    go_wp2
    go_ret
    exact ⟨ret_bool (by simp; omega), rfl⟩
theorem rparty_any (n : Int) (w : World) : Calls Tryz.prog 94 #[.int .i64 n] w fun e w' => e = .returned (.bool (decide (0 ≤ n ∧ n ≤ 40))) ∧ w' = w := by
  go_enter Tryz.func94, Tryz.ntmps94
  go_wp2_with fail
  refine (within_any n 0 40 _).mono ?_
  rintro e w1 ⟨rfl, rfl⟩
  go_wp2_with fail
  go_ret
  exact ⟨ret_bool (by simp [Bool.decide_and]), rfl⟩
theorem rparcel_any (n : Int) (w : World) : Calls Tryz.prog 95 #[.int .i64 n] w fun e w' => e = .returned (.bool (decide (10 ≤ n ∧ n ≤ 10000007))) ∧ w' = w := by
  go_enter Tryz.func95, Tryz.ntmps95
  go_wp2_with fail
  refine (within_any n 10 10000007 _).mono ?_
  rintro e w1 ⟨rfl, rfl⟩
  go_wp2_with fail
  go_ret
  exact ⟨ret_bool (by simp [Bool.decide_and]), rfl⟩
theorem rhour_any (n : Int) (w : World) : Calls Tryz.prog 67 #[.int .i64 n] w fun e w' => e = .returned (.bool (decide (0 ≤ n ∧ n ≤ 1000000))) ∧ w' = w := by
  go_enter Tryz.func67, Tryz.ntmps67
  go_wp2_with fail
  refine (within_any n 0 1000000 _).mono ?_
  rintro e w1 ⟨rfl, rfl⟩
  go_wp2_with fail
  go_ret
  exact ⟨ret_bool (by simp [Bool.decide_and]), rfl⟩

set_option maxRecDepth 100000 in
set_option maxHeartbeats 4000000 in
theorem rcheckDues_any (a : Option Addr) (n cap : Nat) (d : List Du) (w : World) (h : Rd Du.vals 3 w a n d) :
    Calls Tryz.prog 30 #[.slice a n cap] w fun e w' => e = .returned (.int .i64 (chkDu d)) ∧ Below w.heap.size w w' := by
  have H := Lib.hid h
  have Hl := Lib.hid h.len
  have hm := h.cap
  unfold maxLen at hm
  clear h
  go_enter Tryz.func30, Tryz.ntmps30
  by_cases hn : 400 < n
  · have hn' : (400 : Int) < (n : Int) := by omega
    have HE := Lib.hid (show chkDu d = 2 from listL_long (by rw [Hl.out]; exact hn))
    go_wp2_with fail
    go_ret
    exact ⟨ret_int HE.out.symm, Below.refl _ _⟩
  have hn' : ¬ (400 : Int) < (n : Int) := by omega
  have Hn := Lib.hid (show d.length ≤ 400 by rw [Hl.out]; omega)
  go_wp2_with fail
  go_loopw [3] (fun i wr => ∃ k : Nat, k ≤ n ∧ i = .int .i64 k ∧ goodB okDu ltDu none d = goodB okDu ltDu (prevOf d k) (d.drop k) ∧ Below w.heap.size w wr) (fun i _ => n - (intOf i).toNat)
  case atStart => exact ⟨0, Nat.zero_le _, rfl, rfl, Below.refl _ _⟩
  case round =>
    obtain ⟨k, hk, rfl, hg, hB⟩ := hrel
    have HG := Lib.hid hg
    have HB := Lib.hid hB
    have h1 := Lib.hid (H.out.below' hB)
    clear hg hB
    by_cases hlt : k < n
    case neg =>
      have hlt' : ¬ (k : Int) < (n : Int) := by omega
      have HE := Lib.hid (show chkDu d = 0 from listL_good Hn.out (by rw [HG.out, List.drop_of_length_le (by rw [Hl.out]; omega)]; rfl))
      go_wp2_with fail
      go_ret
      exact ⟨ret_int HE.out.symm, HB.out⟩
    have hlt' : (k : Int) < (n : Int) := by omega
    obtain ⟨b, off, x, rfl, hb, hx, x0, x1, x2⟩ := h1.out.du hlt
    have Hx := Lib.hid hx
    have hdr := drop_at hx
    rw [hdr] at HG
    clear hx hdr
    have hcall1 : ∀ W b, decide (0 ≤ x.party ∧ x.party ≤ 40) = b → Calls Tryz.prog 94 #[.int .i64 x.party] W fun e w' => e = .returned (.bool b) ∧ w' = W := fun W b hb => by rw [← hb]; exact rparty_any x.party W
    have hcall2 : ∀ W b, decide (10 ≤ x.parcel ∧ x.parcel ≤ 10000007) = b → Calls Tryz.prog 95 #[.int .i64 x.parcel] W fun e w' => e = .returned (.bool b) ∧ w' = W := fun W b hb => by rw [← hb]; exact rparcel_any x.parcel W
    have hcall3 : ∀ W b, decide (0 ≤ x.amount ∧ x.amount ≤ 1000000000) = b → Calls Tryz.prog 96 #[.int .i64 x.amount, .int .i64 0, .int .i64 1000000000] W fun e w' => e = .returned (.bool b) ∧ w' = W := fun W b hb => by rw [← hb]; exact within_any x.amount 0 1000000000 W
    have C1 := Lib.hid hcall1
    have C2 := Lib.hid hcall2
    have C3 := Lib.hid hcall3
    clear hcall1 hcall2 hcall3
    cases hok : okDu x with
    | false =>
      have HE := Lib.hid (show chkDu d = 1 from listL_bad Hn.out (by rw [HG.out]; exact goodB_bad hok))
      have hno : ¬ ((10 ≤ x.parcel ∧ x.parcel ≤ 10000007) ∧ (0 ≤ x.party ∧ x.party ≤ 40) ∧ (0 ≤ x.amount ∧ x.amount ≤ 1000000000)) := by unfold okDu at hok; exact of_decide_eq_false hok
      have Hno := Lib.hid hno
      clear hok hno
      cases hp : decide (0 ≤ x.party ∧ x.party ≤ 40) with
      | false =>
        have HP := Lib.hid hp
        clear hp
        go_wp2_with fail
        refine (C1.out _ _ HP.out).mono ?_
        rintro e w2 ⟨rfl, rfl⟩
        go_wp2_with fail
        go_ret
        exact ⟨ret_int HE.out.symm, HB.out⟩
      | true =>
        have HP := Lib.hid hp
        clear hp
        cases hp : decide (10 ≤ x.parcel ∧ x.parcel ≤ 10000007) with
        | false =>
          have HP2 := Lib.hid hp
          clear hp
          go_wp2_with fail
          refine (C1.out _ _ HP.out).mono ?_
          rintro e w2 ⟨rfl, rfl⟩
          go_wp2_with fail
          refine (C2.out _ _ HP2.out).mono ?_
          rintro e w2 ⟨rfl, rfl⟩
          go_wp2_with fail
          go_ret
          exact ⟨ret_int HE.out.symm, HB.out⟩
        | true =>
          have HP2 := Lib.hid hp
          clear hp
          cases hp : decide (0 ≤ x.amount ∧ x.amount ≤ 1000000000) with
          | false =>
            have HP3 := Lib.hid hp
            clear hp
            go_wp2_with fail
            refine (C1.out _ _ HP.out).mono ?_
            rintro e w2 ⟨rfl, rfl⟩
            go_wp2_with fail
            refine (C2.out _ _ HP2.out).mono ?_
            rintro e w2 ⟨rfl, rfl⟩
            go_wp2_with fail
            refine (C3.out _ _ HP3.out).mono ?_
            rintro e w2 ⟨rfl, rfl⟩
            go_wp2_with fail
            go_ret
            exact ⟨ret_int HE.out.symm, HB.out⟩
          | true => exact absurd ⟨of_decide_eq_true HP2.out, of_decide_eq_true HP.out, of_decide_eq_true hp⟩ Hno.out
    | true =>
      obtain ⟨⟨o1, o2⟩, ⟨o3, o4⟩, o5, o6⟩ := okDu_facts hok
      have HO := Lib.hid hok
      have HP := Lib.hid (show decide (0 ≤ x.party ∧ x.party ≤ 40) = true from decide_eq_true ⟨o3, o4⟩)
      have HP2 := Lib.hid (show decide (10 ≤ x.parcel ∧ x.parcel ≤ 10000007) = true from decide_eq_true ⟨o1, o2⟩)
      have HP3 := Lib.hid (show decide (0 ≤ x.amount ∧ x.amount ≤ 1000000000) = true from decide_eq_true ⟨o5, o6⟩)
      clear hok o1 o2 o3 o4 o5 o6
      go_wp2_with fail
      refine (C1.out _ _ HP.out).mono ?_
      rintro e w2 ⟨rfl, rfl⟩
      go_wp2_with fail
      refine (C2.out _ _ HP2.out).mono ?_
      rintro e w2 ⟨rfl, rfl⟩
      go_wp2_with fail
      refine (C3.out _ _ HP3.out).mono ?_
      rintro e w2 ⟨rfl, rfl⟩
      go_upto_region 8 with (fail)
      by_cases hk0 : k = 0
      · have hk1 : ¬ (0 : Int) < (k : Int) := by omega
        have HS := Lib.hid (show goodB okDu ltDu none d = goodB okDu ltDu (prevOf d (k + 1)) (d.drop (k + 1)) by rw [HG.out, prevOf_succ, Hx.out, hk0, prevOf_zero, goodB_none HO.out])
        have hdk : decide (0 < k) = false := by simp [hk0]
        clear hk0 hk1
        go_wp2_with fail
        go_quiet (fail)
        go_wp2_with fail
        exact ⟨⟨k + 1, by omega, by go_num, HS.out, below_drewN HB.out _⟩, by simp [intOf]; omega⟩
      have hk1 : (0 : Int) < (k : Int) := by omega
      obtain ⟨b', off', y, he, hb', hy, y0, y1, y2⟩ := h1.out.du (show k - 1 < n by omega)
      cases he
      have hp : prevOf d k = some y := by rw [show k = k - 1 + 1 by omega, prevOf_succ]; exact hy
      rw [hp] at HG
      have hsub : (k : Int) - 1 = ((k - 1 : Nat) : Int) := by omega
      have hkk : ((k - 1 : Nat) : Int) < (n : Int) := by omega
      have hkk' : k - 1 < n := by omega
      have hdk : decide (0 < k) = true := decide_eq_true (by omega)
      clear hy hp hk1
      by_cases h1 : x.parcel < y.parcel
      · have HE := Lib.hid (show chkDu d = 1 from listL_bad Hn.out (by rw [HG.out]; exact goodB_not (ltDu_no (by omega))))
        go_wp2_with fail
        go_quiet (fail)
        go_wp2_with fail
        go_ret
        exact ⟨ret_int HE.out.symm, below_drewN HB.out _⟩
      have hd1 : decide (x.parcel < y.parcel) = false := decide_eq_false h1
      by_cases h2 : x.parcel = y.parcel
      · have e2 : (x.parcel == y.parcel) = true := by simp [h2]
        by_cases h3 : x.party ≤ y.party
        · have HE := Lib.hid (show chkDu d = 1 from listL_bad Hn.out (by rw [HG.out]; exact goodB_not (ltDu_no (by omega))))
          have hd3 : decide (x.party ≤ y.party) = true := decide_eq_true h3
          clear h2 h1 h3
          go_wp2_with fail
          go_quiet (fail)
          go_wp2_with fail
          go_ret
          exact ⟨ret_int HE.out.symm, below_drewN HB.out _⟩
        · have HS := Lib.hid (show goodB okDu ltDu none d = goodB okDu ltDu (prevOf d (k + 1)) (d.drop (k + 1)) by rw [HG.out, prevOf_succ, Hx.out, goodB_some HO.out (ltDu_yes (by omega))])
          have hd3 : decide (x.party ≤ y.party) = false := decide_eq_false h3
          clear h2 h1 h3
          go_wp2_with fail
          go_quiet (fail)
          go_wp2_with fail
          exact ⟨⟨k + 1, by omega, by go_num, HS.out, below_drewN HB.out _⟩, by simp [intOf]; omega⟩
      · have e2 : (x.parcel == y.parcel) = false := by simp [h2]
        have HS := Lib.hid (show goodB okDu ltDu none d = goodB okDu ltDu (prevOf d (k + 1)) (d.drop (k + 1)) by rw [HG.out, prevOf_succ, Hx.out, goodB_some HO.out (ltDu_yes (by omega))])
        clear h2 h1
        go_wp2_with fail
        go_quiet (fail)
        go_wp2_with fail
        exact ⟨⟨k + 1, by omega, by go_num, HS.out, below_drewN HB.out _⟩, by simp [intOf]; omega⟩

theorem keepD3 {w : World} {a b c : Addr} {u v x : Value} (h0 : w.cell? a = some u) (h1 : w.cell? b = some v) (h2 : w.cell? c = some x) : w.drew.cell? a = some u ∧ w.drew.cell? b = some v ∧ w.drew.cell? c = some x := ⟨h0, h1, h2⟩
theorem keepD4 {w : World} {a b c d : Addr} {u v x y : Value} (h0 : w.cell? a = some u) (h1 : w.cell? b = some v) (h2 : w.cell? c = some x) (h3 : w.cell? d = some y) : w.drew.cell? a = some u ∧ w.drew.cell? b = some v ∧ w.drew.cell? c = some x ∧ w.drew.cell? d = some y := ⟨h0, h1, h2, h3⟩
set_option maxRecDepth 100000 in
set_option maxHeartbeats 8000000 in
theorem rcheckCauses_any (a : Option Addr) (n cap : Nat) (d : List Ca) (w : World) (h : Rd Ca.vals 3 w a n d) :
    Calls Tryz.prog 32 #[.slice a n cap] w fun e w' => e = .returned (.int .i64 (chkCa d)) ∧ Below w.heap.size w w' := by
  have H := Lib.hid h
  have Hl := Lib.hid h.len
  have hm := h.cap
  unfold maxLen at hm
  clear h
  go_enter Tryz.func32, Tryz.ntmps32
  by_cases hn : 400 < n
  · have hn' : (400 : Int) < (n : Int) := by omega
    have HE := Lib.hid (show chkCa d = 2 from listL_long (by rw [Hl.out]; exact hn))
    go_wp2_with fail
    go_ret
    exact ⟨ret_int HE.out.symm, Below.refl _ _⟩
  have hn' : ¬ (400 : Int) < (n : Int) := by omega
  have Hn := Lib.hid (show d.length ≤ 400 by rw [Hl.out]; omega)
  go_wp2_with fail
  go_loopw [3] (fun i wr => ∃ k : Nat, k ≤ n ∧ i = .int .i64 k ∧ goodB okCa ltCa none d = goodB okCa ltCa (prevOf d k) (d.drop k) ∧ Below w.heap.size w wr) (fun i _ => n - (intOf i).toNat)
  case atStart => exact ⟨0, Nat.zero_le _, rfl, rfl, Below.refl _ _⟩
  case round =>
    obtain ⟨k, hk, rfl, hg, hB⟩ := hrel
    have HG := Lib.hid hg
    have HB := Lib.hid hB
    have h1 := Lib.hid (H.out.below' hB)
    clear hg hB
    by_cases hlt : k < n
    case neg =>
      have hlt' : ¬ (k : Int) < (n : Int) := by omega
      have HE := Lib.hid (show chkCa d = 0 from listL_good Hn.out (by rw [HG.out, List.drop_of_length_le (by rw [Hl.out]; omega)]; rfl))
      go_wp2_with fail
      go_ret
      exact ⟨ret_int HE.out.symm, HB.out⟩
    have hlt' : (k : Int) < (n : Int) := by omega
    obtain ⟨b, off, x, rfl, hb, hx, x0, x1, x2⟩ := h1.out.ca hlt
    have Hx := Lib.hid hx
    have hdr := drop_at hx
    rw [hdr] at HG
    clear hx hdr
    have hcall1 : ∀ W b, decide (10 ≤ x.parcel ∧ x.parcel ≤ 10000007) = b → Calls Tryz.prog 95 #[.int .i64 x.parcel] W fun e w' => e = .returned (.bool b) ∧ Below W.heap.size W w' := fun W b hb => by rw [← hb]; exact (rparcel_any x.parcel W).mono fun e w' h => ⟨h.1, by rw [h.2]; exact Below.refl _ _⟩
    have hcall2 : ∀ W b, decide (1 ≤ x.reason ∧ x.reason ≤ 1000000) = b → Calls Tryz.prog 96 #[.int .i64 x.reason, .int .i64 1, .int .i64 1000000] W fun e w' => e = .returned (.bool b) ∧ Below W.heap.size W w' := fun W b hb => by rw [← hb]; exact (within_any x.reason 1 1000000 W).mono fun e w' h => ⟨h.1, by rw [h.2]; exact Below.refl _ _⟩
    have hcall3 : ∀ W b, decide (0 ≤ x.known ∧ x.known ≤ 1000000) = b → Calls Tryz.prog 67 #[.int .i64 x.known] W fun e w' => e = .returned (.bool b) ∧ Below W.heap.size W w' := fun W b hb => by rw [← hb]; exact (rhour_any x.known W).mono fun e w' h => ⟨h.1, by rw [h.2]; exact Below.refl _ _⟩
    have C1 := Lib.hid hcall1
    have C2 := Lib.hid hcall2
    have C3 := Lib.hid hcall3
    clear hcall1 hcall2 hcall3
    cases hok : okCa x with
    | false =>
      have HE := Lib.hid (show chkCa d = 1 from listL_bad Hn.out (by rw [HG.out]; exact goodB_bad hok))
      have hno : ¬ ((10 ≤ x.parcel ∧ x.parcel ≤ 10000007) ∧ (1 ≤ x.reason ∧ x.reason ≤ 1000000) ∧ (0 ≤ x.known ∧ x.known ≤ 1000000)) := by unfold okCa at hok; exact of_decide_eq_false hok
      have Hno := Lib.hid hno
      clear hok hno
      cases hp1 : decide (10 ≤ x.parcel ∧ x.parcel ≤ 10000007) with
      | false =>
          have HP1 := Lib.hid hp1
          clear hp1
          go_upto_region 6 with (fail)
          have f0 : ∀ p : Later wr, p.w.cell? ⟨b, off + k * 3, none⟩ = some (.int .i64 x.parcel) := fun p => p.cell x0
          have f1 : ∀ p : Later wr, p.w.cell? ⟨b, off + k * 3 + 1, none⟩ = some (.int .i64 x.reason) := fun p => p.cell x1
          have f2 : ∀ p : Later wr, p.w.cell? ⟨b, off + k * 3 + 2, none⟩ = some (.int .i64 x.known) := fun p => p.cell x2
          refine wp_region_later (by kernel_rfl) (by kernel_rfl) ?_
          repeat (go_big_quiet_step ((first | (go_at_call 95; exact Calls.later_of (C1.out _ _ HP1.out)))))
          refine wpQuiet_nil ?_
          intro _ hw'
          obtain ⟨⟨wq, hBq⟩, hw''⟩ := hw'
          subst hw''
          have HBq := Lib.hid (below_then HB.out hBq (Nat.le_refl _))
          clear hBq f0 f1 f2
          go_wp2_with fail
          go_ret
          exact ⟨ret_int HE.out.symm, HBq.out⟩
      | true =>
        have HP1 := Lib.hid hp1
        clear hp1
        cases hp2 : decide (1 ≤ x.reason ∧ x.reason ≤ 1000000) with
        | false =>
          have HP2 := Lib.hid hp2
          clear hp2
          go_upto_region 6 with (fail)
          have f0 : ∀ p : Later wr, p.w.cell? ⟨b, off + k * 3, none⟩ = some (.int .i64 x.parcel) := fun p => p.cell x0
          have f1 : ∀ p : Later wr, p.w.cell? ⟨b, off + k * 3 + 1, none⟩ = some (.int .i64 x.reason) := fun p => p.cell x1
          have f2 : ∀ p : Later wr, p.w.cell? ⟨b, off + k * 3 + 2, none⟩ = some (.int .i64 x.known) := fun p => p.cell x2
          refine wp_region_later (by kernel_rfl) (by kernel_rfl) ?_
          repeat (go_big_quiet_step ((first | (go_at_call 95; exact Calls.later_of (C1.out _ _ HP1.out)) | (go_at_call 96; exact Calls.later_of (C2.out _ _ HP2.out)))))
          refine wpQuiet_nil ?_
          intro _ hw'
          obtain ⟨⟨wq, hBq⟩, hw''⟩ := hw'
          subst hw''
          have HBq := Lib.hid (below_then HB.out hBq (Nat.le_refl _))
          clear hBq f0 f1 f2
          go_wp2_with fail
          go_ret
          exact ⟨ret_int HE.out.symm, HBq.out⟩
        | true =>
          have HP2 := Lib.hid hp2
          clear hp2
          cases hp3 : decide (0 ≤ x.known ∧ x.known ≤ 1000000) with
          | false =>
          have HP3 := Lib.hid hp3
          clear hp3
          go_upto_region 6 with (fail)
          have f0 : ∀ p : Later wr, p.w.cell? ⟨b, off + k * 3, none⟩ = some (.int .i64 x.parcel) := fun p => p.cell x0
          have f1 : ∀ p : Later wr, p.w.cell? ⟨b, off + k * 3 + 1, none⟩ = some (.int .i64 x.reason) := fun p => p.cell x1
          have f2 : ∀ p : Later wr, p.w.cell? ⟨b, off + k * 3 + 2, none⟩ = some (.int .i64 x.known) := fun p => p.cell x2
          refine wp_region_later (by kernel_rfl) (by kernel_rfl) ?_
          repeat (go_big_quiet_step ((first | (go_at_call 95; exact Calls.later_of (C1.out _ _ HP1.out)) | (go_at_call 96; exact Calls.later_of (C2.out _ _ HP2.out)) | (go_at_call 67; exact Calls.later_of (C3.out _ _ HP3.out)))))
          refine wpQuiet_nil ?_
          intro _ hw'
          obtain ⟨⟨wq, hBq⟩, hw''⟩ := hw'
          subst hw''
          have HBq := Lib.hid (below_then HB.out hBq (Nat.le_refl _))
          clear hBq f0 f1 f2
          go_wp2_with fail
          go_ret
          exact ⟨ret_int HE.out.symm, HBq.out⟩
          | true => exact absurd ⟨of_decide_eq_true HP1.out, of_decide_eq_true HP2.out, of_decide_eq_true hp3⟩ Hno.out
    | true =>
      have hyes : (10 ≤ x.parcel ∧ x.parcel ≤ 10000007) ∧ (1 ≤ x.reason ∧ x.reason ≤ 1000000) ∧ (0 ≤ x.known ∧ x.known ≤ 1000000) := by unfold okCa at hok; exact of_decide_eq_true hok
      have HO := Lib.hid hok
      have HP1 := Lib.hid (decide_eq_true hyes.1)
      have HP2 := Lib.hid (decide_eq_true hyes.2.1)
      have HP3 := Lib.hid (decide_eq_true hyes.2.2)
      clear hok hyes
      by_cases hk0 : k = 0
      · have HS := Lib.hid (show goodB okCa ltCa none d = goodB okCa ltCa (prevOf d (k + 1)) (d.drop (k + 1)) by rw [HG.out, prevOf_succ, Hx.out, hk0, prevOf_zero, goodB_none HO.out])
        have hdk : decide (0 < k) = false := by simp [hk0]
        clear hk0
        · go_upto_region 6 with (fail)
          have f0 : ∀ p : Later wr, p.w.cell? ⟨b, off + k * 3, none⟩ = some (.int .i64 x.parcel) := fun p => p.cell x0
          have f1 : ∀ p : Later wr, p.w.cell? ⟨b, off + k * 3 + 1, none⟩ = some (.int .i64 x.reason) := fun p => p.cell x1
          have f2 : ∀ p : Later wr, p.w.cell? ⟨b, off + k * 3 + 2, none⟩ = some (.int .i64 x.known) := fun p => p.cell x2
          refine wp_region_later (by kernel_rfl) (by kernel_rfl) ?_
          repeat (go_big_quiet_step ((first | (go_at_call 95; exact Calls.later_of (C1.out _ _ HP1.out)) | (go_at_call 96; exact Calls.later_of (C2.out _ _ HP2.out)) | (go_at_call 67; exact Calls.later_of (C3.out _ _ HP3.out)))))
          refine wpQuiet_nil ?_
          intro _ hw'
          obtain ⟨⟨wq, hBq⟩, hw''⟩ := hw'
          subst hw''
          have HBq := Lib.hid (below_then HB.out hBq (Nat.le_refl _))
          clear hBq f0 f1 f2
          go_wp2_with fail
          exact ⟨⟨k + 1, by omega, by go_num, HS.out, HBq.out⟩, by simp [intOf]; omega⟩
      have hk1 : (0 : Int) < (k : Int) := by omega
      obtain ⟨b', off', y, he, hb', hy, y0, y1, y2⟩ := h1.out.ca (show k - 1 < n by omega)
      cases he
      have hp : prevOf d k = some y := by rw [show k = k - 1 + 1 by omega, prevOf_succ]; exact hy
      rw [hp] at HG
      have hsub : (k : Int) - 1 = ((k - 1 : Nat) : Int) := by omega
      have hkk : ((k - 1 : Nat) : Int) < (n : Int) := by omega
      have hkk' : k - 1 < n := by omega
      have hdk : decide (0 < k) = true := decide_eq_true (by omega)
      clear hy hp hk1
      by_cases h1 : x.parcel ≤ y.parcel
      · have HE := Lib.hid (show chkCa d = 1 from listL_bad Hn.out (by rw [HG.out]; exact goodB_not (by unfold ltCa; simp; omega)))
        have hd1 : decide (x.parcel ≤ y.parcel) = true := decide_eq_true h1
        clear h1
        · go_upto_region 6 with (fail)
          have f0 : ∀ p : Later wr, p.w.cell? ⟨b, off + k * 3, none⟩ = some (.int .i64 x.parcel) := fun p => p.cell x0
          have f1 : ∀ p : Later wr, p.w.cell? ⟨b, off + k * 3 + 1, none⟩ = some (.int .i64 x.reason) := fun p => p.cell x1
          have f2 : ∀ p : Later wr, p.w.cell? ⟨b, off + k * 3 + 2, none⟩ = some (.int .i64 x.known) := fun p => p.cell x2
          have f3 : ∀ p : Later wr, p.w.cell? ⟨b, off + (k - 1) * 3, none⟩ = some (.int .i64 y.parcel) := fun p => p.cell y0
          refine wp_region_later (by kernel_rfl) (by kernel_rfl) ?_
          repeat (go_big_quiet_step ((first | (go_at_call 95; exact Calls.later_of (C1.out _ _ HP1.out)) | (go_at_call 96; exact Calls.later_of (C2.out _ _ HP2.out)) | (go_at_call 67; exact Calls.later_of (C3.out _ _ HP3.out)))))
          refine wpQuiet_nil ?_
          intro _ hw'
          obtain ⟨⟨wq, hBq⟩, hw''⟩ := hw'
          subst hw''
          have HBq := Lib.hid (below_then HB.out hBq (Nat.le_refl _))
          clear hBq f0 f1 f2 f3
          go_wp2_with fail
          go_ret
          exact ⟨ret_int HE.out.symm, HBq.out⟩
      · have HS := Lib.hid (show goodB okCa ltCa none d = goodB okCa ltCa (prevOf d (k + 1)) (d.drop (k + 1)) by rw [HG.out, prevOf_succ, Hx.out, goodB_some HO.out (by unfold ltCa; simp; omega)])
        have hd1 : decide (x.parcel ≤ y.parcel) = false := decide_eq_false h1
        clear h1
        · go_upto_region 6 with (fail)
          have f0 : ∀ p : Later wr, p.w.cell? ⟨b, off + k * 3, none⟩ = some (.int .i64 x.parcel) := fun p => p.cell x0
          have f1 : ∀ p : Later wr, p.w.cell? ⟨b, off + k * 3 + 1, none⟩ = some (.int .i64 x.reason) := fun p => p.cell x1
          have f2 : ∀ p : Later wr, p.w.cell? ⟨b, off + k * 3 + 2, none⟩ = some (.int .i64 x.known) := fun p => p.cell x2
          have f3 : ∀ p : Later wr, p.w.cell? ⟨b, off + (k - 1) * 3, none⟩ = some (.int .i64 y.parcel) := fun p => p.cell y0
          refine wp_region_later (by kernel_rfl) (by kernel_rfl) ?_
          repeat (go_big_quiet_step ((first | (go_at_call 95; exact Calls.later_of (C1.out _ _ HP1.out)) | (go_at_call 96; exact Calls.later_of (C2.out _ _ HP2.out)) | (go_at_call 67; exact Calls.later_of (C3.out _ _ HP3.out)))))
          refine wpQuiet_nil ?_
          intro _ hw'
          obtain ⟨⟨wq, hBq⟩, hw''⟩ := hw'
          subst hw''
          have HBq := Lib.hid (below_then HB.out hBq (Nat.le_refl _))
          clear hBq f0 f1 f2 f3
          go_wp2_with fail
          exact ⟨⟨k + 1, by omega, by go_num, HS.out, HBq.out⟩, by simp [intOf]; omega⟩
end Go.Proofs.YtehedodogkhmgaaGreat

/- The walk of the reference's over. -/
set_option linter.unusedSimpArgs false
set_option linter.unusedVariables false
namespace Go.Proofs.YtehedodogkhmgaaGreat
open Go.RowKit Go.Shelf

theorem dueL_bd {d : List Du} (hd : ∀ x ∈ d, okDu x = true) (who what : Int) : 0 ≤ dueL d who what ∧ dueL d who what ≤ 1000000000 := by
  unfold dueL
  cases h : d.find? (isDue who what) with
  | none => dsimp only; omega
  | some x => exact (okDu_facts (hd x (List.mem_of_find?_eq_some h))).2.2
def overOne (xs : List Po) (d : List Du) (what : Int) (who : Nat) : Option Du := if 0 < hasL xs who what - dueL d who what then some ⟨who, what, hasL xs who what - dueL d who what⟩ else none
def overRow (xs : List Po) (d : List Du) (m : Nat) (what : Int) : List Du := (List.range m).filterMap (overOne xs d what)
def overR (xs : List Po) (d : List Du) : List Du := (parcelsL xs).flatMap (overRow xs d 41)
theorem overRow_len (xs : List Po) (d : List Du) (m : Nat) (what : Int) : (overRow xs d m what).length ≤ m := Nat.le_trans (List.length_filterMap_le _ _) (by simp)
theorem flatMap_len (xs : List Po) (d : List Du) : ∀ (l : List Int), (l.flatMap (overRow xs d 41)).length ≤ l.length * 41
  | [] => by simp
  | p :: r => by
    rw [List.flatMap_cons, List.length_append, List.length_cons, Nat.succ_mul]
    have h1 := flatMap_len xs d r
    have h2 := overRow_len xs d 41 p
    omega

set_option maxRecDepth 100000 in
set_option maxHeartbeats 8000000 in
theorem rover_any (a : Option Addr) (n cap : Nat) (xs : List Po) (a' : Option Addr) (n' cap' : Nat) (d : List Du) (w : World) (h : Rd Po.vals 8 w a n xs) (hn : n ≤ 1000) (hA : Am xs) (h' : Rd Du.vals 3 w a' n' d) (hd : ∀ x ∈ d, okDu x = true) :
    Calls Tryz.prog 68 #[.slice a n cap, .slice a' n' cap'] w fun e w' => ∃ v, e = .returned v ∧ w'.ownsRow w.heap.size 53 3 v (overR xs d).length ((overR xs d).flatMap Du.vals) ∧ Below w.heap.size w w' := by
  have H := Lib.hid h
  have H' := Lib.hid h'
  have Hl := Lib.hid h.len
  have HA := Lib.hid hA
  have HD := Lib.hid hd
  obtain ⟨i0, hi0, hz0, hz1, hz2⟩ := info_parts info_du
  clear h h' hA hd
  go_enter Tryz.func68, Tryz.ntmps68
  go_wp2_with fail
  refine (parcels_any a n cap xs _ H.out hn).mono ?_
  rintro e w2 ⟨ap, m, cp, rfl, hr, hmc, hz, hq, hB⟩
  have hm : m ≤ 1000 := by have h1 := hr.len; have h2 := parcelsL_len xs; have := Hl.out; omega
  have HR := Lib.hid hr
  have HB := Lib.hid hB
  clear hr hz hq hB
  go_wp2_with fail
  go_loopw [5, 7] (fun v i wr => ∃ k : Nat, k ≤ m ∧ i = .int .i64 k ∧ wr.ownsRow w2.heap.size 53 3 v (((parcelsL xs).take k).flatMap (overRow xs d 41)).length ((((parcelsL xs).take k).flatMap (overRow xs d 41)).flatMap Du.vals) ∧ Below w2.heap.size w2 wr) (fun _ i _ => m - (intOf i).toNat)
  case atStart => exact ⟨0, Nat.zero_le _, rfl, World.ownsRow_nil _ _ _ _, Below.refl _ _⟩
  case round =>
    obtain ⟨k, hk, rfl, hrow, hB⟩ := hrel
    obtain ⟨wo, rfl⟩ : ∃ wo : World, wo = wr := ⟨_, rfl⟩
    have HRow := Lib.hid hrow
    have HBo := Lib.hid hB
    clear hrow hB
    by_cases hlt : k < m
    case neg =>
      have hlt' : ¬ (k : Int) < (m : Int) := by omega
      have HE := Lib.hid (show ((parcelsL xs).take k).flatMap (overRow xs d 41) = overR xs d by rw [List.take_of_length_le (by have := HR.out.len; omega)]; rfl)
      go_wp2_with fail
      go_ret
      exact ⟨_, rfl, by rw [← HE.out]; exact ownsRow_mono HRow.out HB.out.size, below_then HB.out HBo.out (Nat.le_refl _)⟩
    have hlt' : (k : Int) < (m : Int) := by omega
    obtain ⟨p, hp⟩ : ∃ p, (parcelsL xs)[k]? = some p := ⟨_, List.getElem?_eq_getElem (by rw [HR.out.len]; exact hlt)⟩
    obtain ⟨pre, hpre⟩ : ∃ pre, ((parcelsL xs).take k).flatMap (overRow xs d 41) = pre := ⟨_, rfl⟩
    have hpl : pre.length ≤ 41000 := by
      rw [← hpre]
      refine Nat.le_trans (flatMap_len xs d _) ?_
      rw [List.length_take]; omega
    have HN := Lib.hid (show ((parcelsL xs).take (k + 1)).flatMap (overRow xs d 41) = pre ++ overRow xs d 41 p by rw [take_succ_snoc hp, List.flatMap_append, hpre]; simp)
    rw [hpre] at HRow
    have HP := Lib.hid hp
    have Hpl := Lib.hid hpl
    clear hp hpre hpl
    go_upto_region 7 with (fail)
    go_loopw [5, 8] (fun v j wr => ∃ q : Nat, q ≤ 41 ∧ j = .int .i64 q ∧ wr.ownsRow w2.heap.size 53 3 v (pre ++ overRow xs d q p).length ((pre ++ overRow xs d q p).flatMap Du.vals) ∧ Below w2.heap.size w2 wr) (fun _ j _ => 41 - (intOf j).toNat)
    case atStart => exact ⟨0, Nat.zero_le _, rfl, by simpa [overRow] using HRow.out, HBo.out⟩
    case round =>
      obtain ⟨q, hq, rfl, hrow, hB⟩ := hrel
      have HRow2 := Lib.hid hrow
      have HB2 := Lib.hid hB
      have hr2 := HR.out.below' hB
      have H2 := Lib.hid ((H.out.below' HB.out).below' hB)
      have H2' := Lib.hid ((H'.out.below' HB.out).below' hB)
      clear hrow hB
      by_cases hql : q < 41
      · have hq1 : (q : Int) ≤ 40 := by omega
        obtain ⟨b, off, p', rfl, hb, hp', x0⟩ := hr2.int hlt
        have hpp : p' = p := by have := HP.out; rw [hp'] at this; exact Option.some.inj this
        subst hpp
        obtain ⟨hv, hhv⟩ : ∃ hv, hasL xs q p' = hv := ⟨_, rfl⟩
        obtain ⟨dv, hdv⟩ : ∃ dv, dueL d q p' = dv := ⟨_, rfl⟩
        have hb1 : -1000000000000 ≤ hv ∧ hv ≤ 1000000000000 := by
          have h1 := hasL_bound HA.out q p'
          rw [hhv, Hl.out] at h1
          omega
        have hb2 := dueL_bd HD.out q p'
        rw [hdv] at hb2
        have C1 := Lib.hid (show ∀ z : Later wr, Calls Tryz.prog 71 #[.slice a n cap, .int .i64 q, .int .i64 p'] z.w fun e w' => e = .returned (.int .i64 hv) ∧ Below z.w.heap.size z.w w' from fun z => by
          rw [← hhv]; exact (has_any a n cap xs q p' z.w (H2.out.below' z.hB) hn HA.out).mono fun e w' h => ⟨h.1, by rw [h.2]; exact Below.refl _ _⟩)
        have C2 := Lib.hid (show ∀ z : Later wr, Calls Tryz.prog 116 #[.slice a' n' cap', .int .i64 q, .int .i64 p'] z.w fun e w' => e = .returned (.int .i64 dv) ∧ Below z.w.heap.size z.w w' from fun z => by
          rw [← hdv]; exact (due_any a' n' cap' d q p' z.w (H2'.out.below' z.hB)).mono fun e w' h => ⟨h.1, by rw [h.2]; exact Below.refl _ _⟩)
        have f0 : ∀ z : Later wr, z.w.cell? ⟨b, off + k, none⟩ = some (.int .i64 p') := fun z => z.cell x0
        have hov : overRow xs d (q + 1) p' = overRow xs d q p' ++ (if 0 < hv - dv then [⟨q, p', hv - dv⟩] else []) := by
          unfold overRow
          rw [List.range_succ, List.filterMap_append]
          congr 1
          unfold overOne
          simp only [List.filterMap_cons, List.filterMap_nil, hhv, hdv]
          by_cases h0 : 0 < hv - dv
          · rw [if_pos h0, if_pos h0]
          · rw [if_neg h0, if_neg h0]
        have Hov := Lib.hid hov
        have hol := overRow_len xs d q p'
        have Hol := Lib.hid hol
        clear hp' hhv hdv hov hol hr2
        go_upto_region 9 with (fail)
        refine wp_region_later (by kernel_rfl) (by kernel_rfl) ?_
        repeat (go_big_quiet_step ((first | (go_at_call 71; exact Calls.later_of (C1.out _)) | (go_at_call 116; exact Calls.later_of (C2.out _)))))
        refine wpQuiet_nil ?_
        intro wz hw'
        obtain ⟨⟨wq, hBq⟩, hw''⟩ := hw'
        obtain rfl : wq = wz := hw''.symm
        clear hw''
        have y0 := cell_keep x0 hBq
        have yb : b < wq.heap.size := Nat.lt_of_lt_of_le hb hBq.size
        have HBq := Lib.hid (below_then HB2.out hBq (Nat.le_refl _))
        have HRq := Lib.hid (own_later HRow2.out hBq)
        have hsz := Lib.hid HBq.out.size
        clear hBq f0 x0
        by_cases h0 : 0 < hv - dv
        · have h0' : dv < hv := by omega
          rw [if_pos h0] at Hov
          go_wp2_with (at_builtin; refine wpList_append_own _ rfl _ _ 23 rfl w2.heap.size 53 i0 _ 3 24 Tryz.underlying23 hi0 hz0 hz1 hz2 rfl (by decide) _ _ _ rfl (HRq.out.alloc _) ⟨wq.heap.size, 0, none⟩ 1 1 (Du.vals ⟨q, p', hv - dv⟩) rfl rfl (World.news_of_block (cs := #[.int .i64 q, .int .i64 p', .int .i64 (hv - dv)]) (t := 53) (fr := (0, 0)) (heap_alloc_new wq _)) (by simp [Du.vals, Value.oneCell']) (by have h1 := Hol.out; have h2 := Hpl.out; rw [List.length_append]; unfold maxLen; omega) (by have h1 := Hol.out; have h2 := Hpl.out; rw [List.length_append]; omega) (Nat.le_trans hsz.out (by simp)) ?_; intro v2 w3 hown2 hgrow2 _)
          have HB3 := Lib.hid ((HBq.out.alloc HBq.out.size (.cells #[.int .i64 q, .int .i64 p', .int .i64 (hv - dv)] 53)).grown hgrow2 (Nat.le_trans HBq.out.size (by simp)) (fun kk e => (HRq.out.lt kk e).1))
          have HO3 := Lib.hid hown2
          clear hgrow2 hown2
          go_wp2_with fail
          refine ⟨⟨q + 1, by omega, by go_num, ?_, HB3.out⟩, by simp [intOf]; omega⟩
          rw [Hov.out, ← List.append_assoc, List.length_append, List.flatMap_append]
          simpa using HO3.out
        · have h0' : ¬ dv < hv := by omega
          rw [if_neg h0] at Hov
          go_wp2_with fail
          refine ⟨⟨q + 1, by omega, by go_num, ?_, HBq.out⟩, by simp [intOf]; omega⟩
          rw [Hov.out, List.append_nil]
          exact HRq.out
      · have hq1 : ¬ (q : Int) ≤ 40 := by omega
        have hq41 : q = 41 := by omega
        have HR41 := Lib.hid (show wr.ownsRow w2.heap.size 53 3 _ _ _ from (by have := HRow2.out; rw [hq41, ← HN.out] at this; exact this))
        clear hq41
        go_wp2_with fail
        exact ⟨⟨k + 1, by omega, by go_num, HR41.out, HB2.out⟩, by simp [intOf]; omega⟩
end Go.Proofs.YtehedodogkhmgaaGreat
