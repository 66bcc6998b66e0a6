/- The walks of the references' small functions. -/
import Derived.Test.YtehedodogkhmgaaGreatPlain
import Derived.Test.YtehedodogkhmgaaGreatChecked
import Derived.Deep.QuietTactic
import Derived.BigQuiet
set_option linter.unusedSimpArgs false
set_option linter.unusedVariables false
namespace Go.Proofs.YtehedodogkhmgaaGreat
open Go.RowKit

set_option maxHeartbeats 1000000 in
theorem rcheckPosting_any (p : Po) (w : World) :
    Calls Tryz.prog 135 #[.agg #[.int .i64 p.id, .int .i64 p.hour, .int .u8 p.kind, .int .i64 p.party, .int .i64 p.parcel, .int .i64 p.amount, .int .i64 p.reason, .int .i64 p.known]] w fun e w' => e = .returned (.int .i64 (chkPo p)) ∧ Below w.heap.size w w' := by
  go_enter Tryz.func135, Tryz.ntmps135
  go_wp2
  all_goals
    try simp only [bne_iff_ne, ne_eq, bne_eq_false_iff_eq, beq_iff_eq, beq_eq_false_iff_ne] at *
    go_ret
    refine ⟨ret_int ?_, (Below.refl _ _).alloc (Nat.le_refl _) _⟩
    first | exact chk_of1 (by unfold okPo; omega) | exact chk_of0 (by unfold okPo; omega)

set_option maxHeartbeats 2000000 in
theorem checkPosting_any (p : Po) (w : World) (hk0 : 0 ≤ p.kind) (hk1 : p.kind ≤ 255) :
    Calls Tryz.prog 133 #[.agg #[.int .i64 p.id, .int .i64 p.hour, .int .u8 p.kind, .int .i64 p.party, .int .i64 p.parcel, .int .i64 p.amount, .int .i64 p.reason, .int .i64 p.known]] w fun e w' => e = .returned (.int .i64 (chkPo p)) ∧ Below w.heap.size w w' := by
  go_enter Tryz.func133, Tryz.ntmps133
  go_wp2
  all_goals
    try simp only [bne_iff_ne, ne_eq, bne_eq_false_iff_eq, beq_iff_eq, beq_eq_false_iff_ne] at *
    go_ret
    refine ⟨ret_int ?_, (Below.refl _ _).alloc (Nat.le_refl _) _⟩
    first | exact chk_of1 (by unfold okPo; omega) | exact chk_of0 (by unfold okPo; omega)

set_option maxHeartbeats 1000000 in
theorem has_any (a : Option Addr) (n cap : Nat) (xs : List Po) (who what : Int) (w : World) (h : Rd Po.vals 8 w a n xs) (hn : n ≤ 1000) (hA : Am xs) :
    Calls Tryz.prog 71 #[.slice a n cap, .int .i64 who, .int .i64 what] w fun e w' => e = .returned (.int .i64 (hasL xs who what)) ∧ w' = w := by
  go_enter Tryz.func71, Tryz.ntmps71
  go_wp2
  go_loop [7, 8] (fun s i => ∃ k : Nat, k ≤ n ∧ i = .int .i64 k ∧ s = .int .i64 (hasL (xs.take k) who what)) (fun _ i => n - (intOf i).toNat)
  case atStart => exact ⟨0, Nat.zero_le _, rfl, rfl⟩
  case round =>
    obtain ⟨k, hk, rfl, rfl⟩ := hrel
    by_cases hlt : k < n
    · obtain ⟨b, off, p, rfl, hb, hx, h0, h1, h2, h3, h4, h5, h6, h7⟩ := h.po hlt
      have hsn : hasL (xs.take (k + 1)) who what = hasStep who what (hasL (xs.take k) who what) p := by rw [take_succ_snoc hx, hasL_snoc]
      have Hsn := Lib.hid hsn
      have ham := hA p (List.mem_of_getElem? hx)
      have hbd := hasL_bound (hA.take k) who what
      have hlk : (xs.take k).length ≤ 1000 := by rw [List.length_take]; omega
      have hbd1 : -1000000000000 ≤ hasL (xs.take k) who what ∧ hasL (xs.take k) who what ≤ 1000000000000 := by omega
      clear hsn hx hbd hlk h hA
      go_wp2
      all_goals
        refine ⟨⟨k + 1, by omega, by go_num, ?_⟩, by simp [intOf]; omega⟩
        rw [Hsn.out]
        unfold hasStep
        simp_all
    · go_wp2
      go_ret
      exact ⟨ret_int (by rw [List.take_of_length_le (by have := h.len; omega)]), rfl⟩

set_option maxHeartbeats 1000000 in
theorem sold_any (a : Option Addr) (n cap : Nat) (xs : List Po) (what : Int) (w : World) (h : Rd Po.vals 8 w a n xs) (hn : n ≤ 1000) (hA : Am xs) :
    Calls Tryz.prog 75 #[.slice a n cap, .int .i64 what] w fun e w' => e = .returned (.int .i64 (soldL xs what)) ∧ w' = w := by
  go_enter Tryz.func75, Tryz.ntmps75
  go_wp2
  go_loop [5, 6] (fun s i => ∃ k : Nat, k ≤ n ∧ i = .int .i64 k ∧ s = .int .i64 (soldL (xs.take k) what)) (fun _ i => n - (intOf i).toNat)
  case atStart => exact ⟨0, Nat.zero_le _, rfl, rfl⟩
  case round =>
    obtain ⟨k, hk, rfl, rfl⟩ := hrel
    by_cases hlt : k < n
    · obtain ⟨b, off, p, rfl, hb, hx, h0, h1, h2, h3, h4, h5, h6, h7⟩ := h.po hlt
      have hsn : soldL (xs.take (k + 1)) what = soldStep what (soldL (xs.take k) what) p := by rw [take_succ_snoc hx, soldL_snoc]
      have Hsn := Lib.hid hsn
      have ham := hA p (List.mem_of_getElem? hx)
      have hbd := soldL_bound (hA.take k) what
      have hlk : (xs.take k).length ≤ 1000 := by rw [List.length_take]; omega
      have hbd1 : 0 ≤ soldL (xs.take k) what ∧ soldL (xs.take k) what ≤ 1000000000000 := by omega
      clear hsn hx hbd hlk h hA
      go_wp2
      all_goals
        refine ⟨⟨k + 1, by omega, by go_num, ?_⟩, by simp [intOf]; omega⟩
        rw [Hsn.out]
        unfold soldStep
        simp_all
    · go_wp2
      go_ret
      exact ⟨ret_int (by rw [List.take_of_length_le (by have := h.len; omega)]), rfl⟩

end Go.Proofs.YtehedodogkhmgaaGreat

/- The walks of the references' held, last. -/
namespace Go.Proofs.YtehedodogkhmgaaGreat
open Go.RowKit

set_option maxHeartbeats 1000000 in
theorem held_any (a : Option Addr) (n cap : Nat) (xs : List Po) (what : Int) (w : World) (h : Rd Po.vals 8 w a n xs) (hn : n ≤ 1000) (hA : Am xs) :
    Calls Tryz.prog 72 #[.slice a n cap, .int .i64 what] w fun e w' => e = .returned (.int .i64 (heldL xs what)) ∧ w' = w := by
  have hsb := soldL_bound hA what
  have hlen := h.len
  have hsb1 : 0 ≤ soldL xs what ∧ soldL xs what ≤ 1000000000000 := by omega
  go_enter Tryz.func72, Tryz.ntmps72
  go_wp2_with fail
  refine (sold_any a n cap xs what _ h hn hA).mono ?_
  rintro e w1 ⟨rfl, rfl⟩
  have hb := Lib.hid hsb; have Hl := Lib.hid hlen
  clear hsb hlen
  have HA := Lib.hid hA
  clear hA
  go_wp2_with fail
  go_loop [5, 6] (fun s i => ∃ k : Nat, k ≤ 41 ∧ i = .int .i64 k ∧ s = .int .i64 (soldL xs what - paidTo xs what k)) (fun _ i => 41 - (intOf i).toNat)
  case atStart => exact ⟨0, Nat.zero_le _, rfl, by simp [paidTo]⟩
  case round =>
    obtain ⟨k, hk, rfl, rfl⟩ := hrel
    have hp := paidTo_bound HA.out what k
    have hq := hasL_bound HA.out k what
    have hlen := Hl.out
    have hp1 : -41000000000000 ≤ paidTo xs what k ∧ paidTo xs what k ≤ 41000000000000 := by
      have h1 : (1000000000 * (xs.length : Int) * k) ≤ 1000000000 * 1000 * 41 := by
        have : (xs.length : Int) * k ≤ 1000 * 41 := Int.mul_le_mul (by omega) (by omega) (by omega) (by omega)
        rw [Int.mul_assoc]; omega
      omega
    have hq1 : -1000000000000 ≤ hasL xs k what ∧ hasL xs k what ≤ 1000000000000 := by omega
    clear hp hq hlen
    by_cases hlt : k < 41
    · go_wp2_with (go_at_call 71; refine (has_any a n cap xs k what _ h hn HA.out).mono ?_; rintro e w2 ⟨rfl, rfl⟩)
      go_round
      case rel => exact ⟨k + 1, by omega, by go_num, by simp only [paidTo]; go_num⟩
      case measure => simp [intOf]; omega
    · obtain rfl : k = 41 := by omega
      go_wp2_with fail
      go_ret
      exact ⟨rfl, rfl⟩
end Go.Proofs.YtehedodogkhmgaaGreat

/- The walk of the references' last. -/
namespace Go.Proofs.YtehedodogkhmgaaGreat
open Go.RowKit

set_option maxHeartbeats 1000000 in
theorem last_any (a : Option Addr) (n cap : Nat) (xs : List Po) (who what : Int) (w : World) (h : Rd Po.vals 8 w a n xs) (hn : n ≤ 1000)
    (q : Po) (is : Bool) (hq : (lastL xs who what).getD zPo = q) (his : (lastL xs who what).isSome = is) :
    Calls Tryz.prog 70 #[.slice a n cap, .int .i64 who, .int .i64 what] w fun e w' =>
      e = .returned (.tuple #[.agg #[.int .i64 q.id, .int .i64 q.hour, .int .u8 q.kind, .int .i64 q.party, .int .i64 q.parcel, .int .i64 q.amount, .int .i64 q.reason, .int .i64 q.known], .bool is]) ∧ Below w.heap.size w w' := by
  have Hq := Lib.hid hq; have His := Lib.hid his
  clear hq his
  go_enter Tryz.func70, Tryz.ntmps70
  go_wp2
  go_loopw [8] (fun i wr => ∃ k : Nat, k ≤ n ∧ i = .int .i64 ((k : Int) - 1) ∧ lastL (xs.take k) who what = lastL xs who what ∧ wr = w.alloc (.cells #[.int .i64 0, .int .i64 0, .int .u8 0, .int .i64 0, .int .i64 0, .int .i64 0, .int .i64 0, .int .i64 0] 63)) (fun i _ => ((intOf i) + 1).toNat)
  case atStart => exact ⟨n, Nat.le_refl _, rfl, by rw [List.take_of_length_le (by have := h.len; omega)], rfl⟩
  case round =>
    obtain ⟨k, hk, rfl, hl, rfl⟩ := hrel
    have hB : Below w.heap.size w (w.alloc (.cells #[.int .i64 0, .int .i64 0, .int .u8 0, .int .i64 0, .int .i64 0, .int .i64 0, .int .i64 0, .int .i64 0] 63)) := (Below.refl _ _).alloc (Nat.le_refl _) _
    have Hl := Lib.hid hl
    clear hl
    cases k with
    | zero =>
      have e : lastL xs who what = none := by rw [← Hl.out]; rfl
      have hq := Hq.out; have his := His.out
      rw [e] at hq his
      obtain rfl : zPo = q := hq
      obtain rfl : false = is := his
      have Hz := Lib.hid e
      clear e Hq His
      go_wp2
      refine bodyPost_ret (v := .tuple #[.agg #[.int .i64 0, .int .i64 0, .int .u8 0, .int .i64 0, .int .i64 0, .int .i64 0, .int .i64 0, .int .i64 0], .bool false]) (by simp [results, Tryz.results70, go_sem]) rfl ⟨rfl, ?_⟩
      exact (Below.refl _ _).alloc (Nat.le_refl _) _
    | succ k =>
      obtain ⟨b, off, p, rfl, hb, hx, h0, h1, h2, h3, h4, h5, h6, h7⟩ := h.po (show k < n by omega)
      have Hx := Lib.hid hx
      have HB := Lib.hid hB
      clear hx hB h
      have hst : lastL (xs.take (k + 1)) who what = lastStep who what (lastL (xs.take k) who what) p := by rw [take_succ_snoc Hx.out, lastL_snoc]
      have Hst := Lib.hid hst
      clear hst
      go_wp2
      · have hh : p.kind = 2 := by assumption
        have e : lastL xs who what = some p := by rw [← Hl.out, Hst.out]; unfold lastStep; simp_all
        have hq := Hq.out; have his := His.out
        rw [e] at hq his
        obtain rfl : p = q := hq
        obtain rfl : true = is := his
        refine bodyPost_ret (v := .tuple #[.agg #[.int .i64 p.id, .int .i64 p.hour, .int .u8 p.kind, .int .i64 p.party, .int .i64 p.parcel, .int .i64 p.amount, .int .i64 p.reason, .int .i64 p.known], .bool true]) (by simp [results, Tryz.results70, go_sem]; try simp_all) rfl ⟨rfl, ?_⟩
        exact (Below.refl _ _).alloc (Nat.le_refl _) _
      all_goals
        refine ⟨⟨k, by omega, rfl, ?_, trivial⟩, by simp [intOf]⟩
        rw [← Hl.out, Hst.out]
        unfold lastStep
        simp_all
end Go.Proofs.YtehedodogkhmgaaGreat

/- The walk of the references' refused. -/
namespace Go.Proofs.YtehedodogkhmgaaGreat
open Go.RowKit

set_option maxRecDepth 100000 in
set_option maxHeartbeats 2000000 in
theorem refused_any (a : Option Addr) (n cap : Nat) (xs : List Po) (p : Po) (w : World) (h : Rd Po.vals 8 w a n xs) (hn : n ≤ 1000) (hA : Am xs) :
    Calls Tryz.prog 115 #[.slice a n cap, .agg #[.int .i64 p.id, .int .i64 p.hour, .int .u8 p.kind, .int .i64 p.party, .int .i64 p.parcel, .int .i64 p.amount, .int .i64 p.reason, .int .i64 p.known]] w fun e w' =>
      e = .returned (.int .i64 (refusedL xs p)) ∧ Below w.heap.size w w' := by
  have Hl := Lib.hid h.len
  by_cases hbig : 400 ≤ n
  · go_enter Tryz.func115, Tryz.ntmps115
    go_wp2_with fail
    go_ret
    exact ⟨ret_int (by unfold refusedL; rw [if_pos (by rw [Hl.out]; exact hbig)]), (Below.refl _ _).alloc (Nat.le_refl _) _⟩
  by_cases hok : okPo p
  case neg =>
    have hch : (chkPo p == 0) = false := by rw [chkPo, if_neg hok]; rfl
    have hch' : (chkPo p != 0) = true := by rw [chkPo, if_neg hok]; rfl
    have Hok := Lib.hid hok
    clear hok
    go_enter Tryz.func115, Tryz.ntmps115
    go_wp2_with fail
    refine (rcheckPosting_any p _).mono ?_
    rintro e w1 ⟨rfl, hB1⟩
    have HB1 := Lib.hid hB1
    clear hB1
    go_wp2_with fail
    go_ret
    exact ⟨ret_int (by unfold refusedL; rw [if_neg (by rw [Hl.out]; exact hbig), if_pos Hok.out]), below_then ((Below.refl _ _).alloc (Nat.le_refl _) _) HB1.out (Nat.le_refl _)⟩
  have hb10 : decide (400 ≤ (n : Int)) = false := by simp; omega
  have hch : (chkPo p == 0) = true := by rw [chkPo, if_pos hok]; rfl
  have hch' : (chkPo p != 0) = false := by rw [chkPo, if_pos hok]; rfl
  have Hok := Lib.hid hok
  clear hok
  go_enter Tryz.func115, Tryz.ntmps115
  go_wp2_with fail
  refine (rcheckPosting_any p _).mono ?_
  rintro e w1 ⟨rfl, hB1⟩
  have hbx := (BoxPo.made w p 63).below' hB1
  have hB : Below w.heap.size w w1 := below_then ((Below.refl _ _).alloc (Nat.le_refl _) _) hB1 (Nat.le_refl _)
  have h1 := h.below' hB
  have HB := Lib.hid hB
  clear hB1 hB
  go_wp2_with fail
  go_loopw [5] (fun i wr => ∃ k : Nat, k ≤ n ∧ i = .int .i64 k ∧ noId (xs.take k) p.id ∧ BoxPo wr w.heap.size p ∧ Rd Po.vals 8 wr a n xs ∧ Below w.heap.size w wr) (fun i _ => n - (intOf i).toNat)
  case atStart => exact ⟨0, Nat.zero_le _, rfl, by intro q hq; simp at hq, hbx, h1, HB.out⟩
  case round =>
    obtain ⟨k, hk, rfl, hno, hbx', h1', hB'⟩ := hrel
    obtain ⟨q0, q1, q2, q3, q4, q5, q6, q7⟩ := hbx'.cells
    have Hno := Lib.hid hno
    have HB' := Lib.hid hB'
    clear hno hB' hbx h1 HB h
    by_cases hlt : k < n
    · obtain ⟨b, off, x, rfl, hb, hx, x0, x1, x2, x3, x4, x5, x6, x7⟩ := h1'.po hlt
      have Hx := Lib.hid hx
      clear hx
      by_cases hid : x.id = p.id
      · have hd : (x.id == p.id) = true := by simp [hid]
        have Hd := Lib.hid hid
        clear hid
        go_wp2_with fail
        go_quiet (fail)
        go_wp2_with fail
        go_ret
        exact ⟨ret_int (refusedL_twice (by rw [Hl.out]; exact hbig) Hok.out (List.mem_of_getElem? Hx.out) Hd.out).symm, below_drewN HB'.out _⟩
      · have hd : (x.id == p.id) = false := by simp [hid]
        have Hd := Lib.hid hid
        clear hid
        go_wp2_with fail
        go_quiet (fail)
        go_wp2_with fail
        exact ⟨⟨k + 1, by omega, by go_num, by rw [take_succ_snoc Hx.out]; exact noId_snoc Hno.out Hd.out, hbx'.drewN _, h1'.drewN _, below_drewN HB'.out _⟩, by simp [intOf]; omega⟩
    · have Hno' : Hid (noId xs p.id) := by have := Hno.out; rwa [List.take_of_length_le (by rw [Hl.out]; omega)] at this
      by_cases hn0 : 0 < n
      · obtain ⟨m, rfl⟩ : ∃ m, n = m + 1 := ⟨n - 1, by omega⟩
        obtain ⟨b, off, x, rfl, hb, hx, x0, x1, x2, x3, x4, x5, x6, x7⟩ := h1'.po (show m < m + 1 by omega)
        have Hx := Lib.hid (lastHour_at Hl.out hx)
        have Hne := Lib.hid (show xs ≠ [] from fun e => by have := Hl.out; rw [e] at this; simp at this)
        clear hx
        have hd0 : decide ((0 : Int) < ((m + 1 : Nat) : Int)) = true := by simp
        by_cases hh : p.hour < x.hour
        · have hd : decide (p.hour < x.hour) = true := by simp [hh]
          go_wp2_with fail
          go_quiet (fail)
          go_wp2_with fail
          go_ret
          exact ⟨ret_int (refusedL_time (by rw [Hl.out]; exact hbig) Hok.out Hno'.out Hne.out (by rw [Hx.out]; exact hh)).symm, below_drewN HB'.out _⟩
        · have hd : decide (p.hour < x.hour) = false := by simp; omega
          have HR := Lib.hid (refusedL_else (by rw [Hl.out]; exact hbig) Hok.out Hno'.out (by rw [Hx.out]; exact fun h => hh h.2))
          go_wp2_with fail
          go_quiet (fail)
          by_cases hk1 : p.kind = 1
          · have hdk : (p.kind == 1) = true := by simp [hk1]
            have Hk := Lib.hid hk1
            clear hk1
            go_wp2_with fail
            refine (sold_any _ _ cap xs p.parcel _ (h1'.drewN _) hn hA).mono ?_
            rintro e w2 ⟨rfl, rfl⟩
            by_cases hs : 0 < soldL xs p.parcel
            · go_wp2_with fail
              go_ret
              exact ⟨ret_int (HR.out.trans (refused3_1a Hk.out hs)).symm, below_drewN HB'.out _⟩
            · go_wp2_with fail
              go_ret
              exact ⟨ret_int (HR.out.trans (refused3_1b Hk.out (by omega))).symm, below_drewN HB'.out _⟩
          · have hdk : (p.kind == 1) = false := by simp [hk1]
            have Hk := Lib.hid hk1
            clear hk1
            go_wp2_with fail
            refine (sold_any _ _ cap xs p.parcel _ (h1'.drewN _) hn hA).mono ?_
            rintro e w2 ⟨rfl, rfl⟩
            by_cases hs : soldL xs p.parcel = 0
            · have hds : (soldL xs p.parcel == 0) = true := by simp [hs]
              have Hs := Lib.hid hs
              clear hs
              go_wp2_with fail
              go_ret
              exact ⟨ret_int (HR.out.trans (refused3_none Hk.out Hs.out)).symm, below_drewN HB'.out _⟩
            · have hds : (soldL xs p.parcel == 0) = false := by simp [hs]
              have Hs := Lib.hid hs
              clear hs
              by_cases hk2 : p.kind = 2
              · have hdk2 : (p.kind == 2) = true := by simp [hk2]
                have Hk2 := Lib.hid hk2
                clear hk2
                go_wp2_with fail
                go_quiet ((go_at_call 72; exact quiet_add_same (held_any _ _ cap xs p.parcel _ (h1'.drewN _) hn hA)))
                by_cases hh2 : heldL xs p.parcel < p.amount
                · go_wp2_with fail
                  go_ret
                  exact ⟨ret_int (HR.out.trans (refused3_2a Hk.out Hs.out Hk2.out (by omega))).symm, by first | exact below_drewN HB'.out _ | exact below_drewN (below_drewN HB'.out _) _⟩
                · go_wp2_with fail
                  go_ret
                  exact ⟨ret_int (HR.out.trans (refused3_2b Hk.out Hs.out Hk2.out (by omega))).symm, by first | exact below_drewN HB'.out _ | exact below_drewN (below_drewN HB'.out _) _⟩
              · have hdk2 : (p.kind == 2) = false := by simp [hk2]
                have Hk2 := Lib.hid hk2
                clear hk2
                go_wp2_with fail
                go_quiet ((go_at_call 71; exact quiet_add_same (has_any _ _ cap xs p.party p.parcel _ (h1'.drewN _) hn hA)))
                by_cases hh2 : hasL xs p.party p.parcel < p.amount
                · go_wp2_with fail
                  go_ret
                  exact ⟨ret_int (HR.out.trans (refused3_3a Hk.out Hs.out Hk2.out (by omega))).symm, by first | exact below_drewN HB'.out _ | exact below_drewN (below_drewN HB'.out _) _⟩
                · obtain ⟨q, hq⟩ : ∃ q, (lastL xs p.party p.parcel).getD zPo = q := ⟨_, rfl⟩
                  obtain ⟨is, his⟩ : ∃ is, (lastL xs p.party p.parcel).isSome = is := ⟨_, rfl⟩
                  have Hq := Lib.hid hq
                  have His := Lib.hid his
                  clear hq his
                  go_wp2_with fail
                  refine (last_any _ _ cap xs p.party p.parcel _ (h1'.drewN _) hn q is Hq.out His.out).mono ?_
                  rintro e w3 ⟨rfl, hB3⟩
                  have hbx3 := (hbx'.drewN _).below' hB3
                  have hB4 := below_then (below_drewN HB'.out _) hB3 (Nat.le_refl _)
                  have hz := hbx3.1
                  obtain ⟨r0, r1, r2, r3, r4, r5, r6, r7⟩ := hbx3.cells
                  have HB4 := Lib.hid hB4
                  clear hB3 hB4
                  by_cases hkn : p.known ≤ q.known
                  · go_wp2_with fail
                    go_ret
                    exact ⟨ret_int (HR.out.trans (refused3_3b Hk.out Hs.out Hk2.out (by omega) (by rw [Hq.out]; omega))).symm, HB4.out.alloc HB4.out.size _⟩
                  · go_wp2_with fail
                    go_ret
                    exact ⟨ret_int (HR.out.trans (refused3_3c Hk.out Hs.out Hk2.out (by omega) (by rw [Hq.out]; omega))).symm, HB4.out.alloc HB4.out.size _⟩
      · have hd0 : decide ((0 : Int) < ((n : Nat) : Int)) = false := by simp; omega
        have HR := Lib.hid (refusedL_else (xs := xs) (p := p) (by rw [Hl.out]; exact hbig) Hok.out Hno'.out (fun h => h.1 (List.eq_nil_of_length_eq_zero (by rw [Hl.out]; omega))))
        go_wp2_with fail
        go_quiet (fail)
        by_cases hk1 : p.kind = 1
        · have hdk : (p.kind == 1) = true := by simp [hk1]
          have Hk := Lib.hid hk1
          clear hk1
          go_wp2_with fail
          refine (sold_any _ _ cap xs p.parcel _ (h1'.drewN _) hn hA).mono ?_
          rintro e w2 ⟨rfl, rfl⟩
          by_cases hs : 0 < soldL xs p.parcel
          · go_wp2_with fail
            go_ret
            exact ⟨ret_int (HR.out.trans (refused3_1a Hk.out hs)).symm, below_drewN HB'.out _⟩
          · go_wp2_with fail
            go_ret
            exact ⟨ret_int (HR.out.trans (refused3_1b Hk.out (by omega))).symm, below_drewN HB'.out _⟩
        · have hdk : (p.kind == 1) = false := by simp [hk1]
          have Hk := Lib.hid hk1
          clear hk1
          go_wp2_with fail
          refine (sold_any _ _ cap xs p.parcel _ (h1'.drewN _) hn hA).mono ?_
          rintro e w2 ⟨rfl, rfl⟩
          by_cases hs : soldL xs p.parcel = 0
          · have hds : (soldL xs p.parcel == 0) = true := by simp [hs]
            have Hs := Lib.hid hs
            clear hs
            go_wp2_with fail
            go_ret
            exact ⟨ret_int (HR.out.trans (refused3_none Hk.out Hs.out)).symm, below_drewN HB'.out _⟩
          · have hds : (soldL xs p.parcel == 0) = false := by simp [hs]
            have Hs := Lib.hid hs
            clear hs
            by_cases hk2 : p.kind = 2
            · have hdk2 : (p.kind == 2) = true := by simp [hk2]
              have Hk2 := Lib.hid hk2
              clear hk2
              go_wp2_with fail
              go_quiet ((go_at_call 72; exact quiet_add_same (held_any _ _ cap xs p.parcel _ (h1'.drewN _) hn hA)))
              by_cases hh2 : heldL xs p.parcel < p.amount
              · go_wp2_with fail
                go_ret
                exact ⟨ret_int (HR.out.trans (refused3_2a Hk.out Hs.out Hk2.out (by omega))).symm, by first | exact below_drewN HB'.out _ | exact below_drewN (below_drewN HB'.out _) _⟩
              · go_wp2_with fail
                go_ret
                exact ⟨ret_int (HR.out.trans (refused3_2b Hk.out Hs.out Hk2.out (by omega))).symm, by first | exact below_drewN HB'.out _ | exact below_drewN (below_drewN HB'.out _) _⟩
            · have hdk2 : (p.kind == 2) = false := by simp [hk2]
              have Hk2 := Lib.hid hk2
              clear hk2
              go_wp2_with fail
              go_quiet ((go_at_call 71; exact quiet_add_same (has_any _ _ cap xs p.party p.parcel _ (h1'.drewN _) hn hA)))
              by_cases hh2 : hasL xs p.party p.parcel < p.amount
              · go_wp2_with fail
                go_ret
                exact ⟨ret_int (HR.out.trans (refused3_3a Hk.out Hs.out Hk2.out (by omega))).symm, by first | exact below_drewN HB'.out _ | exact below_drewN (below_drewN HB'.out _) _⟩
              · obtain ⟨q, hq⟩ : ∃ q, (lastL xs p.party p.parcel).getD zPo = q := ⟨_, rfl⟩
                obtain ⟨is, his⟩ : ∃ is, (lastL xs p.party p.parcel).isSome = is := ⟨_, rfl⟩
                have Hq := Lib.hid hq
                have His := Lib.hid his
                clear hq his
                go_wp2_with fail
                refine (last_any _ _ cap xs p.party p.parcel _ (h1'.drewN _) hn q is Hq.out His.out).mono ?_
                rintro e w3 ⟨rfl, hB3⟩
                have hbx3 := (hbx'.drewN _).below' hB3
                have hB4 := below_then (below_drewN HB'.out _) hB3 (Nat.le_refl _)
                have hz := hbx3.1
                obtain ⟨r0, r1, r2, r3, r4, r5, r6, r7⟩ := hbx3.cells
                have HB4 := Lib.hid hB4
                clear hB3 hB4
                by_cases hkn : p.known ≤ q.known
                · go_wp2_with fail
                  go_ret
                  exact ⟨ret_int (HR.out.trans (refused3_3b Hk.out Hs.out Hk2.out (by omega) (by rw [Hq.out]; omega))).symm, HB4.out.alloc HB4.out.size _⟩
                · go_wp2_with fail
                  go_ret
                  exact ⟨ret_int (HR.out.trans (refused3_3c Hk.out Hs.out Hk2.out (by omega) (by rw [Hq.out]; omega))).symm, HB4.out.alloc HB4.out.size _⟩
end Go.Proofs.YtehedodogkhmgaaGreat
