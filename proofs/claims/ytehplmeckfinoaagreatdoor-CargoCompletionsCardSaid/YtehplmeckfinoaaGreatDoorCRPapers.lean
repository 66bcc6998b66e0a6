/- The walks of the reference's CheckPaper, refused, Check, Same and Few. -/
import Derived.Test.YtehplmeckfinoaaGreatDoorCRFormed
import Derived.Test.YtehplmeckfinoaaGreatDoorCCheck
import Derived.Test.YtehplmeckfinoaaGreatDoorLater
import Derived.BigQuiet
import Derived.Deep.QuietTactic
set_option linter.unusedSimpArgs false
set_option linter.unusedVariables false
namespace Go.Proofs.YtehplmeckfinoaaGreatDoor
open Go.RowKit
theorem follows_else {l : List Pa} {x : Pa} (h1 : ¬ 300 ≤ l.length) (h2 : formedP x) : followsL l x = if l.any (fun y => decide (y.id = x.id)) then 6 else if earlyB l x.known = true then 7 else if x.kind ≠ 3 then 0 else if ¬ l.any (fun y => decide (y.id = x.of ∧ y.kind ≠ 3)) then 5 else if l.any (fun y => decide (y.kind = 3 ∧ y.of = x.of)) then 6 else 0 := by
 unfold followsL
 rw [if_neg h1, if_neg (fun h => h h2)]
theorem any_snocP {l : List Pa} {k : Nat} {y : Pa} (h : l[k]? = some y) (f : Pa → Bool) : (l.take (k + 1)).any f = ((l.take k).any f || f y) := by
 rw [take_succ_snoc h, List.any_append]; simp
theorem any_yes {l : List Pa} {k : Nat} {y : Pa} (h : l[k]? = some y) {f : Pa → Bool} (hf : f y = true) : l.any f = true :=
 List.any_eq_true.2 ⟨y, List.mem_of_getElem? h, hf⟩
theorem early_at {l : List Pa} {m : Nat} {y : Pa} (hl : l.length = m + 1) (h : l[m]? = some y) (k : Int) : earlyB l k = decide (k < y.known) := by
 unfold earlyB
 rw [List.getLast?_eq_getElem?, hl, show m + 1 - 1 = m by omega, h]
set_option maxRecDepth 100000 in
set_option maxHeartbeats 16000000 in
theorem rfollows_any (a : Option Addr) (n cap : Nat) (xs : List Pa) (x : Pa) (hx : x.Short) (w : World) (h : Rd Pa.vals 14 w a n xs) :
 Calls Tryz.prog 128 #[.slice a n cap, .agg #[.int .i64 x.id, .int .i64 x.known, .int .u8 x.kind, .int .i64 x.loss, .int .i64 x.pack, .int .i64 x.inn, .string ⟨x.mark.toArray⟩, .string ⟨x.goods.toArray⟩, .int .i64 x.low, .int .i64 x.high, .int .i64 x.pieces, .int .i64 x.owner, .int .i64 x.count, .int .i64 x.of]] w fun e w' => e = .returned (.int .i64 (followsL xs x)) ∧ Below w.heap.size w w' := by
 have Hl := Hd h.len
 have hm := h.cap
 unfold maxLen at hm
 have hb := BoxG.made w x.vals 42
 have hB := al' (Below.refl w.heap.size w) (.cells x.vals.toArray 42)
 simp only [Pa.vals] at hb hB
 have HX := Hd hb
 have HB := Hd hB
 have HR := Hd (h.below' hB)
 have HSh := Hd hx
 clear hb hB hx h
 go_enter Tryz.func128, Tryz.ntmps128
 go_upto_region 1 with (fail)
 generalize w.alloc (.cells #[.int .i64 x.id, .int .i64 x.known, .int .u8 x.kind, .int .i64 x.loss, .int .i64 x.pack, .int .i64 x.inn, .string ⟨x.mark.toArray⟩, .string ⟨x.goods.toArray⟩, .int .i64 x.low, .int .i64 x.high, .int .i64 x.pieces, .int .i64 x.owner, .int .i64 x.count, .int .i64 x.of] 42) = w1 at *
 by_cases hbig : 300 ≤ n
 · have HE := Hd (show followsL xs x = 2 from by unfold followsL; rw [if_pos (by rw [Hl.out]; exact hbig)])
   have hbig' : (300 : Int) ≤ (n : Int) := by omega
   clear hbig
   go_wp2_with fail
   go_ret
   exact ⟨by rw [HE.out] <;> rfl, HB.out⟩
 have hbig' : ¬ (300 : Int) ≤ (n : Int) := by omega
 have HBig := Hd (show ¬ 300 ≤ xs.length from by rw [Hl.out]; exact hbig)
 have hn3 : n < 300 := by omega
 clear hbig
 obtain ⟨c0, c1, c2, c3, c4, c5, c6, c7, c8, c9, c10, c11, c12, c13⟩ := (show BoxG w1 w.heap.size x.vals from HX.out).pa
 go_wp2_with fail
 refine (rformed_any x HSh.out _).mono ?_
 rintro e w2 ⟨rfl, hS⟩
 have HX' := Hd (show BoxG w2 w.heap.size x.vals from HX.out.below' hS)
 have HB' := Hd (HB.out.trans (hS.mono HB.out.size))
 have HR' := Hd (HR.out.below' hS)
 clear HX HB HR hS c0 c1 c2 c3 c4 c5 c6 c7 c8 c9 c10 c11 c12 c13
 by_cases hf : formedP x
 case neg =>
  rw [decide_eq_false hf]
  have HE := Hd (show followsL xs x = 1 from by unfold followsL; rw [if_neg HBig.out, if_pos hf])
  clear hf
  go_wp2_with fail
  go_ret
  exact ⟨by rw [HE.out] <;> rfl, HB'.out⟩
 rw [decide_eq_true hf]
 have HF := Hd (follows_else HBig.out hf)
 clear hf HBig
 rename World => w2
 go_wp2_with fail
 go_loopw [6, 7, 8] (fun f g i wr => ∃ k : Nat, k ≤ n ∧ i = .int .i64 k ∧ f = .bool ((xs.take k).any (fun y => decide (y.id = x.of ∧ y.kind ≠ 3))) ∧ g = .bool ((xs.take k).any (fun y => decide (y.kind = 3 ∧ y.of = x.of))) ∧ (xs.take k).any (fun y => decide (y.id = x.id)) = false ∧ BoxG wr w.heap.size x.vals ∧ Rd Pa.vals 14 wr a n xs ∧ Below w.heap.size w wr) (fun _ _ i _ => n - (intOf i).toNat)
 case atStart => exact ⟨0, Nat.zero_le _, rfl, rfl, rfl, rfl, HX'.out, HR'.out, HB'.out⟩
 case round =>
  obtain ⟨k, hk, rfl, rfl, rfl, hno, hbx, hr, hB⟩ := hrel
  obtain ⟨fb, hfb⟩ : ∃ b, (xs.take k).any (fun y => decide (y.id = x.of ∧ y.kind ≠ 3)) = b := ⟨_, rfl⟩
  obtain ⟨gb, hgb⟩ : ∃ b, (xs.take k).any (fun y => decide (y.kind = 3 ∧ y.of = x.of)) = b := ⟨_, rfl⟩
  rw [hfb, hgb]
  have HFB := Hd hfb
  have HGB := Hd hgb
  have HNo := Hd hno
  have HB := Hd hB
  have HX := Hd hbx
  have HR := Hd hr
  clear hfb hgb hno hB hbx hr HX' HB' HR'
  obtain ⟨q0, q1, q2, q3, q4, q5, q6, q7, q8, q9, q10, q11, q12, q13⟩ := HX.out.pa
  by_cases hlt : k < n
  · have hlt' : (k : Int) < (n : Int) := by omega
    obtain ⟨b, off, y, hpa, hb, hy, c0, c1, c2, c3, c4, c5, c6, c7, c8, c9, c10, c11, c12, c13⟩ := HR.out.pa hlt
    subst hpa
    have Hy := Hd hy
    clear hy c1 c3 c4 c5 c6 c7 c8 c9 c10 c11 c12 q1 q2 q3 q4 q5 q6 q7 q8 q9 q10 q11 q12
    by_cases hid : y.id = x.id
    · have hd : (y.id == x.id) = true := by simp [hid]
      have HE := Hd (show followsL xs x = 6 from by rw [HF.out, if_pos (any_yes Hy.out (decide_eq_true hid))])
      clear hid
      go_wp2_with fail
      go_quiet (fail)
      go_wp2_with fail
      go_ret
      exact ⟨by rw [HE.out] <;> rfl, below_drewN HB.out _⟩
    have hd : (y.id == x.id) = false := by simp [hid]
    have HNo' := Hd (show (xs.take (k + 1)).any (fun y => decide (y.id = x.id)) = false from by rw [any_snocP Hy.out, HNo.out]; simp [hid])
    clear hid HNo
    by_cases hk3 : y.kind = 3
    · have hk1 : (y.kind != 3) = false := by simp [hk3]
      have hk2 : (y.kind == 3) = true := by simp [hk3]
      have HF' := Hd (show (xs.take (k + 1)).any (fun y => decide (y.id = x.of ∧ y.kind ≠ 3)) = fb from by rw [any_snocP Hy.out, HFB.out]; simp [hk3])
      obtain ⟨ob, hob⟩ : ∃ b, (y.of == x.of) = b := ⟨_, rfl⟩
      have HG' := Hd (show (xs.take (k + 1)).any (fun y => decide (y.kind = 3 ∧ y.of = x.of)) = (gb || ob) from by
       rw [any_snocP Hy.out, HGB.out, ← hob]
       congr 1
       rw [Bool.eq_iff_iff]
       simp [hk3])
      clear hk3 HFB HGB
      cases fb <;> cases gb <;> cases ob
      all_goals
       go_wp2_with fail
       go_quiet (fail)
       go_wp2_with fail
       go_quiet (fail)
       go_wp2_with fail
       go_quiet (fail)
       go_wp2_with fail
       exact ⟨⟨k + 1, by omega, by go_num, by rw [HF'.out] <;> rfl, by rw [HG'.out] <;> rfl, HNo'.out, by first | exact HX.out | exact HX.out.below' (drewN_below _ _) | exact (HX.out.below' (drewN_below _ _)).below' (drewN_below _ _) | exact ((HX.out.below' (drewN_below _ _)).below' (drewN_below _ _)).below' (drewN_below _ _), by first | exact HR.out | exact HR.out.below' (drewN_below _ _) | exact (HR.out.below' (drewN_below _ _)).below' (drewN_below _ _) | exact ((HR.out.below' (drewN_below _ _)).below' (drewN_below _ _)).below' (drewN_below _ _), by first | exact HB.out | exact below_drewN HB.out _ | exact below_drewN (below_drewN HB.out _) _ | exact below_drewN (below_drewN (below_drewN HB.out _) _) _⟩, by simp [intOf]; omega⟩
    · have hk1 : (y.kind != 3) = true := by simp [hk3]
      have hk2 : (y.kind == 3) = false := by simp [hk3]
      have HG' := Hd (show (xs.take (k + 1)).any (fun y => decide (y.kind = 3 ∧ y.of = x.of)) = gb from by rw [any_snocP Hy.out, HGB.out]; simp [hk3])
      obtain ⟨ob, hob⟩ : ∃ b, (y.id == x.of) = b := ⟨_, rfl⟩
      have HF' := Hd (show (xs.take (k + 1)).any (fun y => decide (y.id = x.of ∧ y.kind ≠ 3)) = (fb || ob) from by
       rw [any_snocP Hy.out, HFB.out, ← hob]
       congr 1
       rw [Bool.eq_iff_iff]
       simp [hk3])
      clear hk3 HFB HGB
      cases fb <;> cases gb <;> cases ob
      all_goals
       go_wp2_with fail
       go_quiet (fail)
       go_wp2_with fail
       go_quiet (fail)
       go_wp2_with fail
       go_quiet (fail)
       go_wp2_with fail
       exact ⟨⟨k + 1, by omega, by go_num, by rw [HF'.out] <;> rfl, by rw [HG'.out] <;> rfl, HNo'.out, by first | exact HX.out | exact HX.out.below' (drewN_below _ _) | exact (HX.out.below' (drewN_below _ _)).below' (drewN_below _ _) | exact ((HX.out.below' (drewN_below _ _)).below' (drewN_below _ _)).below' (drewN_below _ _), by first | exact HR.out | exact HR.out.below' (drewN_below _ _) | exact (HR.out.below' (drewN_below _ _)).below' (drewN_below _ _) | exact ((HR.out.below' (drewN_below _ _)).below' (drewN_below _ _)).below' (drewN_below _ _), by first | exact HB.out | exact below_drewN HB.out _ | exact below_drewN (below_drewN HB.out _) _ | exact below_drewN (below_drewN (below_drewN HB.out _) _) _⟩, by simp [intOf]; omega⟩
  · have hltg : ¬ (k : Int) < (n : Int) := by omega
    obtain rfl : k = n := by omega
    have ht : xs.take k = xs := List.take_of_length_le (by rw [Hl.out]; exact Nat.le_refl _)
    rw [ht] at HFB HGB HNo
    have HF2 := Hd (show followsL xs x = if earlyB xs x.known = true then 7 else if x.kind ≠ 3 then 0 else if fb = false then 5 else if gb = true then 6 else 0 from by
     rw [HF.out, HNo.out, HFB.out, HGB.out]
     simp)
    clear ht HF HNo HFB HGB hlt
    have fin : ∀ (eb kb : Bool), earlyB xs x.known = eb → (x.kind == 3) = kb → True := fun _ _ _ _ => trivial
    clear fin
    obtain ⟨kb, hkb⟩ : ∃ b, (x.kind == 3) = b := ⟨_, rfl⟩
    have HK := Hd (show followsL xs x = if earlyB xs x.known = true then 7 else if kb = false then 0 else if fb = false then 5 else if gb = true then 6 else 0 from by
     rw [HF2.out, ← hkb]
     by_cases hk3 : x.kind = 3
     · simp [hk3]
     · simp [hk3])
    clear HF2
    by_cases hn0 : k = 0
    · have HK2 := Hd (show followsL xs x = if kb = false then 0 else if fb = false then 5 else if gb = true then 6 else 0 from by
       have e : xs = [] := List.eq_nil_of_length_eq_zero (by rw [Hl.out]; exact hn0)
       rw [HK.out, show earlyB xs x.known = false from by rw [e]; rfl]
       simp)
      have hd0 : decide ((0 : Int) < (k : Int)) = false := decide_eq_false (by omega)
      subst hn0
      clear HK
      have hd1 : decide ((0 : Int) < ((0 : Nat) : Int)) = false := rfl
      cases kb <;> cases fb <;> cases gb
      all_goals
       go_wp2_with fail
       go_quiet (fail)
       go_wp2_with fail
       go_ret
       exact ⟨by rw [HK2.out] <;> rfl, by first | exact HB.out | exact below_drewN HB.out _ | exact below_drewN (below_drewN HB.out _) _ | exact below_drewN (below_drewN (below_drewN HB.out _) _) _⟩
    · obtain ⟨m, rfl⟩ : ∃ m, k = m + 1 := ⟨k - 1, by omega⟩
      obtain ⟨b, off, y, hpa, hb, hy, c0, c1, c2, c3, c4, c5, c6, c7, c8, c9, c10, c11, c12, c13⟩ := HR.out.pa (show m < m + 1 by omega)
      subst hpa
      have HE := Hd (early_at Hl.out hy x.known)
      clear hy hn0
      have hd0 : decide ((0 : Int) < ((m + 1 : Nat) : Int)) = true := by simp
      by_cases hh : x.known < y.known
      · have hd : decide (x.known < y.known) = true := decide_eq_true hh
        have HK2 := Hd (show followsL xs x = 7 from by rw [HK.out, HE.out, hd]; rfl)
        clear hh HK HE
        go_wp2_with fail
        go_quiet (fail)
        go_wp2_with fail
        go_ret
        exact ⟨by rw [HK2.out] <;> rfl, by first | exact HB.out | exact below_drewN HB.out _ | exact below_drewN (below_drewN HB.out _) _ | exact below_drewN (below_drewN (below_drewN HB.out _) _) _⟩
      · have hd : decide (x.known < y.known) = false := decide_eq_false hh
        have HK2 := Hd (show followsL xs x = if kb = false then 0 else if fb = false then 5 else if gb = true then 6 else 0 from by rw [HK.out, HE.out, hd]; simp)
        clear hh HK HE
        cases kb <;> cases fb <;> cases gb
        all_goals
         go_wp2_with fail
         go_quiet (fail)
         go_wp2_with fail
         go_ret
         exact ⟨by rw [HK2.out] <;> rfl, by first | exact HB.out | exact below_drewN HB.out _ | exact below_drewN (below_drewN HB.out _) _ | exact below_drewN (below_drewN (below_drewN HB.out _) _) _⟩
theorem ret_two_int {j k : IntKind} {a b c d : Int} (h : a = b) (h' : c = d) : Ending.returned (.tuple #[.int j a, .int k c]) = .returned (.tuple #[.int j b, .int k d]) := by rw [h, h']
set_option maxRecDepth 100000 in
set_option maxHeartbeats 4000000 in
theorem rcheck_any (a : Option Addr) (n cap : Nat) (xs : List Pa) (hs : ∀ x ∈ xs, x.Short) (w : World) (h : Rd Pa.vals 14 w a n xs) (hcap : n ≤ cap) :
 Calls Tryz.prog 106 #[.slice a n cap] w fun e w' => e = .returned (.tuple #[.int .i64 (checkC xs).1, .int .i64 (checkC xs).2]) ∧ Below w.heap.size w w' := by
 have HR := Hd h
 have Hl := Hd h.len
 have HS := Hd hs
 have hm := h.cap
 unfold maxLen at hm
 clear h hs
 go_enter Tryz.func106, Tryz.ntmps106
 go_wp2_with fail
 go_loopw [4] (fun i wr => ∃ k : Nat, k ≤ n ∧ i = .int .i64 k ∧ checkC xs = checkFrom xs (n - k) k ∧ Below w.heap.size w wr) (fun i _ => n - (intOf i).toNat)
 case atStart => exact ⟨0, Nat.zero_le _, rfl, by unfold checkC; rw [Hl.out] <;> rfl, Below.refl _ _⟩
 case round =>
  obtain ⟨k, hk, rfl, hch, hB⟩ := hrel
  have Hch := Hd hch
  have HB := Hd hB
  have h1 := HR.out.below' hB
  clear hch hB
  by_cases hlt : k < n
  · obtain ⟨b, off, x, hpa, hb, hx, c0, c1, c2, c3, c4, c5, c6, c7, c8, c9, c10, c11, c12, c13⟩ := h1.pa hlt
    subst hpa
    have Hx := Hd hx
    have HR1 := Hd h1
    have hkc : k ≤ cap := by omega
    have HSx := Hd (HS.out x (List.mem_of_getElem? hx))
    clear hx h1
    obtain ⟨r, hr⟩ : ∃ r, n - k = r + 1 := ⟨n - k - 1, by omega⟩
    have Hr := Hd hr
    clear hr
    go_wp2_with fail
    have k0 := fun z : Later wr => z.cell c0
    have k1 := fun z : Later wr => z.cell c1
    have k2 := fun z : Later wr => z.cell c2
    have k3 := fun z : Later wr => z.cell c3
    have k4 := fun z : Later wr => z.cell c4
    have k5 := fun z : Later wr => z.cell c5
    have k6 := fun z : Later wr => z.cell c6
    have k7 := fun z : Later wr => z.cell c7
    have k8 := fun z : Later wr => z.cell c8
    have k9 := fun z : Later wr => z.cell c9
    have k10 := fun z : Later wr => z.cell c10
    have k11 := fun z : Later wr => z.cell c11
    have k12 := fun z : Later wr => z.cell c12
    have k13 := fun z : Later wr => z.cell c13
    clear c0 c1 c2 c3 c4 c5 c6 c7 c8 c9 c10 c11 c12 c13
    obtain ⟨fe, hfe⟩ : ∃ e, followsL (xs.take k) x = e := ⟨_, rfl⟩
    have C1 := Hd (show ∀ z : Later wr, Calls Tryz.prog 128 #[.slice (some ⟨b, off, none⟩) k cap, .agg #[.int .i64 x.id, .int .i64 x.known, .int .u8 x.kind, .int .i64 x.loss, .int .i64 x.pack, .int .i64 x.inn, .string ⟨x.mark.toArray⟩, .string ⟨x.goods.toArray⟩, .int .i64 x.low, .int .i64 x.high, .int .i64 x.pieces, .int .i64 x.owner, .int .i64 x.count, .int .i64 x.of]] z.w fun e w' => e = .returned (.int .i64 fe) ∧ Below z.w.heap.size z.w w' from fun z => by
     rw [← hfe]
     exact rfollows_any _ k cap (xs.take k) x HSx.out z.w ((HR1.out.take hk).below' z.hB))
    have HFE := Hd hfe
    clear hfe
    have hkc' : (k : Int) ≤ (cap : Int) := by omega
    have hlt' : (k : Int) < (n : Int) := by omega
    refine wp_region_later (by kernel_rfl) (by kernel_rfl) ?_
    repeat (go_big_quiet_step ((first | (go_at_call 128; with_reducible exact Calls.later_of (C1.out _)))))
    refine wpQuiet_nil ?_
    intro wz hw'
    obtain ⟨⟨W, hW⟩, hw2⟩ := hw'
    obtain rfl : W = wz := hw2.symm
    clear hw2 k0 k1 k2 k3 k4 k5 k6 k7 k8 k9 k10 k11 k12 k13
    have HB3 := Hd (HB.out.trans (hW.mono HB.out.size))
    clear hW
    by_cases hq : fe = 0
    · have hq1 : (fe != 0) = false := by simp [hq]
      have HN := Hd (show checkC xs = checkFrom xs (n - (k + 1)) (k + 1) from by rw [Hch.out, Hr.out, checkFrom_ok Hx.out (HFE.out.trans hq)]; congr 1; have := Hr.out; omega)
      clear hq
      go_wp2_with fail
      exact ⟨⟨k + 1, by omega, by go_num, HN.out, HB3.out⟩, by simp [intOf]; omega⟩
    · have hq1 : (fe != 0) = true := by simp [hq]
      have HN := Hd (show checkC xs = ((k : Int), fe) from by rw [Hch.out, Hr.out, checkFrom_no Hx.out (fun e => hq (HFE.out.symm.trans e)), HFE.out])
      clear hq
      go_wp2_with fail
      go_ret2
      exact ⟨ret_two_int (by rw [HN.out]) (by rw [HN.out]), HB3.out⟩
  · have HN := Hd (show checkC xs = (0, 0) from by rw [Hch.out, show n - k = 0 by omega]; rfl)
    clear h1
    go_wp2_with fail
    go_ret2
    exact ⟨ret_two_int (by rw [HN.out]) (by rw [HN.out]), HB.out⟩
theorem pa_eq_iff (p q : Pa) : p = q ↔ p.id = q.id ∧ p.known = q.known ∧ p.kind = q.kind ∧ p.loss = q.loss ∧ p.pack = q.pack ∧ p.inn = q.inn ∧ p.mark = q.mark ∧ p.goods = q.goods ∧ p.low = q.low ∧ p.high = q.high ∧ p.pieces = q.pieces ∧ p.owner = q.owner ∧ p.count = q.count ∧ p.of = q.of := by
 cases p; cases q; simp
theorem str_eq_iff (a b : List UInt8) : ((⟨a.toArray⟩ : ByteArray) = ⟨b.toArray⟩) ↔ a = b := by
 constructor
 · intro h
   have := congrArg (fun z : ByteArray => z.data.toList) h
   simpa using this
 · rintro rfl; rfl
theorem eqPa_run (p q : Pa) (w : World) : (Op.equalIn 10000 42 (.agg #[.int .i64 p.id, .int .i64 p.known, .int .u8 p.kind, .int .i64 p.loss, .int .i64 p.pack, .int .i64 p.inn, .string ⟨p.mark.toArray⟩, .string ⟨p.goods.toArray⟩, .int .i64 p.low, .int .i64 p.high, .int .i64 p.pieces, .int .i64 p.owner, .int .i64 p.count, .int .i64 p.of])
 (.agg #[.int .i64 q.id, .int .i64 q.known, .int .u8 q.kind, .int .i64 q.loss, .int .i64 q.pack, .int .i64 q.inn, .string ⟨q.mark.toArray⟩, .string ⟨q.goods.toArray⟩, .int .i64 q.low, .int .i64 q.high, .int .i64 q.pieces, .int .i64 q.owner, .int .i64 q.count, .int .i64 q.of])).run Tryz.prog w = .ok (decide (p = q)) w := by
 go_simp
 by_cases h : p = q
 · subst h
   simp
 · have h' := h
   rw [pa_eq_iff] at h'
   rw [decide_eq_false h]
   by_cases e0 : p.id = q.id
   case neg => rw [if_neg e0]
   rw [if_pos e0]
   by_cases e1 : p.known = q.known
   case neg => rw [if_neg e1]
   rw [if_pos e1]
   by_cases e2 : p.kind = q.kind
   case neg => rw [if_neg e2]
   rw [if_pos e2]
   by_cases e3 : p.loss = q.loss
   case neg => rw [if_neg e3]
   rw [if_pos e3]
   by_cases e4 : p.pack = q.pack
   case neg => rw [if_neg e4]
   rw [if_pos e4]
   by_cases e5 : p.inn = q.inn
   case neg => rw [if_neg e5]
   rw [if_pos e5]
   by_cases e6 : p.mark = q.mark
   case neg => rw [if_neg e6]
   rw [if_pos e6]
   by_cases e7 : p.goods = q.goods
   case neg => rw [if_neg e7]
   rw [if_pos e7]
   by_cases e8 : p.low = q.low
   case neg => rw [if_neg e8]
   rw [if_pos e8]
   by_cases e9 : p.high = q.high
   case neg => rw [if_neg e9]
   rw [if_pos e9]
   by_cases e10 : p.pieces = q.pieces
   case neg => rw [if_neg e10]
   rw [if_pos e10]
   by_cases e11 : p.owner = q.owner
   case neg => rw [if_neg e11]
   rw [if_pos e11]
   by_cases e12 : p.count = q.count
   case neg => rw [if_neg e12]
   rw [if_pos e12]
   by_cases e13 : p.of = q.of
   case neg => rw [if_neg e13]
   rw [if_pos e13]
   exact absurd ⟨e0, e1, e2, e3, e4, e5, e6, e7, e8, e9, e10, e11, e12, e13⟩ h'
theorem neqPa_run (p q : Pa) (w : World) : (binOp .neq 42 (.agg #[.int .i64 p.id, .int .i64 p.known, .int .u8 p.kind, .int .i64 p.loss, .int .i64 p.pack, .int .i64 p.inn, .string ⟨p.mark.toArray⟩, .string ⟨p.goods.toArray⟩, .int .i64 p.low, .int .i64 p.high, .int .i64 p.pieces, .int .i64 p.owner, .int .i64 p.count, .int .i64 p.of])
 (.agg #[.int .i64 q.id, .int .i64 q.known, .int .u8 q.kind, .int .i64 q.loss, .int .i64 q.pack, .int .i64 q.inn, .string ⟨q.mark.toArray⟩, .string ⟨q.goods.toArray⟩, .int .i64 q.low, .int .i64 q.high, .int .i64 q.pieces, .int .i64 q.owner, .int .i64 q.count, .int .i64 q.of])).run Tryz.prog w = .ok (.bool (!(decide (p = q)))) w := by
 simp only [binOp]
 simp [Op.equal, Op.maxDepth, eqPa_run]
theorem eqlPa_run (p q : Pa) (w : World) : (binOp .eql 42 (.agg #[.int .i64 p.id, .int .i64 p.known, .int .u8 p.kind, .int .i64 p.loss, .int .i64 p.pack, .int .i64 p.inn, .string ⟨p.mark.toArray⟩, .string ⟨p.goods.toArray⟩, .int .i64 p.low, .int .i64 p.high, .int .i64 p.pieces, .int .i64 p.owner, .int .i64 p.count, .int .i64 p.of])
 (.agg #[.int .i64 q.id, .int .i64 q.known, .int .u8 q.kind, .int .i64 q.loss, .int .i64 q.pack, .int .i64 q.inn, .string ⟨q.mark.toArray⟩, .string ⟨q.goods.toArray⟩, .int .i64 q.low, .int .i64 q.high, .int .i64 q.pieces, .int .i64 q.owner, .int .i64 q.count, .int .i64 q.of])).run Tryz.prog w = .ok (.bool (decide (p = q))) w := by
 simp only [binOp]
 simp [Op.equal, Op.maxDepth, eqPa_run]
def shortB (x : Pa) : Bool := decide (x.mark.length ≤ 100) && decide (x.goods.length ≤ 100)
def fewB (xs : List Pa) (most : Int) : Bool := decide ((xs.length : Int) ≤ most) && xs.all shortB
set_option maxRecDepth 100000 in
set_option maxHeartbeats 4000000 in
theorem rfew_any (a : Option Addr) (n cap : Nat) (xs : List Pa) (most : Int) (w : World) (h : Rd Pa.vals 14 w a n xs) :
 Calls Tryz.prog 13 #[.slice a n cap, .int .i64 most] w fun e w' => e = .returned (.bool (fewB xs most)) ∧ w' = w := by
 have HR := Hd h
 have Hl := Hd h.len
 have hm := h.cap
 unfold maxLen at hm
 clear h
 go_enter Tryz.func13, Tryz.ntmps13
 by_cases hbig : most < (n : Int)
 · have HE := Hd (show fewB xs most = false from by unfold fewB; rw [Hl.out, decide_eq_false (by omega)]; rfl)
   go_wp2_with fail
   go_ret
   exact ⟨by rw [HE.out] <;> rfl, rfl⟩
 have HM := Hd (show fewB xs most = xs.all shortB from by unfold fewB; rw [Hl.out, decide_eq_true (by omega)]; rfl)
 go_wp2_with fail
 clear hbig
 go_loopw [5] (fun i wr => ∃ k : Nat, k ≤ n ∧ i = .int .i64 k ∧ (xs.take k).all shortB = true ∧ wr = w) (fun i _ => n - (intOf i).toNat)
 case atStart => exact ⟨0, Nat.zero_le _, rfl, rfl, rfl⟩
 case round =>
  obtain ⟨k, hk, rfl, hall, rfl⟩ := hrel
  have HA := Hd hall
  clear hall
  by_cases hlt : k < n
  · have hlt' : (k : Int) < (n : Int) := by omega
    obtain ⟨b, off, x, hpa, hb, hx, c0, c1, c2, c3, c4, c5, c6, c7, c8, c9, c10, c11, c12, c13⟩ := HR.out.pa hlt
    subst hpa
    have Hx := Hd hx
    clear hx c0 c1 c2 c3 c4 c5 c8 c9 c10 c11 c12 c13
    by_cases hm1 : 100 < x.mark.length
    · have hm1' : (100 : Int) < (x.mark.length : Int) := by omega
      have HE := Hd (show fewB xs most = false from by rw [HM.out]; exact all_no Hx.out (by unfold shortB; rw [decide_eq_false (by omega)]; rfl))
      clear hm1
      go_wp2_with fail
      go_ret
      exact ⟨by rw [HE.out] <;> rfl, by first | rfl | trivial⟩
    have hm1' : ¬ (100 : Int) < (x.mark.length : Int) := by omega
    by_cases hm2 : 100 < x.goods.length
    · have hm2' : (100 : Int) < (x.goods.length : Int) := by omega
      have HE := Hd (show fewB xs most = false from by rw [HM.out]; exact all_no Hx.out (by unfold shortB; rw [decide_eq_false (show ¬ x.goods.length ≤ 100 by omega)]; simp))
      clear hm2
      go_wp2_with fail
      go_ret
      exact ⟨by rw [HE.out] <;> rfl, by first | rfl | trivial⟩
    have hm2' : ¬ (100 : Int) < (x.goods.length : Int) := by omega
    have HN := Hd (take_all_snoc (p := shortB) Hx.out HA.out (by unfold shortB; rw [decide_eq_true (by omega), decide_eq_true (by omega)]; rfl))
    clear hm1 hm2
    go_wp2_with fail
    exact ⟨⟨k + 1, by omega, by go_num, HN.out, by first | rfl | trivial⟩, by simp [intOf]; omega⟩
  · have hltg : ¬ (k : Int) < (n : Int) := by omega
    have HE := Hd (show fewB xs most = true from by
     have := HA.out
     rw [List.take_of_length_le (by rw [Hl.out]; omega)] at this
     rw [HM.out, this])
    clear hlt
    go_wp2_with fail
    go_ret
    exact ⟨by rw [HE.out] <;> rfl, by first | rfl | trivial⟩
theorem few_short {xs : List Pa} {most : Int} (h : fewB xs most = true) : (xs.length : Int) ≤ most ∧ ∀ x ∈ xs, x.mark.length ≤ 100 ∧ x.goods.length ≤ 100 := by
 unfold fewB at h
 rw [Bool.and_eq_true, decide_eq_true_eq, List.all_eq_true] at h
 refine ⟨h.1, fun x hx => ?_⟩
 have := h.2 x hx
 unfold shortB at this
 simpa using this
end Go.Proofs.YtehplmeckfinoaaGreatDoor
