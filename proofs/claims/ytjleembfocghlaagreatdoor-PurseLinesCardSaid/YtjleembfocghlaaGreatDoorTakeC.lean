/- The walk of take: a clawback is refused. -/
import Derived.Test.YtjleembfocghlaaGreatDoorTakeA
import Derived.Test.YtjleembfocghlaaGreatDoorFree
import Derived.Deep.RegionHeld3
set_option linter.unusedSimpArgs false
set_option linter.unusedVariables false
namespace Go.Proofs.YtjleembfocghlaaGreatDoor
open Go.RowKit
open Go.Maps (Keyed)

set_option maxRecDepth 100000 in
set_option maxHeartbeats 8000000 in
theorem take_back_none (L : Lay) (s : Ch) (p : Po) (w : World) (hp : p.Wf) (h : ChAt w L s) (hn : s.n < 400) (hok : okPo p) (hid : getB s.ids p.id = false) (hh : s.hour ≤ p.hour) (hk : p.kind = 3) (hs : (mget s.sold p.parcel).isSome = false) :
    Calls Tryz.prog 36 #[.pointer (some ⟨L.c, 0, none⟩), .agg #[.int .i64 p.id, .int .i64 p.hour, .int .u8 p.kind, .int .i64 p.party, .int .i64 p.parcel, .int .i64 p.amount, .int .i64 p.reason, .int .i64 p.known]] w fun r w' =>
      r = .returned (.int .i64 (takeE s p)) ∧ OnlyL L w w' ∧ (takeE s p = 0 → ChAt w' L (takeS s p)) := by
  have hmf : ∀ (fn : Fn) (first cap : Array Value) (w : World), (Instr.makeFunc fn first cap).run Tryz.prog w = .ok (.func fn first cap) w := fun _ _ _ _ => rfl
  have hmem : ¬ L.mem w.heap.size ∧ ¬ L.mem (w.heap.size + 1) := ⟨fun hk => by have := h.mem_lt hk; omega, fun hk => by have := h.mem_lt hk; omega⟩
  have Hmem := Lib.hid hmem
  have hbx := (BoxPo.made w p 23).below' ((Below.refl _ _).alloc (Nat.le_refl _) (.cells #[.int .i64 0] 25))
  have hch := (h.alloc (.cells #[.int .i64 p.id, .int .i64 p.hour, .int .u8 p.kind, .int .i64 p.party, .int .i64 p.parcel, .int .i64 p.amount, .int .i64 p.reason, .int .i64 p.known] 23)).alloc (.cells #[.int .i64 0] 25)
  have hE : ResE ((w.alloc (.cells #[.int .i64 p.id, .int .i64 p.hour, .int .u8 p.kind, .int .i64 p.party, .int .i64 p.parcel, .int .i64 p.amount, .int .i64 p.reason, .int .i64 p.known] 23)).alloc (.cells #[.int .i64 0] 25)) (w.heap.size + 1) := by
    have := heap_alloc_new (w.alloc (.cells #[.int .i64 p.id, .int .i64 p.hour, .int .u8 p.kind, .int .i64 p.party, .int .i64 p.parcel, .int .i64 p.amount, .int .i64 p.reason, .int .i64 p.known] 23)) (.cells #[.int .i64 0] 25)
    simpa [ResE] using this
  have HO := Lib.hid (onlyL_of_below (((Below.refl w.heap.size w).alloc (Nat.le_refl _) (.cells #[.int .i64 p.id, .int .i64 p.hour, .int .u8 p.kind, .int .i64 p.party, .int .i64 p.parcel, .int .i64 p.amount, .int .i64 p.reason, .int .i64 p.known] 23)).alloc (by simp) (.cells #[.int .i64 0] 25)) L)
  have d0 := h.cs.1
  have dlt : L.c < w.heap.size := h.mem_lt (.inl rfl)
  have HT := Lib.hid ((takeE_k hn hok hid hh).trans (by rw [if_neg (by omega), if_pos hs]))
  have Hok := Lib.hid hok
  have Hid1 := Lib.hid hid
  have Hk := Lib.hid hk
  clear hok hid hk h hmem
  go_enter_defers Tryz.func36, Tryz.ntmps36
  have hd : decide (s.n < 400) = true := by simp; omega
  go_wp2_with fail
  clear d0
  change ChAt ((w.alloc (.cells #[.int .i64 p.id, .int .i64 p.hour, .int .u8 p.kind, .int .i64 p.party, .int .i64 p.parcel, .int .i64 p.amount, .int .i64 p.reason, .int .i64 p.known] 23)).alloc (.cells #[.int .i64 0] 25)) L s at hch
  generalize ((w.alloc (.cells #[.int .i64 p.id, .int .i64 p.hour, .int .u8 p.kind, .int .i64 p.party, .int .i64 p.parcel, .int .i64 p.amount, .int .i64 p.reason, .int .i64 p.known] 23)).alloc (.cells #[.int .i64 0] 25)) = W at *
  clear hd
  obtain ⟨q0, q1, q2, q3, q4, q5, q6, q7⟩ := hbx.cells
  obtain ⟨c0, c1, c2, c3, c4, c5, c6⟩ := hch.cs
  refine (unless_yes 2 _).mono ?_
  rintro r w2 ⟨rfl, hw2⟩
  replace hw2 := hw2.symm
  subst hw2
  go_wp2_with fail
  have hcb : (chkPo p == 0) = true := by rw [chkPo, if_pos Hok.out]; rfl
  refine (checkPosting_any p _ hp.kind.1 hp.kind.2).mono ?_
  rintro r w2 ⟨rfl, hB2⟩
  have hch := hch.below' hB2
  have hbx := hbx.below' hB2
  have hE := hE.below' hB2
  have HO := Lib.hid (HO.out.trans (onlyL_of_below hB2 L))
  clear hB2
  clear q0 q1 q2 q3 q4 q5 q6 q7 c0 c1 c2 c3 c4 c5 c6
  generalize w2 = W at *
  obtain ⟨q0, q1, q2, q3, q4, q5, q6, q7⟩ := hbx.cells
  obtain ⟨c0, c1, c2, c3, c4, c5, c6⟩ := hch.cs
  go_wp2_with fail
  refine (unless_yes 1 _).mono ?_
  rintro r w2 ⟨rfl, hw2⟩
  replace hw2 := hw2.symm
  subst hw2
  clear hcb
  have l4 : (Instr.lookup 73 (.map (some L.ids)) (.int .i64 p.id) false).run Tryz.prog W.drew = .ok (.bool false) W.drew := (look_bool hch.drew.ids hp.id).trans (by rw [Hid1.out])
  go_wp2_with fail
  go_still_tail 8, (by kernel_rfl)
  change wpList _ _ _ _ _ W.drew
  go_wp2_with fail
  refine (unless_yes 6 _).mono ?_
  rintro r w2 ⟨rfl, hw2⟩
  replace hw2 := hw2.symm
  subst hw2
  clear l4
  go_wp2_with fail
  have hch := hch.drew
  have hbx := hbx.drewN 1
  have hE := hE.drewN 1
  have HO := Lib.hid (HO.out.trans (onlyL_of_below below_drew1 L))
  change BoxPo W.drew w.heap.size p at hbx
  change ResE W.drew (w.heap.size + 1) at hE
  clear q0 q1 q2 q3 q4 q5 q6 q7 c0 c1 c2 c3 c4 c5 c6
  generalize W.drew = W at *
  obtain ⟨q0, q1, q2, q3, q4, q5, q6, q7⟩ := hbx.cells
  obtain ⟨c0, c1, c2, c3, c4, c5, c6⟩ := hch.cs
  have hd5 : decide (s.hour ≤ p.hour) = true := by simp; omega
  go_wp2_with fail
  go_still_tail 7, (by kernel_rfl)
  change wpList _ _ _ _ _ W.drew
  go_wp2_with fail
  refine (unless_yes 7 _).mono ?_
  rintro r w2 ⟨rfl, hw2⟩
  replace hw2 := hw2.symm
  subst hw2
  clear hd5
  go_wp2_with fail
  have hch := hch.drew
  have hbx := hbx.drewN 1
  have hE := hE.drewN 1
  have HO := Lib.hid (HO.out.trans (onlyL_of_below below_drew1 L))
  change BoxPo W.drew w.heap.size p at hbx
  change ResE W.drew (w.heap.size + 1) at hE
  clear q0 q1 q2 q3 q4 q5 q6 q7 c0 c1 c2 c3 c4 c5 c6
  generalize W.drew = W at *
  obtain ⟨q0, q1, q2, q3, q4, q5, q6, q7⟩ := hbx.cells
  obtain ⟨c0, c1, c2, c3, c4, c5, c6⟩ := hch.cs
  have hix := fun W => index_take (f := 93) (.inr (.inr ⟨Hk.out, rfl⟩)) W
  go_wp2_with fail
  clear q0 q1 q2 q3 q4 q5 q6 q7 c0 c1 c2 c3 c4 c5 c6
  refine wp_region_free 6 (by kernel_rfl) (by kernel_rfl) [(.agg #[.nilFunc, .func (.func 91) #[] #[], .func (.func 92) #[] #[], .func (.func 93) #[] #[]]), .pointer (some ⟨w.heap.size, 2, none⟩), .int .u8 p.kind, .func (.func 93) #[] #[], .pointer (some ⟨L.c, 0, none⟩),
    .agg #[.int .i64 p.id, .int .i64 p.hour, .int .u8 p.kind, .int .i64 p.party, .int .i64 p.parcel, .int .i64 p.amount, .int .i64 p.reason, .int .i64 p.known]] (fun w' => ChAt w' L s ∧ BoxPo w' w.heap.size p ∧ ResE w' (w.heap.size + 1) ∧ Hid (OnlyL L w w')) (by rfl)
    ⟨hch.drew, hbx.drewN 1, hE.drewN 1, HO.out.trans (onlyL_of_below below_drew1 L)⟩ ?heads ?tail
  case heads =>
    simp only [List.take_succ_cons, List.take_zero, doesAll, headEnd, Act.put, List.setIfInBounds_toArray, List.set_cons_succ, List.set_cons_zero]
    refine ⟨?_, ?_, ?_, ?_, ?_, ?_, trivial⟩
    · rintro w' ⟨ch', bx', e', HO'⟩ K hK
      go_wp2_with fail
      refine (takes_any _).mono ?_
      rintro r w1 ⟨rfl, hB1⟩
      have hC1 := hK w1 ⟨ch'.below' hB1, bx'.below' hB1, e'.below' hB1, HO'.out.trans (onlyL_of_below hB1 L)⟩
      clear ch' bx' e' HO' hB1 hK
      go_wp2_with fail
      exact hC1
    all_goals
      rintro w' ⟨ch', bx', e', HO'⟩ K hK
      have hC1 := hK w' ⟨ch', bx', e', HO'⟩
      obtain ⟨q0, q1, q2, q3, q4, q5, q6, q7⟩ := bx'.cells
      clear hK ch' bx' e' HO'
      go_wp2_with fail
      try exact hC1
  case tail =>
    rintro w' ⟨hch, hbx, hE, HO⟩
    simp only [List.take_succ_cons, List.take_zero, headEnd, List.drop_succ_cons, List.drop_zero, Act.put, List.setIfInBounds_toArray, List.set_cons_succ, List.set_cons_zero]
    go_wp2_with fail
    refine (back_none L s p _ hp hch hs).mono ?_
    rintro r w3 ⟨rfl, hO3⟩
    have hE := hE.onlyL (L := L) hO3 Hmem.out.2
    have HO := Lib.hid (HO.out.trans hO3)
    clear hO3
    go_wp2_with fail
    refine leaves_cons (f := 67) (args := #[.pointer (some ⟨w.heap.size + 1, 0, none⟩)]) (by simp) (by simp [go_sem]) ?_
    refine (catch_refusal (w.heap.size + 1) 0 _ [] _ hE.cell hE.free).mono ?_
    rintro r u' w'' ⟨rfl, rfl, rfl⟩
    have hc1 := hE.cell
    have hlt1 := hE.lt
    simp [Leaves, settle, results, Tryz.results36, go_sem, refusalV, hc1, hlt1]
    exact ⟨HT.out.symm, onlyL_catch HO.out (Nat.le_succ _), fun h0 => by have := HT.out; omega⟩

set_option maxRecDepth 100000 in
set_option maxHeartbeats 8000000 in
theorem take_back_poor (L : Lay) (s : Ch) (p : Po) (w : World) (hp : p.Wf) (h : ChAt w L s) (hn : s.n < 400) (hok : okPo p) (hid : getB s.ids p.id = false) (hh : s.hour ≤ p.hour) (hk : p.kind = 3) (hs : (mget s.sold p.parcel).isSome = true) (ha : getI s.has (p.parcel, p.party) < p.amount) :
    Calls Tryz.prog 36 #[.pointer (some ⟨L.c, 0, none⟩), .agg #[.int .i64 p.id, .int .i64 p.hour, .int .u8 p.kind, .int .i64 p.party, .int .i64 p.parcel, .int .i64 p.amount, .int .i64 p.reason, .int .i64 p.known]] w fun r w' =>
      r = .returned (.int .i64 (takeE s p)) ∧ OnlyL L w w' ∧ (takeE s p = 0 → ChAt w' L (takeS s p)) := by
  have hmf : ∀ (fn : Fn) (first cap : Array Value) (w : World), (Instr.makeFunc fn first cap).run Tryz.prog w = .ok (.func fn first cap) w := fun _ _ _ _ => rfl
  have hmem : ¬ L.mem w.heap.size ∧ ¬ L.mem (w.heap.size + 1) := ⟨fun hk => by have := h.mem_lt hk; omega, fun hk => by have := h.mem_lt hk; omega⟩
  have Hmem := Lib.hid hmem
  have hbx := (BoxPo.made w p 23).below' ((Below.refl _ _).alloc (Nat.le_refl _) (.cells #[.int .i64 0] 25))
  have hch := (h.alloc (.cells #[.int .i64 p.id, .int .i64 p.hour, .int .u8 p.kind, .int .i64 p.party, .int .i64 p.parcel, .int .i64 p.amount, .int .i64 p.reason, .int .i64 p.known] 23)).alloc (.cells #[.int .i64 0] 25)
  have hE : ResE ((w.alloc (.cells #[.int .i64 p.id, .int .i64 p.hour, .int .u8 p.kind, .int .i64 p.party, .int .i64 p.parcel, .int .i64 p.amount, .int .i64 p.reason, .int .i64 p.known] 23)).alloc (.cells #[.int .i64 0] 25)) (w.heap.size + 1) := by
    have := heap_alloc_new (w.alloc (.cells #[.int .i64 p.id, .int .i64 p.hour, .int .u8 p.kind, .int .i64 p.party, .int .i64 p.parcel, .int .i64 p.amount, .int .i64 p.reason, .int .i64 p.known] 23)) (.cells #[.int .i64 0] 25)
    simpa [ResE] using this
  have HO := Lib.hid (onlyL_of_below (((Below.refl w.heap.size w).alloc (Nat.le_refl _) (.cells #[.int .i64 p.id, .int .i64 p.hour, .int .u8 p.kind, .int .i64 p.party, .int .i64 p.parcel, .int .i64 p.amount, .int .i64 p.reason, .int .i64 p.known] 23)).alloc (by simp) (.cells #[.int .i64 0] 25)) L)
  have d0 := h.cs.1
  have dlt : L.c < w.heap.size := h.mem_lt (.inl rfl)
  have HT := Lib.hid ((takeE_k hn hok hid hh).trans (by rw [if_neg (by omega), if_neg (by simp [hs]), if_neg (by omega), if_pos ha]))
  have Hok := Lib.hid hok
  have Hid1 := Lib.hid hid
  have Hk := Lib.hid hk
  clear hok hid hk h hmem
  go_enter_defers Tryz.func36, Tryz.ntmps36
  have hd : decide (s.n < 400) = true := by simp; omega
  go_wp2_with fail
  clear d0
  change ChAt ((w.alloc (.cells #[.int .i64 p.id, .int .i64 p.hour, .int .u8 p.kind, .int .i64 p.party, .int .i64 p.parcel, .int .i64 p.amount, .int .i64 p.reason, .int .i64 p.known] 23)).alloc (.cells #[.int .i64 0] 25)) L s at hch
  generalize ((w.alloc (.cells #[.int .i64 p.id, .int .i64 p.hour, .int .u8 p.kind, .int .i64 p.party, .int .i64 p.parcel, .int .i64 p.amount, .int .i64 p.reason, .int .i64 p.known] 23)).alloc (.cells #[.int .i64 0] 25)) = W at *
  clear hd
  obtain ⟨q0, q1, q2, q3, q4, q5, q6, q7⟩ := hbx.cells
  obtain ⟨c0, c1, c2, c3, c4, c5, c6⟩ := hch.cs
  refine (unless_yes 2 _).mono ?_
  rintro r w2 ⟨rfl, hw2⟩
  replace hw2 := hw2.symm
  subst hw2
  go_wp2_with fail
  have hcb : (chkPo p == 0) = true := by rw [chkPo, if_pos Hok.out]; rfl
  refine (checkPosting_any p _ hp.kind.1 hp.kind.2).mono ?_
  rintro r w2 ⟨rfl, hB2⟩
  have hch := hch.below' hB2
  have hbx := hbx.below' hB2
  have hE := hE.below' hB2
  have HO := Lib.hid (HO.out.trans (onlyL_of_below hB2 L))
  clear hB2
  clear q0 q1 q2 q3 q4 q5 q6 q7 c0 c1 c2 c3 c4 c5 c6
  generalize w2 = W at *
  obtain ⟨q0, q1, q2, q3, q4, q5, q6, q7⟩ := hbx.cells
  obtain ⟨c0, c1, c2, c3, c4, c5, c6⟩ := hch.cs
  go_wp2_with fail
  refine (unless_yes 1 _).mono ?_
  rintro r w2 ⟨rfl, hw2⟩
  replace hw2 := hw2.symm
  subst hw2
  clear hcb
  have l4 : (Instr.lookup 73 (.map (some L.ids)) (.int .i64 p.id) false).run Tryz.prog W.drew = .ok (.bool false) W.drew := (look_bool hch.drew.ids hp.id).trans (by rw [Hid1.out])
  go_wp2_with fail
  go_still_tail 8, (by kernel_rfl)
  change wpList _ _ _ _ _ W.drew
  go_wp2_with fail
  refine (unless_yes 6 _).mono ?_
  rintro r w2 ⟨rfl, hw2⟩
  replace hw2 := hw2.symm
  subst hw2
  clear l4
  go_wp2_with fail
  have hch := hch.drew
  have hbx := hbx.drewN 1
  have hE := hE.drewN 1
  have HO := Lib.hid (HO.out.trans (onlyL_of_below below_drew1 L))
  change BoxPo W.drew w.heap.size p at hbx
  change ResE W.drew (w.heap.size + 1) at hE
  clear q0 q1 q2 q3 q4 q5 q6 q7 c0 c1 c2 c3 c4 c5 c6
  generalize W.drew = W at *
  obtain ⟨q0, q1, q2, q3, q4, q5, q6, q7⟩ := hbx.cells
  obtain ⟨c0, c1, c2, c3, c4, c5, c6⟩ := hch.cs
  have hd5 : decide (s.hour ≤ p.hour) = true := by simp; omega
  go_wp2_with fail
  go_still_tail 7, (by kernel_rfl)
  change wpList _ _ _ _ _ W.drew
  go_wp2_with fail
  refine (unless_yes 7 _).mono ?_
  rintro r w2 ⟨rfl, hw2⟩
  replace hw2 := hw2.symm
  subst hw2
  clear hd5
  go_wp2_with fail
  have hch := hch.drew
  have hbx := hbx.drewN 1
  have hE := hE.drewN 1
  have HO := Lib.hid (HO.out.trans (onlyL_of_below below_drew1 L))
  change BoxPo W.drew w.heap.size p at hbx
  change ResE W.drew (w.heap.size + 1) at hE
  clear q0 q1 q2 q3 q4 q5 q6 q7 c0 c1 c2 c3 c4 c5 c6
  generalize W.drew = W at *
  obtain ⟨q0, q1, q2, q3, q4, q5, q6, q7⟩ := hbx.cells
  obtain ⟨c0, c1, c2, c3, c4, c5, c6⟩ := hch.cs
  have hix := fun W => index_take (f := 93) (.inr (.inr ⟨Hk.out, rfl⟩)) W
  go_wp2_with fail
  clear q0 q1 q2 q3 q4 q5 q6 q7 c0 c1 c2 c3 c4 c5 c6
  refine wp_region_free 6 (by kernel_rfl) (by kernel_rfl) [(.agg #[.nilFunc, .func (.func 91) #[] #[], .func (.func 92) #[] #[], .func (.func 93) #[] #[]]), .pointer (some ⟨w.heap.size, 2, none⟩), .int .u8 p.kind, .func (.func 93) #[] #[], .pointer (some ⟨L.c, 0, none⟩),
    .agg #[.int .i64 p.id, .int .i64 p.hour, .int .u8 p.kind, .int .i64 p.party, .int .i64 p.parcel, .int .i64 p.amount, .int .i64 p.reason, .int .i64 p.known]] (fun w' => ChAt w' L s ∧ BoxPo w' w.heap.size p ∧ ResE w' (w.heap.size + 1) ∧ Hid (OnlyL L w w')) (by rfl)
    ⟨hch.drew, hbx.drewN 1, hE.drewN 1, HO.out.trans (onlyL_of_below below_drew1 L)⟩ ?heads ?tail
  case heads =>
    simp only [List.take_succ_cons, List.take_zero, doesAll, headEnd, Act.put, List.setIfInBounds_toArray, List.set_cons_succ, List.set_cons_zero]
    refine ⟨?_, ?_, ?_, ?_, ?_, ?_, trivial⟩
    · rintro w' ⟨ch', bx', e', HO'⟩ K hK
      go_wp2_with fail
      refine (takes_any _).mono ?_
      rintro r w1 ⟨rfl, hB1⟩
      have hC1 := hK w1 ⟨ch'.below' hB1, bx'.below' hB1, e'.below' hB1, HO'.out.trans (onlyL_of_below hB1 L)⟩
      clear ch' bx' e' HO' hB1 hK
      go_wp2_with fail
      exact hC1
    all_goals
      rintro w' ⟨ch', bx', e', HO'⟩ K hK
      have hC1 := hK w' ⟨ch', bx', e', HO'⟩
      obtain ⟨q0, q1, q2, q3, q4, q5, q6, q7⟩ := bx'.cells
      clear hK ch' bx' e' HO'
      go_wp2_with fail
      try exact hC1
  case tail =>
    rintro w' ⟨hch, hbx, hE, HO⟩
    simp only [List.take_succ_cons, List.take_zero, headEnd, List.drop_succ_cons, List.drop_zero, Act.put, List.setIfInBounds_toArray, List.set_cons_succ, List.set_cons_zero]
    go_wp2_with fail
    refine (back_poor L s p _ hp hch hs ha).mono ?_
    rintro r w3 ⟨rfl, hO3⟩
    have hE := hE.onlyL (L := L) hO3 Hmem.out.2
    have HO := Lib.hid (HO.out.trans hO3)
    clear hO3
    go_wp2_with fail
    refine leaves_cons (f := 67) (args := #[.pointer (some ⟨w.heap.size + 1, 0, none⟩)]) (by simp) (by simp [go_sem]) ?_
    refine (catch_refusal (w.heap.size + 1) 0 _ [] _ hE.cell hE.free).mono ?_
    rintro r u' w'' ⟨rfl, rfl, rfl⟩
    have hc1 := hE.cell
    have hlt1 := hE.lt
    simp [Leaves, settle, results, Tryz.results36, go_sem, refusalV, hc1, hlt1]
    exact ⟨HT.out.symm, onlyL_catch HO.out (Nat.le_succ _), fun h0 => by have := HT.out; omega⟩

set_option maxRecDepth 100000 in
set_option maxHeartbeats 8000000 in
theorem take_back_reason (L : Lay) (s : Ch) (p : Po) (w : World) (hp : p.Wf) (h : ChAt w L s) (hn : s.n < 400) (hok : okPo p) (hid : getB s.ids p.id = false) (hh : s.hour ≤ p.hour) (hk : p.kind = 3) (hs : (mget s.sold p.parcel).isSome = true) (ha : p.amount ≤ getI s.has (p.parcel, p.party)) (hkn : p.known ≤ (getP s.last (p.parcel, p.party)).known) :
    Calls Tryz.prog 36 #[.pointer (some ⟨L.c, 0, none⟩), .agg #[.int .i64 p.id, .int .i64 p.hour, .int .u8 p.kind, .int .i64 p.party, .int .i64 p.parcel, .int .i64 p.amount, .int .i64 p.reason, .int .i64 p.known]] w fun r w' =>
      r = .returned (.int .i64 (takeE s p)) ∧ OnlyL L w w' ∧ (takeE s p = 0 → ChAt w' L (takeS s p)) := by
  have hmf : ∀ (fn : Fn) (first cap : Array Value) (w : World), (Instr.makeFunc fn first cap).run Tryz.prog w = .ok (.func fn first cap) w := fun _ _ _ _ => rfl
  have hmem : ¬ L.mem w.heap.size ∧ ¬ L.mem (w.heap.size + 1) := ⟨fun hk => by have := h.mem_lt hk; omega, fun hk => by have := h.mem_lt hk; omega⟩
  have Hmem := Lib.hid hmem
  have hbx := (BoxPo.made w p 23).below' ((Below.refl _ _).alloc (Nat.le_refl _) (.cells #[.int .i64 0] 25))
  have hch := (h.alloc (.cells #[.int .i64 p.id, .int .i64 p.hour, .int .u8 p.kind, .int .i64 p.party, .int .i64 p.parcel, .int .i64 p.amount, .int .i64 p.reason, .int .i64 p.known] 23)).alloc (.cells #[.int .i64 0] 25)
  have hE : ResE ((w.alloc (.cells #[.int .i64 p.id, .int .i64 p.hour, .int .u8 p.kind, .int .i64 p.party, .int .i64 p.parcel, .int .i64 p.amount, .int .i64 p.reason, .int .i64 p.known] 23)).alloc (.cells #[.int .i64 0] 25)) (w.heap.size + 1) := by
    have := heap_alloc_new (w.alloc (.cells #[.int .i64 p.id, .int .i64 p.hour, .int .u8 p.kind, .int .i64 p.party, .int .i64 p.parcel, .int .i64 p.amount, .int .i64 p.reason, .int .i64 p.known] 23)) (.cells #[.int .i64 0] 25)
    simpa [ResE] using this
  have HO := Lib.hid (onlyL_of_below (((Below.refl w.heap.size w).alloc (Nat.le_refl _) (.cells #[.int .i64 p.id, .int .i64 p.hour, .int .u8 p.kind, .int .i64 p.party, .int .i64 p.parcel, .int .i64 p.amount, .int .i64 p.reason, .int .i64 p.known] 23)).alloc (by simp) (.cells #[.int .i64 0] 25)) L)
  have d0 := h.cs.1
  have dlt : L.c < w.heap.size := h.mem_lt (.inl rfl)
  have HT := Lib.hid ((takeE_k hn hok hid hh).trans (by rw [if_neg (by omega), if_neg (by simp [hs]), if_neg (by omega), if_neg (by omega), if_pos hkn]))
  have Hok := Lib.hid hok
  have Hid1 := Lib.hid hid
  have Hk := Lib.hid hk
  clear hok hid hk h hmem
  go_enter_defers Tryz.func36, Tryz.ntmps36
  have hd : decide (s.n < 400) = true := by simp; omega
  go_wp2_with fail
  clear d0
  change ChAt ((w.alloc (.cells #[.int .i64 p.id, .int .i64 p.hour, .int .u8 p.kind, .int .i64 p.party, .int .i64 p.parcel, .int .i64 p.amount, .int .i64 p.reason, .int .i64 p.known] 23)).alloc (.cells #[.int .i64 0] 25)) L s at hch
  generalize ((w.alloc (.cells #[.int .i64 p.id, .int .i64 p.hour, .int .u8 p.kind, .int .i64 p.party, .int .i64 p.parcel, .int .i64 p.amount, .int .i64 p.reason, .int .i64 p.known] 23)).alloc (.cells #[.int .i64 0] 25)) = W at *
  clear hd
  obtain ⟨q0, q1, q2, q3, q4, q5, q6, q7⟩ := hbx.cells
  obtain ⟨c0, c1, c2, c3, c4, c5, c6⟩ := hch.cs
  refine (unless_yes 2 _).mono ?_
  rintro r w2 ⟨rfl, hw2⟩
  replace hw2 := hw2.symm
  subst hw2
  go_wp2_with fail
  have hcb : (chkPo p == 0) = true := by rw [chkPo, if_pos Hok.out]; rfl
  refine (checkPosting_any p _ hp.kind.1 hp.kind.2).mono ?_
  rintro r w2 ⟨rfl, hB2⟩
  have hch := hch.below' hB2
  have hbx := hbx.below' hB2
  have hE := hE.below' hB2
  have HO := Lib.hid (HO.out.trans (onlyL_of_below hB2 L))
  clear hB2
  clear q0 q1 q2 q3 q4 q5 q6 q7 c0 c1 c2 c3 c4 c5 c6
  generalize w2 = W at *
  obtain ⟨q0, q1, q2, q3, q4, q5, q6, q7⟩ := hbx.cells
  obtain ⟨c0, c1, c2, c3, c4, c5, c6⟩ := hch.cs
  go_wp2_with fail
  refine (unless_yes 1 _).mono ?_
  rintro r w2 ⟨rfl, hw2⟩
  replace hw2 := hw2.symm
  subst hw2
  clear hcb
  have l4 : (Instr.lookup 73 (.map (some L.ids)) (.int .i64 p.id) false).run Tryz.prog W.drew = .ok (.bool false) W.drew := (look_bool hch.drew.ids hp.id).trans (by rw [Hid1.out])
  go_wp2_with fail
  go_still_tail 8, (by kernel_rfl)
  change wpList _ _ _ _ _ W.drew
  go_wp2_with fail
  refine (unless_yes 6 _).mono ?_
  rintro r w2 ⟨rfl, hw2⟩
  replace hw2 := hw2.symm
  subst hw2
  clear l4
  go_wp2_with fail
  have hch := hch.drew
  have hbx := hbx.drewN 1
  have hE := hE.drewN 1
  have HO := Lib.hid (HO.out.trans (onlyL_of_below below_drew1 L))
  change BoxPo W.drew w.heap.size p at hbx
  change ResE W.drew (w.heap.size + 1) at hE
  clear q0 q1 q2 q3 q4 q5 q6 q7 c0 c1 c2 c3 c4 c5 c6
  generalize W.drew = W at *
  obtain ⟨q0, q1, q2, q3, q4, q5, q6, q7⟩ := hbx.cells
  obtain ⟨c0, c1, c2, c3, c4, c5, c6⟩ := hch.cs
  have hd5 : decide (s.hour ≤ p.hour) = true := by simp; omega
  go_wp2_with fail
  go_still_tail 7, (by kernel_rfl)
  change wpList _ _ _ _ _ W.drew
  go_wp2_with fail
  refine (unless_yes 7 _).mono ?_
  rintro r w2 ⟨rfl, hw2⟩
  replace hw2 := hw2.symm
  subst hw2
  clear hd5
  go_wp2_with fail
  have hch := hch.drew
  have hbx := hbx.drewN 1
  have hE := hE.drewN 1
  have HO := Lib.hid (HO.out.trans (onlyL_of_below below_drew1 L))
  change BoxPo W.drew w.heap.size p at hbx
  change ResE W.drew (w.heap.size + 1) at hE
  clear q0 q1 q2 q3 q4 q5 q6 q7 c0 c1 c2 c3 c4 c5 c6
  generalize W.drew = W at *
  obtain ⟨q0, q1, q2, q3, q4, q5, q6, q7⟩ := hbx.cells
  obtain ⟨c0, c1, c2, c3, c4, c5, c6⟩ := hch.cs
  have hix := fun W => index_take (f := 93) (.inr (.inr ⟨Hk.out, rfl⟩)) W
  go_wp2_with fail
  clear q0 q1 q2 q3 q4 q5 q6 q7 c0 c1 c2 c3 c4 c5 c6
  refine wp_region_free 6 (by kernel_rfl) (by kernel_rfl) [(.agg #[.nilFunc, .func (.func 91) #[] #[], .func (.func 92) #[] #[], .func (.func 93) #[] #[]]), .pointer (some ⟨w.heap.size, 2, none⟩), .int .u8 p.kind, .func (.func 93) #[] #[], .pointer (some ⟨L.c, 0, none⟩),
    .agg #[.int .i64 p.id, .int .i64 p.hour, .int .u8 p.kind, .int .i64 p.party, .int .i64 p.parcel, .int .i64 p.amount, .int .i64 p.reason, .int .i64 p.known]] (fun w' => ChAt w' L s ∧ BoxPo w' w.heap.size p ∧ ResE w' (w.heap.size + 1) ∧ Hid (OnlyL L w w')) (by rfl)
    ⟨hch.drew, hbx.drewN 1, hE.drewN 1, HO.out.trans (onlyL_of_below below_drew1 L)⟩ ?heads ?tail
  case heads =>
    simp only [List.take_succ_cons, List.take_zero, doesAll, headEnd, Act.put, List.setIfInBounds_toArray, List.set_cons_succ, List.set_cons_zero]
    refine ⟨?_, ?_, ?_, ?_, ?_, ?_, trivial⟩
    · rintro w' ⟨ch', bx', e', HO'⟩ K hK
      go_wp2_with fail
      refine (takes_any _).mono ?_
      rintro r w1 ⟨rfl, hB1⟩
      have hC1 := hK w1 ⟨ch'.below' hB1, bx'.below' hB1, e'.below' hB1, HO'.out.trans (onlyL_of_below hB1 L)⟩
      clear ch' bx' e' HO' hB1 hK
      go_wp2_with fail
      exact hC1
    all_goals
      rintro w' ⟨ch', bx', e', HO'⟩ K hK
      have hC1 := hK w' ⟨ch', bx', e', HO'⟩
      obtain ⟨q0, q1, q2, q3, q4, q5, q6, q7⟩ := bx'.cells
      clear hK ch' bx' e' HO'
      go_wp2_with fail
      try exact hC1
  case tail =>
    rintro w' ⟨hch, hbx, hE, HO⟩
    simp only [List.take_succ_cons, List.take_zero, headEnd, List.drop_succ_cons, List.drop_zero, Act.put, List.setIfInBounds_toArray, List.set_cons_succ, List.set_cons_zero]
    go_wp2_with fail
    refine (back_reason L s p _ hp hch hs ha _ rfl hkn).mono ?_
    rintro r w3 ⟨rfl, hO3⟩
    have hE := hE.onlyL (L := L) hO3 Hmem.out.2
    have HO := Lib.hid (HO.out.trans hO3)
    clear hO3
    go_wp2_with fail
    refine leaves_cons (f := 67) (args := #[.pointer (some ⟨w.heap.size + 1, 0, none⟩)]) (by simp) (by simp [go_sem]) ?_
    refine (catch_refusal (w.heap.size + 1) 0 _ [] _ hE.cell hE.free).mono ?_
    rintro r u' w'' ⟨rfl, rfl, rfl⟩
    have hc1 := hE.cell
    have hlt1 := hE.lt
    simp [Leaves, settle, results, Tryz.results36, go_sem, refusalV, hc1, hlt1]
    exact ⟨HT.out.symm, onlyL_catch HO.out (Nat.le_succ _), fun h0 => by have := HT.out; omega⟩
end Go.Proofs.YtjleembfocghlaaGreatDoor
