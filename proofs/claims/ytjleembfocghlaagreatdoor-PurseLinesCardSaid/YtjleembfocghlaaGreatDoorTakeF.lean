/- The walk of take: what is taken. -/
import Derived.Test.YtjleembfocghlaaGreatDoorTakeA
import Derived.Test.YtjleembfocghlaaGreatDoorPhase
import Derived.Deep.RegionHeld3
set_option linter.unusedSimpArgs false
set_option linter.unusedVariables false
namespace Go.Proofs.YtjleembfocghlaaGreatDoor
open Go.RowKit
open Go.Maps (Keyed)

theorem ChAt.same {w w' : World} {L : Lay} {s : Ch} (h : ChAt w L s) (hb : ∀ k, L.mem k → w'.heap[k]? = w.heap[k]?) : ChAt w' L s :=
  ⟨h.ok, (hb _ (.inl rfl)).trans h.cells, h.ids.same (hb _ (.inr (.inl rfl))), h.sold.same (hb _ (.inr (.inr (.inl rfl)))), h.held.same (hb _ (.inr (.inr (.inr (.inl rfl))))), h.has.same (hb _ (.inr (.inr (.inr (.inr (.inl rfl)))))), h.last.same (hb _ (.inr (.inr (.inr (.inr (.inr rfl))))))⟩
theorem ChAt.setOther {w : World} {L : Lay} {s : Ch} (h : ChAt w L s) (a : Addr) (ha : ¬ L.mem a.block) (v : Value) : ChAt (w.setCell a v) L s :=
  h.same fun k hk => Below.heap_setCell _ _ _ _ (fun e => ha (by rw [← e]; exact hk))
theorem onlyL_setNew {w W : World} {L : Lay} {E : Nat} {v : Value} (h : OnlyL L w W) (hE : w.heap.size ≤ E) : OnlyL L w (W.setCell ⟨E, 0, none⟩ v) :=
  ⟨h.os, h.tape, h.output, by simpa [World.setCell] using h.size, fun k hk hm => (Below.heap_setCell _ _ _ _ (by show k ≠ E; omega)).trans (h.block k hk hm)⟩
theorem ChAt.free {w : World} {L : Lay} {s : Ch} (h : ChAt w L s) (o : Nat) : w.frozen? ⟨L.c, o, none⟩ = false := by
  simp [World.frozen?, h.cells]

theorem ChAt.setN {w : World} {L : Lay} {s : Ch} (h : ChAt w L s) (n : Int) : ChAt (w.setCell ⟨L.c, 0, none⟩ (.int .i64 n)) L { s with n := n } := by
  have h1 : ∀ k, k ≠ L.c → (w.setCell ⟨L.c, 0, none⟩ (.int .i64 n)).heap[k]? = w.heap[k]? := fun k hk => Below.heap_setCell _ _ _ _ (by simpa using hk)
  refine ⟨h.ok, ?_, h.ids.same (h1 _ (fun e => h.ok.h1 e.symm)), h.sold.same (h1 _ (fun e => h.ok.h2 e.symm)), h.held.same (h1 _ (fun e => h.ok.h3 e.symm)), h.has.same (h1 _ (fun e => h.ok.h4 e.symm)), h.last.same (h1 _ (fun e => h.ok.h5 e.symm))⟩
  simp [World.setCell, Array.getElem?_modify, h.cells]

set_option maxRecDepth 100000 in
set_option maxHeartbeats 8000000 in
theorem take_sale_ok (L : Lay) (s : Ch) (p : Po) (w : World) (hp : p.Wf) (h : ChAt w L s) (hn : s.n < 400) (hok : okPo p) (hid : getB s.ids p.id = false) (hh : s.hour ≤ p.hour) (hk : p.kind = 1) (hn0 : 0 ≤ s.n) (hs : (mget s.sold p.parcel).isSome = false) :
    Calls Tryz.prog 36 #[.pointer (some ⟨L.c, 0, none⟩), .agg #[.int .i64 p.id, .int .i64 p.hour, .int .u8 p.kind, .int .i64 p.party, .int .i64 p.parcel, .int .i64 p.amount, .int .i64 p.reason, .int .i64 p.known]] w fun r w' =>
      r = .returned (.int .i64 (takeE s p)) ∧ OnlyL L w w' ∧ (takeE s p = 0 → ChAt w' L (takeS s p)) := by
  have hmf : ∀ (fn : Fn) (first cap : Array Value) (w : World), (Instr.makeFunc fn first cap).run Tryz.prog w = .ok (.func fn first cap) w := fun _ _ _ _ => rfl
  have hmem : ¬ L.mem w.heap.size ∧ ¬ L.mem (w.heap.size + 1) := ⟨fun hk => by have := h.mem_lt hk; omega, fun hk => by have := h.mem_lt hk; omega⟩
  have Hmem := Lib.hid hmem
  have hbx := (BoxPo.made w p 23).below' ((Below.refl _ _).alloc (Nat.le_refl _) (.cells #[.int .i64 0] 25))
  have hch := (h.alloc (.cells #[.int .i64 p.id, .int .i64 p.hour, .int .u8 p.kind, .int .i64 p.party, .int .i64 p.parcel, .int .i64 p.amount, .int .i64 p.reason, .int .i64 p.known] 23)).alloc (.cells #[.int .i64 0] 25)
  have hE : ResE ((w.alloc (.cells #[.int .i64 p.id, .int .i64 p.hour, .int .u8 p.kind, .int .i64 p.party, .int .i64 p.parcel, .int .i64 p.amount, .int .i64 p.reason, .int .i64 p.known] 23)).alloc (.cells #[.int .i64 0] 25)) (w.heap.size + 1) := by
    have := heap_alloc_new (w.alloc (.cells #[.int .i64 p.id, .int .i64 p.hour, .int .u8 p.kind, .int .i64 p.party, .int .i64 p.parcel, .int .i64 p.amount, .int .i64 p.reason, .int .i64 p.known] 23)) (.cells #[.int .i64 0] 25)
    simpa [ResE] using this
  have HO := Lib.hid (onlyL_of_below (((Below.refl w.heap.size w).alloc (Nat.le_refl _) (.cells #[.int .i64 p.id, .int .i64 p.hour, .int .u8 p.kind, .int .i64 p.party, .int .i64 p.parcel, .int .i64 p.amount, .int .i64 p.reason, .int .i64 p.known] 23)).alloc (by simp) (.cells #[.int .i64 0] 25)) L)
  have d0 := h.cs.1
  have dlt : L.c < w.heap.size := h.mem_lt (.inl rfl)
  have HT := Lib.hid ((takeE_k hn hok hid hh).trans (by rw [if_pos hk, if_neg (by simp [hs])]))
  have Hok := Lib.hid hok
  have Hid1 := Lib.hid hid
  have Hk := Lib.hid hk
  clear hok hid hk h hmem
  go_enter_defers Tryz.func36, Tryz.ntmps36
  have hd : decide (s.n < 400) = true := by simp; omega
  go_wp2_with fail
  clear d0
  change ChAt ((w.alloc (.cells #[.int .i64 p.id, .int .i64 p.hour, .int .u8 p.kind, .int .i64 p.party, .int .i64 p.parcel, .int .i64 p.amount, .int .i64 p.reason, .int .i64 p.known] 23)).alloc (.cells #[.int .i64 0] 25)) L s at hch
  generalize ((w.alloc (.cells #[.int .i64 p.id, .int .i64 p.hour, .int .u8 p.kind, .int .i64 p.party, .int .i64 p.parcel, .int .i64 p.amount, .int .i64 p.reason, .int .i64 p.known] 23)).alloc (.cells #[.int .i64 0] 25)) = W at *
  clear hd
  obtain ⟨q0, q1, q2, q3, q4, q5, q6, q7⟩ := hbx.cells
  obtain ⟨c0, c1, c2, c3, c4, c5, c6⟩ := hch.cs
  refine (unless_yes 2 _).mono ?_
  rintro r w2 ⟨rfl, hw2⟩
  replace hw2 := hw2.symm
  subst hw2
  go_wp2_with fail
  have hcb : (chkPo p == 0) = true := by rw [chkPo, if_pos Hok.out]; rfl
  refine (checkPosting_any p _ hp.kind.1 hp.kind.2).mono ?_
  rintro r w2 ⟨rfl, hB2⟩
  have hch := hch.below' hB2
  have hbx := hbx.below' hB2
  have hE := hE.below' hB2
  have HO := Lib.hid (HO.out.trans (onlyL_of_below hB2 L))
  clear hB2
  clear q0 q1 q2 q3 q4 q5 q6 q7 c0 c1 c2 c3 c4 c5 c6
  generalize w2 = W at *
  obtain ⟨q0, q1, q2, q3, q4, q5, q6, q7⟩ := hbx.cells
  obtain ⟨c0, c1, c2, c3, c4, c5, c6⟩ := hch.cs
  go_wp2_with fail
  refine (unless_yes 1 _).mono ?_
  rintro r w2 ⟨rfl, hw2⟩
  replace hw2 := hw2.symm
  subst hw2
  clear hcb
  have l4 : (Instr.lookup 73 (.map (some L.ids)) (.int .i64 p.id) false).run Tryz.prog W.drew = .ok (.bool false) W.drew := (look_bool hch.drew.ids hp.id).trans (by rw [Hid1.out])
  go_wp2_with fail
  go_still_tail 8, (by kernel_rfl)
  change wpList _ _ _ _ _ W.drew
  go_wp2_with fail
  refine (unless_yes 6 _).mono ?_
  rintro r w2 ⟨rfl, hw2⟩
  replace hw2 := hw2.symm
  subst hw2
  clear l4
  go_wp2_with fail
  have hch := hch.drew
  have hbx := hbx.drewN 1
  have hE := hE.drewN 1
  have HO := Lib.hid (HO.out.trans (onlyL_of_below below_drew1 L))
  change BoxPo W.drew w.heap.size p at hbx
  change ResE W.drew (w.heap.size + 1) at hE
  clear q0 q1 q2 q3 q4 q5 q6 q7 c0 c1 c2 c3 c4 c5 c6
  generalize W.drew = W at *
  obtain ⟨q0, q1, q2, q3, q4, q5, q6, q7⟩ := hbx.cells
  obtain ⟨c0, c1, c2, c3, c4, c5, c6⟩ := hch.cs
  have hd5 : decide (s.hour ≤ p.hour) = true := by simp; omega
  go_wp2_with fail
  go_still_tail 7, (by kernel_rfl)
  change wpList _ _ _ _ _ W.drew
  go_wp2_with fail
  refine (unless_yes 7 _).mono ?_
  rintro r w2 ⟨rfl, hw2⟩
  replace hw2 := hw2.symm
  subst hw2
  clear hd5
  go_wp2_with fail
  have hch := hch.drew
  have hbx := hbx.drewN 1
  have hE := hE.drewN 1
  have HO := Lib.hid (HO.out.trans (onlyL_of_below below_drew1 L))
  change BoxPo W.drew w.heap.size p at hbx
  change ResE W.drew (w.heap.size + 1) at hE
  clear q0 q1 q2 q3 q4 q5 q6 q7 c0 c1 c2 c3 c4 c5 c6
  generalize W.drew = W at *
  obtain ⟨q0, q1, q2, q3, q4, q5, q6, q7⟩ := hbx.cells
  obtain ⟨c0, c1, c2, c3, c4, c5, c6⟩ := hch.cs
  have hix := fun W => index_take (f := 91) (.inl ⟨Hk.out, rfl⟩) W
  go_wp2_with fail
  clear q0 q1 q2 q3 q4 q5 q6 q7 c0 c1 c2 c3 c4 c5 c6
  refine wp_region_free 6 (by kernel_rfl) (by kernel_rfl) [(.agg #[.nilFunc, .func (.func 91) #[] #[], .func (.func 92) #[] #[], .func (.func 93) #[] #[]]), .pointer (some ⟨w.heap.size, 2, none⟩), .int .u8 p.kind, .func (.func 91) #[] #[], .pointer (some ⟨L.c, 0, none⟩),
    .agg #[.int .i64 p.id, .int .i64 p.hour, .int .u8 p.kind, .int .i64 p.party, .int .i64 p.parcel, .int .i64 p.amount, .int .i64 p.reason, .int .i64 p.known]] (fun w' => ChAt w' L s ∧ BoxPo w' w.heap.size p ∧ ResE w' (w.heap.size + 1) ∧ Hid (OnlyL L w w')) (by rfl)
    ⟨hch.drew, hbx.drewN 1, hE.drewN 1, HO.out.trans (onlyL_of_below below_drew1 L)⟩ ?heads ?tail
  case heads =>
    simp only [List.take_succ_cons, List.take_zero, doesAll, headEnd, Act.put, List.setIfInBounds_toArray, List.set_cons_succ, List.set_cons_zero]
    refine ⟨?_, ?_, ?_, ?_, ?_, ?_, trivial⟩
    · rintro w' ⟨ch', bx', e', HO'⟩ K hK
      go_wp2_with fail
      refine (takes_any _).mono ?_
      rintro r w1 ⟨rfl, hB1⟩
      have hC1 := hK w1 ⟨ch'.below' hB1, bx'.below' hB1, e'.below' hB1, HO'.out.trans (onlyL_of_below hB1 L)⟩
      clear ch' bx' e' HO' hB1 hK
      go_wp2_with fail
      exact hC1
    all_goals
      rintro w' ⟨ch', bx', e', HO'⟩ K hK
      have hC1 := hK w' ⟨ch', bx', e', HO'⟩
      obtain ⟨q0, q1, q2, q3, q4, q5, q6, q7⟩ := bx'.cells
      clear hK ch' bx' e' HO'
      go_wp2_with fail
      try exact hC1
  case tail =>
    rintro w' ⟨hch, hbx, hE, HO⟩
    simp only [List.take_succ_cons, List.take_zero, headEnd, List.drop_succ_cons, List.drop_zero, Act.put, List.setIfInBounds_toArray, List.set_cons_succ, List.set_cons_zero]
    go_wp2_with fail
    refine (sale_ok L s p _ hp hch hs).mono ?_
    rintro r w3 ⟨rfl, hch3, hO3⟩
    have hE := hE.onlyL (L := L) hO3 Hmem.out.2
    have hbx := hbx.onlyL (L := L) hO3 Hmem.out.1
    have HO := Lib.hid (HO.out.trans hO3)
    clear hO3 hch
    generalize w3 = W at *
    go_wp2_with fail
    have hch := hch3.drew
    have hbx := hbx.drewN 1
    have hE := hE.drewN 1
    have HO := Lib.hid (HO.out.trans (onlyL_of_below below_drew1 L))
    change BoxPo W.drew w.heap.size p at hbx
    change ResE W.drew (w.heap.size + 1) at hE
    clear hch3
    have hBc : L.c ≠ w.heap.size := fun e => Hmem.out.1 (.inl e.symm)
    have hBc2 : L.c ≠ w.heap.size + 1 := fun e => Hmem.out.2 (.inl e.symm)
    have fz := hch.free 0
    have fz2 := hch.free 1
    have ch2 := hch.setNH (s.n + 1) p.hour
    obtain ⟨q0, q1, q2, q3, q4, q5, q6, q7⟩ := hbx.cells
    obtain ⟨c0, c1, c2, c3, c4, c5, c6⟩ := hch.cs
    have bx1 := hbx.setCell ⟨L.c, 0, none⟩ hBc (.int .i64 (s.n + 1))
    have bx2 := bx1.setCell ⟨L.c, 1, none⟩ hBc (.int .i64 p.hour)
    obtain ⟨w3, s3, e3, m3, st3, g3, z3⟩ := entry_bool ch2.ids hp.id
    have ch3 := ch2.setIds m3 g3
    have bx3 := bx2.grown g3 (fun e => Hmem.out.1 (.inr (.inl e)))
    obtain ⟨w4, e4, m4, g4, z4⟩ := store_bool ch3.ids st3 true
    have ch4 := ch3.setIds m4 g4
    have bx4 := bx3.grown g4 (fun e => Hmem.out.1 (.inr (.inl e)))
    have hO4 := ((((onlyL_setCell (w := W.drew) (L := L) ⟨L.c, 0, none⟩ (.inl rfl) (.int .i64 (s.n + 1))).trans (onlyL_setCell ⟨L.c, 1, none⟩ (.inl rfl) (.int .i64 p.hour))).trans (onlyL_of_grown g3 (.inr (.inl rfl)))).trans (onlyL_of_grown g4 (.inr (.inl rfl))))
    have hE4 := hE.onlyL (L := L) hO4 Hmem.out.2
    have HO4 := Lib.hid (HO.out.trans hO4)
    have hfin : ChAt w4 L (takeS s p) := by
      have := ch4
      simp only [mput_mput] at this
      simpa only [takeS, kindS, if_pos Hk.out, saleS] using this
    have Hfin := Lib.hid hfin
    have k0 : W.drew.cell? ⟨w.heap.size, 0, none⟩ = some (.int .i64 p.id) ∧ W.drew.cell? ⟨w.heap.size, 1, none⟩ = some (.int .i64 p.hour) ∧ W.drew.cell? ⟨L.c, 2, none⟩ = some (.map (some L.ids)) := ⟨q0, q1, c2⟩
    have k1 : (W.drew.setCell ⟨L.c, 0, none⟩ (.int .i64 (s.n + 1))).cell? ⟨w.heap.size, 0, none⟩ = some (.int .i64 p.id) ∧ (W.drew.setCell ⟨L.c, 0, none⟩ (.int .i64 (s.n + 1))).cell? ⟨w.heap.size, 1, none⟩ = some (.int .i64 p.hour) ∧ (W.drew.setCell ⟨L.c, 0, none⟩ (.int .i64 (s.n + 1))).cell? ⟨L.c, 2, none⟩ = some (.map (some L.ids)) :=
      ⟨bx1.cells.1, bx1.cells.2.1, (hch.setN (s.n + 1)).cs.2.2.1⟩
    have k2 : ((W.drew.setCell ⟨L.c, 0, none⟩ (.int .i64 (s.n + 1))).setCell ⟨L.c, 1, none⟩ (.int .i64 p.hour)).cell? ⟨w.heap.size, 0, none⟩ = some (.int .i64 p.id) ∧ ((W.drew.setCell ⟨L.c, 0, none⟩ (.int .i64 (s.n + 1))).setCell ⟨L.c, 1, none⟩ (.int .i64 p.hour)).cell? ⟨w.heap.size, 1, none⟩ = some (.int .i64 p.hour) ∧ ((W.drew.setCell ⟨L.c, 0, none⟩ (.int .i64 (s.n + 1))).setCell ⟨L.c, 1, none⟩ (.int .i64 p.hour)).cell? ⟨L.c, 2, none⟩ = some (.map (some L.ids)) :=
      ⟨bx2.cells.1, bx2.cells.2.1, ch2.cs.2.2.1⟩
    have k3 : w3.cell? ⟨w.heap.size, 0, none⟩ = some (.int .i64 p.id) ∧ w3.cell? ⟨w.heap.size, 1, none⟩ = some (.int .i64 p.hour) ∧ w3.cell? ⟨L.c, 2, none⟩ = some (.map (some L.ids)) := ⟨bx3.cells.1, bx3.cells.2.1, ch3.cs.2.2.1⟩
    have k4 : w4.cell? ⟨w.heap.size, 0, none⟩ = some (.int .i64 p.id) ∧ w4.cell? ⟨w.heap.size, 1, none⟩ = some (.int .i64 p.hour) ∧ w4.cell? ⟨L.c, 2, none⟩ = some (.map (some L.ids)) := ⟨bx4.cells.1, bx4.cells.2.1, ch4.cs.2.2.1⟩
    obtain ⟨u0, hu0⟩ : ∃ u, u = W.drew := ⟨_, rfl⟩
    obtain ⟨u1, hu1⟩ : ∃ u, u = W.drew.setCell ⟨L.c, 0, none⟩ (.int .i64 (s.n + 1)) := ⟨_, rfl⟩
    obtain ⟨u2, hu2⟩ : ∃ u, u = (W.drew.setCell ⟨L.c, 0, none⟩ (.int .i64 (s.n + 1))).setCell ⟨L.c, 1, none⟩ (.int .i64 p.hour) := ⟨_, rfl⟩
    have hu12 : u2 = u1.setCell ⟨L.c, 1, none⟩ (.int .i64 p.hour) := by rw [hu2, hu1]
    have hu01 : u1 = u0.setCell ⟨L.c, 0, none⟩ (.int .i64 (s.n + 1)) := by rw [hu1, hu0]
    rw [← hu0] at k0 c0 c1 fz
    rw [← hu1] at k1
    rw [← hu2] at k2 e3
    have c1' : u1.cell? ⟨L.c, 1, none⟩ = some (.int .i64 s.hour) := by rw [hu1]; exact (hch.setN (s.n + 1)).cs.2.1
    have fz1' : u1.frozen? ⟨L.c, 1, none⟩ = false := by rw [hu1]; exact (hch.setN (s.n + 1)).free 1
    have Hu12 := Lib.hid hu12
    have Hu01 := Lib.hid hu01
    have Hu0 := Lib.hid hu0
    clear hu0 hu1 hu2 hu12 hu01
    have hcom : ∀ (k : Nat) (w' : World), ((k = 0 ∧ w' = u0) ∨ (k = 1 ∧ w' = u1) ∨ (k = 2 ∧ w' = u2) ∨ (k = 3 ∧ w' = w3)) → w'.cell? ⟨w.heap.size, 0, none⟩ = some (.int .i64 p.id) ∧ w'.cell? ⟨w.heap.size, 1, none⟩ = some (.int .i64 p.hour) ∧ w'.cell? ⟨L.c, 2, none⟩ = some (.map (some L.ids)) := by
      rintro k w' (⟨_, rfl⟩ | ⟨_, rfl⟩ | ⟨_, rfl⟩ | ⟨_, rfl⟩)
      · exact k0
      · exact k1
      · exact k2
      · exact k3
    have Hcom := Lib.hid hcom
    have hwr : IntKind.i64.wrap (s.n + 1) = s.n + 1 := IntWalk.i64_in _ (by omega)
    have hsn : (saleS s p).n = s.n := by rfl
    clear hcom k0 k1 k2 k3 k4 c1 fz2 hfin m3 m4 st3 g3 g4 z3 z4 ch2 ch3 ch4 bx1 bx2 bx3 bx4 hbx hch hE HO hO4 q0 q1 q2 q3 q4 q5 q6 q7 c2 c3 c4 c5 c6
    refine wp_region_phase 23 [17, 20, 21] [(false, 3), (false, 3), (false, 3), (false, 3), (false, 3), (false, 3), (false, 3), (false, 3), (false, 3), (false, 3), (false, 3), (false, 0), (false, 3), (false, 3), (false, 3), (false, 3), (false, 3), (true, 0), (false, 3), (false, 3), (true, 1), (true, 2), (false, 3)]
      (by kernel_rfl) (by kernel_rfl) (by kernel_rfl)
      [.pointer (some ⟨L.c, 0, none⟩), .pointer (some ⟨L.c, 0, none⟩), .pointer (some ⟨L.c, 0, none⟩), .pointer (some ⟨L.c, 0, none⟩), .pointer (some ⟨L.c, 2, none⟩), .map (some L.ids), .pointer (some ⟨w.heap.size, 0, none⟩), .int .i64 p.id,
       .pointer (some ⟨L.c, 0, none⟩), .pointer (some ⟨L.c, 0, none⟩), .pointer (some ⟨L.c, 0, none⟩), .int .i64 s.n, .int .i64 (s.n + 1), .pointer (some ⟨w.heap.size, 1, none⟩), .int .i64 p.hour, .pointer (some ⟨L.c, 0, none⟩), .pointer (some ⟨L.c, 0, none⟩), undef,
       .pointer (some ⟨L.c, 0, none⟩), .pointer (some ⟨L.c, 1, none⟩), undef, .tuple #[.bool (getB s.ids p.id), .int .i64 (s3 : Int)], .int .i64 (s3 : Int)]
      (fun k w' => (k = 0 ∧ w' = u0) ∨ (k = 1 ∧ w' = u1) ∨ (k = 2 ∧ w' = u2) ∨ (k = 3 ∧ w' = w3)) (by rfl) (.inl ⟨rfl, Hu0.out.symm⟩) ?heads7 ?tail7
    case heads7 =>
      simp only [List.take_succ_cons, List.take_zero, doesPh, headEnd, Act.put, List.setIfInBounds_toArray, List.set_cons_succ, List.set_cons_zero]
      refine ⟨?_, ?_, ?_, ?_, ?_, ?_, ?_, ?_, ?_, ?_, ?_, ?h11, ?_, ?_, ?_, ?_, ?_, ?h17, ?_, ?_, ?h20, ?h21, ?_, trivial⟩
      case h11 =>
        intro k hk w' hw K hK
        obtain rfl : k = 0 := by omega
        obtain rfl : w' = u0 := by rcases hw with ⟨_, h⟩ | ⟨h, _⟩ | ⟨h, _⟩ | ⟨h, _⟩ <;> first | exact h | omega
        have hC1 := hK w' (by simp)
        clear hK hw
        go_wp2_with fail
        exact hC1
      case h17 =>
        intro w' hw K hK
        obtain rfl : w' = u0 := by rcases hw with ⟨_, h⟩ | ⟨h, _⟩ | ⟨h, _⟩ | ⟨h, _⟩ <;> first | exact h | omega
        have hC1 := hK u1 (by simp)
        rw [Hu01.out] at hC1
        clear hK hw
        go_wp2_with fail
        exact hC1
      case h20 =>
        intro w' hw K hK
        obtain rfl : w' = u1 := by rcases hw with ⟨h, _⟩ | ⟨_, h⟩ | ⟨h, _⟩ | ⟨h, _⟩ <;> first | exact h | omega
        have hC1 := hK u2 (by simp)
        rw [Hu12.out] at hC1
        clear hK hw
        go_wp2_with fail
        exact hC1
      case h21 =>
        intro w' hw K hK
        obtain rfl : w' = u2 := by rcases hw with ⟨h, _⟩ | ⟨h, _⟩ | ⟨_, h⟩ | ⟨h, _⟩ <;> first | exact h | omega
        have hC1 := hK w3 (by simp)
        clear hK hw
        go_wp2_with fail
        exact hC1
      all_goals
        intro k hk w' hw K hK
        have hC1 := hK w' hw
        obtain ⟨q0, q1, c2⟩ := Hcom.out k w' hw
        clear hK hw hk
        go_wp2_with fail
        try exact hC1
    case tail7 =>
      intro w' hw
      have hw : w' = w3 := by rcases hw with ⟨h, _⟩ | ⟨h, _⟩ | ⟨h, _⟩ | ⟨_, h⟩ <;> first | exact h | (simp at h)
      subst hw
      simp only [List.take_succ_cons, List.take_zero, headEnd, List.drop_succ_cons, List.drop_zero, Act.put, List.setIfInBounds_toArray, List.set_cons_succ, List.set_cons_zero]
      have h0 := hE4.cell
      have hf0 := hE4.free
      go_wp2_with fail
      refine leaves_cons (f := 67) (args := #[.pointer (some ⟨w.heap.size + 1, 0, none⟩)]) (by simp) (by simp [go_sem]) ?_
      refine (catch_nothing (w.heap.size + 1) _).mono ?_
      rintro r u' w'' ⟨rfl, rfl, rfl⟩
      simp [Leaves, settle, results, Tryz.results36, go_sem, h0]
      exact ⟨HT.out.symm, onlyL_setNew HO4.out (Nat.le_succ _), fun _ => Hfin.out.setOther _ Hmem.out.2 _⟩
end Go.Proofs.YtjleembfocghlaaGreatDoor

/- The walk of take: a payment is taken. -/
namespace Go.Proofs.YtjleembfocghlaaGreatDoor
open Go.RowKit
open Go.Maps (Keyed)

set_option maxRecDepth 100000 in
set_option maxHeartbeats 8000000 in
theorem take_pay_ok (L : Lay) (s : Ch) (p : Po) (w : World) (hp : p.Wf) (h : ChAt w L s) (hn : s.n < 400) (hok : okPo p) (hid : getB s.ids p.id = false) (hh : s.hour ≤ p.hour) (hk : p.kind = 2) (hn0 : 0 ≤ s.n) (hs : (mget s.sold p.parcel).isSome = true) (ha : p.amount ≤ getI s.held p.parcel) (hb1 : 0 ≤ p.amount ∧ p.amount ≤ 1000000000) (hb2 : getI s.held p.parcel ≤ 1000000000000000) (hb3 : -1000000000000000 ≤ getI s.has (p.parcel, p.party) ∧ getI s.has (p.parcel, p.party) ≤ 1000000000000000) :
    Calls Tryz.prog 36 #[.pointer (some ⟨L.c, 0, none⟩), .agg #[.int .i64 p.id, .int .i64 p.hour, .int .u8 p.kind, .int .i64 p.party, .int .i64 p.parcel, .int .i64 p.amount, .int .i64 p.reason, .int .i64 p.known]] w fun r w' =>
      r = .returned (.int .i64 (takeE s p)) ∧ OnlyL L w w' ∧ (takeE s p = 0 → ChAt w' L (takeS s p)) := by
  have hmf : ∀ (fn : Fn) (first cap : Array Value) (w : World), (Instr.makeFunc fn first cap).run Tryz.prog w = .ok (.func fn first cap) w := fun _ _ _ _ => rfl
  have hmem : ¬ L.mem w.heap.size ∧ ¬ L.mem (w.heap.size + 1) := ⟨fun hk => by have := h.mem_lt hk; omega, fun hk => by have := h.mem_lt hk; omega⟩
  have Hmem := Lib.hid hmem
  have hbx := (BoxPo.made w p 23).below' ((Below.refl _ _).alloc (Nat.le_refl _) (.cells #[.int .i64 0] 25))
  have hch := (h.alloc (.cells #[.int .i64 p.id, .int .i64 p.hour, .int .u8 p.kind, .int .i64 p.party, .int .i64 p.parcel, .int .i64 p.amount, .int .i64 p.reason, .int .i64 p.known] 23)).alloc (.cells #[.int .i64 0] 25)
  have hE : ResE ((w.alloc (.cells #[.int .i64 p.id, .int .i64 p.hour, .int .u8 p.kind, .int .i64 p.party, .int .i64 p.parcel, .int .i64 p.amount, .int .i64 p.reason, .int .i64 p.known] 23)).alloc (.cells #[.int .i64 0] 25)) (w.heap.size + 1) := by
    have := heap_alloc_new (w.alloc (.cells #[.int .i64 p.id, .int .i64 p.hour, .int .u8 p.kind, .int .i64 p.party, .int .i64 p.parcel, .int .i64 p.amount, .int .i64 p.reason, .int .i64 p.known] 23)) (.cells #[.int .i64 0] 25)
    simpa [ResE] using this
  have HO := Lib.hid (onlyL_of_below (((Below.refl w.heap.size w).alloc (Nat.le_refl _) (.cells #[.int .i64 p.id, .int .i64 p.hour, .int .u8 p.kind, .int .i64 p.party, .int .i64 p.parcel, .int .i64 p.amount, .int .i64 p.reason, .int .i64 p.known] 23)).alloc (by simp) (.cells #[.int .i64 0] 25)) L)
  have d0 := h.cs.1
  have dlt : L.c < w.heap.size := h.mem_lt (.inl rfl)
  have HT := Lib.hid ((takeE_k hn hok hid hh).trans (by rw [if_neg (by omega), if_neg (by simp [hs]), if_pos hk, if_neg (by omega)]))
  have Hok := Lib.hid hok
  have Hid1 := Lib.hid hid
  have Hk := Lib.hid hk
  clear hok hid hk h hmem
  go_enter_defers Tryz.func36, Tryz.ntmps36
  have hd : decide (s.n < 400) = true := by simp; omega
  go_wp2_with fail
  clear d0
  change ChAt ((w.alloc (.cells #[.int .i64 p.id, .int .i64 p.hour, .int .u8 p.kind, .int .i64 p.party, .int .i64 p.parcel, .int .i64 p.amount, .int .i64 p.reason, .int .i64 p.known] 23)).alloc (.cells #[.int .i64 0] 25)) L s at hch
  generalize ((w.alloc (.cells #[.int .i64 p.id, .int .i64 p.hour, .int .u8 p.kind, .int .i64 p.party, .int .i64 p.parcel, .int .i64 p.amount, .int .i64 p.reason, .int .i64 p.known] 23)).alloc (.cells #[.int .i64 0] 25)) = W at *
  clear hd
  obtain ⟨q0, q1, q2, q3, q4, q5, q6, q7⟩ := hbx.cells
  obtain ⟨c0, c1, c2, c3, c4, c5, c6⟩ := hch.cs
  refine (unless_yes 2 _).mono ?_
  rintro r w2 ⟨rfl, hw2⟩
  replace hw2 := hw2.symm
  subst hw2
  go_wp2_with fail
  have hcb : (chkPo p == 0) = true := by rw [chkPo, if_pos Hok.out]; rfl
  refine (checkPosting_any p _ hp.kind.1 hp.kind.2).mono ?_
  rintro r w2 ⟨rfl, hB2⟩
  have hch := hch.below' hB2
  have hbx := hbx.below' hB2
  have hE := hE.below' hB2
  have HO := Lib.hid (HO.out.trans (onlyL_of_below hB2 L))
  clear hB2
  clear q0 q1 q2 q3 q4 q5 q6 q7 c0 c1 c2 c3 c4 c5 c6
  generalize w2 = W at *
  obtain ⟨q0, q1, q2, q3, q4, q5, q6, q7⟩ := hbx.cells
  obtain ⟨c0, c1, c2, c3, c4, c5, c6⟩ := hch.cs
  go_wp2_with fail
  refine (unless_yes 1 _).mono ?_
  rintro r w2 ⟨rfl, hw2⟩
  replace hw2 := hw2.symm
  subst hw2
  clear hcb
  have l4 : (Instr.lookup 73 (.map (some L.ids)) (.int .i64 p.id) false).run Tryz.prog W.drew = .ok (.bool false) W.drew := (look_bool hch.drew.ids hp.id).trans (by rw [Hid1.out])
  go_wp2_with fail
  go_still_tail 8, (by kernel_rfl)
  change wpList _ _ _ _ _ W.drew
  go_wp2_with fail
  refine (unless_yes 6 _).mono ?_
  rintro r w2 ⟨rfl, hw2⟩
  replace hw2 := hw2.symm
  subst hw2
  clear l4
  go_wp2_with fail
  have hch := hch.drew
  have hbx := hbx.drewN 1
  have hE := hE.drewN 1
  have HO := Lib.hid (HO.out.trans (onlyL_of_below below_drew1 L))
  change BoxPo W.drew w.heap.size p at hbx
  change ResE W.drew (w.heap.size + 1) at hE
  clear q0 q1 q2 q3 q4 q5 q6 q7 c0 c1 c2 c3 c4 c5 c6
  generalize W.drew = W at *
  obtain ⟨q0, q1, q2, q3, q4, q5, q6, q7⟩ := hbx.cells
  obtain ⟨c0, c1, c2, c3, c4, c5, c6⟩ := hch.cs
  have hd5 : decide (s.hour ≤ p.hour) = true := by simp; omega
  go_wp2_with fail
  go_still_tail 7, (by kernel_rfl)
  change wpList _ _ _ _ _ W.drew
  go_wp2_with fail
  refine (unless_yes 7 _).mono ?_
  rintro r w2 ⟨rfl, hw2⟩
  replace hw2 := hw2.symm
  subst hw2
  clear hd5
  go_wp2_with fail
  have hch := hch.drew
  have hbx := hbx.drewN 1
  have hE := hE.drewN 1
  have HO := Lib.hid (HO.out.trans (onlyL_of_below below_drew1 L))
  change BoxPo W.drew w.heap.size p at hbx
  change ResE W.drew (w.heap.size + 1) at hE
  clear q0 q1 q2 q3 q4 q5 q6 q7 c0 c1 c2 c3 c4 c5 c6
  generalize W.drew = W at *
  obtain ⟨q0, q1, q2, q3, q4, q5, q6, q7⟩ := hbx.cells
  obtain ⟨c0, c1, c2, c3, c4, c5, c6⟩ := hch.cs
  have hix := fun W => index_take (f := 92) (.inr (.inl ⟨Hk.out, rfl⟩)) W
  go_wp2_with fail
  clear q0 q1 q2 q3 q4 q5 q6 q7 c0 c1 c2 c3 c4 c5 c6
  refine wp_region_free 6 (by kernel_rfl) (by kernel_rfl) [(.agg #[.nilFunc, .func (.func 91) #[] #[], .func (.func 92) #[] #[], .func (.func 93) #[] #[]]), .pointer (some ⟨w.heap.size, 2, none⟩), .int .u8 p.kind, .func (.func 92) #[] #[], .pointer (some ⟨L.c, 0, none⟩),
    .agg #[.int .i64 p.id, .int .i64 p.hour, .int .u8 p.kind, .int .i64 p.party, .int .i64 p.parcel, .int .i64 p.amount, .int .i64 p.reason, .int .i64 p.known]] (fun w' => ChAt w' L s ∧ BoxPo w' w.heap.size p ∧ ResE w' (w.heap.size + 1) ∧ Hid (OnlyL L w w')) (by rfl)
    ⟨hch.drew, hbx.drewN 1, hE.drewN 1, HO.out.trans (onlyL_of_below below_drew1 L)⟩ ?heads ?tail
  case heads =>
    simp only [List.take_succ_cons, List.take_zero, doesAll, headEnd, Act.put, List.setIfInBounds_toArray, List.set_cons_succ, List.set_cons_zero]
    refine ⟨?_, ?_, ?_, ?_, ?_, ?_, trivial⟩
    · rintro w' ⟨ch', bx', e', HO'⟩ K hK
      go_wp2_with fail
      refine (takes_any _).mono ?_
      rintro r w1 ⟨rfl, hB1⟩
      have hC1 := hK w1 ⟨ch'.below' hB1, bx'.below' hB1, e'.below' hB1, HO'.out.trans (onlyL_of_below hB1 L)⟩
      clear ch' bx' e' HO' hB1 hK
      go_wp2_with fail
      exact hC1
    all_goals
      rintro w' ⟨ch', bx', e', HO'⟩ K hK
      have hC1 := hK w' ⟨ch', bx', e', HO'⟩
      obtain ⟨q0, q1, q2, q3, q4, q5, q6, q7⟩ := bx'.cells
      clear hK ch' bx' e' HO'
      go_wp2_with fail
      try exact hC1
  case tail =>
    rintro w' ⟨hch, hbx, hE, HO⟩
    simp only [List.take_succ_cons, List.take_zero, headEnd, List.drop_succ_cons, List.drop_zero, Act.put, List.setIfInBounds_toArray, List.set_cons_succ, List.set_cons_zero]
    go_wp2_with fail
    refine (pay_ok L s p _ hp hch hs ha hb1 hb2 hb3).mono ?_
    rintro r w3 ⟨rfl, hch3, hO3⟩
    have hE := hE.onlyL (L := L) hO3 Hmem.out.2
    have hbx := hbx.onlyL (L := L) hO3 Hmem.out.1
    have HO := Lib.hid (HO.out.trans hO3)
    clear hO3 hch
    generalize w3 = W at *
    go_wp2_with fail
    have hch := hch3.drew
    have hbx := hbx.drewN 1
    have hE := hE.drewN 1
    have HO := Lib.hid (HO.out.trans (onlyL_of_below below_drew1 L))
    change BoxPo W.drew w.heap.size p at hbx
    change ResE W.drew (w.heap.size + 1) at hE
    clear hch3
    have hBc : L.c ≠ w.heap.size := fun e => Hmem.out.1 (.inl e.symm)
    have hBc2 : L.c ≠ w.heap.size + 1 := fun e => Hmem.out.2 (.inl e.symm)
    have fz := hch.free 0
    have fz2 := hch.free 1
    have ch2 := hch.setNH (s.n + 1) p.hour
    obtain ⟨q0, q1, q2, q3, q4, q5, q6, q7⟩ := hbx.cells
    obtain ⟨c0, c1, c2, c3, c4, c5, c6⟩ := hch.cs
    have bx1 := hbx.setCell ⟨L.c, 0, none⟩ hBc (.int .i64 (s.n + 1))
    have bx2 := bx1.setCell ⟨L.c, 1, none⟩ hBc (.int .i64 p.hour)
    obtain ⟨w3, s3, e3, m3, st3, g3, z3⟩ := entry_bool ch2.ids hp.id
    have ch3 := ch2.setIds m3 g3
    have bx3 := bx2.grown g3 (fun e => Hmem.out.1 (.inr (.inl e)))
    obtain ⟨w4, e4, m4, g4, z4⟩ := store_bool ch3.ids st3 true
    have ch4 := ch3.setIds m4 g4
    have bx4 := bx3.grown g4 (fun e => Hmem.out.1 (.inr (.inl e)))
    have hO4 := ((((onlyL_setCell (w := W.drew) (L := L) ⟨L.c, 0, none⟩ (.inl rfl) (.int .i64 (s.n + 1))).trans (onlyL_setCell ⟨L.c, 1, none⟩ (.inl rfl) (.int .i64 p.hour))).trans (onlyL_of_grown g3 (.inr (.inl rfl)))).trans (onlyL_of_grown g4 (.inr (.inl rfl))))
    have hE4 := hE.onlyL (L := L) hO4 Hmem.out.2
    have HO4 := Lib.hid (HO.out.trans hO4)
    have hfin : ChAt w4 L (takeS s p) := by
      have := ch4
      simp only [mput_mput] at this
      simpa only [takeS, kindS, if_neg (show ¬ p.kind = 1 from fun e => by have := Hk.out; omega), if_pos Hk.out, payS] using this
    have Hfin := Lib.hid hfin
    have k0 : W.drew.cell? ⟨w.heap.size, 0, none⟩ = some (.int .i64 p.id) ∧ W.drew.cell? ⟨w.heap.size, 1, none⟩ = some (.int .i64 p.hour) ∧ W.drew.cell? ⟨L.c, 2, none⟩ = some (.map (some L.ids)) := ⟨q0, q1, c2⟩
    have k1 : (W.drew.setCell ⟨L.c, 0, none⟩ (.int .i64 (s.n + 1))).cell? ⟨w.heap.size, 0, none⟩ = some (.int .i64 p.id) ∧ (W.drew.setCell ⟨L.c, 0, none⟩ (.int .i64 (s.n + 1))).cell? ⟨w.heap.size, 1, none⟩ = some (.int .i64 p.hour) ∧ (W.drew.setCell ⟨L.c, 0, none⟩ (.int .i64 (s.n + 1))).cell? ⟨L.c, 2, none⟩ = some (.map (some L.ids)) :=
      ⟨bx1.cells.1, bx1.cells.2.1, (hch.setN (s.n + 1)).cs.2.2.1⟩
    have k2 : ((W.drew.setCell ⟨L.c, 0, none⟩ (.int .i64 (s.n + 1))).setCell ⟨L.c, 1, none⟩ (.int .i64 p.hour)).cell? ⟨w.heap.size, 0, none⟩ = some (.int .i64 p.id) ∧ ((W.drew.setCell ⟨L.c, 0, none⟩ (.int .i64 (s.n + 1))).setCell ⟨L.c, 1, none⟩ (.int .i64 p.hour)).cell? ⟨w.heap.size, 1, none⟩ = some (.int .i64 p.hour) ∧ ((W.drew.setCell ⟨L.c, 0, none⟩ (.int .i64 (s.n + 1))).setCell ⟨L.c, 1, none⟩ (.int .i64 p.hour)).cell? ⟨L.c, 2, none⟩ = some (.map (some L.ids)) :=
      ⟨bx2.cells.1, bx2.cells.2.1, ch2.cs.2.2.1⟩
    have k3 : w3.cell? ⟨w.heap.size, 0, none⟩ = some (.int .i64 p.id) ∧ w3.cell? ⟨w.heap.size, 1, none⟩ = some (.int .i64 p.hour) ∧ w3.cell? ⟨L.c, 2, none⟩ = some (.map (some L.ids)) := ⟨bx3.cells.1, bx3.cells.2.1, ch3.cs.2.2.1⟩
    have k4 : w4.cell? ⟨w.heap.size, 0, none⟩ = some (.int .i64 p.id) ∧ w4.cell? ⟨w.heap.size, 1, none⟩ = some (.int .i64 p.hour) ∧ w4.cell? ⟨L.c, 2, none⟩ = some (.map (some L.ids)) := ⟨bx4.cells.1, bx4.cells.2.1, ch4.cs.2.2.1⟩
    obtain ⟨u0, hu0⟩ : ∃ u, u = W.drew := ⟨_, rfl⟩
    obtain ⟨u1, hu1⟩ : ∃ u, u = W.drew.setCell ⟨L.c, 0, none⟩ (.int .i64 (s.n + 1)) := ⟨_, rfl⟩
    obtain ⟨u2, hu2⟩ : ∃ u, u = (W.drew.setCell ⟨L.c, 0, none⟩ (.int .i64 (s.n + 1))).setCell ⟨L.c, 1, none⟩ (.int .i64 p.hour) := ⟨_, rfl⟩
    have hu12 : u2 = u1.setCell ⟨L.c, 1, none⟩ (.int .i64 p.hour) := by rw [hu2, hu1]
    have hu01 : u1 = u0.setCell ⟨L.c, 0, none⟩ (.int .i64 (s.n + 1)) := by rw [hu1, hu0]
    rw [← hu0] at k0 c0 c1 fz
    rw [← hu1] at k1
    rw [← hu2] at k2 e3
    have c1' : u1.cell? ⟨L.c, 1, none⟩ = some (.int .i64 s.hour) := by rw [hu1]; exact (hch.setN (s.n + 1)).cs.2.1
    have fz1' : u1.frozen? ⟨L.c, 1, none⟩ = false := by rw [hu1]; exact (hch.setN (s.n + 1)).free 1
    have Hu12 := Lib.hid hu12
    have Hu01 := Lib.hid hu01
    have Hu0 := Lib.hid hu0
    clear hu0 hu1 hu2 hu12 hu01
    have hcom : ∀ (k : Nat) (w' : World), ((k = 0 ∧ w' = u0) ∨ (k = 1 ∧ w' = u1) ∨ (k = 2 ∧ w' = u2) ∨ (k = 3 ∧ w' = w3)) → w'.cell? ⟨w.heap.size, 0, none⟩ = some (.int .i64 p.id) ∧ w'.cell? ⟨w.heap.size, 1, none⟩ = some (.int .i64 p.hour) ∧ w'.cell? ⟨L.c, 2, none⟩ = some (.map (some L.ids)) := by
      rintro k w' (⟨_, rfl⟩ | ⟨_, rfl⟩ | ⟨_, rfl⟩ | ⟨_, rfl⟩)
      · exact k0
      · exact k1
      · exact k2
      · exact k3
    have Hcom := Lib.hid hcom
    have hwr : IntKind.i64.wrap (s.n + 1) = s.n + 1 := IntWalk.i64_in _ (by omega)
    have hsn : (payS s p).n = s.n := by rfl
    clear hcom k0 k1 k2 k3 k4 c1 fz2 hfin m3 m4 st3 g3 g4 z3 z4 ch2 ch3 ch4 bx1 bx2 bx3 bx4 hbx hch hE HO hO4 q0 q1 q2 q3 q4 q5 q6 q7 c2 c3 c4 c5 c6
    refine wp_region_phase 23 [17, 20, 21] [(false, 3), (false, 3), (false, 3), (false, 3), (false, 3), (false, 3), (false, 3), (false, 3), (false, 3), (false, 3), (false, 3), (false, 0), (false, 3), (false, 3), (false, 3), (false, 3), (false, 3), (true, 0), (false, 3), (false, 3), (true, 1), (true, 2), (false, 3)]
      (by kernel_rfl) (by kernel_rfl) (by kernel_rfl)
      [.pointer (some ⟨L.c, 0, none⟩), .pointer (some ⟨L.c, 0, none⟩), .pointer (some ⟨L.c, 0, none⟩), .pointer (some ⟨L.c, 0, none⟩), .pointer (some ⟨L.c, 2, none⟩), .map (some L.ids), .pointer (some ⟨w.heap.size, 0, none⟩), .int .i64 p.id,
       .pointer (some ⟨L.c, 0, none⟩), .pointer (some ⟨L.c, 0, none⟩), .pointer (some ⟨L.c, 0, none⟩), .int .i64 s.n, .int .i64 (s.n + 1), .pointer (some ⟨w.heap.size, 1, none⟩), .int .i64 p.hour, .pointer (some ⟨L.c, 0, none⟩), .pointer (some ⟨L.c, 0, none⟩), undef,
       .pointer (some ⟨L.c, 0, none⟩), .pointer (some ⟨L.c, 1, none⟩), undef, .tuple #[.bool (getB s.ids p.id), .int .i64 (s3 : Int)], .int .i64 (s3 : Int)]
      (fun k w' => (k = 0 ∧ w' = u0) ∨ (k = 1 ∧ w' = u1) ∨ (k = 2 ∧ w' = u2) ∨ (k = 3 ∧ w' = w3)) (by rfl) (.inl ⟨rfl, Hu0.out.symm⟩) ?heads7 ?tail7
    case heads7 =>
      simp only [List.take_succ_cons, List.take_zero, doesPh, headEnd, Act.put, List.setIfInBounds_toArray, List.set_cons_succ, List.set_cons_zero]
      refine ⟨?_, ?_, ?_, ?_, ?_, ?_, ?_, ?_, ?_, ?_, ?_, ?h11, ?_, ?_, ?_, ?_, ?_, ?h17, ?_, ?_, ?h20, ?h21, ?_, trivial⟩
      case h11 =>
        intro k hk w' hw K hK
        obtain rfl : k = 0 := by omega
        obtain rfl : w' = u0 := by rcases hw with ⟨_, h⟩ | ⟨h, _⟩ | ⟨h, _⟩ | ⟨h, _⟩ <;> first | exact h | omega
        have hC1 := hK w' (by simp)
        clear hK hw
        go_wp2_with fail
        exact hC1
      case h17 =>
        intro w' hw K hK
        obtain rfl : w' = u0 := by rcases hw with ⟨_, h⟩ | ⟨h, _⟩ | ⟨h, _⟩ | ⟨h, _⟩ <;> first | exact h | omega
        have hC1 := hK u1 (by simp)
        rw [Hu01.out] at hC1
        clear hK hw
        go_wp2_with fail
        exact hC1
      case h20 =>
        intro w' hw K hK
        obtain rfl : w' = u1 := by rcases hw with ⟨h, _⟩ | ⟨_, h⟩ | ⟨h, _⟩ | ⟨h, _⟩ <;> first | exact h | omega
        have hC1 := hK u2 (by simp)
        rw [Hu12.out] at hC1
        clear hK hw
        go_wp2_with fail
        exact hC1
      case h21 =>
        intro w' hw K hK
        obtain rfl : w' = u2 := by rcases hw with ⟨h, _⟩ | ⟨h, _⟩ | ⟨_, h⟩ | ⟨h, _⟩ <;> first | exact h | omega
        have hC1 := hK w3 (by simp)
        clear hK hw
        go_wp2_with fail
        exact hC1
      all_goals
        intro k hk w' hw K hK
        have hC1 := hK w' hw
        obtain ⟨q0, q1, c2⟩ := Hcom.out k w' hw
        clear hK hw hk
        go_wp2_with fail
        try exact hC1
    case tail7 =>
      intro w' hw
      have hw : w' = w3 := by rcases hw with ⟨h, _⟩ | ⟨h, _⟩ | ⟨h, _⟩ | ⟨_, h⟩ <;> first | exact h | (simp at h)
      subst hw
      simp only [List.take_succ_cons, List.take_zero, headEnd, List.drop_succ_cons, List.drop_zero, Act.put, List.setIfInBounds_toArray, List.set_cons_succ, List.set_cons_zero]
      have h0 := hE4.cell
      have hf0 := hE4.free
      go_wp2_with fail
      refine leaves_cons (f := 67) (args := #[.pointer (some ⟨w.heap.size + 1, 0, none⟩)]) (by simp) (by simp [go_sem]) ?_
      refine (catch_nothing (w.heap.size + 1) _).mono ?_
      rintro r u' w'' ⟨rfl, rfl, rfl⟩
      simp [Leaves, settle, results, Tryz.results36, go_sem, h0]
      exact ⟨HT.out.symm, onlyL_setNew HO4.out (Nat.le_succ _), fun _ => Hfin.out.setOther _ Hmem.out.2 _⟩
end Go.Proofs.YtjleembfocghlaaGreatDoor

/- The walk of take: a clawback is taken. -/
namespace Go.Proofs.YtjleembfocghlaaGreatDoor
open Go.RowKit
open Go.Maps (Keyed)

set_option maxRecDepth 100000 in
set_option maxHeartbeats 8000000 in
theorem take_back_ok (L : Lay) (s : Ch) (p : Po) (w : World) (hp : p.Wf) (h : ChAt w L s) (hn : s.n < 400) (hok : okPo p) (hid : getB s.ids p.id = false) (hh : s.hour ≤ p.hour) (hk : p.kind = 3) (hn0 : 0 ≤ s.n) (hs : (mget s.sold p.parcel).isSome = true) (ha : p.amount ≤ getI s.has (p.parcel, p.party)) (hkn : (getP s.last (p.parcel, p.party)).known < p.known) (hb1 : 0 ≤ p.amount ∧ p.amount ≤ 1000000000) (hb2 : -1000000000000000 ≤ getI s.held p.parcel ∧ getI s.held p.parcel ≤ 1000000000000000) (hb3 : getI s.has (p.parcel, p.party) ≤ 1000000000000000) :
    Calls Tryz.prog 36 #[.pointer (some ⟨L.c, 0, none⟩), .agg #[.int .i64 p.id, .int .i64 p.hour, .int .u8 p.kind, .int .i64 p.party, .int .i64 p.parcel, .int .i64 p.amount, .int .i64 p.reason, .int .i64 p.known]] w fun r w' =>
      r = .returned (.int .i64 (takeE s p)) ∧ OnlyL L w w' ∧ (takeE s p = 0 → ChAt w' L (takeS s p)) := by
  have hmf : ∀ (fn : Fn) (first cap : Array Value) (w : World), (Instr.makeFunc fn first cap).run Tryz.prog w = .ok (.func fn first cap) w := fun _ _ _ _ => rfl
  have hmem : ¬ L.mem w.heap.size ∧ ¬ L.mem (w.heap.size + 1) := ⟨fun hk => by have := h.mem_lt hk; omega, fun hk => by have := h.mem_lt hk; omega⟩
  have Hmem := Lib.hid hmem
  have hbx := (BoxPo.made w p 23).below' ((Below.refl _ _).alloc (Nat.le_refl _) (.cells #[.int .i64 0] 25))
  have hch := (h.alloc (.cells #[.int .i64 p.id, .int .i64 p.hour, .int .u8 p.kind, .int .i64 p.party, .int .i64 p.parcel, .int .i64 p.amount, .int .i64 p.reason, .int .i64 p.known] 23)).alloc (.cells #[.int .i64 0] 25)
  have hE : ResE ((w.alloc (.cells #[.int .i64 p.id, .int .i64 p.hour, .int .u8 p.kind, .int .i64 p.party, .int .i64 p.parcel, .int .i64 p.amount, .int .i64 p.reason, .int .i64 p.known] 23)).alloc (.cells #[.int .i64 0] 25)) (w.heap.size + 1) := by
    have := heap_alloc_new (w.alloc (.cells #[.int .i64 p.id, .int .i64 p.hour, .int .u8 p.kind, .int .i64 p.party, .int .i64 p.parcel, .int .i64 p.amount, .int .i64 p.reason, .int .i64 p.known] 23)) (.cells #[.int .i64 0] 25)
    simpa [ResE] using this
  have HO := Lib.hid (onlyL_of_below (((Below.refl w.heap.size w).alloc (Nat.le_refl _) (.cells #[.int .i64 p.id, .int .i64 p.hour, .int .u8 p.kind, .int .i64 p.party, .int .i64 p.parcel, .int .i64 p.amount, .int .i64 p.reason, .int .i64 p.known] 23)).alloc (by simp) (.cells #[.int .i64 0] 25)) L)
  have d0 := h.cs.1
  have dlt : L.c < w.heap.size := h.mem_lt (.inl rfl)
  have HT := Lib.hid ((takeE_k hn hok hid hh).trans (by rw [if_neg (by omega), if_neg (by simp [hs]), if_neg (by omega), if_neg (by omega), if_neg (by omega)]))
  have Hok := Lib.hid hok
  have Hid1 := Lib.hid hid
  have Hk := Lib.hid hk
  clear hok hid hk h hmem
  go_enter_defers Tryz.func36, Tryz.ntmps36
  have hd : decide (s.n < 400) = true := by simp; omega
  go_wp2_with fail
  clear d0
  change ChAt ((w.alloc (.cells #[.int .i64 p.id, .int .i64 p.hour, .int .u8 p.kind, .int .i64 p.party, .int .i64 p.parcel, .int .i64 p.amount, .int .i64 p.reason, .int .i64 p.known] 23)).alloc (.cells #[.int .i64 0] 25)) L s at hch
  generalize ((w.alloc (.cells #[.int .i64 p.id, .int .i64 p.hour, .int .u8 p.kind, .int .i64 p.party, .int .i64 p.parcel, .int .i64 p.amount, .int .i64 p.reason, .int .i64 p.known] 23)).alloc (.cells #[.int .i64 0] 25)) = W at *
  clear hd
  obtain ⟨q0, q1, q2, q3, q4, q5, q6, q7⟩ := hbx.cells
  obtain ⟨c0, c1, c2, c3, c4, c5, c6⟩ := hch.cs
  refine (unless_yes 2 _).mono ?_
  rintro r w2 ⟨rfl, hw2⟩
  replace hw2 := hw2.symm
  subst hw2
  go_wp2_with fail
  have hcb : (chkPo p == 0) = true := by rw [chkPo, if_pos Hok.out]; rfl
  refine (checkPosting_any p _ hp.kind.1 hp.kind.2).mono ?_
  rintro r w2 ⟨rfl, hB2⟩
  have hch := hch.below' hB2
  have hbx := hbx.below' hB2
  have hE := hE.below' hB2
  have HO := Lib.hid (HO.out.trans (onlyL_of_below hB2 L))
  clear hB2
  clear q0 q1 q2 q3 q4 q5 q6 q7 c0 c1 c2 c3 c4 c5 c6
  generalize w2 = W at *
  obtain ⟨q0, q1, q2, q3, q4, q5, q6, q7⟩ := hbx.cells
  obtain ⟨c0, c1, c2, c3, c4, c5, c6⟩ := hch.cs
  go_wp2_with fail
  refine (unless_yes 1 _).mono ?_
  rintro r w2 ⟨rfl, hw2⟩
  replace hw2 := hw2.symm
  subst hw2
  clear hcb
  have l4 : (Instr.lookup 73 (.map (some L.ids)) (.int .i64 p.id) false).run Tryz.prog W.drew = .ok (.bool false) W.drew := (look_bool hch.drew.ids hp.id).trans (by rw [Hid1.out])
  go_wp2_with fail
  go_still_tail 8, (by kernel_rfl)
  change wpList _ _ _ _ _ W.drew
  go_wp2_with fail
  refine (unless_yes 6 _).mono ?_
  rintro r w2 ⟨rfl, hw2⟩
  replace hw2 := hw2.symm
  subst hw2
  clear l4
  go_wp2_with fail
  have hch := hch.drew
  have hbx := hbx.drewN 1
  have hE := hE.drewN 1
  have HO := Lib.hid (HO.out.trans (onlyL_of_below below_drew1 L))
  change BoxPo W.drew w.heap.size p at hbx
  change ResE W.drew (w.heap.size + 1) at hE
  clear q0 q1 q2 q3 q4 q5 q6 q7 c0 c1 c2 c3 c4 c5 c6
  generalize W.drew = W at *
  obtain ⟨q0, q1, q2, q3, q4, q5, q6, q7⟩ := hbx.cells
  obtain ⟨c0, c1, c2, c3, c4, c5, c6⟩ := hch.cs
  have hd5 : decide (s.hour ≤ p.hour) = true := by simp; omega
  go_wp2_with fail
  go_still_tail 7, (by kernel_rfl)
  change wpList _ _ _ _ _ W.drew
  go_wp2_with fail
  refine (unless_yes 7 _).mono ?_
  rintro r w2 ⟨rfl, hw2⟩
  replace hw2 := hw2.symm
  subst hw2
  clear hd5
  go_wp2_with fail
  have hch := hch.drew
  have hbx := hbx.drewN 1
  have hE := hE.drewN 1
  have HO := Lib.hid (HO.out.trans (onlyL_of_below below_drew1 L))
  change BoxPo W.drew w.heap.size p at hbx
  change ResE W.drew (w.heap.size + 1) at hE
  clear q0 q1 q2 q3 q4 q5 q6 q7 c0 c1 c2 c3 c4 c5 c6
  generalize W.drew = W at *
  obtain ⟨q0, q1, q2, q3, q4, q5, q6, q7⟩ := hbx.cells
  obtain ⟨c0, c1, c2, c3, c4, c5, c6⟩ := hch.cs
  have hix := fun W => index_take (f := 93) (.inr (.inr ⟨Hk.out, rfl⟩)) W
  go_wp2_with fail
  clear q0 q1 q2 q3 q4 q5 q6 q7 c0 c1 c2 c3 c4 c5 c6
  refine wp_region_free 6 (by kernel_rfl) (by kernel_rfl) [(.agg #[.nilFunc, .func (.func 91) #[] #[], .func (.func 92) #[] #[], .func (.func 93) #[] #[]]), .pointer (some ⟨w.heap.size, 2, none⟩), .int .u8 p.kind, .func (.func 93) #[] #[], .pointer (some ⟨L.c, 0, none⟩),
    .agg #[.int .i64 p.id, .int .i64 p.hour, .int .u8 p.kind, .int .i64 p.party, .int .i64 p.parcel, .int .i64 p.amount, .int .i64 p.reason, .int .i64 p.known]] (fun w' => ChAt w' L s ∧ BoxPo w' w.heap.size p ∧ ResE w' (w.heap.size + 1) ∧ Hid (OnlyL L w w')) (by rfl)
    ⟨hch.drew, hbx.drewN 1, hE.drewN 1, HO.out.trans (onlyL_of_below below_drew1 L)⟩ ?heads ?tail
  case heads =>
    simp only [List.take_succ_cons, List.take_zero, doesAll, headEnd, Act.put, List.setIfInBounds_toArray, List.set_cons_succ, List.set_cons_zero]
    refine ⟨?_, ?_, ?_, ?_, ?_, ?_, trivial⟩
    · rintro w' ⟨ch', bx', e', HO'⟩ K hK
      go_wp2_with fail
      refine (takes_any _).mono ?_
      rintro r w1 ⟨rfl, hB1⟩
      have hC1 := hK w1 ⟨ch'.below' hB1, bx'.below' hB1, e'.below' hB1, HO'.out.trans (onlyL_of_below hB1 L)⟩
      clear ch' bx' e' HO' hB1 hK
      go_wp2_with fail
      exact hC1
    all_goals
      rintro w' ⟨ch', bx', e', HO'⟩ K hK
      have hC1 := hK w' ⟨ch', bx', e', HO'⟩
      obtain ⟨q0, q1, q2, q3, q4, q5, q6, q7⟩ := bx'.cells
      clear hK ch' bx' e' HO'
      go_wp2_with fail
      try exact hC1
  case tail =>
    rintro w' ⟨hch, hbx, hE, HO⟩
    simp only [List.take_succ_cons, List.take_zero, headEnd, List.drop_succ_cons, List.drop_zero, Act.put, List.setIfInBounds_toArray, List.set_cons_succ, List.set_cons_zero]
    go_wp2_with fail
    refine (back_ok L s p _ hp hch hs ha _ rfl hkn hb1 hb2 hb3).mono ?_
    rintro r w3 ⟨rfl, hch3, hO3⟩
    have hE := hE.onlyL (L := L) hO3 Hmem.out.2
    have hbx := hbx.onlyL (L := L) hO3 Hmem.out.1
    have HO := Lib.hid (HO.out.trans hO3)
    clear hO3 hch
    generalize w3 = W at *
    go_wp2_with fail
    have hch := hch3.drew
    have hbx := hbx.drewN 1
    have hE := hE.drewN 1
    have HO := Lib.hid (HO.out.trans (onlyL_of_below below_drew1 L))
    change BoxPo W.drew w.heap.size p at hbx
    change ResE W.drew (w.heap.size + 1) at hE
    clear hch3
    have hBc : L.c ≠ w.heap.size := fun e => Hmem.out.1 (.inl e.symm)
    have hBc2 : L.c ≠ w.heap.size + 1 := fun e => Hmem.out.2 (.inl e.symm)
    have fz := hch.free 0
    have fz2 := hch.free 1
    have ch2 := hch.setNH (s.n + 1) p.hour
    obtain ⟨q0, q1, q2, q3, q4, q5, q6, q7⟩ := hbx.cells
    obtain ⟨c0, c1, c2, c3, c4, c5, c6⟩ := hch.cs
    have bx1 := hbx.setCell ⟨L.c, 0, none⟩ hBc (.int .i64 (s.n + 1))
    have bx2 := bx1.setCell ⟨L.c, 1, none⟩ hBc (.int .i64 p.hour)
    obtain ⟨w3, s3, e3, m3, st3, g3, z3⟩ := entry_bool ch2.ids hp.id
    have ch3 := ch2.setIds m3 g3
    have bx3 := bx2.grown g3 (fun e => Hmem.out.1 (.inr (.inl e)))
    obtain ⟨w4, e4, m4, g4, z4⟩ := store_bool ch3.ids st3 true
    have ch4 := ch3.setIds m4 g4
    have bx4 := bx3.grown g4 (fun e => Hmem.out.1 (.inr (.inl e)))
    have hO4 := ((((onlyL_setCell (w := W.drew) (L := L) ⟨L.c, 0, none⟩ (.inl rfl) (.int .i64 (s.n + 1))).trans (onlyL_setCell ⟨L.c, 1, none⟩ (.inl rfl) (.int .i64 p.hour))).trans (onlyL_of_grown g3 (.inr (.inl rfl)))).trans (onlyL_of_grown g4 (.inr (.inl rfl))))
    have hE4 := hE.onlyL (L := L) hO4 Hmem.out.2
    have HO4 := Lib.hid (HO.out.trans hO4)
    have hfin : ChAt w4 L (takeS s p) := by
      have := ch4
      simp only [mput_mput] at this
      simpa only [takeS, kindS, if_neg (show ¬ p.kind = 1 from fun e => by have := Hk.out; omega), if_neg (show ¬ p.kind = 2 from fun e => by have := Hk.out; omega), backS] using this
    have Hfin := Lib.hid hfin
    have k0 : W.drew.cell? ⟨w.heap.size, 0, none⟩ = some (.int .i64 p.id) ∧ W.drew.cell? ⟨w.heap.size, 1, none⟩ = some (.int .i64 p.hour) ∧ W.drew.cell? ⟨L.c, 2, none⟩ = some (.map (some L.ids)) := ⟨q0, q1, c2⟩
    have k1 : (W.drew.setCell ⟨L.c, 0, none⟩ (.int .i64 (s.n + 1))).cell? ⟨w.heap.size, 0, none⟩ = some (.int .i64 p.id) ∧ (W.drew.setCell ⟨L.c, 0, none⟩ (.int .i64 (s.n + 1))).cell? ⟨w.heap.size, 1, none⟩ = some (.int .i64 p.hour) ∧ (W.drew.setCell ⟨L.c, 0, none⟩ (.int .i64 (s.n + 1))).cell? ⟨L.c, 2, none⟩ = some (.map (some L.ids)) :=
      ⟨bx1.cells.1, bx1.cells.2.1, (hch.setN (s.n + 1)).cs.2.2.1⟩
    have k2 : ((W.drew.setCell ⟨L.c, 0, none⟩ (.int .i64 (s.n + 1))).setCell ⟨L.c, 1, none⟩ (.int .i64 p.hour)).cell? ⟨w.heap.size, 0, none⟩ = some (.int .i64 p.id) ∧ ((W.drew.setCell ⟨L.c, 0, none⟩ (.int .i64 (s.n + 1))).setCell ⟨L.c, 1, none⟩ (.int .i64 p.hour)).cell? ⟨w.heap.size, 1, none⟩ = some (.int .i64 p.hour) ∧ ((W.drew.setCell ⟨L.c, 0, none⟩ (.int .i64 (s.n + 1))).setCell ⟨L.c, 1, none⟩ (.int .i64 p.hour)).cell? ⟨L.c, 2, none⟩ = some (.map (some L.ids)) :=
      ⟨bx2.cells.1, bx2.cells.2.1, ch2.cs.2.2.1⟩
    have k3 : w3.cell? ⟨w.heap.size, 0, none⟩ = some (.int .i64 p.id) ∧ w3.cell? ⟨w.heap.size, 1, none⟩ = some (.int .i64 p.hour) ∧ w3.cell? ⟨L.c, 2, none⟩ = some (.map (some L.ids)) := ⟨bx3.cells.1, bx3.cells.2.1, ch3.cs.2.2.1⟩
    have k4 : w4.cell? ⟨w.heap.size, 0, none⟩ = some (.int .i64 p.id) ∧ w4.cell? ⟨w.heap.size, 1, none⟩ = some (.int .i64 p.hour) ∧ w4.cell? ⟨L.c, 2, none⟩ = some (.map (some L.ids)) := ⟨bx4.cells.1, bx4.cells.2.1, ch4.cs.2.2.1⟩
    obtain ⟨u0, hu0⟩ : ∃ u, u = W.drew := ⟨_, rfl⟩
    obtain ⟨u1, hu1⟩ : ∃ u, u = W.drew.setCell ⟨L.c, 0, none⟩ (.int .i64 (s.n + 1)) := ⟨_, rfl⟩
    obtain ⟨u2, hu2⟩ : ∃ u, u = (W.drew.setCell ⟨L.c, 0, none⟩ (.int .i64 (s.n + 1))).setCell ⟨L.c, 1, none⟩ (.int .i64 p.hour) := ⟨_, rfl⟩
    have hu12 : u2 = u1.setCell ⟨L.c, 1, none⟩ (.int .i64 p.hour) := by rw [hu2, hu1]
    have hu01 : u1 = u0.setCell ⟨L.c, 0, none⟩ (.int .i64 (s.n + 1)) := by rw [hu1, hu0]
    rw [← hu0] at k0 c0 c1 fz
    rw [← hu1] at k1
    rw [← hu2] at k2 e3
    have c1' : u1.cell? ⟨L.c, 1, none⟩ = some (.int .i64 s.hour) := by rw [hu1]; exact (hch.setN (s.n + 1)).cs.2.1
    have fz1' : u1.frozen? ⟨L.c, 1, none⟩ = false := by rw [hu1]; exact (hch.setN (s.n + 1)).free 1
    have Hu12 := Lib.hid hu12
    have Hu01 := Lib.hid hu01
    have Hu0 := Lib.hid hu0
    clear hu0 hu1 hu2 hu12 hu01
    have hcom : ∀ (k : Nat) (w' : World), ((k = 0 ∧ w' = u0) ∨ (k = 1 ∧ w' = u1) ∨ (k = 2 ∧ w' = u2) ∨ (k = 3 ∧ w' = w3)) → w'.cell? ⟨w.heap.size, 0, none⟩ = some (.int .i64 p.id) ∧ w'.cell? ⟨w.heap.size, 1, none⟩ = some (.int .i64 p.hour) ∧ w'.cell? ⟨L.c, 2, none⟩ = some (.map (some L.ids)) := by
      rintro k w' (⟨_, rfl⟩ | ⟨_, rfl⟩ | ⟨_, rfl⟩ | ⟨_, rfl⟩)
      · exact k0
      · exact k1
      · exact k2
      · exact k3
    have Hcom := Lib.hid hcom
    have hwr : IntKind.i64.wrap (s.n + 1) = s.n + 1 := IntWalk.i64_in _ (by omega)
    have hsn : (backS s p).n = s.n := by rfl
    clear hcom k0 k1 k2 k3 k4 c1 fz2 hfin m3 m4 st3 g3 g4 z3 z4 ch2 ch3 ch4 bx1 bx2 bx3 bx4 hbx hch hE HO hO4 q0 q1 q2 q3 q4 q5 q6 q7 c2 c3 c4 c5 c6
    refine wp_region_phase 23 [17, 20, 21] [(false, 3), (false, 3), (false, 3), (false, 3), (false, 3), (false, 3), (false, 3), (false, 3), (false, 3), (false, 3), (false, 3), (false, 0), (false, 3), (false, 3), (false, 3), (false, 3), (false, 3), (true, 0), (false, 3), (false, 3), (true, 1), (true, 2), (false, 3)]
      (by kernel_rfl) (by kernel_rfl) (by kernel_rfl)
      [.pointer (some ⟨L.c, 0, none⟩), .pointer (some ⟨L.c, 0, none⟩), .pointer (some ⟨L.c, 0, none⟩), .pointer (some ⟨L.c, 0, none⟩), .pointer (some ⟨L.c, 2, none⟩), .map (some L.ids), .pointer (some ⟨w.heap.size, 0, none⟩), .int .i64 p.id,
       .pointer (some ⟨L.c, 0, none⟩), .pointer (some ⟨L.c, 0, none⟩), .pointer (some ⟨L.c, 0, none⟩), .int .i64 s.n, .int .i64 (s.n + 1), .pointer (some ⟨w.heap.size, 1, none⟩), .int .i64 p.hour, .pointer (some ⟨L.c, 0, none⟩), .pointer (some ⟨L.c, 0, none⟩), undef,
       .pointer (some ⟨L.c, 0, none⟩), .pointer (some ⟨L.c, 1, none⟩), undef, .tuple #[.bool (getB s.ids p.id), .int .i64 (s3 : Int)], .int .i64 (s3 : Int)]
      (fun k w' => (k = 0 ∧ w' = u0) ∨ (k = 1 ∧ w' = u1) ∨ (k = 2 ∧ w' = u2) ∨ (k = 3 ∧ w' = w3)) (by rfl) (.inl ⟨rfl, Hu0.out.symm⟩) ?heads7 ?tail7
    case heads7 =>
      simp only [List.take_succ_cons, List.take_zero, doesPh, headEnd, Act.put, List.setIfInBounds_toArray, List.set_cons_succ, List.set_cons_zero]
      refine ⟨?_, ?_, ?_, ?_, ?_, ?_, ?_, ?_, ?_, ?_, ?_, ?h11, ?_, ?_, ?_, ?_, ?_, ?h17, ?_, ?_, ?h20, ?h21, ?_, trivial⟩
      case h11 =>
        intro k hk w' hw K hK
        obtain rfl : k = 0 := by omega
        obtain rfl : w' = u0 := by rcases hw with ⟨_, h⟩ | ⟨h, _⟩ | ⟨h, _⟩ | ⟨h, _⟩ <;> first | exact h | omega
        have hC1 := hK w' (by simp)
        clear hK hw
        go_wp2_with fail
        exact hC1
      case h17 =>
        intro w' hw K hK
        obtain rfl : w' = u0 := by rcases hw with ⟨_, h⟩ | ⟨h, _⟩ | ⟨h, _⟩ | ⟨h, _⟩ <;> first | exact h | omega
        have hC1 := hK u1 (by simp)
        rw [Hu01.out] at hC1
        clear hK hw
        go_wp2_with fail
        exact hC1
      case h20 =>
        intro w' hw K hK
        obtain rfl : w' = u1 := by rcases hw with ⟨h, _⟩ | ⟨_, h⟩ | ⟨h, _⟩ | ⟨h, _⟩ <;> first | exact h | omega
        have hC1 := hK u2 (by simp)
        rw [Hu12.out] at hC1
        clear hK hw
        go_wp2_with fail
        exact hC1
      case h21 =>
        intro w' hw K hK
        obtain rfl : w' = u2 := by rcases hw with ⟨h, _⟩ | ⟨h, _⟩ | ⟨_, h⟩ | ⟨h, _⟩ <;> first | exact h | omega
        have hC1 := hK w3 (by simp)
        clear hK hw
        go_wp2_with fail
        exact hC1
      all_goals
        intro k hk w' hw K hK
        have hC1 := hK w' hw
        obtain ⟨q0, q1, c2⟩ := Hcom.out k w' hw
        clear hK hw hk
        go_wp2_with fail
        try exact hC1
    case tail7 =>
      intro w' hw
      have hw : w' = w3 := by rcases hw with ⟨h, _⟩ | ⟨h, _⟩ | ⟨h, _⟩ | ⟨_, h⟩ <;> first | exact h | (simp at h)
      subst hw
      simp only [List.take_succ_cons, List.take_zero, headEnd, List.drop_succ_cons, List.drop_zero, Act.put, List.setIfInBounds_toArray, List.set_cons_succ, List.set_cons_zero]
      have h0 := hE4.cell
      have hf0 := hE4.free
      go_wp2_with fail
      refine leaves_cons (f := 67) (args := #[.pointer (some ⟨w.heap.size + 1, 0, none⟩)]) (by simp) (by simp [go_sem]) ?_
      refine (catch_nothing (w.heap.size + 1) _).mono ?_
      rintro r u' w'' ⟨rfl, rfl, rfl⟩
      simp [Leaves, settle, results, Tryz.results36, go_sem, h0]
      exact ⟨HT.out.symm, onlyL_setNew HO4.out (Nat.le_succ _), fun _ => Hfin.out.setOther _ Hmem.out.2 _⟩
end Go.Proofs.YtjleembfocghlaaGreatDoor
