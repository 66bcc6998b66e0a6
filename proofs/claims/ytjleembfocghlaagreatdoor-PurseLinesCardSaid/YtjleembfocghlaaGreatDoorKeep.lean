/- The walks of over, dues, Over, Settled. -/
import Derived.Test.YtjleembfocghlaaGreatDoorOver
set_option linter.unusedSimpArgs false
set_option linter.unusedVariables false
namespace Go.Proofs.YtjleembfocghlaaGreatDoor
open Go.RowKit Go.Shelf

theorem getI_mput_case {κ : Type} [DecidableEq κ] {m : List (κ × Int)} {k k' : κ} {v : Int} : getI (mput m k v) k' = v ∨ getI (mput m k v) k' = getI m k' := by
  rw [getI_mput']; split
  · exact .inl rfl
  · exact .inr rfl
theorem dueM_bound : ∀ (d : List Du) (m : List ((Int × Int) × Int)), (∀ x ∈ d, okDu x = true) → (∀ k, 0 ≤ getI m k ∧ getI m k ≤ 1000000000) → ∀ k, 0 ≤ getI (d.foldl (fun m x => mput m (x.parcel, x.party) x.amount) m) k ∧ getI (d.foldl (fun m x => mput m (x.parcel, x.party) x.amount) m) k ≤ 1000000000
  | [], m, _, h, k => h k
  | x :: r, m, hd, h, k => dueM_bound r _ (fun y hy => hd y (by simp [hy])) (fun k' => by
      have := okDu_facts (hd x (by simp))
      rcases getI_mput_case (m := m) (k := (x.parcel, x.party)) (k' := k') (v := x.amount) with e | e
      · rw [e]; omega
      · rw [e]; exact h k') k
theorem dueM_bd {d : List Du} (hd : ∀ x ∈ d, okDu x = true) (k : Int × Int) : 0 ≤ getI (dueM d) k ∧ getI (dueM d) k ≤ 1000000000 := dueM_bound d [] hd (fun k => by simp [getI, mget_nil]) k
theorem accL_len {s : Ch} {xs : List Po} (h : Bk s xs) : (accL xs).length ≤ 400 := by
  have h1 : (accL xs).Nodup := (accL_sorted xs).imp fun {a b} hab e => by subst e; exact accLt_irrefl a hab
  have h2 : (accL xs).length ≤ (xs.map (fun p => (p.parcel, p.party))).length := h1.length_le_of_subset fun a ha => by
    have hne := (accL_mem h.okl a).1 ha
    have : ∃ p ∈ xs, p.party = a.2 ∧ p.parcel = a.1 := Classical.byContradiction fun hc => hne (hasL_zero fun p hp e => hc ⟨p, hp, e⟩)
    obtain ⟨p, hp, e1, e2⟩ := this
    exact List.mem_map.2 ⟨p, hp, by rw [e1, e2]⟩
  have h3 := h.len
  rw [List.length_map] at h2
  omega

set_option maxRecDepth 100000 in
set_option maxHeartbeats 4000000 in
theorem over_any (L : Lay) (s : Ch) (xs : List Po) (a : Option Addr) (n cap : Nat) (d : List Du) (w : World) (hch : ChAt w L s) (hbk : Bk s xs) (h : Rd Du.vals 3 w a n d) (hd : ∀ x ∈ d, okDu x = true) :
    Calls Tryz.prog 45 #[.pointer (some ⟨L.c, 0, none⟩), .slice a n cap] w fun e w' => ∃ v, e = .returned v ∧ w'.ownsRow w.heap.size 41 3 v (overM xs d).length ((overM xs d).flatMap Du.vals) ∧ Below w.heap.size w w' := by
  obtain ⟨i0, hi, hz0, hz1, hz2⟩ := info_parts info_du
  go_enter Tryz.func45, Tryz.ntmps45
  go_wp2_with fail
  refine (amounts_any a n cap d _ h hd).mono ?_
  rintro e w1 ⟨rfl, hmap, hB1⟩
  have hch1 := hch.below' hB1
  have HB1 := Lib.hid hB1
  have Hmap := Lib.hid hmap
  clear hB1 hmap hch h
  go_wp2_with fail
  refine (accounts_any L s xs _ hch1 hbk).mono ?_
  rintro e w2 ⟨va, rfl, hra, hB2⟩
  have hal := accL_len hbk
  obtain ⟨aa, ca, rfl, hca, hrd, hlow⟩ := Rd.of_own hra accs_length (by omega) rfl (by unfold maxLen; omega)
  have hch2 := hch1.below' hB2
  have Hmap2 := Lib.hid (Hmap.out.below' hB2)
  have HB2 := Lib.hid (below_then HB1.out hB2 (Nat.le_refl _))
  obtain ⟨N, hN⟩ : ∃ N, (accL xs).length = N := ⟨_, rfl⟩
  rw [hN] at hrd hca hal ⊢
  have HN := Lib.hid hN
  clear hB2 hch1 hra hlow hN
  go_wp2_with fail
  go_loopw [6, 15] (fun v i wr => ∃ k : Nat, k ≤ N ∧ i = .int .i64 k ∧ wr.ownsRow w2.heap.size 41 3 v (((accL xs).take k).filterMap (overStep xs d)).length ((((accL xs).take k).filterMap (overStep xs d)).flatMap Du.vals) ∧ Below w2.heap.size w2 wr) (fun _ i _ => N - (intOf i).toNat)
  case atStart => exact ⟨0, Nat.zero_le _, rfl, World.ownsRow_nil _ _ _ _, Below.refl _ _⟩
  case round =>
    obtain ⟨k, hk, rfl, hrow, hB⟩ := hrel
    have h1 := hrd.below' hB
    by_cases hlt : k < N
    · obtain ⟨b, off, x, rfl, hb, hx, x0, x1⟩ := h1.acc hlt
      obtain ⟨ip, iq⟩ : I64 x.1 ∧ I64 x.2 := by
        have hne := (accL_mem hbk.okl x).1 (List.mem_of_getElem? hx)
        obtain ⟨hq, p, hp, e⟩ := hasL_ne hbk.okl hne
        have := hbk.okl p hp
        unfold okPo at this
        unfold I64
        omega
      have hha := hbk.hasAbs x.2 x.1
      have hdm := dueM_bd hd x
      have hhas := hbk.has (x.1, x.2)
      have hcw := (hch2.below' hB).alloc (.cells #[.int .i64 x.1, .int .i64 x.2] 81)
      have hmw := (Hmap2.out.below' hB).alloc (.cells #[.int .i64 x.1, .int .i64 x.2] 81)
      have hrow1 := hrow.alloc (.cells #[.int .i64 x.1, .int .i64 x.2] 81)
      have HBr := Lib.hid hB
      have HBa := Lib.hid (hB.alloc hB.size (.cells #[.int .i64 x.1, .int .i64 x.2] 81))
      have e3 := Boxed2.new wr x
      have Hsn := Lib.hid (take_succ_snoc hx)
      have Hrl := Lib.hid hrow.lt
      have h1s := hB.size
      have hkl : (((accL xs).take k).filterMap (overStep xs d)).length ≤ k := Nat.le_trans (List.length_filterMap_le _ _) (by rw [List.length_take]; omega)
      clear hx hrow hB
      go_wp2_with fail
      generalize wr.alloc (.cells #[.int .i64 x.1, .int .i64 x.2] 81) = W at *
      obtain ⟨e0, e1⟩ := e3
      obtain ⟨c0, c1, c2, c3, c4, c5, c6⟩ := hcw.cs
      have f4 : ∀ m, (Instr.lookup 74 (.map (some L.has)) (.agg #[.int .i64 x.1, .int .i64 x.2]) false).run Tryz.prog (W.drewN m) = .ok (.int .i64 (hasL xs x.2 x.1)) (W.drewN m) := fun m => by
        rw [look_acc (hcw.has.drewN m) ip iq, hhas]
      have f5 : ∀ m, (Instr.lookup 74 (.map (some w.heap.size)) (.agg #[.int .i64 x.1, .int .i64 x.2]) false).run Tryz.prog (W.drewN m) = .ok (.int .i64 (getI (dueM d) x)) (W.drewN m) := fun m => look_acc (hmw.drewN m) ip iq
      have hwrap : IntKind.i64.wrap (hasL xs x.2 x.1 - getI (dueM d) x) = hasL xs x.2 x.1 - getI (dueM d) x := IntWalk.i64_in _ (by omega)
      have Hrow1 := Lib.hid hrow1
      have HE := Lib.hid (And.intro e0 e1)
      clear hrow1 hcw hmw hhas hbk
      go_quiet (fail)
      have g0 : (W.drewN nq).cell? ⟨wr.heap.size, 0, none⟩ = some (.int .i64 x.1) := HE.out.1
      have g1 : (W.drewN nq).cell? ⟨wr.heap.size, 1, none⟩ = some (.int .i64 x.2) := HE.out.2
      have HBq := Lib.hid (below_drewN HBa.out nq)
      have Hrow2 := Lib.hid (own_later Hrow1.out (drewN_below W nq))
      clear f4 f5 hwrap e0 e1 c0 c1 c2 c3 c4 c5 c6
      generalize W.drewN nq = wq at *
      obtain ⟨nn, hnn⟩ : ∃ nn, nn = hasL xs x.2 x.1 - getI (dueM d) x := ⟨_, rfl⟩
      rw [← hnn]
      have hn1 : -1000000000000 ≤ nn ∧ nn ≤ 1000000000000 := by omega
      have hsw := HB2.out.size
      by_cases hpos : 0 < nn
      · have Hst := Lib.hid (show ((accL xs).take (k + 1)).filterMap (overStep xs d) = ((accL xs).take k).filterMap (overStep xs d) ++ [⟨x.2, x.1, nn⟩] by
          rw [Hsn.out]; exact fm_snoc_some (by unfold overStep; rw [← hnn, if_pos hpos]))
        have Hnew := heap_alloc_new wq (.cells #[.int .i64 x.2, .int .i64 x.1, .int .i64 nn] 41)
        have HNew := Lib.hid Hnew
        clear Hnew hnn hha hdm
        go_wp2_with (at_builtin; refine wpList_append_own _ rfl _ _ 42 rfl w2.heap.size 41 i0 _ 3 24 Tryz.underlying42 hi hz0 hz1 hz2 rfl (by decide) _ _ _ rfl (Hrow2.out.alloc _) ⟨wq.heap.size, 0, none⟩ 1 1 (Du.vals ⟨x.2, x.1, nn⟩) rfl rfl (World.news_of_block (cs := #[.int .i64 x.2, .int .i64 x.1, .int .i64 nn]) (t := 41) (fr := (0, 0)) HNew.out) (by simp [Du.vals, Value.oneCell']) (by unfold maxLen; omega) (by omega) (by have := HBq.out.size; simp; omega) ?_; intro v' w3 hown' hgrow _)
        have HO := Lib.hid hown'
        have HGr := Lib.hid (HBq.out.alloc HBq.out.size (.cells #[.int .i64 x.2, .int .i64 x.1, .int .i64 nn] 41))
        have HG4 := Lib.hid (HGr.out.grown hgrow HGr.out.size (fun j e => (Hrl.out j e).1))
        clear hown' hgrow
        go_wp2_with fail
        refine ⟨⟨k + 1, by omega, by go_num, ?_, HG4.out⟩, by simp [intOf]; omega⟩
        have := HO.out
        rw [Hst.out, List.length_append, List.flatMap_append]
        simpa using this
      · have Hst := Lib.hid (show ((accL xs).take (k + 1)).filterMap (overStep xs d) = ((accL xs).take k).filterMap (overStep xs d) by
          rw [Hsn.out]; exact fm_snoc_none (by unfold overStep; rw [← hnn, if_neg hpos]))
        clear hnn hha hdm
        go_wp2_with fail
        exact ⟨⟨k + 1, by omega, by go_num, by rw [Hst.out]; exact Hrow2.out, HBq.out⟩, by simp [intOf]; omega⟩
    · have HB := Lib.hid (below_then HB2.out hB (Nat.le_refl _))
      have HR := Lib.hid hrow
      clear hB hrow
      go_wp2_with fail
      go_ret
      have hr := HR.out
      rw [List.take_of_length_le (by rw [HN.out]; omega)] at hr
      exact ⟨_, rfl, ownsRow_mono hr HB2.out.size, HB.out⟩

def DuesPost (w : World) (xs : List Po) (d : List Du) (e : Ending) (w' : World) : Prop :=
  Below w.heap.size w w' ∧ ((¬ (checkL xs).2 = 0 ∧ e = .returned (.tuple #[.pointer none, .int .i64 (checkL xs).2])) ∨ ((checkL xs).2 = 0 ∧ ¬ chkDu d = 0 ∧ e = .returned (.tuple #[.pointer none, .int .i64 (chkDu d)])) ∨
    ((checkL xs).2 = 0 ∧ chkDu d = 0 ∧ ∃ L s, e = .returned (.tuple #[.pointer (some ⟨L.c, 0, none⟩), .int .i64 0]) ∧ ChAt w' L s ∧ Bk s xs ∧ L.From w.heap.size))

set_option maxRecDepth 100000 in
set_option maxHeartbeats 2000000 in
theorem dues_any (a : Option Addr) (n cap : Nat) (xs : List Po) (a' : Option Addr) (n' cap' : Nat) (d : List Du) (w : World) (h : Rd Po.vals 8 w a n xs) (hw : ∀ p ∈ xs, p.Wf) (h' : Rd Du.vals 3 w a' n' d) :
    Calls Tryz.prog 48 #[.slice a n cap, .slice a' n' cap'] w (DuesPost w xs d) := by
  go_enter Tryz.func48, Tryz.ntmps48
  go_wp2_with fail
  refine (opened_any a n cap xs _ h hw).mono ?_
  rintro e w1 ⟨hB, ⟨hc, L, s, rfl, hch, hbk, hL⟩ | ⟨hc, rfl⟩⟩
  · have h1 := h'.below' hB
    have HB := Lib.hid hB
    have Hc := Lib.hid hc
    have HL := Lib.hid hL
    have Hch := Lib.hid hch
    have Hbk := Lib.hid hbk
    clear hB hc hL hch hbk h h' hw
    go_wp2_with fail
    refine (checkDues_any a' n' cap' d _ h1).mono ?_
    rintro e w2 ⟨rfl, hB2⟩
    have Hch2 := Lib.hid (Hch.out.below' hB2)
    have HB2 := Lib.hid (below_then HB.out hB2 (Nat.le_refl _))
    clear hB2
    by_cases hd : chkDu d = 0
    · have hd1 : (chkDu d != 0) = false := by simp [hd]
      have Hd := Lib.hid hd
      clear hd
      go_wp2_with fail
      go_ret2
      exact ⟨HB2.out, .inr (.inr ⟨Hc.out, Hd.out, L, s, rfl, Hch2.out, Hbk.out, HL.out⟩)⟩
    · have hd1 : (chkDu d != 0) = true := by simp [hd]
      have Hd := Lib.hid hd
      clear hd
      go_wp2_with fail
      go_ret2
      exact ⟨HB2.out, .inr (.inl ⟨Hc.out, Hd.out, rfl⟩)⟩
  · have HB := Lib.hid hB
    have Hc := Lib.hid hc
    have hc1 : ((checkL xs).2 != 0) = true := by simp [hc]
    clear hB hc
    go_wp2_with fail
    go_ret2
    exact ⟨HB.out, .inl ⟨Hc.out, rfl⟩⟩

/-- the error of a book and of dues -/
def cmpE (xs : List Po) (d : List Du) : Int := if (checkL xs).2 = 0 then chkDu d else (checkL xs).2
theorem cmpE_a {xs : List Po} {d : List Du} (h : ¬ (checkL xs).2 = 0) : cmpE xs d = (checkL xs).2 := by unfold cmpE; rw [if_neg h]
theorem cmpE_b {xs : List Po} {d : List Du} (h : (checkL xs).2 = 0) : cmpE xs d = chkDu d := by unfold cmpE; rw [if_pos h]

def OverPost (w : World) (xs : List Po) (d : List Du) (l : List Du) (e : Ending) (w' : World) : Prop :=
  Below w.heap.size w w' ∧ ((¬ cmpE xs d = 0 ∧ e = .returned (.tuple #[.slice none 0 0, .int .i64 (cmpE xs d)])) ∨
    (cmpE xs d = 0 ∧ ∃ v, e = .returned (.tuple #[v, .int .i64 0]) ∧ w'.ownsRow w.heap.size 41 3 v l.length (l.flatMap Du.vals)))
theorem ret_slice_int {k : IntKind} {v : Value} {a b : Int} (h : a = b) : Ending.returned (.tuple #[v, .int k a]) = .returned (.tuple #[v, .int k b]) := by rw [h]

def SettledPost (w : World) (xs : List Po) (d : List Du) (e : Ending) (w' : World) : Prop :=
  Below w.heap.size w w' ∧ e = .returned (.tuple #[.bool (decide (cmpE xs d = 0 ∧ openL xs d = [] ∧ overM xs d = [])), .int .i64 (cmpE xs d)])
theorem ret_bool_int {k : IntKind} {x y : Bool} {a b : Int} (h1 : x = y) (h : a = b) : Ending.returned (.tuple #[.bool x, .int k a]) = .returned (.tuple #[.bool y, .int k b]) := by rw [h, h1]

set_option maxRecDepth 100000 in
set_option maxHeartbeats 4000000 in
theorem settled_all (a : Option Addr) (n cap : Nat) (xs : List Po) (a' : Option Addr) (n' cap' : Nat) (d : List Du) (w : World) (h : Rd Po.vals 8 w a n xs) (hw : ∀ p ∈ xs, p.Wf) (h' : Rd Du.vals 3 w a' n' d) :
    Calls Tryz.prog 16 #[.slice a n cap, .slice a' n' cap'] w (SettledPost w xs d) := by
  go_enter Tryz.func16, Tryz.ntmps16
  go_wp2_with fail
  refine (dues_any a n cap xs a' n' cap' d _ h hw h').mono ?_
  rintro e w1 ⟨hB, ⟨hc, rfl⟩ | ⟨hc, hd, rfl⟩ | ⟨hc, hd, L, s, rfl, hch, hbk, hL⟩⟩
  · have hc1 : ((checkL xs).2 != 0) = true := by simp [hc]
    have Hc := Lib.hid hc
    have HB := Lib.hid hB
    clear hc hB
    go_wp2_with fail
    go_ret2
    exact ⟨HB.out, ret_bool_int (by rw [cmpE_a Hc.out]; simp [Hc.out]) (cmpE_a Hc.out).symm⟩
  · have hc1 : (chkDu d != 0) = true := by simp [hd]
    have Hc := Lib.hid hc
    have Hd := Lib.hid hd
    have HB := Lib.hid hB
    clear hc hB hd
    go_wp2_with fail
    go_ret2
    exact ⟨HB.out, ret_bool_int (by rw [cmpE_b Hc.out]; simp [Hd.out]) (cmpE_b Hc.out).symm⟩
  · have h1 := h'.below' hB
    have hok := goodB_all (chkDu_ok hd).2
    have hn4 : n' ≤ 100000 := by have := (chkDu_ok hd).1; rw [h'.len] at this; omega
    have Hc := Lib.hid (show cmpE xs d = 0 by rw [cmpE_b hc]; exact hd)
    have HB := Lib.hid hB
    have Hok := Lib.hid hok
    clear hc hB hd hok h h'
    go_wp2_with fail
    refine (open_any L s xs a' n' cap' d _ hch hbk h1 Hok.out hn4).mono ?_
    rintro e w2 ⟨v, rfl, hrow, hB2⟩
    have hol : (openL xs d).length ≤ 100000 := Nat.le_trans (List.length_filterMap_le _ _) (by rw [h1.len]; exact hn4)
    obtain ⟨av, cv, rfl, _, _, _⟩ := Rd.of_own hrow du_vals_length (by omega) rfl (by unfold maxLen; omega)
    have h2 := h1.below' hB2
    have hch2 := hch.below' hB2
    have HB2 := Lib.hid (below_then HB.out hB2 (Nat.le_refl _))
    clear hrow hB2 hch h1
    by_cases ho : openL xs d = []
    · have hl0 : (openL xs d).length = 0 := by rw [ho]; rfl
      rw [hl0]
      clear hol
      go_wp2_with fail
      refine (over_any L s xs a' n' cap' d _ hch2 hbk h2 Hok.out).mono ?_
      rintro e w3 ⟨v, rfl, hrow, hB3⟩
      have hvl : (overM xs d).length ≤ 100000 := Nat.le_trans (List.length_filterMap_le _ _) (by have := accL_len hbk; omega)
      obtain ⟨av3, cv3, rfl, _, _, _⟩ := Rd.of_own hrow du_vals_length (by omega) rfl (by unfold maxLen; omega)
      have HB3 := Lib.hid (below_then HB2.out hB3 (Nat.le_refl _))
      have Ho := Lib.hid ho
      clear hrow hB3 hl0 ho
      go_wp2_with fail
      go_ret2
      exact ⟨HB3.out, ret_bool_int (by rw [Bool.eq_iff_iff]; simp [Hc.out, Ho.out]) Hc.out.symm⟩
    · have hl0 : (((openL xs d).length : Int) == 0) = false := by rw [beq_eq_false_iff_ne]; intro e; apply ho; exact List.eq_nil_of_length_eq_zero (by omega)
      have Ho := Lib.hid ho
      clear ho hol
      go_wp2_with fail
      go_ret2
      exact ⟨HB2.out, ret_bool_int (by simp [Ho.out]) Hc.out.symm⟩
end Go.Proofs.YtjleembfocghlaaGreatDoor

/- Worlds in which of the blocks below B none but those of S have turned. -/
namespace Go.Proofs.YtjleembfocghlaaGreatDoor
open Go.RowKit Go.Shelf

structure KeepB (B : Nat) (S : Nat → Prop) (w w' : World) : Prop where
  os : w'.os = w.os
  tape : w'.tape = w.tape
  output : w'.output = w.output
  size : w.heap.size ≤ w'.heap.size
  block : ∀ k, k < B → ¬ S k → w'.heap[k]? = w.heap[k]?
section
variable {B : Nat} {S : Nat → Prop} {w w' w2 : World}
theorem KeepB.refl (B : Nat) (S : Nat → Prop) (w : World) : KeepB B S w w := ⟨rfl, rfl, rfl, Nat.le_refl _, fun _ _ _ => rfl⟩
theorem KeepB.trans (h : KeepB B S w w') (h2 : KeepB B S w' w2) : KeepB B S w w2 :=
  ⟨h2.os.trans h.os, h2.tape.trans h.tape, h2.output.trans h.output, Nat.le_trans h.size h2.size, fun k hk hs => (h2.block k hk hs).trans (h.block k hk hs)⟩
theorem KeepB.of_below {C : Nat} (h : Below C w w') (hC : B ≤ C) : KeepB B S w w' := ⟨h.os, h.tape, h.output, h.size, fun k hk _ => h.block k (Nat.lt_of_lt_of_le hk hC)⟩
theorem KeepB.of_grown {row : Option Nat} (h : w.grownBy w' row) (hr : ∀ k, row = some k → S k ∨ B ≤ k) (hB : B ≤ w.heap.size) : KeepB B S w w' :=
  ⟨h.os, h.tape, h.output, h.size, fun k hk hs => h.block k (Nat.lt_of_lt_of_le hk hB) (fun e => by
    rcases hr k e.symm with h1 | h1
    · exact hs h1
    · omega)⟩
theorem KeepB.mono {S' : Nat → Prop} {B' : Nat} (h : KeepB B S w w') (hB : B' ≤ B) (hS : ∀ k, k < B' → S k → S' k) : KeepB B' S' w w' :=
  ⟨h.os, h.tape, h.output, h.size, fun k hk hs => h.block k (Nat.lt_of_lt_of_le hk hB) (fun h1 => hs (hS k hk h1))⟩
theorem KeepB.below {C : Nat} (h : KeepB B S w w') (hC : C ≤ B) (hS : ∀ k, S k → C ≤ k) : Below C w w' := ⟨h.os, h.tape, h.output, h.size, fun k hk => h.block k (Nat.lt_of_lt_of_le hk hC) (fun h1 => Nat.not_lt_of_le (hS k h1) hk)⟩
theorem KeepB.cell (h : KeepB B S w w') {a : Addr} {v : Value} (hc : w.cell? a = some v) (hB : a.block < B) (hS : ¬ S a.block) : w'.cell? a = some v := (World.cell?_of_block (h.block _ hB hS)).trans hc
theorem KeepB.boxed (h : KeepB B S w w') {b : Nat} {t : TypeId} {v : Value} (hc : Boxed w b t v) (hB : b < B) (hS : ¬ S b) : Boxed w' b t v := (h.block b hB hS).trans hc
theorem KeepB.map {κ ν : Type} {P : Program} {K : TypeId} {ke : κ → Value} {ve : ν → Value} {b : Nat} {m : List (κ × ν)} (h : KeepB B S w w') (hm : MapT P K ke ve w b m) (hB : b < B) (hS : ¬ S b) : MapT P K ke ve w' b m := hm.same (h.block b hB hS)
theorem KeepB.ch (h : KeepB B S w w') {L : Lay} {s : Ch} (hc : ChAt w L s) (hB : ∀ k, L.mem k → k < B ∧ ¬ S k) : ChAt w' L s :=
  ⟨hc.ok, (h.block _ (hB _ (.inl rfl)).1 (hB _ (.inl rfl)).2).trans hc.cells, h.map hc.ids (hB _ (.inr (.inl rfl))).1 (hB _ (.inr (.inl rfl))).2, h.map hc.sold (hB _ (.inr (.inr (.inl rfl)))).1 (hB _ (.inr (.inr (.inl rfl)))).2,
    h.map hc.held (hB _ (.inr (.inr (.inr (.inl rfl))))).1 (hB _ (.inr (.inr (.inr (.inl rfl))))).2, h.map hc.has (hB _ (.inr (.inr (.inr (.inr (.inl rfl)))))).1 (hB _ (.inr (.inr (.inr (.inr (.inl rfl)))))).2,
    h.map hc.last (hB _ (.inr (.inr (.inr (.inr (.inr rfl)))))).1 (hB _ (.inr (.inr (.inr (.inr (.inr rfl)))))).2⟩
theorem KeepB.rd {α : Type} {E : α → List Value} {k : Nat} {a : Option Addr} {n : Nat} {xs : List α} (h : KeepB B S w w') (hr : Rd E k w a n xs) (hB : ∀ q, a = some q → 0 < n → q.block < B ∧ ¬ S q.block) : Rd E k w' a n xs :=
  ⟨hr.len, hr.cap, fun i hi => by
    obtain ⟨b, off, x, rfl, hlt, hx, hc⟩ := hr.read i hi
    obtain ⟨h1, h2⟩ := hB _ rfl (by omega)
    exact ⟨b, off, x, rfl, Nat.lt_of_lt_of_le hlt h.size, hx, fun j hj => (World.cell?_of_block (a := ⟨b, off + i * k + j, none⟩) (h.block b h1 h2)).trans (hc j hj)⟩⟩
end
end Go.Proofs.YtjleembfocghlaaGreatDoor
