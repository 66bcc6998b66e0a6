/- The walks of amounts, open, over. -/
import Derived.Test.YtjleembfocghlaaGreatDoorAccounts
import Derived.IntWalk
set_option linter.unusedSimpArgs false
set_option linter.unusedVariables false
namespace Go.Proofs.YtjleembfocghlaaGreatDoor
open Go.RowKit Go.Shelf

def dueM (d : List Du) : List ((Int × Int) × Int) := d.foldl (fun m x => mput m (x.parcel, x.party) x.amount) []
theorem dueM_snoc (d : List Du) (x : Du) : dueM (d ++ [x]) = mput (dueM d) (x.parcel, x.party) x.amount := by simp [dueM]
def openStep (xs : List Po) (x : Du) : Option Du := if 0 < x.amount - hasL xs x.party x.parcel then some ⟨x.party, x.parcel, x.amount - hasL xs x.party x.parcel⟩ else none
def openL (xs : List Po) (d : List Du) : List Du := d.filterMap (openStep xs)
def overStep (xs : List Po) (d : List Du) (a : Int × Int) : Option Du := if 0 < hasL xs a.2 a.1 - getI (dueM d) a then some ⟨a.2, a.1, hasL xs a.2 a.1 - getI (dueM d) a⟩ else none
def overM (xs : List Po) (d : List Du) : List Du := (accL xs).filterMap (overStep xs d)
theorem fm_snoc_some {α β : Type} {f : α → Option β} {xs : List α} {x : α} {y : β} (h : f x = some y) : (xs ++ [x]).filterMap f = xs.filterMap f ++ [y] := by simp [List.filterMap_append, h]
theorem fm_snoc_none {α β : Type} {f : α → Option β} {xs : List α} {x : α} (h : f x = none) : (xs ++ [x]).filterMap f = xs.filterMap f := by simp [List.filterMap_append, h]

theorem okDu_facts {x : Du} (h : okDu x = true) : (10 ≤ x.parcel ∧ x.parcel ≤ 10000007) ∧ (0 ≤ x.party ∧ x.party ≤ 40) ∧ (0 ≤ x.amount ∧ x.amount ≤ 1000000000) := by unfold okDu at h; simpa using h
theorem goodB_all {α : Type} {ok : α → Bool} {lt : α → α → Bool} : ∀ {xs : List α} {prev : Option α}, goodB ok lt prev xs = true → ∀ x ∈ xs, ok x = true
  | [], _, _, x, hx => by simp at hx
  | y :: r, prev, h, x, hx => by
    simp only [goodB, Bool.and_eq_true] at h
    rcases List.mem_cons.1 hx with rfl | hx
    · exact h.1.1
    · exact goodB_all h.2 x hx
theorem chkDu_ok {d : List Du} (h : chkDu d = 0) : d.length ≤ 400 ∧ goodB okDu ltDu none d = true := by
  unfold chkDu listL at h
  by_cases h1 : 400 < d.length
  · rw [if_pos h1] at h; omega
  · rw [if_neg h1] at h
    by_cases h2 : goodB okDu ltDu none d = true
    · exact ⟨by omega, h2⟩
    · rw [if_neg h2] at h; omega
theorem Bk.hasAbs {s : Ch} {xs : List Po} (h : Bk s xs) (who what : Int) : 0 ≤ hasL xs who what ∧ hasL xs who what ≤ 400000000000 := by
  have h1 := (hasL_bound h.okl.am who what).2
  have h2 := h.len
  have h3 := h.has0 who what
  generalize (xs.length : Nat) = l at *
  omega
theorem own_later {W W' : World} {base k n : Nat} {e : TypeId} {v : Value} {xs : List Value} (h : W.ownsRow base e k v n xs) (hB : Below W.heap.size W W') : W'.ownsRow base e k v n xs := h.kept (grown_of_below hB) (Classical.em _)
theorem own_aside {W : World} {base k n B o : Nat} {e : TypeId} {v u : Value} {xs : List Value} (h : W.ownsRow base e k v n xs) (hne : v.ownBlock ≠ some B) : (W.setCell ⟨B, o, none⟩ u).ownsRow base e k v n xs := h.kept (grownBy_setCell'' W B o u) (.inr hne)
theorem info_du : (Tryz.prog.info? 41).map (fun i => (i.zero, i.size, i.bytes)) = some (some (.agg #[.int .i64 0, .int .i64 0, .int .i64 0]), 3, 24) := by kernel_rfl
theorem du3_later {W W' : World} {B : Nat} {u v x : Value} (h : W.cell? ⟨B, 0, none⟩ = some u ∧ W.cell? ⟨B, 1, none⟩ = some v ∧ W.cell? ⟨B, 2, none⟩ = some x) (hB : Below W.heap.size W W') :
    W'.cell? ⟨B, 0, none⟩ = some u ∧ W'.cell? ⟨B, 1, none⟩ = some v ∧ W'.cell? ⟨B, 2, none⟩ = some x := ⟨cell_keep h.1 hB, cell_keep h.2.1 hB, cell_keep h.2.2 hB⟩
theorem du3_grown {W W' : World} {B : Nat} {u v x : Value} {row : Option Nat} (h : W.cell? ⟨B, 0, none⟩ = some u ∧ W.cell? ⟨B, 1, none⟩ = some v ∧ W.cell? ⟨B, 2, none⟩ = some x) (hg : W.grownBy W' row) (hne : some B ≠ row) :
    W'.cell? ⟨B, 0, none⟩ = some u ∧ W'.cell? ⟨B, 1, none⟩ = some v ∧ W'.cell? ⟨B, 2, none⟩ = some x :=
  ⟨(hg.cell_far ⟨B, 0, none⟩ (World.block_lt_of_cell? _ _ h.1) hne).trans h.1, (hg.cell_far ⟨B, 1, none⟩ (World.block_lt_of_cell? _ _ h.2.1) hne).trans h.2.1, (hg.cell_far ⟨B, 2, none⟩ (World.block_lt_of_cell? _ _ h.2.2) hne).trans h.2.2⟩
theorem du3_new (w : World) (x : Du) (T : TypeId) : (w.alloc (.cells #[.int .i64 x.party, .int .i64 x.parcel, .int .i64 x.amount] T)).cell? ⟨w.heap.size, 0, none⟩ = some (.int .i64 x.party) ∧
    (w.alloc (.cells #[.int .i64 x.party, .int .i64 x.parcel, .int .i64 x.amount] T)).cell? ⟨w.heap.size, 1, none⟩ = some (.int .i64 x.parcel) ∧ (w.alloc (.cells #[.int .i64 x.party, .int .i64 x.parcel, .int .i64 x.amount] T)).cell? ⟨w.heap.size, 2, none⟩ = some (.int .i64 x.amount) := by simp

set_option maxRecDepth 100000 in
set_option maxHeartbeats 4000000 in
theorem amounts_any (a : Option Addr) (n cap : Nat) (d : List Du) (w : World) (h : Rd Du.vals 3 w a n d) (hd : ∀ x ∈ d, okDu x = true) :
    Calls Tryz.prog 78 #[.slice a n cap] w fun e w' => e = .returned (.map (some w.heap.size)) ∧ MapT Tryz.prog 81 kAcc vInt w' w.heap.size (dueM d) ∧ Below w.heap.size w w' := by
  have Hl := Lib.hid h.len
  have hm := h.cap
  unfold maxLen at hm
  have hmm := @run_makeMap Tryz.prog
  go_enter Tryz.func78, Tryz.ntmps78
  go_wp2_with fail
  have Hm0 := Lib.hid (MapT.made (P := Tryz.prog) (K := 81) (ke := kAcc) (ve := vInt) w)
  have HB0 := Lib.hid ((Below.refl w.heap.size w).alloc (Nat.le_refl _) (.map #[] 0))
  clear hmm
  go_loopw [9] (fun i wr => ∃ k : Nat, k ≤ n ∧ i = .int .i64 k ∧ MapT Tryz.prog 81 kAcc vInt wr w.heap.size (dueM (d.take k)) ∧ Below w.heap.size w wr) (fun i _ => n - (intOf i).toNat)
  case atStart => exact ⟨0, Nat.zero_le _, rfl, Hm0.out, HB0.out⟩
  case round =>
    obtain ⟨k, hk, rfl, hm, hB⟩ := hrel
    have h1 := h.below' hB
    by_cases hlt : k < n
    · obtain ⟨b, off, x, rfl, hb, hx, x0, x1, x2⟩ := h1.du hlt
      have hsn := Lib.hid (show dueM (d.take (k + 1)) = mput (dueM (d.take k)) (x.parcel, x.party) x.amount by rw [take_succ_snoc hx, dueM_snoc])
      obtain ⟨o1, o2, o3⟩ := okDu_facts (hd x (List.mem_of_getElem? hx))
      have ip : I64 x.parcel := by unfold I64; omega
      have iq : I64 x.party := by unfold I64; omega
      have hma := hm.alloc (.cells #[.int .i64 x.party, .int .i64 x.parcel, .int .i64 x.amount] 41)
      have HBa := Lib.hid (hB.alloc hB.size (.cells #[.int .i64 x.party, .int .i64 x.parcel, .int .i64 x.amount] 41))
      have e3 := du3_new wr x 41
      have hlow := hm.lt
      clear hx hm hB h
      go_wp2_with fail
      generalize wr.alloc (.cells #[.int .i64 x.party, .int .i64 x.parcel, .int .i64 x.amount] 41) = W at *
      obtain ⟨e0, e1, e2⟩ := e3
      have Hma := Lib.hid hma
      clear hma
      go_region_held3 (fun w' => w'.cell? ⟨wr.heap.size, 0, none⟩ = some (.int .i64 x.party) ∧ w'.cell? ⟨wr.heap.size, 1, none⟩ = some (.int .i64 x.parcel) ∧ w'.cell? ⟨wr.heap.size, 2, none⟩ = some (.int .i64 x.amount))
        (first | assumption | go_keep | exact du3_later (by assumption) hBk)
        (first
          | (go_at_call 46; refine (of_any x _).mono ?_; rintro e w' ⟨rfl, hBk⟩; have k1 := du3_later (W := W.drew) ⟨e0, e1, e2⟩ hBk; obtain ⟨w2, eu, mu, gu, zu⟩ := update_acc (Hma.out.drew.below' hBk) ip iq x.amount; have k2 := du3_grown k1 gu (by intro e; injection e with e; omega)))
      have HM := Lib.hid mu
      have HG := Lib.hid ((below_then (below_drewN HBa.out 1) hBk (Nat.le_refl _)).grown gu (below_then (below_drewN HBa.out 1) hBk (Nat.le_refl _)).size (fun k e => by cases e; exact Nat.le_refl _))
      clear mu gu zu hBk k1 k2 eu
      go_wp2_with fail
      exact ⟨⟨k + 1, by omega, by go_num, by rw [hsn.out]; exact HM.out, HG.out⟩, by simp [intOf]; omega⟩
    · have HM := Lib.hid hm
      have HB := Lib.hid hB
      clear hm hB
      go_wp2_with fail
      go_ret
      refine ⟨rfl, ?_, HB.out⟩
      have := HM.out
      rw [List.take_of_length_le (by rw [Hl.out]; omega)] at this
      exact this

set_option maxRecDepth 100000 in
set_option maxHeartbeats 4000000 in
theorem open_any (L : Lay) (s : Ch) (xs : List Po) (a : Option Addr) (n cap : Nat) (d : List Du) (w : World) (hch : ChAt w L s) (hbk : Bk s xs) (h : Rd Du.vals 3 w a n d) (hd : ∀ x ∈ d, okDu x = true) (hn : n ≤ 100000) :
    Calls Tryz.prog 47 #[.pointer (some ⟨L.c, 0, none⟩), .slice a n cap] w fun e w' => ∃ v, e = .returned v ∧ w'.ownsRow w.heap.size 41 3 v (openL xs d).length ((openL xs d).flatMap Du.vals) ∧ Below w.heap.size w w' := by
  have Hl := Lib.hid h.len
  have hm := h.cap
  unfold maxLen at hm
  obtain ⟨i0, hi, hz0, hz1, hz2⟩ := info_parts info_du
  go_enter Tryz.func47, Tryz.ntmps47
  go_wp2_with fail
  go_loopw [5, 11] (fun v i wr => ∃ k : Nat, k ≤ n ∧ i = .int .i64 k ∧ wr.ownsRow w.heap.size 41 3 v (openL xs (d.take k)).length ((openL xs (d.take k)).flatMap Du.vals) ∧ Below w.heap.size w wr) (fun _ i _ => n - (intOf i).toNat)
  case atStart => exact ⟨0, Nat.zero_le _, rfl, World.ownsRow_nil _ _ _ _, Below.refl _ _⟩
  case round =>
    obtain ⟨k, hk, rfl, hrow, hB⟩ := hrel
    have h1 := h.below' hB
    by_cases hlt : k < n
    · obtain ⟨b, off, x, rfl, hb, hx, x0, x1, x2⟩ := h1.du hlt
      obtain ⟨o1, o2, o3⟩ := okDu_facts (hd x (List.mem_of_getElem? hx))
      have ip : I64 x.parcel := by unfold I64; omega
      have iq : I64 x.party := by unfold I64; omega
      have hha := hbk.hasAbs x.party x.parcel
      have hhas := hbk.has (x.parcel, x.party)
      have hcw := (hch.below' hB).alloc (.cells #[.int .i64 x.party, .int .i64 x.parcel, .int .i64 x.amount] 41)
      have hrow1 := hrow.alloc (.cells #[.int .i64 x.party, .int .i64 x.parcel, .int .i64 x.amount] 41)
      have HBa := Lib.hid (hB.alloc hB.size (.cells #[.int .i64 x.party, .int .i64 x.parcel, .int .i64 x.amount] 41))
      have e3 := du3_new wr x 41
      have hfz : (wr.alloc (.cells #[.int .i64 x.party, .int .i64 x.parcel, .int .i64 x.amount] 41)).frozen? ⟨wr.heap.size, 2, none⟩ = false := by simp
      have Hsn := Lib.hid (take_succ_snoc hx)
      have Hrl := Lib.hid hrow.lt
      have hwW : wr.heap.size < (wr.alloc (.cells #[.int .i64 x.party, .int .i64 x.parcel, .int .i64 x.amount] 41)).heap.size := by simp
      have hkl : (openL xs (d.take k)).length ≤ k := Nat.le_trans (List.length_filterMap_le _ _) (by rw [List.length_take]; omega)
      have h1s := hB.size
      clear hx hrow h hd
      go_wp2_with fail
      generalize wr.alloc (.cells #[.int .i64 x.party, .int .i64 x.parcel, .int .i64 x.amount] 41) = W at *
      obtain ⟨e0, e1, e2⟩ := e3
      obtain ⟨c0, c1, c2, c3, c4, c5, c6⟩ := hcw.cs
      have f0 : ∀ p : Later W, p.w.cell? ⟨wr.heap.size, 0, none⟩ = some (.int .i64 x.party) := fun p => p.cell e0
      have f1 : ∀ p : Later W, p.w.cell? ⟨wr.heap.size, 1, none⟩ = some (.int .i64 x.parcel) := fun p => p.cell e1
      have f2 : ∀ p : Later W, p.w.cell? ⟨wr.heap.size, 2, none⟩ = some (.int .i64 x.amount) := fun p => p.cell e2
      have f3 : ∀ p : Later W, p.w.cell? ⟨L.c, 5, none⟩ = some (.map (some L.has)) := fun p => p.cell c5
      have f4 : ∀ p : Later W, (Instr.lookup 74 (.map (some L.has)) (.agg #[.int .i64 x.parcel, .int .i64 x.party]) false).run Tryz.prog p.w = .ok (.int .i64 (hasL xs x.party x.parcel)) p.w := fun p => by
        rw [look_acc (hcw.below' p.hB).has ip iq, hhas]
      have hwrap : IntKind.i64.wrap (x.amount - hasL xs x.party x.parcel) = x.amount - hasL xs x.party x.parcel := IntWalk.i64_in _ (by omega)
      have Hrow1 := Lib.hid hrow1
      have Hfz := Lib.hid hfz
      have HE := Lib.hid (And.intro e0 (And.intro e1 e2))
      clear hrow1 hcw hhas hbk hch c0 c1 c2 c3 c4 c5 c6 hfz e0 e1 e2
      refine wp_region_later (by kernel_rfl) (by kernel_rfl) ?_
      repeat (go_big_quiet_step ((go_at_call 46; exact Calls.later_of (of_any x _))))
      refine wpQuiet_nil ?_
      intro wq hw'
      obtain ⟨pq, hpq⟩ := hw'
      have hBq := pq.hB
      have g0 := f0 pq
      have g1 := f1 pq
      have g2 := f2 pq
      rw [← hpq] at hBq g0 g1 g2
      clear hpq pq
      have HBq := Lib.hid (below_then HBa.out hBq (Nat.le_refl _))
      have Hrow2 := Lib.hid (own_later Hrow1.out hBq)
      have gf : wq.frozen? ⟨wr.heap.size, 2, none⟩ = false := (hBq.frozen (p := ⟨wr.heap.size, 2, none⟩) hwW).trans Hfz.out
      have gz : wr.heap.size < wq.heap.size := Nat.lt_of_lt_of_le hwW hBq.size
      clear f0 f1 f2 f3 f4 hBq hwrap
      obtain ⟨nn, hnn⟩ : ∃ nn, nn = x.amount - hasL xs x.party x.parcel := ⟨_, rfl⟩
      rw [← hnn]
      have hn1 : -1000000000000 ≤ nn ∧ nn ≤ 1000000000000 := by omega
      by_cases hpos : 0 < nn
      · have Hst := Lib.hid (show openL xs (d.take (k + 1)) = openL xs (d.take k) ++ [⟨x.party, x.parcel, nn⟩] by
          rw [Hsn.out]; exact fm_snoc_some (by unfold openStep; rw [← hnn, if_pos hpos]))
        have Hnew := heap_alloc_new (wq.setCell ⟨wr.heap.size, 2, none⟩ (.int .i64 nn)) (.cells #[.int .i64 x.party, .int .i64 x.parcel, .int .i64 nn] 41)
        rw [show (wq.setCell ⟨wr.heap.size, 2, none⟩ (.int .i64 nn)).heap.size = wq.heap.size by simp] at Hnew
        have HNew := Lib.hid Hnew
        clear Hnew hnn hha
        go_wp2_with (at_builtin; refine wpList_append_own _ rfl _ _ 42 rfl w.heap.size 41 i0 _ 3 24 Tryz.underlying42 hi hz0 hz1 hz2 rfl (by decide) _ _ _ rfl ((own_aside Hrow2.out (fun e => by have := (Hrl.out _ e).2; omega)).alloc _) ⟨wq.heap.size, 0, none⟩ 1 1 (Du.vals ⟨x.party, x.parcel, nn⟩) rfl rfl (World.news_of_block (cs := #[.int .i64 x.party, .int .i64 x.parcel, .int .i64 nn]) (t := 41) (fr := (0, 0)) HNew.out) (by simp [Du.vals, Value.oneCell']) (by unfold maxLen; omega) (by omega) (by have := HBq.out.size; simp; omega) ?_; intro v' w3 hown' hgrow _)
        have HO := Lib.hid hown'
        have HGr := Lib.hid (HBq.out.setCell (p := ⟨wr.heap.size, 2, none⟩) (show w.heap.size ≤ wr.heap.size from h1s) (.int .i64 nn) |>.alloc (by have := HBq.out.size; simp; omega) _ |>.grown hgrow (by have := HBq.out.size; simp; omega) (fun j e => (Hrl.out j e).1))
        clear hown' hgrow
        go_wp2_with fail
        refine ⟨⟨k + 1, by omega, by go_num, ?_, HGr.out⟩, by simp [intOf]; omega⟩
        have := HO.out
        rw [Hst.out, List.length_append, List.flatMap_append]
        simpa using this
      · have Hst := Lib.hid (show openL xs (d.take (k + 1)) = openL xs (d.take k) by
          rw [Hsn.out]; exact fm_snoc_none (by unfold openStep; rw [← hnn, if_neg hpos]))
        clear hnn hha
        go_wp2_with fail
        exact ⟨⟨k + 1, by omega, by go_num, by rw [Hst.out]; exact Hrow2.out, HBq.out⟩, by simp [intOf]; omega⟩
    · have HB := Lib.hid hB
      have HR := Lib.hid hrow
      clear hB hrow
      go_wp2_with fail
      go_ret
      have hr := HR.out
      rw [List.take_of_length_le (by rw [Hl.out]; omega)] at hr
      exact ⟨_, rfl, hr, HB.out⟩
end Go.Proofs.YtjleembfocghlaaGreatDoor
