/- PurseMemory returns true: results are new memory, what is given stays as it is. -/
import Derived.Test.YtacpjmgnddpbiaaCopies
set_option linter.unusedSimpArgs false
set_option linter.unusedVariables false
namespace Go.Proofs.Ytacpjmgnddpbiaa
open Go.RowKit Go.Shelf

theorem OwnPo.keep {w w' : World} {base B : Nat} {S : Nat → Prop} {a : Option Addr} {n cap : Nat} {ys : List Po} (h : OwnPo w base a n cap ys) (hk : KeepB B S w w') (hS : ∀ q, a = some q → q.block < B ∧ ¬ S q.block) : OwnPo w' base a n cap ys :=
  ⟨hk.rd h.rd (fun q e _ => hS q e), h.hc, h.hz, fun q e => by
    obtain ⟨g, cs, he, hb, hg, hs⟩ := h.blk q e
    have := hS q e
    rw [he] at this
    exact ⟨g, cs, he, hb, (hk.block g this.1 this.2).trans hg, hs⟩⟩
def setL (xs : List Po) (d : List Du) (c : List Ca) (h : Int) : List Po := if settleE xs d c h = 0 then (settleSt xs d c h).out else []
theorem AppendPost.own {w w' : World} {xs : List Po} {p : Po} {e : Ending} (h : AppendPost w xs p e w') :
    Below w.heap.size w w' ∧ ∃ a n c, e = .returned (.tuple #[.slice a n c, .int .i64 (appE xs p)]) ∧ OwnPo w' w.heap.size a n c (appL xs p) := by
  obtain ⟨hB, ⟨hc, rfl⟩ | ⟨hc, hr, rfl⟩ | ⟨hc, hr, v, rfl, hrow⟩⟩ := h
  · have h1 : appE xs p = (checkL xs).2 := by unfold appE; rw [if_neg hc]
    have h2 : appL xs p = [] := by unfold appL; rw [h1, if_neg hc]
    exact ⟨hB, none, 0, 0, by rw [h1], by rw [h2]; exact ⟨Rd.empty _ _, Nat.le_refl _, fun _ => rfl, fun q e => by cases e⟩⟩
  · have h1 : appE xs p = refusedL xs p := by unfold appE; rw [if_pos hc]
    have h2 : appL xs p = [] := by unfold appL; rw [h1, if_neg hr]
    exact ⟨hB, none, 0, 0, by rw [h1], by rw [h2]; exact ⟨Rd.empty _ _, Nat.le_refl _, fun _ => rfl, fun q e => by cases e⟩⟩
  · have h1 : appE xs p = 0 := by unfold appE; rw [if_pos hc]; exact hr
    have h2 : appL xs p = xs ++ [p] := by unfold appL; rw [if_pos h1]
    have hl := refusedL_len hr
    obtain ⟨a, c, rfl, ho⟩ := OwnPo.of_own hrow (by simp) (by unfold maxLen; omega)
    exact ⟨hB, a, _, c, by rw [h1], by rw [h2]; exact ho⟩
theorem SettlePost.own {w w' : World} {xs : List Po} {d : List Du} {c : List Ca} {h : Int} {e : Ending} (hp : SettlePost w xs d c h e w') :
    Below w.heap.size w w' ∧ ∃ a n cap, e = .returned (.tuple #[.slice a n cap, .int .i64 (settleE xs d c h)]) ∧ OwnPo w' w.heap.size a n cap (setL xs d c h) ∧ n ≤ 400 := by
  obtain ⟨hB, ⟨hc, rfl⟩ | ⟨hc, v, rfl, hrow⟩⟩ := hp
  · have h2 : setL xs d c h = [] := by unfold setL; rw [if_neg hc]
    exact ⟨hB, none, 0, 0, rfl, by rw [h2]; exact ⟨Rd.empty _ _, Nat.le_refl _, fun _ => rfl, fun q e => by cases e⟩, by omega⟩
  · have h2 : setL xs d c h = (settleSt xs d c h).out := by unfold setL; rw [if_pos hc]
    have hl : (settleSt xs d c h).out.length ≤ 400 := by
      refine Classical.byContradiction fun hn => ?_
      unfold settleE at hc
      by_cases h1 : preE xs d c h = 0
      · rw [if_neg (by simp [h1]), if_pos (.inl (by omega))] at hc; omega
      · rw [if_pos h1] at hc; exact h1 hc
    obtain ⟨a, cap, rfl, ho⟩ := OwnPo.of_own hrow rfl (by unfold maxLen; omega)
    exact ⟨hB, a, _, cap, by rw [hc], by rw [h2]; exact ho, hl⟩

theorem Rd.blt {α : Type} {E : α → List Value} {k n : Nat} {w : World} {a : Option Addr} {xs : List α} (h : Rd E k w a n xs) : ∀ q, a = some q → 0 < n → q.block < w.heap.size := fun q e hn => by
  obtain ⟨b, off, x, he, hb, _⟩ := h.read 0 hn
  rw [e] at he; cases he; exact hb
theorem Rd.below0 {α : Type} {E : α → List Value} {k n B : Nat} {w w' : World} {a : Option Addr} {xs : List α} (h : Rd E k w a n xs) (hb : Below B w w') (hB : ∀ q, a = some q → 0 < n → q.block < B) : Rd E k w' a n xs :=
  ⟨h.len, h.cap, fun i hi => by
    obtain ⟨b, off, x, rfl, hlt, hx, hc⟩ := h.read i hi
    exact ⟨b, off, x, rfl, Nat.lt_of_lt_of_le hlt hb.size, hx, fun j hj => (hb.cell (p := ⟨b, off + i * k + j, none⟩) (hB ⟨b, off, none⟩ rfl (by omega))).trans (hc j hj)⟩⟩
theorem zap_one {w0 w : World} {S : Nat → Prop} {b n : Nat} {T : TypeId} (i : Nat) (v : Value) (hS : S b) (h : KeepB w0.heap.size S w0 w ∧ ∃ cs : Array Value, w.heap[b]? = some (.cells cs T (0, 0)) ∧ n ≤ cs.size) :
    KeepB w0.heap.size S w0 (w.setCell ⟨b, i, none⟩ v) ∧ ∃ cs : Array Value, (w.setCell ⟨b, i, none⟩ v).heap[b]? = some (.cells cs T (0, 0)) ∧ n ≤ cs.size := by
  obtain ⟨h1, cs, hg, hs⟩ := h
  obtain ⟨cs', hg', hs'⟩ := set_block hg i v
  exact ⟨h1.trans (KeepB.of_grown (grownBy_setCell'' _ _ _ _) (fun k e => by cases e; exact .inl hS) h1.size), cs', hg', by omega⟩

set_option maxRecDepth 100000 in
set_option maxHeartbeats 8000000 in
theorem law_memory (a : Option Addr) (n cap : Nat) (xs : List Po) (p : Po) (a' : Option Addr) (n' cap' : Nat) (d : List Du) (a'' : Option Addr) (n'' cap'' : Nat) (c : List Ca) (hour : Int) (w : World)
    (h : Rd Po.vals 8 w a n xs) (hw : ∀ p ∈ xs, p.Wf) (hcap : n ≤ cap) (hz : a = none → cap = 0) (hp : p.Wf) (h' : Rd Du.vals 3 w a' n' d) (_ : n' ≤ cap') (_ : a' = none → cap' = 0) (h'' : Rd Ca.vals 3 w a'' n'' c) (_ : n'' ≤ cap'') (_ : a'' = none → cap'' = 0) (_ : I64 hour) :
    Calls Try.prog 6 #[.slice a n cap, .agg #[.int .i64 p.id, .int .i64 p.hour, .int .u8 p.kind, .int .i64 p.party, .int .i64 p.parcel, .int .i64 p.amount, .int .i64 p.reason, .int .i64 p.known], .slice a' n' cap', .slice a'' n'' cap'', .int .i64 hour] w fun e w' => e = .returned (.bool true) ∧ Below w.heap.size w w' := by
  have hb0 := (Below.refl w.heap.size w).alloc (Nat.le_refl _) (.cells #[.int .i64 p.id, .int .i64 p.hour, .int .u8 p.kind, .int .i64 p.party, .int .i64 p.parcel, .int .i64 p.amount, .int .i64 p.reason, .int .i64 p.known] 24)
  have Hb0 := Lib.hid hb0
  have H1 := Lib.hid (h.below' hb0)
  have H1' := Lib.hid (h'.below' hb0)
  have H1'' := Lib.hid (h''.below' hb0)
  have Hbx := Lib.hid (BoxPo.made w p 24)
  have Hw := Lib.hid hw
  have Hp := Lib.hid hp
  have Hz := Lib.hid hz
  have Hl0 := Lib.hid h.blt
  have Hl1 := Lib.hid h'.blt
  have Hl2 := Lib.hid h''.blt
  clear hb0 h h' h'' hw hp hz
  obtain ⟨i0, hi0, hz0, hz1, hz2⟩ := info_parts info_po
  go_enter Try.func6, Try.ntmps6
  go_upto_region 1 with (fail)
  generalize w.alloc (.cells #[.int .i64 p.id, .int .i64 p.hour, .int .u8 p.kind, .int .i64 p.party, .int .i64 p.parcel, .int .i64 p.amount, .int .i64 p.reason, .int .i64 p.known] 24) = w0 at *
  go_wp2_with fail
  refine (few_any a n cap a' n' cap' a'' n'' cap'' _).mono ?_
  rintro e wf ⟨rfl, rfl⟩
  by_cases hf : fewB n n' n''
  · have hd : decide (fewB n n' n'') = true := by simp [hf]
    rw [hd]
    obtain ⟨f1, f2, f3⟩ := hf
    clear hd
    go_upto_region 3 with (fail)
    go_upto_region 4 with (at_builtin; refine wpList_append_copy _ rfl _ _ 22 rfl wf.heap.size 24 i0 _ 64 Try.underlying22 hi0 hz0 hz1 hz2 rfl (.slice (some ⟨wf.heap.size, 0, none⟩) 0 0) rfl (ownsRow_made' wf (Nat.le_refl _) rfl) a n cap xs rfl (H1.out.below' ((Below.refl _ wf).alloc (Nat.le_refl _) _)) Hz.out (by omega) (by omega) (by simp) ?_; intro v1 w1 hown1 hgrow1)
    obtain ⟨wa, wc, rfl, ho1⟩ := OwnPo.of_own hown1 H1.out.len (by unfold maxLen; omega)
    have hBf := ((Below.refl wf.heap.size wf).alloc (Nat.le_refl _) (.cells #[] 24)).grown hgrow1 (by simp) (fun k e => by simp [Value.ownBlock] at e; omega)
    have HW1 := Lib.hid ho1
    have HlW := Lib.hid (show ∀ q, wa = some q → q.block < w1.heap.size from fun q e => (ho1.lt q e).2)
    have H2 := Lib.hid (H1.out.below' hBf)
    have H2' := Lib.hid (H1'.out.below' hBf)
    have H2'' := Lib.hid (H1''.out.below' hBf)
    have hbx2 := Hbx.out.below' hBf
    have HB1 := Lib.hid (below_then Hb0.out hBf (Nat.le_refl _))
    clear hown1 hgrow1 ho1 hBf H1 H1' H1'' Hbx Hb0
    obtain ⟨q0, q1, q2, q3, q4, q5, q6, q7⟩ := hbx2.cells
    have hs01 : w.heap.size < w1.heap.size := hbx2.1
    go_wp2_with fail
    refine (append_any a n cap xs p _ H2.out Hw.out Hp.out).mono ?_
    rintro e w2 hap
    obtain ⟨hB, aa, an, ac, rfl, ho2⟩ := hap.own
    have HA := Lib.hid ho2
    have HlA := Lib.hid (show ∀ q, aa = some q → w1.heap.size ≤ q.block ∧ q.block < w2.heap.size from fun q e => ho2.lt q e)
    have HW2 := Lib.hid (HW1.out.later hB)
    have H3 := Lib.hid (H2.out.below' hB)
    have H3' := Lib.hid (H2'.out.below' hB)
    have H3'' := Lib.hid (H2''.out.below' hB)
    have Hbx3 := Lib.hid (hbx2.below' hB)
    have HB2 := Lib.hid (below_then HB1.out hB (Nat.le_refl _))
    have hs12 := hB.size
    clear hap ho2 hB hbx2 H2 H2' H2'' HW1 HB1 q0 q1 q2 q3 q4 q5 q6 q7
    go_wp2_with fail
    refine (settle_any a n cap xs a' n' cap' d a'' n'' cap'' c hour _ H3.out Hw.out H3'.out H3''.out).mono ?_
    rintro e w3 hap
    obtain ⟨hB, sa, sn, sc, rfl, ho3, hsn⟩ := hap.own
    have HS := Lib.hid ho3
    have HlS := Lib.hid (show ∀ q, sa = some q → w2.heap.size ≤ q.block ∧ q.block < w3.heap.size from fun q e => ho3.lt q e)
    have HA3 := Lib.hid (HA.out.later hB)
    have HW3 := Lib.hid (HW2.out.later hB)
    have H4 := Lib.hid (H3.out.below' hB)
    have H4' := Lib.hid (H3'.out.below' hB)
    have H4'' := Lib.hid (H3''.out.below' hB)
    have Hbx4 := Lib.hid (Hbx3.out.below' hB)
    have HB3 := Lib.hid (below_then HB2.out hB (Nat.le_refl _))
    have hs23 := hB.size
    clear hap ho3 hB Hbx3 H3 H3' H3'' HW2 HB2 HA
    go_wp2_with fail
    refine (upto_any a n cap xs hour _ H4.out (by omega) Hw.out).mono ?_
    rintro e w4 ⟨v, rfl, hrow, hB⟩
    have hul : (uptoL xs hour).length ≤ 24 := by
      unfold uptoL someL
      have hl := H4.out.len
      split
      · exact Nat.le_trans (List.length_filter_le _ _) (by omega)
      · simp
    obtain ⟨un, hun⟩ : ∃ un, (uptoL xs hour).length = un := ⟨_, rfl⟩
    rw [hun] at hrow hul
    obtain ⟨ua, uc, rfl, ho4⟩ := OwnPo.of_own hrow hun (by unfold maxLen; omega)
    have Hun := Lib.hid hun
    clear hun
    have HU := Lib.hid ho4
    have HlU := Lib.hid (show ∀ q, ua = some q → w3.heap.size ≤ q.block ∧ q.block < w4.heap.size from fun q e => ho4.lt q e)
    have HS4 := Lib.hid (HS.out.later hB)
    have HA4 := Lib.hid (HA3.out.later hB)
    have HW4 := Lib.hid (HW3.out.later hB)
    have H5 := Lib.hid (H4.out.below' hB)
    have H5' := Lib.hid (H4'.out.below' hB)
    have H5'' := Lib.hid (H4''.out.below' hB)
    have Hbx5 := Lib.hid (Hbx4.out.below' hB)
    have HB4 := Lib.hid (below_then HB3.out hB (Nat.le_refl _))
    have hs34 := hB.size
    clear hrow ho4 hB Hbx4 H4 H4' H4'' HW3 HB3 HA3 HS
    go_upto_region 7 with (fail)
    have han : an ≤ 1000 := by
      have h1 := HA4.out.rd.len
      have h2 : (appL xs p).length ≤ xs.length + 1 := by unfold appL; split <;> simp
      have h3 := H5.out.len
      omega
    have hun : un ≤ 1000 := by omega
    have hsn' : sn ≤ 1000 := by omega
    go_upto_region 8 with (at_builtin; refine wpList_append_copy _ rfl _ _ 22 rfl w4.heap.size 24 i0 _ 64 Try.underlying22 hi0 hz0 hz1 hz2 rfl (.slice (some ⟨w4.heap.size, 0, none⟩) 0 0) rfl (ownsRow_made' w4 (Nat.le_refl _) rfl) aa an ac (appL xs p) rfl (HA4.out.rd.below' ((Below.refl _ w4).alloc (Nat.le_refl _) _)) HA4.out.hz (by omega) (by omega) (by simp) ?_; intro v5 w5 hown hgrow)
    obtain ⟨xa, xc, rfl, ho⟩ := OwnPo.of_own hown HA4.out.rd.len (by unfold maxLen; omega)
    have hB := ((Below.refl w4.heap.size w4).alloc (Nat.le_refl _) (.cells #[] 24)).grown hgrow (by simp) (fun k e => by simp [Value.ownBlock] at e; omega)
    have HX5 := Lib.hid ho
    have HA5 := Lib.hid (HA4.out.later hB)
    have HS5 := Lib.hid (HS4.out.later hB)
    have HU5 := Lib.hid (HU.out.later hB)
    have HW5 := Lib.hid (HW4.out.later hB)
    have H6 := Lib.hid (H5.out.below' hB)
    have H6' := Lib.hid (H5'.out.below' hB)
    have H6'' := Lib.hid (H5''.out.below' hB)
    have Hbx6 := Lib.hid (Hbx5.out.below' hB)
    have HB5 := Lib.hid (below_then HB4.out hB (Nat.le_refl _))
    have hs45 := hB.size
    clear hown hgrow ho hB HA4 HS4 HU HW4  H5 H5' H5'' Hbx5 HB4
    go_upto_region 9 with (at_builtin; refine wpList_append_copy _ rfl _ _ 22 rfl w5.heap.size 24 i0 _ 64 Try.underlying22 hi0 hz0 hz1 hz2 rfl (.slice (some ⟨w5.heap.size, 0, none⟩) 0 0) rfl (ownsRow_made' w5 (Nat.le_refl _) rfl) sa sn sc (setL xs d c hour) rfl (HS5.out.rd.below' ((Below.refl _ w5).alloc (Nat.le_refl _) _)) HS5.out.hz (by omega) (by omega) (by simp) ?_; intro v6 w6 hown hgrow)
    obtain ⟨ya, yc, rfl, ho⟩ := OwnPo.of_own hown HS5.out.rd.len (by unfold maxLen; omega)
    have hB := ((Below.refl w5.heap.size w5).alloc (Nat.le_refl _) (.cells #[] 24)).grown hgrow (by simp) (fun k e => by simp [Value.ownBlock] at e; omega)
    have HY6 := Lib.hid ho
    have HA6 := Lib.hid (HA5.out.later hB)
    have HS6 := Lib.hid (HS5.out.later hB)
    have HU6 := Lib.hid (HU5.out.later hB)
    have HW6 := Lib.hid (HW5.out.later hB)
    have HX6 := Lib.hid (HX5.out.later hB)
    have H7 := Lib.hid (H6.out.below' hB)
    have H7' := Lib.hid (H6'.out.below' hB)
    have H7'' := Lib.hid (H6''.out.below' hB)
    have Hbx7 := Lib.hid (Hbx6.out.below' hB)
    have HB6 := Lib.hid (below_then HB5.out hB (Nat.le_refl _))
    have hs56 := hB.size
    clear hown hgrow ho hB HA5 HS5 HU5 HW5 HX5 H6 H6' H6'' Hbx6 HB5
    go_upto_region 10 with (at_builtin; refine wpList_append_copy _ rfl _ _ 22 rfl w6.heap.size 24 i0 _ 64 Try.underlying22 hi0 hz0 hz1 hz2 rfl (.slice (some ⟨w6.heap.size, 0, none⟩) 0 0) rfl (ownsRow_made' w6 (Nat.le_refl _) rfl) ua _ uc (uptoL xs hour) rfl (HU6.out.rd.below' ((Below.refl _ w6).alloc (Nat.le_refl _) _)) HU6.out.hz (by omega) (by omega) (by simp) ?_; intro v7 w7 hown hgrow)
    obtain ⟨za, zc, rfl, ho⟩ := OwnPo.of_own hown HU6.out.rd.len (by unfold maxLen; omega)
    have hB := ((Below.refl w6.heap.size w6).alloc (Nat.le_refl _) (.cells #[] 24)).grown hgrow (by simp) (fun k e => by simp [Value.ownBlock] at e; omega)
    have HZ7 := Lib.hid ho
    have HA7 := Lib.hid (HA6.out.later hB)
    have HS7 := Lib.hid (HS6.out.later hB)
    have HU7 := Lib.hid (HU6.out.later hB)
    have HW7 := Lib.hid (HW6.out.later hB)
    have HX7 := Lib.hid (HX6.out.later hB)
    have HY7 := Lib.hid (HY6.out.later hB)
    have H8 := Lib.hid (H7.out.below' hB)
    have H8' := Lib.hid (H7'.out.below' hB)
    have H8'' := Lib.hid (H7''.out.below' hB)
    have Hbx8 := Lib.hid (Hbx7.out.below' hB)
    have HB7 := Lib.hid (below_then HB6.out hB (Nat.le_refl _))
    have hs67 := hB.size
    clear hown hgrow ho hB HA6 HS6 HU6 HW6 HX6 HY6 H7 H7' H7'' Hbx7 HB6
    go_upto_region 11 with (fail)
    go_loopw [20] (fun i wr => ∃ k : Nat, k ≤ an ∧ i = .int .i64 k ∧ KeepB w7.heap.size (fun b => ∃ q, aa = some q ∧ q.block = b) w7 wr ∧ (∀ q, aa = some q → ∃ (g : Nat) (cs : Array Value), q = ⟨g, 0, none⟩ ∧ wr.heap[g]? = some (.cells cs 24 (0, 0)) ∧ an * 8 ≤ cs.size)) (fun i _ => an - (intOf i).toNat)
    case atStart =>
      refine ⟨0, Nat.zero_le _, rfl, KeepB.refl _ _ _, fun q e => ?_⟩
      obtain ⟨g, cs, he, _, hg, hs⟩ := HA7.out.blk q e
      exact ⟨g, cs, he, hg, hs⟩
    case round =>
      obtain ⟨k, hk, rfl, hkb, hblk⟩ := hrel
      by_cases hlt : k < an
      · have hlt' : (k : Int) < (an : Int) := by omega
        obtain ⟨b, off, q0, haa, _⟩ := HA7.out.rd.po hlt
        subst haa
        obtain ⟨g, cs, he, hg, hs⟩ := hblk _ rfl
        cases he
        have hcl : ∀ j, j < 8 → ∃ u, wr.cell? ⟨b, k * 8 + j, none⟩ = some u := fun j hj => ⟨cs[k * 8 + j]'(by omega), by rw [cell_of_row _ _ _ _ _ (0, 0) hg]; exact Array.getElem?_eq_getElem _⟩
        obtain ⟨u0, c0⟩ := hcl 0 (by omega)
        obtain ⟨u1, c1⟩ := hcl 1 (by omega)
        obtain ⟨u2, c2⟩ := hcl 2 (by omega)
        obtain ⟨u3, c3⟩ := hcl 3 (by omega)
        obtain ⟨u4, c4⟩ := hcl 4 (by omega)
        obtain ⟨u5, c5⟩ := hcl 5 (by omega)
        obtain ⟨u6, c6⟩ := hcl 6 (by omega)
        obtain ⟨u7, c7⟩ := hcl 7 (by omega)
        have hfz := Blk0.frozen hg
        have z0 := hfz (k * 8)
        have z1 := hfz (k * 8 + 1)
        have z2 := hfz (k * 8 + 2)
        have z3 := hfz (k * 8 + 3)
        have z4 := hfz (k * 8 + 4)
        have z5 := hfz (k * 8 + 5)
        have z6 := hfz (k * 8 + 6)
        have z7 := hfz (k * 8 + 7)
        simp only [Nat.add_zero] at c0
        have Hkb := Lib.hid hkb
        have Hg := Lib.hid hg
        have Hs := Lib.hid hs
        clear hfz hcl hblk hkb hg hs
        go_wp2_with fail
        obtain ⟨r1, cs', r2, r3⟩ := zap_one (k * 8 + 7) (.int .i64 0) ⟨_, rfl, rfl⟩ (zap_one (k * 8 + 6) (.int .i64 0) ⟨_, rfl, rfl⟩ (zap_one (k * 8 + 5) (.int .i64 0) ⟨_, rfl, rfl⟩ (zap_one (k * 8 + 4) (.int .i64 0) ⟨_, rfl, rfl⟩ (zap_one (k * 8 + 3) (.int .i64 0) ⟨_, rfl, rfl⟩ (zap_one (k * 8 + 2) (.int .u8 0) ⟨_, rfl, rfl⟩ (zap_one (k * 8 + 1) (.int .i64 0) ⟨_, rfl, rfl⟩ (zap_one (n := an * 8) (k * 8) (.int .i64 (-7)) ⟨_, rfl, rfl⟩ ⟨Hkb.out, cs, Hg.out, Hs.out⟩)))))))
        exact ⟨⟨k + 1, by omega, by go_num, r1, fun q e => by cases e; exact ⟨b, cs', rfl, r2, r3⟩⟩, by simp [intOf]; omega⟩
      · have hlt' : ¬ (k : Int) < (an : Int) := by omega
        obtain ⟨w8, rfl⟩ : ∃ w8 : World, w8 = wr := ⟨_, rfl⟩
        have hbk := hkb.below (C := w1.heap.size) (by omega) (fun b e => by obtain ⟨q, e1, e2⟩ := e; have := HlA.out q e1; omega)
        have HS8 := Lib.hid (HS7.out.keep hkb (fun q e => ⟨(HS7.out.lt q e).2, fun e' => by obtain ⟨q', e1, e2⟩ := e'; have h1 := HlS.out q e; have h2 := HlA.out q' e1; omega⟩))
        have HU8 := Lib.hid (HU7.out.keep hkb (fun q e => ⟨(HU7.out.lt q e).2, fun e' => by obtain ⟨q', e1, e2⟩ := e'; have h1 := HlU.out q e; have h2 := HlA.out q' e1; omega⟩))
        have HX8 := Lib.hid (HX7.out.keep hkb (fun q e => ⟨(HX7.out.lt q e).2, fun e' => by obtain ⟨q', e1, e2⟩ := e'; have h1 := HX7.out.lt q e; have h2 := HlA.out q' e1; omega⟩))
        have HY8 := Lib.hid (HY7.out.keep hkb (fun q e => ⟨(HY7.out.lt q e).2, fun e' => by obtain ⟨q', e1, e2⟩ := e'; have h1 := HY7.out.lt q e; have h2 := HlA.out q' e1; omega⟩))
        have HZ8 := Lib.hid (HZ7.out.keep hkb (fun q e => ⟨(HZ7.out.lt q e).2, fun e' => by obtain ⟨q', e1, e2⟩ := e'; have h1 := HZ7.out.lt q e; have h2 := HlA.out q' e1; omega⟩))
        have HW8 := Lib.hid (HW7.out.keep hkb (fun q e => ⟨(HW7.out.lt q e).2, fun e' => by obtain ⟨q', e1, e2⟩ := e'; have h1 := HlW.out q e; have h2 := HlA.out q' e1; omega⟩))
        have Hbk8 := Lib.hid hbk
        have hsz8 := hkb.size
        clear hkb hblk hbk HS7 HU7 HX7 HY7 HZ7 HW7 HA7
        go_upto_region 15 with (fail)
        go_loopw [21] (fun i wr => ∃ k : Nat, k ≤ sn ∧ i = .int .i64 k ∧ KeepB w8.heap.size (fun b => ∃ q, sa = some q ∧ q.block = b) w8 wr ∧ (∀ q, sa = some q → ∃ (g : Nat) (cs : Array Value), q = ⟨g, 0, none⟩ ∧ wr.heap[g]? = some (.cells cs 24 (0, 0)) ∧ sn * 8 ≤ cs.size)) (fun i _ => sn - (intOf i).toNat)
        case atStart =>
          refine ⟨0, Nat.zero_le _, rfl, KeepB.refl _ _ _, fun q e => ?_⟩
          obtain ⟨g, cs, he, _, hg, hs⟩ := HS8.out.blk q e
          exact ⟨g, cs, he, hg, hs⟩
        case round =>
          obtain ⟨k, hk, rfl, hkb, hblk⟩ := hrel
          by_cases hlt : k < sn
          · have hlt' : (k : Int) < (sn : Int) := by omega
            obtain ⟨b, off, q0, haa, _⟩ := HS8.out.rd.po hlt
            subst haa
            obtain ⟨g, cs, he, hg, hs⟩ := hblk _ rfl
            cases he
            have hcl : ∀ j, j < 8 → ∃ u, wr.cell? ⟨b, k * 8 + j, none⟩ = some u := fun j hj => ⟨cs[k * 8 + j]'(by omega), by rw [cell_of_row _ _ _ _ _ (0, 0) hg]; exact Array.getElem?_eq_getElem _⟩
            obtain ⟨u0, c0⟩ := hcl 0 (by omega)
            obtain ⟨u1, c1⟩ := hcl 1 (by omega)
            obtain ⟨u2, c2⟩ := hcl 2 (by omega)
            obtain ⟨u3, c3⟩ := hcl 3 (by omega)
            obtain ⟨u4, c4⟩ := hcl 4 (by omega)
            obtain ⟨u5, c5⟩ := hcl 5 (by omega)
            obtain ⟨u6, c6⟩ := hcl 6 (by omega)
            obtain ⟨u7, c7⟩ := hcl 7 (by omega)
            have hfz := Blk0.frozen hg
            have z0 := hfz (k * 8)
            have z1 := hfz (k * 8 + 1)
            have z2 := hfz (k * 8 + 2)
            have z3 := hfz (k * 8 + 3)
            have z4 := hfz (k * 8 + 4)
            have z5 := hfz (k * 8 + 5)
            have z6 := hfz (k * 8 + 6)
            have z7 := hfz (k * 8 + 7)
            simp only [Nat.add_zero] at c0
            have Hkb := Lib.hid hkb
            have Hg := Lib.hid hg
            have Hs := Lib.hid hs
            clear hfz hcl hblk hkb hg hs
            go_wp2_with fail
            obtain ⟨r1, cs', r2, r3⟩ := zap_one (k * 8 + 7) (.int .i64 0) ⟨_, rfl, rfl⟩ (zap_one (k * 8 + 6) (.int .i64 0) ⟨_, rfl, rfl⟩ (zap_one (k * 8 + 5) (.int .i64 0) ⟨_, rfl, rfl⟩ (zap_one (k * 8 + 4) (.int .i64 0) ⟨_, rfl, rfl⟩ (zap_one (k * 8 + 3) (.int .i64 0) ⟨_, rfl, rfl⟩ (zap_one (k * 8 + 2) (.int .u8 0) ⟨_, rfl, rfl⟩ (zap_one (k * 8 + 1) (.int .i64 0) ⟨_, rfl, rfl⟩ (zap_one (n := sn * 8) (k * 8) (.int .i64 (-7)) ⟨_, rfl, rfl⟩ ⟨Hkb.out, cs, Hg.out, Hs.out⟩)))))))
            exact ⟨⟨k + 1, by omega, by go_num, r1, fun q e => by cases e; exact ⟨b, cs', rfl, r2, r3⟩⟩, by simp [intOf]; omega⟩
          · have hlt' : ¬ (k : Int) < (sn : Int) := by omega
            obtain ⟨w9, rfl⟩ : ∃ w9 : World, w9 = wr := ⟨_, rfl⟩
            have hbk := hkb.below (C := w1.heap.size) (by omega) (fun b e => by obtain ⟨q, e1, e2⟩ := e; have := HlS.out q e1; omega)
            have HU9 := Lib.hid (HU8.out.keep hkb (fun q e => ⟨(HU8.out.lt q e).2, fun e' => by obtain ⟨q', e1, e2⟩ := e'; have h1 := HlU.out q e; have h2 := HlS.out q' e1; omega⟩))
            have HX9 := Lib.hid (HX8.out.keep hkb (fun q e => ⟨(HX8.out.lt q e).2, fun e' => by obtain ⟨q', e1, e2⟩ := e'; have h1 := HX8.out.lt q e; have h2 := HlS.out q' e1; omega⟩))
            have HY9 := Lib.hid (HY8.out.keep hkb (fun q e => ⟨(HY8.out.lt q e).2, fun e' => by obtain ⟨q', e1, e2⟩ := e'; have h1 := HY8.out.lt q e; have h2 := HlS.out q' e1; omega⟩))
            have HZ9 := Lib.hid (HZ8.out.keep hkb (fun q e => ⟨(HZ8.out.lt q e).2, fun e' => by obtain ⟨q', e1, e2⟩ := e'; have h1 := HZ8.out.lt q e; have h2 := HlS.out q' e1; omega⟩))
            have HW9 := Lib.hid (HW8.out.keep hkb (fun q e => ⟨(HW8.out.lt q e).2, fun e' => by obtain ⟨q', e1, e2⟩ := e'; have h1 := HlW.out q e; have h2 := HlS.out q' e1; omega⟩))
            have Hbk9 := Lib.hid (Hbk8.out.trans hbk)
            have hsz9 := hkb.size
            clear hkb hblk hbk HU8 HX8 HY8 HZ8 HW8 Hbk8 HS8
            go_upto_region 19 with (fail)
            go_loopw [22] (fun i wr => ∃ k : Nat, k ≤ un ∧ i = .int .i64 k ∧ KeepB w9.heap.size (fun b => ∃ q, ua = some q ∧ q.block = b) w9 wr ∧ (∀ q, ua = some q → ∃ (g : Nat) (cs : Array Value), q = ⟨g, 0, none⟩ ∧ wr.heap[g]? = some (.cells cs 24 (0, 0)) ∧ un * 8 ≤ cs.size)) (fun i _ => un - (intOf i).toNat)
            case atStart =>
              refine ⟨0, Nat.zero_le _, rfl, KeepB.refl _ _ _, fun q e => ?_⟩
              obtain ⟨g, cs, he, _, hg, hs⟩ := HU9.out.blk q e
              exact ⟨g, cs, he, hg, hs⟩
            case round =>
              obtain ⟨k, hk, rfl, hkb, hblk⟩ := hrel
              by_cases hlt : k < un
              · have hlt' : (k : Int) < (un : Int) := by omega
                obtain ⟨b, off, q0, haa, _⟩ := HU9.out.rd.po hlt
                subst haa
                obtain ⟨g, cs, he, hg, hs⟩ := hblk _ rfl
                cases he
                have hcl : ∀ j, j < 8 → ∃ u, wr.cell? ⟨b, k * 8 + j, none⟩ = some u := fun j hj => ⟨cs[k * 8 + j]'(by omega), by rw [cell_of_row _ _ _ _ _ (0, 0) hg]; exact Array.getElem?_eq_getElem _⟩
                obtain ⟨u0, c0⟩ := hcl 0 (by omega)
                obtain ⟨u1, c1⟩ := hcl 1 (by omega)
                obtain ⟨u2, c2⟩ := hcl 2 (by omega)
                obtain ⟨u3, c3⟩ := hcl 3 (by omega)
                obtain ⟨u4, c4⟩ := hcl 4 (by omega)
                obtain ⟨u5, c5⟩ := hcl 5 (by omega)
                obtain ⟨u6, c6⟩ := hcl 6 (by omega)
                obtain ⟨u7, c7⟩ := hcl 7 (by omega)
                have hfz := Blk0.frozen hg
                have z0 := hfz (k * 8)
                have z1 := hfz (k * 8 + 1)
                have z2 := hfz (k * 8 + 2)
                have z3 := hfz (k * 8 + 3)
                have z4 := hfz (k * 8 + 4)
                have z5 := hfz (k * 8 + 5)
                have z6 := hfz (k * 8 + 6)
                have z7 := hfz (k * 8 + 7)
                simp only [Nat.add_zero] at c0
                have Hkb := Lib.hid hkb
                have Hg := Lib.hid hg
                have Hs := Lib.hid hs
                clear hfz hcl hblk hkb hg hs
                go_wp2_with fail
                obtain ⟨r1, cs', r2, r3⟩ := zap_one (k * 8 + 7) (.int .i64 0) ⟨_, rfl, rfl⟩ (zap_one (k * 8 + 6) (.int .i64 0) ⟨_, rfl, rfl⟩ (zap_one (k * 8 + 5) (.int .i64 0) ⟨_, rfl, rfl⟩ (zap_one (k * 8 + 4) (.int .i64 0) ⟨_, rfl, rfl⟩ (zap_one (k * 8 + 3) (.int .i64 0) ⟨_, rfl, rfl⟩ (zap_one (k * 8 + 2) (.int .u8 0) ⟨_, rfl, rfl⟩ (zap_one (k * 8 + 1) (.int .i64 0) ⟨_, rfl, rfl⟩ (zap_one (n := un * 8) (k * 8) (.int .i64 (-7)) ⟨_, rfl, rfl⟩ ⟨Hkb.out, cs, Hg.out, Hs.out⟩)))))))
                exact ⟨⟨k + 1, by omega, by go_num, r1, fun q e => by cases e; exact ⟨b, cs', rfl, r2, r3⟩⟩, by simp [intOf]; omega⟩
              · have hlt' : ¬ (k : Int) < (un : Int) := by omega
                obtain ⟨w10, rfl⟩ : ∃ w10 : World, w10 = wr := ⟨_, rfl⟩
                have hbk := hkb.below (C := w1.heap.size) (by omega) (fun b e => by obtain ⟨q, e1, e2⟩ := e; have := HlU.out q e1; omega)
                have HX10 := Lib.hid (HX9.out.keep hkb (fun q e => ⟨(HX9.out.lt q e).2, fun e' => by obtain ⟨q', e1, e2⟩ := e'; have h1 := HX9.out.lt q e; have h2 := HlU.out q' e1; omega⟩))
                have HY10 := Lib.hid (HY9.out.keep hkb (fun q e => ⟨(HY9.out.lt q e).2, fun e' => by obtain ⟨q', e1, e2⟩ := e'; have h1 := HY9.out.lt q e; have h2 := HlU.out q' e1; omega⟩))
                have HZ10 := Lib.hid (HZ9.out.keep hkb (fun q e => ⟨(HZ9.out.lt q e).2, fun e' => by obtain ⟨q', e1, e2⟩ := e'; have h1 := HZ9.out.lt q e; have h2 := HlU.out q' e1; omega⟩))
                have HW10 := Lib.hid (HW9.out.keep hkb (fun q e => ⟨(HW9.out.lt q e).2, fun e' => by obtain ⟨q', e1, e2⟩ := e'; have h1 := HlW.out q e; have h2 := HlU.out q' e1; omega⟩))
                have Hbk10 := Lib.hid (Hbk9.out.trans hbk)
                have hsz10 := hkb.size
                clear hkb hblk hbk HX9 HY9 HZ9 HW9 Hbk9 HU9
                go_upto_region 22 with (fail)
                have G1 := Lib.hid (H8.out.below0 Hbk10.out (fun q e hn => Nat.lt_trans (Hl0.out q e hn) hs01))
                have G1' := Lib.hid (H8'.out.below0 Hbk10.out (fun q e hn => Nat.lt_trans (Hl1.out q e hn) hs01))
                have G1'' := Lib.hid (H8''.out.below0 Hbk10.out (fun q e hn => Nat.lt_trans (Hl2.out q e hn) hs01))
                have hbx := Hbx8.out.below Hbk10.out hs01
                have GB := Lib.hid (HB7.out.trans (Hbk10.out.mono (Nat.le_of_lt hs01)))
                clear H8 H8' H8'' Hbx8 HB7 Hbk10 Hl0 Hl1 Hl2
                obtain ⟨q0, q1, q2, q3, q4, q5, q6, q7⟩ := hbx.cells
                go_wp2_with fail
                refine (append_any a n cap xs p _ G1.out Hw.out Hp.out).mono ?_
                rintro e w11 hap
                obtain ⟨hB, ba, bn, bc, rfl, ho⟩ := hap.own
                have KB := Lib.hid ho.rd
                have KW := Lib.hid (HW10.out.rd.below' hB)
                have KX := Lib.hid (HX10.out.rd.below' hB)
                have KY := Lib.hid (HY10.out.rd.below' hB)
                have KZ := Lib.hid (HZ10.out.rd.below' hB)
                have G2 := Lib.hid (G1.out.below' hB)
                have G2' := Lib.hid (G1'.out.below' hB)
                have G2'' := Lib.hid (G1''.out.below' hB)
                have GB2 := Lib.hid (below_then GB.out hB (Nat.le_refl _))
                clear hap hB ho G1 G1' G1'' GB HW10 HX10 HY10 HZ10 hbx q0 q1 q2 q3 q4 q5 q6 q7
                go_wp2_with fail
                refine (settle_any a n cap xs a' n' cap' d a'' n'' cap'' c hour _ G2.out Hw.out G2'.out G2''.out).mono ?_
                rintro e w12 hap
                obtain ⟨hB, ta, tn, tc, rfl, ho, _⟩ := hap.own
                have KT := Lib.hid ho.rd
                have KB2 := Lib.hid (KB.out.below' hB)
                have KW2 := Lib.hid (KW.out.below' hB)
                have KX2 := Lib.hid (KX.out.below' hB)
                have KY2 := Lib.hid (KY.out.below' hB)
                have KZ2 := Lib.hid (KZ.out.below' hB)
                have G3 := Lib.hid (G2.out.below' hB)
                have GB3 := Lib.hid (below_then GB2.out hB (Nat.le_refl _))
                clear hap hB ho G2 G2' G2'' GB2 KB KW KX KY KZ
                go_wp2_with fail
                refine (upto_any a n cap xs hour _ G3.out (by omega) Hw.out).mono ?_
                rintro e w13 ⟨v, rfl, hrow, hB⟩
                rw [Hun.out] at hrow
                obtain ⟨va, vc, rfl, ho⟩ := OwnPo.of_own hrow Hun.out (by unfold maxLen; omega)
                have KV := Lib.hid ho.rd
                have KT3 := Lib.hid (KT.out.below' hB)
                have KB3 := Lib.hid (KB2.out.below' hB)
                have KW3 := Lib.hid (KW2.out.below' hB)
                have KX3 := Lib.hid (KX2.out.below' hB)
                have KY3 := Lib.hid (KY2.out.below' hB)
                have KZ3 := Lib.hid (KZ2.out.below' hB)
                have G4 := Lib.hid (G3.out.below' hB)
                have GB4 := Lib.hid (below_then GB3.out hB (Nat.le_refl _))
                clear hrow hB ho G3 GB3 KB2 KW2 KX2 KY2 KZ2 KT
                go_upto_region 25 with (fail)
                have same_l : ∀ W, Below w13.heap.size w13 W → Calls Try.prog 14 #[.slice a n cap, .slice wa n wc] W fun e w' => e = .returned (.bool true) ∧ Below W.heap.size W w' := fun W hB => by
                  have := samePostings_any a wa n n cap wc _ _ W (G4.out.below' hB) (KW3.out.below' hB); simpa using this
                have same_b : ∀ W, Below w13.heap.size w13 W → Calls Try.prog 14 #[.slice ba bn bc, .slice xa an xc] W fun e w' => e = .returned (.bool true) ∧ Below W.heap.size W w' := fun W hB => by
                  have := samePostings_any ba xa bn an bc xc _ _ W (KB3.out.below' hB) (KX3.out.below' hB); simpa using this
                have same_t : ∀ W, Below w13.heap.size w13 W → Calls Try.prog 14 #[.slice ta tn tc, .slice ya sn yc] W fun e w' => e = .returned (.bool true) ∧ Below W.heap.size W w' := fun W hB => by
                  have := samePostings_any ta ya tn sn tc yc _ _ W (KT3.out.below' hB) (KY3.out.below' hB); simpa using this
                have same_v : ∀ W, Below w13.heap.size w13 W → Calls Try.prog 14 #[.slice va un vc, .slice za un zc] W fun e w' => e = .returned (.bool true) ∧ Below W.heap.size W w' := fun W hB => by
                  have := samePostings_any va za un un vc zc _ _ W (KV.out.below' hB) (KZ3.out.below' hB); simpa using this
                have S1 := Lib.hid same_l
                have S2 := Lib.hid same_b
                have S3 := Lib.hid same_t
                have S4 := Lib.hid same_v
                clear same_l same_b same_t same_v G4 KB3 KW3 KX3 KY3 KZ3 KT3 KV
                go_wp2_with fail
                refine (purses_any _).mono ?_
                rintro e w14 ⟨rfl, hB⟩
                have B14 := Lib.hid hB
                clear hB
                go_wp2_with fail
                refine (S1.out _ B14.out).mono ?_
                rintro e w15 ⟨rfl, hB⟩
                have B15 := Lib.hid (below_then B14.out hB (Nat.le_refl _))
                clear hB
                go_wp2_with fail
                refine (S2.out _ B15.out).mono ?_
                rintro e w16 ⟨rfl, hB⟩
                have B16 := Lib.hid (below_then B15.out hB (Nat.le_refl _))
                clear hB
                go_wp2_with fail
                refine (S3.out _ B16.out).mono ?_
                rintro e w17 ⟨rfl, hB⟩
                have B17 := Lib.hid (below_then B16.out hB (Nat.le_refl _))
                clear hB
                go_wp2_with fail
                refine (S4.out _ B17.out).mono ?_
                rintro e w18 ⟨rfl, hB⟩
                have B18 := Lib.hid (below_then GB4.out (below_then B17.out hB (Nat.le_refl _)) (Nat.le_refl _))
                clear hB
                go_wp2_with fail
                go_ret
                exact ⟨rfl, B18.out⟩
  · have hd : decide (fewB n n' n'') = false := by simp [hf]
    rw [hd]
    clear hd hf
    go_wp2_with fail
    refine (purses_any _).mono ?_
    rintro e w1 ⟨rfl, hB⟩
    have HB := Lib.hid (below_then Hb0.out hB (Nat.le_refl _))
    clear hB
    go_wp2_with fail
    go_ret
    exact ⟨rfl, HB.out⟩
end Go.Proofs.Ytacpjmgnddpbiaa

