/- The walk of Settle. -/
import Derived.Test.YtjleembfocghlaaGreatDoorSettleP
set_option linter.unusedSimpArgs false
set_option linter.unusedVariables false
namespace Go.Proofs.YtjleembfocghlaaGreatDoor
open Go.RowKit Go.Shelf

def SettlePost (w : World) (xs : List Po) (d : List Du) (c : List Ca) (h : Int) (e : Ending) (w' : World) : Prop :=
  Below w.heap.size w w' ∧ ((¬ settleE xs d c h = 0 ∧ e = .returned (.tuple #[.slice none 0 0, .int .i64 (settleE xs d c h)])) ∨
    (settleE xs d c h = 0 ∧ ∃ v, e = .returned (.tuple #[v, .int .i64 0]) ∧ w'.ownsRow w.heap.size 23 8 v (settleSt xs d c h).out.length ((settleSt xs d c h).out.flatMap Po.vals)))
theorem settleE_pre {xs : List Po} {d : List Du} {c : List Ca} {h e : Int} (h1 : preE xs d c h = e) (h2 : ¬ e = 0) : settleE xs d c h = e ∧ ¬ settleE xs d c h = 0 := by
  subst h1; unfold settleE; rw [if_pos h2]; exact ⟨rfl, h2⟩
theorem preE_a {xs : List Po} {d : List Du} {c : List Ca} {h : Int} (h1 : ¬ (checkL xs).2 = 0) : preE xs d c h = (checkL xs).2 := by unfold preE; rw [if_pos h1]
theorem preE_b {xs : List Po} {d : List Du} {c : List Ca} {h : Int} (h1 : (checkL xs).2 = 0) (h2 : ¬ (0 ≤ h ∧ h ≤ 1000000)) : preE xs d c h = 1 := by unfold preE; rw [if_neg (by simp [h1]), if_pos h2]
theorem preE_c {xs : List Po} {d : List Du} {c : List Ca} {h : Int} (h1 : (checkL xs).2 = 0) (h2 : 0 ≤ h ∧ h ≤ 1000000) (h3 : ¬ chkDu d = 0) : preE xs d c h = chkDu d := by unfold preE; rw [if_neg (by simp [h1]), if_neg (by simp [h2]), if_pos h3]
theorem preE_d {xs : List Po} {d : List Du} {c : List Ca} {h : Int} (h1 : (checkL xs).2 = 0) (h2 : 0 ≤ h ∧ h ≤ 1000000) (h3 : chkDu d = 0) (h4 : ¬ chkCa c = 0) : preE xs d c h = chkCa c := by
  unfold preE; rw [if_neg (by simp [h1]), if_neg (by simp [h2]), if_neg (by simp [h3]), if_pos h4]
theorem preE_e {xs : List Po} {d : List Du} {c : List Ca} {h : Int} (h1 : (checkL xs).2 = 0) (h2 : 0 ≤ h ∧ h ≤ 1000000) (h3 : chkDu d = 0) (h4 : chkCa c = 0) (h5 : h < lastHour xs) : preE xs d c h = 7 := by
  unfold preE; rw [if_neg (by simp [h1]), if_neg (by simp [h2]), if_neg (by simp [h3]), if_neg (by simp [h4]), if_pos h5]
theorem preE_f {xs : List Po} {d : List Du} {c : List Ca} {h : Int} (h1 : (checkL xs).2 = 0) (h2 : 0 ≤ h ∧ h ≤ 1000000) (h3 : chkDu d = 0) (h4 : chkCa c = 0) (h5 : ¬ h < lastHour xs) : preE xs d c h = 0 := by
  unfold preE; rw [if_neg (by simp [h1]), if_neg (by simp [h2]), if_neg (by simp [h3]), if_neg (by simp [h4]), if_neg h5]
theorem ret_nils_int {k : IntKind} {a b : Int} (h : a = b) : Ending.returned (.tuple #[.slice none 0 0, .int k a]) = .returned (.tuple #[.slice none 0 0, .int k b]) := by rw [h]
theorem settle_bad {w w' : World} {xs : List Po} {d : List Du} {c : List Ca} {h e : Int} (hB : Below w.heap.size w w') (h1 : preE xs d c h = e) (h2 : ¬ e = 0) :
    SettlePost w xs d c h (.returned (.tuple #[.slice none 0 0, .int .i64 e])) w' := by
  obtain ⟨e1, e2⟩ := settleE_pre h1 h2
  exact ⟨hB, .inl ⟨e2, ret_nils_int e1.symm⟩⟩

theorem settleE_lim {xs : List Po} {d : List Du} {c : List Ca} {h : Int} (h1 : preE xs d c h = 0) (h2 : 400 < xs.length + (settleSt xs d c h).out.length ∨ (0 < (settleSt xs d c h).out.length ∧ 1000000 < (settleSt xs d c h).id)) : settleE xs d c h = 2 := by
  unfold settleE; rw [if_neg (by simp [h1]), if_pos h2]
theorem settleE_ok {xs : List Po} {d : List Du} {c : List Ca} {h : Int} (h1 : preE xs d c h = 0) (h2 : ¬ (400 < xs.length + (settleSt xs d c h).out.length ∨ (0 < (settleSt xs d c h).out.length ∧ 1000000 < (settleSt xs d c h).id))) : settleE xs d c h = 0 := by
  unfold settleE; rw [if_neg (by simp [h1]), if_neg h2]
theorem in_any (x lo hi : Int) (w : World) : Calls Tryz.prog 24 #[.int .i64 x, .int .i64 lo, .int .i64 hi] w fun e w' => e = .returned (.bool (decide (lo ≤ x ∧ x ≤ hi))) ∧ w' = w := by
  by_cases h : lo ≤ x ∧ x ≤ hi
  · obtain ⟨h1, h2⟩ := h
    go_enter Tryz.func24, Tryz.ntmps24
    go_wp2
    go_ret
    exact ⟨ret_bool (by simp [h1, h2]), rfl⟩
  · have H := Lib.hid h
    clear h
    go_enter Tryz.func24, Tryz.ntmps24
    go_wp2
    all_goals first
      | (exfalso; refine H.out ⟨?_, ?_⟩ <;> (simp at *; omega))
      | (exfalso; refine H.out ⟨?_, ?_⟩ <;> omega)
      | (go_ret; refine ⟨ret_bool ?_, rfl⟩; have := H.out; simp; omega)

theorem left_same {w w' : World} {b r : Nat} (hb : w'.heap[b]? = w.heap[b]?) (hr : w'.heap[r]? = w.heap[r]?) : w'.rangeLeft b r = w.rangeLeft b r := by simp only [World.rangeLeft, hb, hr]
theorem left_set {w : World} {b r B o : Nat} {v : Value} (hb : b < w.heap.size) (hr : r < w.heap.size) (h1 : b ≠ B) (h2 : r ≠ B) : (w.setCell ⟨B, o, none⟩ v).rangeLeft b r = w.rangeLeft b r :=
  left_same ((grownBy_setCell'' w B o v).block b hb (by simp [h1])) ((grownBy_setCell'' w B o v).block r hr (by simp [h2]))
theorem RangeT.lts {κ ν : Type} {ke : κ → Value} {ve : ν → Value} {w : World} {b r : Nat} {m : List (κ × ν)} {js : List Nat} (h : RangeT ke ve w b r m js) : b < w.heap.size ∧ r < w.heap.size := by
  obtain ⟨es, clock, since, seen, c0, hb, h1, h2, hr, rest⟩ := h
  exact ⟨(Array.getElem?_eq_some_iff.1 hb).1, (Array.getElem?_eq_some_iff.1 hr).1⟩

def SetS (Bid Bout Bm : Nat) (v0 : Value) (k : Nat) : Prop := k = Bid ∨ k = Bout ∨ k = Bm ∨ v0.ownBlock = some k
def SetInv (W0 : World) (base Bid Bout Bm : Nat) (v0 : Value) (st : SSt) (wr : World) : Prop :=
  KeepB W0.heap.size (SetS Bid Bout Bm v0) W0 wr ∧ Boxed wr Bid 3 (.int .i64 st.id) ∧ ∃ v m, Boxed wr Bout 31 v ∧ wr.ownsRow base 23 8 v st.out.length (st.out.flatMap Po.vals) ∧
    MapT Tryz.prog 3 kInt vInt wr Bm m ∧ (∀ k, getI m k = st.held k) ∧ (∀ k, v.ownBlock = some k → v0.ownBlock = some k ∨ W0.heap.size ≤ k)
structure SOk (W0 : World) (Bid Bout Bm : Nat) (v0 : Value) : Prop where
  m1 : Bm ≠ Bid
  m2 : Bm ≠ Bout
  lt : Bm < W0.heap.size
  own : v0.ownBlock ≠ some Bm
section
variable {W0 : World} {base Bid Bout Bm : Nat} {v0 : Value} {st : SSt} {wr w' : World}
theorem SetInv.later (h : SetInv W0 base Bid Bout Bm v0 st wr) (hB : Below wr.heap.size wr w') : SetInv W0 base Bid Bout Bm v0 st w' := by
  obtain ⟨h1, h2, v, m, h3, h4, h5, h6, h7⟩ := h
  exact ⟨h1.trans (KeepB.of_below hB h1.size), (hB.block _ h2.lt).trans h2, v, m, (hB.block _ h3.lt).trans h3, own_later h4 hB, h5.below' hB, h6, h7⟩
theorem SetInv.below {w : World} {T : Nat} (h : SetInv W0 base Bid Bout Bm v0 st wr) (hB : Below T w W0) (hS : ∀ k, SetS Bid Bout Bm v0 k → T ≤ k) (hT : T ≤ W0.heap.size) : Below T w wr :=
  hB.trans (h.1.below hT hS)
theorem SetInv.update (hk : SOk W0 Bid Bout Bm v0) {x u : Int} (hx : I64 x) (h : SetInv W0 base Bid Bout Bm v0 st wr) :
    ∃ w', (Instr.mapUpdate 72 (.map (some Bm)) (.int .i64 x) (.int .i64 u)).run Tryz.prog wr = .ok () w' ∧ SetInv W0 base Bid Bout Bm v0 ⟨st.id, st.out, fun k => if x = k then u else st.held k⟩ w' := by
  obtain ⟨h1, h2, v, m, h3, h4, h5, h6, h7⟩ := h
  obtain ⟨w', r1, r2, r3, r4⟩ := update_int h5 hx u
  have hv : v.ownBlock ≠ some Bm := fun e => by
    rcases h7 _ e with h | h
    · exact hk.own h
    · have := hk.lt; omega
  refine ⟨w', r1, h1.trans (KeepB.of_grown r3 (fun k e => by cases e; exact .inl (.inr (.inr (.inl rfl)))) h1.size), h2.kept r3 (by intro e; injection e with e; exact hk.m1 e.symm), v, _, h3.kept r3 (by intro e; injection e with e; exact hk.m2 e.symm),
    h4.kept r3 (.inr hv), r2, fun k => ?_, h7⟩
  rw [getI_mput']
  dsimp only
  split <;> simp_all
theorem SetInv.look {x : Int} (hx : I64 x) (h : SetInv W0 base Bid Bout Bm v0 st wr) :
    (Instr.lookup 72 (.map (some Bm)) (.int .i64 x) false).run Tryz.prog wr = .ok (.int .i64 (st.held x)) wr := by
  obtain ⟨h1, h2, v, m, h3, h4, h5, h6, h7⟩ := h
  rw [look_int h5 hx, h6]
theorem SetInv.posted (hk : SOk W0 Bid Bout Bm v0) {W : World} {e : Ending} {p : Po} {v : Value} {m : List (Int × Int)} (h1 : KeepB W0.heap.size (SetS Bid Bout Bm v0) W0 W) (h5 : MapT Tryz.prog 3 kInt vInt W Bm m) (h6 : ∀ k, getI m k = st.held k)
    (h7 : ∀ k, v.ownBlock = some k → v0.ownBlock = some k ∨ W0.heap.size ≤ k) (h : PostPost Bid Bout base st.id v st.out p W e w') :
    e = .returned (.tuple #[]) ∧ SetInv W0 base Bid Bout Bm v0 ⟨st.id + 1, st.out ++ [p], st.held⟩ w' ∧ KeepB W.heap.size (fun k => k = Bid ∨ k = Bout ∨ v.ownBlock = some k) W w' := by
  obtain ⟨rfl, g1, v', g2, g3, g4, g5⟩ := h
  have hv : v.ownBlock ≠ some Bm := fun e => by
    rcases h7 _ e with h | h
    · exact hk.own h
    · have := hk.lt; omega
  refine ⟨rfl, ⟨h1.trans (g4.mono h1.size fun k hkl e => ?_), g1, v', m, g2, g3, g4.map h5 h5.lt (fun e => ?_), h6, fun k e => ?_⟩, g4⟩
  · rcases e with e | e | e
    · exact .inl e
    · exact .inr (.inl e)
    · rcases h7 k e with h | h
      · exact .inr (.inr (.inr h))
      · omega
  · rcases e with e | e | e
    · exact hk.m1 e
    · exact hk.m2 e
    · exact hv e
  · rcases g5 k e with h | h
    · exact h7 k h
    · exact .inr (Nat.le_trans h1.size h)
end

theorem SetInv.opened {W0 : World} {base Bid Bout Bm : Nat} {v0 : Value} {st : SSt} {wr w' : World} (h : SetInv W0 base Bid Bout Bm v0 st wr) (hB : Below wr.heap.size wr w') :
    KeepB W0.heap.size (SetS Bid Bout Bm v0) W0 w' ∧ Boxed w' Bid 3 (.int .i64 st.id) ∧ ∃ v m, Boxed w' Bout 31 v ∧ w'.ownsRow base 23 8 v st.out.length (st.out.flatMap Po.vals) ∧
    MapT Tryz.prog 3 kInt vInt w' Bm m ∧ (∀ k, getI m k = st.held k) ∧ (∀ k, v.ownBlock = some k → v0.ownBlock = some k ∨ W0.heap.size ≤ k) ∧ (∀ k, v.ownBlock = some k → k < wr.heap.size) := by
  obtain ⟨h1, h2, v, m, h3, h4, h5, h6, h7⟩ := h
  exact ⟨h1.trans (KeepB.of_below hB h1.size), (hB.block _ h2.lt).trans h2, v, m, (hB.block _ h3.lt).trans h3, own_later h4 hB, h5.below' hB, h6, h7, fun k e => (h4.lt k e).2⟩
theorem ca3_new (w : World) (x : Ca) : (w.alloc (.cells #[.int .i64 x.parcel, .int .i64 x.reason, .int .i64 x.known] 45)).cell? ⟨w.heap.size, 0, none⟩ = some (.int .i64 x.parcel) ∧
    (w.alloc (.cells #[.int .i64 x.parcel, .int .i64 x.reason, .int .i64 x.known] 45)).cell? ⟨w.heap.size, 1, none⟩ = some (.int .i64 x.reason) ∧ (w.alloc (.cells #[.int .i64 x.parcel, .int .i64 x.reason, .int .i64 x.known] 45)).cell? ⟨w.heap.size, 2, none⟩ = some (.int .i64 x.known) := by simp

section
variable {κ ν : Type} {P : Program} {ke : κ → Value} {ve : ν → Value} (w : World) {ops : Array Oper} {rest : List Oper} {o : Oper} {a : Act} {Q : Exit → Act → World → Prop} {b r : Nat} {m : List (κ × ν)} {js : List Nat}
/-- the walk behind an entry that has come -/
def NextMore (P : Program) (ke : κ → Value) (ve : ν → Value) (w : World) (ops : Array Oper) (rest : List Oper) (o : Oper) (a : Act) (Q : Exit → Act → World → Prop) (b r : Nat) (m : List (κ × ν)) (js : List Nat) : Prop :=
  ∀ (j : Nat) (x : κ × ν) (w' : World), j ∉ js → m[j]? = some x → js.length < m.length → RangeT ke ve w' b r m (js ++ [j]) → w'.rangeLeft b r < w.rangeLeft b r →
      w.grownBy w' (some r) → w'.heap.size = w.heap.size → (Instr.entry (.pointer (some ⟨r, 0, none⟩))).run P w' = .ok (.tuple #[ke x.1, ve x.2]) w' → wpList P ops Q rest (a.put o.dst (.tuple #[.bool true, ke x.1, ve x.2])) w'
def NextDone (P : Program) (ops : Array Oper) (rest : List Oper) (o : Oper) (a : Act) (Q : Exit → Act → World → Prop) (w : World) (m : List (κ × ν)) (js : List Nat) : Prop := (picks m js).Perm m → wpList P ops Q rest (a.put o.dst (.tuple #[.bool false])) w
theorem wpList_next_N (hg : o.guard = none) (it : Operand) (hop : o.op = Op.next it false)
    (hit : a.eval it = .pointer (some ⟨r, 0, none⟩)) (h : RangeT ke ve w b r m js) (hDone : NextDone P ops rest o a Q w m js) (hMore : NextMore P ke ve w ops rest o a Q b r m js) : wpList P ops Q (o :: rest) a w :=
  wpList_next_T w hg it hop hit h hDone hMore
end

set_option maxRecDepth 100000 in
set_option maxHeartbeats 8000000 in
theorem settle_any (a : Option Addr) (n cap : Nat) (xs : List Po) (a' : Option Addr) (n' cap' : Nat) (d : List Du) (a'' : Option Addr) (n'' cap'' : Nat) (c : List Ca) (hour : Int) (w : World)
    (h : Rd Po.vals 8 w a n xs) (hw : ∀ p ∈ xs, p.Wf) (h' : Rd Du.vals 3 w a' n' d) (h'' : Rd Ca.vals 3 w a'' n'' c) :
    Calls Tryz.prog 15 #[.slice a n cap, .slice a' n' cap', .slice a'' n'' cap'', .int .i64 hour] w (SettlePost w xs d c hour) := by
  have Hl := Lib.hid h.len
  have HB0 := Lib.hid (((Below.refl w.heap.size w).alloc (Nat.le_refl _) (.cells #[.slice a'' n'' cap''] 46)).alloc (by simp) (.cells #[.int .i64 hour] 3))
  have hc0 : ((w.alloc (.cells #[.slice a'' n'' cap''] 46)).alloc (.cells #[.int .i64 hour] 3)).cell? ⟨w.heap.size, 0, none⟩ = some (.slice a'' n'' cap'') := by simp
  have hc1 : ((w.alloc (.cells #[.slice a'' n'' cap''] 46)).alloc (.cells #[.int .i64 hour] 3)).cell? ⟨w.heap.size + 1, 0, none⟩ = some (.int .i64 hour) := by simp
  have hsz : ((w.alloc (.cells #[.slice a'' n'' cap''] 46)).alloc (.cells #[.int .i64 hour] 3)).heap.size = w.heap.size + 2 := by simp
  have Hc0 := Lib.hid hc0
  have Hc1 := Lib.hid hc1
  have Hsz := Lib.hid hsz
  have H := Lib.hid (h.below' HB0.out)
  have H' := Lib.hid (h'.below' HB0.out)
  have H'' := Lib.hid (h''.below' HB0.out)
  clear hc0 hc1 hsz h h' h''
  go_enter Tryz.func15, Tryz.ntmps15
  go_upto_region 1 with (fail)
  generalize (w.alloc (.cells #[.slice a'' n'' cap''] 46)).alloc (.cells #[.int .i64 hour] 3) = W0 at *
  go_wp2_with fail
  refine (opened_any a n cap xs _ H.out hw).mono ?_
  rintro e w1 ⟨hB, ⟨hc, L, s, rfl, hch, hbk, hL⟩ | ⟨hc, rfl⟩⟩
  · have HB1 := Lib.hid (below_then HB0.out hB (Nat.le_refl _))
    have HLf := Lib.hid (show L.From w.heap.size from fun k hk => by have := hL k hk; rw [Hsz.out] at this; omega)
    have hch0 := cell_keep Hc1.out hB
    have HC0 := Lib.hid (cell_keep Hc0.out hB)
    have HD := Lib.hid (H'.out.below' hB)
    have HCa := Lib.hid (H''.out.below' hB)
    have Hch := Lib.hid hch
    have Hbk := Lib.hid hbk
    have Hc := Lib.hid hc
    have HH := Lib.hid hch0
    have hW0 : w.heap.size < w1.heap.size ∧ w.heap.size + 1 < w1.heap.size := by have := hB.size; rw [Hsz.out] at this; omega
    clear hB hch hbk hc hL hw Hc0 Hc1 H H' H''
    by_cases ho : 0 ≤ hour ∧ hour ≤ 1000000
    · have Ho := Lib.hid ho
      have hin : decide (0 ≤ hour ∧ hour ≤ 1000000) = true := by simp [ho]
      clear ho
      go_wp2_with fail
      refine (in_any _ _ _ _).mono ?_
      rintro e wi ⟨rfl, rfl⟩
      rw [hin]
      clear hin
      go_wp2_with fail
      refine (checkDues_any a' n' cap' d _ HD.out).mono ?_
      rintro e w2 ⟨rfl, hB2⟩
      have hch2 := cell_keep HH.out hB2
      have HH2 := Lib.hid hch2
      have hc02 := cell_keep HC0.out hB2
      have HC2 := Lib.hid hc02
      have HD2 := Lib.hid (HD.out.below' hB2)
      have HCa2 := Lib.hid (HCa.out.below' hB2)
      have Hch2 := Lib.hid (Hch.out.below' hB2)
      have HB2 := Lib.hid (below_then HB1.out hB2 (Nat.le_refl _))
      have hW2 : w.heap.size < w2.heap.size ∧ w.heap.size + 1 < w2.heap.size := by have := hB2.size; omega
      clear hch0 hB2 HH HC0 HD HCa Hch HB1 hW0
      by_cases hd : chkDu d = 0
      · have hd1 : (chkDu d != 0) = false := by simp [hd]
        have Hd := Lib.hid hd
        clear hd
        go_wp2_with fail
        refine (checkCauses_any a'' n'' cap'' c _ HCa2.out).mono ?_
        rintro e w3 ⟨rfl, hB3⟩
        have hch3 := cell_keep HH2.out hB3
        have HH3 := Lib.hid hch3
        have HC3 := Lib.hid (cell_keep HC2.out hB3)
        have HD3 := Lib.hid (HD2.out.below' hB3)
        have HCa3 := Lib.hid (HCa2.out.below' hB3)
        have Hch3 := Lib.hid (Hch2.out.below' hB3)
        have HB3 := Lib.hid (below_then HB2.out hB3 (Nat.le_refl _))
        have hW3 : w.heap.size < w3.heap.size ∧ w.heap.size + 1 < w3.heap.size := by have := hB3.size; omega
        clear hch2 hc02 hB3 HH2 HC2 HD2 HCa2 Hch2 HB2 hW2 hd1
        by_cases hca : chkCa c = 0
        · have hd1 : (chkCa c != 0) = false := by simp [hca]
          have Hca := Lib.hid hca
          clear hca
          go_upto_region 12 with (fail)
          obtain ⟨c0, c1, c2, c3, c4, c5, c6⟩ := Hch3.out.cs
          go_quiet (fail)
          have hch4 : (w3.drewN nq).cell? ⟨w.heap.size + 1, 0, none⟩ = some (.int .i64 hour) := hch3
          have HH4 := Lib.hid hch4
          have HC4 := Lib.hid (show (w3.drewN nq).cell? ⟨w.heap.size, 0, none⟩ = some (.slice a'' n'' cap'') from HC3.out)
          have HD4 := Lib.hid (HD3.out.below' (drewN_below w3 nq))
          have HCa4 := Lib.hid (HCa3.out.below' (drewN_below w3 nq))
          have Hch4 := Lib.hid (Hch3.out.drewN nq)
          have HB4 := Lib.hid (below_drewN HB3.out nq)
          have hW4 : w.heap.size < (w3.drewN nq).heap.size ∧ w.heap.size + 1 < (w3.drewN nq).heap.size := hW3
          clear hch3 HH3 HC3 HD3 HCa3 Hch3 HB3 hW3 c0 c1 c2 c3 c4 c5 c6
          generalize w3.drewN nq = w4 at *
          by_cases ht : hour < s.hour
          · have Ht := Lib.hid (show hour < lastHour xs by rw [← Hbk.out.hour]; exact ht)
            go_wp2_with fail
            go_ret2
            exact settle_bad HB4.out (preE_e Hc.out Ho.out Hd.out Hca.out Ht.out) (by omega)
          · have Hpre := Lib.hid (preE_f (xs := xs) (d := d) (c := c) (h := hour) Hc.out Ho.out Hd.out Hca.out (by rw [← Hbk.out.hour]; exact ht))
            obtain ⟨c0, c1, c2, c3, c4, c5, c6⟩ := Hch4.out.cs
            go_upto_region 15 with (fail)
            have hbid := Lib.hid (show Boxed (w4.alloc (.cells #[.int .i64 0] 3)) w4.heap.size 3 (.int .i64 0) from heap_alloc_new w4 _)
            have HB5 := Lib.hid ((Below.refl w4.heap.size w4).alloc (Nat.le_refl _) (.cells #[.int .i64 0] 3))
            have hids := Hch4.out.ids.alloc (.cells #[.int .i64 0] 3)
            have hiw : L.ids < w4.heap.size := Hch4.out.ids.lt
            have Hs5 := Lib.hid (show (w4.alloc (.cells #[.int .i64 0] 3)).heap.size = w4.heap.size + 1 by simp)
            have c2' := cell_keep c2 ((Below.refl w4.heap.size w4).alloc (Nat.le_refl _) (.cells #[.int .i64 0] 3))
            clear c0 c1 c2 c3 c4 c5 c6
            generalize w4.alloc (.cells #[.int .i64 0] 3) = w5 at *
            go_wp2_with (at_range; refine wpList_range_T _ rfl _ 73 rfl Tryz.underlying73 rfl hids ?_; intro w6 hrg6 hg6 hs6)
            have HB6 := Lib.hid (HB5.out.grown hg6 HB5.out.size (fun k e => by cases e))
            have Hb6 := Lib.hid (hbid.out.kept hg6 (by simp))
            have Hr6 := Lib.hid hrg6
            clear hrg6 hg6
            go_loopw [16] (fun _ wr => ∃ js : List Nat, RangeT kInt vBool wr L.ids w5.heap.size s.ids js ∧ Boxed wr w4.heap.size 3 (.int .i64 (maxOf ((picks s.ids js).map (·.1)))) ∧ Below w4.heap.size w4 wr) (fun _ wr => wr.rangeLeft L.ids w5.heap.size)
            case atStart => exact ⟨[], Hr6.out, Hb6.out, HB6.out⟩
            case round =>
              obtain ⟨js, hrg, hbi, hB⟩ := hrel
              have Hrg := Lib.hid hrg
              have Hbi := Lib.hid hbi
              have HB := Lib.hid hB
              clear hrg hbi hB
              go_wp2_with (at_next; refine wpList_next_N _ rfl _ rfl rfl Hrg.out ?_ ?_)
              · unfold NextDone
                intro hp
                obtain ⟨wo, rfl⟩ : ∃ wo : World, wo = wr := ⟨_, rfl⟩
                have Hid := Lib.hid (show Boxed wo w4.heap.size 3 (.int .i64 (idMax xs)) by rw [← Hbk.out.idmax (hp.map _)]; exact Hbi.out)
                have HBr := Lib.hid (HB.out.alloc HB.out.size (.cells #[.slice none 0 0] 31))
                have HIa := Lib.hid (Hid.out.alloc (.cells #[.slice none 0 0] 31))
                have HOa := Lib.hid (show Boxed (wo.alloc (.cells #[.slice none 0 0] 31)) wo.heap.size 31 (.slice none 0 0) from heap_alloc_new wo _)
                have Hza := Lib.hid (show (wo.alloc (.cells #[.slice none 0 0] 31)).heap.size = wo.heap.size + 1 by simp)
                have hT := HIa.out.lt
                have hTr := Hid.out.lt
                clear Hbi HB Hid Hrg hp HB5 HB6 Hb6 Hr6 hbid hids c2'
                go_upto_region 22 with (fail)
                generalize wo.alloc (.cells #[.slice none 0 0] 31) = wA at *
                obtain ⟨c0, c1, c2, c3, c4, c5, c6⟩ := (Hch4.out.below' HBr.out).cs
                have hmh := (Hch4.out.below' HBr.out).held
                clear c0 c1 c2 c3 c5 c6
                go_wp2_with fail
                refine (cloneMap_any _ hmh).mono ?_
                rintro e wB ⟨rfl, hmB, hBB⟩
                have HTB := Lib.hid (below_then HBr.out hBB (by omega))
                have HmB := Lib.hid hmB
                have HIB := Lib.hid ((hBB.block _ HIa.out.lt).trans HIa.out)
                have HOB := Lib.hid ((hBB.block _ HOa.out.lt).trans HOa.out)
                have hlB := hmB.lt
                clear hmB hBB HIa HOa HBr c4 hmh
                go_wp2_with fail
                refine (over_any L s xs a' n' cap' d _ (Hch4.out.below' HTB.out) Hbk.out (HD4.out.below' HTB.out) (goodB_all (chkDu_ok Hd.out).2)).mono ?_
                rintro e wC ⟨vo, rfl, hro, hBC⟩
                have hol : (overM xs d).length ≤ 400 := Nat.le_trans (List.length_filterMap_le _ _) (accL_len Hbk.out)
                obtain ⟨ao, co, rfl, hco, hrd, hlow⟩ := Rd.of_own hro du_vals_length (by omega) rfl (by unfold maxLen; omega)
                have HT := Lib.hid (below_then HTB.out hBC (by omega))
                have Hinv := Lib.hid (show SetInv wC w4.heap.size w4.heap.size wo.heap.size wA.heap.size (.slice none 0 0) ⟨idMax xs, [], heldL xs⟩ wC from
                  ⟨KeepB.refl _ _ _, (hBC.block _ (by omega)).trans HIB.out, .slice none 0 0, s.held, (hBC.block _ (by have := Hza.out; omega)).trans HOB.out, World.ownsRow_nil _ _ _ _, HmB.out.below' hBC, Hbk.out.held, fun k e => by cases e⟩)
                have hlC : wA.heap.size < wC.heap.size := by have := hBC.size; omega
                have HOk := Lib.hid (show SOk wC w4.heap.size wo.heap.size wA.heap.size (.slice none 0 0) from ⟨by have := Hza.out; omega, by have := Hza.out; omega, hlC, fun e => by cases e⟩)
                have Hrd := Lib.hid hrd
                have Hlow := Lib.hid (show ∀ q, ao = some q → wB.heap.size ≤ q.block ∧ q.block < wC.heap.size from hlow)
                have HSb := Lib.hid (SBd.start Hbk.out)
                obtain ⟨N, hN⟩ : ∃ N, (overM xs d).length = N := ⟨_, rfl⟩
                rw [hN] at hco hol Hrd ⊢
                have HN := Lib.hid hN
                clear hN hBC hro hrd hlow HIB HOB HmB HTB
                go_wp2_with fail
                go_loopw [80] (fun i wl => ∃ k : Nat, k ≤ N ∧ i = .int .i64 k ∧ SetInv wC w4.heap.size w4.heap.size wo.heap.size wA.heap.size (.slice none 0 0) (((overM xs d).take k).foldl (backStep xs c hour) ⟨idMax xs, [], heldL xs⟩) wl) (fun i _ => N - (intOf i).toNat)
                case atStart => exact ⟨0, Nat.zero_le _, rfl, Hinv.out⟩
                case round =>
                  obtain ⟨k, hk, rfl, hinv⟩ := hrel
                  have hSge : ∀ q, SetS w4.heap.size wo.heap.size wA.heap.size (.slice none 0 0) q → w4.heap.size ≤ q := by
                    rintro q (e | e | e | e)
                    · omega
                    · omega
                    · have := Hza.out; omega
                    · cases e
                  have hHTl := hinv.below HT.out hSge (by have := HT.out.size; omega)
                  have h1 := hinv.1.rd Hrd.out (fun q e _ => ⟨(Hlow.out q e).2, fun e' => by
                    have h2 := (Hlow.out q e).1
                    rcases e' with e' | e' | e' | e'
                    · omega
                    · have := Hza.out; omega
                    · omega
                    · cases e'⟩)
                  have HTl := Lib.hid hHTl
                  have Hinv1 := Lib.hid hinv
                  have HSge := Lib.hid hSge
                  clear hHTl hinv hSge
                  by_cases hlt : k < N
                  · obtain ⟨b, off, x, rfl, hb, hx, x0, x1, x2⟩ := h1.du hlt
                    obtain ⟨hxa, ip, iq⟩ := overM_amount Hbk.out (goodB_all (chkDu_ok Hd.out).2) (List.mem_of_getElem? hx)
                    have hbd := SBd.backs (xs := xs) (c := c) (h := hour) ((overM xs d).take k) 0 _ HSb.out (fun y hy => by have := (overM_amount Hbk.out (goodB_all (chkDu_ok Hd.out).2) (List.mem_of_mem_take hy)).1; omega)
                    have Hstep := Lib.hid (foldl_take_snoc (f := backStep xs c hour) (b := ⟨idMax xs, [], heldL xs⟩) hx)
                    rw [List.length_take, Nat.zero_add, Nat.min_eq_left (by rw [HN.out]; omega)] at hbd
                    generalize ((overM xs d).take k).foldl (backStep xs c hour) ⟨idMax xs, [], heldL xs⟩ = st at *
                    have e3 := du3_new wr x 41
                    have HBW := Lib.hid ((Below.refl wr.heap.size wr).alloc (Nat.le_refl _) (.cells #[.int .i64 x.party, .int .i64 x.parcel, .int .i64 x.amount] 41))
                    have hinvW := Hinv1.out.later HBW.out
                    have hTW := hinvW.below HT.out HSge.out (by have := HT.out.size; omega)
                    have HinvW := Lib.hid hinvW
                    have HTW := Lib.hid hTW
                    have Hbd := Lib.hid hbd
                    have hkW : wr.heap.size < (wr.alloc (.cells #[.int .i64 x.party, .int .i64 x.parcel, .int .i64 x.amount] 41)).heap.size := by simp
                    clear hinvW hTW hbd hx h1
                    go_upto_region 26 with (fail)
                    generalize wr.alloc (.cells #[.int .i64 x.party, .int .i64 x.parcel, .int .i64 x.amount] 41) = W at *
                    obtain ⟨e0, e1, e2⟩ := e3
                    go_wp2_with fail
                    refine (cause_any x.parcel w.heap.size (w.heap.size + 1) a'' n'' cap'' c hour _ (HTW.out.cell (p := ⟨w.heap.size, 0, none⟩) hW4.1 |>.trans HC4.out) (HTW.out.cell (p := ⟨w.heap.size + 1, 0, none⟩) hW4.2 |>.trans HH4.out) (HCa4.out.below' HTW.out)).mono ?_
                    rintro e wD ⟨rfl, hBD⟩
                    generalize hy : (causeL c x.parcel hour).getD zCa = y
                    generalize hbs : (causeL c x.parcel hour).isSome = bs
                    have Hy := Lib.hid hy
                    have Hbs := Lib.hid hbs
                    clear hy hbs
                    have hWD := hBD.size
                    have HBE := Lib.hid (hBD.alloc hBD.size (.cells #[.int .i64 y.parcel, .int .i64 y.reason, .int .i64 y.known] 45))
                    have e4 := ca3_new wD y
                    have hsE : wD.heap.size < (wD.alloc (.cells #[.int .i64 y.parcel, .int .i64 y.reason, .int .i64 y.known] 45)).heap.size := by simp
                    have e3 := du3_later ⟨e0, e1, e2⟩ HBE.out
                    have HinvE := Lib.hid (HinvW.out.later HBE.out)
                    have HTE := Lib.hid (HinvE.out.below HT.out HSge.out (by have := HT.out.size; omega))
                    have hcw := Hch4.out.below' HTE.out
                    clear hBD e0 e1 e2
                    unfold caV
                    go_upto_region 27 with (fail)
                    generalize wD.alloc (.cells #[.int .i64 y.parcel, .int .i64 y.reason, .int .i64 y.known] 45) = wE at *
                    obtain ⟨e0, e1, e2⟩ := e3
                    obtain ⟨d0, d1, d2⟩ := e4
                    obtain ⟨c0, c1, c2, c3, c4, c5, c6⟩ := hcw.cs
                    clear c0 c1 c2 c3 c4 c5
                    obtain ⟨q, hq⟩ : ∃ q, (lastL xs x.party x.parcel).getD zPo = q := ⟨_, rfl⟩
                    have hlk : getP s.last (x.parcel, x.party) = q := by unfold getP; rw [Hbk.out.last]; exact hq
                    have f0 : ∀ p : Later wE, p.w.cell? ⟨wr.heap.size, 0, none⟩ = some (.int .i64 x.party) := fun p => p.cell e0
                    have f1 : ∀ p : Later wE, p.w.cell? ⟨wr.heap.size, 1, none⟩ = some (.int .i64 x.parcel) := fun p => p.cell e1
                    have f2 : ∀ p : Later wE, p.w.cell? ⟨wr.heap.size, 2, none⟩ = some (.int .i64 x.amount) := fun p => p.cell e2
                    have f3 : ∀ p : Later wE, p.w.cell? ⟨L.c, 6, none⟩ = some (.map (some L.last)) := fun p => p.cell c6
                    have f4 : ∀ p : Later wE, p.w.cell? ⟨wD.heap.size, 2, none⟩ = some (.int .i64 y.known) := fun p => p.cell d2
                    have f5 : ∀ p : Later wE, (Instr.lookup 75 (.map (some L.last)) (.agg #[.int .i64 x.parcel, .int .i64 x.party]) false).run Tryz.prog p.w = .ok (.agg #[.int .i64 q.id, .int .i64 q.hour, .int .u8 q.kind, .int .i64 q.party, .int .i64 q.parcel, .int .i64 q.amount, .int .i64 q.reason, .int .i64 q.known]) p.w := fun p =>
                      look_last (hcw.below' p.hB).last ip iq hlk
                    have f6 : ∀ W, (Instr.field 23 (.agg #[.int .i64 q.id, .int .i64 q.hour, .int .u8 q.kind, .int .i64 q.party, .int .i64 q.parcel, .int .i64 q.amount, .int .i64 q.reason, .int .i64 q.known]) 7).run Tryz.prog W = .ok (.int .i64 q.known) W := fun W => by kernel_rfl
                    have HE := Lib.hid (And.intro (And.intro e0 (And.intro e1 e2)) (And.intro d0 (And.intro d1 d2)))
                    have Hq := Lib.hid hq
                    clear hq hlk hcw c6 e0 e1 e2 d0 d1 d2
                    cases bs with
                    | false =>
                      have Hst := Lib.hid (Hstep.out.trans (backStep_none (xs := xs) (s := st) (Option.isSome_eq_false_iff.1 Hbs.out |> Option.isNone_iff_eq_none.1)))
                      refine wp_region_later (by kernel_rfl) (by kernel_rfl) ?_
                      repeat (go_big_quiet_step ((go_at_call 46; exact Calls.later_of (of_any x _))))
                      refine wpQuiet_nil ?_
                      intro wq hw'
                      obtain ⟨pq, hpq⟩ := hw'
                      have hBq := pq.hB
                      rw [← hpq] at hBq
                      have HBq := Lib.hid hBq
                      clear hpq pq f0 f1 f2 f3 f4 f5 f6 hBq
                      go_wp2_with fail
                      exact ⟨⟨k + 1, by omega, by go_num, by rw [Hst.out]; exact HinvE.out.later HBq.out⟩, by simp [intOf]; omega⟩
                    | true =>
                      have Hca2 := Lib.hid (show causeL c x.parcel hour = some y by
                        have h1 := Hbs.out
                        have h2 := Hy.out
                        cases h3 : causeL c x.parcel hour with
                        | none => rw [h3] at h1; cases h1
                        | some y' => rw [h3] at h2; exact congrArg some h2)
                      refine wp_region_later (by kernel_rfl) (by kernel_rfl) ?_
                      repeat (go_big_quiet_step ((go_at_call 46; exact Calls.later_of (of_any x _))))
                      refine wpQuiet_nil ?_
                      intro wq hw'
                      obtain ⟨pq, hpq⟩ := hw'
                      have hBq := pq.hB
                      rw [← hpq] at hBq
                      have HBq := Lib.hid hBq
                      clear hpq pq f0 f1 f2 f3 f4 f5 f6 hBq
                      have HinvQ := Lib.hid (HinvE.out.later HBq.out)
                      have HTQ := Lib.hid (HinvQ.out.below HT.out HSge.out (by have := HT.out.size; omega))
                      obtain ⟨e0, e1, e2⟩ := du3_later HE.out.1 HBq.out
                      obtain ⟨d0, d1, d2⟩ := du3_later HE.out.2 HBq.out
                      by_cases hkn : q.known < y.known
                      · have Hst := Lib.hid (Hstep.out.trans (backStep_yes (xs := xs) (s := st) Hca2.out (by rw [Hq.out]; exact hkn)))
                        have hwQ : W.heap.size ≤ wq.heap.size ∧ wE.heap.size ≤ wq.heap.size := by have := HBq.out.size; have := HBE.out.size; omega
                        have hwr : wC.heap.size ≤ wr.heap.size := Hinv1.out.1.size
                        have hTQz : w4.heap.size ≤ wq.heap.size := HTQ.out.size
                        obtain ⟨kb, hbid, v, m, hbo, hrow, hm, hget, hown, hvl⟩ := Hinv1.out.opened (below_then (below_then HBW.out HBE.out (by omega)) HBq.out (by omega))
                        have hidm := idMax_bd Hbk.out.okl
                        have hb1 := Hbd.out.id
                        have hb2 := Hbd.out.out
                        have hhour := (HTQ.out.cell (p := ⟨w.heap.size + 1, 0, none⟩) hW4.2).trans HH4.out
                        have hpost := post_any 3 x y w4.heap.size wo.heap.size (w.heap.size + 1) w4.heap.size st.id hour v st.out wq hbid hbo hhour hrow hTQz (by omega) (by omega) (by omega) (by omega)
                        have Hpost := Lib.hid hpost
                        have Hkb := Lib.hid kb
                        have Hm := Lib.hid hm
                        have Hget := Lib.hid hget
                        have Hown := Lib.hid hown
                        have Hvl := Lib.hid hvl
                        have Hhb := Lib.hid (Hbd.out.held x.parcel)
                        clear hpost kb hbid hbo hrow hm hget hown hvl hidm hb1 hb2 hhour
                        go_upto_region 28 with (fail)
                        go_wp2_with fail
                        refine Hpost.out.mono ?_
                        rintro e w8 hp
                        obtain ⟨rfl, hinv8, hk8⟩ := SetInv.posted HOk.out Hkb.out Hm.out Hget.out Hown.out hp
                        have hne8 : ¬ (wr.heap.size = w4.heap.size ∨ wr.heap.size = wo.heap.size ∨ v.ownBlock = some wr.heap.size) := by
                          rintro (e | e | e)
                          · omega
                          · have := Hza.out; omega
                          · have := Hvl.out _ e; omega
                        have g0 := hk8.cell e0 (show wr.heap.size < wq.heap.size by omega) hne8
                        have g1 := hk8.cell e1 (show wr.heap.size < wq.heap.size by omega) hne8
                        have g2 := hk8.cell e2 (show wr.heap.size < wq.heap.size by omega) hne8
                        obtain ⟨w9, hup, hinv9⟩ := hinv8.update HOk.out (u := st.held x.parcel + x.amount) ip
                        have hlo : (Instr.lookup 72 (.map (some wA.heap.size)) (.int .i64 x.parcel) false).run Tryz.prog w8 = .ok (.int .i64 (st.held x.parcel)) w8 := SetInv.look (st := ⟨st.id + 1, st.out ++ [postP hour 3 x y (st.id + 1)], st.held⟩) ip hinv8
                        have hwrap : IntKind.i64.wrap (st.held x.parcel + x.amount) = st.held x.parcel + x.amount := IntWalk.i64_in _ (by have := Hhb.out; omega)
                        have Hinv9 := Lib.hid hinv9
                        clear hinv8 hk8 hinv9 hp e0 e1 e2 hne8
                        go_wp2_with fail
                        refine ⟨⟨k + 1, by omega, by go_num, ?_⟩, by simp [intOf]; omega⟩
                        rw [Hst.out]
                        have := Hinv9.out
                        rw [show (fun k => if x.parcel = k then st.held x.parcel + x.amount else st.held k) = (fun k => if x.parcel = k then st.held k + x.amount else st.held k) from funext fun k => by split <;> simp_all] at this
                        exact this
                      · have Hst := Lib.hid (Hstep.out.trans (backStep_not (xs := xs) (s := st) Hca2.out (by rw [Hq.out]; exact hkn)))
                        go_wp2_with fail
                        exact ⟨⟨k + 1, by omega, by go_num, by rw [Hst.out]; exact HinvQ.out⟩, by simp [intOf]; omega⟩
                  · obtain ⟨wl, rfl⟩ : ∃ wl : World, wl = wr := ⟨_, rfl⟩
                    have hst1 : ((overM xs d).take k).foldl (backStep xs c hour) ⟨idMax xs, [], heldL xs⟩ = backSt xs d c hour := by
                      rw [List.take_of_length_le (by rw [HN.out]; omega)]; rfl
                    rw [hst1] at Hinv1
                    have hbd1 := SBd.backs (xs := xs) (c := c) (h := hour) (overM xs d) 0 _ HSb.out (fun y hy => by have := (overM_amount Hbk.out (goodB_all (chkDu_ok Hd.out).2) hy).1; omega)
                    rw [Nat.zero_add, HN.out] at hbd1
                    have Hbd1 := Lib.hid (show SBd (idMax xs) N (backSt xs d c hour) from hbd1)
                    have Hlen := Lib.hid HD4.out.len
                    clear hst1 hbd1 h1
                    go_upto_region 31 with (fail)
                    go_wp2_with fail
                    refine (open_any L s xs a' n' cap' d _ (Hch4.out.below' HTl.out) Hbk.out (HD4.out.below' HTl.out) (goodB_all (chkDu_ok Hd.out).2) (by have := (chkDu_ok Hd.out).1; rw [Hlen.out] at this; omega)).mono ?_
                    rintro e wF ⟨vq, rfl, hrq, hBF⟩
                    have hql : (openL xs d).length ≤ 400 := Nat.le_trans (List.length_filterMap_le _ _) (chkDu_ok Hd.out).1
                    obtain ⟨aq, cq, rfl, hcq, hrdq, hlowq⟩ := Rd.of_own hrq du_vals_length (by omega) rfl (by unfold maxLen; omega)
                    obtain ⟨_, hbid, v, m, hbo, hrow, hm, hget, hown, hvl⟩ := Hinv1.out.opened hBF
                    have hTl := HT.out.size
                    have hwl := Hinv1.out.1.size
                    have HTF := Lib.hid (below_then HTl.out hBF (by omega))
                    have hlF : wl.heap.size ≤ wF.heap.size := hBF.size
                    have HOkF := Lib.hid (show SOk wF w4.heap.size wo.heap.size wA.heap.size v from ⟨by have := Hza.out; omega, by have := Hza.out; omega, by omega, fun e => by
                      rcases hown _ e with h | h
                      · cases h
                      · omega⟩)
                    have HinvF := Lib.hid (show SetInv wF w4.heap.size w4.heap.size wo.heap.size wA.heap.size v (backSt xs d c hour) wF from ⟨KeepB.refl _ _ _, hbid, v, m, hbo, hrow, hm, hget, fun k e => .inl e⟩)
                    have HSgeF := Lib.hid (show ∀ q, SetS w4.heap.size wo.heap.size wA.heap.size v q → w4.heap.size ≤ q from fun q e => by
                      rcases e with e | e | e | e
                      · omega
                      · omega
                      · have := Hza.out; omega
                      · rcases hown _ e with h | h
                        · cases h
                        · omega)
                    have Hrdq := Lib.hid hrdq
                    have Hlowq := Lib.hid (show ∀ q, aq = some q → q.block < wF.heap.size ∧ ¬ SetS w4.heap.size wo.heap.size wA.heap.size v q.block from fun q e => ⟨(hlowq q e).2, fun e' => by
                      have h2 := (hlowq q e).1
                      rcases e' with e' | e' | e' | e'
                      · omega
                      · have := Hza.out; omega
                      · omega
                      · have := hvl _ e'; omega⟩)
                    obtain ⟨N2, hN2⟩ : ∃ N2, (openL xs d).length = N2 := ⟨_, rfl⟩
                    rw [hN2] at hcq hql Hrdq ⊢
                    have HN2 := Lib.hid hN2
                    clear hN2 hBF hrq hrdq hlowq hbid hbo hrow hm hget hown hvl Hinv1 HTl HSge HSb Hinv HOk Hrd Hlow
                    go_wp2_with fail
                    go_loopw [121] (fun i wl => ∃ k : Nat, k ≤ N2 ∧ i = .int .i64 k ∧ SetInv wF w4.heap.size w4.heap.size wo.heap.size wA.heap.size v (((openL xs d).take k).foldl (payStep c hour) (backSt xs d c hour)) wl) (fun i _ => N2 - (intOf i).toNat)
                    case atStart => exact ⟨0, Nat.zero_le _, rfl, HinvF.out⟩
                    case round =>
                      obtain ⟨k2, hk2, rfl, hinv⟩ := hrel
                      have hHTl := hinv.below HTF.out HSgeF.out (by omega)
                      have h1 := hinv.1.rd Hrdq.out (fun q e _ => Hlowq.out q e)
                      have HTl := Lib.hid hHTl
                      have Hinv1 := Lib.hid hinv
                      clear hHTl hinv
                      by_cases hlt2 : k2 < N2
                      · obtain ⟨b, off, x, rfl, hb, hx, x0, x1, x2⟩ := h1.du hlt2
                        obtain ⟨hxa, ip, iq⟩ := openL_amount (goodB_all (chkDu_ok Hd.out).2) Hbk.out.has0 (List.mem_of_getElem? hx)
                        have hbd := SBd.pays (c := c) (h := hour) ((openL xs d).take k2) N _ Hbd1.out
                        have Hstep := Lib.hid (foldl_take_snoc (f := payStep c hour) (b := backSt xs d c hour) hx)
                        rw [List.length_take, Nat.min_eq_left (by rw [HN2.out]; omega)] at hbd
                        generalize ((openL xs d).take k2).foldl (payStep c hour) (backSt xs d c hour) = st at *
                        obtain ⟨am, ham⟩ : ∃ am, min x.amount (st.held x.parcel) = am := ⟨_, rfl⟩
                        have hhb := hbd.held x.parcel
                        have hab : 0 ≤ am ∧ am ≤ 1000000000 ∧ am ≤ st.held x.parcel := by omega
                        have e3 := du3_new wr x 41
                        have hfz : (wr.alloc (.cells #[.int .i64 x.party, .int .i64 x.parcel, .int .i64 x.amount] 41)).frozen? ⟨wr.heap.size, 2, none⟩ = false := by simp
                        have HBW := Lib.hid ((Below.refl wr.heap.size wr).alloc (Nat.le_refl _) (.cells #[.int .i64 x.party, .int .i64 x.parcel, .int .i64 x.amount] 41))
                        have hlo : (Instr.lookup 72 (.map (some wA.heap.size)) (.int .i64 x.parcel) false).run Tryz.prog (wr.alloc (.cells #[.int .i64 x.party, .int .i64 x.parcel, .int .i64 x.amount] 41)) = .ok (.int .i64 (st.held x.parcel)) (wr.alloc (.cells #[.int .i64 x.party, .int .i64 x.parcel, .int .i64 x.amount] 41)) :=
                          SetInv.look ip (Hinv1.out.later HBW.out)
                        have hkW : wr.heap.size < (wr.alloc (.cells #[.int .i64 x.party, .int .i64 x.parcel, .int .i64 x.amount] 41)).heap.size := by simp
                        have Hbd := Lib.hid hbd
                        have Ham := Lib.hid ham
                        clear hbd hx h1 hhb
                        go_upto_region 34 with (fail)
                        generalize wr.alloc (.cells #[.int .i64 x.party, .int .i64 x.parcel, .int .i64 x.amount] 41) = W at *
                        obtain ⟨e0, e1, e2⟩ := e3
                        go_upto_region 35 with (fail)
                        have HB3 := Lib.hid (HBW.out.setCell (p := ⟨wr.heap.size, 2, none⟩) (Nat.le_refl _) (.int .i64 am))
                        have g0 : (W.setCell ⟨wr.heap.size, 2, none⟩ (.int .i64 am)).cell? ⟨wr.heap.size, 0, none⟩ = some (.int .i64 x.party) := by rw [World.cell?_setCell_other _ _ _ _ (by simp)]; exact e0
                        have g1 : (W.setCell ⟨wr.heap.size, 2, none⟩ (.int .i64 am)).cell? ⟨wr.heap.size, 1, none⟩ = some (.int .i64 x.parcel) := by rw [World.cell?_setCell_other _ _ _ _ (by simp)]; exact e1
                        have g2 : (W.setCell ⟨wr.heap.size, 2, none⟩ (.int .i64 am)).cell? ⟨wr.heap.size, 2, none⟩ = some (.int .i64 am) := World.cell?_setCell_same' _ _ _ (by rw [e2]; rfl)
                        have hk3 : wr.heap.size < (W.setCell ⟨wr.heap.size, 2, none⟩ (.int .i64 am)).heap.size := by simpa using hkW
                        have HTW := Lib.hid ((Hinv1.out.later HB3.out).below HTF.out HSgeF.out (by omega))
                        clear e0 e1 e2 hlo hfz hkW ham
                        generalize W.setCell ⟨wr.heap.size, 2, none⟩ (.int .i64 am) = W3 at *
                        go_wp2_with fail
                        refine (cause_any x.parcel w.heap.size (w.heap.size + 1) a'' n'' cap'' c hour _ (HTW.out.cell (p := ⟨w.heap.size, 0, none⟩) hW4.1 |>.trans HC4.out) (HTW.out.cell (p := ⟨w.heap.size + 1, 0, none⟩) hW4.2 |>.trans HH4.out) (HCa4.out.below' HTW.out)).mono ?_
                        rintro e wD ⟨rfl, hBD⟩
                        generalize hy : (causeL c x.parcel hour).getD zCa = y
                        generalize hbs : (causeL c x.parcel hour).isSome = bs
                        have Hy := Lib.hid hy
                        have Hbs := Lib.hid hbs
                        clear hy hbs
                        have hWD := hBD.size
                        have HBE := Lib.hid (hBD.alloc hBD.size (.cells #[.int .i64 y.parcel, .int .i64 y.reason, .int .i64 y.known] 45))
                        have e4 := ca3_new wD y
                        have hsE : wD.heap.size < (wD.alloc (.cells #[.int .i64 y.parcel, .int .i64 y.reason, .int .i64 y.known] 45)).heap.size := by simp
                        have e3 := du3_later ⟨g0, g1, g2⟩ HBE.out
                        clear hBD g0 g1 g2
                        unfold caV
                        go_upto_region 36 with (fail)
                        generalize wD.alloc (.cells #[.int .i64 y.parcel, .int .i64 y.reason, .int .i64 y.known] 45) = wE at *
                        have HE := Lib.hid (And.intro e3 e4)
                        obtain ⟨e0, e1, e2⟩ := e3
                        obtain ⟨d0, d1, d2⟩ := e4
                        cases bs with
                        | false =>
                          have Hst := Lib.hid (Hstep.out.trans (payStep_none (s := st) (Option.isSome_eq_false_iff.1 Hbs.out |> Option.isNone_iff_eq_none.1)))
                          have HinvE := Lib.hid (Hinv1.out.later (below_then HB3.out HBE.out (by omega)))
                          go_upto_region 39 with (fail)
                          go_wp2_with fail
                          exact ⟨⟨k2 + 1, by omega, by go_num, by rw [Hst.out]; exact HinvE.out⟩, by simp [intOf]; omega⟩
                        | true =>
                          have Hca2 := Lib.hid (show causeL c x.parcel hour = some y by
                            have h1 := Hbs.out
                            have h2 := Hy.out
                            cases h3 : causeL c x.parcel hour with
                            | none => rw [h3] at h1; cases h1
                            | some y' => rw [h3] at h2; exact congrArg some h2)
                          have HinvE := Lib.hid (Hinv1.out.later (below_then HB3.out HBE.out (by omega)))
                          by_cases hpos : 0 < am
                          · have Hst := Lib.hid (Hstep.out.trans (payStep_yes (s := st) Hca2.out (by rw [Ham.out]; exact hpos)))
                            have hwE := HBE.out.size
                            obtain ⟨kb, hbid, v', m, hbo, hrow, hm, hget, hown, hvl⟩ := Hinv1.out.opened (below_then HB3.out HBE.out (by omega))
                            have HTE := Lib.hid (HinvE.out.below HTF.out HSgeF.out (by omega))
                            have hidm := idMax_bd Hbk.out.okl
                            have hb1 := Hbd.out.id
                            have hb2 := Hbd.out.out
                            have hhour := (HTE.out.cell (p := ⟨w.heap.size + 1, 0, none⟩) hW4.2).trans HH4.out
                            have hTz : w4.heap.size ≤ wE.heap.size := HTE.out.size
                            have hpost := post_any 2 (cutDu st x) y w4.heap.size wo.heap.size (w.heap.size + 1) w4.heap.size st.id hour v' st.out wE hbid hbo hhour hrow hTz (by omega) (by omega) (by omega) (by omega)
                            have hcut : (cutDu st x).party = x.party ∧ (cutDu st x).parcel = x.parcel ∧ (cutDu st x).amount = am := ⟨rfl, rfl, Ham.out⟩
                            rw [hcut.1, hcut.2.1, hcut.2.2] at hpost
                            have Hpost := Lib.hid hpost
                            have Hkb := Lib.hid kb
                            have Hm := Lib.hid hm
                            have Hget := Lib.hid hget
                            have Hown := Lib.hid hown
                            have Hvl := Lib.hid hvl
                            have Hhb := Lib.hid (Hbd.out.held x.parcel)
                            clear hpost kb hbid hbo hrow hm hget hown hvl hidm hb1 hb2 hhour hcut
                            go_upto_region 37 with (fail)
                            go_wp2_with fail
                            refine Hpost.out.mono ?_
                            rintro e w8 hp
                            obtain ⟨rfl, hinv8, hk8⟩ := SetInv.posted HOkF.out Hkb.out Hm.out Hget.out Hown.out hp
                            have hne8 : ¬ (wr.heap.size = w4.heap.size ∨ wr.heap.size = wo.heap.size ∨ v'.ownBlock = some wr.heap.size) := by
                              have := Hinv1.out.1.size
                              rintro (e | e | e)
                              · omega
                              · have := Hza.out; omega
                              · have := Hvl.out _ e; omega
                            have g0 := hk8.cell e0 (show wr.heap.size < wE.heap.size by omega) hne8
                            have g1 := hk8.cell e1 (show wr.heap.size < wE.heap.size by omega) hne8
                            have g2 := hk8.cell e2 (show wr.heap.size < wE.heap.size by omega) hne8
                            obtain ⟨w9, hup, hinv9⟩ := hinv8.update HOkF.out (u := st.held x.parcel - am) ip
                            have hlo : (Instr.lookup 72 (.map (some wA.heap.size)) (.int .i64 x.parcel) false).run Tryz.prog w8 = .ok (.int .i64 (st.held x.parcel)) w8 := SetInv.look (st := ⟨st.id + 1, st.out ++ [postP hour 2 (cutDu st x) y (st.id + 1)], st.held⟩) ip hinv8
                            have hwrap : IntKind.i64.wrap (st.held x.parcel - am) = st.held x.parcel - am := IntWalk.i64_in _ (by have := Hhb.out; omega)
                            have Hinv9 := Lib.hid hinv9
                            clear hinv8 hk8 hinv9 hp e0 e1 e2 hne8
                            go_wp2_with fail
                            refine ⟨⟨k2 + 1, by omega, by go_num, ?_⟩, by simp [intOf]; omega⟩
                            rw [Hst.out, Ham.out]
                            have := Hinv9.out
                            rw [show (fun k => if x.parcel = k then st.held x.parcel - am else st.held k) = (fun k => if x.parcel = k then st.held k - am else st.held k) from funext fun k => by split <;> simp_all] at this
                            exact this
                          · have Hst := Lib.hid (Hstep.out.trans (payStep_not (s := st) Hca2.out (by rw [Ham.out]; exact hpos)))
                            go_upto_region 39 with (fail)
                            go_wp2_with fail
                            exact ⟨⟨k2 + 1, by omega, by go_num, by rw [Hst.out]; exact HinvE.out⟩, by simp [intOf]; omega⟩
                      · have hst2 : ((openL xs d).take k2).foldl (payStep c hour) (backSt xs d c hour) = settleSt xs d c hour := by
                          rw [List.take_of_length_le (by rw [HN2.out]; omega)]; rfl
                        rw [hst2] at Hinv1
                        have hbd2 := SBd.pays (c := c) (h := hour) (openL xs d) N _ Hbd1.out
                        rw [HN2.out] at hbd2
                        have hb2 : (settleSt xs d c hour).out.length ≤ N + N2 := hbd2.out
                        have hb3 : idMax xs ≤ (settleSt xs d c hour).id ∧ (settleSt xs d c hour).id ≤ idMax xs + ((N + N2 : Nat) : Int) := hbd2.id
                        have hidm := idMax_bd Hbk.out.okl
                        have hn4 : n ≤ 400 := by have := Hbk.out.len; rw [Hl.out] at this; exact this
                        obtain ⟨_, hbid, v2, m2, hbo, hrow, _, _, _⟩ := Hinv1.out
                        obtain ⟨ar, cr, rfl, hcr, _, _⟩ := Rd.of_own (k := 8) hrow po_vals_length (by omega) rfl (by unfold maxLen; omega)
                        have hrow2 := ownsRow_mono hrow (show w.heap.size ≤ w4.heap.size from HB4.out.size)
                        obtain ⟨sL, hsL⟩ : ∃ sL, (settleSt xs d c hour).out.length = sL := ⟨_, rfl⟩
                        obtain ⟨sI, hsI⟩ : ∃ sI, (settleSt xs d c hour).id = sI := ⟨_, rfl⟩
                        rw [hsL] at hb2 hcr hrow2 hbo
                        rw [hsI] at hb3 hbid
                        have f0 := hbid.cell
                        have f1 := hbo.cell
                        have HR := Lib.hid hrow2
                        have HBf := Lib.hid (HB4.out.trans ((show Below w.heap.size w4 wr from (HTl.out.mono HB4.out.size))))
                        have HsL := Lib.hid hsL
                        have HsI := Lib.hid hsI
                        have hs0 : 0 ≤ sI ∧ sI ≤ 1000800 := by omega
                        clear hst2 hbd2 hb3 hidm hbid hbo hrow hrow2 hsL hsI Hinv1
                        have hres : ∀ e v, settleE xs d c hour = e → ((¬ e = 0 ∧ v = Value.slice none 0 0) ∨ (e = 0 ∧ v = Value.slice ar sL cr)) → SettlePost w xs d c hour (.returned (.tuple #[v, .int .i64 e])) wr := by
                          rintro e v rfl (⟨h1, rfl⟩ | ⟨h1, rfl⟩)
                          · exact ⟨HBf.out, .inl ⟨h1, rfl⟩⟩
                          · refine ⟨HBf.out, .inr ⟨h1, _, by rw [h1], ?_⟩⟩
                            rw [HsL.out]; exact HR.out
                        have hlim : (400 < n + sL ∨ (0 < sL ∧ 1000000 < sI)) → settleE xs d c hour = 2 := fun h => settleE_lim Hpre.out (by rw [HsL.out, HsI.out, Hl.out]; exact h)
                        have hok : ¬ (400 < n + sL ∨ (0 < sL ∧ 1000000 < sI)) → settleE xs d c hour = 0 := fun h => settleE_ok Hpre.out (by rw [HsL.out, HsI.out, Hl.out]; exact h)
                        have Hres := Lib.hid hres
                        have Hlim := Lib.hid hlim
                        have Hok := Lib.hid hok
                        have hbs : (n : Int) ≤ 400 ∧ (0 : Int) ≤ (n : Int) ∧ (0 : Int) ≤ (sL : Int) ∧ (sL : Int) ≤ 800 := by omega
                        obtain ⟨z1, z2, z3, z4⟩ := hbs
                        clear hres hlim hok
                        go_upto_region 40 with (fail)
                        by_cases q1 : 400 < n + sL
                        · have q1' : (400 : Int) < (n : Int) + (sL : Int) := by omega
                          have He := Lib.hid (Hlim.out (.inl q1))
                          clear q1
                          go_wp2_with fail
                          go_ret2
                          exact Hres.out _ _ He.out (.inl ⟨by omega, rfl⟩)
                        · have q1' : ¬ (400 : Int) < (n : Int) + (sL : Int) := by omega
                          have Hq1 := Lib.hid q1
                          clear q1
                          by_cases q2 : 0 < sL
                          · have q2' : (0 : Int) < (sL : Int) := by omega
                            by_cases q3 : 1000000 < sI
                            · have He := Lib.hid (Hlim.out (.inr ⟨q2, q3⟩))
                              clear q2
                              go_wp2_with fail
                              go_ret2
                              exact Hres.out _ _ He.out (.inl ⟨by omega, rfl⟩)
                            · have He := Lib.hid (Hok.out (fun h => h.elim Hq1.out (fun h => q3 h.2)))
                              clear q2
                              go_wp2_with fail
                              go_ret2
                              exact Hres.out _ _ He.out (.inr ⟨rfl, rfl⟩)
                          · have q2' : ¬ (0 : Int) < (sL : Int) := by omega
                            have He := Lib.hid (Hok.out (fun h => h.elim Hq1.out (fun h => q2 h.1)))
                            clear q2
                            go_wp2_with fail
                            go_ret2
                            exact Hres.out _ _ He.out (.inr ⟨rfl, rfl⟩)
              · unfold NextMore
                intro j x w7 hj hx hl hrg2 hlt hg2 hs2 hen
                have hne : some w4.heap.size ≠ some w5.heap.size := by rw [Hs5.out]; simp
                have hb7 := Hbi.out.kept hg2 hne
                have HB7 := Lib.hid (HB.out.grown hg2 HB.out.size (fun k e => by cases e; rw [Hs5.out]; omega))
                have hbc := hb7.cell
                have hbf := hb7.frozen
                have Hrg2 := Lib.hid hrg2
                have Hlt := Lib.hid hlt
                have Hsn := Lib.hid (show (picks s.ids (js ++ [j])).map (·.1) = (picks s.ids js).map (·.1) ++ [x.1] by rw [picks_snoc hx]; simp)
                have hxi := Hbk.out.idI64 (k := x.1) (List.mem_map_of_mem (List.mem_of_getElem? hx))
                have Hb7 := Lib.hid hb7
                clear hj hx hl hrg2 hlt hg2 hs2 hb7
                simp only [kInt, vBool] at hen
                go_wp2_with fail
                obtain ⟨l1, l2⟩ := Hrg2.out.lts
                have n1 : L.ids ≠ w4.heap.size := by omega
                have n2 : w5.heap.size ≠ w4.heap.size := by rw [Hs5.out]; omega
                refine ⟨⟨js ++ [j], Hrg2.out.kept (grownBy_setCell'' _ _ _ _) (by simp [n1]) (by simp [n2]), by rw [Hsn.out, maxOf_snoc]; exact Hb7.out.set _, HB7.out.setCell (Nat.le_refl _) _⟩, ?_⟩
                rw [left_set l1 l2 n1 n2]; exact Hlt.out
        · have hd1 : (chkCa c != 0) = true := by simp [hca]
          have Hca := Lib.hid hca
          clear hca
          go_wp2_with fail
          go_ret2
          exact settle_bad HB3.out (preE_d Hc.out Ho.out Hd.out Hca.out) Hca.out
      · have hd1 : (chkDu d != 0) = true := by simp [hd]
        have Hd := Lib.hid hd
        clear hd
        go_wp2_with fail
        go_ret2
        exact settle_bad HB2.out (preE_c Hc.out Ho.out Hd.out) Hd.out
    · have Ho := Lib.hid ho
      have hin : decide (0 ≤ hour ∧ hour ≤ 1000000) = false := by simp [ho]
      clear ho
      go_wp2_with fail
      refine (in_any _ _ _ _).mono ?_
      rintro e wi ⟨rfl, rfl⟩
      rw [hin]
      clear hin
      go_wp2_with fail
      go_ret2
      exact settle_bad HB1.out (preE_b Hc.out Ho.out) (by omega)
  · have HB1 := Lib.hid (below_then HB0.out hB (Nat.le_refl _))
    have Hc := Lib.hid hc
    have hc1 : ((checkL xs).2 != 0) = true := by simp [hc]
    clear hB hc
    go_wp2_with fail
    go_ret2
    exact settle_bad HB1.out (preE_a Hc.out) Hc.out
end Go.Proofs.YtjleembfocghlaaGreatDoor
