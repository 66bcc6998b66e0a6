/- The walk of opened. -/
import Derived.Test.YtehplmeckfinoaaGreatDoorCLast
import Derived.Test.YtehplmeckfinoaaGreatDoorCGood
import Derived.Test.YtehplmeckfinoaaGreatDoorCTreeW
import Derived.Test.YtehplmeckfinoaaGreatDoorCCheck
import Derived.Test.YtehplmeckfinoaaGreatDoorCFind
import Derived.Test.YtehplmeckfinoaaGreatDoorCMiss
set_option linter.unusedSimpArgs false
set_option linter.unusedVariables false
namespace Go.Proofs.YtehplmeckfinoaaGreatDoor
open Go.RowKit Go.Shelf
def OpenPost (w : World) (xs : List Pa) (known loss : Int) (e : Ending) (w' : World) : Prop :=
 ∃ pa pn pc ta tn tc, e = .returned (.tuple #[.agg #[.slice pa pn pc, .slice ta tn tc], .int .i64 (openE xs loss)]) ∧ w'.ownsRow w.heap.size 42 14 (.slice pa pn pc) (papersO xs known loss).length ((papersO xs known loss).flatMap Pa.vals) ∧
  w'.ownsRow w.heap.size 42 14 (.slice ta tn tc) (totalsO xs known loss).length ((totalsO xs known loss).flatMap Pa.vals) ∧ Below w.heap.size w w'
theorem openE_bad {xs : List Pa} {loss c : Int} (h : (checkC xs).2 = c) (h0 : ¬ c = 0) : openE xs loss = c := by unfold openE; rw [h, if_neg h0]
theorem openE_arg {xs : List Pa} {loss : Int} (h : (checkC xs).2 = 0) (hw : within loss 1 20 = false) : openE xs loss = 1 := by unfold openE; rw [if_pos h, hw]; rfl
theorem openE_ok {xs : List Pa} {loss : Int} (h : (checkC xs).2 = 0) (hw : within loss 1 20 = true) : openE xs loss = 0 := by unfold openE; rw [if_pos h, hw]; rfl
theorem open_none {xs : List Pa} {known loss : Int} (h : ¬ openE xs loss = 0) : papersO xs known loss = [] ∧ totalsO xs known loss = [] := by
 unfold papersO totalsO; rw [if_neg h, if_neg h]; exact ⟨rfl, rfl⟩
theorem open_some {xs : List Pa} {known loss : Int} (h : openE xs loss = 0) : papersO xs known loss = papersL xs known loss ∧ totalsO xs known loss = totalsL xs known loss := by
 unfold papersO totalsO; rw [if_pos h, if_pos h]; exact ⟨rfl, rfl⟩
theorem open_check {xs : List Pa} {loss : Int} (h : openE xs loss = 0) : (checkC xs).2 = 0 := by
 unfold openE at h
 split at h
 · assumption
 · exact h
theorem two_set {W : World} {B : Nat} {a b u v : Value} (h : BoxG W B [a, b]) : ((W.setCell ⟨B, 0, none⟩ u).setCell ⟨B, 1, none⟩ v).cell? ⟨B, 0, none⟩ = some u ∧ ((W.setCell ⟨B, 0, none⟩ u).setCell ⟨B, 1, none⟩ v).cell? ⟨B, 1, none⟩ = some v ∧
 B < ((W.setCell ⟨B, 0, none⟩ u).setCell ⟨B, 1, none⟩ v).heap.size ∧ Keeps [B] W ((W.setCell ⟨B, 0, none⟩ u).setCell ⟨B, 1, none⟩ v) := by
 have h1 := (h.set 0 u (by simp)).set 1 v (by simp)
 have h2 := h1.2.2 0 (by simp)
 have h3 := h1.2.2 1 (by simp)
 simp only [List.set_cons_zero, List.set_cons_succ, List.getElem?_cons_zero, List.getElem?_cons_succ] at h2 h3
 exact ⟨h2, h3, h1.1, (Keeps.setCell W ⟨B, 0, none⟩ _).then_set ⟨B, 1, none⟩ _ (.inl (by simp))⟩
set_option maxRecDepth 100000 in
set_option maxHeartbeats 4000000 in
theorem opened_any (a : Option Addr) (n cap : Nat) (xs : List Pa) (hsh : ∀ x ∈ xs, x.Short) (known loss : Int) (w : World) (h : Rd Pa.vals 14 w a n xs) (hcap : n ≤ cap) :
 Calls Tryz.prog 57 #[.slice a n cap, .int .i64 known, .int .i64 loss] w (OpenPost w xs known loss) := by
 have hB0 := al' (Below.refl w.heap.size w) (.cells #[.slice none 0 0, .slice none 0 0] 62)
 have hb0 := BoxG.made w [.slice none 0 0, .slice none 0 0] 62
 have HR := Hd (h.below' hB0)
 have Hl := Hd h.len
 have hsz : (w.alloc (.cells #[.slice none 0 0, .slice none 0 0] 62)).heap.size = w.heap.size + 1 := by simp
 clear h
 go_enter Tryz.func57, Tryz.ntmps57
 go_upto_region 1 with (fail)
 generalize w.alloc (.cells #[.slice none 0 0, .slice none 0 0] 62) = w1 at *
 have HB0 := Hd hB0
 have Hb0 := Hd hb0
 have Hsz := Hd hsz
 clear hB0 hb0 hsz
 obtain ⟨ci, hci⟩ : ∃ c, (checkC xs).1 = c := ⟨_, rfl⟩
 obtain ⟨ce, hce⟩ : ∃ c, (checkC xs).2 = c := ⟨_, rfl⟩
 have CC := Hd (check_any a n cap xs hsh w1 HR.out hcap)
 rw [hci, hce] at CC
 have HCe := Hd hce
 clear hce hci
 by_cases hc : ce = 0
 · have hc1 : (ce != 0) = false := by simp [hc]
   have HC0 := Hd (HCe.out.trans hc)
   cases hw : within loss 1 20 with
   | true =>
     have HE := Hd (openE_ok HC0.out hw)
     have CW := Hd (show ∀ W, Calls Tryz.prog 35 #[.int .i64 loss, .int .i64 1, .int .i64 20] W fun e w' => e = .returned (.bool true) ∧ w' = W from fun W => by have := within_any loss 1 20 W; rwa [hw] at this)
     have hg := check_good HC0.out
     have CL := Hd (fun (W : World) (hW : Rd Pa.vals 14 W a n xs) => last_any a n cap xs (fun x hx => formed_bd (hg.1 x hx)) known loss W hW (by rw [← Hl.out]; omega))
     clear hc hg
     go_wp2_with (first
      | (go_at_call 53; refine CC.out.mono ?_; rintro e w2 ⟨rfl, hB2⟩)
      | (go_at_call 35; refine (CW.out _).mono ?_; rintro e w3 ⟨rfl, rfl⟩)
      | (go_at_call 101; refine (CL.out _ (HR.out.below' hB2)).mono ?_; rintro e w4 ⟨pa, pn, pc, ta, tn, tc, rfl, hrp, hrt, hB4⟩; have hb4 := (Hb0.out.below' hB2).below' hB4; have r0 := hb4.2.2 0 (by simp); have r1 := hb4.2.2 1 (by simp); have rf := hb4.2.1; have rl := hb4.1; simp only [List.getElem?_cons_zero, List.getElem?_cons_succ] at r0 r1))
     obtain ⟨s0, s1, sl, sk⟩ := two_set (u := .slice pa pn pc) (v := .slice ta tn tc) hb4
     generalize (w4.setCell ⟨w.heap.size, 0, none⟩ (.slice pa pn pc)).setCell ⟨w.heap.size, 1, none⟩ (.slice ta tn tc) = wf at *
     refine bodyPost_ret (v := .tuple #[.agg #[.slice pa pn pc, .slice ta tn tc], .int .i64 0]) (by simp [results, Tryz.results57, go_sem, s0, s1, sl]) rfl ?_
     obtain ⟨p1, p2⟩ := open_some (known := known) HE.out
     have hs2 := hB2.size
     have hs1 := Hsz.out
     refine ⟨pa, pn, pc, ta, tn, tc, by rw [HE.out], ?_, ?_, ?_⟩
     · rw [p1]; exact ownsRow_mono (sk.own hrp (fun r e hm => by have := (hrp.lt r e).1; have h2 := List.mem_singleton.1 hm; omega)) (by omega)
     · rw [p2]; exact ownsRow_mono (sk.own hrt (fun r e hm => by have := (hrt.lt r e).1; have h2 := List.mem_singleton.1 hm; omega)) (by omega)
     · exact sk.below_then ((HB0.out.trans (hB2.mono (by omega))).trans (hB4.mono (by omega))) (fun x hx => by have := List.mem_singleton.1 hx; omega) (Nat.le_refl _)
   | false =>
     have HE := Hd (openE_arg HC0.out hw)
     have CW := Hd (show ∀ W, Calls Tryz.prog 35 #[.int .i64 loss, .int .i64 1, .int .i64 20] W fun e w' => e = .returned (.bool false) ∧ w' = W from fun W => by have := within_any loss 1 20 W; rwa [hw] at this)
     clear hc
     go_wp2_with (first
      | (go_at_call 53; refine CC.out.mono ?_; rintro e w2 ⟨rfl, hB2⟩; have hb2 := Hb0.out.below' hB2; have r0 := hb2.2.2 0 (by simp); have r1 := hb2.2.2 1 (by simp); have rf := hb2.2.1; have rl := hb2.1; simp only [List.getElem?_cons_zero, List.getElem?_cons_succ] at r0 r1)
      | (go_at_call 35; refine (CW.out _).mono ?_; rintro e w3 ⟨rfl, hw3⟩; obtain rfl := hw3.symm))
     obtain ⟨s0, s1, sl, sk⟩ := two_set (u := .slice none 0 0) (v := .slice none 0 0) (Hb0.out.below' hB2)
     generalize (w2.setCell ⟨w.heap.size, 0, none⟩ (.slice none 0 0)).setCell ⟨w.heap.size, 1, none⟩ (.slice none 0 0) = wf at *
     refine bodyPost_ret (v := .tuple #[.agg #[.slice none 0 0, .slice none 0 0], .int .i64 1]) (by simp [results, Tryz.results57, go_sem, s0, s1, sl]) rfl ?_
     obtain ⟨p1, p2⟩ := open_none (known := known) (show ¬ openE xs loss = 0 from by rw [HE.out]; decide)
     refine ⟨none, 0, 0, none, 0, 0, by rw [HE.out], by rw [p1]; exact World.ownsRow_nil _ _ _ _, by rw [p2]; exact World.ownsRow_nil _ _ _ _, ?_⟩
     exact sk.below_then (HB0.out.trans (hB2.mono (by rw [Hsz.out]; omega))) (fun x hx => by have := List.mem_singleton.1 hx; omega) (Nat.le_refl _)
 · have hc1 : (ce != 0) = true := by simp [hc]
   have HE := Hd (openE_bad (loss := loss) HCe.out hc)
   have HNc := Hd hc
   clear hc
   go_wp2_with (first
    | (go_at_call 53; refine CC.out.mono ?_; rintro e w2 ⟨rfl, hB2⟩; have hb2 := Hb0.out.below' hB2; have r0 := hb2.2.2 0 (by simp); have r1 := hb2.2.2 1 (by simp); have rf := hb2.2.1; have rl := hb2.1; simp only [List.getElem?_cons_zero, List.getElem?_cons_succ] at r0 r1))
   obtain ⟨s0, s1, sl, sk⟩ := two_set (u := .slice none 0 0) (v := .slice none 0 0) (Hb0.out.below' hB2)
   generalize (w2.setCell ⟨w.heap.size, 0, none⟩ (.slice none 0 0)).setCell ⟨w.heap.size, 1, none⟩ (.slice none 0 0) = wf at *
   refine bodyPost_ret (v := .tuple #[.agg #[.slice none 0 0, .slice none 0 0], .int .i64 ce]) (by simp [results, Tryz.results57, go_sem, s0, s1, sl]) rfl ?_
   obtain ⟨p1, p2⟩ := open_none (known := known) (show ¬ openE xs loss = 0 from by rw [HE.out]; exact HNc.out)
   refine ⟨none, 0, 0, none, 0, 0, by rw [HE.out], by rw [p1]; exact World.ownsRow_nil _ _ _ _, by rw [p2]; exact World.ownsRow_nil _ _ _ _, ?_⟩
   exact sk.below_then (HB0.out.trans (hB2.mono (by rw [Hsz.out]; omega))) (fun x hx => by have := List.mem_singleton.1 hx; omega) (Nat.le_refl _)
def RootAt (w' : World) (n1 : Nat) (pa ta tp : Option Addr) (t0 : Option Tr) : Prop :=
 ∃ t, t0 = some t.sh ∧ tp = some ⟨t.b, 0, none⟩ ∧ (∀ M : List Nat, (∀ x ∈ M, x < n1) → TreeAt (M ++ t.bs) w' t) ∧ t.bs.Nodup ∧ Bd t ∧ (∀ x ∈ t.bs, n1 ≤ x) ∧ (∀ p, pa = some p → p.block < n1) ∧ (∀ p, ta = some p → p.block < n1)
def RootPost (w : World) (xs : List Pa) (known loss : Int) (tb : Bool) (e : Ending) (w' : World) : Prop :=
 ∃ pa pn pc ta tn tc tp, e = .returned (.tuple #[.agg #[.slice pa pn pc, .slice ta tn tc], .pointer tp, .int .i64 (rootE xs known loss tb)]) ∧ w'.ownsRow w.heap.size 42 14 (.slice pa pn pc) (papersO xs known loss).length ((papersO xs known loss).flatMap Pa.vals) ∧
  w'.ownsRow w.heap.size 42 14 (.slice ta tn tc) (totalsO xs known loss).length ((totalsO xs known loss).flatMap Pa.vals) ∧ Below w.heap.size w w' ∧
  (rootE xs known loss tb = 0 → ∃ n1, w.heap.size ≤ n1 ∧ RootAt w' n1 pa ta tp (rootT xs known loss))
def There (w : World) (g : Nat) (cb : Array Value) (xs : List Pa) (known loss : Int) (tb : Bool) : Prop :=
 openE xs loss = 0 → ∀ W pa pn pc ta tn tc, Below w.heap.size w W → Rd Pa.vals 14 W pa pn (papersL xs known loss) → Calls Tryz.prog g (#[.agg #[.slice pa pn pc, .slice ta tn tc]] ++ cb) W fun e W' => e = .returned (.bool tb) ∧ Below W.heap.size W W'
theorem hasB_all (ids : List Int) : hasB true ids = fun _ => true := by funext i; rfl
theorem rootE_bad {xs : List Pa} {known loss : Int} {tb : Bool} (h : ¬ openE xs loss = 0) : rootE xs known loss tb = openE xs loss := by unfold rootE; rw [if_neg h]
theorem rootE_none {xs : List Pa} {known loss : Int} (h : openE xs loss = 0) : rootE xs known loss false = 5 := by unfold rootE; rw [if_pos h]; rfl
theorem rootE_tree {xs : List Pa} {known loss : Int} (h : openE xs loss = 0) : rootE xs known loss true = if (rootT xs known loss).isSome then 0 else 11 := by unfold rootE rootT; rw [if_pos h]; rfl
theorem rows_lt {w : World} {base k n cap m : Nat} {e : TypeId} {a : Option Addr} {xs : List Value} (h : w.ownsRow base e k (.slice a n cap) m xs) : ∀ p, a = some p → base ≤ p.block ∧ p.block < w.heap.size :=
 fun p e => h.lt p.block (by rw [e]; simp [Value.ownBlock])
theorem pair_facts {W : World} {B : Nat} {a b : Value} (h : BoxG W B [a, b]) : W.cell? ⟨B, 0, none⟩ = some a ∧ W.cell? ⟨B, 1, none⟩ = some b ∧ (∀ j, W.frozen? ⟨B, j, none⟩ = false) ∧ B < W.heap.size := by
 have h2 := h.2.2 0 (by simp)
 have h3 := h.2.2 1 (by simp)
 simp only [List.getElem?_cons_zero, List.getElem?_cons_succ] at h2 h3
 exact ⟨h2, h3, h.2.1, h.1⟩
set_option maxRecDepth 100000 in
set_option maxHeartbeats 4000000 in
theorem rooted_any (a : Option Addr) (n cap : Nat) (xs : List Pa) (hsh : ∀ x ∈ xs, x.Short) (known loss : Int) (g : Nat) (cb : Array Value) (eg : ∀ args w, (callFunc g args).run Tryz.prog w = .ok (.enter g args) w) (tb : Bool) (w : World) (h : Rd Pa.vals 14 w a n xs) (hcap : n ≤ cap)
 (hth : There w g cb xs known loss tb) :
 Calls Tryz.prog 26 #[.slice a n cap, .int .i64 known, .int .i64 loss, .func (.func g) #[] cb] w (RootPost w xs known loss tb) := by
 have hB0 := al' (Below.refl w.heap.size w) (.cells #[.slice none 0 0, .slice none 0 0] 62)
 have hb0 := BoxG.made w [.slice none 0 0, .slice none 0 0] 62
 have HR := Hd (h.below' hB0)
 have hsz : (w.alloc (.cells #[.slice none 0 0, .slice none 0 0] 62)).heap.size = w.heap.size + 1 := by simp
 have HTh := Hd hth
 clear h hth
 go_enter Tryz.func26, Tryz.ntmps26
 go_upto_region 1 with (fail)
 generalize w.alloc (.cells #[.slice none 0 0, .slice none 0 0] 62) = w1 at *
 have HB0 := Hd hB0
 have Hb0 := Hd hb0
 have Hsz := Hd hsz
 clear hB0 hb0 hsz
 have CO := Hd (opened_any a n cap xs hsh known loss w1 HR.out hcap)
 go_upto_region 2 with (go_at_call 57; refine CO.out.mono ?_; rintro e w2 ⟨pa, pn, pc, ta, tn, tc, rfl, hrp, hrt, hB2⟩)
 have hb2 := (Hb0.out.below' hB2).below' (al' (Below.refl _ _) (.cells #[.slice pa pn pc, .slice ta tn tc] 62))
 have hbm := BoxG.made w2 [.slice pa pn pc, .slice ta tn tc] 62
 have hB3 := hB2.trans ((al' (Below.refl w2.heap.size w2) (.cells #[.slice pa pn pc, .slice ta tn tc] 62)).mono hB2.size)
 have hrp3 := own_later' hrp (al' (Below.refl w2.heap.size w2) (.cells #[.slice pa pn pc, .slice ta tn tc] 62))
 have hrt3 := own_later' hrt (al' (Below.refl w2.heap.size w2) (.cells #[.slice pa pn pc, .slice ta tn tc] 62))
 have hz2 := hB2.size
 have lp := rows_lt hrp
 have lt := rows_lt hrt
 have HLp := Hd (And.intro lp lt)
 have hz3 : (w2.alloc (.cells #[.slice pa pn pc, .slice ta tn tc] 62)).heap.size = w2.heap.size + 1 := by simp
 clear lp lt hrp hrt hB2
 generalize w2.alloc (.cells #[.slice pa pn pc, .slice ta tn tc] 62) = w3 at *
 obtain ⟨B3, hB3e⟩ : ∃ B, w2.heap.size = B := ⟨_, rfl⟩
 rw [hB3e] at hbm hz2 hz3 HLp ⊢
 have hs1 := Hsz.out
 have HZ := Hd (show w.heap.size < B3 ∧ B3 < w3.heap.size from by omega)
 have Hb2 := Hd hb2
 have Hbm := Hd hbm
 have HB3 := Hd hB3
 have HRp := Hd hrp3
 have HRt := Hd hrt3
 have HBw := Hd (HB0.out.trans (hB3.mono (by omega)))
 clear hb2 hB3 hrp3 hrt3 hz2 hz3 hB3e CO
 have r0 := Hb2.out.2.2 0 (by simp)
 have r1 := Hb2.out.2.2 1 (by simp)
 have rf := Hb2.out.2.1
 have rl := Hb2.out.1
 have m0 := hbm.2.2 0 (by simp)
 have m1 := hbm.2.2 1 (by simp)
 have ml := hbm.1
 simp only [List.getElem?_cons_zero, List.getElem?_cons_succ] at r0 r1 m0 m1
 clear hbm hs1
 have hfin : ∀ (W : World) (tp : Option Addr) (c : Int), Below w3.heap.size w3 W → rootE xs known loss tb = c → (c = 0 → ∃ n1, w.heap.size ≤ n1 ∧ RootAt ((W.setCell ⟨w.heap.size, 0, none⟩ (.slice pa pn pc)).setCell ⟨w.heap.size, 1, none⟩ (.slice ta tn tc)) n1 pa ta tp (rootT xs known loss)) →
  ∃ wf, (W.setCell ⟨w.heap.size, 0, none⟩ (.slice pa pn pc)).setCell ⟨w.heap.size, 1, none⟩ (.slice ta tn tc) = wf ∧ wf.cell? ⟨w.heap.size, 0, none⟩ = some (.slice pa pn pc) ∧ wf.cell? ⟨w.heap.size, 1, none⟩ = some (.slice ta tn tc) ∧ w.heap.size < wf.heap.size ∧
   RootPost w xs known loss tb (.returned (.tuple #[.agg #[.slice pa pn pc, .slice ta tn tc], .pointer tp, .int .i64 c])) wf := fun W tp c hW hc ht => by
  obtain ⟨s0, s1, sl, sk⟩ := two_set (u := .slice pa pn pc) (v := .slice ta tn tc) (Hb2.out.below' hW)
  have hz := HZ.out
  have hs := Hsz.out
  refine ⟨_, rfl, s0, s1, sl, pa, pn, pc, ta, tn, tc, tp, by rw [hc], ?_, ?_, ?_, fun h0 => ht (hc.symm.trans h0)⟩
  · exact ownsRow_mono (sk.own (own_later' HRp.out hW) (fun r e hm => by have := (HRp.out.lt r e).1; have h2 := List.mem_singleton.1 hm; omega)) (by omega)
  · exact ownsRow_mono (sk.own (own_later' HRt.out hW) (fun r e hm => by have := (HRt.out.lt r e).1; have h2 := List.mem_singleton.1 hm; omega)) (by omega)
  · exact sk.below_then (HBw.out.trans (hW.mono HBw.out.size)) (fun x hx => by have := List.mem_singleton.1 hx; omega) (Nat.le_refl _)
 have HFin := Hd hfin
 clear hfin
 obtain ⟨oe, hoe⟩ : ∃ c, openE xs loss = c := ⟨_, rfl⟩
 rw [hoe]
 by_cases h0 : oe = 0
 case neg =>
  have h1 : (oe != 0) = true := by simp [h0]
  have HE := Hd (show rootE xs known loss tb = oe from by rw [rootE_bad (by rw [hoe]; exact h0), hoe])
  have HN := Hd h0
  clear h0 hoe
  go_wp2_with fail
  obtain ⟨wf, hwf, s0, s1, sl, hp⟩ := HFin.out w3 none oe (Below.refl _ _) HE.out (fun e => absurd e HN.out)
  rw [hwf]
  exact bodyPost_ret (by simp [results, Tryz.results26, go_sem, s0, s1, sl]) rfl hp
 have h1 : (oe != 0) = false := by simp [h0]
 have HO := Hd (hoe.trans h0)
 obtain ⟨p1, p2⟩ := open_some (known := known) HO.out
 rw [p1] at HRp
 rw [p2] at HRt
 have hmo := mani_ok (check_good (open_check HO.out)).1 known loss
 have HMo := Hd hmo
 have hln := hmo.ln
 have hlt := hmo.lt
 obtain ⟨pa2, pc2, ep, hpc, hpr, hpb⟩ := Rd.of_own HRp.out Pa.vals_length (by decide) rfl (by unfold maxLen; omega)
 obtain ⟨ta2, tc2, et, htc, htr, htb⟩ := Rd.of_own HRt.out Pa.vals_length (by decide) rfl (by unfold maxLen; omega)
 injection ep with ea en ec
 injection et with fa fn fc
 subst ea en ec fa fn fc
 have HPr := Hd hpr
 have HTr := Hd htr
 clear h0 hoe hmo hpr htr hpb htb hpc htc p1 p2
 have CT := Hd (HTh.out HO.out w3 pa (papersL xs known loss).length pc ta (totalsL xs known loss).length tc HBw.out HPr.out)
 cases tb with
 | false =>
   have HE := Hd (rootE_none (known := known) HO.out)
   go_wp2_with (go_at_fn g; refine CT.out.mono ?_; rintro e w4 ⟨rfl, hB4⟩; obtain ⟨n0, n1, nf, nl⟩ := pair_facts (Hbm.out.below' hB4); obtain ⟨t0', t1, tf, tl⟩ := pair_facts (Hb2.out.below' hB4))
   obtain ⟨wf, hwf, s0, s1, sl, hp⟩ := HFin.out w4 none 5 hB4 HE.out (fun e => by cases e)
   rw [hwf]
   exact bodyPost_ret (by simp [results, Tryz.results26, go_sem, s0, s1, sl]) rfl hp
 | true =>
   have CR := Hd (fun (W : World) (hW : Below w3.heap.size w3 W) => tree_any (papersL xs known loss) (totalsL xs known loss) ⟨HMo.out.packs, fun x hx => by have := (HMo.out.tt x hx).1; omega, by omega⟩ [] true pa (papersL xs known loss).length pc ta (totalsL xs known loss).length tc none 0 0 W (HPr.out.below' hW) (HTr.out.below' hW) (Rd.empty _ _)
    (fun p e => by have := (HLp.out.1 p e).2; have := HZ.out; have := hW.size; omega) (fun p e => by have := (HLp.out.2 p e).2; have := HZ.out; have := hW.size; omega))
   rw [hasB_all] at CR
   cases hT : rootT xs known loss with
   | none =>
     have HE := Hd (show rootE xs known loss true = 11 from by rw [rootE_tree HO.out, hT]; rfl)
     have C2 := Hd (show ∀ W, Below w3.heap.size w3 W → Calls Tryz.prog 56 _ W (fun e w' => e = .returned (.pointer none) ∧ Below W.heap.size W w') from fun W hW => (CR.out W hW).mono (by
      rintro e w' ⟨h1, ⟨h2, h3⟩ | ⟨t, h2, _⟩⟩
      · exact ⟨h3, h1⟩
      · unfold rootT at hT; rw [hT] at h2; cases h2))
     clear hT CR
     go_wp2_with (first
      | (go_at_fn g; refine CT.out.mono ?_; rintro e w4 ⟨rfl, hB4⟩; obtain ⟨n0, n1, nf, nl⟩ := pair_facts (Hbm.out.below' hB4); obtain ⟨t0', t1, tf, tl⟩ := pair_facts (Hb2.out.below' hB4))
      | (go_at_call 56; refine (C2.out _ hB4).mono ?_; rintro e w5 ⟨rfl, hB5⟩; obtain ⟨n0', n1', nf', nl'⟩ := pair_facts ((Hbm.out.below' hB4).below' hB5); obtain ⟨t0'', t1', tf', tl'⟩ := pair_facts ((Hb2.out.below' hB4).below' hB5)))
     obtain ⟨wf, hwf, s0, s1, sl, hp⟩ := HFin.out w5 none 11 (hB4.trans (hB5.mono hB4.size)) HE.out (fun e => by cases e)
     rw [hwf]
     exact bodyPost_ret (by simp [results, Tryz.results26, go_sem, s0, s1, sl]) rfl hp
   | some t0 =>
     have HE := Hd (show rootE xs known loss true = 0 from by rw [rootE_tree HO.out, hT]; rfl)
     have C2 := Hd (show ∀ W, Below w3.heap.size w3 W → Calls Tryz.prog 56 _ W (fun e w' => ∃ t, t.sh = t0 ∧ e = .returned (.pointer (some ⟨t.b, 0, none⟩)) ∧ Below W.heap.size W w' ∧ (∀ M : List Nat, (∀ x ∈ M, x < W.heap.size) → TreeAt (M ++ t.bs) w' t) ∧ t.bs.Nodup ∧ Bd t ∧ ∀ x ∈ t.bs, W.heap.size ≤ x) from fun W hW => (CR.out W hW).mono (by
      rintro e w' ⟨h1, ⟨h2, h3⟩ | ⟨t, h2, h3, h4, h5, h6⟩⟩
      · unfold rootT at hT; rw [hT] at h2; cases h2
      · have hT2 := hT
        unfold rootT at hT2
        rw [hT2] at h2
        have h2' := Option.some.inj h2
        exact ⟨t, h2'.symm, h3, h1, h4, h5, Bd_sh t (by rw [← h2']; exact tree_bd HMo.out _ hT2), h6⟩))
     have HT0 := Hd hT
     clear hT CR
     go_wp2_with (first
      | (go_at_fn g; refine CT.out.mono ?_; rintro e w4 ⟨rfl, hB4⟩; obtain ⟨n0, n1, nf, nl⟩ := pair_facts (Hbm.out.below' hB4); obtain ⟨t0', t1, tf, tl⟩ := pair_facts (Hb2.out.below' hB4))
      | (go_at_call 56; refine (C2.out _ hB4).mono ?_; rintro e w5 ⟨t, ht0, rfl, hB5, hta, htn, htb, htf⟩; obtain ⟨n0', n1', nf', nl'⟩ := pair_facts ((Hbm.out.below' hB4).below' hB5); obtain ⟨t0'', t1', tf', tl'⟩ := pair_facts ((Hb2.out.below' hB4).below' hB5)))
     obtain ⟨wf, hwf, s0, s1, sl, hp⟩ := HFin.out w5 (some ⟨t.b, 0, none⟩) 0 (hB4.trans (hB5.mono hB4.size)) HE.out (fun _ => by
      have hz := HZ.out
      have hz4 := hB4.size
      have hnm : w.heap.size ∉ t.bs := fun hm => by have := htf _ hm; omega
      refine ⟨w4.heap.size, by omega, t, by rw [HT0.out, ht0], rfl, fun M hM => ?_, htn, htb, htf, fun p e => by have := (HLp.out.1 p e).2; omega, fun p e => by have := (HLp.out.2 p e).2; omega⟩
      obtain ⟨_, _, _, sk⟩ := two_set (u := .slice pa (papersL xs known loss).length pc) (v := .slice ta (totalsL xs known loss).length tc) (Hb2.out.below' (hB4.trans (hB5.mono hB4.size)))
      have hw := hta (w.heap.size :: M) (fun x hx => by
       rcases List.mem_cons.1 hx with e | hx
       · omega
       · exact hM x hx)
      exact (hw.keeps sk (fun x hx => by rw [List.mem_singleton.1 hx]; simp) (fun x hx hm => by rw [List.mem_singleton.1 hm] at hx; exact hnm hx)).narrow (fun x hx => by simp only [List.cons_append]; exact List.mem_cons_of_mem _ hx) (fun x hx => List.mem_append_right _ hx))
     rw [hwf]
     exact bodyPost_ret (by simp [results, Tryz.results26, go_sem, s0, s1, sl]) rfl hp
mutual
theorem sinkT_bd (lo hi : Int) : ∀ t : Tr, Bd t → Bd (sinkT lo hi t)
 | .node b f ks, h => by
   have h1 := h.fb
   have h2 := h.len
   simp only [f_node, ks_node] at h1 h2
   simp only [sinkT]
   refine .node ?_ (by rw [sinkL_length]; exact h2) (sinkL_bd _ _ _ _ ks h.kids)
   exact h1
theorem sinkL_bd (top sl low high : Int) : ∀ l : List Tr, (∀ k ∈ l, Bd k) → ∀ k ∈ sinkL top sl low high l, Bd k
 | [], _, k, hk => by simp [sinkL] at hk
 | x :: r, h, k, hk => by
   simp only [sinkL] at hk
   rcases List.mem_cons.1 hk with e | hk
   · rw [e]; exact sinkT_bd _ _ x (h x (by simp))
   · exact sinkL_bd top sl low high r (fun y hy => h y (List.mem_cons_of_mem _ hy)) k hk
end
theorem solve_facts {t t' : Tr} (hb : Bd t) (h : solveT t = some t') : Bd t' ∧ t'.bs = t.bs ∧ t'.b = t.b := by
 unfold solveT at h
 cases e : riseT t with
 | none => rw [e] at h; cases h
 | some q =>
   rw [e] at h
   have h' := Option.some.inj h
   subst h'
   obtain ⟨a1, a2, a3, a4, _, _⟩ := riseT_up t q hb e
   exact ⟨sinkT_bd _ _ q a1, by rw [sinkT_bs, a4], by rw [sinkT_b, a3]⟩
def WeighAt (w' : World) (n1 : Nat) (pa ta tp : Option Addr) (t0 : Option Tr) : Prop :=
 ∃ t, t0 = some t.sh ∧ tp = some ⟨t.b, 0, none⟩ ∧ TreeAt t.bs w' t ∧ t.bs.Nodup ∧ Bd t ∧ (∀ x ∈ t.bs, n1 ≤ x) ∧ (∀ p, pa = some p → p.block < n1) ∧ (∀ p, ta = some p → p.block < n1)
def WeighPost (w : World) (xs : List Pa) (known loss : Int) (tb : Bool) (e : Ending) (w' : World) : Prop :=
 ∃ pa pn pc ta tn tc tp, e = .returned (.tuple #[.agg #[.slice pa pn pc, .slice ta tn tc], .pointer tp, .int .i64 (weighE xs known loss tb)]) ∧ w'.ownsRow w.heap.size 42 14 (.slice pa pn pc) (papersO xs known loss).length ((papersO xs known loss).flatMap Pa.vals) ∧
  w'.ownsRow w.heap.size 42 14 (.slice ta tn tc) (totalsO xs known loss).length ((totalsO xs known loss).flatMap Pa.vals) ∧ Below w.heap.size w w' ∧
  (weighE xs known loss tb = 0 → ∃ n1, w.heap.size ≤ n1 ∧ WeighAt w' n1 pa ta tp ((rootT xs known loss).bind solveT))
theorem weighE_bad {xs : List Pa} {known loss : Int} {tb : Bool} (h : ¬ rootE xs known loss tb = 0) : weighE xs known loss tb = rootE xs known loss tb := by unfold weighE; rw [if_neg h]
theorem weighE_ok {xs : List Pa} {known loss : Int} {tb : Bool} (h : rootE xs known loss tb = 0) : weighE xs known loss tb = if ((rootT xs known loss).bind solveT).isSome then 0 else 10 := by unfold weighE; rw [if_pos h]
set_option maxRecDepth 100000 in
set_option maxHeartbeats 4000000 in
theorem weighed_any (a : Option Addr) (n cap : Nat) (xs : List Pa) (hsh : ∀ x ∈ xs, x.Short) (known loss : Int) (g : Nat) (cb : Array Value) (eg : ∀ args w, (callFunc g args).run Tryz.prog w = .ok (.enter g args) w) (tb : Bool) (w : World) (h : Rd Pa.vals 14 w a n xs) (hcap : n ≤ cap)
 (hth : There w g cb xs known loss tb) :
 Calls Tryz.prog 32 #[.slice a n cap, .int .i64 known, .int .i64 loss, .func (.func g) #[] cb] w (WeighPost w xs known loss tb) := by
 have hB0 := al' (Below.refl w.heap.size w) (.cells #[.slice none 0 0, .slice none 0 0] 62)
 have hb0 := BoxG.made w [.slice none 0 0, .slice none 0 0] 62
 have HR := Hd (h.below' hB0)
 have hsz : (w.alloc (.cells #[.slice none 0 0, .slice none 0 0] 62)).heap.size = w.heap.size + 1 := by simp
 have HTh := Hd (show There (w.alloc (.cells #[.slice none 0 0, .slice none 0 0] 62)) g cb xs known loss tb from fun h0 W pa pn pc ta tn tc hW hr => hth h0 W pa pn pc ta tn tc (hB0.trans (hW.mono hB0.size)) hr)
 clear h hth
 go_enter Tryz.func32, Tryz.ntmps32
 go_upto_region 1 with (fail)
 generalize w.alloc (.cells #[.slice none 0 0, .slice none 0 0] 62) = w1 at *
 have HB0 := Hd hB0
 have Hb0 := Hd hb0
 have Hsz := Hd hsz
 clear hB0 hb0 hsz
 have CO := Hd (rooted_any a n cap xs hsh known loss g cb eg tb w1 HR.out hcap HTh.out)
 go_upto_region 2 with (go_at_call 26; refine CO.out.mono ?_; rintro e w2 ⟨pa, pn, pc, ta, tn, tc, tp, rfl, hrp, hrt, hB2, htree⟩)
 have hBa := al' (Below.refl w2.heap.size w2) (.cells #[.slice pa pn pc, .slice ta tn tc] 62)
 have hb2 := (Hb0.out.below' hB2).below' hBa
 have hbm := BoxG.made w2 [.slice pa pn pc, .slice ta tn tc] 62
 have hB3 := hB2.trans (hBa.mono hB2.size)
 have hrp3 := own_later' hrp hBa
 have hrt3 := own_later' hrt hBa
 have hz2 := hB2.size
 have hz3 : (w2.alloc (.cells #[.slice pa pn pc, .slice ta tn tc] 62)).heap.size = w2.heap.size + 1 := by simp
 have HTree := Hd (show rootE xs known loss tb = 0 → ∃ n1, w1.heap.size ≤ n1 ∧ (∃ t, rootT xs known loss = some t.sh ∧ tp = some ⟨t.b, 0, none⟩ ∧ TreeAt (w.heap.size :: t.bs) (w2.alloc (.cells #[.slice pa pn pc, .slice ta tn tc] 62)) t ∧ t.bs.Nodup ∧ Bd t ∧ (∀ x ∈ t.bs, n1 ≤ x ∧ x < w2.heap.size) ∧ (∀ p, pa = some p → p.block < n1) ∧ (∀ p, ta = some p → p.block < n1)) from fun h0 => by
  obtain ⟨n1, h1, t, h2, h3, h4, h5, h6, h7, h8, h9⟩ := htree h0
  have h4' := h4 [w.heap.size] (fun x hx => by have := List.mem_singleton.1 hx; have := Hsz.out; omega)
  refine ⟨n1, h1, t, h2, h3, ?_, h5, h6, fun x hx => ⟨h7 x hx, ?_⟩, h8, h9⟩
  · exact h4'.below' hBa
  · exact h4'.bs_lt x hx)
 clear hrp hrt hB2 htree hBa
 generalize w2.alloc (.cells #[.slice pa pn pc, .slice ta tn tc] 62) = w3 at *
 obtain ⟨B3, hB3e⟩ : ∃ B, w2.heap.size = B := ⟨_, rfl⟩
 rw [hB3e] at hbm hz2 hz3 HTree ⊢
 have hs1 := Hsz.out
 have HZ := Hd (show w.heap.size < B3 ∧ B3 < w3.heap.size from by omega)
 have Hb2 := Hd hb2
 have Hbm := Hd hbm
 have HRp := Hd hrp3
 have HRt := Hd hrt3
 have HBw := Hd (HB0.out.trans (hB3.mono (by omega)))
 obtain ⟨m0, m1, mf, ml⟩ := pair_facts hbm
 obtain ⟨r0, r1, rf, rl⟩ := pair_facts hb2
 clear hb2 hB3 hrp3 hrt3 hz2 hz3 hB3e CO hbm hs1
 have HFin := Hd (show ∀ (S : List Nat) (W : World) (c : Int), Keeps S w3 W → (∀ x ∈ S, w.heap.size < x ∧ (∀ p, pa = some p → p.block ≠ x) ∧ (∀ p, ta = some p → p.block ≠ x)) → weighE xs known loss tb = c →
  (c = 0 → ∃ n1, w.heap.size ≤ n1 ∧ WeighAt ((W.setCell ⟨w.heap.size, 0, none⟩ (.slice pa pn pc)).setCell ⟨w.heap.size, 1, none⟩ (.slice ta tn tc)) n1 pa ta tp ((rootT xs known loss).bind solveT)) →
  ∃ wf, (W.setCell ⟨w.heap.size, 0, none⟩ (.slice pa pn pc)).setCell ⟨w.heap.size, 1, none⟩ (.slice ta tn tc) = wf ∧ wf.cell? ⟨w.heap.size, 0, none⟩ = some (.slice pa pn pc) ∧ wf.cell? ⟨w.heap.size, 1, none⟩ = some (.slice ta tn tc) ∧ w.heap.size < wf.heap.size ∧
   WeighPost w xs known loss tb (.returned (.tuple #[.agg #[.slice pa pn pc, .slice ta tn tc], .pointer tp, .int .i64 c])) wf from fun S W c hW hS hc ht => by
  have hz := HZ.out
  have hs := Hsz.out
  obtain ⟨s0, s1, sl, sk⟩ := two_set (u := .slice pa pn pc) (v := .slice ta tn tc) (Hb2.out.keeps hW (fun e => by have := (hS _ e).1; omega))
  refine ⟨_, rfl, s0, s1, sl, pa, pn, pc, ta, tn, tc, tp, by rw [hc], ?_, ?_, ?_, fun h0 => ht (hc.symm.trans h0)⟩
  · refine ownsRow_mono (sk.own (hW.own HRp.out (fun r e hm => ?_)) (fun r e hm => by have := (HRp.out.lt r e).1; have h2 := List.mem_singleton.1 hm; omega)) (by omega)
    cases pa with
    | none => simp [Value.ownBlock] at e
    | some q => simp [Value.ownBlock] at e; exact (hS r hm).2.1 q rfl e
  · refine ownsRow_mono (sk.own (hW.own HRt.out (fun r e hm => ?_)) (fun r e hm => by have := (HRt.out.lt r e).1; have h2 := List.mem_singleton.1 hm; omega)) (by omega)
    cases ta with
    | none => simp [Value.ownBlock] at e
    | some q => simp [Value.ownBlock] at e; exact (hS r hm).2.2 q rfl e
  · exact sk.below_then (hW.below_then HBw.out (fun x hx => Nat.le_of_lt (hS x hx).1) (Nat.le_refl _)) (fun x hx => by have := List.mem_singleton.1 hx; omega) (Nat.le_refl _))
 obtain ⟨oe, hoe⟩ : ∃ c, rootE xs known loss tb = c := ⟨_, rfl⟩
 rw [hoe]
 by_cases h0 : oe = 0
 case neg =>
  have h1 : (oe == 0) = false := by simp [h0]
  have HE := Hd (show weighE xs known loss tb = oe from by rw [weighE_bad (by rw [hoe]; exact h0), hoe])
  have HN := Hd h0
  clear h0 hoe
  go_wp2_with fail
  obtain ⟨wf, hwf, s0, s1, sl, hp⟩ := HFin.out [] w3 oe (Keeps.refl _ _) (by simp) HE.out (fun e => absurd e HN.out)
  rw [hwf]
  exact bodyPost_ret (by simp [results, Tryz.results32, go_sem, s0, s1, sl]) rfl hp
 subst h0
 have HE0 := Hd (weighE_ok hoe)
 obtain ⟨n1, hn1, t, ht0, htp, hta, htn, htb, htf, hpa, hta2⟩ := HTree.out hoe
 subst htp
 have CS := Hd (fun (W : World) (hW : TreeAt (w.heap.size :: t.bs) W t) => solved_all (w.heap.size :: t.bs) t W hW htb htn)
 have HTa := Hd hta
 have HTf := Hd (And.intro htf (And.intro hpa hta2))
 have HTn := Hd (And.intro htn (And.intro htb hn1))
 have HT0 := Hd ht0
 clear hoe HTree hta htf hpa hta2 htn htb hn1 ht0
 have hbind : (rootT xs known loss).bind solveT = (solveT t).map Tr.sh := by rw [HT0.out]; simp only [Option.bind_some]; exact solveT_sh t
 rw [hbind] at HE0
 have HBi := Hd hbind
 clear hbind
 cases hS : solveT t with
 | none =>
   rw [hS] at HE0
   have C2 := Hd ((CS.out w3 HTa.out).mono (R' := fun e w' => e = .returned (.bool false) ∧ Keeps t.bs w3 w') (by
    rintro e w' ⟨h1, h2, h3⟩
    rw [hS] at h1; exact ⟨h1, h2⟩))
   clear hS CS
   go_wp2_with (go_at_call 36; refine C2.out.mono ?_; rintro e w4 ⟨rfl, hk4⟩; obtain ⟨q0, q1, qf, ql⟩ := pair_facts (Hbm.out.keeps hk4 (fun e => by have := (HTf.out.1 _ e).2; omega)); obtain ⟨q0', q1', qf', ql'⟩ := pair_facts (Hb2.out.keeps hk4 (fun e => by have h1 := (HTf.out.1 _ e).1; have h2 := HTn.out.2.2; have h3 := Hsz.out; omega)))
   obtain ⟨wf, hwf, s0, s1, sl, hp⟩ := HFin.out t.bs w4 10 hk4 (fun x hx => by
    have h1 := HTf.out.1 x hx; have h2 := HTn.out.2.2; have h3 := Hsz.out
    exact ⟨by omega, fun p e => by have := HTf.out.2.1 p e; omega, fun p e => by have := HTf.out.2.2 p e; omega⟩) HE0.out (fun e => by cases e)
   rw [hwf]
   exact bodyPost_ret (by simp [results, Tryz.results32, go_sem, s0, s1, sl]) rfl hp
 | some t2 =>
   rw [hS] at HE0
   have C2 := Hd ((CS.out w3 HTa.out).mono (R' := fun e w' => e = .returned (.bool true) ∧ Keeps t.bs w3 w' ∧ TreeAt (w.heap.size :: t.bs) w' t2) (by
    rintro e w' ⟨h1, h2, h3⟩
    rw [hS] at h1; exact ⟨h1, h2, h3 t2 hS⟩))
   have HSf := Hd (solve_facts HTn.out.2.1 hS)
   rw [hS] at HBi
   clear hS CS
   go_wp2_with (go_at_call 36; refine C2.out.mono ?_; rintro e w4 ⟨rfl, hk4, ht4⟩; obtain ⟨q0, q1, qf, ql⟩ := pair_facts (Hbm.out.keeps hk4 (fun e => by have := (HTf.out.1 _ e).2; omega)); obtain ⟨q0', q1', qf', ql'⟩ := pair_facts (Hb2.out.keeps hk4 (fun e => by have h1 := (HTf.out.1 _ e).1; have h2 := HTn.out.2.2; have h3 := Hsz.out; omega)))
   have hb4 := Hb2.out.keeps hk4 (fun e => by have h1 := (HTf.out.1 _ e).1; have h2 := HTn.out.2.2; have h3 := Hsz.out; omega)
   obtain ⟨wf, hwf, s0, s1, sl, hp⟩ := HFin.out t.bs w4 0 hk4 (fun x hx => by
    have h1 := HTf.out.1 x hx; have h2 := HTn.out.2.2; have h3 := Hsz.out
    exact ⟨by omega, fun p e => by have := HTf.out.2.1 p e; omega, fun p e => by have := HTf.out.2.2 p e; omega⟩) HE0.out (fun _ => by
    obtain ⟨_, _, _, sk⟩ := two_set (u := .slice pa pn pc) (v := .slice ta tn tc) hb4
    have h3 := Hsz.out
    have h2 := HTn.out.2.2
    refine ⟨n1, by omega, t2, by rw [HBi.out]; rfl, by rw [HSf.out.2.2], ?_, by rw [HSf.out.2.1]; exact HTn.out.1, HSf.out.1, fun x hx => by rw [HSf.out.2.1] at hx; exact (HTf.out.1 x hx).1, HTf.out.2.1, HTf.out.2.2⟩
    rw [HSf.out.2.1]
    exact (ht4.keeps sk (fun x hx => by rw [List.mem_singleton.1 hx]; simp) (fun x hx hm => by
     rw [HSf.out.2.1] at hx
     rw [List.mem_singleton.1 hm] at hx
     have := (HTf.out.1 _ hx).1; omega)).narrow (fun x hx => List.mem_cons_of_mem _ hx) (fun x hx => by rwa [HSf.out.2.1] at hx))
   rw [hwf]
   exact bodyPost_ret (by simp [results, Tryz.results32, go_sem, s0, s1, sl]) rfl hp
theorem there_has {w : World} {K : Nat} {xs : List Pa} {known loss pack : Int} (hc : w.cell? ⟨K, 0, none⟩ = some (.int .i64 pack)) : There w 68 #[.pointer (some ⟨K, 0, none⟩)] xs known loss (hasP xs known loss pack) := fun _ W pa pn pc ta tn tc hW hr =>
 has1_any pa pn pc ta tn tc (papersL xs known loss) pack K W hr (cell_stays hc hW)
theorem there_always {w : World} {xs : List Pa} {known loss : Int} : There w 27 #[] xs known loss true := fun _ W pa pn pc ta tn tc hW hr => always_any pa pn pc ta tn tc W
theorem there_missing {w : World} {K : Nat} {xs : List Pa} {known loss pack : Int} (hc : w.cell? ⟨K, 0, none⟩ = some (.int .i64 pack)) : There w 47 #[.pointer (some ⟨K, 0, none⟩)] xs known loss (decide (pack = 0) || hasP xs known loss pack) := fun _ W pa pn pc ta tn tc hW hr =>
 missing1_any pa pn pc ta tn tc (papersL xs known loss) pack K W hr (cell_stays hc hW)
theorem TreeAt.preMem {L : List Nat} {w : World} {t : Tr} (h : TreeAt L w t) : ∀ k ∈ t.pre, TreeAt L w k := by
 induction h with
 | @node b f ks a cap hb hn hr ha hk ih =>
   intro k hk'
   simp only [Tr.pre] at hk'
   have : ∀ (l : List Tr), (∀ q ∈ l, TreeAt L w q) → (∀ q ∈ l, ∀ k ∈ q.pre, TreeAt L w k) → ∀ k ∈ preL l, TreeAt L w k := by
    intro l
    induction l with
    | nil => intro _ _ k hk; simp [preL] at hk
    | cons x r ih2 =>
      intro h1 h2 k hk
      simp only [preL, List.mem_cons, List.mem_append] at hk
      rcases hk with e | hk | hk
      · rw [e]; exact h1 x (by simp)
      · exact h2 x (by simp) k hk
      · exact ih2 (fun q hq => h1 q (List.mem_cons_of_mem _ hq)) (fun q hq => h2 q (List.mem_cons_of_mem _ hq)) k hk
   exact this ks hk ih k hk'
mutual
theorem riseT_packs : ∀ (t t' : Tr), riseT t = some t' → t'.f.pack = t.f.pack ∧ t'.pre.map (fun k => k.f.pack) = t.pre.map (fun k => k.f.pack)
 | .node b f ks, t', h => by
   unfold riseT at h
   cases e : riseL ks with
   | none => rw [e] at h; simp at h
   | some ks' =>
     rw [e] at h
     simp only at h
     split at h
     · cases h
     · have h' := Option.some.inj h
       subst h'
       simp only [f_node, Tr.pre]
       exact ⟨trivial, riseL_packs ks ks' e⟩
theorem riseL_packs : ∀ (l l' : List Tr), riseL l = some l' → (preL l').map (fun k => k.f.pack) = (preL l).map (fun k => k.f.pack)
 | [], l', h => by unfold riseL at h; cases h; rfl
 | k :: r, l', h => by
   unfold riseL at h
   cases e : riseT k with
   | none => rw [e] at h; simp at h
   | some k' =>
     rw [e] at h
     simp only at h
     cases e2 : riseL r with
     | none => rw [e2] at h; simp at h
     | some r' =>
       rw [e2] at h
       have h' := Option.some.inj h
       subst h'
       obtain ⟨a1, a2⟩ := riseT_packs k k' e
       simp only [preL, List.map_cons, List.map_append, a1, a2, riseL_packs r r' e2]
end
mutual
theorem sinkT_packs (lo hi : Int) : ∀ t : Tr, (sinkT lo hi t).f.pack = t.f.pack ∧ (sinkT lo hi t).pre.map (fun k => k.f.pack) = t.pre.map (fun k => k.f.pack)
 | .node b f ks => by
   simp only [sinkT, f_node, Tr.pre]
   exact ⟨trivial, sinkL_packs _ _ _ _ ks⟩
theorem sinkL_packs (top sl low high : Int) : ∀ l : List Tr, (preL (sinkL top sl low high l)).map (fun k => k.f.pack) = (preL l).map (fun k => k.f.pack)
 | [] => rfl
 | k :: r => by
   obtain ⟨a1, a2⟩ := sinkT_packs (max k.f.low (sl - (high - k.f.ownH))) (min k.f.ownH (top - (low - k.f.low))) k
   simp only [sinkL, preL, List.map_cons, List.map_append, a1, a2, sinkL_packs top sl low high r]
end
theorem solve_packs {t t' : Tr} (h : solveT t = some t') : t'.pre.map (fun k => k.f.pack) = t.pre.map (fun k => k.f.pack) := by
 unfold solveT at h
 cases e : riseT t with
 | none => rw [e] at h; cases h
 | some q =>
   rw [e] at h
   have h' := Option.some.inj h
   subst h'
   rw [(sinkT_packs _ _ q).2, (riseT_packs t q e).2]
theorem find_of_pack {t : Tr} {pack : Int} (h : pack ∈ t.pre.map (fun k => k.f.pack)) : ∃ k, findT t pack = some k ∧ k ∈ t.pre ∧ k.f.pack = pack := by
 obtain ⟨k, hk, hp⟩ := List.mem_map.1 h
 unfold findT
 cases e : t.pre.find? (fun k => decide (k.f.pack = pack)) with
 | none =>
   rw [List.find?_eq_none] at e
   exact absurd hp (by simpa using e k hk)
 | some q => exact ⟨q, rfl, List.mem_of_find?_eq_some e, by simpa using List.find?_some e⟩
theorem tree_has {ps ts : List Pa} {has : Int → Bool} (hp : Packs ps) {t : Tr} (h : treeT ps ts has = some t) {pack : Int} (hk : (ofI ps pack).isSome = true) : pack ∈ t.pre.map (fun k => k.f.pack) := by
 unfold treeT at h
 split at h
 · cases h
 · rename_i t' ht
   split at h
   · rename_i hl
     cases h
     obtain ⟨h1, h2⟩ := grow_chain hp _ 0 _ _ t [] ht .root
     have h3 : ∀ y ∈ t.pre.map (fun k => k.f.pack), y ∈ ps.map (·.pack) := by
      intro y hy
      obtain ⟨k, hk, rfl⟩ := List.mem_map.1 hy
      obtain ⟨l, n, c, hh⟩ := h2 k hk
      cases l with
      | nil => exact absurd rfl n
      | cons a r =>
        simp at hh
        subst hh
        cases r with
        | nil =>
          obtain ⟨x, hx, h1, _⟩ := c.inv rfl
          exact List.mem_map.2 ⟨x, hx, h1⟩
        | cons b r' =>
          obtain ⟨x, hx, h1, _⟩ := c.inv rfl
          exact List.mem_map.2 ⟨x, hx, h1⟩
     refine Classical.byContradiction fun hn => ?_
     obtain ⟨x, hx⟩ := Option.isSome_iff_exists.1 hk
     have hm : pack ∈ ps.map (·.pack) := List.mem_map.2 ⟨x, (ofI_mem hx).1, (ofI_mem hx).2⟩
     have := (List.nodup_cons.2 ⟨hn, h1⟩).length_le_of_subset (l₂ := ps.map (·.pack)) (fun y hy => by
      rcases List.mem_cons.1 hy with e | hy
      · rw [e]; exact hm
      · exact h3 y hy)
     simp only [List.length_cons, List.length_map] at this
     omega
   · cases h
theorem weigh_find {xs : List Pa} {known loss pack : Int} (ho : openE xs loss = 0) (hk : hasP xs known loss pack = true) {t : Tr} (h : (rootT xs known loss).bind solveT = some t) : pack ∈ t.pre.map (fun k => k.f.pack) := by
 have hmo := mani_ok (check_good (open_check ho)).1 known loss
 cases e : rootT xs known loss with
 | none => rw [e] at h; cases h
 | some q =>
   rw [e] at h
   simp only [Option.bind_some] at h
   rw [solve_packs h]
   exact tree_has hmo.packs e hk
theorem root_find {xs : List Pa} {known loss pack : Int} (ho : openE xs loss = 0) (hk : hasP xs known loss pack = true) {t : Tr} (h : rootT xs known loss = some t) : pack ∈ t.pre.map (fun k => k.f.pack) :=
 tree_has (mani_ok (check_good (open_check ho)).1 known loss).packs h hk
theorem pre_packs_sh (t : Tr) : t.sh.pre.map (fun k => k.f.pack) = t.pre.map (fun k => k.f.pack) := by
 rw [pre_sh, List.map_map]
 refine List.map_congr_left fun k _ => ?_
 simp only [Function.comp, sh_f]
theorem root_open {xs : List Pa} {known loss : Int} {tb : Bool} (h : rootE xs known loss tb = 0) : openE xs loss = 0 ∧ tb = true := by
 unfold rootE at h
 split at h
 · rename_i h0
   refine ⟨h0, ?_⟩
   cases tb with
   | true => rfl
   | false => simp at h
 · rename_i h0; exact absurd h h0
theorem weigh_root {xs : List Pa} {known loss : Int} {tb : Bool} (h : weighE xs known loss tb = 0) : rootE xs known loss tb = 0 := by
 unfold weighE at h
 split at h
 · assumption
 · exact h
theorem root_some {xs : List Pa} {known loss : Int} {tb : Bool} (h : rootE xs known loss tb = 0) : (rootT xs known loss).isSome = true := by
 have h1 := root_open h
 obtain ⟨h2, rfl⟩ := h1
 rw [rootE_tree h2] at h
 split at h
 · assumption
 · cases h
theorem weigh_some {xs : List Pa} {known loss : Int} {tb : Bool} (h : weighE xs known loss tb = 0) : ((rootT xs known loss).bind solveT).isSome = true := by
 have h1 := weigh_root h
 rw [weighE_ok h1] at h
 split at h
 · assumption
 · cases h
end Go.Proofs.YtehplmeckfinoaaGreatDoor
