/- The walk of the reference's Ends. -/
import Derived.Test.YtehplmeckfinoaaGreatDoorCRRight
set_option linter.unusedSimpArgs false
set_option linter.unusedVariables false
namespace Go.Proofs.YtehplmeckfinoaaGreatDoor
open Go.RowKit Go.Shelf
theorem missR_lo {ps ts : List Pa} (hmo : ManiOk ps ts) (p : Int) : -1000 ≤ missR ps ts p := by
 unfold missR
 cases e : ofI ts p with
 | none => simp
 | some x =>
   have := (hmo.tt x (ofI_mem e).1).1
   have h2 := insideI_len ps p
   have h3 := hmo.ln
   simp only; omega
theorem inside_le {ps ts : List Pa} (hmo : ManiOk ps ts) (p : Int) : (insideI ps p).length ≤ 201 := Nat.le_trans (insideI_len ps p) hmo.ln
theorem held_bd {ps ts : List Pa} (hmo : ManiOk ps ts) (d : Nat) (p : Int) : -1000000000 ≤ (heldR ps ts d p).1 ∧ (heldR ps ts d p).1 ≤ 30000000000 ∧ -1000000000 ≤ (heldR ps ts d p).2 ∧ (heldR ps ts d p).2 ≤ 100000000 := by
 refine ⟨?_, ?_, ?_, held_hi hmo d p⟩
 all_goals
  cases d with
  | zero => simp [heldR]
  | succ d =>
    have h1 := sum_hi (g := fun q => (belowW ps (heldR ps ts d q) q).1) (m := 100000000) (insideI ps p) (fun q _ => ⟨(bel_bd hmo d q).1, (bel_bd hmo d q).2.1⟩)
    have h2 := sum_hi (g := fun q => (belowW ps (heldR ps ts d q) q).2) (m := 100000) (insideI ps p) (fun q _ => (bel_bd hmo d q).2.2)
    have h3 := inside_le hmo p
    have h4 := missR_hi hmo p
    have h5 := missR_lo hmo p
    have h6 : ((insideI ps p).length : Int) ≤ 201 := by omega
    simp only [heldR]
    cases e : ofI ts p with
    | none => simp only [boundR]; omega
    | some x => have h7 := (hmo.tt x (ofI_mem e).1).2.1; simp only [boundR]; omega
def othS (bel : Int → Int × Int) (g : Int × Int → Int) (q : Int) (L : List Int) : Int := ((L.filter (fun y => decide (y ≠ q))).map (fun y => g (bel y))).sum
theorem oth_yes {bel : Int → Int × Int} {g : Int × Int → Int} {q : Int} {L : List Int} {k : Nat} {y : Int} (h : L[k]? = some y) (hy : y ≠ q) : othS bel g q (L.take (k + 1)) = othS bel g q (L.take k) + g (bel y) := by
 unfold othS
 rw [take_succ_snoc h, List.filter_append, List.map_append, List.sum_append, List.filter_cons, if_pos (decide_eq_true hy)]; simp
theorem oth_no {bel : Int → Int × Int} {g : Int × Int → Int} {q : Int} {L : List Int} {k : Nat} {y : Int} (h : L[k]? = some y) (hy : y = q) : othS bel g q (L.take (k + 1)) = othS bel g q (L.take k) := by
 unfold othS
 rw [take_succ_snoc h, List.filter_append, List.map_append, List.sum_append, List.filter_cons, if_neg (by simp [hy])]; simp
theorem oth_bd {bel : Int → Int × Int} {g : Int × Int → Int} {m : Int} (q : Int) (L : List Int) (h : ∀ y, 0 ≤ g (bel y) ∧ g (bel y) ≤ m) (hm : 0 ≤ m) (hl : L.length ≤ 201) : 0 ≤ othS bel g q L ∧ othS bel g q L ≤ 201 * m := by
 obtain ⟨h1, h2⟩ := sum_hi (g := fun y => g (bel y)) (L.filter (fun y => decide (y ≠ q))) (fun y _ => h y)
 refine ⟨h1, Int.le_trans h2 ?_⟩
 have := List.length_filter_le (fun y => decide (y ≠ q)) L
 exact Int.mul_le_mul_of_nonneg_right (by omega) hm
theorem step_bd {ps ts : List Pa} (hmo : ManiOk ps ts) (d : Nat) (most q B : Int) (hB : 1000000000 ≤ B) (h1 : -B ≤ most) : (stepE ps ts d most q).2 ≤ 100000 ∧ -(B + 100000000000) ≤ (stepE ps ts d most q).2 := by
 have b := bel_bd hmo d q
 have h := held_bd hmo d (innR ps q)
 have h4 := missR_hi hmo (innR ps q)
 have h5 := missR_lo hmo (innR ps q)
 have h6 := oth_bd (bel := belowR ps ts d) (g := Prod.fst) (m := 100000000) q (insideI ps (innR ps q)) (fun y => ⟨(bel_bd hmo d y).1, (bel_bd hmo d y).2.1⟩) (by decide) (inside_le hmo _)
 have h7 : othersR ps ts d Prod.fst 1 (innR ps q) q = missR ps ts (innR ps q) * 1 + othS (belowR ps ts d) Prod.fst q (insideI ps (innR ps q)) := rfl
 unfold stepE
 simp only
 rw [h7]
 omega
theorem endsW_take {ps ts : List Pa} {d : Nat} {way : List Int} {k : Nat} {q : Int} (h : way[k]? = some q) : endsW ps ts d (way.take (k + 1)) = stepE ps ts d (endsW ps ts d (way.take k)).2 q := by
 rw [take_succ_snoc h, endsW_snoc]
theorem set14_below {w W : World} {B : Nat} {u0 u1 u2 u3 u4 u5 u6 u7 u8 u9 u10 u11 u12 u13 : Value} (h : BoxG W B [u0, u1, u2, u3, u4, u5, u6, u7, u8, u9, u10, u11, u12, u13]) (hB : Below w.heap.size w W) (hb : w.heap.size ≤ B) (x : Pa) :
 Below w.heap.size w ((((((((((((((W.setCell ⟨B, 0, none⟩ (.int .i64 x.id)).setCell ⟨B, 1, none⟩ (.int .i64 x.known)).setCell ⟨B, 2, none⟩ (.int .u8 x.kind)).setCell ⟨B, 3, none⟩ (.int .i64 x.loss)).setCell ⟨B, 4, none⟩ (.int .i64 x.pack)).setCell ⟨B, 5, none⟩ (.int .i64 x.inn)).setCell ⟨B, 6, none⟩ (.string ⟨x.mark.toArray⟩)).setCell ⟨B, 7, none⟩ (.string ⟨x.goods.toArray⟩)).setCell ⟨B, 8, none⟩ (.int .i64 x.low)).setCell ⟨B, 9, none⟩ (.int .i64 x.high)).setCell ⟨B, 10, none⟩ (.int .i64 x.pieces)).setCell ⟨B, 11, none⟩ (.int .i64 x.owner)).setCell ⟨B, 12, none⟩ (.int .i64 x.count)).setCell ⟨B, 13, none⟩ (.int .i64 x.of)) :=
 (h.all14 (.int .i64 x.id) (.int .i64 x.known) (.int .u8 x.kind) (.int .i64 x.loss) (.int .i64 x.pack) (.int .i64 x.inn) (.string ⟨x.mark.toArray⟩) (.string ⟨x.goods.toArray⟩) (.int .i64 x.low) (.int .i64 x.high) (.int .i64 x.pieces) (.int .i64 x.owner) (.int .i64 x.count) (.int .i64 x.of)).2.below_then hB (fun y hy => by have := List.mem_singleton.1 hy; omega) (Nat.le_refl _)
theorem boxs14 {W : World} {B : Nat} {u0 u1 u2 u3 u4 u5 u6 u7 u8 u9 u10 u11 u12 u13 : Value} (h : BoxG W B [u0, u1, u2, u3, u4, u5, u6, u7, u8, u9, u10, u11, u12, u13]) (x : Pa) : BoxG ((((((((((((((W.setCell ⟨B, 0, none⟩ (.int .i64 x.id)).setCell ⟨B, 1, none⟩ (.int .i64 x.known)).setCell ⟨B, 2, none⟩ (.int .u8 x.kind)).setCell ⟨B, 3, none⟩ (.int .i64 x.loss)).setCell ⟨B, 4, none⟩ (.int .i64 x.pack)).setCell ⟨B, 5, none⟩ (.int .i64 x.inn)).setCell ⟨B, 6, none⟩ (.string ⟨x.mark.toArray⟩)).setCell ⟨B, 7, none⟩ (.string ⟨x.goods.toArray⟩)).setCell ⟨B, 8, none⟩ (.int .i64 x.low)).setCell ⟨B, 9, none⟩ (.int .i64 x.high)).setCell ⟨B, 10, none⟩ (.int .i64 x.pieces)).setCell ⟨B, 11, none⟩ (.int .i64 x.owner)).setCell ⟨B, 12, none⟩ (.int .i64 x.count)).setCell ⟨B, 13, none⟩ (.int .i64 x.of)) B [.int .i64 x.id, .int .i64 x.known, .int .u8 x.kind, .int .i64 x.loss, .int .i64 x.pack, .int .i64 x.inn, .string ⟨x.mark.toArray⟩, .string ⟨x.goods.toArray⟩, .int .i64 x.low, .int .i64 x.high, .int .i64 x.pieces, .int .i64 x.owner, .int .i64 x.count, .int .i64 x.of] := (h.all14 (.int .i64 x.id) (.int .i64 x.known) (.int .u8 x.kind) (.int .i64 x.loss) (.int .i64 x.pack) (.int .i64 x.inn) (.string ⟨x.mark.toArray⟩) (.string ⟨x.goods.toArray⟩) (.int .i64 x.low) (.int .i64 x.high) (.int .i64 x.pieces) (.int .i64 x.owner) (.int .i64 x.count) (.int .i64 x.of)).1
theorem keep2c {W W' : World} {a b : Addr} {u v : Value} (h : W.cell? a = some u ∧ W.cell? b = some v) (hB : Below W.heap.size W W') : W'.cell? a = some u ∧ W'.cell? b = some v := ⟨cell_stays h.1 hB, cell_stays h.2 hB⟩
theorem box14 {W w5 : World} {B : Nat} {T : TypeId} (hB : Below (W.alloc (.cells #[.int .i64 0, .int .i64 0, .int .u8 0, .int .i64 0, .int .i64 0, .int .i64 0, .string ⟨#[]⟩, .string ⟨#[]⟩, .int .i64 0, .int .i64 0, .int .i64 0, .int .i64 0, .int .i64 0, .int .i64 0] T)).drew.heap.size (W.alloc (.cells #[.int .i64 0, .int .i64 0, .int .u8 0, .int .i64 0, .int .i64 0, .int .i64 0, .string ⟨#[]⟩, .string ⟨#[]⟩, .int .i64 0, .int .i64 0, .int .i64 0, .int .i64 0, .int .i64 0, .int .i64 0] T)).drew w5) (e : B = W.heap.size) : BoxG w5 B [.int .i64 0, .int .i64 0, .int .u8 0, .int .i64 0, .int .i64 0, .int .i64 0, .string ⟨#[]⟩, .string ⟨#[]⟩, .int .i64 0, .int .i64 0, .int .i64 0, .int .i64 0, .int .i64 0, .int .i64 0] := by
 subst e
 exact ((BoxG.made W [.int .i64 0, .int .i64 0, .int .u8 0, .int .i64 0, .int .i64 0, .int .i64 0, .string ⟨#[]⟩, .string ⟨#[]⟩, .int .i64 0, .int .i64 0, .int .i64 0, .int .i64 0, .int .i64 0, .int .i64 0] T).below' (bd0 _)).below' hB
theorem way_len {ps : List Pa} {p : Int} {r : List Int} (h : wayR ps 201 p [] = some r) : r.length ≤ 300 := by
 have : ∀ (d : Nat) (p : Int) (acc r : List Int), wayR ps d p acc = some r → r.length ≤ acc.length + d := by
  intro d
  induction d with
  | zero =>
    intro p acc r h
    unfold wayR at h
    split at h
    · cases h; omega
    · cases h
  | succ d ih =>
    intro p acc r h
    unfold wayR at h
    split at h
    · cases h; omega
    · split at h
      · cases h
      · have := ih _ _ _ h
        simp only [List.length_cons] at this
        omega
 have := this 201 p [] r h
 simp only [List.length_nil] at this
 omega
theorem cells14 {W : World} {B : Nat} {u0 u1 u2 u3 u4 u5 u6 u7 u8 u9 u10 u11 u12 u13 : Value} (h : BoxG W B [u0, u1, u2, u3, u4, u5, u6, u7, u8, u9, u10, u11, u12, u13]) :
 (∀ j, W.frozen? ⟨B, j, none⟩ = false) ∧ B < W.heap.size ∧ W.cell? ⟨B, 0, none⟩ = some u0 ∧ W.cell? ⟨B, 1, none⟩ = some u1 ∧ W.cell? ⟨B, 2, none⟩ = some u2 ∧ W.cell? ⟨B, 3, none⟩ = some u3 ∧ W.cell? ⟨B, 4, none⟩ = some u4 ∧ W.cell? ⟨B, 5, none⟩ = some u5 ∧ W.cell? ⟨B, 6, none⟩ = some u6 ∧ W.cell? ⟨B, 7, none⟩ = some u7 ∧ W.cell? ⟨B, 8, none⟩ = some u8 ∧ W.cell? ⟨B, 9, none⟩ = some u9 ∧ W.cell? ⟨B, 10, none⟩ = some u10 ∧ W.cell? ⟨B, 11, none⟩ = some u11 ∧ W.cell? ⟨B, 12, none⟩ = some u12 ∧ W.cell? ⟨B, 13, none⟩ = some u13 :=
 ⟨h.2.1, h.1, h.2.2 0 (by simp), h.2.2 1 (by simp), h.2.2 2 (by simp), h.2.2 3 (by simp), h.2.2 4 (by simp), h.2.2 5 (by simp), h.2.2 6 (by simp), h.2.2 7 (by simp), h.2.2 8 (by simp), h.2.2 9 (by simp), h.2.2 10 (by simp), h.2.2 11 (by simp), h.2.2 12 (by simp), h.2.2 13 (by simp)⟩
set_option maxRecDepth 100000 in
set_option maxHeartbeats 16000000 in
theorem ends_r (pa : Option Addr) (pn pc : Nat) (ta : Option Addr) (tn tc : Nat) (PS TS : List Pa) (hw : Well PS TS) (pack : Int) (WAY : List Int) (hway : wayR PS 201 pack [] = some WAY) (hin : ∀ q ∈ WAY, ∃ x ∈ PS, x.pack = q) (hne : 0 < WAY.length) (w : World) (hp : Rd Pa.vals 14 w pa pn PS) (ht : Rd Pa.vals 14 w ta tn TS) :
 Calls Tryz.prog 40 #[.agg #[.slice pa pn pc, .slice ta tn tc], .int .i64 pack] w (SpanPost w (endsW PS TS 300 WAY)) := by
 have hM := (ManR.box pc tc hp ht 70).below' (al' (Below.refl _ _) (.cells #[.int .i64 0, .int .i64 0] 32))
 have hB := al' (al' (Below.refl w.heap.size w) (.cells #[.slice pa pn pc, .slice ta tn tc] 70)) (.cells #[.int .i64 0, .int .i64 0] 32)
 have hR := made2 (w := w) (u := .slice pa pn pc) (v := .slice ta tn tc) (x := .int .i64 0) (y := .int .i64 0) (z := .int .i64 0) (t := .int .i64 0) (T := 70) (T2 := 32)
 have HM := Hd hM
 have HB1 := Hd hB
 have HR := Hd hR
 have hn : pn ≤ 1000 := by have := hw.mo.ln; have := hp.len; omega
 have hcn : ∀ t ∈ TS, 0 ≤ t.count ∧ t.count ≤ 1000 := fun t ht => by have := (hw.mo.tt t ht).1; omega
 have CW := Hd (fun W (hW : Below w.heap.size w W) => path_r pa pn pc ta tn tc PS TS pack W (hp.below' hW) (ht.below' hW) hn)
 have CF := Hd (fun (q : Int) W (hW : Below w.heap.size w W) => find_r pa pn pc PS q W (hp.below' hW))
 have CH := Hd (fun (p : Int) (h0 : p = 0 ∨ ∃ y ∈ PS, y.pack = p) W (hW : Below w.heap.size w W) => held_w pa pn pc ta tn tc PS TS hw h0 W (hp.below' hW) (ht.below' hW))
 have CB := Hd (fun (p : Int) (h0 : p = 0 ∨ ∃ y ∈ PS, y.pack = p) W (hW : Below w.heap.size w W) => below_w pa pn pc ta tn tc PS TS hw h0 W (hp.below' hW) (ht.below' hW))
 have CM := Hd (fun (p : Int) W (hW : Below w.heap.size w W) => missing_r pa pn pc ta tn tc PS TS p W (hp.below' hW) (ht.below' hW) hn hcn)
 have CI := Hd (fun (p : Int) W (hW : Below w.heap.size w W) => inside_rn pa pn pc ta tn tc PS TS p W (hp.below' hW) (ht.below' hW) hn)
 have HW := Hd hw
 have HIn := Hd hin
 have HNe := Hd hne
 have hwl : WAY.length ≤ 300 := way_len hway
 clear hM hB hR hp ht hw hin hne hcn
 unfold WayPost at CW
 rw [hway] at CW
 unfold FindPost at CF
 unfold SpanPost at CH CB
 unfold InsPostN at CI
 simp only [Option.isSome_some, Option.getD_some] at CW
 clear hway
 obtain ⟨EV, hEV⟩ : ∃ p, endsW PS TS 300 WAY = p := ⟨_, rfl⟩
 rw [hEV]
 have HEV := Hd hEV
 clear hEV
 go_enter Tryz.func40, Tryz.ntmps40
 go_upto_region 1 with (fail)
 generalize ((w.alloc (.cells #[.slice pa pn pc, .slice ta tn tc] 70)).alloc (.cells #[.int .i64 0, .int .i64 0] 32)) = w1 at *
 obtain ⟨M, hMe⟩ : ∃ M, w.heap.size = M := ⟨_, rfl⟩
 have HMe := Hd hMe
 rw [hMe] at HM HR ⊢
 clear hMe
 have m0 := HM.out.c0
 have m1 := HM.out.c1
 go_upto_region 2 with (go_at_call 76; refine (CW.out _ HB1.out).mono ?_; rintro e w2 ⟨wa, wn, wc, rfl, hrw, hwc, hS⟩)
 have HB2 := Hd (HB1.out.trans (hS.mono HB1.out.size))
 have HM2 := Hd (HM.out.below' hS)
 have HR2 := Hd (HR.out.below' hS)
 have HWn := Hd hrw.len
 have hwn : wn ≤ 300 := by have := hrw.len; omega
 have HRw := Hd hrw
 clear hS hrw m0 m1 CW HM HR HB1
 go_upto_region 4 with (fail)
 have hO := BoxG.made w2 [.int .i64 0, .int .i64 0] 32
 have hBo := al' (Below.refl w2.heap.size w2) (.cells #[.int .i64 0, .int .i64 0] 32)
 have HB3 := Hd (HB2.out.trans (hBo.mono HB2.out.size))
 have HM3 := Hd (HM2.out.below' hBo)
 have HR3 := Hd (HR2.out.below' hBo)
 have HRw3 := Hd (HRw.out.below' hBo)
 have HWa := Hd (show 0 < wn → ∀ p, wa = some p → p.block ≠ w2.heap.size from fun h0 p e => by
  obtain ⟨b, off, x, e2, hlt, _⟩ := HRw.out.int h0
  rw [e2] at e
  injection e with e
  subst e
  exact Nat.ne_of_lt hlt)
 have HRO := Hd (show M + 1 < w2.heap.size from HR2.out.1)
 have HO := Hd hO
 clear hO hBo HB2 HM2 HR2 HRw
 generalize w2.alloc (.cells #[.int .i64 0, .int .i64 0] 32) = w3 at *
 obtain ⟨O, hOe⟩ : ∃ O, w2.heap.size = O := ⟨_, rfl⟩
 rw [hOe] at HO HRO HWa ⊢
 clear hOe
 go_wp2_with fail
 go_loopw [7, 9] (fun mv i wr => ∃ (k : Nat) (most el eh : Int), k ≤ wn ∧ i = .int .i64 k ∧ mv = .int .i64 most ∧ most = (endsW PS TS 300 (WAY.take k)).2 ∧ (0 < k → (el, eh) = endsW PS TS 300 (WAY.take k)) ∧ most ≤ 100000000 ∧ -(1000000000 + 100000000000 * (k : Int)) ≤ most ∧ Keeps [O] w3 wr ∧ BoxG wr O [.int .i64 el, .int .i64 eh]) (fun _ i _ => wn - (intOf i).toNat)
 case atStart => exact ⟨0, 100000000, 0, 0, Nat.zero_le _, rfl, rfl, rfl, fun h => absurd h (by omega), Int.le_refl _, by decide, Keeps.refl _ _, HO.out⟩
 case round =>
  obtain ⟨k, most, el, eh, hk, rfl, rfl, hmost, hel, hmb, hml, hkp, hO⟩ := hrel
  have HK := Hd hkp
  have HO := Hd hO
  have HMost := Hd hmost
  have HEl := Hd hel
  have hOy : ∀ y ∈ [O], y = O := fun y hy => List.mem_singleton.1 hy
  have HBr := Hd (HK.out.below_then HB3.out (fun y hy => by have := hOy y hy; have := HMe.out; have := HRO.out; omega) (Nat.le_refl _))
  clear hkp hO hmost hel
  by_cases hlt : k < wn
  · have hlt' : (k : Int) < (wn : Int) := by omega
    obtain ⟨wb, wf, q, hwae, hwb, hq, hcq⟩ := (HK.out.rd HRw3.out (fun h0 p e hm => HWa.out h0 p e (List.mem_singleton.1 hm))).int hlt
    have hwbO : wb ≠ O := HWa.out (by omega) _ hwae
    subst hwae
    obtain ⟨x, hxm, hxq⟩ := HIn.out q (List.mem_of_getElem? hq)
    have Hq := Hd hq
    have Hx := Hd hxm
    have Hxq := Hd hxq
    have HFd := Hd (show ofI PS q = some x from by rw [← hxq]; exact HW.out.mo.packs.find hxm)
    have CF1 := Hd (fun W (hW : Below wr.heap.size wr W) => CF.out q W (HBr.out.trans (hW.mono HBr.out.size)))
    rw [HFd.out, show ofV (some x) = x from rfl] at CF1
    have hMO : M ∉ [O] := by have := HRO.out; simp; omega
    have m0 := HK.out.cell HM3.out.c0 hMO
    have m1 := HK.out.cell HM3.out.c1 hMO
    clear hq hxm hxq hMO hwb hOy
    go_upto_region 7 with (fail)
    go_cut [10, 11] from 31 to 40 (fun v b wx => ∃ X, v = .pointer (some ⟨X, 0, none⟩) ∧ b = .bool true ∧ Below wr.heap.size wr wx ∧ BoxG wx X [.int .i64 x.id, .int .i64 x.known, .int .u8 x.kind, .int .i64 x.loss, .int .i64 x.pack, .int .i64 x.inn, .string ⟨x.mark.toArray⟩, .string ⟨x.goods.toArray⟩, .int .i64 x.low, .int .i64 x.high, .int .i64 x.pieces, .int .i64 x.owner, .int .i64 x.count, .int .i64 x.of] ∧ wr.heap.size ≤ X)
    case first =>
     go_region_held3 (fun w' => w'.cell? ⟨M, 0, none⟩ = some (.slice pa pn pc) ∧ w'.cell? ⟨wb, wf + k, none⟩ = some (.int .i64 q))
      ((refine keep2c ⟨m0, hcq⟩ ?_; first | with_reducible apply bd0 | with_reducible apply bd1 | with_reducible apply hb5.out | with_reducible apply bd2 hb5.out | with_reducible apply set14_below hz.out hb5.out (Nat.le_refl _)))
      (first
        | (go_at_call 67; with_reducible refine (CF1.out _ (bd0 _)).mono ?_; rintro e wq ⟨hB5, y, hy, rfl⟩; subst hy; have hb5 := Hd (show Below wr.heap.size wr wq from below_on (bd0 wr) hB5 (Nat.le_refl _)); clear hB5)
        | (go_at_call 67; with_reducible refine (CF1.out _ (bd1 _ _)).mono ?_; rintro e wq ⟨hB5, y, hy, rfl⟩; subst hy; have hb5 := Hd (show Below wr.heap.size wr wq from below_on (bd1 wr _) hB5 (Nat.le_refl _)); have hz := Hd (box14 hB5 rfl); obtain ⟨zf, zl, z0, z1, z2, z3, z4, z5, z6, z7, z8, z9, z10, z11, z12, z13⟩ := cells14 hz.out; clear hB5))
     all_goals go_wp2_with fail
     all_goals go_meet
     all_goals refine ⟨_, rfl, rfl, ?_, ?_, ?_⟩
     all_goals first
      | with_reducible apply bd2 hb5.out
      | with_reducible apply set14_below hz.out hb5.out (Nat.le_refl _)
      | with_reducible apply BoxG.made wq [.int .i64 x.id, .int .i64 x.known, .int .u8 x.kind, .int .i64 x.loss, .int .i64 x.pack, .int .i64 x.inn, .string ⟨x.mark.toArray⟩, .string ⟨x.goods.toArray⟩, .int .i64 x.low, .int .i64 x.high, .int .i64 x.pieces, .int .i64 x.owner, .int .i64 x.count, .int .i64 x.of] 42
      | with_reducible apply boxs14 hz.out x
      | with_reducible exact hb5.out.size
      | with_reducible exact Nat.le_refl _
    case rest =>
    obtain ⟨Q, rfl, rfl, hB6, hX, hXl⟩ := hcut
    generalize wc = w6 at *
    have HB6 := Hd (HBr.out.trans (hB6.mono HBr.out.size))
    have HK6 := Hd (HK.out.then_below hB6)
    have HO6 := Hd (HO.out.below' hB6)
    have HOQ := Hd (show O < Q from by have := HO.out.1; omega)
    have HX6 := Hd hX
    have c5 : w6.cell? ⟨Q, 5, none⟩ = some (.int .i64 x.inn) := (BoxG.pa (x := x) hX).2.2.2.2.2.1
    have m0' := cell_stays m0 hB6
    have m1' := cell_stays m1 hB6
    have hcq' := cell_stays hcq hB6
    clear hB6 hX hXl m0 m1 hcq HO HK CF1 HBr
    have hup := HW.out.up x Hx.out
    have hip : innR PS q = x.inn := by unfold innR; rw [HFd.out]; rfl
    have HIp := Hd hip
    have hmo := HW.out.mo
    have hhb := held_bd hmo 300 x.inn
    have hmib : -1000 ≤ missR PS TS x.inn ∧ missR PS TS x.inn ≤ 1000 := ⟨missR_lo hmo _, by have := missR_hi hmo x.inn; omega⟩
    have hil : (insideI PS x.inn).length ≤ 201 := inside_le hmo _
    have HInm := Hd (show ∀ y ∈ insideI PS x.inn, y = 0 ∨ ∃ z ∈ PS, z.pack = y from fun y hy => by
     obtain ⟨z, hz, _, e⟩ := inside_mem hy
     exact .inr ⟨z, hz, e⟩)
    have HBb := Hd (fun y => bel_bd hmo 300 y)
    have hstep : stepE PS TS 300 most q = (max (belowR PS TS 300 q).1 ((heldR PS TS 300 x.inn).1 - (missR PS TS x.inn * 100000 + othS (belowR PS TS 300) Prod.snd q (insideI PS x.inn))),
     min (belowR PS TS 300 q).2 (min (heldR PS TS 300 x.inn).2 most - (missR PS TS x.inn + othS (belowR PS TS 300) Prod.fst q (insideI PS x.inn)))) := by
     have e1 : othersR PS TS 300 Prod.snd 100000 x.inn q = missR PS TS x.inn * 100000 + othS (belowR PS TS 300) Prod.snd q (insideI PS x.inn) := rfl
     have e2 : othersR PS TS 300 Prod.fst 1 x.inn q = missR PS TS x.inn * 1 + othS (belowR PS TS 300) Prod.fst q (insideI PS x.inn) := rfl
     unfold stepE
     rw [hip, e1, e2, Int.mul_one]
    have hsb := step_bd hmo 300 most q (1000000000 + 100000000000 * (k : Int)) (by omega) (by omega)
    have HNx := Hd (show endsW PS TS 300 (WAY.take (k + 1)) = stepE PS TS 300 most q from by rw [endsW_take Hq.out, ← HMost.out])
    have CH1 := Hd (CH.out x.inn hup w6 HB6.out)
    have CM1 := Hd (fun W (hW : Below w6.heap.size w6 W) => CM.out x.inn W (HB6.out.trans (hW.mono HB6.out.size)))
    have CI1 := Hd (fun W (hW : Below w6.heap.size w6 W) => CI.out x.inn W (HB6.out.trans (hW.mono HB6.out.size)))
    clear hip hmo hup
    obtain ⟨h1, hh1⟩ : ∃ v, (heldR PS TS 300 x.inn).1 = v := ⟨_, rfl⟩
    obtain ⟨h2, hh2⟩ : ∃ v, (heldR PS TS 300 x.inn).2 = v := ⟨_, rfl⟩
    obtain ⟨mi, hmi⟩ : ∃ v, missR PS TS x.inn = v := ⟨_, rfl⟩
    obtain ⟨IL, hIL⟩ : ∃ v, insideI PS x.inn = v := ⟨_, rfl⟩
    rw [hh1, hh2] at CH1 hhb hstep
    rw [hmi] at CM1 hmib hstep
    rw [hIL] at CI1 hil HInm hstep
    obtain ⟨il, hile⟩ : ∃ l, IL.length = l := ⟨_, rfl⟩
    rw [hile] at CI1
    have hil2 : il ≤ 201 := by rw [← hile]; exact hil
    have HIle := Hd hile
    have HStep := Hd hstep
    have HSb := Hd hsb
    clear hh1 hh2 hmi hIL hile hstep hsb
    go_upto_region 9 with (go_at_call 75; refine CH1.out.mono ?_; rintro e w7 ⟨rfl, hS⟩)
    have hb8 := BoxG.made w7 [.int .i64 h1, .int .i64 h2] 32
    have hS8 := hS.trans ((al' (Below.refl w7.heap.size w7) (.cells #[.int .i64 h1, .int .i64 h2] 32)).mono hS.size)
    have HIQ := Hd (show Q < w7.heap.size from Nat.lt_of_lt_of_le HX6.out.1 hS.size)
    have HS8 := Hd hS8
    have HI6 := Hd (show w6.heap.size ≤ w7.heap.size from hS.size)
    have HI8 := Hd hb8
    clear hS hS8 hb8 CH1
    generalize w7.alloc (.cells #[.int .i64 h1, .int .i64 h2] 32) = w8 at *
    obtain ⟨I, hIe⟩ : ∃ I, w7.heap.size = I := ⟨_, rfl⟩
    rw [hIe] at HI8 HIQ HI6 ⊢
    clear hIe
    obtain ⟨i0, i1, if_, il_⟩ := pair_facts HI8.out
    go_upto_region 10 with (fail)
    have hI9 : BoxG (w8.setCell ⟨I, 1, none⟩ (.int .i64 (min h2 most))) I [.int .i64 h1, .int .i64 (min h2 most)] := HI8.out.set 1 _ (by simp)
    have hS9 : Below w6.heap.size w6 (w8.setCell ⟨I, 1, none⟩ (.int .i64 (min h2 most))) := (show Keeps [I] w8 _ from Keeps.setCell w8 ⟨I, 1, none⟩ _).below_then HS8.out (fun y hy => by have := List.mem_singleton.1 hy; have := HX6.out.1; have := HIQ.out; have := HI6.out; omega) (Nat.le_refl _)
    have HS9 := Hd hS9
    have HI9 := Hd hI9
    have hm09 := cell_stays m0' hS9
    have hm19 := cell_stays m1' hS9
    clear hS9 hI9 HS8 HI8 HI6 i0 i1 if_ il_ c5
    generalize w8.setCell ⟨I, 1, none⟩ (.int .i64 (min h2 most)) = w9 at *
    have c5 : w9.cell? ⟨Q, 5, none⟩ = some (.int .i64 x.inn) := (BoxG.pa (x := x) (HX6.out.below' HS9.out)).2.2.2.2.2.1
    have CM2 := Hd (CM1.out w9 HS9.out)
    go_upto_region 11 with (go_at_call 66; refine CM2.out.mono ?_; rintro e w10 ⟨rfl, hS⟩)
    have HS10 := Hd (HS9.out.trans (hS.mono HS9.out.size))
    have HI10 := Hd (HI9.out.below' hS)
    clear hS CM2 CM1 HS9 HI9 c5 hm09 hm19
    have hwr : IntKind.i64.wrap (mi * 100000) = mi * 100000 := IntWalk.i64_in _ (by omega)
    go_upto_region 12 with (fail)
    have hT := BoxG.made w10 [.int .i64 mi, .int .i64 (mi * 100000)] 32
    have hBt := al' (Below.refl w10.heap.size w10) (.cells #[.int .i64 mi, .int .i64 (mi * 100000)] 32)
    have HS11 := Hd (HS10.out.trans (hBt.mono HS10.out.size))
    have HI11 := Hd (HI10.out.below' hBt)
    have HTI := Hd (show I < w10.heap.size from HI10.out.1)
    have HT11 := Hd hT
    have HWT := Hd (show wb < w10.heap.size from Nat.lt_of_lt_of_le (World.block_lt_of_cell? _ _ hcq') HS10.out.size)
    have HT6 := Hd (show w6.heap.size ≤ w10.heap.size from HS10.out.size)
    clear hT hBt hwr HS10 HI10
    generalize w10.alloc (.cells #[.int .i64 mi, .int .i64 (mi * 100000)] 32) = w11 at *
    obtain ⟨T, hTe⟩ : ∃ T, w10.heap.size = T := ⟨_, rfl⟩
    rw [hTe] at HT11 HTI HWT HT6 ⊢
    clear hTe
    have c5 : w11.cell? ⟨Q, 5, none⟩ = some (.int .i64 x.inn) := (BoxG.pa (x := x) (HX6.out.below' HS11.out)).2.2.2.2.2.1
    have m0 := cell_stays m0' HS11.out
    have m1 := cell_stays m1' HS11.out
    have CI2 := Hd (CI1.out w11 HS11.out)
    go_upto_region 13 with (go_at_call 77; refine CI2.out.mono ?_; rintro e w12 ⟨la, lc, rfl, hrl, hS, _, hla⟩)
    have HS12 := Hd (HS11.out.trans (hS.mono HS11.out.size))
    have HI12 := Hd (HI11.out.below' hS)
    have HT12 := Hd (HT11.out.below' hS)
    have HLa := Hd (show ∀ p, la = some p → p.block ≠ T from fun p e => by have h1 := (hla p e).1; have h2 := HT11.out.1; omega)
    have HL := Hd hrl
    clear hS hrl hla c5 m0 m1 CI2 CI1 HS11 HI11 HT11
    have HB12 := Hd (HB6.out.trans (HS12.out.mono HB6.out.size))
    have hcq12 := cell_stays hcq' HS12.out
    have hm012 := cell_stays m0' HS12.out
    have hm112 := cell_stays m1' HS12.out
    clear hcq' m0' m1'
    go_wp2_with fail
    go_loopw [16] (fun i wr => ∃ (k2 : Nat) (lo hi : Int), k2 ≤ il ∧ i = .int .i64 k2 ∧ lo = mi + othS (belowR PS TS 300) Prod.fst q (IL.take k2) ∧ hi = mi * 100000 + othS (belowR PS TS 300) Prod.snd q (IL.take k2) ∧ Keeps [T] w12 wr ∧ BoxG wr T [.int .i64 lo, .int .i64 hi]) (fun i _ => il - (intOf i).toNat)
    case atStart => exact ⟨0, mi, mi * 100000, Nat.zero_le _, rfl, by simp [othS], by simp [othS], Keeps.refl _ _, HT12.out⟩
    case round =>
     obtain ⟨k2, lo, hi, hk2, rfl, hlo, hhi, hkp, hT⟩ := hrel
     have HK2 := Hd hkp
     have HT := Hd hT
     have HLo := Hd hlo
     have HHi := Hd hhi
     clear hkp hT hlo hhi
     by_cases hlt2 : k2 < il
     · have hlt2' : (k2 : Int) < (il : Int) := by omega
       obtain ⟨lb, lf, y, hlae, _, hy, hcy⟩ := (HK2.out.rd HL.out (fun _ p e hm => HLa.out p e (List.mem_singleton.1 hm))).int hlt2
       subst hlae
       have hwT : wb ∉ [T] := by have := HWT.out; simp; omega
       have hMT : M ∉ [T] := by have := HTI.out; have := HIQ.out; have := HOQ.out; have := HRO.out; simp; omega
       have hcq2 := HK2.out.cell hcq12 hwT
       have hm02 := HK2.out.cell hm012 hMT
       have hm12 := HK2.out.cell hm112 hMT
       have Hy := Hd hy
       have hym : y ∈ IL := List.mem_of_getElem? hy
       have hy0 := HInm.out y hym
       clear hwT hMT hy hym
       by_cases hyq : y = q
       · have hyb : (y != q) = false := by simp [hyq]
         have HE1 := Hd (oth_no (bel := belowR PS TS 300) (g := Prod.fst) Hy.out hyq)
         have HE2 := Hd (oth_no (bel := belowR PS TS 300) (g := Prod.snd) Hy.out hyq)
         clear hyq hy0 hm02 hm12
         go_upto_region 16 with (fail)
         go_cut [76] from 68 to 75 (fun v wz => v = .bool false ∧ Below wr.heap.size wr wz)
         case first =>
          go_region_held3 (fun w' => w'.cell? ⟨lb, lf + k2, none⟩ = some (.int .i64 y) ∧ w'.cell? ⟨wb, wf + k, none⟩ = some (.int .i64 q))
           ((refine keep2c ⟨hcy, hcq2⟩ ?_; with_reducible apply bd0))
           (fail)
          all_goals go_wp2_with fail
          all_goals go_meet
          all_goals first
           | exact ⟨rfl, bd0 _⟩
           | exact ⟨rfl, Below.refl _ _⟩
         case rest =>
         obtain ⟨rfl, hBz⟩ := hcut
         generalize wc = wz at *
         have HKz := Hd (HK2.out.then_below hBz)
         have HTz := Hd (HT.out.below' hBz)
         clear hBz hcy hcq2 HK2 HT hyb
         go_wp2_with fail
         exact ⟨⟨k2 + 1, lo, hi, by omega, by go_num, by rw [HE1.out]; exact HLo.out, by rw [HE2.out]; exact HHi.out, HKz.out, HTz.out⟩, by simp [intOf]; omega⟩
       · have hyb : (y != q) = true := by simp [hyq]
         have HE1 := Hd (oth_yes (bel := belowR PS TS 300) (g := Prod.fst) Hy.out hyq)
         have HE2 := Hd (oth_yes (bel := belowR PS TS 300) (g := Prod.snd) Hy.out hyq)
         have HBx := Hd (HK2.out.below_then HB12.out (fun z hz => by have := List.mem_singleton.1 hz; have := HTI.out; have := HIQ.out; have := HOQ.out; have := HRO.out; have := HMe.out; omega) (Nat.le_refl _))
         have CB2 := Hd (fun W (hW : Below wr.heap.size wr W) => CB.out y hy0 W (HBx.out.trans (hW.mono HBx.out.size)))
         have hbb := HBb.out y
         have ho1 := oth_bd (bel := belowR PS TS 300) (g := Prod.fst) (m := 100000000) q (IL.take k2) (fun y => ⟨(HBb.out y).1, (HBb.out y).2.1⟩) (by decide) (by rw [List.length_take]; omega)
         have ho2 := oth_bd (bel := belowR PS TS 300) (g := Prod.snd) (m := 100000) q (IL.take k2) (fun y => (HBb.out y).2.2) (by decide) (by rw [List.length_take]; omega)
         have hlo := HLo.out
         have hhi := HHi.out
         obtain ⟨y1, hy1⟩ : ∃ v, (belowR PS TS 300 y).1 = v := ⟨_, rfl⟩
         obtain ⟨y2, hy2⟩ : ∃ v, (belowR PS TS 300 y).2 = v := ⟨_, rfl⟩
         rw [hy1, hy2] at CB2 hbb
         have HN1 := Hd (show lo + y1 = mi + othS (belowR PS TS 300) Prod.fst q (IL.take (k2 + 1)) from by rw [HE1.out, hlo, hy1]; omega)
         have HN2 := Hd (show hi + y2 = mi * 100000 + othS (belowR PS TS 300) Prod.snd q (IL.take (k2 + 1)) from by rw [HE2.out, hhi, hy2]; omega)
         have hw1 : IntKind.i64.wrap (lo + y1) = lo + y1 := IntWalk.i64_in _ (by omega)
         have hw2 : IntKind.i64.wrap (hi + y2) = hi + y2 := IntWalk.i64_in _ (by omega)
         clear hyq hy0 HE1 HE2 hlo hhi hy1 hy2 ho1 ho2 hbb
         go_upto_region 16 with (fail)
         go_cut [76] from 68 to 75 (fun v wz => v = .bool true ∧ Below wr.heap.size wr wz)
         case first =>
          go_region_held3 (fun w' => w'.cell? ⟨lb, lf + k2, none⟩ = some (.int .i64 y) ∧ w'.cell? ⟨wb, wf + k, none⟩ = some (.int .i64 q))
           ((refine keep2c ⟨hcy, hcq2⟩ ?_; with_reducible apply bd0))
           (fail)
          all_goals go_wp2_with fail
          all_goals go_meet
          all_goals first
           | exact ⟨rfl, bd0 _⟩
           | exact ⟨rfl, Below.refl _ _⟩
         case rest =>
         obtain ⟨rfl, hBz⟩ := hcut
         generalize wc = wz at *
         have HKz := Hd (HK2.out.then_below hBz)
         have HTz := Hd (HT.out.below' hBz)
         have CB3 := Hd (fun W (hW : Below wz.heap.size wz W) => CB2.out W (hBz.trans (hW.mono hBz.size)))
         have hcyz := cell_stays hcy hBz
         have hm0z := cell_stays hm02 hBz
         have hm1z := cell_stays hm12 hBz
         clear hBz hcy hcq2 hm02 hm12 HK2 HT CB2 hyb
         go_upto_region 17 with (fail)
         go_cut [17] from 77 to 82 (fun v wx => ∃ X, v = .pointer (some ⟨X, 0, none⟩) ∧ Below wz.heap.size wz wx ∧ BoxG wx X [.int .i64 y1, .int .i64 y2] ∧ wz.heap.size ≤ X)
         case first =>
          go_region_held3 (fun w' => w'.cell? ⟨M, 0, none⟩ = some (.slice pa pn pc) ∧ w'.cell? ⟨M, 1, none⟩ = some (.slice ta tn tc) ∧ w'.cell? ⟨lb, lf + k2, none⟩ = some (.int .i64 y))
           ((refine keep3 ⟨hm0z, hm1z, hcyz⟩ ?_; first | with_reducible apply bd0 | with_reducible apply bd1 | with_reducible exact hb5.out | with_reducible exact bd2 hb5.out _ | with_reducible exact set2_below hb5.out (Nat.le_refl _) | with_reducible exact set2_below (bd2 hb5.out _) hb5.out.size))
           (first
             | (go_at_call 74; with_reducible refine (CB3.out _ (bd0 _)).mono ?_; rintro e wq ⟨rfl, hB5⟩; have hb5 := Hd (show Below wz.heap.size wz wq from below_on (bd0 wz) hB5 (Nat.le_refl _)); clear hB5)
             | (go_at_call 74; with_reducible refine (CB3.out _ (bd1 _ _)).mono ?_; rintro e wq ⟨rfl, hB5⟩; have hb5 := Hd (show Below wz.heap.size wz wq from below_on (bd1 wz _) hB5 (Nat.le_refl _)); have hz := Hd (((BoxG.made wz [.int .i64 0, .int .i64 0] 32).below' (bd0 _)).below' hB5); obtain ⟨z0, z1, zf, zl⟩ := pair_facts hz.out; clear hB5))
          all_goals go_wp2_with fail
          all_goals go_meet
          all_goals first
           | exact ⟨_, rfl, bd2 hb5.out _, BoxG.made wq [.int .i64 y1, .int .i64 y2] 32, hb5.out.size⟩
           | exact ⟨_, rfl, set2_below hb5.out (Nat.le_refl _), (hz.out.set 0 _ (by simp)).set 1 _ (by simp), Nat.le_refl _⟩
         case rest =>
         obtain ⟨X, rfl, hB6, hX, hXl⟩ := hcut
         generalize wc = wy at *
         have HKy := Hd (HKz.out.then_below hB6)
         have HTy := Hd (HTz.out.below' hB6)
         have hXT : X ≠ T := by have := HTz.out.1; omega
         obtain ⟨o0, o1, of, ol⟩ := pair_facts HTy.out
         obtain ⟨x0, x1, xf, xl⟩ := pair_facts hX
         clear hB6 hX hXl hcyz hm0z hm1z HKz HTz CB3
         go_wp2_with fail
         exact ⟨⟨k2 + 1, lo + y1, hi + y2, by omega, by go_num, HN1.out, HN2.out, (HKy.out.then_set ⟨T, 0, none⟩ _ (.inl (by simp))).then_set ⟨T, 1, none⟩ _ (.inl (by simp)), (HTy.out.set 0 _ (by simp)).set 1 _ (by simp)⟩, by simp [intOf]; omega⟩
     · have hltg2 : ¬ (k2 : Int) < (il : Int) := by omega
       have hTk : IL.take k2 = IL := List.take_of_length_le (by rw [HIle.out]; omega)
       have hlo := HLo.out
       have hhi := HHi.out
       rw [hTk] at hlo hhi
       have hwT : wb ∉ [T] := by have := HWT.out; simp; omega
       have hMT : M ∉ [T] := by have := HTI.out; have := HIQ.out; have := HOQ.out; have := HRO.out; simp; omega
       have hOT : O ∉ [T] := by have := HTI.out; have := HIQ.out; have := HOQ.out; simp; omega
       have hIT : I ∉ [T] := by have := HTI.out; simp; omega
       have hcq2 := HK2.out.cell hcq12 hwT
       have hm02 := HK2.out.cell hm012 hMT
       have hm12 := HK2.out.cell hm112 hMT
       have HIr := Hd (HI12.out.keeps HK2.out hIT)
       have HOr := Hd ((HO6.out.below' HS12.out).keeps HK2.out hOT)
       have HKr := Hd ((HK6.out.then_below HS12.out).of_later HK2.out (fun z hz => .inr (by have := List.mem_singleton.1 hz; have := HK6.out.size; have := HT6.out; omega)))
       have HBx := Hd (HK2.out.below_then HB12.out (fun z hz => by have := List.mem_singleton.1 hz; have := HTI.out; have := HIQ.out; have := HOQ.out; have := HRO.out; have := HMe.out; omega) (Nat.le_refl _))
       have CB2 := Hd (fun W (hW : Below wr.heap.size wr W) => CB.out q (.inr ⟨x, Hx.out, Hxq.out⟩) W (HBx.out.trans (hW.mono HBx.out.size)))
       have hbb := HBb.out q
       have hstep := HStep.out
       have hsb := HSb.out
       have hnx := HNx.out
       have ho1 := oth_bd (bel := belowR PS TS 300) (g := Prod.fst) (m := 100000000) q IL (fun y => ⟨(HBb.out y).1, (HBb.out y).2.1⟩) (by decide) hil
       have ho2 := oth_bd (bel := belowR PS TS 300) (g := Prod.snd) (m := 100000) q IL (fun y => (HBb.out y).2.2) (by decide) hil
       obtain ⟨b1, hb1⟩ : ∃ v, (belowR PS TS 300 q).1 = v := ⟨_, rfl⟩
       obtain ⟨b2, hb2⟩ : ∃ v, (belowR PS TS 300 q).2 = v := ⟨_, rfl⟩
       rw [hb1, hb2] at CB2 hbb hstep
       rw [← hlo, ← hhi] at hstep
       rw [hstep] at hnx hsb
       have hw1 : IntKind.i64.wrap (h1 - hi) = h1 - hi := IntWalk.i64_in _ (by omega)
       have hw2 : IntKind.i64.wrap (min h2 most - lo) = min h2 most - lo := IntWalk.i64_in _ (by omega)
       have HNx2 := Hd hnx
       have HSb2 := Hd hsb
       clear hwT hMT hOT hIT hTk hlo hhi hbb hstep hsb hnx ho1 ho2 hb1 hb2 HI12 HK2 HHi HLo HL HStep HSb HNx HT12 hcq12 hm012 hm112 HK6 HO6 HX6 hhb hmib
       go_upto_region 20 with (fail)
       go_cut [18] from 95 to 100 (fun v wx => ∃ X, v = .pointer (some ⟨X, 0, none⟩) ∧ Below wr.heap.size wr wx ∧ BoxG wx X [.int .i64 b1, .int .i64 b2] ∧ wr.heap.size ≤ X)
       case first =>
        go_region_held3 (fun w' => w'.cell? ⟨M, 0, none⟩ = some (.slice pa pn pc) ∧ w'.cell? ⟨M, 1, none⟩ = some (.slice ta tn tc) ∧ w'.cell? ⟨wb, wf + k, none⟩ = some (.int .i64 q))
         ((refine keep3 ⟨hm02, hm12, hcq2⟩ ?_; first | with_reducible apply bd0 | with_reducible apply bd1 | with_reducible exact hb5.out | with_reducible exact bd2 hb5.out _ | with_reducible exact set2_below hb5.out (Nat.le_refl _) | with_reducible exact set2_below (bd2 hb5.out _) hb5.out.size))
         (first
           | (go_at_call 74; with_reducible refine (CB2.out _ (bd0 _)).mono ?_; rintro e wq ⟨rfl, hB5⟩; have hb5 := Hd (show Below wr.heap.size wr wq from below_on (bd0 wr) hB5 (Nat.le_refl _)); clear hB5)
           | (go_at_call 74; with_reducible refine (CB2.out _ (bd1 _ _)).mono ?_; rintro e wq ⟨rfl, hB5⟩; have hb5 := Hd (show Below wr.heap.size wr wq from below_on (bd1 wr _) hB5 (Nat.le_refl _)); have hz := Hd (((BoxG.made wr [.int .i64 0, .int .i64 0] 32).below' (bd0 _)).below' hB5); obtain ⟨z0, z1, zf, zl⟩ := pair_facts hz.out; clear hB5))
        all_goals go_wp2_with fail
        all_goals go_meet
        all_goals first
         | exact ⟨_, rfl, bd2 hb5.out _, BoxG.made wq [.int .i64 b1, .int .i64 b2] 32, hb5.out.size⟩
         | exact ⟨_, rfl, set2_below hb5.out (Nat.le_refl _), (hz.out.set 0 _ (by simp)).set 1 _ (by simp), Nat.le_refl _⟩
       case rest =>
       obtain ⟨X, rfl, hB6, hX, hXl⟩ := hcut
       generalize wc = wy at *
       have HOy := Hd (HOr.out.below' hB6)
       have HKy := Hd (HKr.out.then_below hB6)
       obtain ⟨o0, o1, of, ol⟩ := pair_facts HOy.out
       obtain ⟨x0, x1, xf, xl⟩ := pair_facts hX
       obtain ⟨t0, t1, tf, tl⟩ := pair_facts (HT.out.below' hB6)
       obtain ⟨i0, i1, if_, il_⟩ := pair_facts (HIr.out.below' hB6)
       clear hB6 hX hXl hcq2 hm02 hm12 CB2 HIr HOr HKr HBx HT
       go_wp2_with fail
       exact ⟨⟨k + 1, min b2 (min h2 most - lo), max b1 (h1 - hi), min b2 (min h2 most - lo), by omega, by go_num, rfl, by rw [HNx2.out], fun _ => HNx2.out.symm, by have := HSb2.out; omega, by have := HSb2.out; push_cast; omega, (HKy.out.then_set ⟨O, 0, none⟩ _ (.inl (by simp))).then_set ⟨O, 1, none⟩ _ (.inl (by simp)), (HOy.out.set 0 _ (by simp)).set 1 _ (by simp)⟩, by simp [intOf]; omega⟩
  · have hltg : ¬ (k : Int) < (wn : Int) := by omega
    have HE := Hd (show (el, eh) = EV from by
     have h1 := HWn.out
     have h2 := HNe.out
     have h3 := HEl.out (by omega)
     rw [List.take_of_length_le (by omega)] at h3
     rw [h3, HEV.out])
    have hRO : M + 1 ∉ [O] := by have := HRO.out; simp; omega
    have HRr := Hd (HR3.out.keeps HK.out hRO)
    have HM0 := Hd (show w.heap.size ≤ M + 1 from by have := HMe.out; omega)
    obtain ⟨o0, o1, of, ol⟩ := pair_facts HO.out
    obtain ⟨r0, r1, rf, rl⟩ := pair_facts HRr.out
    clear hRO hlt
    go_wp2_with fail
    obtain ⟨wf, hwf, s0, s1, sl, hBf⟩ := two_end (u := .int .i64 el) (v := .int .i64 eh) HRr.out HBr.out HM0.out
    rw [hwf]
    exact bodyPost_ret (by simp [results, Tryz.results40, go_sem, s0, s1, sl]) rfl (show SpanPost w EV (.returned (.agg #[.int .i64 el, .int .i64 eh])) wf from ⟨by rw [← HE.out], hBf⟩)
theorem paper_neg {xs : List Pa} {known loss : Int} {p : Int} (h : p < 1) : paperE xs known loss p = paperE xs known loss 0 := by
 have hno : ∀ q : Int, q < 1 → ofI (papersO xs known loss) q = none := by
  intro q hq
  cases e : ofI (papersO xs known loss) q with
  | none => rfl
  | some x =>
    obtain ⟨h1, h2⟩ := ofI_mem e
    have := (papersO_ok (l := xs) (known := known) (loss := loss)).pp x h1
    omega
 unfold paperE
 rw [hno p h, hno 0 (by decide)]
theorem named_E {xs : List Pa} {known loss pack p : Int} (h : (pack = 0 ∧ p = -1) ∨ (pack ≠ 0 ∧ p = pack)) : treeE (missE xs known loss p) (papersO xs known loss) (totalsO xs known loss) = rootE xs known loss (hasP xs known loss pack) := by
 rw [rootP_is]
 unfold missE
 rcases h with ⟨h1, h2⟩ | ⟨h1, h2⟩
 · rw [h2, h1, if_neg (by decide), paper_neg (p := -1) (by decide)]
 · rw [h2, if_neg h1]
set_option maxRecDepth 100000 in
set_option maxHeartbeats 8000000 in
theorem named_r (a : Option Addr) (n cap : Nat) (xs : List Pa) (hs : ∀ x ∈ xs, x.Short) (known loss : Int) (pack : Int) (w : World) (h : Rd Pa.vals 14 w a n xs) (hcap : n ≤ cap) (hn : n ≤ 100000) :
 Calls Tryz.prog 38 #[.slice a n cap, .int .i64 known, .int .i64 loss, .int .i64 pack] w (RightPost w (papersO xs known loss) (totalsO xs known loss) (rootE xs known loss (hasP xs known loss pack))) := by
 have hB0 := al' (Below.refl w.heap.size w) (.cells #[.slice none 0 0, .slice none 0 0] 70)
 have hb0 := BoxG.made w [.slice none 0 0, .slice none 0 0] 70
 have HB1 := Hd hB0
 have HR1 := Hd hb0
 have hsz : (w.alloc (.cells #[.slice none 0 0, .slice none 0 0] 70)).heap.size = w.heap.size + 1 := by simp
 have Hsz := Hd hsz
 have CR := Hd (fun (p : Int) W (hW : Below w.heap.size w W) => right_r a n cap xs hs known loss p W (h.below' hW) hcap hn)
 have HE := Hd (fun p h => named_E (xs := xs) (known := known) (loss := loss) (pack := pack) (p := p) h)
 unfold RightPost at CR
 clear h hB0 hb0 hsz
 obtain ⟨PS, hPS⟩ : ∃ P, papersO xs known loss = P := ⟨_, rfl⟩
 obtain ⟨TS, hTS⟩ : ∃ P, totalsO xs known loss = P := ⟨_, rfl⟩
 obtain ⟨E, hE⟩ : ∃ P, rootE xs known loss (hasP xs known loss pack) = P := ⟨_, rfl⟩
 rw [hPS, hTS] at CR HE ⊢
 rw [hE] at HE ⊢
 clear hPS hTS hE
 go_enter Tryz.func38, Tryz.ntmps38
 go_upto_region 1 with (fail)
 generalize w.alloc (.cells #[.slice none 0 0, .slice none 0 0] 70) = w1 at *
 obtain ⟨p, hp⟩ : ∃ p, (pack = 0 ∧ p = -1) ∨ (pack ≠ 0 ∧ p = pack) := by
  by_cases h0 : pack = 0
  · exact ⟨-1, .inl ⟨h0, rfl⟩⟩
  · exact ⟨pack, .inr ⟨h0, rfl⟩⟩
 have CR2 := Hd (CR.out p w1 HB1.out)
 rw [HE.out p hp] at CR2
 have HRa := HR1
 clear CR HE
 rcases hp with ⟨h0, hp⟩ | ⟨h0, hp⟩
 · have q0 : (pack == 0) = true := by simp [h0]
   subst hp
   clear h0
   go_wp2_with (go_at_call 29; refine CR2.out.mono ?_; rintro e w2 ⟨pa, pn, pc, ta, tn, tc, rfl, hS, hok⟩; have HB2 := Hd (HB1.out.trans (hS.mono HB1.out.size)); have HRr := Hd (HRa.out.below' hS); have HOk := Hd hok; have HSz := Hd hS.size; clear hok; obtain ⟨r0, r1, rf, rl⟩ := pair_facts HRr.out)
   have hsk := (two_set (u := .slice pa pn pc) (v := .slice ta tn tc) HRr.out).2.2.2
   have HOk2 := Hd (show E = 0 → pn ≤ 201 ∧ tn ≤ 201 ∧ Rd Pa.vals 14 ((w2.setCell ⟨w.heap.size, 0, none⟩ (.slice pa pn pc)).setCell ⟨w.heap.size, 1, none⟩ (.slice ta tn tc)) pa pn PS ∧ Rd Pa.vals 14 ((w2.setCell ⟨w.heap.size, 0, none⟩ (.slice pa pn pc)).setCell ⟨w.heap.size, 1, none⟩ (.slice ta tn tc)) ta tn TS ∧ (∀ p, pa = some p → w.heap.size < p.block) ∧ ∀ p, ta = some p → w.heap.size < p.block from fun e => by
    obtain ⟨h1, h2, h3, h4, h5, h6⟩ := HOk.out e
    have hz := Hsz.out
    refine ⟨h1, h2, hsk.rd h3 (fun _ p e2 hm => by have := h5 p e2; have := List.mem_singleton.1 hm; omega), hsk.rd h4 (fun _ p e2 hm => by have := h6 p e2; have := List.mem_singleton.1 hm; omega), fun p e2 => by have := h5 p e2; omega, fun p e2 => by have := h6 p e2; omega⟩)
   obtain ⟨wf, hwf, s0, s1, sl, hBf⟩ := two_end (u := .slice pa pn pc) (v := .slice ta tn tc) HRr.out HB2.out (Nat.le_refl _)
   rw [hwf] at HOk2 ⊢
   exact bodyPost_ret (by simp [results, Tryz.results38, go_sem, s0, s1, sl]) rfl (show RightPost w PS TS E (.returned (.tuple #[.agg #[.slice pa pn pc, .slice ta tn tc], .int .i64 E])) wf from ⟨_, _, _, _, _, _, rfl, hBf, HOk2.out⟩)
 · have q0 : (pack == 0) = false := by simp [h0]
   subst hp
   clear h0
   go_wp2_with (go_at_call 29; refine CR2.out.mono ?_; rintro e w2 ⟨pa, pn, pc, ta, tn, tc, rfl, hS, hok⟩; have HB2 := Hd (HB1.out.trans (hS.mono HB1.out.size)); have HRr := Hd (HRa.out.below' hS); have HOk := Hd hok; have HSz := Hd hS.size; clear hok; obtain ⟨r0, r1, rf, rl⟩ := pair_facts HRr.out)
   have hsk := (two_set (u := .slice pa pn pc) (v := .slice ta tn tc) HRr.out).2.2.2
   have HOk2 := Hd (show E = 0 → pn ≤ 201 ∧ tn ≤ 201 ∧ Rd Pa.vals 14 ((w2.setCell ⟨w.heap.size, 0, none⟩ (.slice pa pn pc)).setCell ⟨w.heap.size, 1, none⟩ (.slice ta tn tc)) pa pn PS ∧ Rd Pa.vals 14 ((w2.setCell ⟨w.heap.size, 0, none⟩ (.slice pa pn pc)).setCell ⟨w.heap.size, 1, none⟩ (.slice ta tn tc)) ta tn TS ∧ (∀ p, pa = some p → w.heap.size < p.block) ∧ ∀ p, ta = some p → w.heap.size < p.block from fun e => by
    obtain ⟨h1, h2, h3, h4, h5, h6⟩ := HOk.out e
    have hz := Hsz.out
    refine ⟨h1, h2, hsk.rd h3 (fun _ p e2 hm => by have := h5 p e2; have := List.mem_singleton.1 hm; omega), hsk.rd h4 (fun _ p e2 hm => by have := h6 p e2; have := List.mem_singleton.1 hm; omega), fun p e2 => by have := h5 p e2; omega, fun p e2 => by have := h6 p e2; omega⟩)
   obtain ⟨wf, hwf, s0, s1, sl, hBf⟩ := two_end (u := .slice pa pn pc) (v := .slice ta tn tc) HRr.out HB2.out (Nat.le_refl _)
   rw [hwf] at HOk2 ⊢
   exact bodyPost_ret (by simp [results, Tryz.results38, go_sem, s0, s1, sl]) rfl (show RightPost w PS TS E (.returned (.tuple #[.agg #[.slice pa pn pc, .slice ta tn tc], .int .i64 E])) wf from ⟨_, _, _, _, _, _, rfl, hBf, HOk2.out⟩)
def WePost (w : World) (V : Int × Int) (E : Int) (e : Ending) (w' : World) : Prop := e = .returned (.tuple #[.agg #[.int .i64 V.1, .int .i64 V.2], .int .i64 E]) ∧ Below w.heap.size w w'
set_option maxRecDepth 100000 in
set_option maxHeartbeats 8000000 in
theorem weigh_r (a : Option Addr) (n cap : Nat) (xs : List Pa) (hs : ∀ x ∈ xs, x.Short) (known loss : Int) (pack : Int) (w : World) (h : Rd Pa.vals 14 w a n xs) (hcap : n ≤ cap) (hn : n ≤ 100000) :
 Calls Tryz.prog 10 #[.slice a n cap, .int .i64 known, .int .i64 loss, .int .i64 pack] w (WeighedPost w xs known loss pack) := by
 have hB0 := al' (Below.refl w.heap.size w) (.cells #[.int .i64 0, .int .i64 0] 32)
 have hb0 := BoxG.made w [.int .i64 0, .int .i64 0] 32
 have HB1 := Hd hB0
 have HR1 := Hd hb0
 have CN := Hd (fun W (hW : Below w.heap.size w W) => named_r a n cap xs hs known loss pack W (h.below' hW) hcap hn)
 have HWp := Hd (fun h => weigh_plain (xs := xs) (known := known) (loss := loss) (pack := pack) h)
 have HVn := Hd (show ¬ weighE xs known loss (hasP xs known loss pack) = 0 → weighV xs known loss pack = (0, 0) from fun h => by unfold weighV; rw [if_neg h])
 have HVy := Hd (show weighE xs known loss (hasP xs known loss pack) = 0 → weighV xs known loss pack = weighP xs known loss pack from fun h => by unfold weighV; rw [if_pos h])
 have HEb := Hd (weighE_bad (xs := xs) (known := known) (loss := loss) (tb := hasP xs known loss pack))
 unfold RightPost at CN
 show Calls Tryz.prog 10 #[.slice a n cap, .int .i64 known, .int .i64 loss, .int .i64 pack] w (WePost w (weighV xs known loss pack) (weighE xs known loss (hasP xs known loss pack)))
 clear h hB0 hb0
 obtain ⟨PS, hPS⟩ : ∃ P, papersO xs known loss = P := ⟨_, rfl⟩
 obtain ⟨TS, hTS⟩ : ∃ P, totalsO xs known loss = P := ⟨_, rfl⟩
 obtain ⟨E, hE⟩ : ∃ P, rootE xs known loss (hasP xs known loss pack) = P := ⟨_, rfl⟩
 obtain ⟨WE, hWE⟩ : ∃ P, weighE xs known loss (hasP xs known loss pack) = P := ⟨_, rfl⟩
 obtain ⟨WV, hWV⟩ : ∃ P, weighV xs known loss pack = P := ⟨_, rfl⟩
 obtain ⟨WP, hWP⟩ : ∃ P, weighP xs known loss pack = P := ⟨_, rfl⟩
 rw [hPS, hTS] at CN HWp
 rw [hE] at CN HWp HEb
 rw [hWE] at HWp HVn HVy HEb ⊢
 rw [hWV] at HVn HVy ⊢
 rw [hWP] at HVy HWp
 clear hPS hTS hE hWE hWV hWP
 go_enter Tryz.func10, Tryz.ntmps10
 go_upto_region 1 with (fail)
 generalize w.alloc (.cells #[.int .i64 0, .int .i64 0] 32) = w1 at *
 have CN2 := Hd (CN.out w1 HB1.out)
 go_upto_region 2 with (go_at_call 38; refine CN2.out.mono ?_; rintro e w2 ⟨pa, pn, pc, ta, tn, tc, rfl, hS, hok⟩)
 have hM := BoxG.made w2 [.slice pa pn pc, .slice ta tn tc] 70
 have hBm := al' (Below.refl w2.heap.size w2) (.cells #[.slice pa pn pc, .slice ta tn tc] 70)
 have hS3 := hS.trans (hBm.mono hS.size)
 have HB3 := Hd (HB1.out.trans (hS3.mono HB1.out.size))
 have HR3 := Hd (HR1.out.below' hS3)
 have HOk := Hd (show E = 0 → pn ≤ 201 ∧ tn ≤ 201 ∧ Rd Pa.vals 14 (w2.alloc (.cells #[.slice pa pn pc, .slice ta tn tc] 70)) pa pn PS ∧ Rd Pa.vals 14 (w2.alloc (.cells #[.slice pa pn pc, .slice ta tn tc] 70)) ta tn TS from fun e => by
  obtain ⟨h1, h2, h3, h4, _, _⟩ := hok e
  exact ⟨h1, h2, h3.below' hBm, h4.below' hBm⟩)
 clear hok hS hS3 hBm CN2 CN HR1 HB1
 generalize w2.alloc (.cells #[.slice pa pn pc, .slice ta tn tc] 70) = w3 at *
 obtain ⟨M, hMe⟩ : ∃ M, w2.heap.size = M := ⟨_, rfl⟩
 rw [hMe] at hM ⊢
 clear hMe
 obtain ⟨m0, m1, _, _⟩ := pair_facts hM
 by_cases h0 : E = 0
 case neg =>
  have h1 : (E != 0) = true := by simp [h0]
  have HX := Hd (show WE = E ∧ WV = (0, 0) from by
   have h2 := HEb.out h0
   exact ⟨h2, HVn.out (by rw [h2]; exact h0)⟩)
  obtain ⟨r0, r1, rf, rl⟩ := pair_facts HR3.out
  clear h0 hM
  go_wp2_with fail
  obtain ⟨wf, hwf, s0, s1, sl, hBf⟩ := two_end (u := .int .i64 0) (v := .int .i64 0) HR3.out HB3.out (Nat.le_refl _)
  rw [hwf]
  exact bodyPost_ret (by simp [results, Tryz.results10, go_sem, s0, s1, sl]) rfl (show WePost w WV WE (.returned (.tuple #[.agg #[.int .i64 0, .int .i64 0], .int .i64 E])) wf from ⟨by rw [HX.out.1, HX.out.2] <;> rfl, hBf⟩)
 case pos =>
 subst h0
 obtain ⟨hpn, htn, hrp, hrt⟩ := HOk.out rfl
 obtain ⟨hwell, hwe, WAY, hway, hin, hne, hends⟩ := HWp.out rfl
 have HM3 := Hd (show ManR w3 M pa pn pc ta tn tc PS TS from ⟨m0, m1, hrp, hrt⟩)
 have CC := Hd (complete_r pa pn pc ta tn tc PS TS hwell w3 hrp hrt)
 have CE := Hd (fun W (hW : Below w3.heap.size w3 W) => ends_r pa pn pc ta tn tc PS TS hwell pack WAY hway hin hne W (hrp.below' hW) (hrt.below' hW))
 unfold SpanPost at CE
 obtain ⟨CB, hCB⟩ : ∃ b, completeR PS TS 300 = b := ⟨_, rfl⟩
 rw [hCB] at CC hwe hends
 have HWe := Hd hwe
 have HEn := Hd hends
 clear hpn htn hrp hrt hwell hwe hway hin hne hends hCB hM HOk HWp
 go_wp2_with fail
 refine CC.out.mono ?_
 rintro e w4 ⟨rfl, hS⟩
 have HB4 := Hd (HB3.out.trans (hS.mono HB3.out.size))
 have HR4 := Hd (HR3.out.below' hS)
 have HM4 := Hd (HM3.out.below' hS)
 have HS4 := Hd hS
 clear hS CC HB3 HR3 HM3 m0 m1
 cases CB with
 | false =>
   have HX := Hd (show WE = 10 ∧ WV = (0, 0) from by
    have h2 := HWe.out
    rw [if_neg (by simp)] at h2
    exact ⟨h2, HVn.out (by rw [h2]; decide)⟩)
   obtain ⟨r0, r1, rf, rl⟩ := pair_facts HR4.out
   go_wp2_with fail
   obtain ⟨wf, hwf, s0, s1, sl, hBf⟩ := two_end (u := .int .i64 0) (v := .int .i64 0) HR4.out HB4.out (Nat.le_refl _)
   rw [hwf]
   exact bodyPost_ret (by simp [results, Tryz.results10, go_sem, s0, s1, sl]) rfl (show WePost w WV WE (.returned (.tuple #[.agg #[.int .i64 0, .int .i64 0], .int .i64 10])) wf from ⟨by rw [HX.out.1, HX.out.2] <;> rfl, hBf⟩)
 | true =>
   have HX := Hd (show WE = 0 ∧ WV = endsW PS TS 300 WAY from by
    have h2 := HWe.out
    rw [if_pos rfl] at h2
    exact ⟨h2, by rw [HVy.out h2, HEn.out rfl]⟩)
   have CE2 := Hd (CE.out w4 HS4.out)
   obtain ⟨v1, hv1⟩ : ∃ v, (endsW PS TS 300 WAY).1 = v := ⟨_, rfl⟩
   obtain ⟨v2, hv2⟩ : ∃ v, (endsW PS TS 300 WAY).2 = v := ⟨_, rfl⟩
   rw [hv1, hv2] at CE2
   have HV := Hd (show WV.1 = v1 ∧ WV.2 = v2 from by rw [HX.out.2]; exact ⟨hv1, hv2⟩)
   have m0 := HM4.out.c0
   have m1 := HM4.out.c1
   clear CE hv1 hv2
   go_wp2_with (go_at_call 40; refine CE2.out.mono ?_; rintro e w5 ⟨rfl, hS⟩; have HB5 := Hd (HB4.out.trans (hS.mono HB4.out.size)); have HR5 := Hd (HR4.out.below' hS); obtain ⟨r0, r1, rf, rl⟩ := pair_facts HR5.out)
   obtain ⟨wf, hwf, s0, s1, sl, hBf⟩ := two_end (u := .int .i64 v1) (v := .int .i64 v2) HR5.out HB5.out (Nat.le_refl _)
   rw [hwf]
   exact bodyPost_ret (by simp [results, Tryz.results10, go_sem, s0, s1, sl]) rfl (show WePost w WV WE (.returned (.tuple #[.agg #[.int .i64 v1, .int .i64 v2], .int .i64 0])) wf from ⟨by rw [HX.out.1, HV.out.1, HV.out.2], hBf⟩)
end Go.Proofs.YtehplmeckfinoaaGreatDoor
