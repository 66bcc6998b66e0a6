/- The walks of the reference's below, held and complete. -/
import Derived.Test.YtmghbbgnenpcaaaGreatDoorCROf
import Derived.Test.YtmghbbgnenpcaaaGreatDoorCEndsS
import Derived.Deep.RegionHeld3
import Derived.Deep.Cut
import Derived.Deep.CutRange
import Derived.IntWalk
set_option linter.unusedSimpArgs false
set_option linter.unusedVariables false
namespace Go.Proofs.YtmghbbgnenpcaaaGreatDoor
open Go.RowKit Go.Shelf

def SpanPost (w : World) (p : Int × Int) (e : Ending) (w' : World) : Prop := e = .returned (.agg #[.int .i64 p.1, .int .i64 p.2]) ∧ Below w.heap.size w w'
theorem two_end {W w : World} {B : Nat} {a b u v : Value} (h : BoxG W B [a, b]) (hB : Below w.heap.size w W) (hb : w.heap.size ≤ B) :
    ∃ wf, (W.setCell ⟨B, 0, none⟩ u).setCell ⟨B, 1, none⟩ v = wf ∧ wf.cell? ⟨B, 0, none⟩ = some u ∧ wf.cell? ⟨B, 1, none⟩ = some v ∧ B < wf.heap.size ∧ Below w.heap.size w wf := by
  obtain ⟨s0, s1, sl, sk⟩ := two_set (u := u) (v := v) h
  exact ⟨_, rfl, s0, s1, sl, sk.below_then hB (fun x hx => by have := List.mem_singleton.1 hx; omega) (Nat.le_refl _)⟩
theorem made2 {w : World} {u v x y z t : Value} {T T2 : TypeId} : BoxG ((w.alloc (.cells #[u, v] T)).alloc (.cells #[x, y] T2)) (w.heap.size + 1) [x, y] := by
  have := BoxG.made (w.alloc (.cells #[u, v] T)) [x, y] T2
  have hz : (w.alloc (.cells #[u, v] T)).heap.size = w.heap.size + 1 := by simp
  rw [hz] at this
  exact this
set_option maxRecDepth 100000 in
set_option maxHeartbeats 8000000 in
theorem below_of (pa : Option Addr) (pn pc : Nat) (ta : Option Addr) (tn tc : Nat) (PS TS : List Pa) (q : Int) (H : Int × Int) (w : World) (hp : Rd Pa.vals 14 w pa pn PS) (ht : Rd Pa.vals 14 w ta tn TS)
    (IH : ∀ W, Below w.heap.size w W → Calls Tryz.prog 91 #[.agg #[.slice pa pn pc, .slice ta tn tc], .int .i64 q] W (SpanPost W H)) :
    Calls Tryz.prog 90 #[.agg #[.slice pa pn pc, .slice ta tn tc], .int .i64 q] w (SpanPost w (belowW PS H q)) := by
  have hM := (ManR.box pc tc hp ht 85).below' (al' (Below.refl _ _) (.cells #[.int .i64 0, .int .i64 0] 26))
  have hB := al' (al' (Below.refl w.heap.size w) (.cells #[.slice pa pn pc, .slice ta tn tc] 85)) (.cells #[.int .i64 0, .int .i64 0] 26)
  have hR := made2 (w := w) (u := .slice pa pn pc) (v := .slice ta tn tc) (x := .int .i64 0) (y := .int .i64 0) (z := .int .i64 0) (t := .int .i64 0) (T := 85) (T2 := 26)
  have HM := Lib.hid hM
  have HB1 := Lib.hid hB
  have HR := Lib.hid hR
  have HI := Lib.hid IH
  clear hM hB hR IH hp ht
  obtain ⟨RV, hRV⟩ : ∃ p, belowW PS H q = p := ⟨_, rfl⟩
  rw [hRV]
  have HRV := Lib.hid hRV
  clear hRV
  go_enter Tryz.func90, Tryz.ntmps90
  go_upto_region 1 with (fail)
  generalize ((w.alloc (.cells #[.slice pa pn pc, .slice ta tn tc] 85)).alloc (.cells #[.int .i64 0, .int .i64 0] 26)) = w1 at *
  obtain ⟨M, hMe⟩ : ∃ M, w.heap.size = M := ⟨_, rfl⟩
  have HMe := Lib.hid hMe
  rw [hMe] at HM HR ⊢
  clear hMe
  have m0 := HM.out.c0
  have CF := Lib.hid (find_r pa pn pc PS q w1 HM.out.rp)
  obtain ⟨oq, hoq⟩ : ∃ oq, ofI PS q = oq := ⟨_, rfl⟩
  have HOq := Lib.hid hoq
  unfold FindPost at CF
  rw [hoq] at CF
  clear hoq
  go_upto_region 2 with (go_at_call 78; refine CF.out.mono ?_; rintro e w2 ⟨hS0, x, hq, rfl⟩)
  have hBq := al' (Below.refl w2.heap.size w2) (.cells #[.int .i64 x.id, .int .i64 x.known, .int .u8 x.kind, .int .i64 x.loss, .int .i64 x.pack, .int .i64 x.inn, .string ⟨x.mark.toArray⟩, .string ⟨x.goods.toArray⟩, .int .i64 x.low, .int .i64 x.high, .int .i64 x.pieces, .int .i64 x.owner, .int .i64 x.count, .int .i64 x.of] 42)
  have hS := hS0.trans (hBq.mono hS0.size)
  have hbx := (BoxG.made w2 x.vals 42)
  simp only [Pa.vals] at hbx
  have HB2 := Lib.hid (HB1.out.trans (hS.mono HB1.out.size))
  have HM2 := Lib.hid (HM.out.below' hS)
  have HR2 := Lib.hid (HR.out.below' hS)
  have hq0 : w1.heap.size ≤ w2.heap.size := hS0.size
  have HQ0 := Lib.hid hq0
  clear hBq hS hS0 m0 CF HM HB1 HR hq0
  generalize w2.alloc (.cells #[.int .i64 x.id, .int .i64 x.known, .int .u8 x.kind, .int .i64 x.loss, .int .i64 x.pack, .int .i64 x.inn, .string ⟨x.mark.toArray⟩, .string ⟨x.goods.toArray⟩, .int .i64 x.low, .int .i64 x.high, .int .i64 x.pieces, .int .i64 x.owner, .int .i64 x.count, .int .i64 x.of] 42) = w3 at *
  obtain ⟨Q, hQe⟩ : ∃ Q, w2.heap.size = Q := ⟨_, rfl⟩
  rw [hQe] at hbx HQ0 ⊢
  clear hQe
  have HX := Lib.hid hbx
  have Hq := Lib.hid hq
  clear hbx hq
  have CH := Lib.hid (HI.out w3 HB2.out)
  have m0 := HM2.out.c0
  have m1 := HM2.out.c1
  unfold SpanPost at CH
  go_upto_region 3 with (go_at_call 91; refine CH.out.mono ?_; rintro e w4 ⟨rfl, hS4⟩)
  have hb5 := BoxG.made w4 [.int .i64 H.1, .int .i64 H.2] 26
  have hS5 := hS4.trans ((al' (Below.refl w4.heap.size w4) (.cells #[.int .i64 H.1, .int .i64 H.2] 26)).mono hS4.size)
  have HB5 := Lib.hid (HB2.out.trans (hS5.mono HB2.out.size))
  have HR5 := Lib.hid (HR2.out.below' hS5)
  have HX5 := Lib.hid (HX.out.below' hS5)
  have HH5 := Lib.hid hb5
  clear hb5 hS5 hS4 m0 m1 CH HM2 HB2 HR2 HX HI
  generalize w4.alloc (.cells #[.int .i64 H.1, .int .i64 H.2] 26) = w5 at *
  obtain ⟨K, hKe⟩ : ∃ K, w4.heap.size = K := ⟨_, rfl⟩
  rw [hKe] at HH5 ⊢
  clear hKe
  obtain ⟨c0, c1, c2, c3, c4, c5, c6, c7, c8, c9, c10, c11, c12, c13⟩ := BoxG.pa (x := x) HX5.out
  obtain ⟨k0, k1, kf, kl⟩ := pair_facts HH5.out
  clear c0 c1 c2 c3 c4 c5 c6 c7 c10 c11 c12 c13
  go_upto_region 4 with (fail)
  have hO := BoxG.made w5 [.int .i64 (max x.low H.1), .int .i64 x.high] 26
  have hBo := al' (Below.refl w5.heap.size w5) (.cells #[.int .i64 (max x.low H.1), .int .i64 x.high] 26)
  have HB6 := Lib.hid (HB5.out.trans (hBo.mono HB5.out.size))
  have HR6 := Lib.hid (HR5.out.below' hBo)
  have HH6 := Lib.hid (HH5.out.below' hBo)
  have hne : M + 1 ≠ w5.heap.size := by have := HR5.out.1; omega
  have HMO := Lib.hid (show M + 1 < w5.heap.size from HR5.out.1)
  have HO := Lib.hid hO
  clear hO hBo c8 c9 k0 k1 kf kl HH5 HR5 HB5 HX5
  generalize w5.alloc (.cells #[.int .i64 (max x.low H.1), .int .i64 x.high] 26) = w6 at *
  obtain ⟨O, hOe⟩ : ∃ O, w5.heap.size = O := ⟨_, rfl⟩
  rw [hOe] at HO hne HMO ⊢
  clear hOe
  obtain ⟨k0, k1, kf, kl⟩ := pair_facts HH6.out
  obtain ⟨o0, o1, of, ol⟩ := pair_facts HO.out
  obtain ⟨r0, r1, rf, rl⟩ := pair_facts HR6.out
  have HM0 := Lib.hid (show w.heap.size ≤ M + 1 from by have := HMe.out; omega)
  have HX0 := Lib.hid (show x = (ofI PS q).getD pa0 from by rw [HOq.out, ← Hq.out]; rfl)
  by_cases hlt : H.2 < H.1
  · have HV := Lib.hid (show RV = (1, 0) from by rw [← HRV.out]; unfold belowW; rw [if_pos hlt])
    go_wp2_with fail
    have hR2 : BoxG ((w6.setCell ⟨O, 0, none⟩ (.int .i64 1)).setCell ⟨O, 1, none⟩ (.int .i64 0)) (M + 1) [.int .i64 0, .int .i64 0] := (HR6.out.aside hne 0 _).aside hne 1 _
    have hB2 : Below w.heap.size w ((w6.setCell ⟨O, 0, none⟩ (.int .i64 1)).setCell ⟨O, 1, none⟩ (.int .i64 0)) := (two_set HO.out).2.2.2.below_then HB6.out (fun y hy => by have := List.mem_singleton.1 hy; have := HMO.out; have := HM0.out; omega) (Nat.le_refl _)
    obtain ⟨wf, hwf, s0, s1, sl, hBf⟩ := two_end (u := .int .i64 1) (v := .int .i64 0) hR2 hB2 HM0.out
    rw [hwf]
    exact bodyPost_ret (by simp [results, Tryz.results90, go_sem, s0, s1, sl]) rfl (show SpanPost w RV (.returned (.agg #[.int .i64 1, .int .i64 0])) wf from ⟨by rw [HV.out], hBf⟩)
  · have HV := Lib.hid (show RV = (max x.low H.1, x.high) from by rw [← HRV.out, HX0.out]; unfold belowW; rw [if_neg hlt])
    go_wp2_with fail
    obtain ⟨wf, hwf, s0, s1, sl, hBf⟩ := two_end (u := .int .i64 (max x.low H.1)) (v := .int .i64 x.high) HR6.out HB6.out HM0.out
    rw [hwf]
    exact bodyPost_ret (by simp [results, Tryz.results90, go_sem, s0, s1, sl]) rfl (show SpanPost w RV (.returned (.agg #[.int .i64 (max x.low H.1), .int .i64 x.high])) wf from ⟨by rw [HV.out], hBf⟩)

theorem sum_step {L : List Int} {k : Nat} {q : Int} (h : L[k]? = some q) (f : Int → Int) : ((L.take (k + 1)).map f).sum = ((L.take k).map f).sum + f q := by
  rw [take_succ_snoc h, List.map_append, List.sum_append]; simp
theorem bel_bd {ps ts : List Pa} (hmo : ManiOk ps ts) (d : Nat) (q : Int) : 0 ≤ (belowR ps ts d q).1 ∧ (belowR ps ts d q).1 ≤ 100000000 ∧ 0 ≤ (belowR ps ts d q).2 ∧ (belowR ps ts d q).2 ≤ 100000 := by
  have h1 := held_hi hmo d q
  have h2 := below_hi hmo (heldR ps ts d q) q
  have h3 := ofI_bd hmo q
  refine ⟨?_, ?_, h2⟩
  · unfold belowR belowW; split
    · decide
    · simp only; omega
  · unfold belowR belowW; split
    · decide
    · simp only; omega
theorem sum_bd {f : Int → Int} {m : Int} (hm : 0 ≤ m) {L : List Int} (h : ∀ q ∈ L, 0 ≤ f q ∧ f q ≤ m) (hl : L.length ≤ 1000) (k : Nat) : 0 ≤ ((L.take k).map f).sum ∧ ((L.take k).map f).sum ≤ 1000 * m := by
  obtain ⟨h1, h2⟩ := sum_hi (L.take k) (fun q hq => h q (List.mem_of_mem_take hq))
  refine ⟨h1, Int.le_trans h2 ?_⟩
  exact Int.mul_le_mul_of_nonneg_right (by rw [List.length_take]; omega) hm
theorem set2_below {w w' : World} {X : Nat} {u v : Value} (h : Below w.heap.size w w') (hX : w.heap.size ≤ X) : Below w.heap.size w ((w'.setCell ⟨X, 0, none⟩ u).setCell ⟨X, 1, none⟩ v) :=
  (show Keeps [X] w' _ from (Keeps.setCell w' ⟨X, 0, none⟩ u).then_set ⟨X, 1, none⟩ v (.inl (by simp))).below_then h (fun y hy => by have := List.mem_singleton.1 hy; omega) (Nat.le_refl _)
theorem keep3 {W W' : World} {a b c : Addr} {u v x : Value} (h : W.cell? a = some u ∧ W.cell? b = some v ∧ W.cell? c = some x) (hB : Below W.heap.size W W') : W'.cell? a = some u ∧ W'.cell? b = some v ∧ W'.cell? c = some x := ⟨cell_stays h.1 hB, cell_stays h.2.1 hB, cell_stays h.2.2 hB⟩
theorem box0 {w w5 : World} {o : Obj} {T : TypeId} (h : Below w.heap.size w w5) (x y u v : Value) (ho : o = .cells #[x, y] T) : BoxG (((w5.alloc o).setCell ⟨w5.heap.size, 0, none⟩ u).setCell ⟨w5.heap.size, 1, none⟩ v) w5.heap.size [u, v] := by
  subst ho
  exact ((BoxG.made w5 [x, y] T).set 0 u (by simp)).set 1 v (by simp)
theorem bd0 (w : World) : Below w.heap.size w w.drew := dr' (Below.refl _ _)
theorem bd1 (w : World) (o : Obj) : Below w.heap.size w (w.alloc o).drew := dr' (al' (Below.refl _ _) o)
theorem bd2 {w w' : World} (h : Below w.heap.size w w') (o : Obj) : Below w.heap.size w (w'.alloc o) := h.alloc h.size o
set_option maxRecDepth 100000 in
set_option maxHeartbeats 8000000 in
theorem held_step (pa : Option Addr) (pn pc : Nat) (ta : Option Addr) (tn tc : Nat) (PS TS : List Pa) (pack : Int) (bel : Int → Int × Int) (w : World) (hp : Rd Pa.vals 14 w pa pn PS) (ht : Rd Pa.vals 14 w ta tn TS) (hn : pn ≤ 1000) (hc : ∀ t ∈ TS, 0 ≤ t.count ∧ t.count ≤ 1000)
    (hb : ∀ q ∈ insideI PS pack, 0 ≤ (bel q).1 ∧ (bel q).1 ≤ 100000000 ∧ 0 ≤ (bel q).2 ∧ (bel q).2 ≤ 100000)
    (IH : ∀ q ∈ insideI PS pack, ∀ W, Below w.heap.size w W → Calls Tryz.prog 90 #[.agg #[.slice pa pn pc, .slice ta tn tc], .int .i64 q] W (SpanPost W (bel q))) :
    Calls Tryz.prog 91 #[.agg #[.slice pa pn pc, .slice ta tn tc], .int .i64 pack] w (SpanPost w (boundR (ofI TS pack) (missR PS TS pack + ((insideI PS pack).map (fun q => (bel q).1)).sum, missR PS TS pack * 100000 + ((insideI PS pack).map (fun q => (bel q).2)).sum))) := by
  have hM := (ManR.box pc tc hp ht 85).below' (al' (Below.refl _ _) (.cells #[.int .i64 0, .int .i64 0] 26))
  have hB := al' (al' (Below.refl w.heap.size w) (.cells #[.slice pa pn pc, .slice ta tn tc] 85)) (.cells #[.int .i64 0, .int .i64 0] 26)
  have hR := made2 (w := w) (u := .slice pa pn pc) (v := .slice ta tn tc) (x := .int .i64 0) (y := .int .i64 0) (z := .int .i64 0) (t := .int .i64 0) (T := 85) (T2 := 26)
  have HM := Lib.hid hM
  have HB1 := Lib.hid hB
  have HR := Lib.hid hR
  have HI := Lib.hid IH
  have Hpl := Lib.hid hp.len
  have HBd := Lib.hid hb
  have hil : (insideI PS pack).length ≤ 1000 := Nat.le_trans (insideL_len PS pack) (by rw [Hpl.out]; exact hn)
  have hmb : -1000 ≤ missR PS TS pack ∧ missR PS TS pack ≤ 1000 := by
    unfold missR
    cases e : ofI TS pack with
    | none => simp
    | some t => have := hc t (ofI_mem e).1; simp only; omega
  clear hM hB hR IH hp ht hb
  obtain ⟨RV, hRV⟩ : ∃ p, boundR (ofI TS pack) (missR PS TS pack + ((insideI PS pack).map (fun q => (bel q).1)).sum, missR PS TS pack * 100000 + ((insideI PS pack).map (fun q => (bel q).2)).sum) = p := ⟨_, rfl⟩
  rw [hRV]
  have HRV := Lib.hid hRV
  clear hRV
  go_enter Tryz.func91, Tryz.ntmps91
  go_upto_region 1 with (fail)
  generalize ((w.alloc (.cells #[.slice pa pn pc, .slice ta tn tc] 85)).alloc (.cells #[.int .i64 0, .int .i64 0] 26)) = w1 at *
  obtain ⟨M, hMe⟩ : ∃ M, w.heap.size = M := ⟨_, rfl⟩
  have HMe := Lib.hid hMe
  rw [hMe] at HM HR ⊢
  clear hMe
  have m0 := HM.out.c0
  have m1 := HM.out.c1
  have CM := Lib.hid (missing_r pa pn pc ta tn tc PS TS pack w1 HM.out.rp HM.out.rt hn hc)
  have CI := Lib.hid (fun W (hW : Below w1.heap.size w1 W) => inside_rn pa pn pc ta tn tc PS TS pack W (HM.out.rp.below' hW) (HM.out.rt.below' hW) hn)
  have CF := Lib.hid (fun W (hW : Below w1.heap.size w1 W) => find_r ta tn tc TS pack W (HM.out.rt.below' hW))
  obtain ⟨oq, hoq⟩ : ∃ oq, ofI TS pack = oq := ⟨_, rfl⟩
  unfold FindPost at CF
  unfold InsPostN at CI
  rw [hoq] at CF HRV
  clear hoq
  obtain ⟨mi, hmi⟩ : ∃ m, missR PS TS pack = m := ⟨_, rfl⟩
  rw [hmi] at CM hmb HRV
  clear hmi
  obtain ⟨IL, hIL⟩ : ∃ L, insideI PS pack = L := ⟨_, rfl⟩
  rw [hIL] at CI HI HBd hil HRV
  clear hIL
  obtain ⟨il, hile⟩ : ∃ l, IL.length = l := ⟨_, rfl⟩
  rw [hile] at CI
  have HIle := Lib.hid hile
  have hil2 : il ≤ 1000 := by rw [← HIle.out]; exact hil
  clear hile hc
  go_upto_region 2 with (go_at_call 93; refine CM.out.mono ?_; rintro e w2 ⟨rfl, hS⟩)
  have HS2 := Lib.hid hS
  clear hS CM m0 m1
  have hwr : IntKind.i64.wrap (mi * 100000) = mi * 100000 := IntWalk.i64_in _ (by omega)
  go_upto_region 3 with (fail)
  have hO := BoxG.made w2 [.int .i64 mi, .int .i64 (mi * 100000)] 26
  have hBo := al' (Below.refl w2.heap.size w2) (.cells #[.int .i64 mi, .int .i64 (mi * 100000)] 26)
  have HS3 := Lib.hid (HS2.out.trans (hBo.mono HS2.out.size))
  have HO := Lib.hid hO
  have HO1 := Lib.hid (show w1.heap.size ≤ w2.heap.size from HS2.out.size)
  have HRO := Lib.hid (show M + 1 < w2.heap.size from Nat.lt_of_lt_of_le HR.out.1 HS2.out.size)
  clear hO hBo HS2 hwr
  generalize w2.alloc (.cells #[.int .i64 mi, .int .i64 (mi * 100000)] 26) = w3 at *
  obtain ⟨O, hOe⟩ : ∃ O, w2.heap.size = O := ⟨_, rfl⟩
  rw [hOe] at HO HRO HO1 ⊢
  clear hOe
  have HM3 := Lib.hid (HM.out.below' HS3.out)
  have m0 := HM3.out.c0
  have m1 := HM3.out.c1
  go_upto_region 4 with (go_at_call 94; refine (CI.out _ HS3.out).mono ?_; rintro e w4 ⟨la, lc, rfl, hrl, hS, _, hla⟩)
  have HS4 := Lib.hid (HS3.out.trans (hS.mono HS3.out.size))
  have HM4 := Lib.hid (HM3.out.below' hS)
  have HO4 := Lib.hid (HO.out.below' hS)
  have HR4 := Lib.hid (HR.out.below' HS4.out)
  have HL := Lib.hid hrl
  have HLa := Lib.hid (show ∀ p, la = some p → p.block ≠ O from fun p e => by have h1 := (hla p e).1; have h2 := HO.out.1; omega)
  have HB4 := Lib.hid (HB1.out.trans (HS4.out.mono HB1.out.size))
  clear hS hrl hla m0 m1 CI HS3 HM3 HO HR HM
  go_wp2_with fail
  go_loopw [8] (fun i wr => ∃ (k : Nat) (lo hi : Int), k ≤ il ∧ i = .int .i64 k ∧ lo = mi + ((IL.take k).map (fun q => (bel q).1)).sum ∧ hi = mi * 100000 + ((IL.take k).map (fun q => (bel q).2)).sum ∧ Keeps [O] w4 wr ∧ BoxG wr O [.int .i64 lo, .int .i64 hi]) (fun i _ => il - (intOf i).toNat)
  case atStart => exact ⟨0, mi, mi * 100000, Nat.zero_le _, rfl, by simp, by simp, Keeps.refl _ _, HO4.out⟩
  case round =>
    obtain ⟨k, lo, hi, hk, rfl, hlo, hhi, hkp, hO⟩ := hrel
    have HK := Lib.hid hkp
    have HO := Lib.hid hO
    have HLo := Lib.hid hlo
    have HHi := Lib.hid hhi
    clear hkp hO hlo hhi
    by_cases hlt : k < il
    · have hlt' : (k : Int) < (il : Int) := by omega
      obtain ⟨lb, lf, q, rfl, hlb, hq, hcq⟩ := (HK.out.rd HL.out (fun _ p e hm => HLa.out p e (List.mem_singleton.1 hm))).int hlt
      have hqm : q ∈ IL := List.mem_of_getElem? hq
      have HBr := Lib.hid (HK.out.below_then HB4.out (fun y hy => by have := List.mem_singleton.1 hy; have := HMe.out; have := HRO.out; omega) (Nat.le_refl _))
      have CB := Lib.hid (fun W (hW : Below wr.heap.size wr W) => HI.out q hqm W (HBr.out.trans (hW.mono HBr.out.size)))
      have hbq := HBd.out q hqm
      have hS1 := sum_step hq (fun q => (bel q).1)
      have hS2 := sum_step hq (fun q => (bel q).2)
      have hU1 := sum_bd (f := fun q => (bel q).1) (m := 100000000) (by decide) (fun q hq => ⟨(HBd.out q hq).1, (HBd.out q hq).2.1⟩) hil k
      have hU2 := sum_bd (f := fun q => (bel q).2) (m := 100000) (by decide) (fun q hq => (HBd.out q hq).2.2) hil k
      have hlo := HLo.out
      have hhi := HHi.out
      obtain ⟨b1, b2, b3, b4⟩ := hbq
      unfold SpanPost at CB
      obtain ⟨y1, hy1⟩ : ∃ y, (bel q).1 = y := ⟨_, rfl⟩
      obtain ⟨y2, hy2⟩ : ∃ y, (bel q).2 = y := ⟨_, rfl⟩
      rw [hy1] at CB hS1 b1 b2
      rw [hy2] at CB hS2 b3 b4
      have HN1 := Lib.hid (show lo + y1 = mi + ((IL.take (k + 1)).map (fun q => (bel q).1)).sum from by rw [hS1, hlo]; omega)
      have HN2 := Lib.hid (show hi + y2 = mi * 100000 + ((IL.take (k + 1)).map (fun q => (bel q).2)).sum from by rw [hS2, hhi]; omega)
      have hw1 : IntKind.i64.wrap (lo + y1) = lo + y1 := IntWalk.i64_in _ (by omega)
      have hw2 : IntKind.i64.wrap (hi + y2) = hi + y2 := IntWalk.i64_in _ (by omega)
      have hMO : M ∉ [O] := by have := HRO.out; simp; omega
      have m0 := HK.out.cell HM4.out.c0 hMO
      have m1 := HK.out.cell HM4.out.c1 hMO
      clear hq hqm hS1 hS2 hU1 hU2 hlo hhi hy1 hy2 b1 b2 b3 b4 hMO hlb
      go_upto_region 7 with (fail)
      go_cut [9] from 28 to 33 (fun v wx => ∃ X, v = .pointer (some ⟨X, 0, none⟩) ∧ Below wr.heap.size wr wx ∧ BoxG wx X [.int .i64 y1, .int .i64 y2] ∧ wr.heap.size ≤ X)
      case first =>
        go_region_held3 (fun w' => w'.cell? ⟨M, 0, none⟩ = some (.slice pa pn pc) ∧ w'.cell? ⟨M, 1, none⟩ = some (.slice ta tn tc) ∧ w'.cell? ⟨lb, lf + k, none⟩ = some (.int .i64 q))
          ((refine keep3 ⟨m0, m1, hcq⟩ ?_; first | with_reducible apply bd0 | with_reducible apply bd1 | with_reducible exact hb5.out | with_reducible exact bd2 hb5.out _ | with_reducible exact set2_below hb5.out (Nat.le_refl _) | with_reducible exact set2_below (bd2 hb5.out _) hb5.out.size))
          (first
            | (go_at_call 90; with_reducible refine (CB.out _ (bd0 _)).mono ?_; rintro e w5 ⟨rfl, hB5⟩; have hb5 := Lib.hid (show Below wr.heap.size wr w5 from below_on (bd0 wr) hB5 (Nat.le_refl _)); clear hB5)
            | (go_at_call 90; with_reducible refine (CB.out _ (bd1 _ _)).mono ?_; rintro e w5 ⟨rfl, hB5⟩; have hb5 := Lib.hid (show Below wr.heap.size wr w5 from below_on (bd1 wr _) hB5 (Nat.le_refl _)); have hz := Lib.hid (((BoxG.made wr [.int .i64 0, .int .i64 0] 26).below' (bd0 _)).below' hB5); obtain ⟨z0, z1, zf, zl⟩ := pair_facts hz.out; clear hB5))
        all_goals go_wp2_with fail
        all_goals go_meet
        all_goals first
          | exact ⟨_, rfl, bd2 hb5.out _, BoxG.made w5 [.int .i64 y1, .int .i64 y2] 26, hb5.out.size⟩
          | exact ⟨_, rfl, set2_below hb5.out (Nat.le_refl _), (hz.out.set 0 _ (by simp)).set 1 _ (by simp), Nat.le_refl _⟩
      case rest =>
      obtain ⟨X, rfl, hB6, hX, hXl⟩ := hcut
      generalize wc = w6 at *
      have HO6 := Lib.hid (HO.out.below' hB6)
      have HK6 := Lib.hid (HK.out.then_below hB6)
      obtain ⟨o0, o1, of, ol⟩ := pair_facts HO6.out
      obtain ⟨x0, x1, xf, xl⟩ := pair_facts hX
      have hne : X ≠ O := by have := HO.out.1; omega
      clear hB6 hX hXl m0 m1 hcq HO HK CB
      go_wp2_with fail
      exact ⟨⟨k + 1, lo + y1, hi + y2, by omega, by go_num, HN1.out, HN2.out, (HK6.out.then_set ⟨O, 0, none⟩ _ (.inl (by simp))).then_set ⟨O, 1, none⟩ _ (.inl (by simp)), (HO6.out.set 0 _ (by simp)).set 1 _ (by simp)⟩, by simp [intOf]; omega⟩
    · have hltg : ¬ (k : Int) < (il : Int) := by omega
      have hOy : ∀ y ∈ [O], y = O := fun y hy => List.mem_singleton.1 hy
      have HBr := Lib.hid (HK.out.below_then HB4.out (fun y hy => by have := hOy y hy; have := HMe.out; have := HRO.out; omega) (Nat.le_refl _))
      have HS1r := Lib.hid (HK.out.below_then HS4.out (fun y hy => by have := hOy y hy; have := HO1.out; omega) (Nat.le_refl _))
      have HT := Lib.hid (show IL.take k = IL from List.take_of_length_le (by rw [HIle.out]; omega))
      have HV := Lib.hid (show boundR oq (lo, hi) = RV from by rw [← HRV.out, HLo.out, HHi.out, HT.out])
      have hMO : M ∉ [O] := by have := HRO.out; simp; omega
      have hRO : M + 1 ∉ [O] := by have := HRO.out; simp; omega
      have m1 := HK.out.cell HM4.out.c1 hMO
      have HRr := Lib.hid (HR4.out.keeps HK.out hRO)
      clear hOy hMO hRO hlt HT HLo HHi HRV HR4 HO4 HM4 HI HBd HL HLa
      go_upto_region 11 with (go_at_call 78; refine (CF.out _ HS1r.out).mono ?_; rintro e w6 ⟨hS0, x, hq, rfl⟩)
      have hBq := al' (Below.refl w6.heap.size w6) (.cells #[.int .i64 x.id, .int .i64 x.known, .int .u8 x.kind, .int .i64 x.loss, .int .i64 x.pack, .int .i64 x.inn, .string ⟨x.mark.toArray⟩, .string ⟨x.goods.toArray⟩, .int .i64 x.low, .int .i64 x.high, .int .i64 x.pieces, .int .i64 x.owner, .int .i64 x.count, .int .i64 x.of] 42)
      have hS := hS0.trans (hBq.mono hS0.size)
      have hbx := (BoxG.made w6 x.vals 42)
      simp only [Pa.vals] at hbx
      have HB7 := Lib.hid (HBr.out.trans (hS.mono HBr.out.size))
      have HR7 := Lib.hid (HRr.out.below' hS)
      have HO7 := Lib.hid (HO.out.below' hS)
      clear hBq hS hS0 m1 CF HRr HO HBr HS1r HK
      generalize w6.alloc (.cells #[.int .i64 x.id, .int .i64 x.known, .int .u8 x.kind, .int .i64 x.loss, .int .i64 x.pack, .int .i64 x.inn, .string ⟨x.mark.toArray⟩, .string ⟨x.goods.toArray⟩, .int .i64 x.low, .int .i64 x.high, .int .i64 x.pieces, .int .i64 x.owner, .int .i64 x.count, .int .i64 x.of] 42) = w7 at *
      obtain ⟨Q, hQe⟩ : ∃ Q, w6.heap.size = Q := ⟨_, rfl⟩
      rw [hQe] at hbx ⊢
      clear hQe
      obtain ⟨c0, c1, c2, c3, c4, c5, c6, c7, c8, c9, c10, c11, c12, c13⟩ := BoxG.pa (x := x) hbx
      clear hbx c0 c1 c2 c3 c4 c5 c6 c7 c10 c11 c12 c13
      obtain ⟨o0, o1, of, ol⟩ := pair_facts HO7.out
      obtain ⟨r0, r1, rf, rl⟩ := pair_facts HR7.out
      have HM0 := Lib.hid (show w.heap.size ≤ M + 1 from by have := HMe.out; omega)
      have hne : M + 1 ≠ O := by have := HRO.out; omega
      cases oq with
      | none =>
        have HE := Lib.hid (show RV = (lo, hi) from HV.out.symm)
        clear hq c8 c9
        go_wp2_with fail
        obtain ⟨wf, hwf, s0, s1, sl, hBf⟩ := two_end (u := .int .i64 lo) (v := .int .i64 hi) HR7.out HB7.out HM0.out
        rw [hwf]
        exact bodyPost_ret (by simp [results, Tryz.results91, go_sem, s0, s1, sl]) rfl (show SpanPost w RV (.returned (.agg #[.int .i64 lo, .int .i64 hi])) wf from ⟨by rw [HE.out], hBf⟩)
      | some t =>
        obtain rfl : t = x := hq
        have HE := Lib.hid (show RV = (max lo t.low, min hi t.high) from HV.out.symm)
        go_wp2_with fail
        have hR2 : BoxG ((w7.setCell ⟨O, 0, none⟩ (.int .i64 (max lo t.low))).setCell ⟨O, 1, none⟩ (.int .i64 (min hi t.high))) (M + 1) [.int .i64 0, .int .i64 0] := (HR7.out.aside hne 0 _).aside hne 1 _
        have hB2 : Below w.heap.size w ((w7.setCell ⟨O, 0, none⟩ (.int .i64 (max lo t.low))).setCell ⟨O, 1, none⟩ (.int .i64 (min hi t.high))) := (two_set HO7.out).2.2.2.below_then HB7.out (fun y hy => by have := List.mem_singleton.1 hy; have := HRO.out; have := HM0.out; omega) (Nat.le_refl _)
        obtain ⟨wf, hwf, s0, s1, sl, hBf⟩ := two_end (u := .int .i64 (max lo t.low)) (v := .int .i64 (min hi t.high)) hR2 hB2 HM0.out
        rw [hwf]
        exact bodyPost_ret (by simp [results, Tryz.results91, go_sem, s0, s1, sl]) rfl (show SpanPost w RV (.returned (.agg #[.int .i64 (max lo t.low), .int .i64 (min hi t.high)])) wf from ⟨by rw [HE.out], hBf⟩)

/-! the depth of a tree -/
def Deep (ps : List Pa) : Nat → Int → Prop
  | 0, _ => False
  | d + 1, p => ∀ q ∈ insideI ps p, Deep ps d q
theorem held_r (pa : Option Addr) (pn pc : Nat) (ta : Option Addr) (tn tc : Nat) (PS TS : List Pa) (hmo : ManiOk PS TS) : ∀ (d : Nat) (pack : Int) (w : World), Deep PS d pack → Rd Pa.vals 14 w pa pn PS → Rd Pa.vals 14 w ta tn TS →
    Calls Tryz.prog 91 #[.agg #[.slice pa pn pc, .slice ta tn tc], .int .i64 pack] w (SpanPost w (heldR PS TS d pack))
  | 0, _, _, h, _, _ => h.elim
  | d + 1, pack, w, h, hp, ht => by
    have hn : pn ≤ 1000 := by have := hmo.ln; have := hp.len; omega
    refine held_step pa pn pc ta tn tc PS TS pack (belowR PS TS d) w hp ht hn (fun t ht => by have := (hmo.tt t ht).1; omega) (fun q _ => bel_bd hmo d q) (fun q hq W hW => ?_)
    exact below_of pa pn pc ta tn tc PS TS q (heldR PS TS d q) W (hp.below' hW) (ht.below' hW) (fun W2 hW2 => held_r pa pn pc ta tn tc PS TS hmo d q W2 (h q hq) ((hp.below' hW).below' hW2) ((ht.below' hW).below' hW2))
/-- a manifest that is a tree -/
structure Well (PS TS : List Pa) : Prop where
  mo : ManiOk PS TS
  d0 : Deep PS 300 0
  dp : ∀ x ∈ PS, Deep PS 300 x.pack
  up : ∀ x ∈ PS, x.inn = 0 ∨ ∃ y ∈ PS, y.pack = x.inn
theorem Deep.more {ps : List Pa} : ∀ {d e : Nat} {p : Int}, Deep ps d p → d ≤ e → Deep ps e p
  | 0, _, _, h, _ => h.elim
  | d + 1, e, p, h, he => by
    obtain ⟨e, rfl⟩ : ∃ k, e = k + 1 := ⟨e - 1, by omega⟩
    exact fun q hq => Deep.more (h q hq) (by omega)
theorem grown_deep {ps ts : List Pa} {has : Int → Bool} : ∀ (d : Nat) (t : Tr), Grown ps ts has t → t.siz ≤ d → Deep ps d t.f.pack
  | 0, t, _, hd => by have := siz_pos t; omega
  | d + 1, .node b f ks, h, hd => by
    intro q hq
    have hpk : ks.map (fun k => k.f.pack) = insideI ps f.pack := h.pk
    have hq' : q ∈ insideI ps f.pack := hq
    rw [← hpk] at hq'
    obtain ⟨k, hk, rfl⟩ := List.mem_map.1 hq'
    have := siz_mem hk
    exact grown_deep d k (h.kids k hk).1 (by unfold Tr.siz at hd; omega)
mutual
theorem siz_sub : ∀ (t : Tr), ∀ k ∈ t.pre, k.siz ≤ t.siz
  | .node b f ks, k, hk => by simp only [Tr.pre] at hk; have := sizL_sub ks k hk; unfold Tr.siz; unfold Tr.siz at this; omega
theorem sizL_sub : ∀ (l : List Tr), ∀ k ∈ preL l, k.siz ≤ sizL l
  | [], k, hk => by simp [preL] at hk
  | x :: r, k, hk => by
    simp only [preL, List.mem_cons, List.mem_append] at hk
    unfold sizL
    rcases hk with e | hk | hk
    · rw [e]; omega
    · have := siz_sub x k hk; omega
    · have := sizL_sub r k hk; omega
end
theorem well_tree {ps ts : List Pa} (hmo : ManiOk ps ts) {t : Tr} (ht : treeT ps ts (fun _ => true) = some t) : Well ps ts := by
  obtain ⟨g1, g2, g3, g4⟩ := tree_grown ht
  obtain ⟨hl, hnd, hz⟩ := tree_parts hmo ht
  refine ⟨hmo, by rw [← g2]; exact grown_deep 300 t g1 hz, fun x hx => ?_, fun x hx => ?_⟩
  · obtain ⟨k, _, k1, k2⟩ := find_of_pack (tree_has hmo.packs ht (pack := x.pack) (by rw [hmo.packs.find hx]; rfl))
    rw [← k2]
    exact grown_deep 300 k (grown_pre t g1 k k1).1 (Nat.le_trans (siz_sub t k k1) hz)
  · obtain ⟨c, hc⟩ := tree_chain hmo.packs ht (tree_has hmo.packs ht (pack := x.pack) (by rw [hmo.packs.find hx]; rfl))
    obtain ⟨y, c', h1, h2, rfl, h3⟩ := chain_step hmo.packs hc (hmo.packs.pos x hx)
    rw [hmo.packs.find hx] at h1
    obtain rfl := Option.some.inj h1
    by_cases h0 : x.inn = 0
    · exact .inl h0
    · obtain ⟨z, _, k1, k2, _, _⟩ := chain_step hmo.packs h3 h0
      exact .inr ⟨z, k2, (ofI_mem k1).2⟩
theorem held_w (pa : Option Addr) (pn pc : Nat) (ta : Option Addr) (tn tc : Nat) (PS TS : List Pa) (hw : Well PS TS) {p : Int} (hp0 : p = 0 ∨ ∃ y ∈ PS, y.pack = p) (w : World) (hp : Rd Pa.vals 14 w pa pn PS) (ht : Rd Pa.vals 14 w ta tn TS) :
    Calls Tryz.prog 91 #[.agg #[.slice pa pn pc, .slice ta tn tc], .int .i64 p] w (SpanPost w (heldR PS TS 300 p)) := by
  refine held_r pa pn pc ta tn tc PS TS hw.mo 300 p w ?_ hp ht
  rcases hp0 with rfl | ⟨y, hy, rfl⟩
  · exact hw.d0
  · exact hw.dp y hy
theorem below_w (pa : Option Addr) (pn pc : Nat) (ta : Option Addr) (tn tc : Nat) (PS TS : List Pa) (hw : Well PS TS) {p : Int} (hp0 : p = 0 ∨ ∃ y ∈ PS, y.pack = p) (w : World) (hp : Rd Pa.vals 14 w pa pn PS) (ht : Rd Pa.vals 14 w ta tn TS) :
    Calls Tryz.prog 90 #[.agg #[.slice pa pn pc, .slice ta tn tc], .int .i64 p] w (SpanPost w (belowR PS TS 300 p)) :=
  below_of pa pn pc ta tn tc PS TS p (heldR PS TS 300 p) w hp ht (fun W hW => held_w pa pn pc ta tn tc PS TS hw hp0 W (hp.below' hW) (ht.below' hW))
set_option maxRecDepth 100000 in
set_option maxHeartbeats 8000000 in
theorem complete_r (pa : Option Addr) (pn pc : Nat) (ta : Option Addr) (tn tc : Nat) (PS TS : List Pa) (hw : Well PS TS) (w : World) (hp : Rd Pa.vals 14 w pa pn PS) (ht : Rd Pa.vals 14 w ta tn TS) :
    Calls Tryz.prog 53 #[.agg #[.slice pa pn pc, .slice ta tn tc]] w fun e w' => e = .returned (.bool (completeR PS TS 300)) ∧ Below w.heap.size w w' := by
  have hM := ManR.box pc tc hp ht 85
  have hB := al' (Below.refl w.heap.size w) (.cells #[.slice pa pn pc, .slice ta tn tc] 85)
  have HM := Lib.hid hM
  have HB1 := Lib.hid hB
  have Hpl := Lib.hid hp.len
  have HW := Lib.hid hw
  have hn : pn ≤ 1000 := by have := hw.mo.ln; have := hp.len; omega
  clear hM hB hp ht hw
  obtain ⟨RV, hRV⟩ : ∃ p, completeR PS TS 300 = p := ⟨_, rfl⟩
  rw [hRV]
  have HRV := Lib.hid hRV
  clear hRV
  go_enter Tryz.func53, Tryz.ntmps53
  go_upto_region 1 with (fail)
  generalize w.alloc (.cells #[.slice pa pn pc, .slice ta tn tc] 85) = w1 at *
  obtain ⟨M, hMe⟩ : ∃ M, w.heap.size = M := ⟨_, rfl⟩
  have HMe := Lib.hid hMe
  rw [hMe] at HM ⊢
  clear hMe
  go_wp2_with fail
  go_loopw [3] (fun i wr => ∃ k : Nat, k ≤ pn ∧ i = .int .i64 k ∧ (PS.take k).all (fun x => decide ((belowR PS TS 300 x.pack).1 ≤ (belowR PS TS 300 x.pack).2)) = true ∧ Below w1.heap.size w1 wr) (fun i _ => pn - (intOf i).toNat)
  case atStart => exact ⟨0, Nat.zero_le _, rfl, rfl, Below.refl _ _⟩
  case round =>
    obtain ⟨k, hk, rfl, hall, hB⟩ := hrel
    have HA := Lib.hid hall
    have HB := Lib.hid hB
    have HMr := Lib.hid (HM.out.below' hB)
    have m0 := HMr.out.c0
    have m1 := HMr.out.c1
    clear hall hB
    by_cases hlt : k < pn
    · have hlt' : (k : Int) < (pn : Int) := by omega
      obtain ⟨b, off, x, hpa, hb, hx, c0, c1, c2, c3, c4, c5, c6, c7, c8, c9, c10, c11, c12, c13⟩ := HMr.out.rp.pa hlt
      have Hx := Lib.hid hx
      have CB := Lib.hid (fun W (hW : Below wr.heap.size wr W) => below_w pa pn pc ta tn tc PS TS HW.out (p := x.pack) (.inr ⟨x, List.mem_of_getElem? hx, rfl⟩) W (HMr.out.rp.below' hW) (HMr.out.rt.below' hW))
      clear hx c0 c1 c2 c3 c5 c6 c7 c8 c9 c10 c11 c12 c13 hb
      unfold SpanPost at CB
      subst hpa
      obtain ⟨y1, hy1⟩ : ∃ y, (belowR PS TS 300 x.pack).1 = y := ⟨_, rfl⟩
      obtain ⟨y2, hy2⟩ : ∃ y, (belowR PS TS 300 x.pack).2 = y := ⟨_, rfl⟩
      rw [hy1, hy2] at CB
      have HY1 := Lib.hid hy1
      have HY2 := Lib.hid hy2
      clear hy1 hy2
      go_upto_region 4 with (fail)
      go_cut [4] from 13 to 20 (fun v wx => ∃ X, v = .pointer (some ⟨X, 0, none⟩) ∧ Below wr.heap.size wr wx ∧ BoxG wx X [.int .i64 y1, .int .i64 y2] ∧ wr.heap.size ≤ X)
      case first =>
        go_region_held3 (fun w' => w'.cell? ⟨M, 0, none⟩ = some (.slice (some ⟨b, off, none⟩) pn pc) ∧ w'.cell? ⟨M, 1, none⟩ = some (.slice ta tn tc) ∧ w'.cell? ⟨b, off + k * 14 + 4, none⟩ = some (.int .i64 x.pack))
          ((refine keep3 ⟨m0, m1, c4⟩ ?_; first | with_reducible apply bd0 | with_reducible apply bd1 | with_reducible exact hb5.out | with_reducible exact bd2 hb5.out _ | with_reducible exact set2_below hb5.out (Nat.le_refl _) | with_reducible exact set2_below (bd2 hb5.out _) hb5.out.size))
          (first
            | (go_at_call 90; with_reducible refine (CB.out _ (bd0 _)).mono ?_; rintro e w5 ⟨rfl, hB5⟩; have hb5 := Lib.hid (show Below wr.heap.size wr w5 from below_on (bd0 wr) hB5 (Nat.le_refl _)); clear hB5)
            | (go_at_call 90; with_reducible refine (CB.out _ (bd1 _ _)).mono ?_; rintro e w5 ⟨rfl, hB5⟩; have hb5 := Lib.hid (show Below wr.heap.size wr w5 from below_on (bd1 wr _) hB5 (Nat.le_refl _)); have hz := Lib.hid (((BoxG.made wr [.int .i64 0, .int .i64 0] 26).below' (bd0 _)).below' hB5); obtain ⟨z0, z1, zf, zl⟩ := pair_facts hz.out; clear hB5))
        all_goals go_wp2_with fail
        all_goals go_meet
        all_goals first
          | exact ⟨_, rfl, bd2 hb5.out _, BoxG.made w5 [.int .i64 y1, .int .i64 y2] 26, hb5.out.size⟩
          | exact ⟨_, rfl, set2_below hb5.out (Nat.le_refl _), (hz.out.set 0 _ (by simp)).set 1 _ (by simp), Nat.le_refl _⟩
      case rest =>
      obtain ⟨X, rfl, hB6, hX, hXl⟩ := hcut
      generalize wc = w6 at *
      have HB6 := Lib.hid (HB.out.trans (hB6.mono HB.out.size))
      obtain ⟨x0, x1, xf, xl⟩ := pair_facts hX
      clear hB6 hX hXl m0 m1 c4 CB
      by_cases hgt : y2 < y1
      · have hgt' : decide (y2 < y1) = true := decide_eq_true hgt
        have HE := Lib.hid (show RV = false from by
          rw [← HRV.out]; unfold completeR
          rw [all_no Hx.out (decide_eq_false (by rw [HY1.out, HY2.out]; omega))]; rfl)
        go_wp2_with fail
        go_ret
        exact ⟨by rw [HE.out] <;> rfl, HB1.out.trans (HB6.out.mono HB1.out.size)⟩
      · have hgt' : decide (y2 < y1) = false := decide_eq_false hgt
        have HN := Lib.hid (take_all_snoc (p := fun x => decide ((belowR PS TS 300 x.pack).1 ≤ (belowR PS TS 300 x.pack).2)) Hx.out HA.out (decide_eq_true (by rw [HY1.out, HY2.out]; omega)))
        go_wp2_with fail
        exact ⟨⟨k + 1, by omega, by go_num, HN.out, HB6.out⟩, by simp [intOf]; omega⟩
    · have hltg : ¬ (k : Int) < (pn : Int) := by omega
      have HT := Lib.hid (show RV = decide ((heldR PS TS 300 0).1 ≤ (heldR PS TS 300 0).2) from by
        have := HA.out
        rw [List.take_of_length_le (by rw [Hpl.out]; omega)] at this
        rw [← HRV.out]; unfold completeR; rw [this]; rfl)
      have CH := Lib.hid (held_w pa pn pc ta tn tc PS TS HW.out (p := 0) (.inl rfl) wr HMr.out.rp HMr.out.rt)
      unfold SpanPost at CH
      obtain ⟨y1, hy1⟩ : ∃ y, (heldR PS TS 300 0).1 = y := ⟨_, rfl⟩
      obtain ⟨y2, hy2⟩ : ∃ y, (heldR PS TS 300 0).2 = y := ⟨_, rfl⟩
      rw [hy1, hy2] at CH HT
      have HB0 := Lib.hid (HB1.out.trans (HB.out.mono HB1.out.size))
      clear hlt HA HM HB HB1 hy1 hy2
      go_upto_region 8 with (go_at_call 91; refine CH.out.mono ?_; rintro e w4 ⟨rfl, hS4⟩)
      have hb5 := BoxG.made w4 [.int .i64 y1, .int .i64 y2] 26
      have hS5 := hS4.trans ((al' (Below.refl w4.heap.size w4) (.cells #[.int .i64 y1, .int .i64 y2] 26)).mono hS4.size)
      have HB5 := Lib.hid (HB0.out.trans (hS5.mono HB0.out.size))
      clear hS4 hS5
      generalize w4.alloc (.cells #[.int .i64 y1, .int .i64 y2] 26) = w5 at *
      obtain ⟨K, hKe⟩ : ∃ K, w4.heap.size = K := ⟨_, rfl⟩
      rw [hKe] at hb5 ⊢
      clear hKe
      obtain ⟨k0, k1, kf, kl⟩ := pair_facts hb5
      go_wp2_with fail
      go_ret
      exact ⟨by rw [HT.out] <;> rfl, HB5.out⟩

end Go.Proofs.YtmghbbgnenpcaaaGreatDoor

/- The walk of the reference's Ends. -/
set_option linter.unusedSimpArgs false
set_option linter.unusedVariables false
namespace Go.Proofs.YtmghbbgnenpcaaaGreatDoor
open Go.RowKit Go.Shelf

/-! bounds -/
theorem missR_lo {ps ts : List Pa} (hmo : ManiOk ps ts) (p : Int) : -1000 ≤ missR ps ts p := by
  unfold missR
  cases e : ofI ts p with
  | none => simp
  | some x =>
    have := (hmo.tt x (ofI_mem e).1).1
    have h2 := insideI_len ps p
    have h3 := hmo.ln
    simp only; omega
theorem inside_le {ps ts : List Pa} (hmo : ManiOk ps ts) (p : Int) : (insideI ps p).length ≤ 201 := Nat.le_trans (insideI_len ps p) hmo.ln
theorem held_bd {ps ts : List Pa} (hmo : ManiOk ps ts) (d : Nat) (p : Int) : -1000000000 ≤ (heldR ps ts d p).1 ∧ (heldR ps ts d p).1 ≤ 30000000000 ∧ -1000000000 ≤ (heldR ps ts d p).2 ∧ (heldR ps ts d p).2 ≤ 100000000 := by
  refine ⟨?_, ?_, ?_, held_hi hmo d p⟩
  all_goals
    cases d with
    | zero => simp [heldR]
    | succ d =>
      have h1 := sum_hi (g := fun q => (belowW ps (heldR ps ts d q) q).1) (m := 100000000) (insideI ps p) (fun q _ => ⟨(bel_bd hmo d q).1, (bel_bd hmo d q).2.1⟩)
      have h2 := sum_hi (g := fun q => (belowW ps (heldR ps ts d q) q).2) (m := 100000) (insideI ps p) (fun q _ => (bel_bd hmo d q).2.2)
      have h3 := inside_le hmo p
      have h4 := missR_hi hmo p
      have h5 := missR_lo hmo p
      have h6 : ((insideI ps p).length : Int) ≤ 201 := by omega
      simp only [heldR]
      cases e : ofI ts p with
      | none => simp only [boundR]; omega
      | some x => have h7 := (hmo.tt x (ofI_mem e).1).2.1; simp only [boundR]; omega
def othS (bel : Int → Int × Int) (g : Int × Int → Int) (q : Int) (L : List Int) : Int := ((L.filter (fun y => decide (y ≠ q))).map (fun y => g (bel y))).sum
theorem oth_yes {bel : Int → Int × Int} {g : Int × Int → Int} {q : Int} {L : List Int} {k : Nat} {y : Int} (h : L[k]? = some y) (hy : y ≠ q) : othS bel g q (L.take (k + 1)) = othS bel g q (L.take k) + g (bel y) := by
  unfold othS
  rw [take_succ_snoc h, List.filter_append, List.map_append, List.sum_append, List.filter_cons, if_pos (decide_eq_true hy)]; simp
theorem oth_no {bel : Int → Int × Int} {g : Int × Int → Int} {q : Int} {L : List Int} {k : Nat} {y : Int} (h : L[k]? = some y) (hy : y = q) : othS bel g q (L.take (k + 1)) = othS bel g q (L.take k) := by
  unfold othS
  rw [take_succ_snoc h, List.filter_append, List.map_append, List.sum_append, List.filter_cons, if_neg (by simp [hy])]; simp
theorem oth_bd {bel : Int → Int × Int} {g : Int × Int → Int} {m : Int} (q : Int) (L : List Int) (h : ∀ y, 0 ≤ g (bel y) ∧ g (bel y) ≤ m) (hm : 0 ≤ m) (hl : L.length ≤ 201) : 0 ≤ othS bel g q L ∧ othS bel g q L ≤ 201 * m := by
  obtain ⟨h1, h2⟩ := sum_hi (g := fun y => g (bel y)) (L.filter (fun y => decide (y ≠ q))) (fun y _ => h y)
  refine ⟨h1, Int.le_trans h2 ?_⟩
  have := List.length_filter_le (fun y => decide (y ≠ q)) L
  exact Int.mul_le_mul_of_nonneg_right (by omega) hm
theorem step_bd {ps ts : List Pa} (hmo : ManiOk ps ts) (d : Nat) (most q B : Int) (hB : 1000000000 ≤ B) (h1 : -B ≤ most) : (stepE ps ts d most q).2 ≤ 100000 ∧ -(B + 100000000000) ≤ (stepE ps ts d most q).2 := by
  have b := bel_bd hmo d q
  have h := held_bd hmo d (innR ps q)
  have h4 := missR_hi hmo (innR ps q)
  have h5 := missR_lo hmo (innR ps q)
  have h6 := oth_bd (bel := belowR ps ts d) (g := Prod.fst) (m := 100000000) q (insideI ps (innR ps q)) (fun y => ⟨(bel_bd hmo d y).1, (bel_bd hmo d y).2.1⟩) (by decide) (inside_le hmo _)
  have h7 : othersR ps ts d Prod.fst 1 (innR ps q) q = missR ps ts (innR ps q) * 1 + othS (belowR ps ts d) Prod.fst q (insideI ps (innR ps q)) := rfl
  unfold stepE
  simp only
  rw [h7]
  omega
theorem endsW_take {ps ts : List Pa} {d : Nat} {way : List Int} {k : Nat} {q : Int} (h : way[k]? = some q) : endsW ps ts d (way.take (k + 1)) = stepE ps ts d (endsW ps ts d (way.take k)).2 q := by
  rw [take_succ_snoc h, endsW_snoc]
theorem set14_below {w W : World} {B : Nat} {u0 u1 u2 u3 u4 u5 u6 u7 u8 u9 u10 u11 u12 u13 : Value} (h : BoxG W B [u0, u1, u2, u3, u4, u5, u6, u7, u8, u9, u10, u11, u12, u13]) (hB : Below w.heap.size w W) (hb : w.heap.size ≤ B) (x : Pa) :
    Below w.heap.size w ((((((((((((((W.setCell ⟨B, 0, none⟩ (.int .i64 x.id)).setCell ⟨B, 1, none⟩ (.int .i64 x.known)).setCell ⟨B, 2, none⟩ (.int .u8 x.kind)).setCell ⟨B, 3, none⟩ (.int .i64 x.loss)).setCell ⟨B, 4, none⟩ (.int .i64 x.pack)).setCell ⟨B, 5, none⟩ (.int .i64 x.inn)).setCell ⟨B, 6, none⟩ (.string ⟨x.mark.toArray⟩)).setCell ⟨B, 7, none⟩ (.string ⟨x.goods.toArray⟩)).setCell ⟨B, 8, none⟩ (.int .i64 x.low)).setCell ⟨B, 9, none⟩ (.int .i64 x.high)).setCell ⟨B, 10, none⟩ (.int .i64 x.pieces)).setCell ⟨B, 11, none⟩ (.int .i64 x.owner)).setCell ⟨B, 12, none⟩ (.int .i64 x.count)).setCell ⟨B, 13, none⟩ (.int .i64 x.of)) :=
  (h.all14 (.int .i64 x.id) (.int .i64 x.known) (.int .u8 x.kind) (.int .i64 x.loss) (.int .i64 x.pack) (.int .i64 x.inn) (.string ⟨x.mark.toArray⟩) (.string ⟨x.goods.toArray⟩) (.int .i64 x.low) (.int .i64 x.high) (.int .i64 x.pieces) (.int .i64 x.owner) (.int .i64 x.count) (.int .i64 x.of)).2.below_then hB (fun y hy => by have := List.mem_singleton.1 hy; omega) (Nat.le_refl _)
theorem boxs14 {W : World} {B : Nat} {u0 u1 u2 u3 u4 u5 u6 u7 u8 u9 u10 u11 u12 u13 : Value} (h : BoxG W B [u0, u1, u2, u3, u4, u5, u6, u7, u8, u9, u10, u11, u12, u13]) (x : Pa) : BoxG ((((((((((((((W.setCell ⟨B, 0, none⟩ (.int .i64 x.id)).setCell ⟨B, 1, none⟩ (.int .i64 x.known)).setCell ⟨B, 2, none⟩ (.int .u8 x.kind)).setCell ⟨B, 3, none⟩ (.int .i64 x.loss)).setCell ⟨B, 4, none⟩ (.int .i64 x.pack)).setCell ⟨B, 5, none⟩ (.int .i64 x.inn)).setCell ⟨B, 6, none⟩ (.string ⟨x.mark.toArray⟩)).setCell ⟨B, 7, none⟩ (.string ⟨x.goods.toArray⟩)).setCell ⟨B, 8, none⟩ (.int .i64 x.low)).setCell ⟨B, 9, none⟩ (.int .i64 x.high)).setCell ⟨B, 10, none⟩ (.int .i64 x.pieces)).setCell ⟨B, 11, none⟩ (.int .i64 x.owner)).setCell ⟨B, 12, none⟩ (.int .i64 x.count)).setCell ⟨B, 13, none⟩ (.int .i64 x.of)) B [.int .i64 x.id, .int .i64 x.known, .int .u8 x.kind, .int .i64 x.loss, .int .i64 x.pack, .int .i64 x.inn, .string ⟨x.mark.toArray⟩, .string ⟨x.goods.toArray⟩, .int .i64 x.low, .int .i64 x.high, .int .i64 x.pieces, .int .i64 x.owner, .int .i64 x.count, .int .i64 x.of] := (h.all14 (.int .i64 x.id) (.int .i64 x.known) (.int .u8 x.kind) (.int .i64 x.loss) (.int .i64 x.pack) (.int .i64 x.inn) (.string ⟨x.mark.toArray⟩) (.string ⟨x.goods.toArray⟩) (.int .i64 x.low) (.int .i64 x.high) (.int .i64 x.pieces) (.int .i64 x.owner) (.int .i64 x.count) (.int .i64 x.of)).1
theorem keep2c {W W' : World} {a b : Addr} {u v : Value} (h : W.cell? a = some u ∧ W.cell? b = some v) (hB : Below W.heap.size W W') : W'.cell? a = some u ∧ W'.cell? b = some v := ⟨cell_stays h.1 hB, cell_stays h.2 hB⟩
theorem box14 {W w5 : World} {B : Nat} {T : TypeId} (hB : Below (W.alloc (.cells #[.int .i64 0, .int .i64 0, .int .u8 0, .int .i64 0, .int .i64 0, .int .i64 0, .string ⟨#[]⟩, .string ⟨#[]⟩, .int .i64 0, .int .i64 0, .int .i64 0, .int .i64 0, .int .i64 0, .int .i64 0] T)).drew.heap.size (W.alloc (.cells #[.int .i64 0, .int .i64 0, .int .u8 0, .int .i64 0, .int .i64 0, .int .i64 0, .string ⟨#[]⟩, .string ⟨#[]⟩, .int .i64 0, .int .i64 0, .int .i64 0, .int .i64 0, .int .i64 0, .int .i64 0] T)).drew w5) (e : B = W.heap.size) : BoxG w5 B [.int .i64 0, .int .i64 0, .int .u8 0, .int .i64 0, .int .i64 0, .int .i64 0, .string ⟨#[]⟩, .string ⟨#[]⟩, .int .i64 0, .int .i64 0, .int .i64 0, .int .i64 0, .int .i64 0, .int .i64 0] := by
  subst e
  exact ((BoxG.made W [.int .i64 0, .int .i64 0, .int .u8 0, .int .i64 0, .int .i64 0, .int .i64 0, .string ⟨#[]⟩, .string ⟨#[]⟩, .int .i64 0, .int .i64 0, .int .i64 0, .int .i64 0, .int .i64 0, .int .i64 0] T).below' (bd0 _)).below' hB

theorem way_len {ps : List Pa} {p : Int} {r : List Int} (h : wayR ps 201 p [] = some r) : r.length ≤ 300 := by
  have : ∀ (d : Nat) (p : Int) (acc r : List Int), wayR ps d p acc = some r → r.length ≤ acc.length + d := by
    intro d
    induction d with
    | zero =>
      intro p acc r h
      unfold wayR at h
      split at h
      · cases h; omega
      · cases h
    | succ d ih =>
      intro p acc r h
      unfold wayR at h
      split at h
      · cases h; omega
      · split at h
        · cases h
        · have := ih _ _ _ h
          simp only [List.length_cons] at this
          omega
  have := this 201 p [] r h
  simp only [List.length_nil] at this
  omega
theorem cells14 {W : World} {B : Nat} {u0 u1 u2 u3 u4 u5 u6 u7 u8 u9 u10 u11 u12 u13 : Value} (h : BoxG W B [u0, u1, u2, u3, u4, u5, u6, u7, u8, u9, u10, u11, u12, u13]) :
    (∀ j, W.frozen? ⟨B, j, none⟩ = false) ∧ B < W.heap.size ∧ W.cell? ⟨B, 0, none⟩ = some u0 ∧ W.cell? ⟨B, 1, none⟩ = some u1 ∧ W.cell? ⟨B, 2, none⟩ = some u2 ∧ W.cell? ⟨B, 3, none⟩ = some u3 ∧ W.cell? ⟨B, 4, none⟩ = some u4 ∧ W.cell? ⟨B, 5, none⟩ = some u5 ∧ W.cell? ⟨B, 6, none⟩ = some u6 ∧ W.cell? ⟨B, 7, none⟩ = some u7 ∧ W.cell? ⟨B, 8, none⟩ = some u8 ∧ W.cell? ⟨B, 9, none⟩ = some u9 ∧ W.cell? ⟨B, 10, none⟩ = some u10 ∧ W.cell? ⟨B, 11, none⟩ = some u11 ∧ W.cell? ⟨B, 12, none⟩ = some u12 ∧ W.cell? ⟨B, 13, none⟩ = some u13 :=
  ⟨h.2.1, h.1, h.2.2 0 (by simp), h.2.2 1 (by simp), h.2.2 2 (by simp), h.2.2 3 (by simp), h.2.2 4 (by simp), h.2.2 5 (by simp), h.2.2 6 (by simp), h.2.2 7 (by simp), h.2.2 8 (by simp), h.2.2 9 (by simp), h.2.2 10 (by simp), h.2.2 11 (by simp), h.2.2 12 (by simp), h.2.2 13 (by simp)⟩

set_option maxRecDepth 100000 in
set_option maxHeartbeats 16000000 in
theorem ends_r (pa : Option Addr) (pn pc : Nat) (ta : Option Addr) (tn tc : Nat) (PS TS : List Pa) (hw : Well PS TS) (pack : Int) (WAY : List Int) (hway : wayR PS 201 pack [] = some WAY) (hin : ∀ q ∈ WAY, ∃ x ∈ PS, x.pack = q) (hne : 0 < WAY.length) (w : World) (hp : Rd Pa.vals 14 w pa pn PS) (ht : Rd Pa.vals 14 w ta tn TS) :
    Calls Tryz.prog 54 #[.agg #[.slice pa pn pc, .slice ta tn tc], .int .i64 pack] w (SpanPost w (endsW PS TS 300 WAY)) := by
  have hM := (ManR.box pc tc hp ht 85).below' (al' (Below.refl _ _) (.cells #[.int .i64 0, .int .i64 0] 26))
  have hB := al' (al' (Below.refl w.heap.size w) (.cells #[.slice pa pn pc, .slice ta tn tc] 85)) (.cells #[.int .i64 0, .int .i64 0] 26)
  have hR := made2 (w := w) (u := .slice pa pn pc) (v := .slice ta tn tc) (x := .int .i64 0) (y := .int .i64 0) (z := .int .i64 0) (t := .int .i64 0) (T := 85) (T2 := 26)
  have HM := Lib.hid hM
  have HB1 := Lib.hid hB
  have HR := Lib.hid hR
  have hn : pn ≤ 1000 := by have := hw.mo.ln; have := hp.len; omega
  have hcn : ∀ t ∈ TS, 0 ≤ t.count ∧ t.count ≤ 1000 := fun t ht => by have := (hw.mo.tt t ht).1; omega
  have CW := Lib.hid (fun W (hW : Below w.heap.size w W) => path_r pa pn pc ta tn tc PS TS pack W (hp.below' hW) (ht.below' hW) hn)
  have CF := Lib.hid (fun (q : Int) W (hW : Below w.heap.size w W) => find_r pa pn pc PS q W (hp.below' hW))
  have CH := Lib.hid (fun (p : Int) (h0 : p = 0 ∨ ∃ y ∈ PS, y.pack = p) W (hW : Below w.heap.size w W) => held_w pa pn pc ta tn tc PS TS hw h0 W (hp.below' hW) (ht.below' hW))
  have CB := Lib.hid (fun (p : Int) (h0 : p = 0 ∨ ∃ y ∈ PS, y.pack = p) W (hW : Below w.heap.size w W) => below_w pa pn pc ta tn tc PS TS hw h0 W (hp.below' hW) (ht.below' hW))
  have CM := Lib.hid (fun (p : Int) W (hW : Below w.heap.size w W) => missing_r pa pn pc ta tn tc PS TS p W (hp.below' hW) (ht.below' hW) hn hcn)
  have CI := Lib.hid (fun (p : Int) W (hW : Below w.heap.size w W) => inside_rn pa pn pc ta tn tc PS TS p W (hp.below' hW) (ht.below' hW) hn)
  have HW := Lib.hid hw
  have HIn := Lib.hid hin
  have HNe := Lib.hid hne
  have hwl : WAY.length ≤ 300 := way_len hway
  clear hM hB hR hp ht hw hin hne hcn
  unfold WayPost at CW
  rw [hway] at CW
  unfold FindPost at CF
  unfold SpanPost at CH CB
  unfold InsPostN at CI
  simp only [Option.isSome_some, Option.getD_some] at CW
  clear hway
  obtain ⟨EV, hEV⟩ : ∃ p, endsW PS TS 300 WAY = p := ⟨_, rfl⟩
  rw [hEV]
  have HEV := Lib.hid hEV
  clear hEV
  go_enter Tryz.func54, Tryz.ntmps54
  go_upto_region 1 with (fail)
  generalize ((w.alloc (.cells #[.slice pa pn pc, .slice ta tn tc] 85)).alloc (.cells #[.int .i64 0, .int .i64 0] 26)) = w1 at *
  obtain ⟨M, hMe⟩ : ∃ M, w.heap.size = M := ⟨_, rfl⟩
  have HMe := Lib.hid hMe
  rw [hMe] at HM HR ⊢
  clear hMe
  have m0 := HM.out.c0
  have m1 := HM.out.c1
  go_upto_region 2 with (go_at_call 92; refine (CW.out _ HB1.out).mono ?_; rintro e w2 ⟨wa, wn, wc, rfl, hrw, hwc, hS⟩)
  have HB2 := Lib.hid (HB1.out.trans (hS.mono HB1.out.size))
  have HM2 := Lib.hid (HM.out.below' hS)
  have HR2 := Lib.hid (HR.out.below' hS)
  have HWn := Lib.hid hrw.len
  have hwn : wn ≤ 300 := by have := hrw.len; omega
  have HRw := Lib.hid hrw
  clear hS hrw m0 m1 CW HM HR HB1
  go_upto_region 4 with (fail)
  have hO := BoxG.made w2 [.int .i64 0, .int .i64 0] 26
  have hBo := al' (Below.refl w2.heap.size w2) (.cells #[.int .i64 0, .int .i64 0] 26)
  have HB3 := Lib.hid (HB2.out.trans (hBo.mono HB2.out.size))
  have HM3 := Lib.hid (HM2.out.below' hBo)
  have HR3 := Lib.hid (HR2.out.below' hBo)
  have HRw3 := Lib.hid (HRw.out.below' hBo)
  have HWa := Lib.hid (show 0 < wn → ∀ p, wa = some p → p.block ≠ w2.heap.size from fun h0 p e => by
    obtain ⟨b, off, x, e2, hlt, _⟩ := HRw.out.int h0
    rw [e2] at e
    injection e with e
    subst e
    exact Nat.ne_of_lt hlt)
  have HRO := Lib.hid (show M + 1 < w2.heap.size from HR2.out.1)
  have HO := Lib.hid hO
  clear hO hBo HB2 HM2 HR2 HRw
  generalize w2.alloc (.cells #[.int .i64 0, .int .i64 0] 26) = w3 at *
  obtain ⟨O, hOe⟩ : ∃ O, w2.heap.size = O := ⟨_, rfl⟩
  rw [hOe] at HO HRO HWa ⊢
  clear hOe
  go_wp2_with fail
  go_loopw [7, 9] (fun mv i wr => ∃ (k : Nat) (most el eh : Int), k ≤ wn ∧ i = .int .i64 k ∧ mv = .int .i64 most ∧ most = (endsW PS TS 300 (WAY.take k)).2 ∧ (0 < k → (el, eh) = endsW PS TS 300 (WAY.take k)) ∧ most ≤ 100000000 ∧ -(1000000000 + 100000000000 * (k : Int)) ≤ most ∧ Keeps [O] w3 wr ∧ BoxG wr O [.int .i64 el, .int .i64 eh]) (fun _ i _ => wn - (intOf i).toNat)
  case atStart => exact ⟨0, 100000000, 0, 0, Nat.zero_le _, rfl, rfl, rfl, fun h => absurd h (by omega), Int.le_refl _, by decide, Keeps.refl _ _, HO.out⟩
  case round =>
    obtain ⟨k, most, el, eh, hk, rfl, rfl, hmost, hel, hmb, hml, hkp, hO⟩ := hrel
    have HK := Lib.hid hkp
    have HO := Lib.hid hO
    have HMost := Lib.hid hmost
    have HEl := Lib.hid hel
    have hOy : ∀ y ∈ [O], y = O := fun y hy => List.mem_singleton.1 hy
    have HBr := Lib.hid (HK.out.below_then HB3.out (fun y hy => by have := hOy y hy; have := HMe.out; have := HRO.out; omega) (Nat.le_refl _))
    clear hkp hO hmost hel
    by_cases hlt : k < wn
    · have hlt' : (k : Int) < (wn : Int) := by omega
      obtain ⟨wb, wf, q, hwae, hwb, hq, hcq⟩ := (HK.out.rd HRw3.out (fun h0 p e hm => HWa.out h0 p e (List.mem_singleton.1 hm))).int hlt
      have hwbO : wb ≠ O := HWa.out (by omega) _ hwae
      subst hwae
      obtain ⟨x, hxm, hxq⟩ := HIn.out q (List.mem_of_getElem? hq)
      have Hq := Lib.hid hq
      have Hx := Lib.hid hxm
      have Hxq := Lib.hid hxq
      have HFd := Lib.hid (show ofI PS q = some x from by rw [← hxq]; exact HW.out.mo.packs.find hxm)
      have CF1 := Lib.hid (fun W (hW : Below wr.heap.size wr W) => CF.out q W (HBr.out.trans (hW.mono HBr.out.size)))
      rw [HFd.out, show ofV (some x) = x from rfl] at CF1
      have hMO : M ∉ [O] := by have := HRO.out; simp; omega
      have m0 := HK.out.cell HM3.out.c0 hMO
      have m1 := HK.out.cell HM3.out.c1 hMO
      clear hq hxm hxq hMO hwb hOy
      go_upto_region 7 with (fail)
      go_cut [10, 11] from 31 to 40 (fun v b wx => ∃ X, v = .pointer (some ⟨X, 0, none⟩) ∧ b = .bool true ∧ Below wr.heap.size wr wx ∧ BoxG wx X [.int .i64 x.id, .int .i64 x.known, .int .u8 x.kind, .int .i64 x.loss, .int .i64 x.pack, .int .i64 x.inn, .string ⟨x.mark.toArray⟩, .string ⟨x.goods.toArray⟩, .int .i64 x.low, .int .i64 x.high, .int .i64 x.pieces, .int .i64 x.owner, .int .i64 x.count, .int .i64 x.of] ∧ wr.heap.size ≤ X)
      case first =>
        go_region_held3 (fun w' => w'.cell? ⟨M, 0, none⟩ = some (.slice pa pn pc) ∧ w'.cell? ⟨wb, wf + k, none⟩ = some (.int .i64 q))
          ((refine keep2c ⟨m0, hcq⟩ ?_; first | with_reducible apply bd0 | with_reducible apply bd1 | with_reducible apply hb5.out | with_reducible apply bd2 hb5.out | with_reducible apply set14_below hz.out hb5.out (Nat.le_refl _)))
          (first
            | (go_at_call 78; with_reducible refine (CF1.out _ (bd0 _)).mono ?_; rintro e wq ⟨hB5, y, hy, rfl⟩; subst hy; have hb5 := Lib.hid (show Below wr.heap.size wr wq from below_on (bd0 wr) hB5 (Nat.le_refl _)); clear hB5)
            | (go_at_call 78; with_reducible refine (CF1.out _ (bd1 _ _)).mono ?_; rintro e wq ⟨hB5, y, hy, rfl⟩; subst hy; have hb5 := Lib.hid (show Below wr.heap.size wr wq from below_on (bd1 wr _) hB5 (Nat.le_refl _)); have hz := Lib.hid (box14 hB5 rfl); obtain ⟨zf, zl, z0, z1, z2, z3, z4, z5, z6, z7, z8, z9, z10, z11, z12, z13⟩ := cells14 hz.out; clear hB5))
        all_goals go_wp2_with fail
        all_goals go_meet
        all_goals refine ⟨_, rfl, rfl, ?_, ?_, ?_⟩
        all_goals first
          | with_reducible apply bd2 hb5.out
          | with_reducible apply set14_below hz.out hb5.out (Nat.le_refl _)
          | with_reducible apply BoxG.made wq [.int .i64 x.id, .int .i64 x.known, .int .u8 x.kind, .int .i64 x.loss, .int .i64 x.pack, .int .i64 x.inn, .string ⟨x.mark.toArray⟩, .string ⟨x.goods.toArray⟩, .int .i64 x.low, .int .i64 x.high, .int .i64 x.pieces, .int .i64 x.owner, .int .i64 x.count, .int .i64 x.of] 42
          | with_reducible apply boxs14 hz.out x
          | with_reducible exact hb5.out.size
          | with_reducible exact Nat.le_refl _
      case rest =>
      obtain ⟨Q, rfl, rfl, hB6, hX, hXl⟩ := hcut
      generalize wc = w6 at *
      have HB6 := Lib.hid (HBr.out.trans (hB6.mono HBr.out.size))
      have HK6 := Lib.hid (HK.out.then_below hB6)
      have HO6 := Lib.hid (HO.out.below' hB6)
      have HOQ := Lib.hid (show O < Q from by have := HO.out.1; omega)
      have HX6 := Lib.hid hX
      have c5 : w6.cell? ⟨Q, 5, none⟩ = some (.int .i64 x.inn) := (BoxG.pa (x := x) hX).2.2.2.2.2.1
      have m0' := cell_stays m0 hB6
      have m1' := cell_stays m1 hB6
      have hcq' := cell_stays hcq hB6
      clear hB6 hX hXl m0 m1 hcq HO HK CF1 HBr
      have hup := HW.out.up x Hx.out
      have hip : innR PS q = x.inn := by unfold innR; rw [HFd.out]; rfl
      have HIp := Lib.hid hip
      have hmo := HW.out.mo
      have hhb := held_bd hmo 300 x.inn
      have hmib : -1000 ≤ missR PS TS x.inn ∧ missR PS TS x.inn ≤ 1000 := ⟨missR_lo hmo _, by have := missR_hi hmo x.inn; omega⟩
      have hil : (insideI PS x.inn).length ≤ 201 := inside_le hmo _
      have HInm := Lib.hid (show ∀ y ∈ insideI PS x.inn, y = 0 ∨ ∃ z ∈ PS, z.pack = y from fun y hy => by
        obtain ⟨z, hz, _, e⟩ := inside_mem hy
        exact .inr ⟨z, hz, e⟩)
      have HBb := Lib.hid (fun y => bel_bd hmo 300 y)
      have hstep : stepE PS TS 300 most q = (max (belowR PS TS 300 q).1 ((heldR PS TS 300 x.inn).1 - (missR PS TS x.inn * 100000 + othS (belowR PS TS 300) Prod.snd q (insideI PS x.inn))),
          min (belowR PS TS 300 q).2 (min (heldR PS TS 300 x.inn).2 most - (missR PS TS x.inn + othS (belowR PS TS 300) Prod.fst q (insideI PS x.inn)))) := by
        have e1 : othersR PS TS 300 Prod.snd 100000 x.inn q = missR PS TS x.inn * 100000 + othS (belowR PS TS 300) Prod.snd q (insideI PS x.inn) := rfl
        have e2 : othersR PS TS 300 Prod.fst 1 x.inn q = missR PS TS x.inn * 1 + othS (belowR PS TS 300) Prod.fst q (insideI PS x.inn) := rfl
        unfold stepE
        rw [hip, e1, e2, Int.mul_one]
      have hsb := step_bd hmo 300 most q (1000000000 + 100000000000 * (k : Int)) (by omega) (by omega)
      have HNx := Lib.hid (show endsW PS TS 300 (WAY.take (k + 1)) = stepE PS TS 300 most q from by rw [endsW_take Hq.out, ← HMost.out])
      have CH1 := Lib.hid (CH.out x.inn hup w6 HB6.out)
      have CM1 := Lib.hid (fun W (hW : Below w6.heap.size w6 W) => CM.out x.inn W (HB6.out.trans (hW.mono HB6.out.size)))
      have CI1 := Lib.hid (fun W (hW : Below w6.heap.size w6 W) => CI.out x.inn W (HB6.out.trans (hW.mono HB6.out.size)))
      clear hip hmo hup
      obtain ⟨h1, hh1⟩ : ∃ v, (heldR PS TS 300 x.inn).1 = v := ⟨_, rfl⟩
      obtain ⟨h2, hh2⟩ : ∃ v, (heldR PS TS 300 x.inn).2 = v := ⟨_, rfl⟩
      obtain ⟨mi, hmi⟩ : ∃ v, missR PS TS x.inn = v := ⟨_, rfl⟩
      obtain ⟨IL, hIL⟩ : ∃ v, insideI PS x.inn = v := ⟨_, rfl⟩
      rw [hh1, hh2] at CH1 hhb hstep
      rw [hmi] at CM1 hmib hstep
      rw [hIL] at CI1 hil HInm hstep
      obtain ⟨il, hile⟩ : ∃ l, IL.length = l := ⟨_, rfl⟩
      rw [hile] at CI1
      have hil2 : il ≤ 201 := by rw [← hile]; exact hil
      have HIle := Lib.hid hile
      have HStep := Lib.hid hstep
      have HSb := Lib.hid hsb
      clear hh1 hh2 hmi hIL hile hstep hsb
      go_upto_region 9 with (go_at_call 91; refine CH1.out.mono ?_; rintro e w7 ⟨rfl, hS⟩)
      have hb8 := BoxG.made w7 [.int .i64 h1, .int .i64 h2] 26
      have hS8 := hS.trans ((al' (Below.refl w7.heap.size w7) (.cells #[.int .i64 h1, .int .i64 h2] 26)).mono hS.size)
      have HIQ := Lib.hid (show Q < w7.heap.size from Nat.lt_of_lt_of_le HX6.out.1 hS.size)
      have HS8 := Lib.hid hS8
      have HI6 := Lib.hid (show w6.heap.size ≤ w7.heap.size from hS.size)
      have HI8 := Lib.hid hb8
      clear hS hS8 hb8 CH1
      generalize w7.alloc (.cells #[.int .i64 h1, .int .i64 h2] 26) = w8 at *
      obtain ⟨I, hIe⟩ : ∃ I, w7.heap.size = I := ⟨_, rfl⟩
      rw [hIe] at HI8 HIQ HI6 ⊢
      clear hIe
      obtain ⟨i0, i1, if_, il_⟩ := pair_facts HI8.out
      go_upto_region 10 with (fail)
      have hI9 : BoxG (w8.setCell ⟨I, 1, none⟩ (.int .i64 (min h2 most))) I [.int .i64 h1, .int .i64 (min h2 most)] := HI8.out.set 1 _ (by simp)
      have hS9 : Below w6.heap.size w6 (w8.setCell ⟨I, 1, none⟩ (.int .i64 (min h2 most))) := (show Keeps [I] w8 _ from Keeps.setCell w8 ⟨I, 1, none⟩ _).below_then HS8.out (fun y hy => by have := List.mem_singleton.1 hy; have := HX6.out.1; have := HIQ.out; have := HI6.out; omega) (Nat.le_refl _)
      have HS9 := Lib.hid hS9
      have HI9 := Lib.hid hI9
      have hm09 := cell_stays m0' hS9
      have hm19 := cell_stays m1' hS9
      clear hS9 hI9 HS8 HI8 HI6 i0 i1 if_ il_ c5
      generalize w8.setCell ⟨I, 1, none⟩ (.int .i64 (min h2 most)) = w9 at *
      have c5 : w9.cell? ⟨Q, 5, none⟩ = some (.int .i64 x.inn) := (BoxG.pa (x := x) (HX6.out.below' HS9.out)).2.2.2.2.2.1
      have CM2 := Lib.hid (CM1.out w9 HS9.out)
      go_upto_region 11 with (go_at_call 93; refine CM2.out.mono ?_; rintro e w10 ⟨rfl, hS⟩)
      have HS10 := Lib.hid (HS9.out.trans (hS.mono HS9.out.size))
      have HI10 := Lib.hid (HI9.out.below' hS)
      clear hS CM2 CM1 HS9 HI9 c5 hm09 hm19
      have hwr : IntKind.i64.wrap (mi * 100000) = mi * 100000 := IntWalk.i64_in _ (by omega)
      go_upto_region 12 with (fail)
      have hT := BoxG.made w10 [.int .i64 mi, .int .i64 (mi * 100000)] 26
      have hBt := al' (Below.refl w10.heap.size w10) (.cells #[.int .i64 mi, .int .i64 (mi * 100000)] 26)
      have HS11 := Lib.hid (HS10.out.trans (hBt.mono HS10.out.size))
      have HI11 := Lib.hid (HI10.out.below' hBt)
      have HTI := Lib.hid (show I < w10.heap.size from HI10.out.1)
      have HT11 := Lib.hid hT
      have HWT := Lib.hid (show wb < w10.heap.size from Nat.lt_of_lt_of_le (World.block_lt_of_cell? _ _ hcq') HS10.out.size)
      have HT6 := Lib.hid (show w6.heap.size ≤ w10.heap.size from HS10.out.size)
      clear hT hBt hwr HS10 HI10
      generalize w10.alloc (.cells #[.int .i64 mi, .int .i64 (mi * 100000)] 26) = w11 at *
      obtain ⟨T, hTe⟩ : ∃ T, w10.heap.size = T := ⟨_, rfl⟩
      rw [hTe] at HT11 HTI HWT HT6 ⊢
      clear hTe
      have c5 : w11.cell? ⟨Q, 5, none⟩ = some (.int .i64 x.inn) := (BoxG.pa (x := x) (HX6.out.below' HS11.out)).2.2.2.2.2.1
      have m0 := cell_stays m0' HS11.out
      have m1 := cell_stays m1' HS11.out
      have CI2 := Lib.hid (CI1.out w11 HS11.out)
      go_upto_region 13 with (go_at_call 94; refine CI2.out.mono ?_; rintro e w12 ⟨la, lc, rfl, hrl, hS, _, hla⟩)
      have HS12 := Lib.hid (HS11.out.trans (hS.mono HS11.out.size))
      have HI12 := Lib.hid (HI11.out.below' hS)
      have HT12 := Lib.hid (HT11.out.below' hS)
      have HLa := Lib.hid (show ∀ p, la = some p → p.block ≠ T from fun p e => by have h1 := (hla p e).1; have h2 := HT11.out.1; omega)
      have HL := Lib.hid hrl
      clear hS hrl hla c5 m0 m1 CI2 CI1 HS11 HI11 HT11
      have HB12 := Lib.hid (HB6.out.trans (HS12.out.mono HB6.out.size))
      have hcq12 := cell_stays hcq' HS12.out
      have hm012 := cell_stays m0' HS12.out
      have hm112 := cell_stays m1' HS12.out
      clear hcq' m0' m1'
      go_wp2_with fail
      go_loopw [16] (fun i wr => ∃ (k2 : Nat) (lo hi : Int), k2 ≤ il ∧ i = .int .i64 k2 ∧ lo = mi + othS (belowR PS TS 300) Prod.fst q (IL.take k2) ∧ hi = mi * 100000 + othS (belowR PS TS 300) Prod.snd q (IL.take k2) ∧ Keeps [T] w12 wr ∧ BoxG wr T [.int .i64 lo, .int .i64 hi]) (fun i _ => il - (intOf i).toNat)
      case atStart => exact ⟨0, mi, mi * 100000, Nat.zero_le _, rfl, by simp [othS], by simp [othS], Keeps.refl _ _, HT12.out⟩
      case round =>
        obtain ⟨k2, lo, hi, hk2, rfl, hlo, hhi, hkp, hT⟩ := hrel
        have HK2 := Lib.hid hkp
        have HT := Lib.hid hT
        have HLo := Lib.hid hlo
        have HHi := Lib.hid hhi
        clear hkp hT hlo hhi
        by_cases hlt2 : k2 < il
        · have hlt2' : (k2 : Int) < (il : Int) := by omega
          obtain ⟨lb, lf, y, hlae, _, hy, hcy⟩ := (HK2.out.rd HL.out (fun _ p e hm => HLa.out p e (List.mem_singleton.1 hm))).int hlt2
          subst hlae
          have hwT : wb ∉ [T] := by have := HWT.out; simp; omega
          have hMT : M ∉ [T] := by have := HTI.out; have := HIQ.out; have := HOQ.out; have := HRO.out; simp; omega
          have hcq2 := HK2.out.cell hcq12 hwT
          have hm02 := HK2.out.cell hm012 hMT
          have hm12 := HK2.out.cell hm112 hMT
          have Hy := Lib.hid hy
          have hym : y ∈ IL := List.mem_of_getElem? hy
          have hy0 := HInm.out y hym
          clear hwT hMT hy hym
          by_cases hyq : y = q
          · have hyb : (y != q) = false := by simp [hyq]
            have HE1 := Lib.hid (oth_no (bel := belowR PS TS 300) (g := Prod.fst) Hy.out hyq)
            have HE2 := Lib.hid (oth_no (bel := belowR PS TS 300) (g := Prod.snd) Hy.out hyq)
            clear hyq hy0 hm02 hm12
            go_upto_region 16 with (fail)
            go_cut [76] from 68 to 75 (fun v wz => v = .bool false ∧ Below wr.heap.size wr wz)
            case first =>
              go_region_held3 (fun w' => w'.cell? ⟨lb, lf + k2, none⟩ = some (.int .i64 y) ∧ w'.cell? ⟨wb, wf + k, none⟩ = some (.int .i64 q))
                ((refine keep2c ⟨hcy, hcq2⟩ ?_; with_reducible apply bd0))
                (fail)
              all_goals go_wp2_with fail
              all_goals go_meet
              all_goals first
                | exact ⟨rfl, bd0 _⟩
                | exact ⟨rfl, Below.refl _ _⟩
            case rest =>
            obtain ⟨rfl, hBz⟩ := hcut
            generalize wc = wz at *
            have HKz := Lib.hid (HK2.out.then_below hBz)
            have HTz := Lib.hid (HT.out.below' hBz)
            clear hBz hcy hcq2 HK2 HT hyb
            go_wp2_with fail
            exact ⟨⟨k2 + 1, lo, hi, by omega, by go_num, by rw [HE1.out]; exact HLo.out, by rw [HE2.out]; exact HHi.out, HKz.out, HTz.out⟩, by simp [intOf]; omega⟩
          · have hyb : (y != q) = true := by simp [hyq]
            have HE1 := Lib.hid (oth_yes (bel := belowR PS TS 300) (g := Prod.fst) Hy.out hyq)
            have HE2 := Lib.hid (oth_yes (bel := belowR PS TS 300) (g := Prod.snd) Hy.out hyq)
            have HBx := Lib.hid (HK2.out.below_then HB12.out (fun z hz => by have := List.mem_singleton.1 hz; have := HTI.out; have := HIQ.out; have := HOQ.out; have := HRO.out; have := HMe.out; omega) (Nat.le_refl _))
            have CB2 := Lib.hid (fun W (hW : Below wr.heap.size wr W) => CB.out y hy0 W (HBx.out.trans (hW.mono HBx.out.size)))
            have hbb := HBb.out y
            have ho1 := oth_bd (bel := belowR PS TS 300) (g := Prod.fst) (m := 100000000) q (IL.take k2) (fun y => ⟨(HBb.out y).1, (HBb.out y).2.1⟩) (by decide) (by rw [List.length_take]; omega)
            have ho2 := oth_bd (bel := belowR PS TS 300) (g := Prod.snd) (m := 100000) q (IL.take k2) (fun y => (HBb.out y).2.2) (by decide) (by rw [List.length_take]; omega)
            have hlo := HLo.out
            have hhi := HHi.out
            obtain ⟨y1, hy1⟩ : ∃ v, (belowR PS TS 300 y).1 = v := ⟨_, rfl⟩
            obtain ⟨y2, hy2⟩ : ∃ v, (belowR PS TS 300 y).2 = v := ⟨_, rfl⟩
            rw [hy1, hy2] at CB2 hbb
            have HN1 := Lib.hid (show lo + y1 = mi + othS (belowR PS TS 300) Prod.fst q (IL.take (k2 + 1)) from by rw [HE1.out, hlo, hy1]; omega)
            have HN2 := Lib.hid (show hi + y2 = mi * 100000 + othS (belowR PS TS 300) Prod.snd q (IL.take (k2 + 1)) from by rw [HE2.out, hhi, hy2]; omega)
            have hw1 : IntKind.i64.wrap (lo + y1) = lo + y1 := IntWalk.i64_in _ (by omega)
            have hw2 : IntKind.i64.wrap (hi + y2) = hi + y2 := IntWalk.i64_in _ (by omega)
            clear hyq hy0 HE1 HE2 hlo hhi hy1 hy2 ho1 ho2 hbb
            go_upto_region 16 with (fail)
            go_cut [76] from 68 to 75 (fun v wz => v = .bool true ∧ Below wr.heap.size wr wz)
            case first =>
              go_region_held3 (fun w' => w'.cell? ⟨lb, lf + k2, none⟩ = some (.int .i64 y) ∧ w'.cell? ⟨wb, wf + k, none⟩ = some (.int .i64 q))
                ((refine keep2c ⟨hcy, hcq2⟩ ?_; with_reducible apply bd0))
                (fail)
              all_goals go_wp2_with fail
              all_goals go_meet
              all_goals first
                | exact ⟨rfl, bd0 _⟩
                | exact ⟨rfl, Below.refl _ _⟩
            case rest =>
            obtain ⟨rfl, hBz⟩ := hcut
            generalize wc = wz at *
            have HKz := Lib.hid (HK2.out.then_below hBz)
            have HTz := Lib.hid (HT.out.below' hBz)
            have CB3 := Lib.hid (fun W (hW : Below wz.heap.size wz W) => CB2.out W (hBz.trans (hW.mono hBz.size)))
            have hcyz := cell_stays hcy hBz
            have hm0z := cell_stays hm02 hBz
            have hm1z := cell_stays hm12 hBz
            clear hBz hcy hcq2 hm02 hm12 HK2 HT CB2 hyb
            go_upto_region 17 with (fail)
            go_cut [17] from 77 to 82 (fun v wx => ∃ X, v = .pointer (some ⟨X, 0, none⟩) ∧ Below wz.heap.size wz wx ∧ BoxG wx X [.int .i64 y1, .int .i64 y2] ∧ wz.heap.size ≤ X)
            case first =>
              go_region_held3 (fun w' => w'.cell? ⟨M, 0, none⟩ = some (.slice pa pn pc) ∧ w'.cell? ⟨M, 1, none⟩ = some (.slice ta tn tc) ∧ w'.cell? ⟨lb, lf + k2, none⟩ = some (.int .i64 y))
                ((refine keep3 ⟨hm0z, hm1z, hcyz⟩ ?_; first | with_reducible apply bd0 | with_reducible apply bd1 | with_reducible exact hb5.out | with_reducible exact bd2 hb5.out _ | with_reducible exact set2_below hb5.out (Nat.le_refl _) | with_reducible exact set2_below (bd2 hb5.out _) hb5.out.size))
                (first
                  | (go_at_call 90; with_reducible refine (CB3.out _ (bd0 _)).mono ?_; rintro e wq ⟨rfl, hB5⟩; have hb5 := Lib.hid (show Below wz.heap.size wz wq from below_on (bd0 wz) hB5 (Nat.le_refl _)); clear hB5)
                  | (go_at_call 90; with_reducible refine (CB3.out _ (bd1 _ _)).mono ?_; rintro e wq ⟨rfl, hB5⟩; have hb5 := Lib.hid (show Below wz.heap.size wz wq from below_on (bd1 wz _) hB5 (Nat.le_refl _)); have hz := Lib.hid (((BoxG.made wz [.int .i64 0, .int .i64 0] 26).below' (bd0 _)).below' hB5); obtain ⟨z0, z1, zf, zl⟩ := pair_facts hz.out; clear hB5))
              all_goals go_wp2_with fail
              all_goals go_meet
              all_goals first
                | exact ⟨_, rfl, bd2 hb5.out _, BoxG.made wq [.int .i64 y1, .int .i64 y2] 26, hb5.out.size⟩
                | exact ⟨_, rfl, set2_below hb5.out (Nat.le_refl _), (hz.out.set 0 _ (by simp)).set 1 _ (by simp), Nat.le_refl _⟩
            case rest =>
            obtain ⟨X, rfl, hB6, hX, hXl⟩ := hcut
            generalize wc = wy at *
            have HKy := Lib.hid (HKz.out.then_below hB6)
            have HTy := Lib.hid (HTz.out.below' hB6)
            have hXT : X ≠ T := by have := HTz.out.1; omega
            obtain ⟨o0, o1, of, ol⟩ := pair_facts HTy.out
            obtain ⟨x0, x1, xf, xl⟩ := pair_facts hX
            clear hB6 hX hXl hcyz hm0z hm1z HKz HTz CB3
            go_wp2_with fail
            exact ⟨⟨k2 + 1, lo + y1, hi + y2, by omega, by go_num, HN1.out, HN2.out, (HKy.out.then_set ⟨T, 0, none⟩ _ (.inl (by simp))).then_set ⟨T, 1, none⟩ _ (.inl (by simp)), (HTy.out.set 0 _ (by simp)).set 1 _ (by simp)⟩, by simp [intOf]; omega⟩
        · have hltg2 : ¬ (k2 : Int) < (il : Int) := by omega
          have hTk : IL.take k2 = IL := List.take_of_length_le (by rw [HIle.out]; omega)
          have hlo := HLo.out
          have hhi := HHi.out
          rw [hTk] at hlo hhi
          have hwT : wb ∉ [T] := by have := HWT.out; simp; omega
          have hMT : M ∉ [T] := by have := HTI.out; have := HIQ.out; have := HOQ.out; have := HRO.out; simp; omega
          have hOT : O ∉ [T] := by have := HTI.out; have := HIQ.out; have := HOQ.out; simp; omega
          have hIT : I ∉ [T] := by have := HTI.out; simp; omega
          have hcq2 := HK2.out.cell hcq12 hwT
          have hm02 := HK2.out.cell hm012 hMT
          have hm12 := HK2.out.cell hm112 hMT
          have HIr := Lib.hid (HI12.out.keeps HK2.out hIT)
          have HOr := Lib.hid ((HO6.out.below' HS12.out).keeps HK2.out hOT)
          have HKr := Lib.hid ((HK6.out.then_below HS12.out).of_later HK2.out (fun z hz => .inr (by have := List.mem_singleton.1 hz; have := HK6.out.size; have := HT6.out; omega)))
          have HBx := Lib.hid (HK2.out.below_then HB12.out (fun z hz => by have := List.mem_singleton.1 hz; have := HTI.out; have := HIQ.out; have := HOQ.out; have := HRO.out; have := HMe.out; omega) (Nat.le_refl _))
          have CB2 := Lib.hid (fun W (hW : Below wr.heap.size wr W) => CB.out q (.inr ⟨x, Hx.out, Hxq.out⟩) W (HBx.out.trans (hW.mono HBx.out.size)))
          have hbb := HBb.out q
          have hstep := HStep.out
          have hsb := HSb.out
          have hnx := HNx.out
          have ho1 := oth_bd (bel := belowR PS TS 300) (g := Prod.fst) (m := 100000000) q IL (fun y => ⟨(HBb.out y).1, (HBb.out y).2.1⟩) (by decide) hil
          have ho2 := oth_bd (bel := belowR PS TS 300) (g := Prod.snd) (m := 100000) q IL (fun y => (HBb.out y).2.2) (by decide) hil
          obtain ⟨b1, hb1⟩ : ∃ v, (belowR PS TS 300 q).1 = v := ⟨_, rfl⟩
          obtain ⟨b2, hb2⟩ : ∃ v, (belowR PS TS 300 q).2 = v := ⟨_, rfl⟩
          rw [hb1, hb2] at CB2 hbb hstep
          rw [← hlo, ← hhi] at hstep
          rw [hstep] at hnx hsb
          have hw1 : IntKind.i64.wrap (h1 - hi) = h1 - hi := IntWalk.i64_in _ (by omega)
          have hw2 : IntKind.i64.wrap (min h2 most - lo) = min h2 most - lo := IntWalk.i64_in _ (by omega)
          have HNx2 := Lib.hid hnx
          have HSb2 := Lib.hid hsb
          clear hwT hMT hOT hIT hTk hlo hhi hbb hstep hsb hnx ho1 ho2 hb1 hb2 HI12 HK2 HHi HLo HL HStep HSb HNx HT12 hcq12 hm012 hm112 HK6 HO6 HX6 hhb hmib
          go_upto_region 20 with (fail)
          go_cut [18] from 95 to 100 (fun v wx => ∃ X, v = .pointer (some ⟨X, 0, none⟩) ∧ Below wr.heap.size wr wx ∧ BoxG wx X [.int .i64 b1, .int .i64 b2] ∧ wr.heap.size ≤ X)
          case first =>
            go_region_held3 (fun w' => w'.cell? ⟨M, 0, none⟩ = some (.slice pa pn pc) ∧ w'.cell? ⟨M, 1, none⟩ = some (.slice ta tn tc) ∧ w'.cell? ⟨wb, wf + k, none⟩ = some (.int .i64 q))
              ((refine keep3 ⟨hm02, hm12, hcq2⟩ ?_; first | with_reducible apply bd0 | with_reducible apply bd1 | with_reducible exact hb5.out | with_reducible exact bd2 hb5.out _ | with_reducible exact set2_below hb5.out (Nat.le_refl _) | with_reducible exact set2_below (bd2 hb5.out _) hb5.out.size))
              (first
                | (go_at_call 90; with_reducible refine (CB2.out _ (bd0 _)).mono ?_; rintro e wq ⟨rfl, hB5⟩; have hb5 := Lib.hid (show Below wr.heap.size wr wq from below_on (bd0 wr) hB5 (Nat.le_refl _)); clear hB5)
                | (go_at_call 90; with_reducible refine (CB2.out _ (bd1 _ _)).mono ?_; rintro e wq ⟨rfl, hB5⟩; have hb5 := Lib.hid (show Below wr.heap.size wr wq from below_on (bd1 wr _) hB5 (Nat.le_refl _)); have hz := Lib.hid (((BoxG.made wr [.int .i64 0, .int .i64 0] 26).below' (bd0 _)).below' hB5); obtain ⟨z0, z1, zf, zl⟩ := pair_facts hz.out; clear hB5))
            all_goals go_wp2_with fail
            all_goals go_meet
            all_goals first
              | exact ⟨_, rfl, bd2 hb5.out _, BoxG.made wq [.int .i64 b1, .int .i64 b2] 26, hb5.out.size⟩
              | exact ⟨_, rfl, set2_below hb5.out (Nat.le_refl _), (hz.out.set 0 _ (by simp)).set 1 _ (by simp), Nat.le_refl _⟩
          case rest =>
          obtain ⟨X, rfl, hB6, hX, hXl⟩ := hcut
          generalize wc = wy at *
          have HOy := Lib.hid (HOr.out.below' hB6)
          have HKy := Lib.hid (HKr.out.then_below hB6)
          obtain ⟨o0, o1, of, ol⟩ := pair_facts HOy.out
          obtain ⟨x0, x1, xf, xl⟩ := pair_facts hX
          obtain ⟨t0, t1, tf, tl⟩ := pair_facts (HT.out.below' hB6)
          obtain ⟨i0, i1, if_, il_⟩ := pair_facts (HIr.out.below' hB6)
          clear hB6 hX hXl hcq2 hm02 hm12 CB2 HIr HOr HKr HBx HT
          go_wp2_with fail
          exact ⟨⟨k + 1, min b2 (min h2 most - lo), max b1 (h1 - hi), min b2 (min h2 most - lo), by omega, by go_num, rfl, by rw [HNx2.out], fun _ => HNx2.out.symm, by have := HSb2.out; omega, by have := HSb2.out; push_cast; omega, (HKy.out.then_set ⟨O, 0, none⟩ _ (.inl (by simp))).then_set ⟨O, 1, none⟩ _ (.inl (by simp)), (HOy.out.set 0 _ (by simp)).set 1 _ (by simp)⟩, by simp [intOf]; omega⟩
    · have hltg : ¬ (k : Int) < (wn : Int) := by omega
      have HE := Lib.hid (show (el, eh) = EV from by
        have h1 := HWn.out
        have h2 := HNe.out
        have h3 := HEl.out (by omega)
        rw [List.take_of_length_le (by omega)] at h3
        rw [h3, HEV.out])
      have hRO : M + 1 ∉ [O] := by have := HRO.out; simp; omega
      have HRr := Lib.hid (HR3.out.keeps HK.out hRO)
      have HM0 := Lib.hid (show w.heap.size ≤ M + 1 from by have := HMe.out; omega)
      obtain ⟨o0, o1, of, ol⟩ := pair_facts HO.out
      obtain ⟨r0, r1, rf, rl⟩ := pair_facts HRr.out
      clear hRO hlt
      go_wp2_with fail
      obtain ⟨wf, hwf, s0, s1, sl, hBf⟩ := two_end (u := .int .i64 el) (v := .int .i64 eh) HRr.out HBr.out HM0.out
      rw [hwf]
      exact bodyPost_ret (by simp [results, Tryz.results54, go_sem, s0, s1, sl]) rfl (show SpanPost w EV (.returned (.agg #[.int .i64 el, .int .i64 eh])) wf from ⟨by rw [← HE.out], hBf⟩)

end Go.Proofs.YtmghbbgnenpcaaaGreatDoor
