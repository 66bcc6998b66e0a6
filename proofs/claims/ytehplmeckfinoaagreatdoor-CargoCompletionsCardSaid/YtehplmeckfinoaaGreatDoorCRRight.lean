/- The walks of the reference's below, held and complete. -/
import Derived.Test.YtehplmeckfinoaaGreatDoorCROf
import Derived.Test.YtehplmeckfinoaaGreatDoorCEndsS
import Derived.Deep.RegionHeld3
import Derived.Deep.Cut
import Derived.Deep.CutRange
import Derived.IntWalk
import Derived.Test.YtehplmeckfinoaaGreatDoorCTreeE
set_option linter.unusedSimpArgs false
set_option linter.unusedVariables false
namespace Go.Proofs.YtehplmeckfinoaaGreatDoor
open Go.RowKit Go.Shelf
def SpanPost (w : World) (p : Int × Int) (e : Ending) (w' : World) : Prop := e = .returned (.agg #[.int .i64 p.1, .int .i64 p.2]) ∧ Below w.heap.size w w'
theorem two_end {W w : World} {B : Nat} {a b u v : Value} (h : BoxG W B [a, b]) (hB : Below w.heap.size w W) (hb : w.heap.size ≤ B) :
 ∃ wf, (W.setCell ⟨B, 0, none⟩ u).setCell ⟨B, 1, none⟩ v = wf ∧ wf.cell? ⟨B, 0, none⟩ = some u ∧ wf.cell? ⟨B, 1, none⟩ = some v ∧ B < wf.heap.size ∧ Below w.heap.size w wf := by
 obtain ⟨s0, s1, sl, sk⟩ := two_set (u := u) (v := v) h
 exact ⟨_, rfl, s0, s1, sl, sk.below_then hB (fun x hx => by have := List.mem_singleton.1 hx; omega) (Nat.le_refl _)⟩
theorem made2 {w : World} {u v x y z t : Value} {T T2 : TypeId} : BoxG ((w.alloc (.cells #[u, v] T)).alloc (.cells #[x, y] T2)) (w.heap.size + 1) [x, y] := by
 have := BoxG.made (w.alloc (.cells #[u, v] T)) [x, y] T2
 have hz : (w.alloc (.cells #[u, v] T)).heap.size = w.heap.size + 1 := by simp
 rw [hz] at this
 exact this
set_option maxRecDepth 100000 in
set_option maxHeartbeats 8000000 in
theorem below_of (pa : Option Addr) (pn pc : Nat) (ta : Option Addr) (tn tc : Nat) (PS TS : List Pa) (q : Int) (H : Int × Int) (w : World) (hp : Rd Pa.vals 14 w pa pn PS) (ht : Rd Pa.vals 14 w ta tn TS)
 (IH : ∀ W, Below w.heap.size w W → Calls Tryz.prog 75 #[.agg #[.slice pa pn pc, .slice ta tn tc], .int .i64 q] W (SpanPost W H)) :
 Calls Tryz.prog 74 #[.agg #[.slice pa pn pc, .slice ta tn tc], .int .i64 q] w (SpanPost w (belowW PS H q)) := by
 have hM := (ManR.box pc tc hp ht 70).below' (al' (Below.refl _ _) (.cells #[.int .i64 0, .int .i64 0] 32))
 have hB := al' (al' (Below.refl w.heap.size w) (.cells #[.slice pa pn pc, .slice ta tn tc] 70)) (.cells #[.int .i64 0, .int .i64 0] 32)
 have hR := made2 (w := w) (u := .slice pa pn pc) (v := .slice ta tn tc) (x := .int .i64 0) (y := .int .i64 0) (z := .int .i64 0) (t := .int .i64 0) (T := 70) (T2 := 32)
 have HM := Hd hM
 have HB1 := Hd hB
 have HR := Hd hR
 have HI := Hd IH
 clear hM hB hR IH hp ht
 obtain ⟨RV, hRV⟩ : ∃ p, belowW PS H q = p := ⟨_, rfl⟩
 rw [hRV]
 have HRV := Hd hRV
 clear hRV
 go_enter Tryz.func74, Tryz.ntmps74
 go_upto_region 1 with (fail)
 generalize ((w.alloc (.cells #[.slice pa pn pc, .slice ta tn tc] 70)).alloc (.cells #[.int .i64 0, .int .i64 0] 32)) = w1 at *
 obtain ⟨M, hMe⟩ : ∃ M, w.heap.size = M := ⟨_, rfl⟩
 have HMe := Hd hMe
 rw [hMe] at HM HR ⊢
 clear hMe
 have m0 := HM.out.c0
 have CF := Hd (find_r pa pn pc PS q w1 HM.out.rp)
 obtain ⟨oq, hoq⟩ : ∃ oq, ofI PS q = oq := ⟨_, rfl⟩
 have HOq := Hd hoq
 unfold FindPost at CF
 rw [hoq] at CF
 clear hoq
 go_upto_region 2 with (go_at_call 67; refine CF.out.mono ?_; rintro e w2 ⟨hS0, x, hq, rfl⟩)
 have hBq := al' (Below.refl w2.heap.size w2) (.cells #[.int .i64 x.id, .int .i64 x.known, .int .u8 x.kind, .int .i64 x.loss, .int .i64 x.pack, .int .i64 x.inn, .string ⟨x.mark.toArray⟩, .string ⟨x.goods.toArray⟩, .int .i64 x.low, .int .i64 x.high, .int .i64 x.pieces, .int .i64 x.owner, .int .i64 x.count, .int .i64 x.of] 42)
 have hS := hS0.trans (hBq.mono hS0.size)
 have hbx := (BoxG.made w2 x.vals 42)
 simp only [Pa.vals] at hbx
 have HB2 := Hd (HB1.out.trans (hS.mono HB1.out.size))
 have HM2 := Hd (HM.out.below' hS)
 have HR2 := Hd (HR.out.below' hS)
 have hq0 : w1.heap.size ≤ w2.heap.size := hS0.size
 have HQ0 := Hd hq0
 clear hBq hS hS0 m0 CF HM HB1 HR hq0
 generalize w2.alloc (.cells #[.int .i64 x.id, .int .i64 x.known, .int .u8 x.kind, .int .i64 x.loss, .int .i64 x.pack, .int .i64 x.inn, .string ⟨x.mark.toArray⟩, .string ⟨x.goods.toArray⟩, .int .i64 x.low, .int .i64 x.high, .int .i64 x.pieces, .int .i64 x.owner, .int .i64 x.count, .int .i64 x.of] 42) = w3 at *
 obtain ⟨Q, hQe⟩ : ∃ Q, w2.heap.size = Q := ⟨_, rfl⟩
 rw [hQe] at hbx HQ0 ⊢
 clear hQe
 have HX := Hd hbx
 have Hq := Hd hq
 clear hbx hq
 have CH := Hd (HI.out w3 HB2.out)
 have m0 := HM2.out.c0
 have m1 := HM2.out.c1
 unfold SpanPost at CH
 go_upto_region 3 with (go_at_call 75; refine CH.out.mono ?_; rintro e w4 ⟨rfl, hS4⟩)
 have hb5 := BoxG.made w4 [.int .i64 H.1, .int .i64 H.2] 32
 have hS5 := hS4.trans ((al' (Below.refl w4.heap.size w4) (.cells #[.int .i64 H.1, .int .i64 H.2] 32)).mono hS4.size)
 have HB5 := Hd (HB2.out.trans (hS5.mono HB2.out.size))
 have HR5 := Hd (HR2.out.below' hS5)
 have HX5 := Hd (HX.out.below' hS5)
 have HH5 := Hd hb5
 clear hb5 hS5 hS4 m0 m1 CH HM2 HB2 HR2 HX HI
 generalize w4.alloc (.cells #[.int .i64 H.1, .int .i64 H.2] 32) = w5 at *
 obtain ⟨K, hKe⟩ : ∃ K, w4.heap.size = K := ⟨_, rfl⟩
 rw [hKe] at HH5 ⊢
 clear hKe
 obtain ⟨c0, c1, c2, c3, c4, c5, c6, c7, c8, c9, c10, c11, c12, c13⟩ := BoxG.pa (x := x) HX5.out
 obtain ⟨k0, k1, kf, kl⟩ := pair_facts HH5.out
 clear c0 c1 c2 c3 c4 c5 c6 c7 c10 c11 c12 c13
 go_upto_region 4 with (fail)
 have hO := BoxG.made w5 [.int .i64 (max x.low H.1), .int .i64 x.high] 32
 have hBo := al' (Below.refl w5.heap.size w5) (.cells #[.int .i64 (max x.low H.1), .int .i64 x.high] 32)
 have HB6 := Hd (HB5.out.trans (hBo.mono HB5.out.size))
 have HR6 := Hd (HR5.out.below' hBo)
 have HH6 := Hd (HH5.out.below' hBo)
 have hne : M + 1 ≠ w5.heap.size := by have := HR5.out.1; omega
 have HMO := Hd (show M + 1 < w5.heap.size from HR5.out.1)
 have HO := Hd hO
 clear hO hBo c8 c9 k0 k1 kf kl HH5 HR5 HB5 HX5
 generalize w5.alloc (.cells #[.int .i64 (max x.low H.1), .int .i64 x.high] 32) = w6 at *
 obtain ⟨O, hOe⟩ : ∃ O, w5.heap.size = O := ⟨_, rfl⟩
 rw [hOe] at HO hne HMO ⊢
 clear hOe
 obtain ⟨k0, k1, kf, kl⟩ := pair_facts HH6.out
 obtain ⟨o0, o1, of, ol⟩ := pair_facts HO.out
 obtain ⟨r0, r1, rf, rl⟩ := pair_facts HR6.out
 have HM0 := Hd (show w.heap.size ≤ M + 1 from by have := HMe.out; omega)
 have HX0 := Hd (show x = (ofI PS q).getD pa0 from by rw [HOq.out, ← Hq.out]; rfl)
 by_cases hlt : H.2 < H.1
 · have HV := Hd (show RV = (1, 0) from by rw [← HRV.out]; unfold belowW; rw [if_pos hlt])
   go_wp2_with fail
   have hR2 : BoxG ((w6.setCell ⟨O, 0, none⟩ (.int .i64 1)).setCell ⟨O, 1, none⟩ (.int .i64 0)) (M + 1) [.int .i64 0, .int .i64 0] := (HR6.out.aside hne 0 _).aside hne 1 _
   have hB2 : Below w.heap.size w ((w6.setCell ⟨O, 0, none⟩ (.int .i64 1)).setCell ⟨O, 1, none⟩ (.int .i64 0)) := (two_set HO.out).2.2.2.below_then HB6.out (fun y hy => by have := List.mem_singleton.1 hy; have := HMO.out; have := HM0.out; omega) (Nat.le_refl _)
   obtain ⟨wf, hwf, s0, s1, sl, hBf⟩ := two_end (u := .int .i64 1) (v := .int .i64 0) hR2 hB2 HM0.out
   rw [hwf]
   exact bodyPost_ret (by simp [results, Tryz.results74, go_sem, s0, s1, sl]) rfl (show SpanPost w RV (.returned (.agg #[.int .i64 1, .int .i64 0])) wf from ⟨by rw [HV.out], hBf⟩)
 · have HV := Hd (show RV = (max x.low H.1, x.high) from by rw [← HRV.out, HX0.out]; unfold belowW; rw [if_neg hlt])
   go_wp2_with fail
   obtain ⟨wf, hwf, s0, s1, sl, hBf⟩ := two_end (u := .int .i64 (max x.low H.1)) (v := .int .i64 x.high) HR6.out HB6.out HM0.out
   rw [hwf]
   exact bodyPost_ret (by simp [results, Tryz.results74, go_sem, s0, s1, sl]) rfl (show SpanPost w RV (.returned (.agg #[.int .i64 (max x.low H.1), .int .i64 x.high])) wf from ⟨by rw [HV.out], hBf⟩)
theorem sum_step {L : List Int} {k : Nat} {q : Int} (h : L[k]? = some q) (f : Int → Int) : ((L.take (k + 1)).map f).sum = ((L.take k).map f).sum + f q := by
 rw [take_succ_snoc h, List.map_append, List.sum_append]; simp
theorem bel_bd {ps ts : List Pa} (hmo : ManiOk ps ts) (d : Nat) (q : Int) : 0 ≤ (belowR ps ts d q).1 ∧ (belowR ps ts d q).1 ≤ 100000000 ∧ 0 ≤ (belowR ps ts d q).2 ∧ (belowR ps ts d q).2 ≤ 100000 := by
 have h1 := held_hi hmo d q
 have h2 := below_hi hmo (heldR ps ts d q) q
 have h3 := ofI_bd hmo q
 refine ⟨?_, ?_, h2⟩
 · unfold belowR belowW; split
   · decide
   · simp only; omega
 · unfold belowR belowW; split
   · decide
   · simp only; omega
theorem sum_bd {f : Int → Int} {m : Int} (hm : 0 ≤ m) {L : List Int} (h : ∀ q ∈ L, 0 ≤ f q ∧ f q ≤ m) (hl : L.length ≤ 1000) (k : Nat) : 0 ≤ ((L.take k).map f).sum ∧ ((L.take k).map f).sum ≤ 1000 * m := by
 obtain ⟨h1, h2⟩ := sum_hi (L.take k) (fun q hq => h q (List.mem_of_mem_take hq))
 refine ⟨h1, Int.le_trans h2 ?_⟩
 exact Int.mul_le_mul_of_nonneg_right (by rw [List.length_take]; omega) hm
theorem set2_below {w w' : World} {X : Nat} {u v : Value} (h : Below w.heap.size w w') (hX : w.heap.size ≤ X) : Below w.heap.size w ((w'.setCell ⟨X, 0, none⟩ u).setCell ⟨X, 1, none⟩ v) :=
 (show Keeps [X] w' _ from (Keeps.setCell w' ⟨X, 0, none⟩ u).then_set ⟨X, 1, none⟩ v (.inl (by simp))).below_then h (fun y hy => by have := List.mem_singleton.1 hy; omega) (Nat.le_refl _)
theorem keep3 {W W' : World} {a b c : Addr} {u v x : Value} (h : W.cell? a = some u ∧ W.cell? b = some v ∧ W.cell? c = some x) (hB : Below W.heap.size W W') : W'.cell? a = some u ∧ W'.cell? b = some v ∧ W'.cell? c = some x := ⟨cell_stays h.1 hB, cell_stays h.2.1 hB, cell_stays h.2.2 hB⟩
theorem box0 {w w5 : World} {o : Obj} {T : TypeId} (h : Below w.heap.size w w5) (x y u v : Value) (ho : o = .cells #[x, y] T) : BoxG (((w5.alloc o).setCell ⟨w5.heap.size, 0, none⟩ u).setCell ⟨w5.heap.size, 1, none⟩ v) w5.heap.size [u, v] := by
 subst ho
 exact ((BoxG.made w5 [x, y] T).set 0 u (by simp)).set 1 v (by simp)
theorem bd0 (w : World) : Below w.heap.size w w.drew := dr' (Below.refl _ _)
theorem bd1 (w : World) (o : Obj) : Below w.heap.size w (w.alloc o).drew := dr' (al' (Below.refl _ _) o)
theorem bd2 {w w' : World} (h : Below w.heap.size w w') (o : Obj) : Below w.heap.size w (w'.alloc o) := h.alloc h.size o
set_option maxRecDepth 100000 in
set_option maxHeartbeats 8000000 in
theorem held_step (pa : Option Addr) (pn pc : Nat) (ta : Option Addr) (tn tc : Nat) (PS TS : List Pa) (pack : Int) (bel : Int → Int × Int) (w : World) (hp : Rd Pa.vals 14 w pa pn PS) (ht : Rd Pa.vals 14 w ta tn TS) (hn : pn ≤ 1000) (hc : ∀ t ∈ TS, 0 ≤ t.count ∧ t.count ≤ 1000)
 (hb : ∀ q ∈ insideI PS pack, 0 ≤ (bel q).1 ∧ (bel q).1 ≤ 100000000 ∧ 0 ≤ (bel q).2 ∧ (bel q).2 ≤ 100000)
 (IH : ∀ q ∈ insideI PS pack, ∀ W, Below w.heap.size w W → Calls Tryz.prog 74 #[.agg #[.slice pa pn pc, .slice ta tn tc], .int .i64 q] W (SpanPost W (bel q))) :
 Calls Tryz.prog 75 #[.agg #[.slice pa pn pc, .slice ta tn tc], .int .i64 pack] w (SpanPost w (boundR (ofI TS pack) (missR PS TS pack + ((insideI PS pack).map (fun q => (bel q).1)).sum, missR PS TS pack * 100000 + ((insideI PS pack).map (fun q => (bel q).2)).sum))) := by
 have hM := (ManR.box pc tc hp ht 70).below' (al' (Below.refl _ _) (.cells #[.int .i64 0, .int .i64 0] 32))
 have hB := al' (al' (Below.refl w.heap.size w) (.cells #[.slice pa pn pc, .slice ta tn tc] 70)) (.cells #[.int .i64 0, .int .i64 0] 32)
 have hR := made2 (w := w) (u := .slice pa pn pc) (v := .slice ta tn tc) (x := .int .i64 0) (y := .int .i64 0) (z := .int .i64 0) (t := .int .i64 0) (T := 70) (T2 := 32)
 have HM := Hd hM
 have HB1 := Hd hB
 have HR := Hd hR
 have HI := Hd IH
 have Hpl := Hd hp.len
 have HBd := Hd hb
 have hil : (insideI PS pack).length ≤ 1000 := Nat.le_trans (insideL_len PS pack) (by rw [Hpl.out]; exact hn)
 have hmb : -1000 ≤ missR PS TS pack ∧ missR PS TS pack ≤ 1000 := by
  unfold missR
  cases e : ofI TS pack with
  | none => simp
  | some t => have := hc t (ofI_mem e).1; simp only; omega
 clear hM hB hR IH hp ht hb
 obtain ⟨RV, hRV⟩ : ∃ p, boundR (ofI TS pack) (missR PS TS pack + ((insideI PS pack).map (fun q => (bel q).1)).sum, missR PS TS pack * 100000 + ((insideI PS pack).map (fun q => (bel q).2)).sum) = p := ⟨_, rfl⟩
 rw [hRV]
 have HRV := Hd hRV
 clear hRV
 go_enter Tryz.func75, Tryz.ntmps75
 go_upto_region 1 with (fail)
 generalize ((w.alloc (.cells #[.slice pa pn pc, .slice ta tn tc] 70)).alloc (.cells #[.int .i64 0, .int .i64 0] 32)) = w1 at *
 obtain ⟨M, hMe⟩ : ∃ M, w.heap.size = M := ⟨_, rfl⟩
 have HMe := Hd hMe
 rw [hMe] at HM HR ⊢
 clear hMe
 have m0 := HM.out.c0
 have m1 := HM.out.c1
 have CM := Hd (missing_r pa pn pc ta tn tc PS TS pack w1 HM.out.rp HM.out.rt hn hc)
 have CI := Hd (fun W (hW : Below w1.heap.size w1 W) => inside_rn pa pn pc ta tn tc PS TS pack W (HM.out.rp.below' hW) (HM.out.rt.below' hW) hn)
 have CF := Hd (fun W (hW : Below w1.heap.size w1 W) => find_r ta tn tc TS pack W (HM.out.rt.below' hW))
 obtain ⟨oq, hoq⟩ : ∃ oq, ofI TS pack = oq := ⟨_, rfl⟩
 unfold FindPost at CF
 unfold InsPostN at CI
 rw [hoq] at CF HRV
 clear hoq
 obtain ⟨mi, hmi⟩ : ∃ m, missR PS TS pack = m := ⟨_, rfl⟩
 rw [hmi] at CM hmb HRV
 clear hmi
 obtain ⟨IL, hIL⟩ : ∃ L, insideI PS pack = L := ⟨_, rfl⟩
 rw [hIL] at CI HI HBd hil HRV
 clear hIL
 obtain ⟨il, hile⟩ : ∃ l, IL.length = l := ⟨_, rfl⟩
 rw [hile] at CI
 have HIle := Hd hile
 have hil2 : il ≤ 1000 := by rw [← HIle.out]; exact hil
 clear hile hc
 go_upto_region 2 with (go_at_call 66; refine CM.out.mono ?_; rintro e w2 ⟨rfl, hS⟩)
 have HS2 := Hd hS
 clear hS CM m0 m1
 have hwr : IntKind.i64.wrap (mi * 100000) = mi * 100000 := IntWalk.i64_in _ (by omega)
 go_upto_region 3 with (fail)
 have hO := BoxG.made w2 [.int .i64 mi, .int .i64 (mi * 100000)] 32
 have hBo := al' (Below.refl w2.heap.size w2) (.cells #[.int .i64 mi, .int .i64 (mi * 100000)] 32)
 have HS3 := Hd (HS2.out.trans (hBo.mono HS2.out.size))
 have HO := Hd hO
 have HO1 := Hd (show w1.heap.size ≤ w2.heap.size from HS2.out.size)
 have HRO := Hd (show M + 1 < w2.heap.size from Nat.lt_of_lt_of_le HR.out.1 HS2.out.size)
 clear hO hBo HS2 hwr
 generalize w2.alloc (.cells #[.int .i64 mi, .int .i64 (mi * 100000)] 32) = w3 at *
 obtain ⟨O, hOe⟩ : ∃ O, w2.heap.size = O := ⟨_, rfl⟩
 rw [hOe] at HO HRO HO1 ⊢
 clear hOe
 have HM3 := Hd (HM.out.below' HS3.out)
 have m0 := HM3.out.c0
 have m1 := HM3.out.c1
 go_upto_region 4 with (go_at_call 77; refine (CI.out _ HS3.out).mono ?_; rintro e w4 ⟨la, lc, rfl, hrl, hS, _, hla⟩)
 have HS4 := Hd (HS3.out.trans (hS.mono HS3.out.size))
 have HM4 := Hd (HM3.out.below' hS)
 have HO4 := Hd (HO.out.below' hS)
 have HR4 := Hd (HR.out.below' HS4.out)
 have HL := Hd hrl
 have HLa := Hd (show ∀ p, la = some p → p.block ≠ O from fun p e => by have h1 := (hla p e).1; have h2 := HO.out.1; omega)
 have HB4 := Hd (HB1.out.trans (HS4.out.mono HB1.out.size))
 clear hS hrl hla m0 m1 CI HS3 HM3 HO HR HM
 go_wp2_with fail
 go_loopw [8] (fun i wr => ∃ (k : Nat) (lo hi : Int), k ≤ il ∧ i = .int .i64 k ∧ lo = mi + ((IL.take k).map (fun q => (bel q).1)).sum ∧ hi = mi * 100000 + ((IL.take k).map (fun q => (bel q).2)).sum ∧ Keeps [O] w4 wr ∧ BoxG wr O [.int .i64 lo, .int .i64 hi]) (fun i _ => il - (intOf i).toNat)
 case atStart => exact ⟨0, mi, mi * 100000, Nat.zero_le _, rfl, by simp, by simp, Keeps.refl _ _, HO4.out⟩
 case round =>
  obtain ⟨k, lo, hi, hk, rfl, hlo, hhi, hkp, hO⟩ := hrel
  have HK := Hd hkp
  have HO := Hd hO
  have HLo := Hd hlo
  have HHi := Hd hhi
  clear hkp hO hlo hhi
  by_cases hlt : k < il
  · have hlt' : (k : Int) < (il : Int) := by omega
    obtain ⟨lb, lf, q, rfl, hlb, hq, hcq⟩ := (HK.out.rd HL.out (fun _ p e hm => HLa.out p e (List.mem_singleton.1 hm))).int hlt
    have hqm : q ∈ IL := List.mem_of_getElem? hq
    have HBr := Hd (HK.out.below_then HB4.out (fun y hy => by have := List.mem_singleton.1 hy; have := HMe.out; have := HRO.out; omega) (Nat.le_refl _))
    have CB := Hd (fun W (hW : Below wr.heap.size wr W) => HI.out q hqm W (HBr.out.trans (hW.mono HBr.out.size)))
    have hbq := HBd.out q hqm
    have hS1 := sum_step hq (fun q => (bel q).1)
    have hS2 := sum_step hq (fun q => (bel q).2)
    have hU1 := sum_bd (f := fun q => (bel q).1) (m := 100000000) (by decide) (fun q hq => ⟨(HBd.out q hq).1, (HBd.out q hq).2.1⟩) hil k
    have hU2 := sum_bd (f := fun q => (bel q).2) (m := 100000) (by decide) (fun q hq => (HBd.out q hq).2.2) hil k
    have hlo := HLo.out
    have hhi := HHi.out
    obtain ⟨b1, b2, b3, b4⟩ := hbq
    unfold SpanPost at CB
    obtain ⟨y1, hy1⟩ : ∃ y, (bel q).1 = y := ⟨_, rfl⟩
    obtain ⟨y2, hy2⟩ : ∃ y, (bel q).2 = y := ⟨_, rfl⟩
    rw [hy1] at CB hS1 b1 b2
    rw [hy2] at CB hS2 b3 b4
    have HN1 := Hd (show lo + y1 = mi + ((IL.take (k + 1)).map (fun q => (bel q).1)).sum from by rw [hS1, hlo]; omega)
    have HN2 := Hd (show hi + y2 = mi * 100000 + ((IL.take (k + 1)).map (fun q => (bel q).2)).sum from by rw [hS2, hhi]; omega)
    have hw1 : IntKind.i64.wrap (lo + y1) = lo + y1 := IntWalk.i64_in _ (by omega)
    have hw2 : IntKind.i64.wrap (hi + y2) = hi + y2 := IntWalk.i64_in _ (by omega)
    have hMO : M ∉ [O] := by have := HRO.out; simp; omega
    have m0 := HK.out.cell HM4.out.c0 hMO
    have m1 := HK.out.cell HM4.out.c1 hMO
    clear hq hqm hS1 hS2 hU1 hU2 hlo hhi hy1 hy2 b1 b2 b3 b4 hMO hlb
    go_upto_region 7 with (fail)
    go_cut [9] from 28 to 33 (fun v wx => ∃ X, v = .pointer (some ⟨X, 0, none⟩) ∧ Below wr.heap.size wr wx ∧ BoxG wx X [.int .i64 y1, .int .i64 y2] ∧ wr.heap.size ≤ X)
    case first =>
     go_region_held3 (fun w' => w'.cell? ⟨M, 0, none⟩ = some (.slice pa pn pc) ∧ w'.cell? ⟨M, 1, none⟩ = some (.slice ta tn tc) ∧ w'.cell? ⟨lb, lf + k, none⟩ = some (.int .i64 q))
      ((refine keep3 ⟨m0, m1, hcq⟩ ?_; first | with_reducible apply bd0 | with_reducible apply bd1 | with_reducible exact hb5.out | with_reducible exact bd2 hb5.out _ | with_reducible exact set2_below hb5.out (Nat.le_refl _) | with_reducible exact set2_below (bd2 hb5.out _) hb5.out.size))
      (first
        | (go_at_call 74; with_reducible refine (CB.out _ (bd0 _)).mono ?_; rintro e w5 ⟨rfl, hB5⟩; have hb5 := Hd (show Below wr.heap.size wr w5 from below_on (bd0 wr) hB5 (Nat.le_refl _)); clear hB5)
        | (go_at_call 74; with_reducible refine (CB.out _ (bd1 _ _)).mono ?_; rintro e w5 ⟨rfl, hB5⟩; have hb5 := Hd (show Below wr.heap.size wr w5 from below_on (bd1 wr _) hB5 (Nat.le_refl _)); have hz := Hd (((BoxG.made wr [.int .i64 0, .int .i64 0] 32).below' (bd0 _)).below' hB5); obtain ⟨z0, z1, zf, zl⟩ := pair_facts hz.out; clear hB5))
     all_goals go_wp2_with fail
     all_goals go_meet
     all_goals first
      | exact ⟨_, rfl, bd2 hb5.out _, BoxG.made w5 [.int .i64 y1, .int .i64 y2] 32, hb5.out.size⟩
      | exact ⟨_, rfl, set2_below hb5.out (Nat.le_refl _), (hz.out.set 0 _ (by simp)).set 1 _ (by simp), Nat.le_refl _⟩
    case rest =>
    obtain ⟨X, rfl, hB6, hX, hXl⟩ := hcut
    generalize wc = w6 at *
    have HO6 := Hd (HO.out.below' hB6)
    have HK6 := Hd (HK.out.then_below hB6)
    obtain ⟨o0, o1, of, ol⟩ := pair_facts HO6.out
    obtain ⟨x0, x1, xf, xl⟩ := pair_facts hX
    have hne : X ≠ O := by have := HO.out.1; omega
    clear hB6 hX hXl m0 m1 hcq HO HK CB
    go_wp2_with fail
    exact ⟨⟨k + 1, lo + y1, hi + y2, by omega, by go_num, HN1.out, HN2.out, (HK6.out.then_set ⟨O, 0, none⟩ _ (.inl (by simp))).then_set ⟨O, 1, none⟩ _ (.inl (by simp)), (HO6.out.set 0 _ (by simp)).set 1 _ (by simp)⟩, by simp [intOf]; omega⟩
  · have hltg : ¬ (k : Int) < (il : Int) := by omega
    have hOy : ∀ y ∈ [O], y = O := fun y hy => List.mem_singleton.1 hy
    have HBr := Hd (HK.out.below_then HB4.out (fun y hy => by have := hOy y hy; have := HMe.out; have := HRO.out; omega) (Nat.le_refl _))
    have HS1r := Hd (HK.out.below_then HS4.out (fun y hy => by have := hOy y hy; have := HO1.out; omega) (Nat.le_refl _))
    have HT := Hd (show IL.take k = IL from List.take_of_length_le (by rw [HIle.out]; omega))
    have HV := Hd (show boundR oq (lo, hi) = RV from by rw [← HRV.out, HLo.out, HHi.out, HT.out])
    have hMO : M ∉ [O] := by have := HRO.out; simp; omega
    have hRO : M + 1 ∉ [O] := by have := HRO.out; simp; omega
    have m1 := HK.out.cell HM4.out.c1 hMO
    have HRr := Hd (HR4.out.keeps HK.out hRO)
    clear hOy hMO hRO hlt HT HLo HHi HRV HR4 HO4 HM4 HI HBd HL HLa
    go_upto_region 11 with (go_at_call 67; refine (CF.out _ HS1r.out).mono ?_; rintro e w6 ⟨hS0, x, hq, rfl⟩)
    have hBq := al' (Below.refl w6.heap.size w6) (.cells #[.int .i64 x.id, .int .i64 x.known, .int .u8 x.kind, .int .i64 x.loss, .int .i64 x.pack, .int .i64 x.inn, .string ⟨x.mark.toArray⟩, .string ⟨x.goods.toArray⟩, .int .i64 x.low, .int .i64 x.high, .int .i64 x.pieces, .int .i64 x.owner, .int .i64 x.count, .int .i64 x.of] 42)
    have hS := hS0.trans (hBq.mono hS0.size)
    have hbx := (BoxG.made w6 x.vals 42)
    simp only [Pa.vals] at hbx
    have HB7 := Hd (HBr.out.trans (hS.mono HBr.out.size))
    have HR7 := Hd (HRr.out.below' hS)
    have HO7 := Hd (HO.out.below' hS)
    clear hBq hS hS0 m1 CF HRr HO HBr HS1r HK
    generalize w6.alloc (.cells #[.int .i64 x.id, .int .i64 x.known, .int .u8 x.kind, .int .i64 x.loss, .int .i64 x.pack, .int .i64 x.inn, .string ⟨x.mark.toArray⟩, .string ⟨x.goods.toArray⟩, .int .i64 x.low, .int .i64 x.high, .int .i64 x.pieces, .int .i64 x.owner, .int .i64 x.count, .int .i64 x.of] 42) = w7 at *
    obtain ⟨Q, hQe⟩ : ∃ Q, w6.heap.size = Q := ⟨_, rfl⟩
    rw [hQe] at hbx ⊢
    clear hQe
    obtain ⟨c0, c1, c2, c3, c4, c5, c6, c7, c8, c9, c10, c11, c12, c13⟩ := BoxG.pa (x := x) hbx
    clear hbx c0 c1 c2 c3 c4 c5 c6 c7 c10 c11 c12 c13
    obtain ⟨o0, o1, of, ol⟩ := pair_facts HO7.out
    obtain ⟨r0, r1, rf, rl⟩ := pair_facts HR7.out
    have HM0 := Hd (show w.heap.size ≤ M + 1 from by have := HMe.out; omega)
    have hne : M + 1 ≠ O := by have := HRO.out; omega
    cases oq with
    | none =>
      have HE := Hd (show RV = (lo, hi) from HV.out.symm)
      clear hq c8 c9
      go_wp2_with fail
      obtain ⟨wf, hwf, s0, s1, sl, hBf⟩ := two_end (u := .int .i64 lo) (v := .int .i64 hi) HR7.out HB7.out HM0.out
      rw [hwf]
      exact bodyPost_ret (by simp [results, Tryz.results75, go_sem, s0, s1, sl]) rfl (show SpanPost w RV (.returned (.agg #[.int .i64 lo, .int .i64 hi])) wf from ⟨by rw [HE.out], hBf⟩)
    | some t =>
      obtain rfl : t = x := hq
      have HE := Hd (show RV = (max lo t.low, min hi t.high) from HV.out.symm)
      go_wp2_with fail
      have hR2 : BoxG ((w7.setCell ⟨O, 0, none⟩ (.int .i64 (max lo t.low))).setCell ⟨O, 1, none⟩ (.int .i64 (min hi t.high))) (M + 1) [.int .i64 0, .int .i64 0] := (HR7.out.aside hne 0 _).aside hne 1 _
      have hB2 : Below w.heap.size w ((w7.setCell ⟨O, 0, none⟩ (.int .i64 (max lo t.low))).setCell ⟨O, 1, none⟩ (.int .i64 (min hi t.high))) := (two_set HO7.out).2.2.2.below_then HB7.out (fun y hy => by have := List.mem_singleton.1 hy; have := HRO.out; have := HM0.out; omega) (Nat.le_refl _)
      obtain ⟨wf, hwf, s0, s1, sl, hBf⟩ := two_end (u := .int .i64 (max lo t.low)) (v := .int .i64 (min hi t.high)) hR2 hB2 HM0.out
      rw [hwf]
      exact bodyPost_ret (by simp [results, Tryz.results75, go_sem, s0, s1, sl]) rfl (show SpanPost w RV (.returned (.agg #[.int .i64 (max lo t.low), .int .i64 (min hi t.high)])) wf from ⟨by rw [HE.out], hBf⟩)
def Deep (ps : List Pa) : Nat → Int → Prop
 | 0, _ => False
 | d + 1, p => ∀ q ∈ insideI ps p, Deep ps d q
theorem held_r (pa : Option Addr) (pn pc : Nat) (ta : Option Addr) (tn tc : Nat) (PS TS : List Pa) (hmo : ManiOk PS TS) : ∀ (d : Nat) (pack : Int) (w : World), Deep PS d pack → Rd Pa.vals 14 w pa pn PS → Rd Pa.vals 14 w ta tn TS →
 Calls Tryz.prog 75 #[.agg #[.slice pa pn pc, .slice ta tn tc], .int .i64 pack] w (SpanPost w (heldR PS TS d pack))
 | 0, _, _, h, _, _ => h.elim
 | d + 1, pack, w, h, hp, ht => by
   have hn : pn ≤ 1000 := by have := hmo.ln; have := hp.len; omega
   refine held_step pa pn pc ta tn tc PS TS pack (belowR PS TS d) w hp ht hn (fun t ht => by have := (hmo.tt t ht).1; omega) (fun q _ => bel_bd hmo d q) (fun q hq W hW => ?_)
   exact below_of pa pn pc ta tn tc PS TS q (heldR PS TS d q) W (hp.below' hW) (ht.below' hW) (fun W2 hW2 => held_r pa pn pc ta tn tc PS TS hmo d q W2 (h q hq) ((hp.below' hW).below' hW2) ((ht.below' hW).below' hW2))
structure Well (PS TS : List Pa) : Prop where
 mo : ManiOk PS TS
 d0 : Deep PS 300 0
 dp : ∀ x ∈ PS, Deep PS 300 x.pack
 up : ∀ x ∈ PS, x.inn = 0 ∨ ∃ y ∈ PS, y.pack = x.inn
theorem Deep.more {ps : List Pa} : ∀ {d e : Nat} {p : Int}, Deep ps d p → d ≤ e → Deep ps e p
 | 0, _, _, h, _ => h.elim
 | d + 1, e, p, h, he => by
   obtain ⟨e, rfl⟩ : ∃ k, e = k + 1 := ⟨e - 1, by omega⟩
   exact fun q hq => Deep.more (h q hq) (by omega)
theorem grown_deep {ps ts : List Pa} {has : Int → Bool} : ∀ (d : Nat) (t : Tr), Grown ps ts has t → t.siz ≤ d → Deep ps d t.f.pack
 | 0, t, _, hd => by have := siz_pos t; omega
 | d + 1, .node b f ks, h, hd => by
   intro q hq
   have hpk : ks.map (fun k => k.f.pack) = insideI ps f.pack := h.pk
   have hq' : q ∈ insideI ps f.pack := hq
   rw [← hpk] at hq'
   obtain ⟨k, hk, rfl⟩ := List.mem_map.1 hq'
   have := siz_mem hk
   exact grown_deep d k (h.kids k hk).1 (by unfold Tr.siz at hd; omega)
mutual
theorem siz_sub : ∀ (t : Tr), ∀ k ∈ t.pre, k.siz ≤ t.siz
 | .node b f ks, k, hk => by simp only [Tr.pre] at hk; have := sizL_sub ks k hk; unfold Tr.siz; unfold Tr.siz at this; omega
theorem sizL_sub : ∀ (l : List Tr), ∀ k ∈ preL l, k.siz ≤ sizL l
 | [], k, hk => by simp [preL] at hk
 | x :: r, k, hk => by
   simp only [preL, List.mem_cons, List.mem_append] at hk
   unfold sizL
   rcases hk with e | hk | hk
   · rw [e]; omega
   · have := siz_sub x k hk; omega
   · have := sizL_sub r k hk; omega
end
theorem well_tree {ps ts : List Pa} (hmo : ManiOk ps ts) {t : Tr} (ht : treeT ps ts (fun _ => true) = some t) : Well ps ts := by
 obtain ⟨g1, g2, g3, g4⟩ := tree_grown ht
 obtain ⟨hl, hnd, hz⟩ := tree_parts hmo ht
 refine ⟨hmo, by rw [← g2]; exact grown_deep 300 t g1 hz, fun x hx => ?_, fun x hx => ?_⟩
 · obtain ⟨k, _, k1, k2⟩ := find_of_pack (tree_has hmo.packs ht (pack := x.pack) (by rw [hmo.packs.find hx]; rfl))
   rw [← k2]
   exact grown_deep 300 k (grown_pre t g1 k k1).1 (Nat.le_trans (siz_sub t k k1) hz)
 · obtain ⟨c, hc⟩ := tree_chain hmo.packs ht (tree_has hmo.packs ht (pack := x.pack) (by rw [hmo.packs.find hx]; rfl))
   obtain ⟨y, c', h1, h2, rfl, h3⟩ := chain_step hmo.packs hc (hmo.packs.pos x hx)
   rw [hmo.packs.find hx] at h1
   obtain rfl := Option.some.inj h1
   by_cases h0 : x.inn = 0
   · exact .inl h0
   · obtain ⟨z, _, k1, k2, _, _⟩ := chain_step hmo.packs h3 h0
     exact .inr ⟨z, k2, (ofI_mem k1).2⟩
theorem held_w (pa : Option Addr) (pn pc : Nat) (ta : Option Addr) (tn tc : Nat) (PS TS : List Pa) (hw : Well PS TS) {p : Int} (hp0 : p = 0 ∨ ∃ y ∈ PS, y.pack = p) (w : World) (hp : Rd Pa.vals 14 w pa pn PS) (ht : Rd Pa.vals 14 w ta tn TS) :
 Calls Tryz.prog 75 #[.agg #[.slice pa pn pc, .slice ta tn tc], .int .i64 p] w (SpanPost w (heldR PS TS 300 p)) := by
 refine held_r pa pn pc ta tn tc PS TS hw.mo 300 p w ?_ hp ht
 rcases hp0 with rfl | ⟨y, hy, rfl⟩
 · exact hw.d0
 · exact hw.dp y hy
theorem below_w (pa : Option Addr) (pn pc : Nat) (ta : Option Addr) (tn tc : Nat) (PS TS : List Pa) (hw : Well PS TS) {p : Int} (hp0 : p = 0 ∨ ∃ y ∈ PS, y.pack = p) (w : World) (hp : Rd Pa.vals 14 w pa pn PS) (ht : Rd Pa.vals 14 w ta tn TS) :
 Calls Tryz.prog 74 #[.agg #[.slice pa pn pc, .slice ta tn tc], .int .i64 p] w (SpanPost w (belowR PS TS 300 p)) :=
 below_of pa pn pc ta tn tc PS TS p (heldR PS TS 300 p) w hp ht (fun W hW => held_w pa pn pc ta tn tc PS TS hw hp0 W (hp.below' hW) (ht.below' hW))
set_option maxRecDepth 100000 in
set_option maxHeartbeats 8000000 in
theorem complete_r (pa : Option Addr) (pn pc : Nat) (ta : Option Addr) (tn tc : Nat) (PS TS : List Pa) (hw : Well PS TS) (w : World) (hp : Rd Pa.vals 14 w pa pn PS) (ht : Rd Pa.vals 14 w ta tn TS) :
 Calls Tryz.prog 39 #[.agg #[.slice pa pn pc, .slice ta tn tc]] w fun e w' => e = .returned (.bool (completeR PS TS 300)) ∧ Below w.heap.size w w' := by
 have hM := ManR.box pc tc hp ht 70
 have hB := al' (Below.refl w.heap.size w) (.cells #[.slice pa pn pc, .slice ta tn tc] 70)
 have HM := Hd hM
 have HB1 := Hd hB
 have Hpl := Hd hp.len
 have HW := Hd hw
 have hn : pn ≤ 1000 := by have := hw.mo.ln; have := hp.len; omega
 clear hM hB hp ht hw
 obtain ⟨RV, hRV⟩ : ∃ p, completeR PS TS 300 = p := ⟨_, rfl⟩
 rw [hRV]
 have HRV := Hd hRV
 clear hRV
 go_enter Tryz.func39, Tryz.ntmps39
 go_upto_region 1 with (fail)
 generalize w.alloc (.cells #[.slice pa pn pc, .slice ta tn tc] 70) = w1 at *
 obtain ⟨M, hMe⟩ : ∃ M, w.heap.size = M := ⟨_, rfl⟩
 have HMe := Hd hMe
 rw [hMe] at HM ⊢
 clear hMe
 go_wp2_with fail
 go_loopw [3] (fun i wr => ∃ k : Nat, k ≤ pn ∧ i = .int .i64 k ∧ (PS.take k).all (fun x => decide ((belowR PS TS 300 x.pack).1 ≤ (belowR PS TS 300 x.pack).2)) = true ∧ Below w1.heap.size w1 wr) (fun i _ => pn - (intOf i).toNat)
 case atStart => exact ⟨0, Nat.zero_le _, rfl, rfl, Below.refl _ _⟩
 case round =>
  obtain ⟨k, hk, rfl, hall, hB⟩ := hrel
  have HA := Hd hall
  have HB := Hd hB
  have HMr := Hd (HM.out.below' hB)
  have m0 := HMr.out.c0
  have m1 := HMr.out.c1
  clear hall hB
  by_cases hlt : k < pn
  · have hlt' : (k : Int) < (pn : Int) := by omega
    obtain ⟨b, off, x, hpa, hb, hx, c0, c1, c2, c3, c4, c5, c6, c7, c8, c9, c10, c11, c12, c13⟩ := HMr.out.rp.pa hlt
    have Hx := Hd hx
    have CB := Hd (fun W (hW : Below wr.heap.size wr W) => below_w pa pn pc ta tn tc PS TS HW.out (p := x.pack) (.inr ⟨x, List.mem_of_getElem? hx, rfl⟩) W (HMr.out.rp.below' hW) (HMr.out.rt.below' hW))
    clear hx c0 c1 c2 c3 c5 c6 c7 c8 c9 c10 c11 c12 c13 hb
    unfold SpanPost at CB
    subst hpa
    obtain ⟨y1, hy1⟩ : ∃ y, (belowR PS TS 300 x.pack).1 = y := ⟨_, rfl⟩
    obtain ⟨y2, hy2⟩ : ∃ y, (belowR PS TS 300 x.pack).2 = y := ⟨_, rfl⟩
    rw [hy1, hy2] at CB
    have HY1 := Hd hy1
    have HY2 := Hd hy2
    clear hy1 hy2
    go_upto_region 4 with (fail)
    go_cut [4] from 13 to 20 (fun v wx => ∃ X, v = .pointer (some ⟨X, 0, none⟩) ∧ Below wr.heap.size wr wx ∧ BoxG wx X [.int .i64 y1, .int .i64 y2] ∧ wr.heap.size ≤ X)
    case first =>
     go_region_held3 (fun w' => w'.cell? ⟨M, 0, none⟩ = some (.slice (some ⟨b, off, none⟩) pn pc) ∧ w'.cell? ⟨M, 1, none⟩ = some (.slice ta tn tc) ∧ w'.cell? ⟨b, off + k * 14 + 4, none⟩ = some (.int .i64 x.pack))
      ((refine keep3 ⟨m0, m1, c4⟩ ?_; first | with_reducible apply bd0 | with_reducible apply bd1 | with_reducible exact hb5.out | with_reducible exact bd2 hb5.out _ | with_reducible exact set2_below hb5.out (Nat.le_refl _) | with_reducible exact set2_below (bd2 hb5.out _) hb5.out.size))
      (first
        | (go_at_call 74; with_reducible refine (CB.out _ (bd0 _)).mono ?_; rintro e w5 ⟨rfl, hB5⟩; have hb5 := Hd (show Below wr.heap.size wr w5 from below_on (bd0 wr) hB5 (Nat.le_refl _)); clear hB5)
        | (go_at_call 74; with_reducible refine (CB.out _ (bd1 _ _)).mono ?_; rintro e w5 ⟨rfl, hB5⟩; have hb5 := Hd (show Below wr.heap.size wr w5 from below_on (bd1 wr _) hB5 (Nat.le_refl _)); have hz := Hd (((BoxG.made wr [.int .i64 0, .int .i64 0] 32).below' (bd0 _)).below' hB5); obtain ⟨z0, z1, zf, zl⟩ := pair_facts hz.out; clear hB5))
     all_goals go_wp2_with fail
     all_goals go_meet
     all_goals first
      | exact ⟨_, rfl, bd2 hb5.out _, BoxG.made w5 [.int .i64 y1, .int .i64 y2] 32, hb5.out.size⟩
      | exact ⟨_, rfl, set2_below hb5.out (Nat.le_refl _), (hz.out.set 0 _ (by simp)).set 1 _ (by simp), Nat.le_refl _⟩
    case rest =>
    obtain ⟨X, rfl, hB6, hX, hXl⟩ := hcut
    generalize wc = w6 at *
    have HB6 := Hd (HB.out.trans (hB6.mono HB.out.size))
    obtain ⟨x0, x1, xf, xl⟩ := pair_facts hX
    clear hB6 hX hXl m0 m1 c4 CB
    by_cases hgt : y2 < y1
    · have hgt' : decide (y2 < y1) = true := decide_eq_true hgt
      have HE := Hd (show RV = false from by
       rw [← HRV.out]; unfold completeR
       rw [all_no Hx.out (decide_eq_false (by rw [HY1.out, HY2.out]; omega))]; rfl)
      go_wp2_with fail
      go_ret
      exact ⟨by rw [HE.out] <;> rfl, HB1.out.trans (HB6.out.mono HB1.out.size)⟩
    · have hgt' : decide (y2 < y1) = false := decide_eq_false hgt
      have HN := Hd (take_all_snoc (p := fun x => decide ((belowR PS TS 300 x.pack).1 ≤ (belowR PS TS 300 x.pack).2)) Hx.out HA.out (decide_eq_true (by rw [HY1.out, HY2.out]; omega)))
      go_wp2_with fail
      exact ⟨⟨k + 1, by omega, by go_num, HN.out, HB6.out⟩, by simp [intOf]; omega⟩
  · have hltg : ¬ (k : Int) < (pn : Int) := by omega
    have HT := Hd (show RV = decide ((heldR PS TS 300 0).1 ≤ (heldR PS TS 300 0).2) from by
     have := HA.out
     rw [List.take_of_length_le (by rw [Hpl.out]; omega)] at this
     rw [← HRV.out]; unfold completeR; rw [this]; rfl)
    have CH := Hd (held_w pa pn pc ta tn tc PS TS HW.out (p := 0) (.inl rfl) wr HMr.out.rp HMr.out.rt)
    unfold SpanPost at CH
    obtain ⟨y1, hy1⟩ : ∃ y, (heldR PS TS 300 0).1 = y := ⟨_, rfl⟩
    obtain ⟨y2, hy2⟩ : ∃ y, (heldR PS TS 300 0).2 = y := ⟨_, rfl⟩
    rw [hy1, hy2] at CH HT
    have HB0 := Hd (HB1.out.trans (HB.out.mono HB1.out.size))
    clear hlt HA HM HB HB1 hy1 hy2
    go_upto_region 8 with (go_at_call 75; refine CH.out.mono ?_; rintro e w4 ⟨rfl, hS4⟩)
    have hb5 := BoxG.made w4 [.int .i64 y1, .int .i64 y2] 32
    have hS5 := hS4.trans ((al' (Below.refl w4.heap.size w4) (.cells #[.int .i64 y1, .int .i64 y2] 32)).mono hS4.size)
    have HB5 := Hd (HB0.out.trans (hS5.mono HB0.out.size))
    clear hS4 hS5
    generalize w4.alloc (.cells #[.int .i64 y1, .int .i64 y2] 32) = w5 at *
    obtain ⟨K, hKe⟩ : ∃ K, w4.heap.size = K := ⟨_, rfl⟩
    rw [hKe] at hb5 ⊢
    clear hKe
    obtain ⟨k0, k1, kf, kl⟩ := pair_facts hb5
    go_wp2_with fail
    go_ret
    exact ⟨by rw [HT.out] <;> rfl, HB5.out⟩
def RightPost (w : World) (PS TS : List Pa) (E : Int) (e : Ending) (w' : World) : Prop :=
 ∃ pa pn pc ta tn tc, e = .returned (.tuple #[.agg #[.slice pa pn pc, .slice ta tn tc], .int .i64 E]) ∧ Below w.heap.size w w' ∧ (E = 0 → pn ≤ 201 ∧ tn ≤ 201 ∧ Rd Pa.vals 14 w' pa pn PS ∧ Rd Pa.vals 14 w' ta tn TS ∧ (∀ p, pa = some p → w.heap.size < p.block) ∧ ∀ p, ta = some p → w.heap.size < p.block)
set_option maxRecDepth 100000 in
set_option maxHeartbeats 8000000 in
theorem right_r (a : Option Addr) (n cap : Nat) (xs : List Pa) (hs : ∀ x ∈ xs, x.Short) (known loss : Int) (pack : Int) (w : World) (h : Rd Pa.vals 14 w a n xs) (hcap : n ≤ cap) (hn : n ≤ 100000) :
 Calls Tryz.prog 29 #[.slice a n cap, .int .i64 known, .int .i64 loss, .int .i64 pack] w (RightPost w (papersO xs known loss) (totalsO xs known loss) (treeE (missE xs known loss pack) (papersO xs known loss) (totalsO xs known loss))) := by
 have hB0 := al' (Below.refl w.heap.size w) (.cells #[.slice none 0 0, .slice none 0 0] 70)
 have hb0 := BoxG.made w [.slice none 0 0, .slice none 0 0] 70
 have HB1 := Hd hB0
 have HR1 := Hd hb0
 have CA := Hd (fun W (hW : Below w.heap.size w W) => asked_any a n cap xs hs loss W (h.below' hW) hcap)
 have CP := Hd (fun W (hW : Below w.heap.size w W) => paperOf_r a n cap xs hs known loss pack W (h.below' hW) hcap hn)
 have CO := Hd (fun W (hW : Below w.heap.size w W) => of_rn a n cap xs hs known loss W (h.below' hW) hcap hn)
 have HCt := Hd (counts_ok (l := xs) (known := known) (loss := loss))
 have hpb := paperE_bad (l := xs) (known := known) (loss := loss) (pack := pack)
 unfold missE
 unfold PaperOfPost at CP
 clear h hB0 hb0
 obtain ⟨PS, hPS⟩ : ∃ P, papersO xs known loss = P := ⟨_, rfl⟩
 obtain ⟨TS, hTS⟩ : ∃ P, totalsO xs known loss = P := ⟨_, rfl⟩
 obtain ⟨PE, hPE⟩ : ∃ P, paperE xs known loss pack = P := ⟨_, rfl⟩
 obtain ⟨OE, hOE⟩ : ∃ P, openE xs loss = P := ⟨_, rfl⟩
 rw [hPS] at CO CP ⊢
 rw [hTS] at CO HCt ⊢
 rw [hPE] at CP hpb ⊢
 rw [hOE] at CA hpb ⊢
 clear hPS hTS hPE hOE
 obtain ⟨TE, hTE⟩ : ∃ P, treeE (if pack = 0 then OE else PE) PS TS = P := ⟨_, rfl⟩
 rw [hTE]
 have HVB : Hid (∀ E, (if pack = 0 then OE else PE) = E → ¬ E = 0 → TE = E) := Hd (fun E h1 h2 => by
  rw [← hTE, h1]; unfold treeE; rw [if_neg h2])
 have HVF1 : Hid ((if pack = 0 then OE else PE) = 0 → treeRB PS TS = false → TE = 11) := Hd (fun h1 h2 => by
  rw [← hTE, h1]; unfold treeE; rw [if_pos rfl, h2]; rfl)
 have HVT1 : Hid ((if pack = 0 then OE else PE) = 0 → treeRB PS TS = true → TE = 0) := Hd (fun h1 h2 => by
  rw [← hTE, h1]; unfold treeE; rw [if_pos rfl, h2]; rfl)
 have HPb := Hd hpb
 clear hTE hpb
 go_enter Tryz.func29, Tryz.ntmps29
 go_upto_region 1 with (fail)
 generalize w.alloc (.cells #[.slice none 0 0, .slice none 0 0] 70) = w1 at *
 go_wp2_with fail
 refine (CA.out _ HB1.out).mono ?_
 rintro e w2 ⟨rfl, hB2⟩
 have HB2 := Hd (HB1.out.trans (hB2.mono HB1.out.size))
 have HR2 := Hd (HR1.out.below' hB2)
 clear hB2 CA HR1 HB1
 by_cases h0 : OE = 0
 case neg =>
  have h1 : (OE == 0) = false := by simp [h0]
  have h2 : (OE != 0) = true := by simp [h0]
  have HV := Hd (HVB.out OE (by split <;> first | rfl | exact HPb.out h0) h0)
  have HN := Hd h0
  have HRr := HR2
  obtain ⟨r0, r1, rf, rl⟩ := pair_facts HRr.out
  clear h0
  go_wp2_with fail
  obtain ⟨wf, hwf, s0, s1, sl, hBf⟩ := two_end (u := .slice none 0 0) (v := .slice none 0 0) HRr.out HB2.out (Nat.le_refl _)
  rw [hwf]
  exact bodyPost_ret (by simp [results, Tryz.results29, go_sem, s0, s1, sl]) rfl (show RightPost w PS TS TE (.returned (.tuple #[.agg #[.slice none 0 0, .slice none 0 0], .int .i64 OE])) wf from ⟨_, _, _, _, _, _, by rw [HV.out], hBf, fun e => absurd (HV.out.symm.trans e) HN.out⟩)
 case pos =>
  subst h0
  by_cases hp : pack = 0
  · have hp1 : (pack != 0) = false := by simp [hp]
    have HVF := Hd (HVF1.out (by rw [if_pos hp]))
    have HVT := Hd (HVT1.out (by rw [if_pos hp]))
    have HBt := HB2
    have HR3 := HR2
    clear hp
    go_upto_region 7 with (go_at_call 64; refine (CO.out _ HBt.out).mono ?_; rintro e w4 ⟨pa, pn, pc, ta, tn, tc, rfl, hpn, htn, hrp, hrt, hB4, hnp, hnt⟩)
    have HPn := Hd (show ∀ p, pa = some p → 0 < pn → p.block ≠ w.heap.size from fun p e h0 => by have h1 := hnp p e; have h2 := HBt.out.size; have h3 := HR3.out.1; omega)
    have HTn := Hd (show ∀ p, ta = some p → 0 < tn → p.block ≠ w.heap.size from fun p e h0 => by have h1 := hnt p e; have h2 := HBt.out.size; have h3 := HR3.out.1; omega)
    have HNp := Hd (show ∀ p, pa = some p → w.heap.size < p.block from fun p e => by have h1 := hnp p e; have h2 := HBt.out.size; omega)
    have HNt := Hd (show ∀ p, ta = some p → w.heap.size < p.block from fun p e => by have h1 := hnt p e; have h2 := HBt.out.size; omega)
    clear hnp hnt
    have hM := ManR.box pc tc hrp hrt 70
    have hBm := al' (Below.refl w4.heap.size w4) (.cells #[.slice pa pn pc, .slice ta tn tc] 70)
    have hS4 := hB4.trans (hBm.mono hB4.size)
    have HB5 := Hd (HBt.out.trans (hS4.mono HBt.out.size))
    have HR5 := Hd (HR3.out.below' hS4)
    have HM := Hd hM
    clear hrp hrt hB4 hBm hM hS4
    generalize w4.alloc (.cells #[.slice pa pn pc, .slice ta tn tc] 70) = w5 at *
    obtain ⟨M, hM⟩ : ∃ M, w4.heap.size = M := ⟨_, rfl⟩
    rw [hM] at HM ⊢
    clear hM
    have m0 := HM.out.c0
    have m1 := HM.out.c1
    have CT := Hd (tree_r pa pn pc ta tn tc PS TS w5 HM.out.rp HM.out.rt (by omega) (by omega) HCt.out)
    obtain ⟨tb, htb⟩ : ∃ b, treeRB PS TS = b := ⟨_, rfl⟩
    rw [htb] at CT
    have HTb := Hd htb
    clear htb
    go_wp2_with fail
    refine CT.out.mono ?_
    rintro e w6 ⟨rfl, hB6⟩
    have HB6 := Hd (HB5.out.trans (hB6.mono HB5.out.size))
    have HM6 := Hd (HM.out.below' hB6)
    have HRr := Hd (HR5.out.below' hB6)
    clear m0 m1 hB6 CT HM HR5
    obtain ⟨r0, r1, rf, rl⟩ := pair_facts HRr.out
    cases tb with
    | false =>
      have HV := Hd (HVF.out HTb.out)
      go_wp2_with fail
      obtain ⟨wf, hwf, s0, s1, sl, hBf⟩ := two_end (u := .slice none 0 0) (v := .slice none 0 0) HRr.out HB6.out (Nat.le_refl _)
      rw [hwf]
      exact bodyPost_ret (by simp [results, Tryz.results29, go_sem, s0, s1, sl]) rfl (show RightPost w PS TS TE (.returned (.tuple #[.agg #[.slice none 0 0, .slice none 0 0], .int .i64 11])) wf from ⟨_, _, _, _, _, _, by rw [HV.out], hBf, fun e => absurd (HV.out.symm.trans e) (by decide)⟩)
    | true =>
      have HV := Hd (HVT.out HTb.out)
      have m0 := HM6.out.c0
      have m1 := HM6.out.c1
      have HPl := Hd (show pn ≤ 201 ∧ tn ≤ 201 from ⟨hpn, htn⟩)
      go_wp2_with fail
      have hsk := (two_set (u := .slice pa pn pc) (v := .slice ta tn tc) HRr.out).2.2.2
      have HRp := Hd (fun wf (e : (w6.setCell ⟨w.heap.size, 0, none⟩ (.slice pa pn pc)).setCell ⟨w.heap.size, 1, none⟩ (.slice ta tn tc) = wf) => (show Rd Pa.vals 14 wf pa pn PS from by rw [← e]; exact hsk.rd HM6.out.rp (fun h0 p e2 hm => HPn.out p e2 h0 (List.mem_singleton.1 hm))))
      have HRt := Hd (fun wf (e : (w6.setCell ⟨w.heap.size, 0, none⟩ (.slice pa pn pc)).setCell ⟨w.heap.size, 1, none⟩ (.slice ta tn tc) = wf) => (show Rd Pa.vals 14 wf ta tn TS from by rw [← e]; exact hsk.rd HM6.out.rt (fun h0 p e2 hm => HTn.out p e2 h0 (List.mem_singleton.1 hm))))
      obtain ⟨wf, hwf, s0, s1, sl, hBf⟩ := two_end (u := .slice pa pn pc) (v := .slice ta tn tc) HRr.out HB6.out (Nat.le_refl _)
      rw [hwf]
      exact bodyPost_ret (by simp [results, Tryz.results29, go_sem, s0, s1, sl]) rfl (show RightPost w PS TS TE (.returned (.tuple #[.agg #[.slice pa pn pc, .slice ta tn tc], .int .i64 0])) wf from ⟨_, _, _, _, _, _, by rw [HV.out], hBf, fun _ => ⟨HPl.out.1, HPl.out.2, HRp.out wf hwf, HRt.out wf hwf, HNp.out, HNt.out⟩⟩)
  · have hp1 : (pack != 0) = true := by simp [hp]
    have Hp := Hd hp
    clear hp
    go_wp2_with fail
    refine (CP.out _ HB2.out).mono ?_
    rintro e w3 ⟨hS0, q, _, rfl⟩
    have HBt := Hd (HB2.out.trans (hS0.mono HB2.out.size))
    have HR3 := Hd (HR2.out.below' hS0)
    clear hS0 CP
    by_cases h0 : PE = 0
    case neg =>
     have h1 : (PE != 0) = true := by simp [h0]
     have HV := Hd (HVB.out PE (by rw [if_neg Hp.out]) h0)
     have HN := Hd h0
     have HRr := HR3
     obtain ⟨r0, r1, rf, rl⟩ := pair_facts HRr.out
     clear h0
     go_wp2_with fail
     obtain ⟨wf, hwf, s0, s1, sl, hBf⟩ := two_end (u := .slice none 0 0) (v := .slice none 0 0) HRr.out HBt.out (Nat.le_refl _)
     rw [hwf]
     exact bodyPost_ret (by simp [results, Tryz.results29, go_sem, s0, s1, sl]) rfl (show RightPost w PS TS TE (.returned (.tuple #[.agg #[.slice none 0 0, .slice none 0 0], .int .i64 PE])) wf from ⟨_, _, _, _, _, _, by rw [HV.out], hBf, fun e => absurd (HV.out.symm.trans e) HN.out⟩)
    case pos =>
     subst h0
     have HVF := Hd (HVF1.out (by rw [if_neg Hp.out]))
     have HVT := Hd (HVT1.out (by rw [if_neg Hp.out]))
     go_upto_region 7 with (go_at_call 64; refine (CO.out _ HBt.out).mono ?_; rintro e w4 ⟨pa, pn, pc, ta, tn, tc, rfl, hpn, htn, hrp, hrt, hB4, hnp, hnt⟩)
     have HPn := Hd (show ∀ p, pa = some p → 0 < pn → p.block ≠ w.heap.size from fun p e h0 => by have h1 := hnp p e; have h2 := HBt.out.size; have h3 := HR3.out.1; omega)
     have HTn := Hd (show ∀ p, ta = some p → 0 < tn → p.block ≠ w.heap.size from fun p e h0 => by have h1 := hnt p e; have h2 := HBt.out.size; have h3 := HR3.out.1; omega)
     have HNp := Hd (show ∀ p, pa = some p → w.heap.size < p.block from fun p e => by have h1 := hnp p e; have h2 := HBt.out.size; omega)
     have HNt := Hd (show ∀ p, ta = some p → w.heap.size < p.block from fun p e => by have h1 := hnt p e; have h2 := HBt.out.size; omega)
     clear hnp hnt
     have hM := ManR.box pc tc hrp hrt 70
     have hBm := al' (Below.refl w4.heap.size w4) (.cells #[.slice pa pn pc, .slice ta tn tc] 70)
     have hS4 := hB4.trans (hBm.mono hB4.size)
     have HB5 := Hd (HBt.out.trans (hS4.mono HBt.out.size))
     have HR5 := Hd (HR3.out.below' hS4)
     have HM := Hd hM
     clear hrp hrt hB4 hBm hM hS4
     generalize w4.alloc (.cells #[.slice pa pn pc, .slice ta tn tc] 70) = w5 at *
     obtain ⟨M, hM⟩ : ∃ M, w4.heap.size = M := ⟨_, rfl⟩
     rw [hM] at HM ⊢
     clear hM
     have m0 := HM.out.c0
     have m1 := HM.out.c1
     have CT := Hd (tree_r pa pn pc ta tn tc PS TS w5 HM.out.rp HM.out.rt (by omega) (by omega) HCt.out)
     obtain ⟨tb, htb⟩ : ∃ b, treeRB PS TS = b := ⟨_, rfl⟩
     rw [htb] at CT
     have HTb := Hd htb
     clear htb
     go_wp2_with fail
     refine CT.out.mono ?_
     rintro e w6 ⟨rfl, hB6⟩
     have HB6 := Hd (HB5.out.trans (hB6.mono HB5.out.size))
     have HM6 := Hd (HM.out.below' hB6)
     have HRr := Hd (HR5.out.below' hB6)
     clear m0 m1 hB6 CT HM HR5
     obtain ⟨r0, r1, rf, rl⟩ := pair_facts HRr.out
     cases tb with
     | false =>
       have HV := Hd (HVF.out HTb.out)
       go_wp2_with fail
       obtain ⟨wf, hwf, s0, s1, sl, hBf⟩ := two_end (u := .slice none 0 0) (v := .slice none 0 0) HRr.out HB6.out (Nat.le_refl _)
       rw [hwf]
       exact bodyPost_ret (by simp [results, Tryz.results29, go_sem, s0, s1, sl]) rfl (show RightPost w PS TS TE (.returned (.tuple #[.agg #[.slice none 0 0, .slice none 0 0], .int .i64 11])) wf from ⟨_, _, _, _, _, _, by rw [HV.out], hBf, fun e => absurd (HV.out.symm.trans e) (by decide)⟩)
     | true =>
       have HV := Hd (HVT.out HTb.out)
       have m0 := HM6.out.c0
       have m1 := HM6.out.c1
       have HPl := Hd (show pn ≤ 201 ∧ tn ≤ 201 from ⟨hpn, htn⟩)
       go_wp2_with fail
       have hsk := (two_set (u := .slice pa pn pc) (v := .slice ta tn tc) HRr.out).2.2.2
       have HRp := Hd (fun wf (e : (w6.setCell ⟨w.heap.size, 0, none⟩ (.slice pa pn pc)).setCell ⟨w.heap.size, 1, none⟩ (.slice ta tn tc) = wf) => (show Rd Pa.vals 14 wf pa pn PS from by rw [← e]; exact hsk.rd HM6.out.rp (fun h0 p e2 hm => HPn.out p e2 h0 (List.mem_singleton.1 hm))))
       have HRt := Hd (fun wf (e : (w6.setCell ⟨w.heap.size, 0, none⟩ (.slice pa pn pc)).setCell ⟨w.heap.size, 1, none⟩ (.slice ta tn tc) = wf) => (show Rd Pa.vals 14 wf ta tn TS from by rw [← e]; exact hsk.rd HM6.out.rt (fun h0 p e2 hm => HTn.out p e2 h0 (List.mem_singleton.1 hm))))
       obtain ⟨wf, hwf, s0, s1, sl, hBf⟩ := two_end (u := .slice pa pn pc) (v := .slice ta tn tc) HRr.out HB6.out (Nat.le_refl _)
       rw [hwf]
       exact bodyPost_ret (by simp [results, Tryz.results29, go_sem, s0, s1, sl]) rfl (show RightPost w PS TS TE (.returned (.tuple #[.agg #[.slice pa pn pc, .slice ta tn tc], .int .i64 0])) wf from ⟨_, _, _, _, _, _, by rw [HV.out], hBf, fun _ => ⟨HPl.out.1, HPl.out.2, HRp.out wf hwf, HRt.out wf hwf, HNp.out, HNt.out⟩⟩)
theorem linked_in {ps : List Pa} : ∀ {L : List Int} {i : Int}, Linked ps i L → ∀ q ∈ L, ∃ x ∈ ps, x.pack = q
 | [], _, _, q, hq => by simp at hq
 | p :: r, i, h, q, hq => by
   rcases List.mem_cons.1 hq with rfl | hq
   · obtain ⟨x, hx, _, e⟩ := inside_mem h.1
     exact ⟨x, hx, e⟩
   · exact linked_in h.2 q hq
theorem way_plain {ps ts : List Pa} (hmo : ManiOk ps ts) {has : Int → Bool} {t : Tr} (ht : treeT ps ts has = some t) {pack : Int} (hk : (ofI ps pack).isSome = true) :
 wayR ps 201 pack [] = some (pathP ps 300 pack []) ∧ (∀ q ∈ pathP ps 300 pack [], ∃ x ∈ ps, x.pack = q) ∧ 0 < (pathP ps 300 pack []).length := by
 obtain ⟨c, hc⟩ := tree_chain hmo.packs ht (tree_has hmo.packs ht hk)
 have hl := hc.len hmo.packs
 simp only [List.length_cons] at hl
 have hln := hmo.ln
 have hp0 : pack ≠ 0 := by
  intro e
  obtain ⟨x, hx⟩ := Option.isSome_iff_exists.1 hk
  obtain ⟨h1, h2⟩ := ofI_mem hx
  have := (hmo.pp x h1).1
  omega
 obtain ⟨h1, pre, h2⟩ := path_last hmo.packs hc hp0 (by omega)
 exact ⟨chain_way hmo.packs 201 300 pack c [] hc (by omega) (by omega), linked_in h1, by rw [h2]; simp⟩
theorem weigh_plain {xs : List Pa} {known loss pack : Int} (h : rootE xs known loss (hasP xs known loss pack) = 0) :
 Well (papersO xs known loss) (totalsO xs known loss) ∧ weighE xs known loss (hasP xs known loss pack) = (if completeR (papersO xs known loss) (totalsO xs known loss) 300 = true then 0 else 10) ∧
 ∃ WAY, wayR (papersO xs known loss) 201 pack [] = some WAY ∧ (∀ q ∈ WAY, ∃ x ∈ papersO xs known loss, x.pack = q) ∧ 0 < WAY.length ∧ (completeR (papersO xs known loss) (totalsO xs known loss) 300 = true → endsW (papersO xs known loss) (totalsO xs known loss) 300 WAY = weighP xs known loss pack) := by
 obtain ⟨h0, hh, t, ht⟩ := rootE_zero h
 have hmo := mani_ok (check_good (open_check h0)).1 known loss
 have ht' : treeT (papersL xs known loss) (totalsL xs known loss) (fun _ => true) = some t := ht
 obtain ⟨p1, p2⟩ := open_some (known := known) h0
 rw [p1, p2]
 obtain ⟨w1, w2, w3⟩ := way_plain hmo ht' hh
 have hci := complete_iff hmo ht'
 refine ⟨well_tree hmo ht', ?_, _, w1, w2, w3, fun hc => ?_⟩
 · unfold weighE
   rw [if_pos h, ht]
   simp only [Option.bind_some, hci]
 · rw [hc] at hci
   obtain ⟨s, hs⟩ := Option.isSome_iff_exists.1 hci
   rw [ends_is hmo ht' hs hh]
   unfold weighP
   rw [ht]
   simp only [Option.bind_some, hs]
theorem right0_E (xs : List Pa) (known loss : Int) : treeE (missE xs known loss 0) (papersO xs known loss) (totalsO xs known loss) = rootE xs known loss true := by
 rw [← rootM_is]
 unfold missB
 simp
end Go.Proofs.YtehplmeckfinoaaGreatDoor
