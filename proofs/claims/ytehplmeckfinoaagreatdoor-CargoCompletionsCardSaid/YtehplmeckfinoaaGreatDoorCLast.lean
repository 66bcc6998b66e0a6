/- The walk of last. -/
import Derived.Test.YtehplmeckfinoaaGreatDoorCLastM
import Derived.Sort.CutIn
set_option linter.unusedSimpArgs false
set_option linter.unusedVariables false
namespace Go.Proofs.YtehplmeckfinoaaGreatDoor
open Go.RowKit Go.Shelf
open Go.Maps (Keyed)
attribute [local go_sem] Oper.semAt_some
set_option maxRecDepth 100000 in
set_option maxHeartbeats 8000000 in
theorem last_in (a : Option Addr) (n cap : Nat) (xs : List Pa) (hs : ∀ x ∈ xs, I64 x.of ∧ I64 x.id ∧ 0 ≤ x.pack ∧ x.pack ≤ 200) (known loss : Int) (w : World) (h : Rd Pa.vals 14 w a n xs) (hn : n ≤ 1000) :
 CallsIn Fence.wide 5 Tryz.prog 101 #[.slice a n cap, .int .i64 known, .int .i64 loss] w (ManiPost w (papersL xs known loss) (totalsL xs known loss)) := by
 obtain ⟨i0, hi, hz0, hz1, hz2⟩ := info_parts info_pa
 have hmm := @run_makeMap Tryz.prog
 have H := Hd h
 have hlow0 : 0 < n → ∀ p, a = some p → p.block < w.heap.size := fun hn0 p e => by
  obtain ⟨b, off, x, ha, hb, _⟩ := h.read 0 (by omega)
  rw [e] at ha; cases ha; exact hb
 have HLow := Hd hlow0
 clear h hlow0
 refine callsIn_of_wp_marks Tryz.func101 rfl trivial ?_ rfl
 simp only [Tryz.ntmps101, List.size_toArray, List.length_cons, List.length_nil, Nat.reduceAdd, Nat.reduceSub, Array.replicate_succ, Array.replicate_zero, List.push_toArray, List.append_toArray, List.nil_append, List.cons_append]
 obtain ⟨k5, kr, km, kf, hB0, hs0⟩ := last_made loss w
 have CC := Hd (counting_any a n cap xs (fun x hx => (hs x hx).1) known ((((w.alloc (.cells #[.int .i64 loss] 3)).alloc (.cells #[.slice none 0 0, .slice none 0 0] 62)).alloc (.map #[] 0)).alloc (.cells #[.map (some (w.heap.size + 1 + 1))] 162)) (H.out.below' hB0) hn)
 have HMade := Hd (And.intro k5 (And.intro kr (And.intro km (And.intro kf (And.intro hB0 hs0)))))
 clear k5 kr km kf hB0 hs0
 gi_wp2_with (refine ⟨trivial, ?_⟩; gi_at_call 123; refine (callsIn_wide.2 CC.out).mono ?_; rintro e w1 ⟨hB1, B1, B2, B3, bm, rfl, hc, f1, f2, f3, f4⟩)
 obtain ⟨k5, kr, km, kf, hB0, hs0⟩ := HMade.out
 clear hmm CC HMade
 generalize ((((w.alloc (.cells #[.int .i64 loss] 3)).alloc (.cells #[.slice none 0 0, .slice none 0 0] 62)).alloc (.map #[] 0)).alloc (.cells #[.map (some (w.heap.size + 1 + 1))] 162)) = W0 at *
 have h5 := cell_stays k5 hB1
 have hr1 := BoxG.below' kr hB1
 have hm1 := km.below' hB1
 have hf1 := cell_stays kf hB1
 have hB01 : Below w.heap.size w w1 := hB0.trans (hB1.mono hB0.size)
 have hR1 := H.out.below' hB01
 obtain ⟨B5, e5⟩ : ∃ B, w.heap.size = B := ⟨_, rfl⟩
 obtain ⟨Br, e6⟩ : ∃ B, w.heap.size + 1 = B := ⟨_, rfl⟩
 obtain ⟨b2, e7⟩ : ∃ B, w.heap.size + 1 + 1 = B := ⟨_, rfl⟩
 obtain ⟨Bf, e8⟩ : ∃ B, w.heap.size + 1 + 1 + 1 = B := ⟨_, rfl⟩
 have hsz := hB1.size
 have HO := Hd (show w.heap.size = B5 ∧ B5 < Br ∧ Br < b2 ∧ b2 < Bf ∧ Bf < w1.heap.size ∧ Bf < B1 ∧ Bf < B2 ∧ Bf < B3 ∧ Bf < bm from by omega)
 rw [e8, e7] at hf1 ⊢
 rw [e7] at hm1
 rw [e6] at hr1 ⊢
 rw [e5] at h5 ⊢
 clear k5 kr km kf hB0 hs0 e5 e6 e7 e8 hsz
 have HM1 := Hd hm1
 have H5 := Hd h5
 have HR1 := Hd hr1
 have HF1 := Hd hf1
 have HB01 := Hd hB01
 have HRd := Hd hR1
 clear hm1 h5 hr1 hf1 hB01 hR1 hB1 f1 f2 f3 f4
 have ho := HO.out
 refine wpIn_rangeFunc_ownH rfl (by omega) (gf := 138) (lb := #[.pointer (some ⟨B1, 0, none⟩), .pointer (some ⟨B2, 0, none⟩), .pointer (some ⟨B3, 0, none⟩)]) rfl trivial (enters_of Tryz.func138 (by kernel_rfl) rfl)
  (counting_stops b2 4 (by omega) B1 B2 B3 bm a n cap xs (fun x hx => (hs x hx).2.1) known w1 hc HRd.out (fun hn0 p e => by have := HLow.out hn0 p e; omega) (by omega) (by omega) (by omega) (by omega) (by omega))
  But.trans (fun W l o o' h1 h2 h3 h4 => Below.but (belowK_b (Nat.le_refl _) W l o o' h1 h2 h3 h4)) (Below.refl _ _) (fun _ => rfl)
  (fun pre W => MapT Tryz.prog 166 kKey vPa W b2 (foundL (pre.map (·.1)) loss) ∧ But b2 w1.heap.size w1 W)
  (fun _ _ _ => False)
  (OwnFrom.and (own_found (by omega)) (ownFrom_but (Nat.le_refl _)))
  (fun _ _ _ _ _ hs _ _ => hs)
  ⟨HM1.out, But.refl _ _ _⟩
  (fun x a' W => ∃ Bx, w1.heap.size ≤ Bx ∧ W.heap[Bx]? = some (.cells #[.int .i64 x.1.id, .int .i64 x.1.known, .int .u8 x.1.kind, .int .i64 x.1.loss, .int .i64 x.1.pack, .int .i64 x.1.inn, .string ⟨x.1.mark.toArray⟩, .string ⟨x.1.goods.toArray⟩, .int .i64 x.1.low, .int .i64 x.1.high, .int .i64 x.1.pieces, .int .i64 x.1.owner, .int .i64 x.1.count, .int .i64 x.1.of] 42 (0, 0)) ∧
    a' = { tmps := (.slice a n cap :: .int .i64 known :: .int .i64 loss :: undef :: undef :: .pointer (some ⟨B5, 0, none⟩) :: .pointer (some ⟨Br, 0, none⟩) :: .pointer (some ⟨Bf, 0, none⟩) :: .pointer (some ⟨Bx, 0, none⟩) :: undef :: undef :: undef :: undef :: undef :: undef :: .map (some b2) :: .slice a n cap :: .int .i64 known :: .func (.func 138) #[] #[.pointer (some ⟨B1, 0, none⟩), .pointer (some ⟨B2, 0, none⟩), .pointer (some ⟨B3, 0, none⟩)] :: vPa x.1 :: undef :: undef :: undef :: undef :: undef :: undef :: undef :: undef :: undef :: undef :: undef :: undef :: undef :: undef :: undef :: undef :: undef :: undef :: undef :: undef :: undef :: undef :: undef :: undef :: undef :: undef :: undef :: undef :: undef :: undef :: undef :: undef :: undef :: undef :: undef :: undef :: undef :: undef :: undef :: undef :: undef :: undef :: undef :: undef :: undef :: undef :: undef :: undef :: undef :: undef :: undef :: undef :: undef :: undef :: undef :: undef :: undef :: undef :: undef :: []).toArray, defers := [] })
  (fun x a' _ X Y row hs hg hr => by
    obtain ⟨Bx, h1, h2, h3⟩ := hs
    refine ⟨Bx, h1, (hg.block Bx (Array.getElem?_eq_some_iff.1 h2).1 (fun e => ?_)).trans h2, h3⟩
    obtain ⟨_, o, ho, hc⟩ := hr Bx e.symm
    rw [h2] at ho; cases ho; cases hc)
  ?assign ?body ?done ?stop
 case assign =>
  rintro l pre x W K ⟨hm, hB2⟩ hK
  unfold vPa
  gi_wp2
  exact hK _ _ ((KeepsOthers.alloc _ _).from _) (Below.but ((Below.refl _ W).alloc hB2.size _)) ⟨hm.alloc _, hB2.trans (Below.but ((Below.refl _ W).alloc hB2.size _))⟩ ⟨W.heap.size, hB2.size, heap_alloc_new W _, rfl⟩
 case body =>
  rintro l pre x a' W hl hr ⟨hm, hB2⟩ ⟨Bx, hBx, bX, rfl⟩ hlt
  have hc : ∀ i, W.cell? ⟨Bx, i, none⟩ = _ := fun i => cell_of_row _ _ i _ _ (0, 0) bX
  have q0 := hc 0
  have q1 := hc 1
  have q2 := hc 2
  have q3 := hc 3
  have q4 := hc 4
  have q5 := hc 5
  have q6 := hc 6
  have q7 := hc 7
  have q8 := hc 8
  have q9 := hc 9
  have q10 := hc 10
  have q11 := hc 11
  have q12 := hc 12
  have q13 := hc 13
  simp only [List.getElem?_toArray, List.getElem?_cons_succ, List.getElem?_cons_zero] at q0 q1 q2 q3 q4 q5 q6 q7 q8 q9 q10 q11 q12 q13
  have bl := (Array.getElem?_eq_some_iff.1 bX).1
  have d5 : W.cell? ⟨B5, 0, none⟩ = some (.int .i64 loss) := (hB2.cell (by omega) (by omega)).trans H5.out
  have dF : W.cell? ⟨Bf, 0, none⟩ = some (.map (some b2)) := (hB2.cell (by omega) (by omega)).trans HF1.out
  have e5 := World.block_lt_of_cell? _ _ d5
  have eF := World.block_lt_of_cell? _ _ dF
  have hmap : (pre ++ [x]).map (·.1) = pre.map (·.1) ++ [x.1] := by simp
  have HSn := Hd (show foundL ((pre ++ [x]).map (·.1)) loss = foundM loss (foundL (pre.map (·.1)) loss) x.1 from by rw [hmap, foundL_snoc])
  have HM := Hd hm
  have HB2 := Hd hB2
  have hx := hs x.1 x.2
  clear hc bX hr hl hm hB2 hmap
  by_cases hp : x.1.loss = loss
  · have hp1 : (x.1.loss == loss) = true := by simp [hp]
    obtain ⟨kb, hkb⟩ : ∃ b, (x.1.kind == 2) = b := ⟨_, rfl⟩
    have hkd : decide (x.1.kind = 2) = kb := by rw [← hkb]; rfl
    obtain ⟨w3, hrun, hm3, hg3, hs3⟩ := update_found HM.out (k := (x.1.pack, kb)) (by unfold I64; simp only; omega) x.1
    unfold kKey vPa at hrun
    have HM3 := Hd (show MapT Tryz.prog 166 kKey vPa w3 b2 (foundL ((pre ++ [x]).map (·.1)) loss) from by rw [HSn.out]; unfold foundM; rw [if_pos hp, hkd]; exact hm3)
    have HG3 := Hd hg3
    clear hm3 hg3 hs3 hp hkd
    gi_wp2
    exact ⟨keepsFrom_grown HG3.out (by omega), (But.refl _ _ W).grown HG3.out HB2.out.size (fun j e => .inl (by cases e; rfl)), HM3.out, HB2.out.trans ((But.refl _ _ W).grown HG3.out HB2.out.size (fun j e => .inl (by cases e; rfl)))⟩
  · have hp1 : (x.1.loss == loss) = false := by simp [hp]
    have HM3 := Hd (show MapT Tryz.prog 166 kKey vPa W b2 (foundL ((pre ++ [x]).map (·.1)) loss) from by rw [HSn.out]; unfold foundM; rw [if_neg hp]; exact HM.out)
    clear hp
    gi_wp2
    exact ⟨KeepsFrom.refl _ _, But.refl _ _ _, HM3.out, HB2.out⟩
 case done =>
  rintro D ys W hD hS ⟨hm, hB2⟩ hK
  rw [hS] at hm
  have dF : W.cell? ⟨Bf, 0, none⟩ = some (.map (some b2)) := (hB2.cell (by omega) (by omega)).trans HF1.out
  have eF := World.block_lt_of_cell? _ _ dF
  obtain ⟨M, hM⟩ : ∃ M, foundL (countL xs known) loss = M := ⟨_, rfl⟩
  rw [hM] at hm
  have HMe := Hd hM
  have HM := Hd hm
  have HB2 := Hd hB2
  have HK := Hd hK
  have HDl := Hd (Array.getElem?_eq_some_iff.1 hK).1
  have hb9 := BoxG.made W [.slice none 0 0, .slice none 0 0] 62
  have hm9 := hm.alloc (.cells #[.slice none 0 0, .slice none 0 0] 62)
  clear hm hB2 hK hM hS
  gi_wp2_with (gi_at_range; refine wpListIn_range_T _ rfl _ 162 rfl Tryz.underlying162 rfl hm9 ?_; intro w3 hrg3 hg3 hs3)
  have hsW : (W.alloc (.cells #[.slice none 0 0, .slice none 0 0] 62)).heap.size = W.heap.size + 1 := by simp
  rw [hsW] at hs3 hrg3
  have hw3 : Below W.heap.size W w3 := ((al' (Below.refl _ _) _)).trans (⟨hg3.os, hg3.tape, hg3.output, hg3.size, fun k hk => hg3.block k (by rw [hsW]; omega) (by simp)⟩)
  have hm3 := hm9.grown hg3 (by simp)
  have hb3 : BoxG w3 W.heap.size [.slice none 0 0, .slice none 0 0] := by
   have hk : Keeps [] (W.alloc (.cells #[.slice none 0 0, .slice none 0 0] 62)) w3 := Keeps.of_grown' hg3 (fun r e => by cases e)
   exact BoxG.below' hb9 (hk.none)
  obtain ⟨B9, hB9⟩ : ∃ B, W.heap.size = B := ⟨_, rfl⟩
  obtain ⟨It, hIt⟩ : ∃ B, W.heap.size + 1 = B := ⟨_, rfl⟩
  have HIt := Hd (show W.heap.size = B9 ∧ W.heap.size + 1 = It ∧ w3.heap.size = It + 1 from ⟨hB9, hIt, by omega⟩)
  have HMb := Hd hm3.lt
  have HM3 := Hd hm3
  have HB3 := Hd hb3
  have HW3 := Hd hw3
  rw [hIt] at hrg3 ⊢
  rw [hB9] at HB3 ⊢
  clear hb9 hm9 hg3 hs3 hsW hw3 hm3 hb3 hB9 hIt
  gi_loopw [13] (fun _ wr => ∃ js pa pn pc ta tn tc ps ts, LastAt w3 wr b2 B9 It M js pa pn pc ta tn tc ps ts ∧ ps = ((picks M js).filter isPaperB).map (·.2) ∧ ts = ((picks M js).filter (isTotalB M)).map (·.2)) (fun _ wr => wr.rangeLeft b2 It)
  case atStart => exact ⟨[], none, 0, 0, none, 0, 0, [], [], ⟨hrg3, HB3.out, World.ownsRow_nil _ _ _ _, World.ownsRow_nil _ _ _ _, rfl, rfl, by simp [rsA], Keeps.refl _ _⟩, rfl, rfl⟩
  case round =>
   obtain ⟨js, pa, pn, pc, ta, tn, tc, ps, ts, hl, hps, hts⟩ := hrel
   have HPs := Hd (And.intro hps hts)
   clear hps hts
   have HL := Hd hl
   have hrg := hl.rg
   clear hl hrg3
   gi_wp2_with (gi_at_next; refine wpListIn_next_N _ rfl _ rfl rfl hrg ?_ ?_)
   · intro hp
     have HP := Hd hp
     clear hrg hp
     have hIt := HIt.out
     have hmb := HMb.out
     have hbx9 := HL.out.bx
     have c90 : wr.cell? ⟨B9, 0, none⟩ = some (.slice pa pn pc) := hbx9.2.2 0 (by simp)
     have c91 : wr.cell? ⟨B9, 1, none⟩ = some (.slice ta tn tc) := hbx9.2.2 1 (by simp)
     have b9l := hbx9.1
     have hop := HL.out.op
     have hot := HL.out.ot
     rw [← HL.out.np] at hop
     rw [← HL.out.nt] at hot
     have hMn : M.length ≤ n := by rw [← HMe.out]; exact found_count H.out.len
     have hpl : ps.length ≤ 1000000 := by rw [HPs.out.1]; refine Nat.le_trans filt_length ?_; have h1 := HP.out.length_eq; omega
     have htl : ts.length ≤ 1000000 := by rw [HPs.out.2]; refine Nat.le_trans filt_length ?_; have h1 := HP.out.length_eq; omega
     have hbr : BoxG wr Br [.slice none 0 0, .slice none 0 0] := (BoxG.below' (HB2.out.box HR1.out (by omega) (by omega)) HW3.out).keeps HL.out.kp (fun e => by simp only [List.mem_cons, List.not_mem_nil, or_false] at e; have := HB2.out.size; omega)
     have HBr := Hd hbr
     clear hbr
     have C1 := Hd (sortPa_any wr w3.heap.size _ ps hop hpl)
     have hrp := own_rsA hop
     have hrt := own_rsA hot
     have hs3r := HL.out.kp.size
     have HOt := Hd hot
     have C2 := Hd (show ∀ w5 : World, wr.grownBy w5 (Value.slice pa pn pc).ownBlock → _ from fun w5 hg5 => sortPa_any w5 w3.heap.size _ ts ((Keeps.of_grown' hg5 (fun r e => own_block_rsA e) : Keeps (rsA pa) wr w5).own hot (fun r e hm => HL.out.dj r hm (own_block_rsA e))) htl)
     rw [HL.out.np] at C1
     rw [HL.out.nt] at C2
     have HN9 := Hd (show (∀ e : some B9 = (Value.slice pa pn pc).ownBlock, False) ∧ (∀ e : some B9 = (Value.slice ta tn tc).ownBlock, False) from ⟨fun e => by have := hrp _ (own_block_rsA e.symm); omega, fun e => by have := hrt _ (own_block_rsA e.symm); omega⟩)
     clear hop hot hbx9
     gi_wp2_with (first
      | (refine ⟨trivial, ?_⟩; gi_at_call 126; refine (callsIn_wide.2 C1.out).mono ?_; rintro e w5 ⟨rfl, ts1, hp1, hs1, hrow1, hg1⟩; have d90 := (hg1.cell_far ⟨B9, 0, none⟩ b9l HN9.out.1).trans c90; have d91 := (hg1.cell_far ⟨B9, 1, none⟩ b9l HN9.out.1).trans c91; have d9l := World.block_lt_of_cell? _ _ d90; clear c90 c91 C1)
      | (refine ⟨trivial, ?_⟩; gi_at_call 126; refine (callsIn_wide.2 (C2.out _ hg1)).mono ?_; rintro e w6 ⟨rfl, ts2, hp2, hs2, hrow2, hg2⟩; have g90 := (hg2.cell_far ⟨B9, 0, none⟩ d9l HN9.out.2).trans d90; have g91 := (hg2.cell_far ⟨B9, 1, none⟩ d9l HN9.out.2).trans d91; have g9l := World.block_lt_of_cell? _ _ g90; have hbr6 := (HBr.out.keeps (Keeps.of_grown' (S := rsA pa) hg1 (fun r e => own_block_rsA e)) (fun e => by have := hrp _ e; have := HB2.out.size; omega)).keeps (Keeps.of_grown' (S := rsA ta) hg2 (fun r e => own_block_rsA e)) (fun e => by have := hrt _ e; have := HB2.out.size; omega); have r0 := hbr6.2.2 0 (by simp); have r1 := hbr6.2.2 1 (by simp); have rf := hbr6.2.1; have rl := hbr6.1; simp only [List.getElem?_cons_zero, List.getElem?_cons_succ] at r0 r1; have HBr6 := Hd hbr6; clear d90 d91 hbr6))
     have hkA : Keeps (rsA pa ++ rsA ta) wr w6 := (Keeps.of_grown' (S := rsA pa ++ rsA ta) hg1 (fun r e => List.mem_append_left _ (own_block_rsA e))).trans (Keeps.of_grown' hg2 (fun r e => List.mem_append_right _ (own_block_rsA e)))
     have hkF : Keeps (Br :: (rsA pa ++ rsA ta)) wr ((w6.setCell ⟨Br, 0, none⟩ (.slice pa pn pc)).setCell ⟨Br, 1, none⟩ (.slice ta tn tc)) := ((hkA.mono (fun y hy => List.mem_cons_of_mem _ hy)).then_set ⟨Br, 0, none⟩ _ (.inl (by simp))).then_set ⟨Br, 1, none⟩ _ (.inl (by simp))
     have hbsz := HB2.out.size
     have hDl := HDl.out
     have hnD : D ∉ Br :: (rsA pa ++ rsA ta) := fun e => by
      rcases List.mem_cons.1 e with e | e
      · omega
      · rcases List.mem_append.1 e with e | e
        · have := hrp _ e; omega
        · have := hrt _ e; omega
     have hK3 : w3.heap[D]? = some (.deferred (some [])) := (HW3.out.block D hDl).trans HK.out
     have hKr : wr.heap[D]? = some (.deferred (some [])) := (HL.out.kp.block D (Array.getElem?_eq_some_iff.1 hK3).1 (fun e => by simp only [List.mem_cons, List.not_mem_nil, or_false] at e; omega)).trans hK3
     have hKF : ((w6.setCell ⟨Br, 0, none⟩ (.slice pa pn pc)).setCell ⟨Br, 1, none⟩ (.slice ta tn tc)).heap[D]? = some (.deferred (some [])) := (hkF.block D (Array.getElem?_eq_some_iff.1 hKr).1 hnD).trans hKr
     have hE1 := papers_come (c := countL xs known) (loss := loss) (es := picks M js) (ts := ts1) (fun x hx => (hs x (count_sub x hx)).2.2) (by rw [HMe.out]; exact HP.out) (by rw [← HPs.out.1]; exact hp1) (hs1.imp (fun {a b} h => by omega))
     have hE2 := totals_come (c := countL xs known) (loss := loss) (es := picks M js) (ts := ts2) (fun x hx => (hs x (count_sub x hx)).2.2) (by rw [HMe.out]; exact HP.out) (by rw [HMe.out, ← HPs.out.2]; exact hp2) (hs2.imp (fun {a b} h => by omega))
     refine ⟨by simp, .inl ⟨_, _, rfl, run_takeDeferred hKF, ?_⟩⟩
     have hbF : BoxG ((w6.setCell ⟨Br, 0, none⟩ (.slice pa pn pc)).setCell ⟨Br, 1, none⟩ (.slice ta tn tc)) Br [.slice pa pn pc, .slice ta tn tc] := by
      have := (HBr6.out.set 0 (.slice pa pn pc) (by simp)).set 1 (.slice ta tn tc) (by simp)
      simpa using this
     have hgD := grownBy_putObj' ((w6.setCell ⟨Br, 0, none⟩ (.slice pa pn pc)).setCell ⟨Br, 1, none⟩ (.slice ta tn tc)) D (.deferred none)
     have hkD : Keeps [D] ((w6.setCell ⟨Br, 0, none⟩ (.slice pa pn pc)).setCell ⟨Br, 1, none⟩ (.slice ta tn tc)) (((w6.setCell ⟨Br, 0, none⟩ (.slice pa pn pc)).setCell ⟨Br, 1, none⟩ (.slice ta tn tc)).putObj D (.deferred none)) := Keeps.of_grown hgD
     have hbD := hbF.keeps hkD (fun e => by have := List.mem_singleton.1 e; omega)
     have hkp : Keeps [Br] w6 ((w6.setCell ⟨Br, 0, none⟩ (.slice pa pn pc)).setCell ⟨Br, 1, none⟩ (.slice ta tn tc)) := (Keeps.setCell w6 ⟨Br, 0, none⟩ _).then_set ⟨Br, 1, none⟩ _ (.inl (by simp))
     have hro1 : w6.ownsRow w3.heap.size 42 14 (.slice pa pn pc) ts1.length (ts1.flatMap Pa.vals) := (Keeps.of_grown' hg2 (fun r e => own_block_rsA e) : Keeps (rsA ta) w5 w6).own hrow1 (fun r e hm => HL.out.dj r (own_block_rsA e) hm)
     have hfin : ∀ {v : Value} {k : Nat} {l : List Value}, w6.ownsRow w3.heap.size 42 14 v k l → (((w6.setCell ⟨Br, 0, none⟩ (.slice pa pn pc)).setCell ⟨Br, 1, none⟩ (.slice ta tn tc)).putObj D (.deferred none)).ownsRow w.heap.size 42 14 v k l := fun h => by
      have h1 := hkp.own h (fun r e hm => by have := (h.lt r e).1; have h2 : r = Br := List.mem_singleton.1 hm; omega)
      have h2 := hkD.own h1 (fun r e hm => by have := (h.lt r e).1; have h2 : r = D := List.mem_singleton.1 hm; omega)
      exact ownsRow_mono h2 (by omega)
     have hfB : Below w.heap.size w (((w6.setCell ⟨Br, 0, none⟩ (.slice pa pn pc)).setCell ⟨Br, 1, none⟩ (.slice ta tn tc)).putObj D (.deferred none)) := by
      have b1 : But b2 w1.heap.size w1 W := HB2.out
      have b2' : Below w.heap.size w W := HB01.out.trans (b1.below (by omega) |>.mono (by omega))
      have b3 : Below w.heap.size w w3 := b2'.trans (HW3.out.mono b2'.size)
      have b4 : Below w.heap.size w wr := HL.out.kp.below_then b3 (fun x hx => by simp only [List.mem_cons, List.not_mem_nil, or_false] at hx; omega) (Nat.le_refl _)
      have b5 := hkF.below_then b4 (fun x hx => by
       rcases List.mem_cons.1 hx with e | e
       · omega
       · rcases List.mem_append.1 e with e | e
         · have := hrp _ e; omega
         · have := hrt _ e; omega) (Nat.le_refl _)
      exact hkD.below_then b5 (fun x hx => by have := List.mem_singleton.1 hx; omega) (Nat.le_refl _)
     have v0 := hbD.2.2 0 (by simp)
     have v1 := hbD.2.2 1 (by simp)
     have vl := hbD.1
     simp only [List.getElem?_cons_zero, List.getElem?_cons_succ] at v0 v1
     refine ⟨.agg #[.slice pa pn pc, .slice ta tn tc], ?_, pa, pn, pc, ta, tn, tc, rfl, ?_, ?_, hfB⟩
     · generalize ((w6.setCell ⟨Br, 0, none⟩ (.slice pa pn pc)).setCell ⟨Br, 1, none⟩ (.slice ta tn tc)).putObj D (.deferred none) = WF at *
       simp [results, Tryz.results101, go_sem, v0, v1, vl]
     · unfold papersL; rw [← hE1]; exact hfin hro1
     · unfold totalsL; rw [← hE2]; exact hfin hrow2
   · intro j y w4 hj hx hlt hrg2 hlt2 hg2 hs2 hen
     obtain ⟨⟨yp, yt⟩, x⟩ := y
     simp only [kKey, vPa] at hen
     have HPk := Hd (picks_snoc (js := js) hx)
     have HLt := Hd hlt2
     have hyM := found_mem.1 (by rw [HMe.out]; exact List.mem_of_getElem? hx)
     have hyc := lastOf_mem hyM
     have hyx := hs x (count_sub x hyc.1)
     have hyp : I64 yp := by have h1 := hyc.2.2.2; have h2 := hyx.2.2; simp only at h1; unfold I64; omega
     have hIt := HIt.out
     have hmb := HMb.out
     have hk4 : Keeps [B9, It] w3 w4 := HL.out.kp.trans ((Keeps.of_grown hg2).mono (fun y hy => by rw [List.mem_singleton.1 hy]; simp))
     have hm4 : MapT Tryz.prog 166 kKey vPa w4 b2 M := HM3.out.same (hk4.block b2 HMb.out (fun e => by simp only [List.mem_cons, List.not_mem_nil, or_false] at e; omega))
     have dF4 : w4.cell? ⟨Bf, 0, none⟩ = some (.map (some b2)) := hk4.cell (cell_stays dF HW3.out) (fun e => by simp only [List.mem_cons, List.not_mem_nil, or_false] at e; omega)
     have hB6 : Below w4.heap.size w4 ((w4.alloc (.cells #[.int .i64 yp, .bool yt] 166)).alloc (.cells #[.int .i64 x.id, .int .i64 x.known, .int .u8 x.kind, .int .i64 x.loss, .int .i64 x.pack, .int .i64 x.inn, .string ⟨x.mark.toArray⟩, .string ⟨x.goods.toArray⟩, .int .i64 x.low, .int .i64 x.high, .int .i64 x.pieces, .int .i64 x.owner, .int .i64 x.count, .int .i64 x.of] 42)) := al' (al' (Below.refl _ _) _) _
     have hm6 := hm4.below' hB6
     have hlk := lookup_found hm6 (k := (yp, false)) hyp
     obtain ⟨z, hz⟩ : ∃ z, (mget M (yp, false)).getD pa0 = z := ⟨_, rfl⟩
     obtain ⟨bz, hbz⟩ : ∃ b, (mget M (yp, false)).isSome = b := ⟨_, rfl⟩
     rw [hz, hbz] at hlk
     simp only [kKey, vPa] at hlk
     have HBz := Hd hbz
     have hcl7 := HL.out.next (w7 := (((w4.alloc (.cells #[.int .i64 yp, .bool yt] 166)).alloc (.cells #[.int .i64 x.id, .int .i64 x.known, .int .u8 x.kind, .int .i64 x.loss, .int .i64 x.pack, .int .i64 x.inn, .string ⟨x.mark.toArray⟩, .string ⟨x.goods.toArray⟩, .int .i64 x.low, .int .i64 x.high, .int .i64 x.pieces, .int .i64 x.owner, .int .i64 x.count, .int .i64 x.of] 42)).alloc (.cells #[.int .i64 z.id, .int .i64 z.known, .int .u8 z.kind, .int .i64 z.loss, .int .i64 z.pack, .int .i64 z.inn, .string ⟨z.mark.toArray⟩, .string ⟨z.goods.toArray⟩, .int .i64 z.low, .int .i64 z.high, .int .i64 z.pieces, .int .i64 z.owner, .int .i64 z.count, .int .i64 z.of] 42))) hrg2 hg2 (al' (al' (al' (Below.refl _ _) _) _) _) (by omega) (by omega)
     have HL7 := Hd hcl7
     have k0 : (((w4.alloc (.cells #[.int .i64 yp, .bool yt] 166)).alloc (.cells #[.int .i64 x.id, .int .i64 x.known, .int .u8 x.kind, .int .i64 x.loss, .int .i64 x.pack, .int .i64 x.inn, .string ⟨x.mark.toArray⟩, .string ⟨x.goods.toArray⟩, .int .i64 x.low, .int .i64 x.high, .int .i64 x.pieces, .int .i64 x.owner, .int .i64 x.count, .int .i64 x.of] 42)).alloc (.cells #[.int .i64 z.id, .int .i64 z.known, .int .u8 z.kind, .int .i64 z.loss, .int .i64 z.pack, .int .i64 z.inn, .string ⟨z.mark.toArray⟩, .string ⟨z.goods.toArray⟩, .int .i64 z.low, .int .i64 z.high, .int .i64 z.pieces, .int .i64 z.owner, .int .i64 z.count, .int .i64 z.of] 42)).cell? ⟨w4.heap.size, 0, none⟩ = some (.int .i64 yp) := cell_stays (by rw [cell_of_row _ _ _ _ _ (0, 0) (heap_alloc_new w4 _)]; rfl) (al' (al' (Below.refl _ _) _) _)
     have k1 : (((w4.alloc (.cells #[.int .i64 yp, .bool yt] 166)).alloc (.cells #[.int .i64 x.id, .int .i64 x.known, .int .u8 x.kind, .int .i64 x.loss, .int .i64 x.pack, .int .i64 x.inn, .string ⟨x.mark.toArray⟩, .string ⟨x.goods.toArray⟩, .int .i64 x.low, .int .i64 x.high, .int .i64 x.pieces, .int .i64 x.owner, .int .i64 x.count, .int .i64 x.of] 42)).alloc (.cells #[.int .i64 z.id, .int .i64 z.known, .int .u8 z.kind, .int .i64 z.loss, .int .i64 z.pack, .int .i64 z.inn, .string ⟨z.mark.toArray⟩, .string ⟨z.goods.toArray⟩, .int .i64 z.low, .int .i64 z.high, .int .i64 z.pieces, .int .i64 z.owner, .int .i64 z.count, .int .i64 z.of] 42)).cell? ⟨w4.heap.size, 1, none⟩ = some (.bool yt) := cell_stays (by rw [cell_of_row _ _ _ _ _ (0, 0) (heap_alloc_new w4 _)]; rfl) (al' (al' (Below.refl _ _) _) _)
     have hbx7 : BoxG (((w4.alloc (.cells #[.int .i64 yp, .bool yt] 166)).alloc (.cells #[.int .i64 x.id, .int .i64 x.known, .int .u8 x.kind, .int .i64 x.loss, .int .i64 x.pack, .int .i64 x.inn, .string ⟨x.mark.toArray⟩, .string ⟨x.goods.toArray⟩, .int .i64 x.low, .int .i64 x.high, .int .i64 x.pieces, .int .i64 x.owner, .int .i64 x.count, .int .i64 x.of] 42)).alloc (.cells #[.int .i64 z.id, .int .i64 z.known, .int .u8 z.kind, .int .i64 z.loss, .int .i64 z.pack, .int .i64 z.inn, .string ⟨z.mark.toArray⟩, .string ⟨z.goods.toArray⟩, .int .i64 z.low, .int .i64 z.high, .int .i64 z.pieces, .int .i64 z.owner, .int .i64 z.count, .int .i64 z.of] 42)) (w4.heap.size + 1) x.vals := by
      have h1 := BoxG.made (w4.alloc (.cells #[.int .i64 yp, .bool yt] 166)) x.vals 42
      rw [show (w4.alloc (.cells #[.int .i64 yp, .bool yt] 166)).heap.size = w4.heap.size + 1 by simp] at h1
      exact BoxG.below' h1 (al' (Below.refl _ _) _)
     have HRL := Hd (show (((w4.alloc (.cells #[.int .i64 yp, .bool yt] 166)).alloc (.cells #[.int .i64 x.id, .int .i64 x.known, .int .u8 x.kind, .int .i64 x.loss, .int .i64 x.pack, .int .i64 x.inn, .string ⟨x.mark.toArray⟩, .string ⟨x.goods.toArray⟩, .int .i64 x.low, .int .i64 x.high, .int .i64 x.pieces, .int .i64 x.owner, .int .i64 x.count, .int .i64 x.of] 42)).alloc (.cells #[.int .i64 z.id, .int .i64 z.known, .int .u8 z.kind, .int .i64 z.loss, .int .i64 z.pack, .int .i64 z.inn, .string ⟨z.mark.toArray⟩, .string ⟨z.goods.toArray⟩, .int .i64 z.low, .int .i64 z.high, .int .i64 z.pieces, .int .i64 z.owner, .int .i64 z.count, .int .i64 z.of] 42)).rangeLeft b2 It = w4.rangeLeft b2 It from hrg2.left_walks ((KeepsWalks.alloc _ _).trans ((KeepsWalks.alloc _ _).trans (KeepsWalks.alloc _ _))))
     have dF6 := cell_stays dF4 hB6
     have dFl := World.block_lt_of_cell? _ _ dF4
     have hgl := HL7.out.bx
     have g0 := hgl.2.2 0 (by simp)
     have g1 := hgl.2.2 1 (by simp)
     have gf := hgl.2.1
     have gl := hgl.1
     simp only [List.getElem?_cons_zero, List.getElem?_cons_succ] at g0 g1
     obtain ⟨x0, x1, x2, x3, x4, x5, x6, x7, x8, x9, x10, x11, x12, x13⟩ := BoxG.pa (x := x) hbx7
     have xl := hbx7.1
     have hMn : M.length ≤ n := by rw [← HMe.out]; exact found_count H.out.len
     have hpl : pn ≤ 1000 := by rw [← HL.out.np, HPs.out.1]; refine Nat.le_trans filt_length ?_; rw [picks_length HL.out.rg.bound.2]; omega
     have htl : tn ≤ 1000 := by rw [← HL.out.nt, HPs.out.2]; refine Nat.le_trans filt_length ?_; rw [picks_length HL.out.rg.bound.2]; omega
     clear hbz hz hm6 hB6 hm4 hk4 hg2 hs2 hrg2 hlt2 hx hyM hyc hyx hrg hcl7 hgl hbx7 hj hlt
     cases yt with
     | false =>
       have HE1 := Hd (show ((picks M (js ++ [j])).filter isPaperB).map (·.2) = ps ++ [x] from by rw [HPk.out, List.filter_append, List.map_append, ← HPs.out.1]; rfl)
       have HE2 := Hd (show ((picks M (js ++ [j])).filter (isTotalB M)).map (·.2) = ts from by rw [HPk.out, List.filter_append, List.map_append, ← HPs.out.2]; simp [isTotalB])
       gi_upto_region 11 with (fail)
       clear dF6 hlk hen k0
       generalize (((w4.alloc (.cells #[.int .i64 yp, .bool false] 166)).alloc (.cells #[.int .i64 x.id, .int .i64 x.known, .int .u8 x.kind, .int .i64 x.loss, .int .i64 x.pack, .int .i64 x.inn, .string ⟨x.mark.toArray⟩, .string ⟨x.goods.toArray⟩, .int .i64 x.low, .int .i64 x.high, .int .i64 x.pieces, .int .i64 x.owner, .int .i64 x.count, .int .i64 x.of] 42)).alloc (.cells #[.int .i64 z.id, .int .i64 z.known, .int .u8 z.kind, .int .i64 z.loss, .int .i64 z.pack, .int .i64 z.inn, .string ⟨z.mark.toArray⟩, .string ⟨z.goods.toArray⟩, .int .i64 z.low, .int .i64 z.high, .int .i64 z.pieces, .int .i64 z.owner, .int .i64 z.count, .int .i64 z.of] 42)) = w7 at *
       gi_wp2_with (gi_at_builtin; refine wpListIn_append_own_at _ rfl _ _ 22 rfl w3.heap.size 42 i0 _ 14 128 Tryz.underlying22 hi hz0 hz1 hz2 rfl (by decide) (.slice pa pn pc) _ _ rfl (HL7.out.op.alloc _) ⟨w7.heap.size, 0, none⟩ 1 1 x.vals rfl rfl (fun j u hj => by rw [Addr.add_lit]; rw [cell_of_row _ _ _ _ _ (0, 0) (heap_alloc_new w7 _)]; simp only [Pa.vals] at hj; simpa using hj) (fun u hu => pa_one [x] u (by simpa using hu)) (by unfold maxLen; omega) (by omega) (Nat.le_trans HL7.out.kp.size (by simp)) ?_; intro v' w8 hown' hgrow hat; have hown2 := own_pa_next hown'; obtain ⟨pa', pc', rfl, hpc', _, _⟩ := Rd.of_own hown2 Pa.vals_length (by decide) (by rw [List.length_append, HL7.out.np]; rfl) (by unfold maxLen; omega); have HO8 := Hd hown2; have HG8 := Hd hgrow; have HA8 := Hd hat; have b8 := (HL7.out.bx.keeps (Keeps.of_below (S := []) (al' (Below.refl _ _) _)) (by simp)).keeps (Keeps.of_grown' (S := rsA pa) hgrow (fun r e => own_block_rsA e)) (fun e => by have := own_rsA HL7.out.op _ e; omega); have b80 := b8.2.2 0 (by simp); have b81 := b8.2.2 1 (by simp); have b8f := b8.2.1; have b8l := b8.1; simp only [List.getElem?_cons_zero, List.getElem?_cons_succ] at b80 b81; clear hown' hown2 hgrow hat b8)
       go_roundw
       case rel => exact ⟨js ++ [j], pa', pn + 1, pc', ta, tn, tc, ps ++ [x], ts, HL7.out.putP HG8.out HA8.out HO8.out (by omega) (by omega) (by omega), HE1.out.symm, HE2.out.symm⟩
       case measure => rw [HL7.out.left (.inl rfl) HG8.out (by omega) (by omega) (by omega), HRL.out]; exact HLt.out
     | true =>
       have HE1 := Hd (show ((picks M (js ++ [j])).filter isPaperB).map (·.2) = ps from by rw [HPk.out, List.filter_append, List.map_append, ← HPs.out.1]; simp [isPaperB])
       gi_upto_region 11 with (fail)
       clear dF6 hlk hen
       generalize (((w4.alloc (.cells #[.int .i64 yp, .bool true] 166)).alloc (.cells #[.int .i64 x.id, .int .i64 x.known, .int .u8 x.kind, .int .i64 x.loss, .int .i64 x.pack, .int .i64 x.inn, .string ⟨x.mark.toArray⟩, .string ⟨x.goods.toArray⟩, .int .i64 x.low, .int .i64 x.high, .int .i64 x.pieces, .int .i64 x.owner, .int .i64 x.count, .int .i64 x.of] 42)).alloc (.cells #[.int .i64 z.id, .int .i64 z.known, .int .u8 z.kind, .int .i64 z.loss, .int .i64 z.pack, .int .i64 z.inn, .string ⟨z.mark.toArray⟩, .string ⟨z.goods.toArray⟩, .int .i64 z.low, .int .i64 z.high, .int .i64 z.pieces, .int .i64 z.owner, .int .i64 z.count, .int .i64 z.of] 42)) = w7 at *
       by_cases hin : bz = true ∨ yp = 0
       · have HE2 := Hd (show ((picks M (js ++ [j])).filter (isTotalB M)).map (·.2) = ts ++ [x] from by
          rw [HPk.out, List.filter_append, List.map_append, ← HPs.out.2]
          have : isTotalB M ((yp, true), x) = true := by
           simp only [isTotalB, HBz.out, Bool.true_and, Bool.or_eq_true, decide_eq_true_eq]; exact hin
          simp [this])
         cases bz with
         | true =>
           clear hin
           gi_wp2_with (gi_at_builtin; refine wpListIn_append_own_at _ rfl _ _ 22 rfl w3.heap.size 42 i0 _ 14 128 Tryz.underlying22 hi hz0 hz1 hz2 rfl (by decide) (.slice ta tn tc) _ _ rfl (HL7.out.ot.alloc _) ⟨w7.heap.size, 0, none⟩ 1 1 x.vals rfl rfl (fun j u hj => by rw [Addr.add_lit]; rw [cell_of_row _ _ _ _ _ (0, 0) (heap_alloc_new w7 _)]; simp only [Pa.vals] at hj; simpa using hj) (fun u hu => pa_one [x] u (by simpa using hu)) (by unfold maxLen; omega) (by omega) (Nat.le_trans HL7.out.kp.size (by simp)) ?_; intro v' w8 hown' hgrow hat; have hown2 := own_pa_next hown'; obtain ⟨pa', pc', rfl, hpc', _, _⟩ := Rd.of_own hown2 Pa.vals_length (by decide) (by rw [List.length_append, HL7.out.nt]; rfl) (by unfold maxLen; omega); have HO8 := Hd hown2; have HG8 := Hd hgrow; have HA8 := Hd hat; have b8 := (HL7.out.bx.keeps (Keeps.of_below (S := []) (al' (Below.refl _ _) _)) (by simp)).keeps (Keeps.of_grown' (S := rsA ta) hgrow (fun r e => own_block_rsA e)) (fun e => by have := own_rsA HL7.out.ot _ e; omega); have b80 := b8.2.2 0 (by simp); have b81 := b8.2.2 1 (by simp); have b8f := b8.2.1; have b8l := b8.1; simp only [List.getElem?_cons_zero, List.getElem?_cons_succ] at b80 b81; clear hown' hown2 hgrow hat b8)
           go_roundw
           case rel => exact ⟨js ++ [j], pa, pn, pc, pa', tn + 1, pc', ps, ts ++ [x], HL7.out.putT HG8.out HA8.out HO8.out (by omega) (by omega) (by omega), HE1.out.symm, HE2.out.symm⟩
           case measure => rw [HL7.out.left (.inr rfl) HG8.out (by omega) (by omega) (by omega), HRL.out]; exact HLt.out
         | false =>
           have hy0 : (yp == 0) = true := by simpa using hin
           clear hin
           gi_wp2_with (gi_at_builtin; refine wpListIn_append_own_at _ rfl _ _ 22 rfl w3.heap.size 42 i0 _ 14 128 Tryz.underlying22 hi hz0 hz1 hz2 rfl (by decide) (.slice ta tn tc) _ _ rfl (HL7.out.ot.alloc _) ⟨w7.heap.size, 0, none⟩ 1 1 x.vals rfl rfl (fun j u hj => by rw [Addr.add_lit]; rw [cell_of_row _ _ _ _ _ (0, 0) (heap_alloc_new w7 _)]; simp only [Pa.vals] at hj; simpa using hj) (fun u hu => pa_one [x] u (by simpa using hu)) (by unfold maxLen; omega) (by omega) (Nat.le_trans HL7.out.kp.size (by simp)) ?_; intro v' w8 hown' hgrow hat; have hown2 := own_pa_next hown'; obtain ⟨pa', pc', rfl, hpc', _, _⟩ := Rd.of_own hown2 Pa.vals_length (by decide) (by rw [List.length_append, HL7.out.nt]; rfl) (by unfold maxLen; omega); have HO8 := Hd hown2; have HG8 := Hd hgrow; have HA8 := Hd hat; have b8 := (HL7.out.bx.keeps (Keeps.of_below (S := []) (al' (Below.refl _ _) _)) (by simp)).keeps (Keeps.of_grown' (S := rsA ta) hgrow (fun r e => own_block_rsA e)) (fun e => by have := own_rsA HL7.out.ot _ e; omega); have b80 := b8.2.2 0 (by simp); have b81 := b8.2.2 1 (by simp); have b8f := b8.2.1; have b8l := b8.1; simp only [List.getElem?_cons_zero, List.getElem?_cons_succ] at b80 b81; clear hown' hown2 hgrow hat b8)
           go_roundw
           case rel => exact ⟨js ++ [j], pa, pn, pc, pa', tn + 1, pc', ps, ts ++ [x], HL7.out.putT HG8.out HA8.out HO8.out (by omega) (by omega) (by omega), HE1.out.symm, HE2.out.symm⟩
           case measure => rw [HL7.out.left (.inr rfl) HG8.out (by omega) (by omega) (by omega), HRL.out]; exact HLt.out
       · have HE2 := Hd (show ((picks M (js ++ [j])).filter (isTotalB M)).map (·.2) = ts from by
          rw [HPk.out, List.filter_append, List.map_append, ← HPs.out.2]
          have : isTotalB M ((yp, true), x) = false := by
           rw [Bool.eq_false_iff]
           intro e
           simp only [isTotalB, HBz.out, Bool.true_and, Bool.or_eq_true, decide_eq_true_eq] at e
           exact hin e
          simp [this])
         obtain rfl : bz = false := by cases bz; rfl; exact absurd (.inl rfl) hin
         have hy0 : (yp == 0) = false := by simpa using hin
         clear hin
         gi_wp2
         go_roundw
         case rel => exact ⟨js ++ [j], pa, pn, pc, ta, tn, tc, ps, ts, HL7.out, HE1.out.symm, HE2.out.symm⟩
         case measure => rw [HRL.out]; exact HLt.out
 case stop =>
  rintro D c pre W _ _ h _
  exact h.elim
theorem last_any (a : Option Addr) (n cap : Nat) (xs : List Pa) (hs : ∀ x ∈ xs, I64 x.of ∧ I64 x.id ∧ 0 ≤ x.pack ∧ x.pack ≤ 200) (known loss : Int) (w : World) (h : Rd Pa.vals 14 w a n xs) (hn : n ≤ 1000) :
 Calls Tryz.prog 101 #[.slice a n cap, .int .i64 known, .int .i64 loss] w (ManiPost w (papersL xs known loss) (totalsL xs known loss)) := callsIn_wide.1 (last_in a n cap xs hs known loss w h hn)
end Go.Proofs.YtehplmeckfinoaaGreatDoor
