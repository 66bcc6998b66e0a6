/- The walk of the package's PaperOf. -/
import Derived.Test.YtleiapljnjaloaaGreatDoorCROf
set_option linter.unusedSimpArgs false
set_option linter.unusedVariables false
namespace Go.Proofs.YtleiapljnjaloaaGreatDoor
open Go.RowKit Go.Shelf
set_option maxRecDepth 100000 in
set_option maxHeartbeats 8000000 in
theorem paperOf_any (a : Option Addr) (n cap : Nat) (xs : List Pa) (hs : ∀ x ∈ xs, x.Short) (known loss : Int) (pack : Int) (w : World) (h : Rd Pa.vals 14 w a n xs) (hcap : n ≤ cap) :
 Calls Tryz.prog 30 #[.slice a n cap, .int .i64 known, .int .i64 loss, .int .i64 pack] w (PaperOfPost w (ofI (papersO xs known loss) pack) (paperE xs known loss pack)) := by
 have hB0 := al' (Below.refl w.heap.size w) (.cells #[.int .i64 0, .int .i64 0, .int .u8 0, .int .i64 0, .int .i64 0, .int .i64 0, .string ⟨#[]⟩, .string ⟨#[]⟩, .int .i64 0, .int .i64 0, .int .i64 0, .int .i64 0, .int .i64 0, .int .i64 0] 26)
 have hb := BoxG.made w pa0.vals 26
 simp only [Pa.vals, pa0] at hb
 have HB := Hd hB0
 have Hb := Hd hb
 have HR := Hd (h.below' hB0)
 have hpb : ¬ openE xs loss = 0 → ofI (papersO xs known loss) pack = none ∧ paperE xs known loss pack = openE xs loss := fun h0 => ⟨by rw [(open_none (known := known) h0).1]; rfl, by unfold paperE; rw [if_neg h0]⟩
 have hpg : openE xs loss = 0 → paperE xs known loss pack = if (ofI (papersO xs known loss) pack).isSome then 0 else 5 := fun h0 => by unfold paperE; rw [if_pos h0]
 have hlp := papersO_len xs known loss
 obtain ⟨PE, hPE⟩ : ∃ P, paperE xs known loss pack = P := ⟨_, rfl⟩
 have CW := Hd (fun W (hW : Rd Pa.vals 14 W a n xs) => opened_any a n cap xs hs known loss W hW hcap)
 unfold OpenPost at CW
 obtain ⟨PS, hPS⟩ : ∃ P, papersO xs known loss = P := ⟨_, rfl⟩
 obtain ⟨TS, hTS⟩ : ∃ P, totalsO xs known loss = P := ⟨_, rfl⟩
 obtain ⟨oe, hoe⟩ : ∃ c, openE xs loss = c := ⟨_, rfl⟩
 rw [hPS] at hpb hpg ⊢
 rw [hPE] at hpb hpg ⊢
 rw [hoe] at CW hpb hpg
 rw [hPS] at CW hlp
 rw [hTS] at CW hlp
 obtain ⟨OQ, hOQ⟩ : ∃ P, ofI PS pack = P := ⟨_, rfl⟩
 rw [hOQ] at hpb hpg ⊢
 have HOQ := Hd hOQ
 have Hpb := Hd hpb
 have Hpg := Hd hpg
 clear hB0 hb h hOQ hPE hPS hTS hoe hpb hpg
 go_enter Tryz.func30, Tryz.ntmps30
 go_upto_region 1 with (fail)
 generalize w.alloc (.cells #[.int .i64 0, .int .i64 0, .int .u8 0, .int .i64 0, .int .i64 0, .int .i64 0, .string ⟨#[]⟩, .string ⟨#[]⟩, .int .i64 0, .int .i64 0, .int .i64 0, .int .i64 0, .int .i64 0, .int .i64 0] 26) = w1 at *
 obtain ⟨B, hBe⟩ : ∃ B, w.heap.size = B := ⟨_, rfl⟩
 have HBe := Hd hBe
 rw [hBe] at Hb ⊢
 have Hb1 := Hd (show BoxG w1 B pa0.vals from Hb.out)
 clear hBe Hb
 go_upto_region 2 with (go_at_call 72; refine (CW.out _ HR.out).mono ?_; rintro e w3 ⟨pa, pn, pc, ta, tn, tc, rfl, hrp, hrt, hB2⟩)
 have hBa := al' (Below.refl w3.heap.size w3) (.cells #[.slice pa pn pc, .slice ta tn tc] 74)
 have hb0 := BoxG.made w3 [.slice pa pn pc, .slice ta tn tc] 74
 have hS := hB2.trans (hBa.mono hB2.size)
 have HBw3 := Hd (HB.out.trans (hS.mono HB.out.size))
 have Hb3 := Hd (Hb1.out.below' hS)
 obtain ⟨p2, c2, e1, _, q1, _⟩ := Rd.of_own hrp Pa.vals_length (by decide) rfl (by unfold maxLen; omega)
 obtain ⟨t2, d2, e2, _, q2, _⟩ := Rd.of_own hrt Pa.vals_length (by decide) rfl (by unfold maxLen; omega)
 injection e1 with e11 e12 e13
 injection e2 with e21 e22 e23
 subst e11 e12 e13 e21 e22 e23
 have HRp := Hd (q1.below' hBa)
 have HRt := Hd (q2.below' hBa)
 clear hrp hrt hB2 hBa q1 q2 hS CW
 generalize w3.alloc (.cells #[.slice pa PS.length pc, .slice ta TS.length tc] 74) = w2 at *
 obtain ⟨M, hM⟩ : ∃ M, w3.heap.size = M := ⟨_, rfl⟩
 rw [hM] at hb0 ⊢
 clear hM
 obtain ⟨m0, m1, _, ml⟩ := pair_facts hb0
 clear hb0
 obtain ⟨pn, hpn⟩ : ∃ P, PS.length = P := ⟨_, rfl⟩
 obtain ⟨tn, htn⟩ : ∃ P, TS.length = P := ⟨_, rfl⟩
 rw [hpn] at HRp m0 ⊢
 rw [htn] at HRt m1 ⊢
 clear hpn htn hlp
 by_cases h0 : oe = 0
 case neg =>
  have h1 : (oe != 0) = true := by simp [h0]
  have HE := Hd (Hpb.out h0).2
  have HQ := Hd (Hpb.out h0).1
  clear h0 Hpb Hpg
  obtain ⟨d0, d1, d2, d3, d4, d5, d6, d7, d8, d9, d10, d11, d12, d13⟩ := Hb3.out.pa
  dsimp only [pa0] at d0 d1 d2 d3 d4 d5 d6 d7 d8 d9 d10 d11 d12 d13
  have bf := Hb3.out.2.1
  have bl := Hb3.out.1
  have HBb := Hd (show BoxG w2 B [.int .i64 0, .int .i64 0, .int .u8 0, .int .i64 0, .int .i64 0, .int .i64 0, .string ⟨#[]⟩, .string ⟨#[]⟩, .int .i64 0, .int .i64 0, .int .i64 0, .int .i64 0, .int .i64 0, .int .i64 0] from Hb3.out)
  have HBw := HBw3
  go_wp2_with fail
  have hb2' : BoxG w2 B [.int .i64 0, .int .i64 0, .int .u8 0, .int .i64 0, .int .i64 0, .int .i64 0, .string ⟨#[]⟩, .string ⟨#[]⟩, .int .i64 0, .int .i64 0, .int .i64 0, .int .i64 0, .int .i64 0, .int .i64 0] := HBb.out
  obtain ⟨g1, k1⟩ := hb2'.all14 (.int .i64 0) (.int .i64 0) (.int .u8 0) (.int .i64 0) (.int .i64 0) (.int .i64 0) (.string ⟨#[]⟩) (.string ⟨#[]⟩) (.int .i64 0) (.int .i64 0) (.int .i64 0) (.int .i64 0) (.int .i64 0) (.int .i64 0)
  have HBf := Hd (k1.below_then HBw.out (fun y hy => by have := HBe.out; have := List.mem_singleton.1 hy; omega) (Nat.le_refl _))
  clear d0 d1 d2 d3 d4 d5 d6 d7 d8 d9 d10 d11 d12 d13 bf bl hb2' k1
  generalize ((((((((((((((w2.setCell ⟨B, 0, none⟩ (.int .i64 0)).setCell ⟨B, 1, none⟩ (.int .i64 0)).setCell ⟨B, 2, none⟩ (.int .u8 0)).setCell ⟨B, 3, none⟩ (.int .i64 0)).setCell ⟨B, 4, none⟩ (.int .i64 0)).setCell ⟨B, 5, none⟩ (.int .i64 0)).setCell ⟨B, 6, none⟩ (.string ⟨#[]⟩)).setCell ⟨B, 7, none⟩ (.string ⟨#[]⟩)).setCell ⟨B, 8, none⟩ (.int .i64 0)).setCell ⟨B, 9, none⟩ (.int .i64 0)).setCell ⟨B, 10, none⟩ (.int .i64 0)).setCell ⟨B, 11, none⟩ (.int .i64 0)).setCell ⟨B, 12, none⟩ (.int .i64 0)).setCell ⟨B, 13, none⟩ (.int .i64 0)) = wf at *
  have gb' : BoxG wf B pa0.vals := g1
  obtain ⟨c0, c1, c2, c3, c4, c5, c6, c7, c8, c9, c10, c11, c12, c13⟩ := BoxG.pa gb'
  have rl := gb'.1
  clear g1 gb'
  exact bodyPost_ret (by simp [results, Tryz.results30, go_sem, c0, c1, c2, c3, c4, c5, c6, c7, c8, c9, c10, c11, c12, c13, rl]) rfl (show PaperOfPost w OQ PE (.returned (.tuple #[.agg #[.int .i64 pa0.id, .int .i64 pa0.known, .int .u8 pa0.kind, .int .i64 pa0.loss, .int .i64 pa0.pack, .int .i64 pa0.inn, .string ⟨pa0.mark.toArray⟩, .string ⟨pa0.goods.toArray⟩, .int .i64 pa0.low, .int .i64 pa0.high, .int .i64 pa0.pieces, .int .i64 pa0.owner, .int .i64 pa0.count, .int .i64 pa0.of], .int .i64 oe])) wf from ⟨HBf.out, pa0, by rw [HQ.out] <;> rfl, by rw [HE.out] <;> rfl⟩)
 case pos =>
  subst h0
  have HE0 := Hd (Hpg.out rfl)
  have CF := Hd (paper_any pa pn pc ta tn tc PS pack w2 HRp.out)
  have hl : ofL PS pack = ofI PS pack := rfl
  rw [hl, HOQ.out] at CF
  obtain ⟨q, hq⟩ : ∃ q, ofV OQ = q := ⟨_, rfl⟩
  obtain ⟨is, his⟩ : ∃ q, OQ.isSome = q := ⟨_, rfl⟩
  rw [hq, his] at CF
  clear hl Hpb Hpg
  go_upto_region 5 with (go_at_call 73; refine CF.out.mono ?_; rintro e w4 ⟨rfl, hS0⟩)
  have hBq := al' (Below.refl w4.heap.size w4) (.cells #[.int .i64 q.id, .int .i64 q.known, .int .u8 q.kind, .int .i64 q.loss, .int .i64 q.pack, .int .i64 q.inn, .string ⟨q.mark.toArray⟩, .string ⟨q.goods.toArray⟩, .int .i64 q.low, .int .i64 q.high, .int .i64 q.pieces, .int .i64 q.owner, .int .i64 q.count, .int .i64 q.of] 26)
  have hS := hS0.trans (hBq.mono hS0.size)
  have hbx := (BoxG.made w4 q.vals 26)
  simp only [Pa.vals] at hbx
  have HBw := Hd (HBw3.out.trans (hS.mono HBw3.out.size))
  have Hb5 := Hd (Hb3.out.below' hS)
  have hne : B ≠ w4.heap.size := Nat.ne_of_lt (Hb3.out.below' hS0).1
  clear hBq hS hS0 CF m0 m1 ml
  generalize w4.alloc (.cells #[.int .i64 q.id, .int .i64 q.known, .int .u8 q.kind, .int .i64 q.loss, .int .i64 q.pack, .int .i64 q.inn, .string ⟨q.mark.toArray⟩, .string ⟨q.goods.toArray⟩, .int .i64 q.low, .int .i64 q.high, .int .i64 q.pieces, .int .i64 q.owner, .int .i64 q.count, .int .i64 q.of] 26) = w5 at *
  obtain ⟨Q, hQe⟩ : ∃ Q, w4.heap.size = Q := ⟨_, rfl⟩
  rw [hQe] at hbx hne ⊢
  clear hQe
  have HBx := Hd hbx
  have Hq := Hd hq
  clear hbx hq
  cases OQ with
  | none =>
    obtain rfl : pa0 = q := Hq.out
    obtain rfl : false = is := his
    have HE := Hd (show PE = 5 from by rw [HE0.out]; rfl)
    obtain ⟨d0, d1, d2, d3, d4, d5, d6, d7, d8, d9, d10, d11, d12, d13⟩ := Hb5.out.pa
    dsimp only [pa0] at d0 d1 d2 d3 d4 d5 d6 d7 d8 d9 d10 d11 d12 d13
    have bf := Hb5.out.2.1
    have bl := Hb5.out.1
    have HBb := Hd (show BoxG w5 B [.int .i64 0, .int .i64 0, .int .u8 0, .int .i64 0, .int .i64 0, .int .i64 0, .string ⟨#[]⟩, .string ⟨#[]⟩, .int .i64 0, .int .i64 0, .int .i64 0, .int .i64 0, .int .i64 0, .int .i64 0] from Hb5.out)
    go_wp2_with fail
    have hb2' : BoxG w5 B [.int .i64 0, .int .i64 0, .int .u8 0, .int .i64 0, .int .i64 0, .int .i64 0, .string ⟨#[]⟩, .string ⟨#[]⟩, .int .i64 0, .int .i64 0, .int .i64 0, .int .i64 0, .int .i64 0, .int .i64 0] := HBb.out
    obtain ⟨g1, k1⟩ := hb2'.all14 (.int .i64 0) (.int .i64 0) (.int .u8 0) (.int .i64 0) (.int .i64 0) (.int .i64 0) (.string ⟨#[]⟩) (.string ⟨#[]⟩) (.int .i64 0) (.int .i64 0) (.int .i64 0) (.int .i64 0) (.int .i64 0) (.int .i64 0)
    have HBf := Hd (k1.below_then HBw.out (fun y hy => by have := HBe.out; have := List.mem_singleton.1 hy; omega) (Nat.le_refl _))
    clear d0 d1 d2 d3 d4 d5 d6 d7 d8 d9 d10 d11 d12 d13 bf bl hb2' k1
    generalize ((((((((((((((w5.setCell ⟨B, 0, none⟩ (.int .i64 0)).setCell ⟨B, 1, none⟩ (.int .i64 0)).setCell ⟨B, 2, none⟩ (.int .u8 0)).setCell ⟨B, 3, none⟩ (.int .i64 0)).setCell ⟨B, 4, none⟩ (.int .i64 0)).setCell ⟨B, 5, none⟩ (.int .i64 0)).setCell ⟨B, 6, none⟩ (.string ⟨#[]⟩)).setCell ⟨B, 7, none⟩ (.string ⟨#[]⟩)).setCell ⟨B, 8, none⟩ (.int .i64 0)).setCell ⟨B, 9, none⟩ (.int .i64 0)).setCell ⟨B, 10, none⟩ (.int .i64 0)).setCell ⟨B, 11, none⟩ (.int .i64 0)).setCell ⟨B, 12, none⟩ (.int .i64 0)).setCell ⟨B, 13, none⟩ (.int .i64 0)) = wf at *
    have gb' : BoxG wf B pa0.vals := g1
    obtain ⟨c0, c1, c2, c3, c4, c5, c6, c7, c8, c9, c10, c11, c12, c13⟩ := BoxG.pa gb'
    have rl := gb'.1
    clear g1 gb'
    exact bodyPost_ret (by simp [results, Tryz.results30, go_sem, c0, c1, c2, c3, c4, c5, c6, c7, c8, c9, c10, c11, c12, c13, rl]) rfl (show PaperOfPost w none PE (.returned (.tuple #[.agg #[.int .i64 pa0.id, .int .i64 pa0.known, .int .u8 pa0.kind, .int .i64 pa0.loss, .int .i64 pa0.pack, .int .i64 pa0.inn, .string ⟨pa0.mark.toArray⟩, .string ⟨pa0.goods.toArray⟩, .int .i64 pa0.low, .int .i64 pa0.high, .int .i64 pa0.pieces, .int .i64 pa0.owner, .int .i64 pa0.count, .int .i64 pa0.of], .int .i64 5])) wf from ⟨HBf.out, pa0, rfl, by rw [HE.out] <;> rfl⟩)
  | some t =>
    obtain rfl : t = q := Hq.out
    obtain rfl : true = is := his
    have HE := Hd (show PE = 0 from by rw [HE0.out]; rfl)
    obtain ⟨d0, d1, d2, d3, d4, d5, d6, d7, d8, d9, d10, d11, d12, d13⟩ := Hb5.out.pa
    dsimp only [pa0] at d0 d1 d2 d3 d4 d5 d6 d7 d8 d9 d10 d11 d12 d13
    have bf := Hb5.out.2.1
    have bl := Hb5.out.1
    have HBb := Hd (show BoxG w5 B [.int .i64 0, .int .i64 0, .int .u8 0, .int .i64 0, .int .i64 0, .int .i64 0, .string ⟨#[]⟩, .string ⟨#[]⟩, .int .i64 0, .int .i64 0, .int .i64 0, .int .i64 0, .int .i64 0, .int .i64 0] from Hb5.out)
    obtain ⟨c0, c1, c2, c3, c4, c5, c6, c7, c8, c9, c10, c11, c12, c13⟩ := BoxG.pa (x := t) HBx.out
    go_wp2_with fail
    have hb2' : BoxG w5 B [.int .i64 0, .int .i64 0, .int .u8 0, .int .i64 0, .int .i64 0, .int .i64 0, .string ⟨#[]⟩, .string ⟨#[]⟩, .int .i64 0, .int .i64 0, .int .i64 0, .int .i64 0, .int .i64 0, .int .i64 0] := HBb.out
    obtain ⟨g1, k1⟩ := hb2'.all14 (.int .i64 t.id) (.int .i64 t.known) (.int .u8 t.kind) (.int .i64 t.loss) (.int .i64 t.pack) (.int .i64 t.inn) (.string ⟨t.mark.toArray⟩) (.string ⟨t.goods.toArray⟩) (.int .i64 t.low) (.int .i64 t.high) (.int .i64 t.pieces) (.int .i64 t.owner) (.int .i64 t.count) (.int .i64 t.of)
    have HBf := Hd (k1.below_then HBw.out (fun y hy => by have := HBe.out; have := List.mem_singleton.1 hy; omega) (Nat.le_refl _))
    clear d0 d1 d2 d3 d4 d5 d6 d7 d8 d9 d10 d11 d12 d13 bf bl hb2' k1 c0 c1 c2 c3 c4 c5 c6 c7 c8 c9 c10 c11 c12 c13
    generalize ((((((((((((((w5.setCell ⟨B, 0, none⟩ (.int .i64 t.id)).setCell ⟨B, 1, none⟩ (.int .i64 t.known)).setCell ⟨B, 2, none⟩ (.int .u8 t.kind)).setCell ⟨B, 3, none⟩ (.int .i64 t.loss)).setCell ⟨B, 4, none⟩ (.int .i64 t.pack)).setCell ⟨B, 5, none⟩ (.int .i64 t.inn)).setCell ⟨B, 6, none⟩ (.string ⟨t.mark.toArray⟩)).setCell ⟨B, 7, none⟩ (.string ⟨t.goods.toArray⟩)).setCell ⟨B, 8, none⟩ (.int .i64 t.low)).setCell ⟨B, 9, none⟩ (.int .i64 t.high)).setCell ⟨B, 10, none⟩ (.int .i64 t.pieces)).setCell ⟨B, 11, none⟩ (.int .i64 t.owner)).setCell ⟨B, 12, none⟩ (.int .i64 t.count)).setCell ⟨B, 13, none⟩ (.int .i64 t.of)) = wf at *
    have gb' : BoxG wf B t.vals := g1
    obtain ⟨c0, c1, c2, c3, c4, c5, c6, c7, c8, c9, c10, c11, c12, c13⟩ := BoxG.pa gb'
    have rl := gb'.1
    clear g1 gb'
    exact bodyPost_ret (by simp [results, Tryz.results30, go_sem, c0, c1, c2, c3, c4, c5, c6, c7, c8, c9, c10, c11, c12, c13, rl]) rfl (show PaperOfPost w (some t) PE (.returned (.tuple #[.agg #[.int .i64 t.id, .int .i64 t.known, .int .u8 t.kind, .int .i64 t.loss, .int .i64 t.pack, .int .i64 t.inn, .string ⟨t.mark.toArray⟩, .string ⟨t.goods.toArray⟩, .int .i64 t.low, .int .i64 t.high, .int .i64 t.pieces, .int .i64 t.owner, .int .i64 t.count, .int .i64 t.of], .int .i64 0])) wf from ⟨HBf.out, t, rfl, by rw [HE.out] <;> rfl⟩)
end Go.Proofs.YtleiapljnjaloaaGreatDoor
