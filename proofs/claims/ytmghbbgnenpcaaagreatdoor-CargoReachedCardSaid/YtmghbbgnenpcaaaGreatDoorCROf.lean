/- The walks of the reference's Of, Inside, PaperOf, and of the package's Inside. -/
import Derived.Test.YtmghbbgnenpcaaaGreatDoorCRTree
import Derived.Test.YtmghbbgnenpcaaaGreatDoorCThere
import Derived.Test.YtmghbbgnenpcaaaGreatDoorCMiss
import Derived.Deep.RegionHeld3
import Derived.Laws.AppendOwnNone
import Derived.IntWalk
set_option linter.unusedSimpArgs false
set_option linter.unusedVariables false
namespace Go.Proofs.YtmghbbgnenpcaaaGreatDoor
open Go.RowKit Go.Shelf

theorem papersO_ok {l : List Pa} {known loss : Int} : ManiOk (papersO l known loss) (totalsO l known loss) := by
  by_cases h0 : openE l loss = 0
  · obtain ⟨p1, p2⟩ := open_some (known := known) h0
    rw [p1, p2]; exact mani_ok (check_good (open_check h0)).1 known loss
  · obtain ⟨p1, p2⟩ := open_none (known := known) h0
    rw [p1, p2]
    exact ⟨.nil, by simp, by simp, .nil, by simp, by simp⟩
def OfPost (w : World) (PS TS : List Pa) (e : Ending) (w' : World) : Prop :=
  ∃ pa pn pc ta tn tc, e = .returned (.agg #[.slice pa pn pc, .slice ta tn tc]) ∧ pn ≤ 201 ∧ tn ≤ 201 ∧ Rd Pa.vals 14 w' pa pn PS ∧ Rd Pa.vals 14 w' ta tn TS ∧ Below w.heap.size w w'
def OfPostN (w : World) (PS TS : List Pa) (e : Ending) (w' : World) : Prop :=
  ∃ pa pn pc ta tn tc, e = .returned (.agg #[.slice pa pn pc, .slice ta tn tc]) ∧ pn ≤ 201 ∧ tn ≤ 201 ∧ Rd Pa.vals 14 w' pa pn PS ∧ Rd Pa.vals 14 w' ta tn TS ∧ Below w.heap.size w w' ∧ (∀ p, pa = some p → w.heap.size < p.block) ∧ ∀ p, ta = some p → w.heap.size < p.block
set_option maxRecDepth 100000 in
set_option maxHeartbeats 8000000 in
theorem of_rn (a : Option Addr) (n cap : Nat) (xs : List Pa) (hs : ∀ x ∈ xs, x.Short) (known loss : Int) (w : World) (h : Rd Pa.vals 14 w a n xs) (hcap : n ≤ cap) (hn : n ≤ 100000) :
    Calls Tryz.prog 69 #[.slice a n cap, .int .i64 known, .int .i64 loss] w (OfPostN w (papersO xs known loss) (totalsO xs known loss)) := by
  have hB0 := al' (Below.refl w.heap.size w) (.cells #[.slice none 0 0, .slice none 0 0] 85)
  have hb0 := BoxG.made w [.slice none 0 0, .slice none 0 0] 85
  have HR := Lib.hid (h.below' hB0)
  have hsz : (w.alloc (.cells #[.slice none 0 0, .slice none 0 0] 85)).heap.size = w.heap.size + 1 := by simp
  clear h
  have CP0 := Lib.hid (fun W (hW : Rd Pa.vals 14 W a n xs) => packages_r a n cap xs hs known loss W hW hcap hn)
  have CT0 := Lib.hid (fun W (hW : Rd Pa.vals 14 W a n xs) => totals_r a n cap xs hs known loss W hW hcap hn)
  obtain ⟨hp1, hp2⟩ := papersO_len xs known loss
  obtain ⟨PS, hPS⟩ : ∃ P, papersO xs known loss = P := ⟨_, rfl⟩
  obtain ⟨TS, hTS⟩ : ∃ P, totalsO xs known loss = P := ⟨_, rfl⟩
  rw [hPS] at CP0 hp1 ⊢
  rw [hTS] at CT0 hp2 ⊢
  clear hPS hTS
  go_enter Tryz.func69, Tryz.ntmps69
  go_upto_region 1 with (fail)
  generalize w.alloc (.cells #[.slice none 0 0, .slice none 0 0] 85) = w1 at *
  have HB0 := Lib.hid hB0
  have Hb0 := Lib.hid hb0
  have Hsz := Lib.hid hsz
  clear hB0 hb0 hsz
  have CP := Lib.hid (CP0.out w1 HR.out)
  have CT := Lib.hid (fun W (hB : Below w1.heap.size w1 W) => CT0.out W (HR.out.below' hB))
  go_wp2_with fail
  refine CP.out.mono ?_
  rintro e w2 ⟨vP, rfl, hrow, hS⟩
  obtain ⟨pn, hpn⟩ : ∃ m, PS.length = m := ⟨_, rfl⟩
  rw [hpn] at hrow hp1
  obtain ⟨pa, pc, rfl, _, _, _⟩ := Rd.of_own hrow Pa.vals_length (by decide) hpn (by unfold maxLen; omega)
  have HR1 := Lib.hid hrow
  have HS1 := Lib.hid hS
  have Hpn := Lib.hid hpn
  clear hrow hS CP hpn
  go_wp2_with fail
  refine (CT.out _ HS1.out).mono ?_
  rintro e w3 ⟨vT, rfl, hrow, hS⟩
  obtain ⟨tn, htn⟩ : ∃ m, TS.length = m := ⟨_, rfl⟩
  rw [htn] at hrow hp2
  obtain ⟨ta, tc, rfl, _, _, _⟩ := Rd.of_own hrow Pa.vals_length (by decide) htn (by unfold maxLen; omega)
  have HR2 := Lib.hid hrow
  have HS2 := Lib.hid hS
  have HR3 := Lib.hid (own_later' HR1.out hS)
  have Htn := Lib.hid htn
  have hb4 := (Hb0.out.below' HS1.out).below' hS
  have r0 := hb4.2.2 0 (by simp)
  have r1 := hb4.2.2 1 (by simp)
  have rf := hb4.2.1
  have rl := hb4.1
  simp only [List.getElem?_cons_zero, List.getElem?_cons_succ] at r0 r1
  clear hrow hS CT htn HR1
  go_wp2_with fail
  obtain ⟨s0, s1, sl, sk⟩ := two_set (u := .slice pa pn pc) (v := .slice ta tn tc) hb4
  clear r0 r1 rf rl hb4
  generalize (w3.setCell ⟨w.heap.size, 0, none⟩ (.slice pa pn pc)).setCell ⟨w.heap.size, 1, none⟩ (.slice ta tn tc) = wf at *
  refine bodyPost_ret (v := .agg #[.slice pa pn pc, .slice ta tn tc]) (by simp [results, Tryz.results69, go_sem, s0, s1, sl]) rfl ?_
  have hs1 := Hsz.out
  have hs2 := HS1.out.size
  have hs3 := HS2.out.size
  have hrp := sk.own HR3.out (fun r e hm => by have := (HR3.out.lt r e).1; have h2 := List.mem_singleton.1 hm; omega)
  have hrt := sk.own HR2.out (fun r e hm => by have := (HR2.out.lt r e).1; have h2 := List.mem_singleton.1 hm; omega)
  obtain ⟨_, _, e1, _, q1, b1⟩ := Rd.of_own hrp Pa.vals_length (by decide) Hpn.out (by unfold maxLen; omega)
  obtain ⟨_, _, e2, _, q2, b2⟩ := Rd.of_own hrt Pa.vals_length (by decide) Htn.out (by unfold maxLen; omega)
  injection e1 with e1
  injection e2 with e2
  subst e1 e2
  exact ⟨_, _, _, _, _, _, rfl, hp1, hp2, q1, q2, sk.below_then ((HB0.out.trans (HS1.out.mono (by omega))).trans (HS2.out.mono (by omega))) (fun x hx => by have := List.mem_singleton.1 hx; omega) (Nat.le_refl _), fun p e => by have := (b1 p e).1; omega, fun p e => by have := (b2 p e).1; omega⟩
theorem of_r (a : Option Addr) (n cap : Nat) (xs : List Pa) (hs : ∀ x ∈ xs, x.Short) (known loss : Int) (w : World) (h : Rd Pa.vals 14 w a n xs) (hcap : n ≤ cap) (hn : n ≤ 100000) :
    Calls Tryz.prog 69 #[.slice a n cap, .int .i64 known, .int .i64 loss] w (OfPost w (papersO xs known loss) (totalsO xs known loss)) := by
  refine (of_rn a n cap xs hs known loss w h hcap hn).mono ?_
  rintro e w2 ⟨pa, pn, pc, ta, tn, tc, rfl, h1, h2, h3, h4, h5, _, _⟩
  exact ⟨pa, pn, pc, ta, tn, tc, rfl, h1, h2, h3, h4, h5⟩
def paperE (l : List Pa) (known loss pack : Int) : Int := if openE l loss = 0 then (if (ofI (papersO l known loss) pack).isSome then 0 else 5) else openE l loss
def PaperOfPost (w : World) (OQ : Option Pa) (PE : Int) (e : Ending) (w' : World) : Prop :=
  Below w.heap.size w w' ∧ ∃ q, ofV OQ = q ∧ e = .returned (.tuple #[.agg #[.int .i64 q.id, .int .i64 q.known, .int .u8 q.kind, .int .i64 q.loss, .int .i64 q.pack, .int .i64 q.inn, .string ⟨q.mark.toArray⟩, .string ⟨q.goods.toArray⟩, .int .i64 q.low, .int .i64 q.high, .int .i64 q.pieces, .int .i64 q.owner, .int .i64 q.count, .int .i64 q.of], .int .i64 PE])
set_option maxRecDepth 100000 in
set_option maxHeartbeats 8000000 in
theorem paperOf_r (a : Option Addr) (n cap : Nat) (xs : List Pa) (hs : ∀ x ∈ xs, x.Short) (known loss : Int) (pack : Int) (w : World) (h : Rd Pa.vals 14 w a n xs) (hcap : n ≤ cap) (hn : n ≤ 100000) :
    Calls Tryz.prog 96 #[.slice a n cap, .int .i64 known, .int .i64 loss, .int .i64 pack] w (PaperOfPost w (ofI (papersO xs known loss) pack) (paperE xs known loss pack)) := by
  have hB0 := al' (Below.refl w.heap.size w) (.cells #[.int .i64 0, .int .i64 0, .int .u8 0, .int .i64 0, .int .i64 0, .int .i64 0, .string ⟨#[]⟩, .string ⟨#[]⟩, .int .i64 0, .int .i64 0, .int .i64 0, .int .i64 0, .int .i64 0, .int .i64 0] 42)
  have hb := BoxG.made w pa0.vals 42
  simp only [Pa.vals, pa0] at hb
  have HB := Lib.hid hB0
  have Hb := Lib.hid hb
  have HR := Lib.hid (h.below' hB0)
  obtain ⟨OQ, hOQ⟩ : ∃ P, ofI (papersO xs known loss) pack = P := ⟨_, rfl⟩
  obtain ⟨PE, hPE⟩ : ∃ P, paperE xs known loss pack = P := ⟨_, rfl⟩
  rw [hOQ, hPE]
  have HOQ := Lib.hid hOQ
  have HPE := Lib.hid hPE
  clear hB0 hb h hOQ hPE
  go_enter Tryz.func96, Tryz.ntmps96
  go_upto_region 1 with (fail)
  generalize w.alloc (.cells #[.int .i64 0, .int .i64 0, .int .u8 0, .int .i64 0, .int .i64 0, .int .i64 0, .string ⟨#[]⟩, .string ⟨#[]⟩, .int .i64 0, .int .i64 0, .int .i64 0, .int .i64 0, .int .i64 0, .int .i64 0] 42) = w1 at *
  obtain ⟨B, hBe⟩ : ∃ B, w.heap.size = B := ⟨_, rfl⟩
  have HBe := Lib.hid hBe
  rw [hBe] at Hb ⊢
  have Hb1 := Lib.hid (show BoxG w1 B pa0.vals from Hb.out)
  clear hBe Hb
  have CA := Lib.hid (asked_any a n cap xs hs loss w1 HR.out hcap)
  have CP := Lib.hid (fun W (hB : Below w1.heap.size w1 W) => packages_r a n cap xs hs known loss W (HR.out.below' hB) hcap hn)
  obtain ⟨hp1, _⟩ := papersO_len xs known loss
  obtain ⟨oe, hoe⟩ : ∃ c, openE xs loss = c := ⟨_, rfl⟩
  rw [hoe] at CA
  have HOe := Lib.hid hoe
  clear hoe
  go_wp2_with fail
  refine CA.out.mono ?_
  rintro e w2 ⟨rfl, hB2⟩
  have HB2 := Lib.hid hB2
  have HBw2 := Lib.hid (HB.out.trans (hB2.mono HB.out.size))
  have Hb2 := Lib.hid (Hb1.out.below' hB2)
  clear hB2 CA
  by_cases h0 : oe = 0
  case neg =>
    have h1 : (oe != 0) = true := by simp [h0]
    have HE := Lib.hid (show PE = oe from by rw [← HPE.out]; unfold paperE; rw [HOe.out, if_neg h0])
    have HQ := Lib.hid (show OQ = none from by rw [← HOQ.out, (open_none (known := known) (show ¬ openE xs loss = 0 from by rw [HOe.out]; exact h0)).1]; rfl)
    clear h0
    obtain ⟨d0, d1, d2, d3, d4, d5, d6, d7, d8, d9, d10, d11, d12, d13⟩ := Hb2.out.pa
    dsimp only [pa0] at d0 d1 d2 d3 d4 d5 d6 d7 d8 d9 d10 d11 d12 d13
    have bf := Hb2.out.2.1
    have bl := Hb2.out.1
    have HBb := Lib.hid (show BoxG w2 B [.int .i64 0, .int .i64 0, .int .u8 0, .int .i64 0, .int .i64 0, .int .i64 0, .string ⟨#[]⟩, .string ⟨#[]⟩, .int .i64 0, .int .i64 0, .int .i64 0, .int .i64 0, .int .i64 0, .int .i64 0] from Hb2.out)
    have HBw := HBw2
    go_wp2_with fail
    have hb2' : BoxG w2 B [.int .i64 0, .int .i64 0, .int .u8 0, .int .i64 0, .int .i64 0, .int .i64 0, .string ⟨#[]⟩, .string ⟨#[]⟩, .int .i64 0, .int .i64 0, .int .i64 0, .int .i64 0, .int .i64 0, .int .i64 0] := HBb.out
    obtain ⟨g1, k1⟩ := hb2'.all14 (.int .i64 0) (.int .i64 0) (.int .u8 0) (.int .i64 0) (.int .i64 0) (.int .i64 0) (.string ⟨#[]⟩) (.string ⟨#[]⟩) (.int .i64 0) (.int .i64 0) (.int .i64 0) (.int .i64 0) (.int .i64 0) (.int .i64 0)
    have HBf := Lib.hid (k1.below_then HBw.out (fun y hy => by have := HBe.out; have := List.mem_singleton.1 hy; omega) (Nat.le_refl _))
    clear d0 d1 d2 d3 d4 d5 d6 d7 d8 d9 d10 d11 d12 d13 bf bl hb2' k1 
    generalize ((((((((((((((w2.setCell ⟨B, 0, none⟩ (.int .i64 0)).setCell ⟨B, 1, none⟩ (.int .i64 0)).setCell ⟨B, 2, none⟩ (.int .u8 0)).setCell ⟨B, 3, none⟩ (.int .i64 0)).setCell ⟨B, 4, none⟩ (.int .i64 0)).setCell ⟨B, 5, none⟩ (.int .i64 0)).setCell ⟨B, 6, none⟩ (.string ⟨#[]⟩)).setCell ⟨B, 7, none⟩ (.string ⟨#[]⟩)).setCell ⟨B, 8, none⟩ (.int .i64 0)).setCell ⟨B, 9, none⟩ (.int .i64 0)).setCell ⟨B, 10, none⟩ (.int .i64 0)).setCell ⟨B, 11, none⟩ (.int .i64 0)).setCell ⟨B, 12, none⟩ (.int .i64 0)).setCell ⟨B, 13, none⟩ (.int .i64 0)) = wf at *
    have gb' : BoxG wf B pa0.vals := g1
    obtain ⟨c0, c1, c2, c3, c4, c5, c6, c7, c8, c9, c10, c11, c12, c13⟩ := BoxG.pa gb'
    have rl := gb'.1
    clear g1 gb'
    exact bodyPost_ret (by simp [results, Tryz.results96, go_sem, c0, c1, c2, c3, c4, c5, c6, c7, c8, c9, c10, c11, c12, c13, rl]) rfl (show PaperOfPost w OQ PE (.returned (.tuple #[.agg #[.int .i64 pa0.id, .int .i64 pa0.known, .int .u8 pa0.kind, .int .i64 pa0.loss, .int .i64 pa0.pack, .int .i64 pa0.inn, .string ⟨pa0.mark.toArray⟩, .string ⟨pa0.goods.toArray⟩, .int .i64 pa0.low, .int .i64 pa0.high, .int .i64 pa0.pieces, .int .i64 pa0.owner, .int .i64 pa0.count, .int .i64 pa0.of], .int .i64 oe])) wf from ⟨HBf.out, pa0, by rw [HQ.out] <;> rfl, by rw [HE.out] <;> rfl⟩)
  case pos =>
    subst h0
    have HS := Lib.hid HOe.out
    obtain ⟨PS, hPS⟩ : ∃ P, papersO xs known loss = P := ⟨_, rfl⟩
    rw [hPS] at HOQ CP hp1
    have HPS := Lib.hid hPS
    clear hPS
    go_wp2_with fail
    refine (CP.out _ HB2.out).mono ?_
    rintro e w3 ⟨vP, rfl, hrow, hS⟩
    obtain ⟨pn, hpn⟩ : ∃ m, PS.length = m := ⟨_, rfl⟩
    rw [hpn] at hrow hp1
    obtain ⟨pa, pc, rfl, _, hrp, _⟩ := Rd.of_own hrow Pa.vals_length (by decide) hpn (by unfold maxLen; omega)
    have CF := Lib.hid (find_r pa pn pc PS pack w3 hrp)
    unfold FindPost at CF
    rw [HOQ.out] at CF
    have HBw3 := Lib.hid (HBw2.out.trans (hS.mono HBw2.out.size))
    have Hb3 := Lib.hid (Hb2.out.below' hS)
    clear hrow hpn hS hrp CP
    go_upto_region 5 with (go_at_call 78; refine CF.out.mono ?_; rintro e w4 ⟨hS0, q, hq, rfl⟩)
    have hBq := al' (Below.refl w4.heap.size w4) (.cells #[.int .i64 q.id, .int .i64 q.known, .int .u8 q.kind, .int .i64 q.loss, .int .i64 q.pack, .int .i64 q.inn, .string ⟨q.mark.toArray⟩, .string ⟨q.goods.toArray⟩, .int .i64 q.low, .int .i64 q.high, .int .i64 q.pieces, .int .i64 q.owner, .int .i64 q.count, .int .i64 q.of] 42)
    have hS := hS0.trans (hBq.mono hS0.size)
    have hbx := (BoxG.made w4 q.vals 42)
    simp only [Pa.vals] at hbx
    have HBw := Lib.hid (HBw3.out.trans (hS.mono HBw3.out.size))
    have Hb5 := Lib.hid (Hb3.out.below' hS)
    have hne : B ≠ w4.heap.size := Nat.ne_of_lt (Hb3.out.below' hS0).1
    clear hBq hS hS0 CF
    generalize w4.alloc (.cells #[.int .i64 q.id, .int .i64 q.known, .int .u8 q.kind, .int .i64 q.loss, .int .i64 q.pack, .int .i64 q.inn, .string ⟨q.mark.toArray⟩, .string ⟨q.goods.toArray⟩, .int .i64 q.low, .int .i64 q.high, .int .i64 q.pieces, .int .i64 q.owner, .int .i64 q.count, .int .i64 q.of] 42) = w5 at *
    obtain ⟨Q, hQe⟩ : ∃ Q, w4.heap.size = Q := ⟨_, rfl⟩
    rw [hQe] at hbx hne ⊢
    clear hQe
    have HBx := Lib.hid hbx
    have Hq := Lib.hid hq
    clear hbx hq
    cases OQ with
    | none =>
      obtain rfl : pa0 = q := Hq.out
      have HE := Lib.hid (show PE = 5 from by rw [← HPE.out]; unfold paperE; rw [HOe.out, if_pos rfl, HPS.out, HOQ.out]; rfl)
      obtain ⟨d0, d1, d2, d3, d4, d5, d6, d7, d8, d9, d10, d11, d12, d13⟩ := Hb5.out.pa
      dsimp only [pa0] at d0 d1 d2 d3 d4 d5 d6 d7 d8 d9 d10 d11 d12 d13
      have bf := Hb5.out.2.1
      have bl := Hb5.out.1
      have HBb := Lib.hid (show BoxG w5 B [.int .i64 0, .int .i64 0, .int .u8 0, .int .i64 0, .int .i64 0, .int .i64 0, .string ⟨#[]⟩, .string ⟨#[]⟩, .int .i64 0, .int .i64 0, .int .i64 0, .int .i64 0, .int .i64 0, .int .i64 0] from Hb5.out)
      go_wp2_with fail
      have hb2' : BoxG w5 B [.int .i64 0, .int .i64 0, .int .u8 0, .int .i64 0, .int .i64 0, .int .i64 0, .string ⟨#[]⟩, .string ⟨#[]⟩, .int .i64 0, .int .i64 0, .int .i64 0, .int .i64 0, .int .i64 0, .int .i64 0] := HBb.out
      obtain ⟨g1, k1⟩ := hb2'.all14 (.int .i64 0) (.int .i64 0) (.int .u8 0) (.int .i64 0) (.int .i64 0) (.int .i64 0) (.string ⟨#[]⟩) (.string ⟨#[]⟩) (.int .i64 0) (.int .i64 0) (.int .i64 0) (.int .i64 0) (.int .i64 0) (.int .i64 0)
      have HBf := Lib.hid (k1.below_then HBw.out (fun y hy => by have := HBe.out; have := List.mem_singleton.1 hy; omega) (Nat.le_refl _))
      clear d0 d1 d2 d3 d4 d5 d6 d7 d8 d9 d10 d11 d12 d13 bf bl hb2' k1 
      generalize ((((((((((((((w5.setCell ⟨B, 0, none⟩ (.int .i64 0)).setCell ⟨B, 1, none⟩ (.int .i64 0)).setCell ⟨B, 2, none⟩ (.int .u8 0)).setCell ⟨B, 3, none⟩ (.int .i64 0)).setCell ⟨B, 4, none⟩ (.int .i64 0)).setCell ⟨B, 5, none⟩ (.int .i64 0)).setCell ⟨B, 6, none⟩ (.string ⟨#[]⟩)).setCell ⟨B, 7, none⟩ (.string ⟨#[]⟩)).setCell ⟨B, 8, none⟩ (.int .i64 0)).setCell ⟨B, 9, none⟩ (.int .i64 0)).setCell ⟨B, 10, none⟩ (.int .i64 0)).setCell ⟨B, 11, none⟩ (.int .i64 0)).setCell ⟨B, 12, none⟩ (.int .i64 0)).setCell ⟨B, 13, none⟩ (.int .i64 0)) = wf at *
      have gb' : BoxG wf B pa0.vals := g1
      obtain ⟨c0, c1, c2, c3, c4, c5, c6, c7, c8, c9, c10, c11, c12, c13⟩ := BoxG.pa gb'
      have rl := gb'.1
      clear g1 gb'
      exact bodyPost_ret (by simp [results, Tryz.results96, go_sem, c0, c1, c2, c3, c4, c5, c6, c7, c8, c9, c10, c11, c12, c13, rl]) rfl (show PaperOfPost w none PE (.returned (.tuple #[.agg #[.int .i64 pa0.id, .int .i64 pa0.known, .int .u8 pa0.kind, .int .i64 pa0.loss, .int .i64 pa0.pack, .int .i64 pa0.inn, .string ⟨pa0.mark.toArray⟩, .string ⟨pa0.goods.toArray⟩, .int .i64 pa0.low, .int .i64 pa0.high, .int .i64 pa0.pieces, .int .i64 pa0.owner, .int .i64 pa0.count, .int .i64 pa0.of], .int .i64 5])) wf from ⟨HBf.out, pa0, rfl, by rw [HE.out] <;> rfl⟩)
    | some t =>
      obtain rfl : t = q := Hq.out
      have HE := Lib.hid (show PE = 0 from by rw [← HPE.out]; unfold paperE; rw [HOe.out, if_pos rfl, HPS.out, HOQ.out]; rfl)
      obtain ⟨d0, d1, d2, d3, d4, d5, d6, d7, d8, d9, d10, d11, d12, d13⟩ := Hb5.out.pa
      dsimp only [pa0] at d0 d1 d2 d3 d4 d5 d6 d7 d8 d9 d10 d11 d12 d13
      have bf := Hb5.out.2.1
      have bl := Hb5.out.1
      have HBb := Lib.hid (show BoxG w5 B [.int .i64 0, .int .i64 0, .int .u8 0, .int .i64 0, .int .i64 0, .int .i64 0, .string ⟨#[]⟩, .string ⟨#[]⟩, .int .i64 0, .int .i64 0, .int .i64 0, .int .i64 0, .int .i64 0, .int .i64 0] from Hb5.out)
      obtain ⟨c0, c1, c2, c3, c4, c5, c6, c7, c8, c9, c10, c11, c12, c13⟩ := BoxG.pa (x := t) HBx.out
      go_wp2_with fail
      have hb2' : BoxG w5 B [.int .i64 0, .int .i64 0, .int .u8 0, .int .i64 0, .int .i64 0, .int .i64 0, .string ⟨#[]⟩, .string ⟨#[]⟩, .int .i64 0, .int .i64 0, .int .i64 0, .int .i64 0, .int .i64 0, .int .i64 0] := HBb.out
      obtain ⟨g1, k1⟩ := hb2'.all14 (.int .i64 t.id) (.int .i64 t.known) (.int .u8 t.kind) (.int .i64 t.loss) (.int .i64 t.pack) (.int .i64 t.inn) (.string ⟨t.mark.toArray⟩) (.string ⟨t.goods.toArray⟩) (.int .i64 t.low) (.int .i64 t.high) (.int .i64 t.pieces) (.int .i64 t.owner) (.int .i64 t.count) (.int .i64 t.of)
      have HBf := Lib.hid (k1.below_then HBw.out (fun y hy => by have := HBe.out; have := List.mem_singleton.1 hy; omega) (Nat.le_refl _))
      clear d0 d1 d2 d3 d4 d5 d6 d7 d8 d9 d10 d11 d12 d13 bf bl hb2' k1 c0 c1 c2 c3 c4 c5 c6 c7 c8 c9 c10 c11 c12 c13
      generalize ((((((((((((((w5.setCell ⟨B, 0, none⟩ (.int .i64 t.id)).setCell ⟨B, 1, none⟩ (.int .i64 t.known)).setCell ⟨B, 2, none⟩ (.int .u8 t.kind)).setCell ⟨B, 3, none⟩ (.int .i64 t.loss)).setCell ⟨B, 4, none⟩ (.int .i64 t.pack)).setCell ⟨B, 5, none⟩ (.int .i64 t.inn)).setCell ⟨B, 6, none⟩ (.string ⟨t.mark.toArray⟩)).setCell ⟨B, 7, none⟩ (.string ⟨t.goods.toArray⟩)).setCell ⟨B, 8, none⟩ (.int .i64 t.low)).setCell ⟨B, 9, none⟩ (.int .i64 t.high)).setCell ⟨B, 10, none⟩ (.int .i64 t.pieces)).setCell ⟨B, 11, none⟩ (.int .i64 t.owner)).setCell ⟨B, 12, none⟩ (.int .i64 t.count)).setCell ⟨B, 13, none⟩ (.int .i64 t.of)) = wf at *
      have gb' : BoxG wf B t.vals := g1
      obtain ⟨c0, c1, c2, c3, c4, c5, c6, c7, c8, c9, c10, c11, c12, c13⟩ := BoxG.pa gb'
      have rl := gb'.1
      clear g1 gb'
      exact bodyPost_ret (by simp [results, Tryz.results96, go_sem, c0, c1, c2, c3, c4, c5, c6, c7, c8, c9, c10, c11, c12, c13, rl]) rfl (show PaperOfPost w (some t) PE (.returned (.tuple #[.agg #[.int .i64 t.id, .int .i64 t.known, .int .u8 t.kind, .int .i64 t.loss, .int .i64 t.pack, .int .i64 t.inn, .string ⟨t.mark.toArray⟩, .string ⟨t.goods.toArray⟩, .int .i64 t.low, .int .i64 t.high, .int .i64 t.pieces, .int .i64 t.owner, .int .i64 t.count, .int .i64 t.of], .int .i64 0])) wf from ⟨HBf.out, t, rfl, by rw [HE.out] <;> rfl⟩)
def InsVPost (w : World) (L : List Int) (e : Ending) (w' : World) : Prop :=
  ∃ v, e = .returned v ∧ w'.ownsRow w.heap.size 3 1 v L.length (L.flatMap ints) ∧ Below w.heap.size w w'
set_option maxRecDepth 100000 in
set_option maxHeartbeats 8000000 in
theorem insides_any (a : Option Addr) (n cap : Nat) (xs : List Pa) (hs : ∀ x ∈ xs, x.Short) (known loss : Int) (pack : Int) (w : World) (h : Rd Pa.vals 14 w a n xs) (hcap : n ≤ cap) :
    Calls Tryz.prog 17 #[.slice a n cap, .int .i64 known, .int .i64 loss, .int .i64 pack] w (InsVPost w (insideL (papersO xs known loss) pack)) := by
  have CW := Lib.hid (opened_any a n cap xs hs known loss w h hcap)
  clear h
  have hnp : ¬ openE xs loss = 0 → insideL (papersO xs known loss) pack = [] := fun h0 => by rw [(open_none (known := known) h0).1]; rfl
  have hpl := (papersO_len xs known loss).1
  obtain ⟨oe, hoe⟩ : ∃ c, openE xs loss = c := ⟨_, rfl⟩
  unfold OpenPost at CW
  rw [hoe] at CW hnp
  clear hoe
  obtain ⟨PS, hPS⟩ : ∃ P, papersO xs known loss = P := ⟨_, rfl⟩
  obtain ⟨TS, hTS⟩ : ∃ P, totalsO xs known loss = P := ⟨_, rfl⟩
  rw [hPS] at CW hnp hpl ⊢
  rw [hTS] at CW
  clear hPS hTS
  have HNp := Lib.hid hnp
  clear hnp
  go_enter Tryz.func17, Tryz.ntmps17
  go_upto_region 2 with (go_at_call 50; refine CW.out.mono ?_; rintro e w3 ⟨pa, pn, pc, ta, tn, tc, rfl, hrp, hrt, hB2⟩)
  have hBa := al' (Below.refl w3.heap.size w3) (.cells #[.slice pa pn pc, .slice ta tn tc] 66)
  have hb0 := BoxG.made w3 [.slice pa pn pc, .slice ta tn tc] 66
  have HBw := Lib.hid (hB2.trans (hBa.mono hB2.size))
  obtain ⟨p2, c2, e1, _, q1, _⟩ := Rd.of_own hrp Pa.vals_length (by decide) rfl (by unfold maxLen; omega)
  injection e1 with e1 e2 e3
  subst e1 e2 e3
  have HRp := Lib.hid (q1.below' hBa)
  clear hrp hrt hB2 hBa q1 CW
  generalize w3.alloc (.cells #[.slice pa PS.length pc, .slice ta tn tc] 66) = w4 at *
  obtain ⟨M, hM⟩ : ∃ M, w3.heap.size = M := ⟨_, rfl⟩
  rw [hM] at hb0 ⊢
  clear hM
  obtain ⟨m0, m1, _, ml⟩ := pair_facts hb0
  clear hb0
  by_cases h0 : oe = 0
  · subst h0
    have CI := Lib.hid (inside_any pa PS.length pc ta tn tc PS pack w4 HRp.out (by omega))
    obtain ⟨IS, hIS⟩ : ∃ P, insideL PS pack = P := ⟨_, rfl⟩
    obtain ⟨pn, hpn⟩ : ∃ P, PS.length = P := ⟨_, rfl⟩
    rw [hIS] at CI
    rw [hpn] at CI m0 ⊢
    have HIS := Lib.hid hIS
    clear hIS
    go_wp2_with (go_at_call 51; refine CI.out.mono ?_; rintro e w5 ⟨v, rfl, hrow, hB5⟩)
    go_ret
    obtain rfl := HIS.out
    exact ⟨_, rfl, ownsRow_mono hrow HBw.out.size, HBw.out.trans (hB5.mono HBw.out.size)⟩
  · have HV := Lib.hid (HNp.out h0)
    have h1 : (oe != 0) = true := by simp [h0]
    obtain ⟨pn, hpn⟩ : ∃ P, PS.length = P := ⟨_, rfl⟩
    rw [hpn] at m0 ⊢
    clear h0
    go_wp2_with fail
    exact bodyPost_ret (by simp [results, Tryz.results17, go_sem]) rfl (show InsVPost w (insideL PS pack) (.returned (.slice none 0 0)) w4 from ⟨_, rfl, by rw [HV.out]; exact World.ownsRow_nil _ _ _ _, HBw.out⟩)
end Go.Proofs.YtmghbbgnenpcaaaGreatDoor
