/- The walks of the reference's asked, find, Counting, lasts, Packages and Totals. -/
import Derived.Test.YtehplmeckfinoaaGreatDoorCRPapers
import Derived.Test.YtehplmeckfinoaaGreatDoorCTreesP
import Derived.Test.YtehplmeckfinoaaGreatDoorCThere
import Derived.Test.YtehplmeckfinoaaGreatDoorCRead
import Derived.BigQuiet
import Derived.Deep.QuietTactic
import Derived.Deep.RegionHeld3
import Derived.Laws.AppendOwnNone
import Derived.IntWalk
import Derived.Test.YtehplmeckfinoaaGreatDoorCMiss
set_option linter.unusedSimpArgs false
set_option linter.unusedVariables false
namespace Go.Proofs.YtehplmeckfinoaaGreatDoor
open Go.RowKit Go.Shelf
theorem asked_any (a : Option Addr) (n cap : Nat) (xs : List Pa) (hs : ∀ x ∈ xs, x.Short) (loss : Int) (w : World) (h : Rd Pa.vals 14 w a n xs) (hcap : n ≤ cap) :
 Calls Tryz.prog 62 #[.slice a n cap, .int .i64 loss] w fun e w' => e = .returned (.int .i64 (openE xs loss)) ∧ Below w.heap.size w w' := by
 have C := Hd (rcheck_any a n cap xs hs w h hcap)
 obtain ⟨E, hE⟩ : ∃ E, (checkC xs).2 = E := ⟨_, rfl⟩
 rw [hE] at C
 have HE := Hd hE
 clear hE h
 go_enter Tryz.func62, Tryz.ntmps62
 go_wp2_with fail
 refine C.out.mono ?_
 rintro e w2 ⟨rfl, hS⟩
 have HB := Hd hS
 clear hS C
 by_cases h0 : E = 0
 case neg =>
  have h1 : (E != 0) = true := by simp [h0]
  have HO := Hd (show openE xs loss = E from openE_bad HE.out h0)
  clear h0
  go_wp2_with fail
  go_ret
  exact ⟨by rw [HO.out] <;> rfl, HB.out⟩
 have h1 : (E != 0) = false := by simp [h0]
 obtain ⟨b, hb⟩ : ∃ b, within loss 1 20 = b := ⟨_, rfl⟩
 have HO := Hd (show openE xs loss = if b then 0 else 1 from by unfold openE; rw [if_pos (HE.out.trans h0), hb])
 clear h0
 go_wp2_with fail
 refine (rwithin_any _ _ _ _).mono ?_
 rintro e w3 ⟨rfl, rfl⟩
 rw [hb]
 clear hb
 cases b <;> (go_wp2_with fail; go_ret; exact ⟨by rw [HO.out] <;> rfl, HB.out⟩)
theorem ofI_no {xs : List Pa} {pack : Int} (h : ∀ x ∈ xs, x.pack ≠ pack) : ofI xs pack = none := by
 unfold ofI; rw [List.find?_eq_none]; intro x hx; simpa using h x hx
theorem ofI_at {xs : List Pa} {pack : Int} {k : Nat} {x : Pa} (hx : xs[k]? = some x) (h : ∀ y ∈ xs.take k, y.pack ≠ pack) (hp : x.pack = pack) : ofI xs pack = some x := by
 have e : xs = xs.take k ++ x :: xs.drop (k + 1) := by
  have hk := (List.getElem?_eq_some_iff.1 hx).1
  conv => lhs; rw [← List.take_append_drop k xs]
  rw [List.drop_eq_getElem_cons hk, (List.getElem?_eq_some_iff.1 hx).2]
 unfold ofI
 rw [e, List.find?_append, List.find?_eq_none.2 (fun y hy => by simpa using h y hy)]
 simp [hp]
def FindPost (w : World) (xs : List Pa) (pack : Int) (e : Ending) (w' : World) : Prop :=
 Below w.heap.size w w' ∧ ∃ q, ofV (ofI xs pack) = q ∧ e = .returned (.tuple #[.agg #[.int .i64 q.id, .int .i64 q.known, .int .u8 q.kind, .int .i64 q.loss, .int .i64 q.pack, .int .i64 q.inn, .string ⟨q.mark.toArray⟩, .string ⟨q.goods.toArray⟩, .int .i64 q.low, .int .i64 q.high, .int .i64 q.pieces, .int .i64 q.owner, .int .i64 q.count, .int .i64 q.of], .bool (ofI xs pack).isSome])
set_option maxRecDepth 100000 in
set_option maxHeartbeats 4000000 in
theorem find_r (a : Option Addr) (n cap : Nat) (xs : List Pa) (pack : Int) (w : World) (h : Rd Pa.vals 14 w a n xs) :
 Calls Tryz.prog 67 #[.slice a n cap, .int .i64 pack] w (FindPost w xs pack) := by
 have hm := h.cap
 unfold maxLen at hm
 have hB0 := al' (Below.refl w.heap.size w) (.cells #[.int .i64 0, .int .i64 0, .int .u8 0, .int .i64 0, .int .i64 0, .int .i64 0, .string ⟨#[]⟩, .string ⟨#[]⟩, .int .i64 0, .int .i64 0, .int .i64 0, .int .i64 0, .int .i64 0, .int .i64 0] 42)
 have hb := BoxG.made w pa0.vals 42
 simp only [Pa.vals, pa0] at hb
 have HB := Hd hB0
 have Hb := Hd hb
 have HR := Hd (h.below' hB0)
 have Hl := Hd h.len
 clear hB0 hb h
 go_enter Tryz.func67, Tryz.ntmps67
 go_upto_region 1 with (fail)
 generalize w.alloc (.cells #[.int .i64 0, .int .i64 0, .int .u8 0, .int .i64 0, .int .i64 0, .int .i64 0, .string ⟨#[]⟩, .string ⟨#[]⟩, .int .i64 0, .int .i64 0, .int .i64 0, .int .i64 0, .int .i64 0, .int .i64 0] 42) = w1 at *
 obtain ⟨B, hBe⟩ : ∃ B, w.heap.size = B := ⟨_, rfl⟩
 have HBe := Hd hBe
 rw [hBe] at Hb ⊢
 have Hb1 := Hd (show BoxG w1 B pa0.vals from Hb.out)
 clear hBe Hb
 go_wp2_with fail
 go_loopw [6] (fun i wr => ∃ k : Nat, k ≤ n ∧ i = .int .i64 k ∧ (∀ y ∈ xs.take k, y.pack ≠ pack) ∧ wr = w1) (fun i _ => n - (intOf i).toNat)
 case atStart => exact ⟨0, Nat.zero_le _, rfl, by simp, rfl⟩
 case round =>
  obtain ⟨k, hk, rfl, hno, rfl⟩ := hrel
  have HNo := Hd hno
  clear hno
  by_cases hlt : k < n
  · have hlt' : (k : Int) < (n : Int) := by omega
    obtain ⟨b, off, x, hpa, hb, hx, c0, c1, c2, c3, c4, c5, c6, c7, c8, c9, c10, c11, c12, c13⟩ := HR.out.pa hlt
    subst hpa
    have Hx := Hd hx
    clear hx
    by_cases hp : x.pack = pack
    · have hp' : (x.pack == pack) = true := by simp [hp]
      have HF := Hd (ofI_at Hx.out HNo.out hp)
      clear hp
      obtain ⟨d0, d1, d2, d3, d4, d5, d6, d7, d8, d9, d10, d11, d12, d13⟩ := Hb1.out.pa
      dsimp only [pa0] at d0 d1 d2 d3 d4 d5 d6 d7 d8 d9 d10 d11 d12 d13
      have bf := Hb1.out.2.1
      have bl := Hb1.out.1
      go_wp2_with fail
      have hb2' : BoxG wr B [.int .i64 0, .int .i64 0, .int .u8 0, .int .i64 0, .int .i64 0, .int .i64 0, .string ⟨#[]⟩, .string ⟨#[]⟩, .int .i64 0, .int .i64 0, .int .i64 0, .int .i64 0, .int .i64 0, .int .i64 0] := Hb1.out
      obtain ⟨g1, k1⟩ := hb2'.all14 (.int .i64 x.id) (.int .i64 x.known) (.int .u8 x.kind) (.int .i64 x.loss) (.int .i64 x.pack) (.int .i64 x.inn) (.string ⟨x.mark.toArray⟩) (.string ⟨x.goods.toArray⟩) (.int .i64 x.low) (.int .i64 x.high) (.int .i64 x.pieces) (.int .i64 x.owner) (.int .i64 x.count) (.int .i64 x.of)
      have HBf := Hd (k1.below_then HB.out (fun y hy => by have := HBe.out; have := List.mem_singleton.1 hy; omega) (Nat.le_refl _))
      clear c0 c1 c2 c3 c4 c5 c6 c7 c8 c9 c10 c11 c12 c13 d0 d1 d2 d3 d4 d5 d6 d7 d8 d9 d10 d11 d12 d13 bf bl hb2' k1
      generalize ((((((((((((((wr.setCell ⟨B, 0, none⟩ (.int .i64 x.id)).setCell ⟨B, 1, none⟩ (.int .i64 x.known)).setCell ⟨B, 2, none⟩ (.int .u8 x.kind)).setCell ⟨B, 3, none⟩ (.int .i64 x.loss)).setCell ⟨B, 4, none⟩ (.int .i64 x.pack)).setCell ⟨B, 5, none⟩ (.int .i64 x.inn)).setCell ⟨B, 6, none⟩ (.string ⟨x.mark.toArray⟩)).setCell ⟨B, 7, none⟩ (.string ⟨x.goods.toArray⟩)).setCell ⟨B, 8, none⟩ (.int .i64 x.low)).setCell ⟨B, 9, none⟩ (.int .i64 x.high)).setCell ⟨B, 10, none⟩ (.int .i64 x.pieces)).setCell ⟨B, 11, none⟩ (.int .i64 x.owner)).setCell ⟨B, 12, none⟩ (.int .i64 x.count)).setCell ⟨B, 13, none⟩ (.int .i64 x.of)) = wf at *
      have gb' : BoxG wf B x.vals := g1
      obtain ⟨c0, c1, c2, c3, c4, c5, c6, c7, c8, c9, c10, c11, c12, c13⟩ := BoxG.pa gb'
      have rl := gb'.1
      clear g1 gb'
      exact bodyPost_ret (by simp [results, Tryz.results67, go_sem, c0, c1, c2, c3, c4, c5, c6, c7, c8, c9, c10, c11, c12, c13, rl]) rfl (show FindPost w xs pack (.returned (.tuple #[.agg #[.int .i64 x.id, .int .i64 x.known, .int .u8 x.kind, .int .i64 x.loss, .int .i64 x.pack, .int .i64 x.inn, .string ⟨x.mark.toArray⟩, .string ⟨x.goods.toArray⟩, .int .i64 x.low, .int .i64 x.high, .int .i64 x.pieces, .int .i64 x.owner, .int .i64 x.count, .int .i64 x.of], .bool true])) wf from ⟨HBf.out, x, by rw [HF.out]; rfl, by rw [HF.out]; rfl⟩)
    · have hp' : (x.pack == pack) = false := by simp [hp]
      have HN := Hd (show ∀ y ∈ xs.take (k + 1), y.pack ≠ pack from by
       rw [take_succ_snoc Hx.out]
       intro y hy
       rcases List.mem_append.1 hy with h1 | h1
       · exact HNo.out y h1
       · rw [List.mem_singleton.1 h1]; exact hp)
      clear hp
      go_wp2_with fail
      exact ⟨⟨k + 1, by omega, by go_num, HN.out, by first | rfl | trivial⟩, by simp [intOf]; omega⟩
  · have hltg : ¬ (k : Int) < (n : Int) := by omega
    have HF := Hd (show ofI xs pack = none from ofI_no (by have := HNo.out; rwa [List.take_of_length_le (by rw [Hl.out]; omega)] at this))
    clear hlt
    obtain ⟨d0, d1, d2, d3, d4, d5, d6, d7, d8, d9, d10, d11, d12, d13⟩ := Hb1.out.pa
    dsimp only [pa0] at d0 d1 d2 d3 d4 d5 d6 d7 d8 d9 d10 d11 d12 d13
    have bf := Hb1.out.2.1
    have bl := Hb1.out.1
    go_wp2_with fail
    have hb2' : BoxG wr B [.int .i64 0, .int .i64 0, .int .u8 0, .int .i64 0, .int .i64 0, .int .i64 0, .string ⟨#[]⟩, .string ⟨#[]⟩, .int .i64 0, .int .i64 0, .int .i64 0, .int .i64 0, .int .i64 0, .int .i64 0] := Hb1.out
    obtain ⟨g1, k1⟩ := hb2'.all14 (.int .i64 0) (.int .i64 0) (.int .u8 0) (.int .i64 0) (.int .i64 0) (.int .i64 0) (.string ⟨#[]⟩) (.string ⟨#[]⟩) (.int .i64 0) (.int .i64 0) (.int .i64 0) (.int .i64 0) (.int .i64 0) (.int .i64 0)
    have HBf := Hd (k1.below_then HB.out (fun y hy => by have := HBe.out; have := List.mem_singleton.1 hy; omega) (Nat.le_refl _))
    clear d0 d1 d2 d3 d4 d5 d6 d7 d8 d9 d10 d11 d12 d13 bf bl hb2' k1
    generalize ((((((((((((((wr.setCell ⟨B, 0, none⟩ (.int .i64 0)).setCell ⟨B, 1, none⟩ (.int .i64 0)).setCell ⟨B, 2, none⟩ (.int .u8 0)).setCell ⟨B, 3, none⟩ (.int .i64 0)).setCell ⟨B, 4, none⟩ (.int .i64 0)).setCell ⟨B, 5, none⟩ (.int .i64 0)).setCell ⟨B, 6, none⟩ (.string ⟨#[]⟩)).setCell ⟨B, 7, none⟩ (.string ⟨#[]⟩)).setCell ⟨B, 8, none⟩ (.int .i64 0)).setCell ⟨B, 9, none⟩ (.int .i64 0)).setCell ⟨B, 10, none⟩ (.int .i64 0)).setCell ⟨B, 11, none⟩ (.int .i64 0)).setCell ⟨B, 12, none⟩ (.int .i64 0)).setCell ⟨B, 13, none⟩ (.int .i64 0)) = wf at *
    have gb' : BoxG wf B pa0.vals := g1
    obtain ⟨c0, c1, c2, c3, c4, c5, c6, c7, c8, c9, c10, c11, c12, c13⟩ := BoxG.pa gb'
    have rl := gb'.1
    clear g1 gb'
    exact bodyPost_ret (by simp [results, Tryz.results67, go_sem, c0, c1, c2, c3, c4, c5, c6, c7, c8, c9, c10, c11, c12, c13, rl]) rfl (show FindPost w xs pack (.returned (.tuple #[.agg #[.int .i64 pa0.id, .int .i64 pa0.known, .int .u8 pa0.kind, .int .i64 pa0.loss, .int .i64 pa0.pack, .int .i64 pa0.inn, .string ⟨pa0.mark.toArray⟩, .string ⟨pa0.goods.toArray⟩, .int .i64 pa0.low, .int .i64 pa0.high, .int .i64 pa0.pieces, .int .i64 pa0.owner, .int .i64 pa0.count, .int .i64 pa0.of], .bool false])) wf from ⟨HBf.out, pa0, by rw [HF.out]; rfl, by rw [HF.out]; rfl⟩)
def cntF (l : List Pa) (known : Int) (x : Pa) : Bool := decide (x.kind ≠ 3 ∧ x.known ≤ known) && !voided l known x.id
theorem countL_is (l : List Pa) (known : Int) : countL l known = l.filter (cntF l known) := rfl
def vB (known id : Int) (v : Pa) : Bool := decide (v.kind = 3 ∧ v.known ≤ known ∧ v.of = id)
theorem voided_is (l : List Pa) (known id : Int) : voided l known id = l.any (vB known id) := rfl
theorem filter_yes {l : List Pa} {k : Nat} {x : Pa} (hx : l[k]? = some x) {f : Pa → Bool} (h : f x = true) : (l.take (k + 1)).filter f = (l.take k).filter f ++ [x] := by
 rw [take_succ_snoc hx, List.filter_append]; simp [h]
theorem filter_no {l : List Pa} {k : Nat} {x : Pa} (hx : l[k]? = some x) {f : Pa → Bool} (h : f x = false) : (l.take (k + 1)).filter f = (l.take k).filter f := by
 rw [take_succ_snoc hx, List.filter_append]; simp [h]
def ListPost (w : World) (R : List Pa) (e : Ending) (w' : World) : Prop :=
 ∃ v, e = .returned v ∧ w'.ownsRow w.heap.size 42 14 v R.length (R.flatMap Pa.vals) ∧ Below w.heap.size w w'
set_option maxRecDepth 100000 in
set_option maxHeartbeats 8000000 in
theorem counting_r (a : Option Addr) (n cap : Nat) (xs : List Pa) (hs : ∀ x ∈ xs, x.Short) (known : Int) (w : World) (h : Rd Pa.vals 14 w a n xs) (hcap : n ≤ cap) (hn : n ≤ 100000) :
 Calls Tryz.prog 146 #[.slice a n cap, .int .i64 known] w (ListPost w (countR xs known)) := by
 obtain ⟨i0, hi, hz0, hz1, hz2⟩ := info_parts info_pa
 have C := Hd (rcheck_any a n cap xs hs w h hcap)
 have HR0 := Hd h
 have Hl := Hd h.len
 obtain ⟨E, hE⟩ : ∃ E, (checkC xs).2 = E := ⟨_, rfl⟩
 rw [hE] at C
 have HE := Hd hE
 clear hE h
 go_enter Tryz.func146, Tryz.ntmps146
 go_wp2_with fail
 refine C.out.mono ?_
 rintro e w1 ⟨rfl, hS⟩
 have HB0 := Hd hS
 have HR := Hd (HR0.out.below' hS)
 clear hS C HR0
 by_cases h0 : E = 0
 case neg =>
  have h1 : (E != 0) = true := by simp [h0]
  have HC := Hd (show countR xs known = [] from by unfold countR; rw [if_neg (by rw [HE.out]; exact h0)])
  clear h0
  go_wp2_with fail
  go_ret
  exact ⟨_, rfl, by rw [HC.out]; exact World.ownsRow_nil _ _ _ _, HB0.out⟩
 have h1 : (E != 0) = false := by simp [h0]
 have HC := Hd (show countR xs known = xs.filter (cntF xs known) from by unfold countR; rw [if_pos (by rw [HE.out]; exact h0)]; rfl)
 clear h0 HE
 go_wp2_with fail
 go_loopw [7, 8] (fun v i wr => ∃ k : Nat, k ≤ n ∧ i = .int .i64 k ∧ wr.ownsRow w1.heap.size 42 14 v ((xs.take k).filter (cntF xs known)).length (((xs.take k).filter (cntF xs known)).flatMap Pa.vals) ∧ Below w1.heap.size w1 wr) (fun _ i _ => n - (intOf i).toNat)
 case atStart => exact ⟨0, Nat.zero_le _, rfl, World.ownsRow_nil _ _ _ _, Below.refl _ _⟩
 case round =>
  obtain ⟨k, hk, rfl, hrow, hB⟩ := hrel
  have HRow := Hd hrow
  have HB := Hd hB
  have HRr := Hd (HR.out.below' hB)
  clear hrow hB
  by_cases hlt : k < n
  · have hlt' : (k : Int) < (n : Int) := by omega
    obtain ⟨b, off, x, hpa, hb, hx, c0, c1, c2, c3, c4, c5, c6, c7, c8, c9, c10, c11, c12, c13⟩ := HRr.out.pa hlt
    subst hpa
    have Hx := Hd hx
    clear hx
    by_cases hk3 : x.kind = 3
    · have hk1 : (x.kind != 3) = false := by simp [hk3]
      have hk3' := hk3
      clear hk3
      have HCb := Hd (show decide (x.kind ≠ 3 ∧ x.known ≤ known) = false from by simp [hk3'])
      clear hk3' c3 c4 c5 c6 c7 c8 c9 c10 c11 c12 c13
      go_upto_region 9 with (fail)
      obtain ⟨wo, rfl⟩ : ∃ wo : World, wo = wr := ⟨_, rfl⟩
      have HC0 := Hd c0
      clear c0 c1 c2
      go_wp2_with fail
      go_loopw [9, 10] (fun cv i wr2 => ∃ j : Nat, j ≤ n ∧ i = .int .i64 j ∧ cv = .bool (false && !((xs.take j).any (vB known x.id))) ∧ Below wo.heap.size wo wr2) (fun _ i _ => n - (intOf i).toNat)
      case atStart => exact ⟨0, Nat.zero_le _, rfl, rfl, Below.refl _ _⟩
      case round =>
       obtain ⟨j, hj, rfl, rfl, hB2⟩ := hrel
       obtain ⟨ab, hab⟩ : ∃ b, (xs.take j).any (vB known x.id) = b := ⟨_, rfl⟩
       rw [hab]
       have HAb := Hd hab
       have HB2 := Hd hB2
       have HR2 := Hd (HRr.out.below' hB2)
       have c0 := cell_stays HC0.out hB2
       clear hab hB2
       by_cases hlj : j < n
       · have hlj' : (j : Int) < (n : Int) := by omega
         obtain ⟨b2, off2, y, hpa2, hb2, hy, d0, d1, d2, d3, d4, d5, d6, d7, d8, d9, d10, d11, d12, d13⟩ := HR2.out.pa hlj
         obtain ⟨rfl, rfl⟩ : b = b2 ∧ off = off2 := by injection hpa2 with e; injection e with e1 e2; exact ⟨e1, e2⟩
         have Hy := Hd hy
         clear hy hpa2 d0 d3 d4 d5 d6 d7 d8 d9 d10 d11 d12
         by_cases g1 : y.kind = 3
         case neg =>
          have g1' : (y.kind == 3) = false := by simp [g1]
          have HA2 := Hd (show (xs.take (j + 1)).any (vB known x.id) = ab from by rw [any_snocP Hy.out, HAb.out]; simp [vB, g1])
          cases ab
          all_goals
           go_wp2_with fail
           go_quiet (fail)
           go_wp2_with fail
           exact ⟨⟨j + 1, by omega, by go_num, by rw [HA2.out] <;> rfl, below_drewN HB2.out _⟩, by simp [intOf]; omega⟩
         have g1' : (y.kind == 3) = true := by simp [g1]
         by_cases g2 : y.of = x.id
         case neg =>
          have g2' : (y.of == x.id) = false := by simp [g2]
          have HA2 := Hd (show (xs.take (j + 1)).any (vB known x.id) = ab from by rw [any_snocP Hy.out, HAb.out]; simp [vB, g2])
          cases ab
          all_goals
           go_wp2_with fail
           go_quiet (fail)
           go_wp2_with fail
           exact ⟨⟨j + 1, by omega, by go_num, by rw [HA2.out] <;> rfl, below_drewN HB2.out _⟩, by simp [intOf]; omega⟩
         have g2' : (y.of == x.id) = true := by simp [g2]
         by_cases g3 : y.known ≤ known
         case neg =>
          have g3' : decide (y.known ≤ known) = false := decide_eq_false g3
          have HA2 := Hd (show (xs.take (j + 1)).any (vB known x.id) = ab from by rw [any_snocP Hy.out, HAb.out]; simp [vB, g3])
          cases ab
          all_goals
           go_wp2_with fail
           go_quiet (fail)
           go_wp2_with fail
           exact ⟨⟨j + 1, by omega, by go_num, by rw [HA2.out] <;> rfl, below_drewN HB2.out _⟩, by simp [intOf]; omega⟩
         have g3' : decide (y.known ≤ known) = true := decide_eq_true g3
         have HA2 := Hd (show (xs.take (j + 1)).any (vB known x.id) = true from by rw [any_snocP Hy.out]; simp [vB, g1, g2, g3])
         cases ab
         all_goals
          go_wp2_with fail
          go_quiet (fail)
          go_wp2_with fail
          exact ⟨⟨j + 1, by omega, by go_num, by rw [HA2.out] <;> rfl, below_drewN HB2.out _⟩, by simp [intOf]; omega⟩
       · have hltg : ¬ (j : Int) < (n : Int) := by omega
         have HF := Hd (show cntF xs known x = (false && !ab) from by unfold cntF; rw [HCb.out, voided_is, ← HAb.out, List.take_of_length_le (by rw [Hl.out]; omega)])
         have HB3 := Hd (HB.out.trans (HB2.out.mono HB.out.size))
         have HRow3 := Hd (own_later' HRow.out HB2.out)
         obtain ⟨b2, off2, y, hpa2, hb2, hy, d0, d1, d2, d3, d4, d5, d6, d7, d8, d9, d10, d11, d12, d13⟩ := HR2.out.pa hlt
         obtain ⟨rfl, rfl⟩ : b = b2 ∧ off = off2 := by injection hpa2 with e; injection e with e1 e2; exact ⟨e1, e2⟩
         obtain rfl : x = y := Option.some.inj (Hx.out.symm.trans hy)
         clear hy hpa2 HAb hlj c0
         have hcl : ((xs.take k).filter (cntF xs known)).length ≤ n := Nat.le_trans (List.length_filter_le _ _) (by rw [List.length_take, Hl.out]; omega)
         have HN := Hd (filter_no Hx.out (HF.out.trans rfl))
         cases ab
         all_goals
          go_wp2_with fail
          exact ⟨⟨k + 1, by omega, by go_num, by rw [HN.out]; exact HRow3.out, HB3.out⟩, by simp [intOf]; omega⟩
    have hk1 : (x.kind != 3) = true := by simp [hk3]
    by_cases hkn : x.known ≤ known
    · have hkn' : decide (x.known ≤ known) = true := decide_eq_true hkn
      have HCb := Hd (show decide (x.kind ≠ 3 ∧ x.known ≤ known) = true from by simp [hk3, hkn])
      clear hk3 c3 c4 c5 c6 c7 c8 c9 c10 c11 c12 c13
      go_upto_region 9 with (fail)
      obtain ⟨wo, rfl⟩ : ∃ wo : World, wo = wr := ⟨_, rfl⟩
      have HC0 := Hd c0
      clear c0 c1 c2
      go_wp2_with fail
      go_loopw [9, 10] (fun cv i wr2 => ∃ j : Nat, j ≤ n ∧ i = .int .i64 j ∧ cv = .bool (true && !((xs.take j).any (vB known x.id))) ∧ Below wo.heap.size wo wr2) (fun _ i _ => n - (intOf i).toNat)
      case atStart => exact ⟨0, Nat.zero_le _, rfl, rfl, Below.refl _ _⟩
      case round =>
       obtain ⟨j, hj, rfl, rfl, hB2⟩ := hrel
       obtain ⟨ab, hab⟩ : ∃ b, (xs.take j).any (vB known x.id) = b := ⟨_, rfl⟩
       rw [hab]
       have HAb := Hd hab
       have HB2 := Hd hB2
       have HR2 := Hd (HRr.out.below' hB2)
       have c0 := cell_stays HC0.out hB2
       clear hab hB2
       by_cases hlj : j < n
       · have hlj' : (j : Int) < (n : Int) := by omega
         obtain ⟨b2, off2, y, hpa2, hb2, hy, d0, d1, d2, d3, d4, d5, d6, d7, d8, d9, d10, d11, d12, d13⟩ := HR2.out.pa hlj
         obtain ⟨rfl, rfl⟩ : b = b2 ∧ off = off2 := by injection hpa2 with e; injection e with e1 e2; exact ⟨e1, e2⟩
         have Hy := Hd hy
         clear hy hpa2 d0 d3 d4 d5 d6 d7 d8 d9 d10 d11 d12
         by_cases g1 : y.kind = 3
         case neg =>
          have g1' : (y.kind == 3) = false := by simp [g1]
          have HA2 := Hd (show (xs.take (j + 1)).any (vB known x.id) = ab from by rw [any_snocP Hy.out, HAb.out]; simp [vB, g1])
          cases ab
          all_goals
           go_wp2_with fail
           go_quiet (fail)
           go_wp2_with fail
           exact ⟨⟨j + 1, by omega, by go_num, by rw [HA2.out] <;> rfl, below_drewN HB2.out _⟩, by simp [intOf]; omega⟩
         have g1' : (y.kind == 3) = true := by simp [g1]
         by_cases g2 : y.of = x.id
         case neg =>
          have g2' : (y.of == x.id) = false := by simp [g2]
          have HA2 := Hd (show (xs.take (j + 1)).any (vB known x.id) = ab from by rw [any_snocP Hy.out, HAb.out]; simp [vB, g2])
          cases ab
          all_goals
           go_wp2_with fail
           go_quiet (fail)
           go_wp2_with fail
           exact ⟨⟨j + 1, by omega, by go_num, by rw [HA2.out] <;> rfl, below_drewN HB2.out _⟩, by simp [intOf]; omega⟩
         have g2' : (y.of == x.id) = true := by simp [g2]
         by_cases g3 : y.known ≤ known
         case neg =>
          have g3' : decide (y.known ≤ known) = false := decide_eq_false g3
          have HA2 := Hd (show (xs.take (j + 1)).any (vB known x.id) = ab from by rw [any_snocP Hy.out, HAb.out]; simp [vB, g3])
          cases ab
          all_goals
           go_wp2_with fail
           go_quiet (fail)
           go_wp2_with fail
           exact ⟨⟨j + 1, by omega, by go_num, by rw [HA2.out] <;> rfl, below_drewN HB2.out _⟩, by simp [intOf]; omega⟩
         have g3' : decide (y.known ≤ known) = true := decide_eq_true g3
         have HA2 := Hd (show (xs.take (j + 1)).any (vB known x.id) = true from by rw [any_snocP Hy.out]; simp [vB, g1, g2, g3])
         cases ab
         all_goals
          go_wp2_with fail
          go_quiet (fail)
          go_wp2_with fail
          exact ⟨⟨j + 1, by omega, by go_num, by rw [HA2.out] <;> rfl, below_drewN HB2.out _⟩, by simp [intOf]; omega⟩
       · have hltg : ¬ (j : Int) < (n : Int) := by omega
         have HF := Hd (show cntF xs known x = (true && !ab) from by unfold cntF; rw [HCb.out, voided_is, ← HAb.out, List.take_of_length_le (by rw [Hl.out]; omega)])
         have HB3 := Hd (HB.out.trans (HB2.out.mono HB.out.size))
         have HRow3 := Hd (own_later' HRow.out HB2.out)
         obtain ⟨b2, off2, y, hpa2, hb2, hy, d0, d1, d2, d3, d4, d5, d6, d7, d8, d9, d10, d11, d12, d13⟩ := HR2.out.pa hlt
         obtain ⟨rfl, rfl⟩ : b = b2 ∧ off = off2 := by injection hpa2 with e; injection e with e1 e2; exact ⟨e1, e2⟩
         obtain rfl : x = y := Option.some.inj (Hx.out.symm.trans hy)
         clear hy hpa2 HAb hlj c0
         have hcl : ((xs.take k).filter (cntF xs known)).length ≤ n := Nat.le_trans (List.length_filter_le _ _) (by rw [List.length_take, Hl.out]; omega)
         cases ab with
         | true =>
           have HN := Hd (filter_no Hx.out (HF.out.trans rfl))
           go_wp2_with fail
           exact ⟨⟨k + 1, by omega, by go_num, by rw [HN.out]; exact HRow3.out, HB3.out⟩, by simp [intOf]; omega⟩
         | false =>
           have HN := Hd (filter_yes Hx.out (HF.out.trans rfl))
           go_wp2_with (at_builtin; refine wpList_append_own _ rfl _ _ 22 rfl w1.heap.size 42 i0 _ 14 128 Tryz.underlying22 hi hz0 hz1 hz2 rfl (by decide) _ _ _ rfl (HRow3.out.alloc _) ⟨wr.heap.size, 0, none⟩ 1 1 (Pa.vals x) rfl rfl (World.news_of_block (cs := #[.int .i64 x.id, .int .i64 x.known, .int .u8 x.kind, .int .i64 x.loss, .int .i64 x.pack, .int .i64 x.inn, .string ⟨x.mark.toArray⟩, .string ⟨x.goods.toArray⟩, .int .i64 x.low, .int .i64 x.high, .int .i64 x.pieces, .int .i64 x.owner, .int .i64 x.count, .int .i64 x.of]) (t := 42) (fr := (0, 0)) (heap_alloc_new wr _)) (by simp [Pa.vals, Value.oneCell']) (by unfold maxLen; omega) (by omega) (Nat.le_trans HB3.out.size (by simp)) ?_; intro v2 w2 hown2 hgrow2 _)
           have HB4 := Hd ((HB3.out.alloc HB3.out.size (.cells #[.int .i64 x.id, .int .i64 x.known, .int .u8 x.kind, .int .i64 x.loss, .int .i64 x.pack, .int .i64 x.inn, .string ⟨x.mark.toArray⟩, .string ⟨x.goods.toArray⟩, .int .i64 x.low, .int .i64 x.high, .int .i64 x.pieces, .int .i64 x.owner, .int .i64 x.count, .int .i64 x.of] 42)).grown hgrow2 (Nat.le_trans HB3.out.size (by simp)) (fun k e => (HRow3.out.lt k e).1))
           have HO2 := Hd (own_pa_next hown2)
           clear hgrow2 hown2 d0 d1 d2 d3 d4 d5 d6 d7 d8 d9 d10 d11 d12 d13
           go_wp2_with fail
           exact ⟨⟨k + 1, by omega, by go_num, by rw [HN.out, List.length_append]; exact HO2.out, HB4.out⟩, by simp [intOf]; omega⟩
    · have hkn' : decide (x.known ≤ known) = false := decide_eq_false hkn
      have HCb := Hd (show decide (x.kind ≠ 3 ∧ x.known ≤ known) = false from by simp [hkn])
      clear hk3 c3 c4 c5 c6 c7 c8 c9 c10 c11 c12 c13
      go_upto_region 9 with (fail)
      obtain ⟨wo, rfl⟩ : ∃ wo : World, wo = wr := ⟨_, rfl⟩
      have HC0 := Hd c0
      clear c0 c1 c2
      go_wp2_with fail
      go_loopw [9, 10] (fun cv i wr2 => ∃ j : Nat, j ≤ n ∧ i = .int .i64 j ∧ cv = .bool (false && !((xs.take j).any (vB known x.id))) ∧ Below wo.heap.size wo wr2) (fun _ i _ => n - (intOf i).toNat)
      case atStart => exact ⟨0, Nat.zero_le _, rfl, rfl, Below.refl _ _⟩
      case round =>
       obtain ⟨j, hj, rfl, rfl, hB2⟩ := hrel
       obtain ⟨ab, hab⟩ : ∃ b, (xs.take j).any (vB known x.id) = b := ⟨_, rfl⟩
       rw [hab]
       have HAb := Hd hab
       have HB2 := Hd hB2
       have HR2 := Hd (HRr.out.below' hB2)
       have c0 := cell_stays HC0.out hB2
       clear hab hB2
       by_cases hlj : j < n
       · have hlj' : (j : Int) < (n : Int) := by omega
         obtain ⟨b2, off2, y, hpa2, hb2, hy, d0, d1, d2, d3, d4, d5, d6, d7, d8, d9, d10, d11, d12, d13⟩ := HR2.out.pa hlj
         obtain ⟨rfl, rfl⟩ : b = b2 ∧ off = off2 := by injection hpa2 with e; injection e with e1 e2; exact ⟨e1, e2⟩
         have Hy := Hd hy
         clear hy hpa2 d0 d3 d4 d5 d6 d7 d8 d9 d10 d11 d12
         by_cases g1 : y.kind = 3
         case neg =>
          have g1' : (y.kind == 3) = false := by simp [g1]
          have HA2 := Hd (show (xs.take (j + 1)).any (vB known x.id) = ab from by rw [any_snocP Hy.out, HAb.out]; simp [vB, g1])
          cases ab
          all_goals
           go_wp2_with fail
           go_quiet (fail)
           go_wp2_with fail
           exact ⟨⟨j + 1, by omega, by go_num, by rw [HA2.out] <;> rfl, below_drewN HB2.out _⟩, by simp [intOf]; omega⟩
         have g1' : (y.kind == 3) = true := by simp [g1]
         by_cases g2 : y.of = x.id
         case neg =>
          have g2' : (y.of == x.id) = false := by simp [g2]
          have HA2 := Hd (show (xs.take (j + 1)).any (vB known x.id) = ab from by rw [any_snocP Hy.out, HAb.out]; simp [vB, g2])
          cases ab
          all_goals
           go_wp2_with fail
           go_quiet (fail)
           go_wp2_with fail
           exact ⟨⟨j + 1, by omega, by go_num, by rw [HA2.out] <;> rfl, below_drewN HB2.out _⟩, by simp [intOf]; omega⟩
         have g2' : (y.of == x.id) = true := by simp [g2]
         by_cases g3 : y.known ≤ known
         case neg =>
          have g3' : decide (y.known ≤ known) = false := decide_eq_false g3
          have HA2 := Hd (show (xs.take (j + 1)).any (vB known x.id) = ab from by rw [any_snocP Hy.out, HAb.out]; simp [vB, g3])
          cases ab
          all_goals
           go_wp2_with fail
           go_quiet (fail)
           go_wp2_with fail
           exact ⟨⟨j + 1, by omega, by go_num, by rw [HA2.out] <;> rfl, below_drewN HB2.out _⟩, by simp [intOf]; omega⟩
         have g3' : decide (y.known ≤ known) = true := decide_eq_true g3
         have HA2 := Hd (show (xs.take (j + 1)).any (vB known x.id) = true from by rw [any_snocP Hy.out]; simp [vB, g1, g2, g3])
         cases ab
         all_goals
          go_wp2_with fail
          go_quiet (fail)
          go_wp2_with fail
          exact ⟨⟨j + 1, by omega, by go_num, by rw [HA2.out] <;> rfl, below_drewN HB2.out _⟩, by simp [intOf]; omega⟩
       · have hltg : ¬ (j : Int) < (n : Int) := by omega
         have HF := Hd (show cntF xs known x = (false && !ab) from by unfold cntF; rw [HCb.out, voided_is, ← HAb.out, List.take_of_length_le (by rw [Hl.out]; omega)])
         have HB3 := Hd (HB.out.trans (HB2.out.mono HB.out.size))
         have HRow3 := Hd (own_later' HRow.out HB2.out)
         obtain ⟨b2, off2, y, hpa2, hb2, hy, d0, d1, d2, d3, d4, d5, d6, d7, d8, d9, d10, d11, d12, d13⟩ := HR2.out.pa hlt
         obtain ⟨rfl, rfl⟩ : b = b2 ∧ off = off2 := by injection hpa2 with e; injection e with e1 e2; exact ⟨e1, e2⟩
         obtain rfl : x = y := Option.some.inj (Hx.out.symm.trans hy)
         clear hy hpa2 HAb hlj c0
         have hcl : ((xs.take k).filter (cntF xs known)).length ≤ n := Nat.le_trans (List.length_filter_le _ _) (by rw [List.length_take, Hl.out]; omega)
         have HN := Hd (filter_no Hx.out (HF.out.trans rfl))
         cases ab
         all_goals
          go_wp2_with fail
          exact ⟨⟨k + 1, by omega, by go_num, by rw [HN.out]; exact HRow3.out, HB3.out⟩, by simp [intOf]; omega⟩
  · have hltg : ¬ (k : Int) < (n : Int) := by omega
    have HK := Hd (show (xs.take k).filter (cntF xs known) = countR xs known from by rw [HC.out, List.take_of_length_le (by rw [Hl.out]; omega)])
    clear hlt
    rw [HK.out] at HRow
    go_wp2_with fail
    go_ret
    exact ⟨_, rfl, ownsRow_mono HRow.out HB0.out.size, HB0.out.trans (HB.out.mono HB0.out.size)⟩
theorem lastK_snoc (l : List Pa) (x : Pa) (loss kd p : Int) : lastK (l ++ [x]) loss kd p = if x.loss = loss ∧ x.kind = kd ∧ x.pack = p then some x else lastK l loss kd p := by
 unfold lastK
 rw [List.filter_append]
 by_cases h : x.loss = loss ∧ x.kind = kd ∧ x.pack = p
 · rw [if_pos h]; simp [h]
 · rw [if_neg h]; simp [h]
theorem lastK_mem {c : List Pa} {loss kd p : Int} {x : Pa} (h : lastK c loss kd p = some x) : x ∈ c ∧ x.pack = p ∧ x.kind = kd := by
 unfold lastK at h
 have := List.mem_of_getLast? h
 rw [List.mem_filter] at this
 simp only [decide_eq_true_eq] at this
 exact ⟨this.1, this.2.2.2, this.2.2.1⟩
theorem packsU_get {p : Nat} (h : p < 201) : packsU[p]? = some (p : Int) := by
 unfold packsU; rw [List.getElem?_map, List.getElem?_range h]; rfl
theorem packsU_snoc {p : Nat} (h : p < 201) : packsU.take (p + 1) = packsU.take p ++ [(p : Int)] := take_succ_snoc (packsU_get h)
theorem fm_yes {f : Int → Option Pa} {p : Nat} (h : p < 201) {x : Pa} (hx : f p = some x) : (packsU.take (p + 1)).filterMap f = (packsU.take p).filterMap f ++ [x] := by
 rw [packsU_snoc h, List.filterMap_append]; simp [hx]
theorem fm_no {f : Int → Option Pa} {p : Nat} (h : p < 201) (hx : f p = none) : (packsU.take (p + 1)).filterMap f = (packsU.take p).filterMap f := by
 rw [packsU_snoc h, List.filterMap_append]; simp [hx]
theorem countR_len (xs : List Pa) (known : Int) : (countR xs known).length ≤ xs.length := by
 unfold countR countL; split
 · exact List.length_filter_le _ _
 · simp
def LastIs (C : List Pa) (j : Nat) (loss kd p : Int) (v : Value) : Prop :=
 (v = .int .i64 (-1) ∧ lastK (C.take j) loss kd p = none) ∨ ∃ (m : Nat) (y : Pa), v = .int .i64 m ∧ C[m]? = some y ∧ lastK (C.take j) loss kd p = some y
set_option maxRecDepth 100000 in
set_option maxHeartbeats 8000000 in
theorem lasts_r (a : Option Addr) (n cap : Nat) (xs : List Pa) (hs : ∀ x ∈ xs, x.Short) (known loss kd : Int) (w : World) (h : Rd Pa.vals 14 w a n xs) (hcap : n ≤ cap) (hn : n ≤ 100000) :
 Calls Tryz.prog 129 #[.slice a n cap, .int .i64 known, .int .i64 loss, .int .u8 kd] w (ListPost w (lastsR (countR xs known) loss kd)) := by
 obtain ⟨i0, hi, hz0, hz1, hz2⟩ := info_parts info_pa
 have C := Hd (counting_r a n cap xs hs known w h hcap hn)
 have hcl : (countR xs known).length ≤ 100000 := Nat.le_trans (countR_len xs known) (by rw [h.len]; exact hn)
 obtain ⟨Cs, hCs⟩ : ∃ Cs, countR xs known = Cs := ⟨_, rfl⟩
 rw [hCs] at C hcl ⊢
 clear hCs h
 go_enter Tryz.func129, Tryz.ntmps129
 go_wp2_with fail
 refine C.out.mono ?_
 rintro e w1 ⟨vC, rfl, hrow, hS⟩
 obtain ⟨ca, hn2⟩ : ∃ m, Cs.length = m := ⟨_, rfl⟩
 rw [hn2] at hrow hcl
 obtain ⟨cq, cc0, rfl, hcc, hrd, _⟩ := Rd.of_own hrow Pa.vals_length (by decide) hn2 (by unfold maxLen; omega)
 have HRd := Hd hrd
 have HB0 := Hd hS
 have Hn2 := Hd hn2
 clear hS C hrow hrd hn2
 go_wp2_with fail
 go_loopw [10, 11] (fun v p wr => ∃ k : Nat, k ≤ 201 ∧ p = .int .i64 k ∧ wr.ownsRow w1.heap.size 42 14 v ((packsU.take k).filterMap (lastK Cs loss kd)).length (((packsU.take k).filterMap (lastK Cs loss kd)).flatMap Pa.vals) ∧ Below w1.heap.size w1 wr) (fun _ p _ => 201 - (intOf p).toNat)
 case atStart => exact ⟨0, Nat.zero_le _, rfl, World.ownsRow_nil _ _ _ _, Below.refl _ _⟩
 case round =>
  obtain ⟨k, hk, rfl, hrow, hB⟩ := hrel
  have HRow := Hd hrow
  have HB := Hd hB
  have HR := Hd (HRd.out.below' hB)
  clear hrow hB
  by_cases hlt : k < 201
  · have hlt' : (k : Int) ≤ 200 := by omega
    obtain ⟨wo, rfl⟩ : ∃ wo : World, wo = wr := ⟨_, rfl⟩
    go_wp2_with fail
    go_loopw [12, 13] (fun v i wr2 => ∃ j : Nat, j ≤ ca ∧ i = .int .i64 j ∧ LastIs Cs j loss kd k v ∧ wr2 = wo) (fun _ i _ => ca - (intOf i).toNat)
    case atStart => exact ⟨0, Nat.zero_le _, rfl, .inl ⟨rfl, rfl⟩, rfl⟩
    case round =>
     obtain ⟨j, hj, rfl, hla, rfl⟩ := hrel
     have HLa := Hd hla
     clear hla
     by_cases hlj : j < ca
     · have hlj' : (j : Int) < (ca : Int) := by omega
       obtain ⟨b, off, y, hpa, hb, hy, c0, c1, c2, c3, c4, c5, c6, c7, c8, c9, c10, c11, c12, c13⟩ := HR.out.pa hlj
       subst hpa
       have Hy := Hd hy
       clear hy
       have HSn := Hd (show lastK (Cs.take (j + 1)) loss kd k = if y.loss = loss ∧ y.kind = kd ∧ y.pack = (k : Int) then some y else lastK (Cs.take j) loss kd k from by rw [take_succ_snoc Hy.out, lastK_snoc])
       have HNo := Hd (show ¬ (y.loss = loss ∧ y.kind = kd ∧ y.pack = (k : Int)) → ∀ v, LastIs Cs j loss kd k v → LastIs Cs (j + 1) loss kd k v from fun hq v hv => by
        have e := HSn.out
        rw [if_neg hq] at e
        rcases hv with ⟨h1, h2⟩ | ⟨m, z, h1, h2, h3⟩
        · exact .inl ⟨h1, e.trans h2⟩
        · exact .inr ⟨m, z, h1, h2, e.trans h3⟩)
       by_cases g1 : y.loss = loss
       case neg =>
        have g1' : (y.loss == loss) = false := by simp [g1]
        have HN := Hd (HNo.out (fun h => g1 h.1) _ HLa.out)
        clear g1
        go_wp2_with fail
        exact ⟨⟨j + 1, by omega, by go_num, HN.out, by first | rfl | trivial⟩, by simp [intOf]; omega⟩
       have g1' : (y.loss == loss) = true := by simp [g1]
       by_cases g2 : y.kind = kd
       case neg =>
        have g2' : (y.kind == kd) = false := by simp [g2]
        have HN := Hd (HNo.out (fun h => g2 h.2.1) _ HLa.out)
        clear g1 g2
        go_wp2_with fail
        exact ⟨⟨j + 1, by omega, by go_num, HN.out, by first | rfl | trivial⟩, by simp [intOf]; omega⟩
       have g2' : (y.kind == kd) = true := by simp [g2]
       by_cases g3 : y.pack = (k : Int)
       case neg =>
        have g3' : (y.pack == (k : Int)) = false := by simp [g3]
        have HN := Hd (HNo.out (fun h => g3 h.2.2) _ HLa.out)
        clear g1 g2 g3
        go_wp2_with fail
        exact ⟨⟨j + 1, by omega, by go_num, HN.out, by first | rfl | trivial⟩, by simp [intOf]; omega⟩
       have g3' : (y.pack == (k : Int)) = true := by simp [g3]
       have HN := Hd (show LastIs Cs (j + 1) loss kd k (.int .i64 j) from .inr ⟨j, y, rfl, Hy.out, by rw [HSn.out, if_pos ⟨g1, g2, g3⟩]⟩)
       clear g1 g2 g3
       go_wp2_with fail
       exact ⟨⟨j + 1, by omega, by go_num, HN.out, by first | rfl | trivial⟩, by simp [intOf]; omega⟩
     · have hltg : ¬ (j : Int) < (ca : Int) := by omega
       have hfl : ((packsU.take k).filterMap (lastK Cs loss kd)).length ≤ 201 := Nat.le_trans (List.length_filterMap_le _ _) (by rw [List.length_take]; omega)
       have ht : Cs.take j = Cs := List.take_of_length_le (by rw [Hn2.out]; omega)
       rcases HLa.out with ⟨rfl, hnone⟩ | ⟨m, y, rfl, hm, hsome⟩
       · rw [ht] at hnone
         have HN := Hd (fm_no hlt hnone)
         clear hnone hlj ht HLa
         go_wp2_with fail
         exact ⟨⟨k + 1, by omega, by go_num, by rw [HN.out]; exact HRow.out, HB.out⟩, by simp [intOf]; omega⟩
       · rw [ht] at hsome
         have HN := Hd (fm_yes hlt hsome)
         have hmlt : m < ca := by have := (List.getElem?_eq_some_iff.1 hm).1; rw [Hn2.out] at this; exact this
         have hmlt' : (m : Int) < (ca : Int) := by omega
         obtain ⟨b, off, y2, hpa, hb, hy, c0, c1, c2, c3, c4, c5, c6, c7, c8, c9, c10, c11, c12, c13⟩ := HR.out.pa hmlt
         subst hpa
         obtain rfl : y = y2 := Option.some.inj (hm.symm.trans hy)
         clear hsome hlj ht HLa hm hy
         go_wp2_with (at_builtin; refine wpList_append_own _ rfl _ _ 22 rfl w1.heap.size 42 i0 _ 14 128 Tryz.underlying22 hi hz0 hz1 hz2 rfl (by decide) _ _ _ rfl (HRow.out.alloc _) ⟨wr.heap.size, 0, none⟩ 1 1 (Pa.vals y) rfl rfl (World.news_of_block (cs := #[.int .i64 y.id, .int .i64 y.known, .int .u8 y.kind, .int .i64 y.loss, .int .i64 y.pack, .int .i64 y.inn, .string ⟨y.mark.toArray⟩, .string ⟨y.goods.toArray⟩, .int .i64 y.low, .int .i64 y.high, .int .i64 y.pieces, .int .i64 y.owner, .int .i64 y.count, .int .i64 y.of]) (t := 42) (fr := (0, 0)) (heap_alloc_new wr _)) (by simp [Pa.vals, Value.oneCell']) (by unfold maxLen; omega) (by omega) (Nat.le_trans HB.out.size (by simp)) ?_; intro v2 w2 hown2 hgrow2 _)
         have HB4 := Hd ((HB.out.alloc HB.out.size (.cells #[.int .i64 y.id, .int .i64 y.known, .int .u8 y.kind, .int .i64 y.loss, .int .i64 y.pack, .int .i64 y.inn, .string ⟨y.mark.toArray⟩, .string ⟨y.goods.toArray⟩, .int .i64 y.low, .int .i64 y.high, .int .i64 y.pieces, .int .i64 y.owner, .int .i64 y.count, .int .i64 y.of] 42)).grown hgrow2 (Nat.le_trans HB.out.size (by simp)) (fun k e => (HRow.out.lt k e).1))
         have HO2 := Hd (own_pa_next hown2)
         clear hgrow2 hown2 c0 c1 c2 c3 c4 c5 c6 c7 c8 c9 c10 c11 c12 c13
         go_wp2_with fail
         exact ⟨⟨k + 1, by omega, by go_num, by rw [HN.out, List.length_append]; exact HO2.out, HB4.out⟩, by simp [intOf]; omega⟩
  · have hltg : ¬ (k : Int) ≤ 200 := by omega
    have HK := Hd (show (packsU.take k).filterMap (lastK Cs loss kd) = lastsR Cs loss kd from by unfold lastsR; rw [List.take_of_length_le (by rw [packsU_length]; omega)])
    clear hlt
    rw [HK.out] at HRow
    go_wp2_with fail
    go_ret
    exact ⟨_, rfl, ownsRow_mono HRow.out HB0.out.size, HB0.out.trans (HB.out.mono HB0.out.size)⟩
theorem packages_r (a : Option Addr) (n cap : Nat) (xs : List Pa) (hs : ∀ x ∈ xs, x.Short) (known loss : Int) (w : World) (h : Rd Pa.vals 14 w a n xs) (hcap : n ≤ cap) (hn : n ≤ 100000) :
 Calls Tryz.prog 107 #[.slice a n cap, .int .i64 known, .int .i64 loss] w (ListPost w (papersO xs known loss)) := by
 have C := Hd (lasts_r a n cap xs hs known loss 1 w h hcap hn)
 rw [show lastsR (countR xs known) loss 1 = papersO xs known loss from packagesR_is xs known loss] at C
 clear h
 go_enter Tryz.func107, Tryz.ntmps107
 go_wp2_with fail
 refine C.out.mono ?_
 rintro e w1 ⟨v, rfl, hrow, hS⟩
 have HP := Hd (And.intro hrow hS)
 clear hrow hS C
 go_wp2_with fail
 go_ret
 exact ⟨_, rfl, HP.out.1, HP.out.2⟩
theorem papersO_len (xs : List Pa) (known loss : Int) : (papersO xs known loss).length ≤ 201 ∧ (totalsO xs known loss).length ≤ 201 := by
 rw [← packagesR_is, ← totalsR_is]
 have h1 : ∀ kd, (lastsR (countR xs known) loss kd).length ≤ 201 := fun kd => Nat.le_trans (List.length_filterMap_le _ _) (by rw [packsU_length]; exact Nat.le_refl _)
 exact ⟨h1 1, Nat.le_trans (List.length_filter_le _ _) (h1 2)⟩
set_option maxRecDepth 100000 in
set_option maxHeartbeats 8000000 in
theorem totals_r (a : Option Addr) (n cap : Nat) (xs : List Pa) (hs : ∀ x ∈ xs, x.Short) (known loss : Int) (w : World) (h : Rd Pa.vals 14 w a n xs) (hcap : n ≤ cap) (hn : n ≤ 100000) :
 Calls Tryz.prog 108 #[.slice a n cap, .int .i64 known, .int .i64 loss] w (ListPost w (totalsO xs known loss)) := by
 obtain ⟨i0, hi, hz0, hz1, hz2⟩ := info_parts info_pa
 have CP := Hd (packages_r a n cap xs hs known loss w h hcap hn)
 have CL := Hd (fun W (hB : Below w.heap.size w W) => lasts_r a n cap xs hs known loss 2 W (h.below' hB) hcap hn)
 have HT := Hd (show totalsO xs known loss = (lastsR (countR xs known) loss 2).filter (isThere (papersO xs known loss)) from by rw [← totalsR_is, totalsR, packagesR_is])
 have hpl := (papersO_len xs known loss).1
 have htl : (lastsR (countR xs known) loss 2).length ≤ 201 := Nat.le_trans (List.length_filterMap_le _ _) (by rw [packsU_length]; exact Nat.le_refl _)
 obtain ⟨PS, hPS⟩ : ∃ P, papersO xs known loss = P := ⟨_, rfl⟩
 obtain ⟨TS, hTS⟩ : ∃ P, lastsR (countR xs known) loss 2 = P := ⟨_, rfl⟩
 rw [hPS] at CP HT hpl
 rw [hTS] at CL HT htl
 clear hPS hTS h
 go_enter Tryz.func108, Tryz.ntmps108
 go_wp2_with fail
 refine CP.out.mono ?_
 rintro e w1 ⟨vP, rfl, hrow, hS⟩
 obtain ⟨pn, hpn⟩ : ∃ m, PS.length = m := ⟨_, rfl⟩
 rw [hpn] at hrow hpl
 obtain ⟨pa, pc, rfl, _, hrp, _⟩ := Rd.of_own hrow Pa.vals_length (by decide) hpn (by unfold maxLen; omega)
 have HRp := Hd hrp
 have HB := Hd hS
 clear hrow hrp hpn hS CP
 go_wp2_with fail
 refine (CL.out _ HB.out).mono ?_
 rintro e w2 ⟨vT, rfl, hrow, hS⟩
 obtain ⟨tn, htn⟩ : ∃ m, TS.length = m := ⟨_, rfl⟩
 rw [htn] at hrow htl
 obtain ⟨ta, tc, rfl, _, hrt, _⟩ := Rd.of_own hrow Pa.vals_length (by decide) htn (by unfold maxLen; omega)
 have HRt := Hd hrt
 have HRp2 := Hd (HRp.out.below' hS)
 have HB0 := Hd (HB.out.trans (hS.mono HB.out.size))
 have Htn := Hd htn
 clear hrow hrt htn hS CL HRp HB
 go_wp2_with fail
 go_loopw [9, 10] (fun v i wr => ∃ k : Nat, k ≤ tn ∧ i = .int .i64 k ∧ wr.ownsRow w2.heap.size 42 14 v ((TS.take k).filter (isThere PS)).length (((TS.take k).filter (isThere PS)).flatMap Pa.vals) ∧ Below w2.heap.size w2 wr) (fun _ i _ => tn - (intOf i).toNat)
 case atStart => exact ⟨0, Nat.zero_le _, rfl, World.ownsRow_nil _ _ _ _, Below.refl _ _⟩
 case round =>
  obtain ⟨k, hk, rfl, hrow, hB⟩ := hrel
  have HRow := Hd hrow
  have HB := Hd hB
  have HR := Hd (HRt.out.below' hB)
  have HP := Hd (HRp2.out.below' hB)
  clear hrow hB
  by_cases hlt : k < tn
  · have hlt' : (k : Int) < (tn : Int) := by omega
    obtain ⟨b, off, x, hpa, hb, hx, c0, c1, c2, c3, c4, c5, c6, c7, c8, c9, c10, c11, c12, c13⟩ := HR.out.pa hlt
    subst hpa
    have Hx := Hd hx
    have CF := Hd (find_r pa pn pc PS x.pack wr HP.out)
    obtain ⟨is, his⟩ : ∃ b, (ofI PS x.pack).isSome = b := ⟨_, rfl⟩
    have HIs := Hd his
    unfold FindPost at CF
    rw [his] at CF
    clear hx his
    go_upto_region 8 with (go_at_call 67; refine CF.out.mono ?_; rintro e w4 ⟨hS0, q, _, rfl⟩)
    have hBq := al' (Below.refl w4.heap.size w4) (.cells #[.int .i64 q.id, .int .i64 q.known, .int .u8 q.kind, .int .i64 q.loss, .int .i64 q.pack, .int .i64 q.inn, .string ⟨q.mark.toArray⟩, .string ⟨q.goods.toArray⟩, .int .i64 q.low, .int .i64 q.high, .int .i64 q.pieces, .int .i64 q.owner, .int .i64 q.count, .int .i64 q.of] 42)
    have hS := hS0.trans (hBq.mono hS0.size)
    have HB3 := Hd (HB.out.trans (hS.mono HB.out.size))
    have HRow3 := Hd (own_later' HRow.out hS)
    have HR3 := Hd (HR.out.below' hS)
    clear c0 c1 c2 c3 c4 c5 c6 c7 c8 c9 c10 c11 c12 c13 hS0 hBq hS CF
    generalize w4.alloc (.cells #[.int .i64 q.id, .int .i64 q.known, .int .u8 q.kind, .int .i64 q.loss, .int .i64 q.pack, .int .i64 q.inn, .string ⟨q.mark.toArray⟩, .string ⟨q.goods.toArray⟩, .int .i64 q.low, .int .i64 q.high, .int .i64 q.pieces, .int .i64 q.owner, .int .i64 q.count, .int .i64 q.of] 42) = w5 at *
    obtain ⟨b2, off2, x2, hpa, hb2, hx, c0, c1, c2, c3, c4, c5, c6, c7, c8, c9, c10, c11, c12, c13⟩ := HR3.out.pa hlt
    obtain ⟨rfl, rfl⟩ : b = b2 ∧ off = off2 := by injection hpa with e; injection e with e1 e2; exact ⟨e1, e2⟩
    obtain rfl : x = x2 := Option.some.inj (Hx.out.symm.trans hx)
    clear hpa hx
    have hfl : ((TS.take k).filter (isThere PS)).length ≤ 201 := Nat.le_trans (List.length_filter_le _ _) (by rw [List.length_take, Htn.out]; omega)
    obtain ⟨zb, hzb⟩ : ∃ b, (x.pack == 0) = b := ⟨_, rfl⟩
    have HF := Hd (show isThere PS x = (zb || is) from by unfold isThere; rw [HIs.out, ← hzb]; congr 1)
    by_cases hth : (zb || is) = true
    · have HN := Hd (filter_yes Hx.out (HF.out.trans hth))
      have hww : ∀ (P : Prop), P → P := fun _ h => h
      clear hww
      cases zb <;> cases is
      case false.false => cases hth
      all_goals
       clear hth
       go_wp2_with (at_builtin; refine wpList_append_own _ rfl _ _ 22 rfl w2.heap.size 42 i0 _ 14 128 Tryz.underlying22 hi hz0 hz1 hz2 rfl (by decide) _ _ _ rfl (HRow3.out.alloc _) ⟨w5.heap.size, 0, none⟩ 1 1 (Pa.vals x) rfl rfl (World.news_of_block (cs := #[.int .i64 x.id, .int .i64 x.known, .int .u8 x.kind, .int .i64 x.loss, .int .i64 x.pack, .int .i64 x.inn, .string ⟨x.mark.toArray⟩, .string ⟨x.goods.toArray⟩, .int .i64 x.low, .int .i64 x.high, .int .i64 x.pieces, .int .i64 x.owner, .int .i64 x.count, .int .i64 x.of]) (t := 42) (fr := (0, 0)) (heap_alloc_new w5 _)) (by simp [Pa.vals, Value.oneCell']) (by unfold maxLen; omega) (by omega) (Nat.le_trans HB3.out.size (by simp)) ?_; intro v2 w2 hown2 hgrow2 _)
       have HB4 := Hd ((HB3.out.alloc HB3.out.size (.cells #[.int .i64 x.id, .int .i64 x.known, .int .u8 x.kind, .int .i64 x.loss, .int .i64 x.pack, .int .i64 x.inn, .string ⟨x.mark.toArray⟩, .string ⟨x.goods.toArray⟩, .int .i64 x.low, .int .i64 x.high, .int .i64 x.pieces, .int .i64 x.owner, .int .i64 x.count, .int .i64 x.of] 42)).grown hgrow2 (Nat.le_trans HB3.out.size (by simp)) (fun k e => (HRow3.out.lt k e).1))
       have HO2 := Hd (own_pa_next hown2)
       clear hgrow2 hown2 c0 c1 c2 c3 c4 c5 c6 c7 c8 c9 c10 c11 c12 c13
       go_wp2_with fail
       exact ⟨⟨k + 1, by omega, by go_num, by rw [HN.out, List.length_append]; exact HO2.out, HB4.out⟩, by simp [intOf]; omega⟩
    · have HN := Hd (filter_no Hx.out (HF.out.trans (by simpa using hth)))
      cases zb <;> cases is
      case false.false =>
       clear hth
       go_wp2_with fail
       exact ⟨⟨k + 1, by omega, by go_num, by rw [HN.out]; exact HRow3.out, HB3.out⟩, by simp [intOf]; omega⟩
      all_goals exact absurd rfl hth
  · have hltg : ¬ (k : Int) < (tn : Int) := by omega
    have HK := Hd (show (TS.take k).filter (isThere PS) = totalsO xs known loss from by rw [HT.out, List.take_of_length_le (by rw [Htn.out]; omega)])
    clear hlt
    rw [HK.out] at HRow
    go_wp2_with fail
    go_ret
    exact ⟨_, rfl, ownsRow_mono HRow.out HB0.out.size, HB0.out.trans (HB.out.mono HB0.out.size)⟩
structure ManR (w : World) (M : Nat) (pa : Option Addr) (pn pc : Nat) (ta : Option Addr) (tn tc : Nat) (PS TS : List Pa) : Prop where
 c0 : w.cell? ⟨M, 0, none⟩ = some (.slice pa pn pc)
 c1 : w.cell? ⟨M, 1, none⟩ = some (.slice ta tn tc)
 rp : Rd Pa.vals 14 w pa pn PS
 rt : Rd Pa.vals 14 w ta tn TS
theorem ManR.below' {w w' : World} {M : Nat} {pa : Option Addr} {pn pc : Nat} {ta : Option Addr} {tn tc : Nat} {PS TS : List Pa} (h : ManR w M pa pn pc ta tn tc PS TS) (hB : Below w.heap.size w w') : ManR w' M pa pn pc ta tn tc PS TS :=
 ⟨cell_stays h.c0 hB, cell_stays h.c1 hB, h.rp.below' hB, h.rt.below' hB⟩
theorem ManR.box {w : World} {pa : Option Addr} {pn : Nat} (pc : Nat) {ta : Option Addr} {tn : Nat} (tc : Nat) {PS TS : List Pa} (hp : Rd Pa.vals 14 w pa pn PS) (ht : Rd Pa.vals 14 w ta tn TS) (T : TypeId) :
 ManR (w.alloc (.cells #[.slice pa pn pc, .slice ta tn tc] T)) w.heap.size pa pn pc ta tn tc PS TS :=
 have hB := al' (Below.refl w.heap.size w) (.cells #[.slice pa pn pc, .slice ta tn tc] T)
 ⟨by rw [cell_of_row _ _ _ _ _ (0, 0) (heap_alloc_new w _)]; rfl, by rw [cell_of_row _ _ _ _ _ (0, 0) (heap_alloc_new w _)]; rfl, hp.below' hB, ht.below' hB⟩
def InsPost (w : World) (L : List Int) (e : Ending) (w' : World) : Prop :=
 ∃ a c, e = .returned (.slice a L.length c) ∧ Rd ints 1 w' a L.length L ∧ Below w.heap.size w w'
def InsPostN (w : World) (L : List Int) (e : Ending) (w' : World) : Prop :=
 ∃ a c, e = .returned (.slice a L.length c) ∧ Rd ints 1 w' a L.length L ∧ Below w.heap.size w w' ∧ L.length ≤ c ∧ ∀ p, a = some p → w.heap.size ≤ p.block ∧ p.block < w'.heap.size
set_option maxRecDepth 100000 in
set_option maxHeartbeats 4000000 in
theorem inside_rn (pa : Option Addr) (pn pc : Nat) (ta : Option Addr) (tn tc : Nat) (PS TS : List Pa) (pack : Int) (w : World) (hp : Rd Pa.vals 14 w pa pn PS) (ht : Rd Pa.vals 14 w ta tn TS) (hn : pn ≤ 1000) :
 Calls Tryz.prog 77 #[.agg #[.slice pa pn pc, .slice ta tn tc], .int .i64 pack] w (InsPostN w (insideI PS pack)) := by
 obtain ⟨j0, hj0, hy0, hy1, hy2⟩ := info_parts info_int
 have hM := ManR.box pc tc hp ht 70
 have hB := al' (Below.refl w.heap.size w) (.cells #[.slice pa pn pc, .slice ta tn tc] 70)
 have HM := Hd hM
 have HB1 := Hd hB
 have Hl := Hd hp.len
 clear hM hB hp ht
 go_enter Tryz.func77, Tryz.ntmps77
 go_upto_region 1 with (fail)
 generalize w.alloc (.cells #[.slice pa pn pc, .slice ta tn tc] 70) = w1 at *
 obtain ⟨M, hMe⟩ : ∃ M, w.heap.size = M := ⟨_, rfl⟩
 have HMe := Hd hMe
 rw [hMe] at HM ⊢
 clear hMe
 go_wp2_with fail
 go_loopw [5, 6] (fun v i wr => ∃ k : Nat, k ≤ pn ∧ i = .int .i64 k ∧ wr.ownsRow w1.heap.size 3 1 v (insideL (PS.take k) pack).length ((insideL (PS.take k) pack).flatMap ints) ∧ Below w1.heap.size w1 wr) (fun _ i _ => pn - (intOf i).toNat)
 case atStart => exact ⟨0, Nat.zero_le _, rfl, World.ownsRow_nil _ _ _ _, Below.refl _ _⟩
 case round =>
  obtain ⟨k, hk, rfl, hrow, hB⟩ := hrel
  have hm := HM.out.below' hB
  have HB := Hd hB
  have HRow := Hd hrow
  have m0 := hm.c0
  have h1 := hm.rp
  clear hB hrow hm
  by_cases hlt : k < pn
  · have hlt' : (k : Int) < (pn : Int) := by omega
    obtain ⟨b, off, x, hpa, hb, hx, c0, c1, c2, c3, c4, c5, c6, c7, c8, c9, c10, c11, c12, c13⟩ := h1.pa hlt
    subst hpa
    have Hx := Hd hx
    clear hx h1 c0 c1 c2 c3 c6 c7 c8 c9 c10 c11 c12 c13
    by_cases hp : x.inn = pack
    · have q : (x.inn == pack) = true := by simpa using hp
      have HS := Hd (insideL_yes Hx.out hp)
      have hlk : (insideL (PS.take k) pack).length ≤ 1000 := Nat.le_trans (insideL_len _ _) (by rw [List.length_take]; omega)
      obtain ⟨NS, hNS⟩ : ∃ N, insideL (PS.take k) pack = N := ⟨_, rfl⟩
      rw [hNS] at HRow HS hlk
      clear hp hNS
      go_wp2_with (at_builtin; go_loud (refine wpList_append_own _ rfl _ _ 43 rfl w1.heap.size 3 j0 _ 1 8 Tryz.underlying43 hj0 hy0 hy1 hy2 rfl (by decide) _ _ _ rfl (HRow.out.alloc _) ⟨wr.heap.size, 0, none⟩ 1 1 (ints x.pack) rfl rfl (cell_one_new _ _ _) (by simp [ints, Value.oneCell']) (by unfold maxLen; omega) (by omega) (Nat.le_trans HB.out.size (by simp)) ?_; intro v9 w9 hown9 hgrow9 _))
      have HB9 := Hd ((HB.out.alloc HB.out.size (.cells #[.int .i64 x.pack] 3)).grown hgrow9 (Nat.le_trans HB.out.size (by simp)) (fun j e => (HRow.out.lt j e).1))
      have HO9 := Hd (own_int_next hown9)
      clear hown9 hgrow9
      go_wp2_with fail
      exact ⟨⟨k + 1, by omega, by go_num, by rw [HS.out]; exact HO9.out, HB9.out⟩, by simp [intOf]; omega⟩
    · have q : (x.inn == pack) = false := by simpa using hp
      have HS := Hd (insideL_no Hx.out hp)
      clear hp
      go_wp2_with fail
      exact ⟨⟨k + 1, by omega, by go_num, by rw [HS.out]; exact HRow.out, HB.out⟩, by simp [intOf]; omega⟩
  · have hltg : ¬ (k : Int) < (pn : Int) := by omega
    have HW := Hd (show PS.take k = PS from List.take_of_length_le (by rw [Hl.out]; omega))
    rw [HW.out] at HRow
    have hil : (insideL PS pack).length ≤ 1000 := Nat.le_trans (insideL_len _ _) (by rw [Hl.out]; omega)
    obtain ⟨ia, ic, rfl, hic, hri, hia⟩ := Rd.of_own (n := (insideL PS pack).length) HRow.out ints_length (by decide) rfl (by unfold maxLen; omega)
    have HRi := Hd hri
    have HIc := Hd hic
    have HIa := Hd hia
    clear hlt h1 hri hil hia hic
    go_wp2_with fail
    go_ret
    exact ⟨ia, ic, rfl, HRi.out, HB1.out.trans (HB.out.mono HB1.out.size), HIc.out, fun p e => ⟨Nat.le_trans HB1.out.size (HIa.out p e).1, (HIa.out p e).2⟩⟩
theorem inside_r (pa : Option Addr) (pn pc : Nat) (ta : Option Addr) (tn tc : Nat) (PS TS : List Pa) (pack : Int) (w : World) (hp : Rd Pa.vals 14 w pa pn PS) (ht : Rd Pa.vals 14 w ta tn TS) (hn : pn ≤ 1000) :
 Calls Tryz.prog 77 #[.agg #[.slice pa pn pc, .slice ta tn tc], .int .i64 pack] w (InsPost w (insideI PS pack)) := by
 refine (inside_rn pa pn pc ta tn tc PS TS pack w hp ht hn).mono ?_
 rintro e w2 ⟨a, c, rfl, h1, h2, _, _⟩
 exact ⟨a, c, rfl, h1, h2⟩
set_option maxRecDepth 100000 in
set_option maxHeartbeats 4000000 in
theorem missing_r (pa : Option Addr) (pn pc : Nat) (ta : Option Addr) (tn tc : Nat) (PS TS : List Pa) (pack : Int) (w : World) (hp : Rd Pa.vals 14 w pa pn PS) (ht : Rd Pa.vals 14 w ta tn TS) (hn : pn ≤ 1000) (hc : ∀ t ∈ TS, 0 ≤ t.count ∧ t.count ≤ 1000) :
 Calls Tryz.prog 66 #[.agg #[.slice pa pn pc, .slice ta tn tc], .int .i64 pack] w fun e w' => e = .returned (.int .i64 (missR PS TS pack)) ∧ Below w.heap.size w w' := by
 have hM := ManR.box pc tc hp ht 70
 have hB := al' (Below.refl w.heap.size w) (.cells #[.slice pa pn pc, .slice ta tn tc] 70)
 have HM := Hd hM
 have HB1 := Hd hB
 have Hpl := Hd hp.len
 clear hM hB hp ht
 go_enter Tryz.func66, Tryz.ntmps66
 go_upto_region 1 with (fail)
 generalize w.alloc (.cells #[.slice pa pn pc, .slice ta tn tc] 70) = w1 at *
 obtain ⟨M, hMe⟩ : ∃ M, w.heap.size = M := ⟨_, rfl⟩
 have HMe := Hd hMe
 rw [hMe] at HM ⊢
 clear hMe
 have m1 := HM.out.c1
 have CF := Hd (find_r ta tn tc TS pack w1 HM.out.rt)
 obtain ⟨oq, hoq⟩ : ∃ oq, ofI TS pack = oq := ⟨_, rfl⟩
 have HOq := Hd (show missR PS TS pack = missOf oq (insideI PS pack).length from by rw [missR_is, hoq])
 have hcq : ∀ t, oq = some t → 0 ≤ t.count ∧ t.count ≤ 1000 := fun t e => hc t (ofI_mem (hoq.trans e)).1
 unfold FindPost at CF
 rw [hoq] at CF
 clear hoq hc
 go_upto_region 2 with (go_at_call 67; refine CF.out.mono ?_; rintro e w2 ⟨hS0, q, hq, rfl⟩)
 have hBq := al' (Below.refl w2.heap.size w2) (.cells #[.int .i64 q.id, .int .i64 q.known, .int .u8 q.kind, .int .i64 q.loss, .int .i64 q.pack, .int .i64 q.inn, .string ⟨q.mark.toArray⟩, .string ⟨q.goods.toArray⟩, .int .i64 q.low, .int .i64 q.high, .int .i64 q.pieces, .int .i64 q.owner, .int .i64 q.count, .int .i64 q.of] 42)
 have hS := hS0.trans (hBq.mono hS0.size)
 have hbx := (BoxG.made w2 q.vals 42)
 simp only [Pa.vals] at hbx
 have HB2 := Hd (HB1.out.trans (hS.mono HB1.out.size))
 have HM2 := Hd (HM.out.below' hS)
 clear hBq hS hS0 m1 CF HM HB1
 generalize w2.alloc (.cells #[.int .i64 q.id, .int .i64 q.known, .int .u8 q.kind, .int .i64 q.loss, .int .i64 q.pack, .int .i64 q.inn, .string ⟨q.mark.toArray⟩, .string ⟨q.goods.toArray⟩, .int .i64 q.low, .int .i64 q.high, .int .i64 q.pieces, .int .i64 q.owner, .int .i64 q.count, .int .i64 q.of] 42) = w3 at *
 obtain ⟨Q, hQe⟩ : ∃ Q, w2.heap.size = Q := ⟨_, rfl⟩
 rw [hQe] at hbx ⊢
 clear hQe
 obtain ⟨c0, c1, c2, c3, c4, c5, c6, c7, c8, c9, c10, c11, c12, c13⟩ := BoxG.pa (x := q) hbx
 clear hbx c0 c1 c2 c3 c4 c5 c6 c7 c8 c9 c10 c11 c13
 cases oq with
 | none =>
   have HV := Hd (show missR PS TS pack = 0 from HOq.out)
   clear HOq hcq hq c12
   go_wp2_with fail
   go_ret
   exact ⟨by rw [HV.out] <;> rfl, HB2.out⟩
 | some t =>
   obtain rfl : t = q := hq
   have HV := Hd (show missR PS TS pack = t.count - ((insideI PS pack).length : Int) from HOq.out)
   obtain ⟨t0, t1⟩ := hcq t rfl
   have hil : (insideI PS pack).length ≤ 1000 := Nat.le_trans (insideL_len PS pack) (by rw [Hpl.out]; exact hn)
   have CI := Hd (fun W (hW : Below w3.heap.size w3 W) => inside_r pa pn pc ta tn tc PS TS pack W (HM2.out.rp.below' hW) (HM2.out.rt.below' hW) hn)
   unfold InsPost at CI
   obtain ⟨L, hL⟩ : ∃ L, (insideI PS pack).length = L := ⟨_, rfl⟩
   rw [hL] at HV hil CI
   have m0 := HM2.out.c0
   have m1 := HM2.out.c1
   have hwr : IntKind.i64.wrap (t.count - (L : Int)) = t.count - (L : Int) := IntWalk.i64_in _ (by omega)
   clear HOq hcq hL
   go_wp2_with fail
   go_region_held3 (fun w' => w'.cell? ⟨Q, 12, none⟩ = some (.int .i64 t.count) ∧ w'.cell? ⟨M, 0, none⟩ = some (.slice pa pn pc) ∧ w'.cell? ⟨M, 1, none⟩ = some (.slice ta tn tc))
    (first | go_keep | with_reducible exact ⟨cell_stays c12 hb4.out, cell_stays m0 hb4.out, cell_stays m1 hb4.out⟩)
    ((go_at_call 77; with_reducible refine (CI.out _ (dr' (Below.refl _ _))).mono ?_; rintro e w4 ⟨ia, ic, rfl, _, hB4⟩; have hb4 := Hd (show Below w3.heap.size w3 w4 from below_on (dr' (Below.refl _ _)) hB4 (Nat.le_refl _))))
   have HB5 := Hd (HB2.out.trans (hb4.out.mono HB2.out.size))
   clear hb4 hB4
   go_wp2_with fail
   go_ret
   exact ⟨by rw [HV.out] <;> rfl, HB5.out⟩
theorem way_zero (ps : List Pa) (d : Nat) (acc : List Int) : wayR ps d 0 acc = some acc := by cases d <;> (unfold wayR; rw [if_pos rfl])
theorem way_none {ps : List Pa} {p : Int} (h0 : p ≠ 0) (h : ofI ps p = none) (d : Nat) (acc : List Int) : wayR ps d p acc = none := by
 cases d with
 | zero => unfold wayR; rw [if_neg h0]
 | succ d => unfold wayR; rw [if_neg h0, h]
theorem way_end {ps : List Pa} {p : Int} (h0 : p ≠ 0) (acc : List Int) : wayR ps 0 p acc = none := by unfold wayR; rw [if_neg h0]
theorem way_step {ps : List Pa} {p : Int} {x : Pa} (h0 : p ≠ 0) (h : ofI ps p = some x) (d : Nat) (acc : List Int) : wayR ps (d + 1) p acc = wayR ps d x.inn (p :: acc) := by
 conv => lhs; unfold wayR
 rw [if_neg h0, h]
theorem own_one {W : World} {base : Nat} (hb : base ≤ W.heap.size) (p : Int) : (W.alloc (.cells #[.int .i64 p] 3)).ownsRow base 3 1 (.slice (some ⟨W.heap.size, 0, none⟩) 1 1) 1 [.int .i64 p] :=
 ⟨by simp, .inr ⟨W.heap.size, 1, #[.int .i64 p], rfl, hb, heap_alloc_new W _, Nat.le_refl _, by unfold maxLen; omega, by simp, by simp⟩⟩
def WayPost (w : World) (o : Option (List Int)) (e : Ending) (w' : World) : Prop :=
 ∃ a n c, e = .returned (.tuple #[.slice a n c, .bool o.isSome]) ∧ Rd ints 1 w' a n (o.getD []) ∧ n ≤ c ∧ Below w.heap.size w w'
set_option maxRecDepth 100000 in
set_option maxHeartbeats 8000000 in
theorem path_r (pa : Option Addr) (pn pc : Nat) (ta : Option Addr) (tn tc : Nat) (PS TS : List Pa) (pack : Int) (w : World) (hp : Rd Pa.vals 14 w pa pn PS) (ht : Rd Pa.vals 14 w ta tn TS) (hn : pn ≤ 1000) :
 Calls Tryz.prog 76 #[.agg #[.slice pa pn pc, .slice ta tn tc], .int .i64 pack] w (WayPost w (wayR PS 201 pack [])) := by
 obtain ⟨j0, hj0, hy0, hy1, hy2⟩ := info_parts info_int
 have hM := ManR.box pc tc hp ht 70
 have hB := al' (Below.refl w.heap.size w) (.cells #[.slice pa pn pc, .slice ta tn tc] 70)
 have HM := Hd hM
 have HB1 := Hd hB
 obtain ⟨RES, hRES⟩ : ∃ r, wayR PS 201 pack [] = r := ⟨_, rfl⟩
 rw [hRES]
 have HRES := Hd hRES
 clear hM hB hp ht hRES
 go_enter Tryz.func76, Tryz.ntmps76
 go_upto_region 1 with (fail)
 generalize w.alloc (.cells #[.slice pa pn pc, .slice ta tn tc] 70) = w1 at *
 obtain ⟨M, hMe⟩ : ∃ M, w.heap.size = M := ⟨_, rfl⟩
 have HMe := Hd hMe
 rw [hMe] at HM ⊢
 clear hMe
 go_wp2_with fail
 go_loopw [1, 6, 7] (fun pv v nv wr => ∃ (j : Nat) (p : Int) (acc : List Int), j ≤ 201 ∧ pv = .int .i64 p ∧ nv = .int .i64 j ∧ wayR PS (201 - j) p acc = RES ∧ acc.length ≤ j ∧ wr.ownsRow w1.heap.size 3 1 v acc.length (acc.flatMap ints) ∧ (acc = [] → v = .slice none 0 0) ∧ Below w1.heap.size w1 wr) (fun _ _ nv _ => 300 - (intOf nv).toNat)
 case atStart => exact ⟨0, pack, [], Nat.zero_le _, rfl, rfl, HRES.out, Nat.le_refl _, World.ownsRow_nil _ _ _ _, fun _ => rfl, Below.refl _ _⟩
 case round =>
  obtain ⟨j, p, acc, hj, rfl, rfl, hway, hacc, hrow, hnil, hB⟩ := hrel
  have HW := Hd hway
  have HRow := Hd hrow
  have HNil := Hd hnil
  have HB := Hd hB
  have HMr := Hd (HM.out.below' hB)
  clear hway hrow hnil hB
  by_cases h0 : p = 0
  · have h0' : (p != 0) = false := by simp [h0]
    have HE := Hd (show RES = some acc from by rw [← HW.out, h0, way_zero])
    obtain ⟨va, vc, rfl, hvc, hrd, _⟩ := Rd.of_own HRow.out ints_length (by decide) rfl (by unfold maxLen; omega)
    have HRd := Hd hrd
    clear h0 hrd HRow HNil
    go_wp2_with fail
    go_ret2
    exact ⟨va, acc.length, vc, by rw [HE.out] <;> rfl, by rw [HE.out]; exact HRd.out, hvc, HB1.out.trans (HB.out.mono HB1.out.size)⟩
  have h0' : (p != 0) = true := by simp [h0]
  have H0 := Hd h0
  clear h0
  have m0 := HMr.out.c0
  have CF := Hd (find_r pa pn pc PS p wr HMr.out.rp)
  obtain ⟨oq, hoq⟩ : ∃ oq, ofI PS p = oq := ⟨_, rfl⟩
  have HOq := Hd hoq
  unfold FindPost at CF
  rw [hoq] at CF
  clear hoq
  go_upto_region 6 with (go_at_call 67; refine CF.out.mono ?_; rintro e w2 ⟨hS0, q, hq, rfl⟩)
  have hBq := al' (Below.refl w2.heap.size w2) (.cells #[.int .i64 q.id, .int .i64 q.known, .int .u8 q.kind, .int .i64 q.loss, .int .i64 q.pack, .int .i64 q.inn, .string ⟨q.mark.toArray⟩, .string ⟨q.goods.toArray⟩, .int .i64 q.low, .int .i64 q.high, .int .i64 q.pieces, .int .i64 q.owner, .int .i64 q.count, .int .i64 q.of] 42)
  have hS := hS0.trans (hBq.mono hS0.size)
  have hbx := (BoxG.made w2 q.vals 42)
  simp only [Pa.vals] at hbx
  have HB2 := Hd (HB.out.trans (hS.mono HB.out.size))
  have HRow2 := Hd (own_later' HRow.out hS)
  clear hBq hS hS0 m0 CF HRow HMr HB
  generalize w2.alloc (.cells #[.int .i64 q.id, .int .i64 q.known, .int .u8 q.kind, .int .i64 q.loss, .int .i64 q.pack, .int .i64 q.inn, .string ⟨q.mark.toArray⟩, .string ⟨q.goods.toArray⟩, .int .i64 q.low, .int .i64 q.high, .int .i64 q.pieces, .int .i64 q.owner, .int .i64 q.count, .int .i64 q.of] 42) = w3 at *
  obtain ⟨Q, hQe⟩ : ∃ Q, w2.heap.size = Q := ⟨_, rfl⟩
  rw [hQe] at hbx ⊢
  clear hQe
  have HBx := Hd hbx
  cases oq with
  | none =>
    have HE := Hd (show RES = none from by rw [← HW.out, way_none H0.out HOq.out])
    clear hbx hq
    go_wp2_with fail
    go_ret2
    exact ⟨none, 0, 0, by rw [HE.out] <;> rfl, by rw [HE.out]; exact Rd.empty _ _, Nat.le_refl _, HB1.out.trans (HB2.out.mono HB1.out.size)⟩
  | some t =>
    obtain rfl : t = q := hq
    by_cases h200 : 200 < j
    · have h200' : (200 : Int) < (j : Int) := by omega
      obtain rfl : j = 201 := by omega
      have HE := Hd (show RES = none from by rw [← HW.out]; exact way_end H0.out acc)
      clear hbx h200
      go_wp2_with fail
      go_ret2
      exact ⟨none, 0, 0, by rw [HE.out] <;> rfl, by rw [HE.out]; exact Rd.empty _ _, Nat.le_refl _, HB1.out.trans (HB2.out.mono HB1.out.size)⟩
    have h200' : ¬ (200 : Int) < (j : Int) := by omega
    have HN := Hd (show wayR PS (201 - (j + 1)) t.inn (p :: acc) = RES from by
     rw [← HW.out, show 201 - j = (201 - (j + 1)) + 1 by omega, way_step H0.out HOq.out])
    have hjb : j ≤ 200 := by omega
    clear hbx h200 HW
    obtain ⟨c0, c1, c2, c3, c4, c5, c6, c7, c8, c9, c10, c11, c12, c13⟩ := BoxG.pa (x := t) HBx.out
    clear c0 c1 c2 c3 c4 c6 c7 c8 c9 c10 c11 c12 c13
    have HS3 := Hd (HB2.out.alloc HB2.out.size (.cells #[.int .i64 p] 3))
    have HO1 := Hd (own_one (W := w3) (base := w1.heap.size) HB2.out.size p)
    cases acc with
    | nil =>
      have hv := HNil.out rfl
      subst hv
      clear HRow2 HNil
      have c5' := cell_stays c5 (al' (Below.refl w3.heap.size w3) (.cells #[.int .i64 p] 3))
      go_wp2_with (at_builtin; refine wpList_append_own_none rfl _ _ 43 rfl w1.heap.size 3 j0 1 Tryz.underlying43 hj0 _ 1 [.int .i64 p] rfl HO1.out rfl ?_)
      exact ⟨⟨j + 1, t.inn, [p], by omega, rfl, by go_num, HN.out, by simp, HO1.out, fun e => (by cases e), HS3.out⟩, by simp [intOf]; omega⟩
    | cons p2 acc2 =>
      obtain ⟨va, vc, rfl, hvc, hrd, hbl⟩ := Rd.of_own HRow2.out ints_length (by decide) rfl (by unfold maxLen; omega)
      obtain ⟨ad, had⟩ : ∃ ad, va = some ad := by
       obtain ⟨b, o, _, e, _⟩ := hrd.int (i := 0) (by simp)
       exact ⟨_, e⟩
      subst had
      have HRd := Hd (hrd.below' (al' (Below.refl w3.heap.size w3) (.cells #[.int .i64 p] 3)))
      obtain ⟨m, hm⟩ : ∃ m, (p2 :: acc2).length = m := ⟨_, rfl⟩
      have Hm := Hd hm
      rw [hm] at HRd hacc ⊢
      clear hrd hbl HRow2 HNil hm hvc
      have h1x : ∀ u ∈ (p2 :: acc2).flatMap ints, u.oneCell' = true := by
       intro u hu
       obtain ⟨y, _, hy⟩ := List.mem_flatMap.1 hu
       simp only [ints, List.mem_cons, List.not_mem_nil, or_false] at hy
       subst hy; rfl
      have H1x := Hd h1x
      clear h1x
      have GO : ∀ v9 w9, w9.ownsRow w1.heap.size 3 1 v9 (1 + m) ([.int .i64 p] ++ (p2 :: acc2).flatMap ints) → (w3.alloc (.cells #[.int .i64 p] 3)).grownBy w9 (some w3.heap.size) →
       Below w1.heap.size w1 w9 ∧ w9.cell? ⟨Q, 5, none⟩ = some (.int .i64 t.inn) ∧ w9.ownsRow w1.heap.size 3 1 v9 (p :: p2 :: acc2).length ((p :: p2 :: acc2).flatMap ints) := by
       intro v9 w9 hown9 hg9
       have hne : Q ≠ w3.heap.size := Nat.ne_of_lt HBx.out.1
       have HB9 := (HS3.out.grown hg9 HS3.out.size (fun k e => by injection e with e; have := HB2.out.size; omega))
       have c59 : w9.cell? ⟨Q, 5, none⟩ = some (.int .i64 t.inn) := by
        rw [hg9.cell_far ⟨Q, 5, none⟩ (by have := HBx.out.1; simp; omega) (fun e => hne (by injection e))]
        exact cell_stays c5 (al' (Below.refl w3.heap.size w3) _)
       have HO9 := (show w9.ownsRow w1.heap.size 3 1 v9 (p :: p2 :: acc2).length ((p :: p2 :: acc2).flatMap ints) from by
        have e1 : (p :: p2 :: acc2).length = 1 + m := by rw [← Hm.out]; simp; omega
        have e2 : (p :: p2 :: acc2).flatMap ints = [.int .i64 p] ++ (p2 :: acc2).flatMap ints := by simp [ints]
        rw [e1, e2]; exact hown9)
       exact ⟨HB9, c59, HO9⟩
      have HGO := Hd GO
      clear GO c5
      go_wp2_with (at_builtin; refine wpList_append_own _ rfl _ _ 43 rfl w1.heap.size 3 j0 _ 1 8 Tryz.underlying43 hj0 hy0 hy1 hy2 rfl (by decide) _ 1 [.int .i64 p] rfl HO1.out ad m vc ((p2 :: acc2).flatMap ints) rfl (by rw [flat_length ints_length, Hm.out]) (Rd.news HRd.out ints_length) H1x.out (by unfold maxLen; omega) (by omega) HS3.out.size ?_; intro v9 w9 hown9 hgrow9 _; obtain ⟨hb9, c59, ho9⟩ := HGO.out v9 w9 hown9 hgrow9; have HB9 := Hd hb9; have HO9 := Hd ho9; clear hown9 hgrow9 hb9 ho9)
      exact ⟨⟨j + 1, t.inn, p :: p2 :: acc2, by omega, rfl, by go_num, HN.out, by have := Hm.out; simp only [List.length_cons] at this ⊢; omega, HO9.out, fun e => (by cases e), HB9.out⟩, by simp [intOf]; omega⟩
set_option maxRecDepth 100000 in
set_option maxHeartbeats 8000000 in
theorem tree_r (pa : Option Addr) (pn pc : Nat) (ta : Option Addr) (tn tc : Nat) (PS TS : List Pa) (w : World) (hp : Rd Pa.vals 14 w pa pn PS) (ht : Rd Pa.vals 14 w ta tn TS) (hn : pn ≤ 1000) (htn : tn ≤ 1000) (hc : ∀ t ∈ TS, 0 ≤ t.count ∧ t.count ≤ 1000) :
 Calls Tryz.prog 65 #[.agg #[.slice pa pn pc, .slice ta tn tc]] w fun e w' => e = .returned (.bool (treeRB PS TS)) ∧ Below w.heap.size w w' := by
 have hM := ManR.box pc tc hp ht 70
 have hB := al' (Below.refl w.heap.size w) (.cells #[.slice pa pn pc, .slice ta tn tc] 70)
 have HM := Hd hM
 have HB1 := Hd hB
 have Hpl := Hd hp.len
 have Htl := Hd ht.len
 have HCt := Hd hc
 clear hM hB hp ht hc
 go_enter Tryz.func65, Tryz.ntmps65
 go_upto_region 1 with (fail)
 generalize w.alloc (.cells #[.slice pa pn pc, .slice ta tn tc] 70) = w1 at *
 obtain ⟨M, hMe⟩ : ∃ M, w.heap.size = M := ⟨_, rfl⟩
 have HMe := Hd hMe
 rw [hMe] at HM ⊢
 clear hMe
 go_wp2_with fail
 go_loopw [3] (fun i wr => ∃ k : Nat, k ≤ pn ∧ i = .int .i64 k ∧ (PS.take k).all (fun x => (wayR PS 201 x.pack []).isSome) = true ∧ Below w1.heap.size w1 wr) (fun i _ => pn - (intOf i).toNat)
 case atStart => exact ⟨0, Nat.zero_le _, rfl, rfl, Below.refl _ _⟩
 case round =>
  obtain ⟨k, hk, rfl, hall, hB⟩ := hrel
  have HA := Hd hall
  have HB := Hd hB
  have HMr := Hd (HM.out.below' hB)
  have m0 := HMr.out.c0
  have m1 := HMr.out.c1
  clear hall hB
  by_cases hlt : k < pn
  · have hlt' : (k : Int) < (pn : Int) := by omega
    obtain ⟨b, off, x, hpa, hb, hx, c0, c1, c2, c3, c4, c5, c6, c7, c8, c9, c10, c11, c12, c13⟩ := HMr.out.rp.pa hlt
    have Hx := Hd hx
    clear hx c0 c1 c2 c3 c5 c6 c7 c8 c9 c10 c11 c12 c13
    have CP := Hd (fun W (hW : Below wr.heap.size wr W) => path_r pa pn pc ta tn tc PS TS x.pack W (HMr.out.rp.below' hW) (HMr.out.rt.below' hW) hn)
    unfold WayPost at CP
    subst hpa
    obtain ⟨is, his⟩ : ∃ b, (wayR PS 201 x.pack []).isSome = b := ⟨_, rfl⟩
    have HIs := Hd his
    rw [his] at CP
    clear his
    go_upto_region 4 with (fail)
    go_region_held3 (fun w' => w'.cell? ⟨M, 0, none⟩ = some (.slice (some ⟨b, off, none⟩) pn pc) ∧ w'.cell? ⟨M, 1, none⟩ = some (.slice ta tn tc) ∧ w'.cell? ⟨b, off + k * 14 + 4, none⟩ = some (.int .i64 x.pack))
     (first | go_keep | with_reducible exact ⟨cell_stays m0 hb4.out, cell_stays m1 hb4.out, cell_stays c4 hb4.out⟩)
     ((go_at_call 76; with_reducible refine (CP.out _ (dr' (Below.refl _ _))).mono ?_; rintro e w4 ⟨ia, il, ic, rfl, _, _, hB4⟩; have hb4 := Hd (show Below wr.heap.size wr w4 from below_on (dr' (Below.refl _ _)) hB4 (Nat.le_refl _))))
    have HB4 := Hd (HB.out.trans (hb4.out.mono HB.out.size))
    clear hb4 hB4 m0 m1 c4 CP
    cases is with
    | false =>
      have HE := Hd (show treeRB PS TS = false from by unfold treeRB; rw [all_no Hx.out HIs.out]; rfl)
      go_wp2_with fail
      go_ret
      exact ⟨by rw [HE.out] <;> rfl, HB1.out.trans (HB4.out.mono HB1.out.size)⟩
    | true =>
      have HN := Hd (take_all_snoc (p := fun x => (wayR PS 201 x.pack []).isSome) Hx.out HA.out HIs.out)
      go_wp2_with fail
      exact ⟨⟨k + 1, by omega, by go_num, HN.out, HB4.out⟩, by simp [intOf]; omega⟩
  · have hltg : ¬ (k : Int) < (pn : Int) := by omega
    have HT := Hd (show treeRB PS TS = TS.all (fun t => decide (0 ≤ missR PS TS t.pack)) from by
     have := HA.out
     rw [List.take_of_length_le (by rw [Hpl.out]; omega)] at this
     unfold treeRB; rw [this]; rfl)
    clear hlt
    have HB0 := Hd (HB1.out.trans (HB.out.mono HB1.out.size))
    obtain ⟨wo, rfl⟩ : ∃ wo : World, wo = wr := ⟨_, rfl⟩
    clear HA HM HB HB1
    go_wp2_with fail
    go_loopw [6] (fun i wr => ∃ k : Nat, k ≤ tn ∧ i = .int .i64 k ∧ (TS.take k).all (fun t => decide (0 ≤ missR PS TS t.pack)) = true ∧ Below wo.heap.size wo wr) (fun i _ => tn - (intOf i).toNat)
    case atStart => exact ⟨0, Nat.zero_le _, rfl, rfl, Below.refl _ _⟩
    case round =>
     obtain ⟨k2, hk2, rfl, hall, hB⟩ := hrel
     have HA := Hd hall
     have HB := Hd hB
     have HM2 := Hd (HMr.out.below' hB)
     have m0 := HM2.out.c0
     have m1 := HM2.out.c1
     clear hall hB
     by_cases hlt : k2 < tn
     · have hlt' : (k2 : Int) < (tn : Int) := by omega
       obtain ⟨b, off, x, hpa, hb, hx, c0, c1, c2, c3, c4, c5, c6, c7, c8, c9, c10, c11, c12, c13⟩ := HM2.out.rt.pa hlt
       have Hx := Hd hx
       clear hx c0 c1 c2 c3 c5 c6 c7 c8 c9 c10 c11 c12 c13
       have CP := Hd (fun W (hW : Below wr.heap.size wr W) => missing_r pa pn pc ta tn tc PS TS x.pack W (HM2.out.rp.below' hW) (HM2.out.rt.below' hW) hn HCt.out)
       subst hpa
       obtain ⟨mi, hmi⟩ : ∃ b, missR PS TS x.pack = b := ⟨_, rfl⟩
       have HMi := Hd hmi
       rw [hmi] at CP
       clear hmi
       go_upto_region 10 with (fail)
       go_region_held3 (fun w' => w'.cell? ⟨M, 0, none⟩ = some (.slice pa pn pc) ∧ w'.cell? ⟨M, 1, none⟩ = some (.slice (some ⟨b, off, none⟩) tn tc) ∧ w'.cell? ⟨b, off + k2 * 14 + 4, none⟩ = some (.int .i64 x.pack))
        (first | go_keep | with_reducible exact ⟨cell_stays m0 hb4.out, cell_stays m1 hb4.out, cell_stays c4 hb4.out⟩)
        ((go_at_call 66; with_reducible refine (CP.out _ (dr' (Below.refl _ _))).mono ?_; rintro e w4 ⟨rfl, hB4⟩; have hb4 := Hd (show Below wr.heap.size wr w4 from below_on (dr' (Below.refl _ _)) hB4 (Nat.le_refl _))))
       have HB4 := Hd (HB.out.trans (hb4.out.mono HB.out.size))
       clear hb4 hB4 m0 m1 c4 CP
       by_cases hneg : mi < 0
       · have hneg' : decide (mi < 0) = true := decide_eq_true hneg
         have HE := Hd (show treeRB PS TS = false from by rw [HT.out]; exact all_no Hx.out (decide_eq_false (by rw [HMi.out]; omega)))
         go_wp2_with fail
         go_ret
         exact ⟨by rw [HE.out] <;> rfl, HB0.out.trans (HB4.out.mono HB0.out.size)⟩
       · have hneg' : decide (mi < 0) = false := decide_eq_false hneg
         have HN := Hd (take_all_snoc (p := fun t => decide (0 ≤ missR PS TS t.pack)) Hx.out HA.out (decide_eq_true (by rw [HMi.out]; omega)))
         go_wp2_with fail
         exact ⟨⟨k2 + 1, by omega, by go_num, HN.out, HB4.out⟩, by simp [intOf]; omega⟩
     · have hltg : ¬ (k2 : Int) < (tn : Int) := by omega
       have HE := Hd (show treeRB PS TS = true from by
        have := HA.out
        rw [List.take_of_length_le (by rw [Htl.out]; omega)] at this
        rw [HT.out, this])
       clear hlt
       go_wp2_with fail
       go_ret
       exact ⟨by rw [HE.out] <;> rfl, HB0.out.trans (HB.out.mono HB0.out.size)⟩
theorem papersO_ok {l : List Pa} {known loss : Int} : ManiOk (papersO l known loss) (totalsO l known loss) := by
 by_cases h0 : openE l loss = 0
 · obtain ⟨p1, p2⟩ := open_some (known := known) h0
   rw [p1, p2]; exact mani_ok (check_good (open_check h0)).1 known loss
 · obtain ⟨p1, p2⟩ := open_none (known := known) h0
   rw [p1, p2]
   exact ⟨.nil, by simp, by simp, .nil, by simp, by simp⟩
def OfPost (w : World) (PS TS : List Pa) (e : Ending) (w' : World) : Prop :=
 ∃ pa pn pc ta tn tc, e = .returned (.agg #[.slice pa pn pc, .slice ta tn tc]) ∧ pn ≤ 201 ∧ tn ≤ 201 ∧ Rd Pa.vals 14 w' pa pn PS ∧ Rd Pa.vals 14 w' ta tn TS ∧ Below w.heap.size w w'
def OfPostN (w : World) (PS TS : List Pa) (e : Ending) (w' : World) : Prop :=
 ∃ pa pn pc ta tn tc, e = .returned (.agg #[.slice pa pn pc, .slice ta tn tc]) ∧ pn ≤ 201 ∧ tn ≤ 201 ∧ Rd Pa.vals 14 w' pa pn PS ∧ Rd Pa.vals 14 w' ta tn TS ∧ Below w.heap.size w w' ∧ (∀ p, pa = some p → w.heap.size < p.block) ∧ ∀ p, ta = some p → w.heap.size < p.block
set_option maxRecDepth 100000 in
set_option maxHeartbeats 8000000 in
theorem of_rn (a : Option Addr) (n cap : Nat) (xs : List Pa) (hs : ∀ x ∈ xs, x.Short) (known loss : Int) (w : World) (h : Rd Pa.vals 14 w a n xs) (hcap : n ≤ cap) (hn : n ≤ 100000) :
 Calls Tryz.prog 64 #[.slice a n cap, .int .i64 known, .int .i64 loss] w (OfPostN w (papersO xs known loss) (totalsO xs known loss)) := by
 have hB0 := al' (Below.refl w.heap.size w) (.cells #[.slice none 0 0, .slice none 0 0] 70)
 have hb0 := BoxG.made w [.slice none 0 0, .slice none 0 0] 70
 have HR := Hd (h.below' hB0)
 have hsz : (w.alloc (.cells #[.slice none 0 0, .slice none 0 0] 70)).heap.size = w.heap.size + 1 := by simp
 clear h
 have CP0 := Hd (fun W (hW : Rd Pa.vals 14 W a n xs) => packages_r a n cap xs hs known loss W hW hcap hn)
 have CT0 := Hd (fun W (hW : Rd Pa.vals 14 W a n xs) => totals_r a n cap xs hs known loss W hW hcap hn)
 obtain ⟨hp1, hp2⟩ := papersO_len xs known loss
 obtain ⟨PS, hPS⟩ : ∃ P, papersO xs known loss = P := ⟨_, rfl⟩
 obtain ⟨TS, hTS⟩ : ∃ P, totalsO xs known loss = P := ⟨_, rfl⟩
 rw [hPS] at CP0 hp1 ⊢
 rw [hTS] at CT0 hp2 ⊢
 clear hPS hTS
 go_enter Tryz.func64, Tryz.ntmps64
 go_upto_region 1 with (fail)
 generalize w.alloc (.cells #[.slice none 0 0, .slice none 0 0] 70) = w1 at *
 have HB0 := Hd hB0
 have Hb0 := Hd hb0
 have Hsz := Hd hsz
 clear hB0 hb0 hsz
 have CP := Hd (CP0.out w1 HR.out)
 have CT := Hd (fun W (hB : Below w1.heap.size w1 W) => CT0.out W (HR.out.below' hB))
 go_wp2_with fail
 refine CP.out.mono ?_
 rintro e w2 ⟨vP, rfl, hrow, hS⟩
 obtain ⟨pn, hpn⟩ : ∃ m, PS.length = m := ⟨_, rfl⟩
 rw [hpn] at hrow hp1
 obtain ⟨pa, pc, rfl, _, _, _⟩ := Rd.of_own hrow Pa.vals_length (by decide) hpn (by unfold maxLen; omega)
 have HR1 := Hd hrow
 have HS1 := Hd hS
 have Hpn := Hd hpn
 clear hrow hS CP hpn
 go_wp2_with fail
 refine (CT.out _ HS1.out).mono ?_
 rintro e w3 ⟨vT, rfl, hrow, hS⟩
 obtain ⟨tn, htn⟩ : ∃ m, TS.length = m := ⟨_, rfl⟩
 rw [htn] at hrow hp2
 obtain ⟨ta, tc, rfl, _, _, _⟩ := Rd.of_own hrow Pa.vals_length (by decide) htn (by unfold maxLen; omega)
 have HR2 := Hd hrow
 have HS2 := Hd hS
 have HR3 := Hd (own_later' HR1.out hS)
 have Htn := Hd htn
 have hb4 := (Hb0.out.below' HS1.out).below' hS
 have r0 := hb4.2.2 0 (by simp)
 have r1 := hb4.2.2 1 (by simp)
 have rf := hb4.2.1
 have rl := hb4.1
 simp only [List.getElem?_cons_zero, List.getElem?_cons_succ] at r0 r1
 clear hrow hS CT htn HR1
 go_wp2_with fail
 obtain ⟨s0, s1, sl, sk⟩ := two_set (u := .slice pa pn pc) (v := .slice ta tn tc) hb4
 clear r0 r1 rf rl hb4
 generalize (w3.setCell ⟨w.heap.size, 0, none⟩ (.slice pa pn pc)).setCell ⟨w.heap.size, 1, none⟩ (.slice ta tn tc) = wf at *
 refine bodyPost_ret (v := .agg #[.slice pa pn pc, .slice ta tn tc]) (by simp [results, Tryz.results64, go_sem, s0, s1, sl]) rfl ?_
 have hs1 := Hsz.out
 have hs2 := HS1.out.size
 have hs3 := HS2.out.size
 have hrp := sk.own HR3.out (fun r e hm => by have := (HR3.out.lt r e).1; have h2 := List.mem_singleton.1 hm; omega)
 have hrt := sk.own HR2.out (fun r e hm => by have := (HR2.out.lt r e).1; have h2 := List.mem_singleton.1 hm; omega)
 obtain ⟨_, _, e1, _, q1, b1⟩ := Rd.of_own hrp Pa.vals_length (by decide) Hpn.out (by unfold maxLen; omega)
 obtain ⟨_, _, e2, _, q2, b2⟩ := Rd.of_own hrt Pa.vals_length (by decide) Htn.out (by unfold maxLen; omega)
 injection e1 with e1
 injection e2 with e2
 subst e1 e2
 exact ⟨_, _, _, _, _, _, rfl, hp1, hp2, q1, q2, sk.below_then ((HB0.out.trans (HS1.out.mono (by omega))).trans (HS2.out.mono (by omega))) (fun x hx => by have := List.mem_singleton.1 hx; omega) (Nat.le_refl _), fun p e => by have := (b1 p e).1; omega, fun p e => by have := (b2 p e).1; omega⟩
theorem of_r (a : Option Addr) (n cap : Nat) (xs : List Pa) (hs : ∀ x ∈ xs, x.Short) (known loss : Int) (w : World) (h : Rd Pa.vals 14 w a n xs) (hcap : n ≤ cap) (hn : n ≤ 100000) :
 Calls Tryz.prog 64 #[.slice a n cap, .int .i64 known, .int .i64 loss] w (OfPost w (papersO xs known loss) (totalsO xs known loss)) := by
 refine (of_rn a n cap xs hs known loss w h hcap hn).mono ?_
 rintro e w2 ⟨pa, pn, pc, ta, tn, tc, rfl, h1, h2, h3, h4, h5, _, _⟩
 exact ⟨pa, pn, pc, ta, tn, tc, rfl, h1, h2, h3, h4, h5⟩
def paperE (l : List Pa) (known loss pack : Int) : Int := if openE l loss = 0 then (if (ofI (papersO l known loss) pack).isSome then 0 else 5) else openE l loss
def PaperOfPost (w : World) (OQ : Option Pa) (PE : Int) (e : Ending) (w' : World) : Prop :=
 Below w.heap.size w w' ∧ ∃ q, ofV OQ = q ∧ e = .returned (.tuple #[.agg #[.int .i64 q.id, .int .i64 q.known, .int .u8 q.kind, .int .i64 q.loss, .int .i64 q.pack, .int .i64 q.inn, .string ⟨q.mark.toArray⟩, .string ⟨q.goods.toArray⟩, .int .i64 q.low, .int .i64 q.high, .int .i64 q.pieces, .int .i64 q.owner, .int .i64 q.count, .int .i64 q.of], .int .i64 PE])
set_option maxRecDepth 100000 in
set_option maxHeartbeats 8000000 in
theorem paperOf_r (a : Option Addr) (n cap : Nat) (xs : List Pa) (hs : ∀ x ∈ xs, x.Short) (known loss : Int) (pack : Int) (w : World) (h : Rd Pa.vals 14 w a n xs) (hcap : n ≤ cap) (hn : n ≤ 100000) :
 Calls Tryz.prog 63 #[.slice a n cap, .int .i64 known, .int .i64 loss, .int .i64 pack] w (PaperOfPost w (ofI (papersO xs known loss) pack) (paperE xs known loss pack)) := by
 have hB0 := al' (Below.refl w.heap.size w) (.cells #[.int .i64 0, .int .i64 0, .int .u8 0, .int .i64 0, .int .i64 0, .int .i64 0, .string ⟨#[]⟩, .string ⟨#[]⟩, .int .i64 0, .int .i64 0, .int .i64 0, .int .i64 0, .int .i64 0, .int .i64 0] 42)
 have hb := BoxG.made w pa0.vals 42
 simp only [Pa.vals, pa0] at hb
 have HB := Hd hB0
 have Hb := Hd hb
 have HR := Hd (h.below' hB0)
 obtain ⟨OQ, hOQ⟩ : ∃ P, ofI (papersO xs known loss) pack = P := ⟨_, rfl⟩
 obtain ⟨PE, hPE⟩ : ∃ P, paperE xs known loss pack = P := ⟨_, rfl⟩
 rw [hOQ, hPE]
 have HOQ := Hd hOQ
 have HPE := Hd hPE
 clear hB0 hb h hOQ hPE
 go_enter Tryz.func63, Tryz.ntmps63
 go_upto_region 1 with (fail)
 generalize w.alloc (.cells #[.int .i64 0, .int .i64 0, .int .u8 0, .int .i64 0, .int .i64 0, .int .i64 0, .string ⟨#[]⟩, .string ⟨#[]⟩, .int .i64 0, .int .i64 0, .int .i64 0, .int .i64 0, .int .i64 0, .int .i64 0] 42) = w1 at *
 obtain ⟨B, hBe⟩ : ∃ B, w.heap.size = B := ⟨_, rfl⟩
 have HBe := Hd hBe
 rw [hBe] at Hb ⊢
 have Hb1 := Hd (show BoxG w1 B pa0.vals from Hb.out)
 clear hBe Hb
 have CA := Hd (asked_any a n cap xs hs loss w1 HR.out hcap)
 have CP := Hd (fun W (hB : Below w1.heap.size w1 W) => packages_r a n cap xs hs known loss W (HR.out.below' hB) hcap hn)
 obtain ⟨hp1, _⟩ := papersO_len xs known loss
 obtain ⟨oe, hoe⟩ : ∃ c, openE xs loss = c := ⟨_, rfl⟩
 rw [hoe] at CA
 have HOe := Hd hoe
 clear hoe
 go_wp2_with fail
 refine CA.out.mono ?_
 rintro e w2 ⟨rfl, hB2⟩
 have HB2 := Hd hB2
 have HBw2 := Hd (HB.out.trans (hB2.mono HB.out.size))
 have Hb2 := Hd (Hb1.out.below' hB2)
 clear hB2 CA
 by_cases h0 : oe = 0
 case neg =>
  have h1 : (oe != 0) = true := by simp [h0]
  have HE := Hd (show PE = oe from by rw [← HPE.out]; unfold paperE; rw [HOe.out, if_neg h0])
  have HQ := Hd (show OQ = none from by rw [← HOQ.out, (open_none (known := known) (show ¬ openE xs loss = 0 from by rw [HOe.out]; exact h0)).1]; rfl)
  clear h0
  obtain ⟨d0, d1, d2, d3, d4, d5, d6, d7, d8, d9, d10, d11, d12, d13⟩ := Hb2.out.pa
  dsimp only [pa0] at d0 d1 d2 d3 d4 d5 d6 d7 d8 d9 d10 d11 d12 d13
  have bf := Hb2.out.2.1
  have bl := Hb2.out.1
  have HBb := Hd (show BoxG w2 B [.int .i64 0, .int .i64 0, .int .u8 0, .int .i64 0, .int .i64 0, .int .i64 0, .string ⟨#[]⟩, .string ⟨#[]⟩, .int .i64 0, .int .i64 0, .int .i64 0, .int .i64 0, .int .i64 0, .int .i64 0] from Hb2.out)
  have HBw := HBw2
  go_wp2_with fail
  have hb2' : BoxG w2 B [.int .i64 0, .int .i64 0, .int .u8 0, .int .i64 0, .int .i64 0, .int .i64 0, .string ⟨#[]⟩, .string ⟨#[]⟩, .int .i64 0, .int .i64 0, .int .i64 0, .int .i64 0, .int .i64 0, .int .i64 0] := HBb.out
  obtain ⟨g1, k1⟩ := hb2'.all14 (.int .i64 0) (.int .i64 0) (.int .u8 0) (.int .i64 0) (.int .i64 0) (.int .i64 0) (.string ⟨#[]⟩) (.string ⟨#[]⟩) (.int .i64 0) (.int .i64 0) (.int .i64 0) (.int .i64 0) (.int .i64 0) (.int .i64 0)
  have HBf := Hd (k1.below_then HBw.out (fun y hy => by have := HBe.out; have := List.mem_singleton.1 hy; omega) (Nat.le_refl _))
  clear d0 d1 d2 d3 d4 d5 d6 d7 d8 d9 d10 d11 d12 d13 bf bl hb2' k1
  generalize ((((((((((((((w2.setCell ⟨B, 0, none⟩ (.int .i64 0)).setCell ⟨B, 1, none⟩ (.int .i64 0)).setCell ⟨B, 2, none⟩ (.int .u8 0)).setCell ⟨B, 3, none⟩ (.int .i64 0)).setCell ⟨B, 4, none⟩ (.int .i64 0)).setCell ⟨B, 5, none⟩ (.int .i64 0)).setCell ⟨B, 6, none⟩ (.string ⟨#[]⟩)).setCell ⟨B, 7, none⟩ (.string ⟨#[]⟩)).setCell ⟨B, 8, none⟩ (.int .i64 0)).setCell ⟨B, 9, none⟩ (.int .i64 0)).setCell ⟨B, 10, none⟩ (.int .i64 0)).setCell ⟨B, 11, none⟩ (.int .i64 0)).setCell ⟨B, 12, none⟩ (.int .i64 0)).setCell ⟨B, 13, none⟩ (.int .i64 0)) = wf at *
  have gb' : BoxG wf B pa0.vals := g1
  obtain ⟨c0, c1, c2, c3, c4, c5, c6, c7, c8, c9, c10, c11, c12, c13⟩ := BoxG.pa gb'
  have rl := gb'.1
  clear g1 gb'
  exact bodyPost_ret (by simp [results, Tryz.results63, go_sem, c0, c1, c2, c3, c4, c5, c6, c7, c8, c9, c10, c11, c12, c13, rl]) rfl (show PaperOfPost w OQ PE (.returned (.tuple #[.agg #[.int .i64 pa0.id, .int .i64 pa0.known, .int .u8 pa0.kind, .int .i64 pa0.loss, .int .i64 pa0.pack, .int .i64 pa0.inn, .string ⟨pa0.mark.toArray⟩, .string ⟨pa0.goods.toArray⟩, .int .i64 pa0.low, .int .i64 pa0.high, .int .i64 pa0.pieces, .int .i64 pa0.owner, .int .i64 pa0.count, .int .i64 pa0.of], .int .i64 oe])) wf from ⟨HBf.out, pa0, by rw [HQ.out] <;> rfl, by rw [HE.out] <;> rfl⟩)
 case pos =>
  subst h0
  have HS := Hd HOe.out
  obtain ⟨PS, hPS⟩ : ∃ P, papersO xs known loss = P := ⟨_, rfl⟩
  rw [hPS] at HOQ CP hp1
  have HPS := Hd hPS
  clear hPS
  go_wp2_with fail
  refine (CP.out _ HB2.out).mono ?_
  rintro e w3 ⟨vP, rfl, hrow, hS⟩
  obtain ⟨pn, hpn⟩ : ∃ m, PS.length = m := ⟨_, rfl⟩
  rw [hpn] at hrow hp1
  obtain ⟨pa, pc, rfl, _, hrp, _⟩ := Rd.of_own hrow Pa.vals_length (by decide) hpn (by unfold maxLen; omega)
  have CF := Hd (find_r pa pn pc PS pack w3 hrp)
  unfold FindPost at CF
  rw [HOQ.out] at CF
  have HBw3 := Hd (HBw2.out.trans (hS.mono HBw2.out.size))
  have Hb3 := Hd (Hb2.out.below' hS)
  clear hrow hpn hS hrp CP
  go_upto_region 5 with (go_at_call 67; refine CF.out.mono ?_; rintro e w4 ⟨hS0, q, hq, rfl⟩)
  have hBq := al' (Below.refl w4.heap.size w4) (.cells #[.int .i64 q.id, .int .i64 q.known, .int .u8 q.kind, .int .i64 q.loss, .int .i64 q.pack, .int .i64 q.inn, .string ⟨q.mark.toArray⟩, .string ⟨q.goods.toArray⟩, .int .i64 q.low, .int .i64 q.high, .int .i64 q.pieces, .int .i64 q.owner, .int .i64 q.count, .int .i64 q.of] 42)
  have hS := hS0.trans (hBq.mono hS0.size)
  have hbx := (BoxG.made w4 q.vals 42)
  simp only [Pa.vals] at hbx
  have HBw := Hd (HBw3.out.trans (hS.mono HBw3.out.size))
  have Hb5 := Hd (Hb3.out.below' hS)
  have hne : B ≠ w4.heap.size := Nat.ne_of_lt (Hb3.out.below' hS0).1
  clear hBq hS hS0 CF
  generalize w4.alloc (.cells #[.int .i64 q.id, .int .i64 q.known, .int .u8 q.kind, .int .i64 q.loss, .int .i64 q.pack, .int .i64 q.inn, .string ⟨q.mark.toArray⟩, .string ⟨q.goods.toArray⟩, .int .i64 q.low, .int .i64 q.high, .int .i64 q.pieces, .int .i64 q.owner, .int .i64 q.count, .int .i64 q.of] 42) = w5 at *
  obtain ⟨Q, hQe⟩ : ∃ Q, w4.heap.size = Q := ⟨_, rfl⟩
  rw [hQe] at hbx hne ⊢
  clear hQe
  have HBx := Hd hbx
  have Hq := Hd hq
  clear hbx hq
  cases OQ with
  | none =>
    obtain rfl : pa0 = q := Hq.out
    have HE := Hd (show PE = 5 from by rw [← HPE.out]; unfold paperE; rw [HOe.out, if_pos rfl, HPS.out, HOQ.out]; rfl)
    obtain ⟨d0, d1, d2, d3, d4, d5, d6, d7, d8, d9, d10, d11, d12, d13⟩ := Hb5.out.pa
    dsimp only [pa0] at d0 d1 d2 d3 d4 d5 d6 d7 d8 d9 d10 d11 d12 d13
    have bf := Hb5.out.2.1
    have bl := Hb5.out.1
    have HBb := Hd (show BoxG w5 B [.int .i64 0, .int .i64 0, .int .u8 0, .int .i64 0, .int .i64 0, .int .i64 0, .string ⟨#[]⟩, .string ⟨#[]⟩, .int .i64 0, .int .i64 0, .int .i64 0, .int .i64 0, .int .i64 0, .int .i64 0] from Hb5.out)
    go_wp2_with fail
    have hb2' : BoxG w5 B [.int .i64 0, .int .i64 0, .int .u8 0, .int .i64 0, .int .i64 0, .int .i64 0, .string ⟨#[]⟩, .string ⟨#[]⟩, .int .i64 0, .int .i64 0, .int .i64 0, .int .i64 0, .int .i64 0, .int .i64 0] := HBb.out
    obtain ⟨g1, k1⟩ := hb2'.all14 (.int .i64 0) (.int .i64 0) (.int .u8 0) (.int .i64 0) (.int .i64 0) (.int .i64 0) (.string ⟨#[]⟩) (.string ⟨#[]⟩) (.int .i64 0) (.int .i64 0) (.int .i64 0) (.int .i64 0) (.int .i64 0) (.int .i64 0)
    have HBf := Hd (k1.below_then HBw.out (fun y hy => by have := HBe.out; have := List.mem_singleton.1 hy; omega) (Nat.le_refl _))
    clear d0 d1 d2 d3 d4 d5 d6 d7 d8 d9 d10 d11 d12 d13 bf bl hb2' k1
    generalize ((((((((((((((w5.setCell ⟨B, 0, none⟩ (.int .i64 0)).setCell ⟨B, 1, none⟩ (.int .i64 0)).setCell ⟨B, 2, none⟩ (.int .u8 0)).setCell ⟨B, 3, none⟩ (.int .i64 0)).setCell ⟨B, 4, none⟩ (.int .i64 0)).setCell ⟨B, 5, none⟩ (.int .i64 0)).setCell ⟨B, 6, none⟩ (.string ⟨#[]⟩)).setCell ⟨B, 7, none⟩ (.string ⟨#[]⟩)).setCell ⟨B, 8, none⟩ (.int .i64 0)).setCell ⟨B, 9, none⟩ (.int .i64 0)).setCell ⟨B, 10, none⟩ (.int .i64 0)).setCell ⟨B, 11, none⟩ (.int .i64 0)).setCell ⟨B, 12, none⟩ (.int .i64 0)).setCell ⟨B, 13, none⟩ (.int .i64 0)) = wf at *
    have gb' : BoxG wf B pa0.vals := g1
    obtain ⟨c0, c1, c2, c3, c4, c5, c6, c7, c8, c9, c10, c11, c12, c13⟩ := BoxG.pa gb'
    have rl := gb'.1
    clear g1 gb'
    exact bodyPost_ret (by simp [results, Tryz.results63, go_sem, c0, c1, c2, c3, c4, c5, c6, c7, c8, c9, c10, c11, c12, c13, rl]) rfl (show PaperOfPost w none PE (.returned (.tuple #[.agg #[.int .i64 pa0.id, .int .i64 pa0.known, .int .u8 pa0.kind, .int .i64 pa0.loss, .int .i64 pa0.pack, .int .i64 pa0.inn, .string ⟨pa0.mark.toArray⟩, .string ⟨pa0.goods.toArray⟩, .int .i64 pa0.low, .int .i64 pa0.high, .int .i64 pa0.pieces, .int .i64 pa0.owner, .int .i64 pa0.count, .int .i64 pa0.of], .int .i64 5])) wf from ⟨HBf.out, pa0, rfl, by rw [HE.out] <;> rfl⟩)
  | some t =>
    obtain rfl : t = q := Hq.out
    have HE := Hd (show PE = 0 from by rw [← HPE.out]; unfold paperE; rw [HOe.out, if_pos rfl, HPS.out, HOQ.out]; rfl)
    obtain ⟨d0, d1, d2, d3, d4, d5, d6, d7, d8, d9, d10, d11, d12, d13⟩ := Hb5.out.pa
    dsimp only [pa0] at d0 d1 d2 d3 d4 d5 d6 d7 d8 d9 d10 d11 d12 d13
    have bf := Hb5.out.2.1
    have bl := Hb5.out.1
    have HBb := Hd (show BoxG w5 B [.int .i64 0, .int .i64 0, .int .u8 0, .int .i64 0, .int .i64 0, .int .i64 0, .string ⟨#[]⟩, .string ⟨#[]⟩, .int .i64 0, .int .i64 0, .int .i64 0, .int .i64 0, .int .i64 0, .int .i64 0] from Hb5.out)
    obtain ⟨c0, c1, c2, c3, c4, c5, c6, c7, c8, c9, c10, c11, c12, c13⟩ := BoxG.pa (x := t) HBx.out
    go_wp2_with fail
    have hb2' : BoxG w5 B [.int .i64 0, .int .i64 0, .int .u8 0, .int .i64 0, .int .i64 0, .int .i64 0, .string ⟨#[]⟩, .string ⟨#[]⟩, .int .i64 0, .int .i64 0, .int .i64 0, .int .i64 0, .int .i64 0, .int .i64 0] := HBb.out
    obtain ⟨g1, k1⟩ := hb2'.all14 (.int .i64 t.id) (.int .i64 t.known) (.int .u8 t.kind) (.int .i64 t.loss) (.int .i64 t.pack) (.int .i64 t.inn) (.string ⟨t.mark.toArray⟩) (.string ⟨t.goods.toArray⟩) (.int .i64 t.low) (.int .i64 t.high) (.int .i64 t.pieces) (.int .i64 t.owner) (.int .i64 t.count) (.int .i64 t.of)
    have HBf := Hd (k1.below_then HBw.out (fun y hy => by have := HBe.out; have := List.mem_singleton.1 hy; omega) (Nat.le_refl _))
    clear d0 d1 d2 d3 d4 d5 d6 d7 d8 d9 d10 d11 d12 d13 bf bl hb2' k1 c0 c1 c2 c3 c4 c5 c6 c7 c8 c9 c10 c11 c12 c13
    generalize ((((((((((((((w5.setCell ⟨B, 0, none⟩ (.int .i64 t.id)).setCell ⟨B, 1, none⟩ (.int .i64 t.known)).setCell ⟨B, 2, none⟩ (.int .u8 t.kind)).setCell ⟨B, 3, none⟩ (.int .i64 t.loss)).setCell ⟨B, 4, none⟩ (.int .i64 t.pack)).setCell ⟨B, 5, none⟩ (.int .i64 t.inn)).setCell ⟨B, 6, none⟩ (.string ⟨t.mark.toArray⟩)).setCell ⟨B, 7, none⟩ (.string ⟨t.goods.toArray⟩)).setCell ⟨B, 8, none⟩ (.int .i64 t.low)).setCell ⟨B, 9, none⟩ (.int .i64 t.high)).setCell ⟨B, 10, none⟩ (.int .i64 t.pieces)).setCell ⟨B, 11, none⟩ (.int .i64 t.owner)).setCell ⟨B, 12, none⟩ (.int .i64 t.count)).setCell ⟨B, 13, none⟩ (.int .i64 t.of)) = wf at *
    have gb' : BoxG wf B t.vals := g1
    obtain ⟨c0, c1, c2, c3, c4, c5, c6, c7, c8, c9, c10, c11, c12, c13⟩ := BoxG.pa gb'
    have rl := gb'.1
    clear g1 gb'
    exact bodyPost_ret (by simp [results, Tryz.results63, go_sem, c0, c1, c2, c3, c4, c5, c6, c7, c8, c9, c10, c11, c12, c13, rl]) rfl (show PaperOfPost w (some t) PE (.returned (.tuple #[.agg #[.int .i64 t.id, .int .i64 t.known, .int .u8 t.kind, .int .i64 t.loss, .int .i64 t.pack, .int .i64 t.inn, .string ⟨t.mark.toArray⟩, .string ⟨t.goods.toArray⟩, .int .i64 t.low, .int .i64 t.high, .int .i64 t.pieces, .int .i64 t.owner, .int .i64 t.count, .int .i64 t.of], .int .i64 0])) wf from ⟨HBf.out, t, rfl, by rw [HE.out] <;> rfl⟩)
def InsVPost (w : World) (L : List Int) (e : Ending) (w' : World) : Prop :=
 ∃ v, e = .returned v ∧ w'.ownsRow w.heap.size 3 1 v L.length (L.flatMap ints) ∧ Below w.heap.size w w'
end Go.Proofs.YtehplmeckfinoaaGreatDoor
