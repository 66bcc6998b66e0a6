/- The walks of the reference's asked, find, Counting, lasts, Packages and Totals. -/
import Derived.Test.YtmghbbgnenpcaaaGreatDoorCRPapers
import Derived.Test.YtmghbbgnenpcaaaGreatDoorCManP
import Derived.Test.YtmghbbgnenpcaaaGreatDoorCThere
import Derived.Test.YtmghbbgnenpcaaaGreatDoorCRead
import Derived.BigQuiet
import Derived.Deep.QuietTactic
set_option linter.unusedSimpArgs false
set_option linter.unusedVariables false
namespace Go.Proofs.YtmghbbgnenpcaaaGreatDoor
open Go.RowKit Go.Shelf

theorem asked_any (a : Option Addr) (n cap : Nat) (xs : List Pa) (hs : ∀ x ∈ xs, x.Short) (loss : Int) (w : World) (h : Rd Pa.vals 14 w a n xs) (hcap : n ≤ cap) :
    Calls Tryz.prog 95 #[.slice a n cap, .int .i64 loss] w fun e w' => e = .returned (.int .i64 (openE xs loss)) ∧ Below w.heap.size w w' := by
  have C := Lib.hid (rcheck_any a n cap xs hs w h hcap)
  obtain ⟨E, hE⟩ : ∃ E, (checkC xs).2 = E := ⟨_, rfl⟩
  rw [hE] at C
  have HE := Lib.hid hE
  clear hE h
  go_enter Tryz.func95, Tryz.ntmps95
  go_wp2_with fail
  refine C.out.mono ?_
  rintro e w2 ⟨rfl, hS⟩
  have HB := Lib.hid hS
  clear hS C
  by_cases h0 : E = 0
  case neg =>
    have h1 : (E != 0) = true := by simp [h0]
    have HO := Lib.hid (show openE xs loss = E from openE_bad HE.out h0)
    clear h0
    go_wp2_with fail
    go_ret
    exact ⟨by rw [HO.out] <;> rfl, HB.out⟩
  have h1 : (E != 0) = false := by simp [h0]
  obtain ⟨b, hb⟩ : ∃ b, within loss 1 20 = b := ⟨_, rfl⟩
  have HO := Lib.hid (show openE xs loss = if b then 0 else 1 from by unfold openE; rw [if_pos (HE.out.trans h0), hb])
  clear h0
  go_wp2_with fail
  refine (rwithin_any _ _ _ _).mono ?_
  rintro e w3 ⟨rfl, rfl⟩
  rw [hb]
  clear hb
  cases b <;> (go_wp2_with fail; go_ret; exact ⟨by rw [HO.out] <;> rfl, HB.out⟩)

theorem ofI_no {xs : List Pa} {pack : Int} (h : ∀ x ∈ xs, x.pack ≠ pack) : ofI xs pack = none := by
  unfold ofI; rw [List.find?_eq_none]; intro x hx; simpa using h x hx
theorem ofI_at {xs : List Pa} {pack : Int} {k : Nat} {x : Pa} (hx : xs[k]? = some x) (h : ∀ y ∈ xs.take k, y.pack ≠ pack) (hp : x.pack = pack) : ofI xs pack = some x := by
  have e : xs = xs.take k ++ x :: xs.drop (k + 1) := by
    have hk := (List.getElem?_eq_some_iff.1 hx).1
    conv => lhs; rw [← List.take_append_drop k xs]
    rw [List.drop_eq_getElem_cons hk, (List.getElem?_eq_some_iff.1 hx).2]
  unfold ofI
  rw [e, List.find?_append, List.find?_eq_none.2 (fun y hy => by simpa using h y hy)]
  simp [hp]
def FindPost (w : World) (xs : List Pa) (pack : Int) (e : Ending) (w' : World) : Prop :=
  Below w.heap.size w w' ∧ ∃ q, ofV (ofI xs pack) = q ∧ e = .returned (.tuple #[.agg #[.int .i64 q.id, .int .i64 q.known, .int .u8 q.kind, .int .i64 q.loss, .int .i64 q.pack, .int .i64 q.inn, .string ⟨q.mark.toArray⟩, .string ⟨q.goods.toArray⟩, .int .i64 q.low, .int .i64 q.high, .int .i64 q.pieces, .int .i64 q.owner, .int .i64 q.count, .int .i64 q.of], .bool (ofI xs pack).isSome])
set_option maxRecDepth 100000 in
set_option maxHeartbeats 4000000 in
theorem find_r (a : Option Addr) (n cap : Nat) (xs : List Pa) (pack : Int) (w : World) (h : Rd Pa.vals 14 w a n xs) :
    Calls Tryz.prog 78 #[.slice a n cap, .int .i64 pack] w (FindPost w xs pack) := by
  have hm := h.cap
  unfold maxLen at hm
  have hB0 := al' (Below.refl w.heap.size w) (.cells #[.int .i64 0, .int .i64 0, .int .u8 0, .int .i64 0, .int .i64 0, .int .i64 0, .string ⟨#[]⟩, .string ⟨#[]⟩, .int .i64 0, .int .i64 0, .int .i64 0, .int .i64 0, .int .i64 0, .int .i64 0] 42)
  have hb := BoxG.made w pa0.vals 42
  simp only [Pa.vals, pa0] at hb
  have HB := Lib.hid hB0
  have Hb := Lib.hid hb
  have HR := Lib.hid (h.below' hB0)
  have Hl := Lib.hid h.len
  clear hB0 hb h
  go_enter Tryz.func78, Tryz.ntmps78
  go_upto_region 1 with (fail)
  generalize w.alloc (.cells #[.int .i64 0, .int .i64 0, .int .u8 0, .int .i64 0, .int .i64 0, .int .i64 0, .string ⟨#[]⟩, .string ⟨#[]⟩, .int .i64 0, .int .i64 0, .int .i64 0, .int .i64 0, .int .i64 0, .int .i64 0] 42) = w1 at *
  obtain ⟨B, hBe⟩ : ∃ B, w.heap.size = B := ⟨_, rfl⟩
  have HBe := Lib.hid hBe
  rw [hBe] at Hb ⊢
  have Hb1 := Lib.hid (show BoxG w1 B pa0.vals from Hb.out)
  clear hBe Hb
  go_wp2_with fail
  go_loopw [6] (fun i wr => ∃ k : Nat, k ≤ n ∧ i = .int .i64 k ∧ (∀ y ∈ xs.take k, y.pack ≠ pack) ∧ wr = w1) (fun i _ => n - (intOf i).toNat)
  case atStart => exact ⟨0, Nat.zero_le _, rfl, by simp, rfl⟩
  case round =>
    obtain ⟨k, hk, rfl, hno, rfl⟩ := hrel
    have HNo := Lib.hid hno
    clear hno
    by_cases hlt : k < n
    · have hlt' : (k : Int) < (n : Int) := by omega
      obtain ⟨b, off, x, hpa, hb, hx, c0, c1, c2, c3, c4, c5, c6, c7, c8, c9, c10, c11, c12, c13⟩ := HR.out.pa hlt
      subst hpa
      have Hx := Lib.hid hx
      clear hx
      by_cases hp : x.pack = pack
      · have hp' : (x.pack == pack) = true := by simp [hp]
        have HF := Lib.hid (ofI_at Hx.out HNo.out hp)
        clear hp
        obtain ⟨d0, d1, d2, d3, d4, d5, d6, d7, d8, d9, d10, d11, d12, d13⟩ := Hb1.out.pa
        dsimp only [pa0] at d0 d1 d2 d3 d4 d5 d6 d7 d8 d9 d10 d11 d12 d13
        have bf := Hb1.out.2.1
        have bl := Hb1.out.1
        go_wp2_with fail
        have hb2' : BoxG wr B [.int .i64 0, .int .i64 0, .int .u8 0, .int .i64 0, .int .i64 0, .int .i64 0, .string ⟨#[]⟩, .string ⟨#[]⟩, .int .i64 0, .int .i64 0, .int .i64 0, .int .i64 0, .int .i64 0, .int .i64 0] := Hb1.out
        obtain ⟨g1, k1⟩ := hb2'.all14 (.int .i64 x.id) (.int .i64 x.known) (.int .u8 x.kind) (.int .i64 x.loss) (.int .i64 x.pack) (.int .i64 x.inn) (.string ⟨x.mark.toArray⟩) (.string ⟨x.goods.toArray⟩) (.int .i64 x.low) (.int .i64 x.high) (.int .i64 x.pieces) (.int .i64 x.owner) (.int .i64 x.count) (.int .i64 x.of)
        have HBf := Lib.hid (k1.below_then HB.out (fun y hy => by have := HBe.out; have := List.mem_singleton.1 hy; omega) (Nat.le_refl _))
        clear c0 c1 c2 c3 c4 c5 c6 c7 c8 c9 c10 c11 c12 c13 d0 d1 d2 d3 d4 d5 d6 d7 d8 d9 d10 d11 d12 d13 bf bl hb2' k1
        generalize ((((((((((((((wr.setCell ⟨B, 0, none⟩ (.int .i64 x.id)).setCell ⟨B, 1, none⟩ (.int .i64 x.known)).setCell ⟨B, 2, none⟩ (.int .u8 x.kind)).setCell ⟨B, 3, none⟩ (.int .i64 x.loss)).setCell ⟨B, 4, none⟩ (.int .i64 x.pack)).setCell ⟨B, 5, none⟩ (.int .i64 x.inn)).setCell ⟨B, 6, none⟩ (.string ⟨x.mark.toArray⟩)).setCell ⟨B, 7, none⟩ (.string ⟨x.goods.toArray⟩)).setCell ⟨B, 8, none⟩ (.int .i64 x.low)).setCell ⟨B, 9, none⟩ (.int .i64 x.high)).setCell ⟨B, 10, none⟩ (.int .i64 x.pieces)).setCell ⟨B, 11, none⟩ (.int .i64 x.owner)).setCell ⟨B, 12, none⟩ (.int .i64 x.count)).setCell ⟨B, 13, none⟩ (.int .i64 x.of)) = wf at *
        have gb' : BoxG wf B x.vals := g1
        obtain ⟨c0, c1, c2, c3, c4, c5, c6, c7, c8, c9, c10, c11, c12, c13⟩ := BoxG.pa gb'
        have rl := gb'.1
        clear g1 gb'
        exact bodyPost_ret (by simp [results, Tryz.results78, go_sem, c0, c1, c2, c3, c4, c5, c6, c7, c8, c9, c10, c11, c12, c13, rl]) rfl (show FindPost w xs pack (.returned (.tuple #[.agg #[.int .i64 x.id, .int .i64 x.known, .int .u8 x.kind, .int .i64 x.loss, .int .i64 x.pack, .int .i64 x.inn, .string ⟨x.mark.toArray⟩, .string ⟨x.goods.toArray⟩, .int .i64 x.low, .int .i64 x.high, .int .i64 x.pieces, .int .i64 x.owner, .int .i64 x.count, .int .i64 x.of], .bool true])) wf from ⟨HBf.out, x, by rw [HF.out]; rfl, by rw [HF.out]; rfl⟩)
      · have hp' : (x.pack == pack) = false := by simp [hp]
        have HN := Lib.hid (show ∀ y ∈ xs.take (k + 1), y.pack ≠ pack from by
          rw [take_succ_snoc Hx.out]
          intro y hy
          rcases List.mem_append.1 hy with h1 | h1
          · exact HNo.out y h1
          · rw [List.mem_singleton.1 h1]; exact hp)
        clear hp
        go_wp2_with fail
        exact ⟨⟨k + 1, by omega, by go_num, HN.out, by first | rfl | trivial⟩, by simp [intOf]; omega⟩
    · have hltg : ¬ (k : Int) < (n : Int) := by omega
      have HF := Lib.hid (show ofI xs pack = none from ofI_no (by have := HNo.out; rwa [List.take_of_length_le (by rw [Hl.out]; omega)] at this))
      clear hlt
      obtain ⟨d0, d1, d2, d3, d4, d5, d6, d7, d8, d9, d10, d11, d12, d13⟩ := Hb1.out.pa
      dsimp only [pa0] at d0 d1 d2 d3 d4 d5 d6 d7 d8 d9 d10 d11 d12 d13
      have bf := Hb1.out.2.1
      have bl := Hb1.out.1
      go_wp2_with fail
      have hb2' : BoxG wr B [.int .i64 0, .int .i64 0, .int .u8 0, .int .i64 0, .int .i64 0, .int .i64 0, .string ⟨#[]⟩, .string ⟨#[]⟩, .int .i64 0, .int .i64 0, .int .i64 0, .int .i64 0, .int .i64 0, .int .i64 0] := Hb1.out
      obtain ⟨g1, k1⟩ := hb2'.all14 (.int .i64 0) (.int .i64 0) (.int .u8 0) (.int .i64 0) (.int .i64 0) (.int .i64 0) (.string ⟨#[]⟩) (.string ⟨#[]⟩) (.int .i64 0) (.int .i64 0) (.int .i64 0) (.int .i64 0) (.int .i64 0) (.int .i64 0)
      have HBf := Lib.hid (k1.below_then HB.out (fun y hy => by have := HBe.out; have := List.mem_singleton.1 hy; omega) (Nat.le_refl _))
      clear d0 d1 d2 d3 d4 d5 d6 d7 d8 d9 d10 d11 d12 d13 bf bl hb2' k1
      generalize ((((((((((((((wr.setCell ⟨B, 0, none⟩ (.int .i64 0)).setCell ⟨B, 1, none⟩ (.int .i64 0)).setCell ⟨B, 2, none⟩ (.int .u8 0)).setCell ⟨B, 3, none⟩ (.int .i64 0)).setCell ⟨B, 4, none⟩ (.int .i64 0)).setCell ⟨B, 5, none⟩ (.int .i64 0)).setCell ⟨B, 6, none⟩ (.string ⟨#[]⟩)).setCell ⟨B, 7, none⟩ (.string ⟨#[]⟩)).setCell ⟨B, 8, none⟩ (.int .i64 0)).setCell ⟨B, 9, none⟩ (.int .i64 0)).setCell ⟨B, 10, none⟩ (.int .i64 0)).setCell ⟨B, 11, none⟩ (.int .i64 0)).setCell ⟨B, 12, none⟩ (.int .i64 0)).setCell ⟨B, 13, none⟩ (.int .i64 0)) = wf at *
      have gb' : BoxG wf B pa0.vals := g1
      obtain ⟨c0, c1, c2, c3, c4, c5, c6, c7, c8, c9, c10, c11, c12, c13⟩ := BoxG.pa gb'
      have rl := gb'.1
      clear g1 gb'
      exact bodyPost_ret (by simp [results, Tryz.results78, go_sem, c0, c1, c2, c3, c4, c5, c6, c7, c8, c9, c10, c11, c12, c13, rl]) rfl (show FindPost w xs pack (.returned (.tuple #[.agg #[.int .i64 pa0.id, .int .i64 pa0.known, .int .u8 pa0.kind, .int .i64 pa0.loss, .int .i64 pa0.pack, .int .i64 pa0.inn, .string ⟨pa0.mark.toArray⟩, .string ⟨pa0.goods.toArray⟩, .int .i64 pa0.low, .int .i64 pa0.high, .int .i64 pa0.pieces, .int .i64 pa0.owner, .int .i64 pa0.count, .int .i64 pa0.of], .bool false])) wf from ⟨HBf.out, pa0, by rw [HF.out]; rfl, by rw [HF.out]; rfl⟩)

/-! counting -/
def cntF (l : List Pa) (known : Int) (x : Pa) : Bool := decide (x.kind ≠ 3 ∧ x.known ≤ known) && !voided l known x.id
theorem countL_is (l : List Pa) (known : Int) : countL l known = l.filter (cntF l known) := rfl
def vB (known id : Int) (v : Pa) : Bool := decide (v.kind = 3 ∧ v.known ≤ known ∧ v.of = id)
theorem voided_is (l : List Pa) (known id : Int) : voided l known id = l.any (vB known id) := rfl
theorem filter_yes {l : List Pa} {k : Nat} {x : Pa} (hx : l[k]? = some x) {f : Pa → Bool} (h : f x = true) : (l.take (k + 1)).filter f = (l.take k).filter f ++ [x] := by
  rw [take_succ_snoc hx, List.filter_append]; simp [h]
theorem filter_no {l : List Pa} {k : Nat} {x : Pa} (hx : l[k]? = some x) {f : Pa → Bool} (h : f x = false) : (l.take (k + 1)).filter f = (l.take k).filter f := by
  rw [take_succ_snoc hx, List.filter_append]; simp [h]
def ListPost (w : World) (R : List Pa) (e : Ending) (w' : World) : Prop :=
  ∃ v, e = .returned v ∧ w'.ownsRow w.heap.size 42 14 v R.length (R.flatMap Pa.vals) ∧ Below w.heap.size w w'
set_option maxRecDepth 100000 in
set_option maxHeartbeats 8000000 in
theorem counting_r (a : Option Addr) (n cap : Nat) (xs : List Pa) (hs : ∀ x ∈ xs, x.Short) (known : Int) (w : World) (h : Rd Pa.vals 14 w a n xs) (hcap : n ≤ cap) (hn : n ≤ 100000) :
    Calls Tryz.prog 159 #[.slice a n cap, .int .i64 known] w (ListPost w (countR xs known)) := by
  obtain ⟨i0, hi, hz0, hz1, hz2⟩ := info_parts info_pa
  have C := Lib.hid (rcheck_any a n cap xs hs w h hcap)
  have HR0 := Lib.hid h
  have Hl := Lib.hid h.len
  obtain ⟨E, hE⟩ : ∃ E, (checkC xs).2 = E := ⟨_, rfl⟩
  rw [hE] at C
  have HE := Lib.hid hE
  clear hE h
  go_enter Tryz.func159, Tryz.ntmps159
  go_wp2_with fail
  refine C.out.mono ?_
  rintro e w1 ⟨rfl, hS⟩
  have HB0 := Lib.hid hS
  have HR := Lib.hid (HR0.out.below' hS)
  clear hS C HR0
  by_cases h0 : E = 0
  case neg =>
    have h1 : (E != 0) = true := by simp [h0]
    have HC := Lib.hid (show countR xs known = [] from by unfold countR; rw [if_neg (by rw [HE.out]; exact h0)])
    clear h0
    go_wp2_with fail
    go_ret
    exact ⟨_, rfl, by rw [HC.out]; exact World.ownsRow_nil _ _ _ _, HB0.out⟩
  have h1 : (E != 0) = false := by simp [h0]
  have HC := Lib.hid (show countR xs known = xs.filter (cntF xs known) from by unfold countR; rw [if_pos (by rw [HE.out]; exact h0)]; rfl)
  clear h0 HE
  go_wp2_with fail
  go_loopw [7, 8] (fun v i wr => ∃ k : Nat, k ≤ n ∧ i = .int .i64 k ∧ wr.ownsRow w1.heap.size 42 14 v ((xs.take k).filter (cntF xs known)).length (((xs.take k).filter (cntF xs known)).flatMap Pa.vals) ∧ Below w1.heap.size w1 wr) (fun _ i _ => n - (intOf i).toNat)
  case atStart => exact ⟨0, Nat.zero_le _, rfl, World.ownsRow_nil _ _ _ _, Below.refl _ _⟩
  case round =>
    obtain ⟨k, hk, rfl, hrow, hB⟩ := hrel
    have HRow := Lib.hid hrow
    have HB := Lib.hid hB
    have HRr := Lib.hid (HR.out.below' hB)
    clear hrow hB
    by_cases hlt : k < n
    · have hlt' : (k : Int) < (n : Int) := by omega
      obtain ⟨b, off, x, hpa, hb, hx, c0, c1, c2, c3, c4, c5, c6, c7, c8, c9, c10, c11, c12, c13⟩ := HRr.out.pa hlt
      subst hpa
      have Hx := Lib.hid hx
      clear hx
      by_cases hk3 : x.kind = 3
      · have hk1 : (x.kind != 3) = false := by simp [hk3]
        have hk3' := hk3
        clear hk3
        have HCb := Lib.hid (show decide (x.kind ≠ 3 ∧ x.known ≤ known) = false from by simp [hk3'])
        clear hk3' c3 c4 c5 c6 c7 c8 c9 c10 c11 c12 c13
        go_upto_region 9 with (fail)
        obtain ⟨wo, rfl⟩ : ∃ wo : World, wo = wr := ⟨_, rfl⟩
        have HC0 := Lib.hid c0
        clear c0 c1 c2
        go_wp2_with fail
        go_loopw [9, 10] (fun cv i wr2 => ∃ j : Nat, j ≤ n ∧ i = .int .i64 j ∧ cv = .bool (false && !((xs.take j).any (vB known x.id))) ∧ Below wo.heap.size wo wr2) (fun _ i _ => n - (intOf i).toNat)
        case atStart => exact ⟨0, Nat.zero_le _, rfl, rfl, Below.refl _ _⟩
        case round =>
          obtain ⟨j, hj, rfl, rfl, hB2⟩ := hrel
          obtain ⟨ab, hab⟩ : ∃ b, (xs.take j).any (vB known x.id) = b := ⟨_, rfl⟩
          rw [hab]
          have HAb := Lib.hid hab
          have HB2 := Lib.hid hB2
          have HR2 := Lib.hid (HRr.out.below' hB2)
          have c0 := cell_stays HC0.out hB2
          clear hab hB2
          by_cases hlj : j < n
          · have hlj' : (j : Int) < (n : Int) := by omega
            obtain ⟨b2, off2, y, hpa2, hb2, hy, d0, d1, d2, d3, d4, d5, d6, d7, d8, d9, d10, d11, d12, d13⟩ := HR2.out.pa hlj
            obtain ⟨rfl, rfl⟩ : b = b2 ∧ off = off2 := by injection hpa2 with e; injection e with e1 e2; exact ⟨e1, e2⟩
            have Hy := Lib.hid hy
            clear hy hpa2 d0 d3 d4 d5 d6 d7 d8 d9 d10 d11 d12
            by_cases g1 : y.kind = 3
            case neg =>
              have g1' : (y.kind == 3) = false := by simp [g1]
              have HA2 := Lib.hid (show (xs.take (j + 1)).any (vB known x.id) = ab from by rw [any_snocP Hy.out, HAb.out]; simp [vB, g1])
              cases ab
              all_goals
                go_wp2_with fail
                go_quiet (fail)
                go_wp2_with fail
                exact ⟨⟨j + 1, by omega, by go_num, by rw [HA2.out] <;> rfl, below_drewN HB2.out _⟩, by simp [intOf]; omega⟩
            have g1' : (y.kind == 3) = true := by simp [g1]
            by_cases g2 : y.of = x.id
            case neg =>
              have g2' : (y.of == x.id) = false := by simp [g2]
              have HA2 := Lib.hid (show (xs.take (j + 1)).any (vB known x.id) = ab from by rw [any_snocP Hy.out, HAb.out]; simp [vB, g2])
              cases ab
              all_goals
                go_wp2_with fail
                go_quiet (fail)
                go_wp2_with fail
                exact ⟨⟨j + 1, by omega, by go_num, by rw [HA2.out] <;> rfl, below_drewN HB2.out _⟩, by simp [intOf]; omega⟩
            have g2' : (y.of == x.id) = true := by simp [g2]
            by_cases g3 : y.known ≤ known
            case neg =>
              have g3' : decide (y.known ≤ known) = false := decide_eq_false g3
              have HA2 := Lib.hid (show (xs.take (j + 1)).any (vB known x.id) = ab from by rw [any_snocP Hy.out, HAb.out]; simp [vB, g3])
              cases ab
              all_goals
                go_wp2_with fail
                go_quiet (fail)
                go_wp2_with fail
                exact ⟨⟨j + 1, by omega, by go_num, by rw [HA2.out] <;> rfl, below_drewN HB2.out _⟩, by simp [intOf]; omega⟩
            have g3' : decide (y.known ≤ known) = true := decide_eq_true g3
            have HA2 := Lib.hid (show (xs.take (j + 1)).any (vB known x.id) = true from by rw [any_snocP Hy.out]; simp [vB, g1, g2, g3])
            cases ab
            all_goals
              go_wp2_with fail
              go_quiet (fail)
              go_wp2_with fail
              exact ⟨⟨j + 1, by omega, by go_num, by rw [HA2.out] <;> rfl, below_drewN HB2.out _⟩, by simp [intOf]; omega⟩
          · have hltg : ¬ (j : Int) < (n : Int) := by omega
            have HF := Lib.hid (show cntF xs known x = (false && !ab) from by unfold cntF; rw [HCb.out, voided_is, ← HAb.out, List.take_of_length_le (by rw [Hl.out]; omega)])
            have HB3 := Lib.hid (HB.out.trans (HB2.out.mono HB.out.size))
            have HRow3 := Lib.hid (own_later' HRow.out HB2.out)
            obtain ⟨b2, off2, y, hpa2, hb2, hy, d0, d1, d2, d3, d4, d5, d6, d7, d8, d9, d10, d11, d12, d13⟩ := HR2.out.pa hlt
            obtain ⟨rfl, rfl⟩ : b = b2 ∧ off = off2 := by injection hpa2 with e; injection e with e1 e2; exact ⟨e1, e2⟩
            obtain rfl : x = y := Option.some.inj (Hx.out.symm.trans hy)
            clear hy hpa2 HAb hlj c0
            have hcl : ((xs.take k).filter (cntF xs known)).length ≤ n := Nat.le_trans (List.length_filter_le _ _) (by rw [List.length_take, Hl.out]; omega)
            have HN := Lib.hid (filter_no Hx.out (HF.out.trans rfl))
            cases ab
            all_goals
              go_wp2_with fail
              exact ⟨⟨k + 1, by omega, by go_num, by rw [HN.out]; exact HRow3.out, HB3.out⟩, by simp [intOf]; omega⟩
      have hk1 : (x.kind != 3) = true := by simp [hk3]
      by_cases hkn : x.known ≤ known
      · have hkn' : decide (x.known ≤ known) = true := decide_eq_true hkn
        have HCb := Lib.hid (show decide (x.kind ≠ 3 ∧ x.known ≤ known) = true from by simp [hk3, hkn])
        clear hk3 c3 c4 c5 c6 c7 c8 c9 c10 c11 c12 c13
        go_upto_region 9 with (fail)
        obtain ⟨wo, rfl⟩ : ∃ wo : World, wo = wr := ⟨_, rfl⟩
        have HC0 := Lib.hid c0
        clear c0 c1 c2
        go_wp2_with fail
        go_loopw [9, 10] (fun cv i wr2 => ∃ j : Nat, j ≤ n ∧ i = .int .i64 j ∧ cv = .bool (true && !((xs.take j).any (vB known x.id))) ∧ Below wo.heap.size wo wr2) (fun _ i _ => n - (intOf i).toNat)
        case atStart => exact ⟨0, Nat.zero_le _, rfl, rfl, Below.refl _ _⟩
        case round =>
          obtain ⟨j, hj, rfl, rfl, hB2⟩ := hrel
          obtain ⟨ab, hab⟩ : ∃ b, (xs.take j).any (vB known x.id) = b := ⟨_, rfl⟩
          rw [hab]
          have HAb := Lib.hid hab
          have HB2 := Lib.hid hB2
          have HR2 := Lib.hid (HRr.out.below' hB2)
          have c0 := cell_stays HC0.out hB2
          clear hab hB2
          by_cases hlj : j < n
          · have hlj' : (j : Int) < (n : Int) := by omega
            obtain ⟨b2, off2, y, hpa2, hb2, hy, d0, d1, d2, d3, d4, d5, d6, d7, d8, d9, d10, d11, d12, d13⟩ := HR2.out.pa hlj
            obtain ⟨rfl, rfl⟩ : b = b2 ∧ off = off2 := by injection hpa2 with e; injection e with e1 e2; exact ⟨e1, e2⟩
            have Hy := Lib.hid hy
            clear hy hpa2 d0 d3 d4 d5 d6 d7 d8 d9 d10 d11 d12
            by_cases g1 : y.kind = 3
            case neg =>
              have g1' : (y.kind == 3) = false := by simp [g1]
              have HA2 := Lib.hid (show (xs.take (j + 1)).any (vB known x.id) = ab from by rw [any_snocP Hy.out, HAb.out]; simp [vB, g1])
              cases ab
              all_goals
                go_wp2_with fail
                go_quiet (fail)
                go_wp2_with fail
                exact ⟨⟨j + 1, by omega, by go_num, by rw [HA2.out] <;> rfl, below_drewN HB2.out _⟩, by simp [intOf]; omega⟩
            have g1' : (y.kind == 3) = true := by simp [g1]
            by_cases g2 : y.of = x.id
            case neg =>
              have g2' : (y.of == x.id) = false := by simp [g2]
              have HA2 := Lib.hid (show (xs.take (j + 1)).any (vB known x.id) = ab from by rw [any_snocP Hy.out, HAb.out]; simp [vB, g2])
              cases ab
              all_goals
                go_wp2_with fail
                go_quiet (fail)
                go_wp2_with fail
                exact ⟨⟨j + 1, by omega, by go_num, by rw [HA2.out] <;> rfl, below_drewN HB2.out _⟩, by simp [intOf]; omega⟩
            have g2' : (y.of == x.id) = true := by simp [g2]
            by_cases g3 : y.known ≤ known
            case neg =>
              have g3' : decide (y.known ≤ known) = false := decide_eq_false g3
              have HA2 := Lib.hid (show (xs.take (j + 1)).any (vB known x.id) = ab from by rw [any_snocP Hy.out, HAb.out]; simp [vB, g3])
              cases ab
              all_goals
                go_wp2_with fail
                go_quiet (fail)
                go_wp2_with fail
                exact ⟨⟨j + 1, by omega, by go_num, by rw [HA2.out] <;> rfl, below_drewN HB2.out _⟩, by simp [intOf]; omega⟩
            have g3' : decide (y.known ≤ known) = true := decide_eq_true g3
            have HA2 := Lib.hid (show (xs.take (j + 1)).any (vB known x.id) = true from by rw [any_snocP Hy.out]; simp [vB, g1, g2, g3])
            cases ab
            all_goals
              go_wp2_with fail
              go_quiet (fail)
              go_wp2_with fail
              exact ⟨⟨j + 1, by omega, by go_num, by rw [HA2.out] <;> rfl, below_drewN HB2.out _⟩, by simp [intOf]; omega⟩
          · have hltg : ¬ (j : Int) < (n : Int) := by omega
            have HF := Lib.hid (show cntF xs known x = (true && !ab) from by unfold cntF; rw [HCb.out, voided_is, ← HAb.out, List.take_of_length_le (by rw [Hl.out]; omega)])
            have HB3 := Lib.hid (HB.out.trans (HB2.out.mono HB.out.size))
            have HRow3 := Lib.hid (own_later' HRow.out HB2.out)
            obtain ⟨b2, off2, y, hpa2, hb2, hy, d0, d1, d2, d3, d4, d5, d6, d7, d8, d9, d10, d11, d12, d13⟩ := HR2.out.pa hlt
            obtain ⟨rfl, rfl⟩ : b = b2 ∧ off = off2 := by injection hpa2 with e; injection e with e1 e2; exact ⟨e1, e2⟩
            obtain rfl : x = y := Option.some.inj (Hx.out.symm.trans hy)
            clear hy hpa2 HAb hlj c0
            have hcl : ((xs.take k).filter (cntF xs known)).length ≤ n := Nat.le_trans (List.length_filter_le _ _) (by rw [List.length_take, Hl.out]; omega)
            cases ab with
            | true =>
              have HN := Lib.hid (filter_no Hx.out (HF.out.trans rfl))
              go_wp2_with fail
              exact ⟨⟨k + 1, by omega, by go_num, by rw [HN.out]; exact HRow3.out, HB3.out⟩, by simp [intOf]; omega⟩
            | false =>
              have HN := Lib.hid (filter_yes Hx.out (HF.out.trans rfl))
              go_wp2_with (at_builtin; refine wpList_append_own _ rfl _ _ 22 rfl w1.heap.size 42 i0 _ 14 128 Tryz.underlying22 hi hz0 hz1 hz2 rfl (by decide) _ _ _ rfl (HRow3.out.alloc _) ⟨wr.heap.size, 0, none⟩ 1 1 (Pa.vals x) rfl rfl (World.news_of_block (cs := #[.int .i64 x.id, .int .i64 x.known, .int .u8 x.kind, .int .i64 x.loss, .int .i64 x.pack, .int .i64 x.inn, .string ⟨x.mark.toArray⟩, .string ⟨x.goods.toArray⟩, .int .i64 x.low, .int .i64 x.high, .int .i64 x.pieces, .int .i64 x.owner, .int .i64 x.count, .int .i64 x.of]) (t := 42) (fr := (0, 0)) (heap_alloc_new wr _)) (by simp [Pa.vals, Value.oneCell']) (by unfold maxLen; omega) (by omega) (Nat.le_trans HB3.out.size (by simp)) ?_; intro v2 w2 hown2 hgrow2 _)
              have HB4 := Lib.hid ((HB3.out.alloc HB3.out.size (.cells #[.int .i64 x.id, .int .i64 x.known, .int .u8 x.kind, .int .i64 x.loss, .int .i64 x.pack, .int .i64 x.inn, .string ⟨x.mark.toArray⟩, .string ⟨x.goods.toArray⟩, .int .i64 x.low, .int .i64 x.high, .int .i64 x.pieces, .int .i64 x.owner, .int .i64 x.count, .int .i64 x.of] 42)).grown hgrow2 (Nat.le_trans HB3.out.size (by simp)) (fun k e => (HRow3.out.lt k e).1))
              have HO2 := Lib.hid (own_pa_next hown2)
              clear hgrow2 hown2 d0 d1 d2 d3 d4 d5 d6 d7 d8 d9 d10 d11 d12 d13
              go_wp2_with fail
              exact ⟨⟨k + 1, by omega, by go_num, by rw [HN.out, List.length_append]; exact HO2.out, HB4.out⟩, by simp [intOf]; omega⟩
      · have hkn' : decide (x.known ≤ known) = false := decide_eq_false hkn
        have HCb := Lib.hid (show decide (x.kind ≠ 3 ∧ x.known ≤ known) = false from by simp [hkn])
        clear hk3 c3 c4 c5 c6 c7 c8 c9 c10 c11 c12 c13
        go_upto_region 9 with (fail)
        obtain ⟨wo, rfl⟩ : ∃ wo : World, wo = wr := ⟨_, rfl⟩
        have HC0 := Lib.hid c0
        clear c0 c1 c2
        go_wp2_with fail
        go_loopw [9, 10] (fun cv i wr2 => ∃ j : Nat, j ≤ n ∧ i = .int .i64 j ∧ cv = .bool (false && !((xs.take j).any (vB known x.id))) ∧ Below wo.heap.size wo wr2) (fun _ i _ => n - (intOf i).toNat)
        case atStart => exact ⟨0, Nat.zero_le _, rfl, rfl, Below.refl _ _⟩
        case round =>
          obtain ⟨j, hj, rfl, rfl, hB2⟩ := hrel
          obtain ⟨ab, hab⟩ : ∃ b, (xs.take j).any (vB known x.id) = b := ⟨_, rfl⟩
          rw [hab]
          have HAb := Lib.hid hab
          have HB2 := Lib.hid hB2
          have HR2 := Lib.hid (HRr.out.below' hB2)
          have c0 := cell_stays HC0.out hB2
          clear hab hB2
          by_cases hlj : j < n
          · have hlj' : (j : Int) < (n : Int) := by omega
            obtain ⟨b2, off2, y, hpa2, hb2, hy, d0, d1, d2, d3, d4, d5, d6, d7, d8, d9, d10, d11, d12, d13⟩ := HR2.out.pa hlj
            obtain ⟨rfl, rfl⟩ : b = b2 ∧ off = off2 := by injection hpa2 with e; injection e with e1 e2; exact ⟨e1, e2⟩
            have Hy := Lib.hid hy
            clear hy hpa2 d0 d3 d4 d5 d6 d7 d8 d9 d10 d11 d12
            by_cases g1 : y.kind = 3
            case neg =>
              have g1' : (y.kind == 3) = false := by simp [g1]
              have HA2 := Lib.hid (show (xs.take (j + 1)).any (vB known x.id) = ab from by rw [any_snocP Hy.out, HAb.out]; simp [vB, g1])
              cases ab
              all_goals
                go_wp2_with fail
                go_quiet (fail)
                go_wp2_with fail
                exact ⟨⟨j + 1, by omega, by go_num, by rw [HA2.out] <;> rfl, below_drewN HB2.out _⟩, by simp [intOf]; omega⟩
            have g1' : (y.kind == 3) = true := by simp [g1]
            by_cases g2 : y.of = x.id
            case neg =>
              have g2' : (y.of == x.id) = false := by simp [g2]
              have HA2 := Lib.hid (show (xs.take (j + 1)).any (vB known x.id) = ab from by rw [any_snocP Hy.out, HAb.out]; simp [vB, g2])
              cases ab
              all_goals
                go_wp2_with fail
                go_quiet (fail)
                go_wp2_with fail
                exact ⟨⟨j + 1, by omega, by go_num, by rw [HA2.out] <;> rfl, below_drewN HB2.out _⟩, by simp [intOf]; omega⟩
            have g2' : (y.of == x.id) = true := by simp [g2]
            by_cases g3 : y.known ≤ known
            case neg =>
              have g3' : decide (y.known ≤ known) = false := decide_eq_false g3
              have HA2 := Lib.hid (show (xs.take (j + 1)).any (vB known x.id) = ab from by rw [any_snocP Hy.out, HAb.out]; simp [vB, g3])
              cases ab
              all_goals
                go_wp2_with fail
                go_quiet (fail)
                go_wp2_with fail
                exact ⟨⟨j + 1, by omega, by go_num, by rw [HA2.out] <;> rfl, below_drewN HB2.out _⟩, by simp [intOf]; omega⟩
            have g3' : decide (y.known ≤ known) = true := decide_eq_true g3
            have HA2 := Lib.hid (show (xs.take (j + 1)).any (vB known x.id) = true from by rw [any_snocP Hy.out]; simp [vB, g1, g2, g3])
            cases ab
            all_goals
              go_wp2_with fail
              go_quiet (fail)
              go_wp2_with fail
              exact ⟨⟨j + 1, by omega, by go_num, by rw [HA2.out] <;> rfl, below_drewN HB2.out _⟩, by simp [intOf]; omega⟩
          · have hltg : ¬ (j : Int) < (n : Int) := by omega
            have HF := Lib.hid (show cntF xs known x = (false && !ab) from by unfold cntF; rw [HCb.out, voided_is, ← HAb.out, List.take_of_length_le (by rw [Hl.out]; omega)])
            have HB3 := Lib.hid (HB.out.trans (HB2.out.mono HB.out.size))
            have HRow3 := Lib.hid (own_later' HRow.out HB2.out)
            obtain ⟨b2, off2, y, hpa2, hb2, hy, d0, d1, d2, d3, d4, d5, d6, d7, d8, d9, d10, d11, d12, d13⟩ := HR2.out.pa hlt
            obtain ⟨rfl, rfl⟩ : b = b2 ∧ off = off2 := by injection hpa2 with e; injection e with e1 e2; exact ⟨e1, e2⟩
            obtain rfl : x = y := Option.some.inj (Hx.out.symm.trans hy)
            clear hy hpa2 HAb hlj c0
            have hcl : ((xs.take k).filter (cntF xs known)).length ≤ n := Nat.le_trans (List.length_filter_le _ _) (by rw [List.length_take, Hl.out]; omega)
            have HN := Lib.hid (filter_no Hx.out (HF.out.trans rfl))
            cases ab
            all_goals
              go_wp2_with fail
              exact ⟨⟨k + 1, by omega, by go_num, by rw [HN.out]; exact HRow3.out, HB3.out⟩, by simp [intOf]; omega⟩
    · have hltg : ¬ (k : Int) < (n : Int) := by omega
      have HK := Lib.hid (show (xs.take k).filter (cntF xs known) = countR xs known from by rw [HC.out, List.take_of_length_le (by rw [Hl.out]; omega)])
      clear hlt
      rw [HK.out] at HRow
      go_wp2_with fail
      go_ret
      exact ⟨_, rfl, ownsRow_mono HRow.out HB0.out.size, HB0.out.trans (HB.out.mono HB0.out.size)⟩
end Go.Proofs.YtmghbbgnenpcaaaGreatDoor
