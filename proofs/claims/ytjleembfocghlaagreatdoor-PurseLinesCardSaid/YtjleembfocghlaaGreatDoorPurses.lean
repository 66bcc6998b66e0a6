/- The chapter's examples: the plain side, and the walk of the law's ledger. -/
import Derived.Test.YtjleembfocghlaaGreatDoorSettle
set_option linter.unusedSimpArgs false
set_option linter.unusedVariables false
namespace Go.Proofs.YtjleembfocghlaaGreatDoor
open Go.RowKit Go.Shelf

theorem Rd.of_block {α : Type} {E : α → List Value} {k : Nat} {w : World} {b : Nat} {cs : Array Value} {t : TypeId} {xs : List α} (hb : w.heap[b]? = some (.cells cs t (0, 0))) (hcs : cs.toList = xs.flatMap E) (hk : ∀ x, (E x).length = k) (hn : xs.length ≤ maxLen) :
    Rd E k w (some ⟨b, 0, none⟩) xs.length xs :=
  ⟨rfl, hn, fun i hi => ⟨b, 0, xs[i], rfl, (Array.getElem?_eq_some_iff.1 hb).1, List.getElem?_eq_getElem hi, fun j hj => by
    rw [cell_of_row _ _ _ _ _ (0, 0) hb, ← Array.getElem?_toList, hcs, Nat.zero_add]
    exact flat_at hk xs i xs[i] j (List.getElem?_eq_getElem hi) hj⟩⟩

def ledgerL : List Po := [⟨1, 5, 1, 0, 10, 1000, 3, 4⟩, ⟨2, 6, 2, 7, 10, 400, 4, 5⟩, ⟨3, 9, 2, 8, 10, 100, 4, 5⟩, ⟨4, 12, 3, 7, 10, 150, 9, 11⟩]
def exP1 : Po := ⟨5, 12, 3, 8, 10, 101, 9, 11⟩
def exP2 : Po := ⟨5, 12, 3, 8, 10, 50, 4, 5⟩
def exD : List Du := [⟨7, 10, 300⟩, ⟨9, 10, 500⟩]
def exC1 : List Ca := [⟨10, 9, 11⟩]
def exC2 : List Ca := [⟨10, 4, 5⟩]
def exS : List Po := [⟨5, 20, 3, 8, 10, 100, 9, 11⟩, ⟨6, 20, 2, 7, 10, 50, 9, 11⟩, ⟨7, 20, 2, 9, 10, 500, 9, 11⟩]
def exT : List Po := [⟨5, 20, 2, 7, 10, 50, 4, 5⟩, ⟨6, 20, 2, 9, 10, 500, 4, 5⟩]
theorem ex_check : checkL ledgerL = (0, 0) := by kernel_rfl
theorem ex_tot : totL ledgerL = 650 := by kernel_rfl
theorem ex_ask : askE ledgerL 10 7 = 0 := by kernel_rfl
theorem ex_has : hasL ledgerL 7 10 = 250 := by kernel_rfl
theorem ex_upto : uptoL ledgerL 8 = [⟨1, 5, 1, 0, 10, 1000, 3, 4⟩, ⟨2, 6, 2, 7, 10, 400, 4, 5⟩] := by kernel_rfl
theorem ex_ask2 : askE (uptoL ledgerL 8) 10 0 = 0 := by kernel_rfl
theorem ex_held : heldL (uptoL ledgerL 8) 10 = 600 := by kernel_rfl
theorem ex_poor : refusedL ledgerL exP1 = 70 := by kernel_rfl
theorem ex_reason : refusedL ledgerL exP2 = 71 := by kernel_rfl
theorem ex_e1 : settleE ledgerL exD exC1 20 = 0 := by kernel_rfl
theorem ex_e2 : settleE ledgerL exD exC2 20 = 0 := by kernel_rfl
theorem ex_s : (settleSt ledgerL exD exC1 20).out = exS := by kernel_rfl
theorem ex_t : (settleSt ledgerL exD exC2 20).out = exT := by kernel_rfl
theorem ex_cmp : cmpE (ledgerL ++ exS) exD = 0 := by kernel_rfl
theorem ex_open : openL (ledgerL ++ exS) exD = [] := by kernel_rfl
theorem ex_over : overM (ledgerL ++ exS) exD = [] := by kernel_rfl

set_option maxHeartbeats 1000000 in
theorem ledger_any (w : World) : Calls Tryz.prog 9 #[] w fun e w' => e = .returned (.slice (some ⟨w.heap.size, 0, none⟩) 4 4) ∧ Rd Po.vals 8 w' (some ⟨w.heap.size, 0, none⟩) 4 ledgerL ∧ Below w.heap.size w w' := by
  go_enter Tryz.func9, Tryz.ntmps9
  go_wp2_with fail
  go_ret
  exact ⟨rfl, Rd.of_block (xs := ledgerL) (heap_alloc_new w _) rfl po_vals_length (by decide), (Below.refl _ w).alloc (Nat.le_refl _) _⟩
end Go.Proofs.YtjleembfocghlaaGreatDoor

/- The walk of the law's purses: the chapter's examples hold. -/
namespace Go.Proofs.YtjleembfocghlaaGreatDoor
open Go.RowKit Go.Shelf

theorem ledger_wf : ∀ p ∈ ledgerL, p.Wf := by
  intro p hp
  simp only [ledgerL, List.mem_cons, List.not_mem_nil, or_false] at hp
  rcases hp with rfl | rfl | rfl | rfl <;> (constructor <;> first | decide | (unfold I64; decide))
theorem ex_s_wf : ∀ p ∈ ledgerL ++ exS, p.Wf := by
  intro p hp
  rcases List.mem_append.1 hp with hp | hp
  · exact ledger_wf p hp
  · simp only [exS, List.mem_cons, List.not_mem_nil, or_false] at hp
    rcases hp with rfl | rfl | rfl <;> (constructor <;> first | decide | (unfold I64; decide))
theorem exP1_wf : exP1.Wf := by constructor <;> first | decide | (unfold I64; decide)
theorem exP2_wf : exP2.Wf := by constructor <;> first | decide | (unfold I64; decide)
theorem AppendPost.bad {w w' : World} {xs : List Po} {p : Po} {e : Ending} {c : Int} (h : AppendPost w xs p e w') (h1 : (checkL xs).2 = 0) (h2 : refusedL xs p = c) (h3 : ¬ c = 0) : Below w.heap.size w w' ∧ e = .returned (.tuple #[.slice none 0 0, .int .i64 c]) := by
  obtain ⟨hB, ⟨hc, rfl⟩ | ⟨hc, hr, rfl⟩ | ⟨hc, hr, _⟩⟩ := h
  · exact absurd h1 hc
  · exact ⟨hB, by rw [h2]⟩
  · exact absurd (h2.symm.trans hr) h3

theorem SettlePost.good {w w' : World} {xs : List Po} {d : List Du} {c : List Ca} {h : Int} {e : Ending} {l : List Po} (hp : SettlePost w xs d c h e w') (h1 : settleE xs d c h = 0) (h2 : (settleSt xs d c h).out = l) :
    Below w.heap.size w w' ∧ ∃ v, e = .returned (.tuple #[v, .int .i64 0]) ∧ w'.ownsRow w.heap.size 23 8 v l.length (l.flatMap Po.vals) := by
  obtain ⟨hB, ⟨hc, _⟩ | ⟨_, v, rfl, hrow⟩⟩ := hp
  · exact absurd h1 hc
  · exact ⟨hB, v, rfl, by rw [← h2]; exact hrow⟩

set_option maxRecDepth 100000 in
set_option maxHeartbeats 8000000 in
theorem purses_any (w : World) : Calls Tryz.prog 4 #[] w fun e w' => e = .returned (.bool true) ∧ Below w.heap.size w w' := by
  go_enter Tryz.func4, Tryz.ntmps4
  go_wp2_with fail
  refine (ledger_any w).mono ?_
  rintro e w1 ⟨rfl, hl, hB⟩
  have HL1 := Lib.hid hl
  have HB1 := Lib.hid hB
  clear hl hB
  go_wp2_with fail
  refine (held_all _ 4 4 ledgerL _ HL1.out ledger_wf).mono ?_
  rintro e w2 ⟨hB, ⟨hc, rfl⟩ | ⟨hc, rfl⟩⟩
  · exact absurd (congrArg Prod.snd ex_check) hc
  rw [ex_tot]
  have HL2 := Lib.hid (HL1.out.below' hB)
  have HB2 := Lib.hid (below_then HB1.out hB (Nat.le_refl _))
  clear hB hc HL1 HB1
  go_wp2_with fail
  refine (has_all _ 4 4 ledgerL 7 10 _ HL2.out ledger_wf (by unfold I64; omega) (by unfold I64; omega)).mono ?_
  rintro e w3 ⟨hB, rfl⟩
  rw [ex_ask, if_pos rfl, ex_has]
  have HL3 := Lib.hid (HL2.out.below' hB)
  have HB3 := Lib.hid (below_then HB2.out hB (Nat.le_refl _))
  clear hB HL2 HB2
  go_wp2_with fail
  refine (upto_any _ 4 4 ledgerL 8 _ HL3.out (by omega) ledger_wf).mono ?_
  rintro e w4 ⟨v, rfl, hrow, hB⟩
  rw [ex_upto] at hrow
  have hrow : w4.ownsRow w3.heap.size 23 8 v 2 (([⟨1, 5, 1, 0, 10, 1000, 3, 4⟩, ⟨2, 6, 2, 7, 10, 400, 4, 5⟩] : List Po).flatMap Po.vals) := hrow
  obtain ⟨au, cu, rfl, _, hu, _⟩ := Rd.of_own hrow po_vals_length (by omega) rfl (by unfold maxLen; decide)
  have HU := Lib.hid hu
  have HL4 := Lib.hid (HL3.out.below' hB)
  have HB4 := Lib.hid (below_then HB3.out hB (Nat.le_refl _))
  clear hB HL3 HB3 hu hrow
  go_wp2_with fail
  refine (heldOf_all _ 2 cu (uptoL ledgerL 8) 10 _ (by rw [ex_upto]; exact HU.out) (by
    intro p hp
    rw [ex_upto] at hp
    simp only [List.mem_cons, List.not_mem_nil, or_false] at hp
    rcases hp with rfl | rfl <;> (constructor <;> first | decide | (unfold I64; decide))) (by unfold I64; omega)).mono ?_
  rintro e w5 ⟨hB, rfl⟩
  rw [ex_ask2, if_pos rfl, ex_held]
  have HL5 := Lib.hid (HL4.out.below' hB)
  have HB5 := Lib.hid (below_then HB4.out hB (Nat.le_refl _))
  clear hB HL4 HB4 HU
  go_wp2_with fail
  refine (append_any _ 4 4 ledgerL exP1 _ HL5.out ledger_wf exP1_wf).mono ?_
  rintro e w6 hp
  obtain ⟨hB, rfl⟩ := hp.bad (congrArg Prod.snd ex_check) ex_poor (by decide)
  have HL6 := Lib.hid (HL5.out.below' hB)
  have HB6 := Lib.hid (below_then HB5.out hB (Nat.le_refl _))
  clear hB hp HL5 HB5
  go_wp2_with fail
  refine (append_any _ 4 4 ledgerL exP2 _ HL6.out ledger_wf exP2_wf).mono ?_
  rintro e w7 hp
  obtain ⟨hB, rfl⟩ := hp.bad (congrArg Prod.snd ex_check) ex_reason (by decide)
  have HL7 := Lib.hid (HL6.out.below' hB)
  have HB7 := Lib.hid (below_then HB6.out hB (Nat.le_refl _))
  clear hB hp HL6 HB6
  go_upto_region 8 with (fail)
  have HD8 := Lib.hid (Rd.of_block (E := Du.vals) (xs := exD) (heap_alloc_new w7 (.cells #[.int .i64 7, .int .i64 10, .int .i64 300, .int .i64 9, .int .i64 10, .int .i64 500] 41)) rfl du_vals_length (by decide))
  have HL8 := Lib.hid (HL7.out.below' ((Below.refl _ w7).alloc (Nat.le_refl _) (.cells #[.int .i64 7, .int .i64 10, .int .i64 300, .int .i64 9, .int .i64 10, .int .i64 500] 41)))
  have HB8 := Lib.hid (HB7.out.alloc HB7.out.size (.cells #[.int .i64 7, .int .i64 10, .int .i64 300, .int .i64 9, .int .i64 10, .int .i64 500] 41))
  generalize w7.alloc (.cells #[.int .i64 7, .int .i64 10, .int .i64 300, .int .i64 9, .int .i64 10, .int .i64 500] 41) = w8 at *
  clear HL7 HB7 hrow
  go_wp2_with fail
  have HA := Lib.hid ((Below.refl w8.heap.size w8).alloc (Nat.le_refl _) (.cells #[.int .i64 10, .int .i64 9, .int .i64 11] 45))
  refine (settle_any _ 4 4 ledgerL _ 2 2 exD _ 1 1 exC1 20 _ (HL8.out.below' HA.out) ledger_wf (HD8.out.below' HA.out) (Rd.of_block (E := Ca.vals) (xs := exC1) (heap_alloc_new w8 _) rfl ca_vals_length (by decide))).mono ?_
  rintro e w9 hp
  obtain ⟨hB, v, rfl, hrow⟩ := hp.good ex_e1 ex_s
  have hrow : w9.ownsRow _ 23 8 v 3 (exS.flatMap Po.vals) := hrow
  obtain ⟨sa, cs, rfl, _, hs, _⟩ := Rd.of_own hrow po_vals_length (by omega) rfl (by decide)
  have hB2 := below_then HA.out hB (Nat.le_refl _)
  have HS9 := Lib.hid hs
  have HL9 := Lib.hid (HL8.out.below' hB2)
  have HD9 := Lib.hid (HD8.out.below' hB2)
  have HB9 := Lib.hid (below_then HB8.out hB2 (Nat.le_refl _))
  clear hp hB hrow hs hB2 HA HL8 HD8 HB8
  go_upto_region 9 with (fail)
  go_wp2_with fail
  have HA := Lib.hid ((Below.refl w9.heap.size w9).alloc (Nat.le_refl _) (.cells #[.int .i64 10, .int .i64 4, .int .i64 5] 45))
  refine (settle_any _ 4 4 ledgerL _ 2 2 exD _ 1 1 exC2 20 _ (HL9.out.below' HA.out) ledger_wf (HD9.out.below' HA.out) (Rd.of_block (E := Ca.vals) (xs := exC2) (heap_alloc_new w9 _) rfl ca_vals_length (by decide))).mono ?_
  rintro e w10 hp
  obtain ⟨hB, v, rfl, hrow⟩ := hp.good ex_e2 ex_t
  have hrow : w10.ownsRow _ 23 8 v 2 (exT.flatMap Po.vals) := hrow
  obtain ⟨ta, ct, rfl, _, ht, _⟩ := Rd.of_own hrow po_vals_length (by omega) rfl (by decide)
  have hB2 := below_then HA.out hB (Nat.le_refl _)
  have HT := Lib.hid ht
  have HS := Lib.hid (HS9.out.below' hB2)
  have HL := Lib.hid (HL9.out.below' hB2)
  have HD := Lib.hid (HD9.out.below' hB2)
  have HB := Lib.hid (below_then HB9.out hB2 (Nat.le_refl _))
  clear hp hB hrow ht hB2 HA HL9 HD9 HB9 HS9
  go_upto_region 12 with (fail)
  obtain ⟨bs, os, p0, rfl, _⟩ := HS.out.po (show 0 < 3 by decide)
  obtain ⟨i0, hi, hz0, hz1, hz2⟩ := info_parts info_po
  go_wp2_with (at_builtin; refine wpList_append_own _ rfl _ _ 31 rfl w10.heap.size 23 i0 _ 8 64 Tryz.underlying31 hi hz0 hz1 hz2 rfl (by decide) _ 0 [] rfl (World.ownsRow_made w10 #[] 0 (Nat.le_refl _) (Nat.zero_le _) (by simp)) ⟨w.heap.size, 0, none⟩ 4 4 (ledgerL.flatMap Po.vals) rfl ?qc1 ?qc2 ?qc3 ?qc4 ?qc5 ?qc6 ?_)
  case qc1 => rw [flat_length po_vals_length]; rfl
  case qc2 =>
    intro j u hj
    exact Rd.news (HL.out.below' ((Below.refl _ w10).alloc (Nat.le_refl _) _)) po_vals_length j u hj
  case qc3 => exact po_one _
  case qc4 => unfold maxLen; decide
  case qc5 => omega
  case qc6 => simp
  intro v1 w11 hown hgrow hnil
  have hB11 := ((Below.refl _ w10).alloc (Nat.le_refl _) (.cells #[] 23)).grown hgrow (by simp) (by intro k hk; simp [Value.ownBlock] at hk; omega)
  have hown : w11.ownsRow w10.heap.size 23 8 v1 4 (ledgerL.flatMap Po.vals) := by simpa using hown
  have HO := Lib.hid hown
  have HB11 := Lib.hid hB11
  clear hown hgrow hnil hB11
  go_wp2_with (at_builtin; refine wpList_append_own _ rfl _ _ 31 rfl w10.heap.size 23 i0 _ 8 64 Tryz.underlying31 hi hz0 hz1 hz2 rfl (by decide) _ 4 (ledgerL.flatMap Po.vals) rfl HO.out ⟨bs, os, none⟩ 3 cs (exS.flatMap Po.vals) rfl ?qd1 ?qd2 ?qd3 ?qd4 ?qd5 ?qd6 ?_)
  case qd1 => rw [flat_length po_vals_length]; rfl
  case qd2 =>
    intro j u hj
    exact Rd.news (HS.out.below' HB11.out) po_vals_length j u hj
  case qd3 => exact po_one _
  case qd4 => unfold maxLen; decide
  case qd5 => omega
  case qd6 => exact HB11.out.size
  intro v2 w12 hown hgrow hnil
  have hB12 := HB11.out.grown hgrow HB11.out.size (fun k hk => (HO.out.lt k hk).1)
  have hown : w12.ownsRow w10.heap.size 23 8 v2 7 ((ledgerL ++ exS).flatMap Po.vals) := by rw [List.flatMap_append]; simpa using hown
  obtain ⟨ja, cj, rfl, _, hj, _⟩ := Rd.of_own hown po_vals_length (by omega) rfl (by decide)
  have HJ := Lib.hid hj
  have HB12 := Lib.hid hB12
  have HD12 := Lib.hid (HD.out.below' hB12)
  clear hown hgrow hnil hB12 hj HO HB11
  go_wp2_with fail
  refine (settled_all _ 7 cj (ledgerL ++ exS) _ 2 2 exD _ HJ.out ex_s_wf HD12.out).mono ?_
  rintro e w13 ⟨hB, rfl⟩
  rw [show decide (cmpE (ledgerL ++ exS) exD = 0 ∧ openL (ledgerL ++ exS) exD = [] ∧ overM (ledgerL ++ exS) exD = []) = true from by rw [ex_cmp, ex_open, ex_over]; rfl, ex_cmp]
  have hB2 := below_then HB12.out hB (Nat.le_refl _)
  have hs := HS.out.below' hB2
  have ht := HT.out.below' hB2
  have HBz := Lib.hid (below_then HB.out hB2 (Nat.le_refl _))
  clear hB hB2 HJ HB12 HD12 HS HT HL HD HB
  obtain ⟨b1, o1, p1, he1, hb1, hx1, s0, s1, s2, s3, s4, s5, s6, s7⟩ := hs.po (show 0 < 3 by decide)
  obtain ⟨rfl, rfl⟩ : bs = b1 ∧ os = o1 := by cases he1; exact ⟨rfl, rfl⟩
  obtain rfl : (⟨5, 20, 3, 8, 10, 100, 9, 11⟩ : Po) = p1 := Option.some.inj hx1
  obtain ⟨b2, o2, p2, rfl, hb2, hx2, t0, t1, t2, t3, t4, t5, t6, t7⟩ := ht.po (show 1 < 2 by decide)
  obtain rfl : (⟨6, 20, 2, 9, 10, 500, 4, 5⟩ : Po) = p2 := Option.some.inj hx2
  clear hs ht he1 hx1 hx2 s0 s1 s3 s4 s6 s7 t0 t1 t2 t3 t4 t6 t7
  go_wp2_with fail
  go_ret
  exact ⟨rfl, HBz.out⟩
end Go.Proofs.YtjleembfocghlaaGreatDoor
