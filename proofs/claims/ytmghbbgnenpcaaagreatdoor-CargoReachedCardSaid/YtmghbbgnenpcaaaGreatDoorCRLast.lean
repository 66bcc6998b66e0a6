/- The walks of the reference's lasts, Packages and Totals. -/
import Derived.Test.YtmghbbgnenpcaaaGreatDoorCRMan
set_option linter.unusedSimpArgs false
set_option linter.unusedVariables false
namespace Go.Proofs.YtmghbbgnenpcaaaGreatDoor
open Go.RowKit Go.Shelf

theorem lastK_snoc (l : List Pa) (x : Pa) (loss kd p : Int) : lastK (l ++ [x]) loss kd p = if x.loss = loss ∧ x.kind = kd ∧ x.pack = p then some x else lastK l loss kd p := by
  unfold lastK
  rw [List.filter_append]
  by_cases h : x.loss = loss ∧ x.kind = kd ∧ x.pack = p
  · rw [if_pos h]; simp [h]
  · rw [if_neg h]; simp [h]
theorem lastK_mem {c : List Pa} {loss kd p : Int} {x : Pa} (h : lastK c loss kd p = some x) : x ∈ c ∧ x.pack = p ∧ x.kind = kd := by
  unfold lastK at h
  have := List.mem_of_getLast? h
  rw [List.mem_filter] at this
  simp only [decide_eq_true_eq] at this
  exact ⟨this.1, this.2.2.2, this.2.2.1⟩
theorem packsU_get {p : Nat} (h : p < 201) : packsU[p]? = some (p : Int) := by
  unfold packsU; rw [List.getElem?_map, List.getElem?_range h]; rfl
theorem packsU_snoc {p : Nat} (h : p < 201) : packsU.take (p + 1) = packsU.take p ++ [(p : Int)] := take_succ_snoc (packsU_get h)
theorem fm_yes {f : Int → Option Pa} {p : Nat} (h : p < 201) {x : Pa} (hx : f p = some x) : (packsU.take (p + 1)).filterMap f = (packsU.take p).filterMap f ++ [x] := by
  rw [packsU_snoc h, List.filterMap_append]; simp [hx]
theorem fm_no {f : Int → Option Pa} {p : Nat} (h : p < 201) (hx : f p = none) : (packsU.take (p + 1)).filterMap f = (packsU.take p).filterMap f := by
  rw [packsU_snoc h, List.filterMap_append]; simp [hx]
theorem countR_len (xs : List Pa) (known : Int) : (countR xs known).length ≤ xs.length := by
  unfold countR countL; split
  · exact List.length_filter_le _ _
  · simp
/-- what the inner loop of lasts knows of the last paper -/
def LastIs (C : List Pa) (j : Nat) (loss kd p : Int) (v : Value) : Prop :=
  (v = .int .i64 (-1) ∧ lastK (C.take j) loss kd p = none) ∨ ∃ (m : Nat) (y : Pa), v = .int .i64 m ∧ C[m]? = some y ∧ lastK (C.take j) loss kd p = some y
set_option maxRecDepth 100000 in
set_option maxHeartbeats 8000000 in
theorem lasts_r (a : Option Addr) (n cap : Nat) (xs : List Pa) (hs : ∀ x ∈ xs, x.Short) (known loss kd : Int) (w : World) (h : Rd Pa.vals 14 w a n xs) (hcap : n ≤ cap) (hn : n ≤ 100000) :
    Calls Tryz.prog 145 #[.slice a n cap, .int .i64 known, .int .i64 loss, .int .u8 kd] w (ListPost w (lastsR (countR xs known) loss kd)) := by
  obtain ⟨i0, hi, hz0, hz1, hz2⟩ := info_parts info_pa
  have C := Lib.hid (counting_r a n cap xs hs known w h hcap hn)
  have hcl : (countR xs known).length ≤ 100000 := Nat.le_trans (countR_len xs known) (by rw [h.len]; exact hn)
  obtain ⟨Cs, hCs⟩ : ∃ Cs, countR xs known = Cs := ⟨_, rfl⟩
  rw [hCs] at C hcl ⊢
  clear hCs h
  go_enter Tryz.func145, Tryz.ntmps145
  go_wp2_with fail
  refine C.out.mono ?_
  rintro e w1 ⟨vC, rfl, hrow, hS⟩
  obtain ⟨ca, hn2⟩ : ∃ m, Cs.length = m := ⟨_, rfl⟩
  rw [hn2] at hrow hcl
  obtain ⟨cq, cc0, rfl, hcc, hrd, _⟩ := Rd.of_own hrow Pa.vals_length (by decide) hn2 (by unfold maxLen; omega)
  have HRd := Lib.hid hrd
  have HB0 := Lib.hid hS
  have Hn2 := Lib.hid hn2
  clear hS C hrow hrd hn2
  go_wp2_with fail
  go_loopw [10, 11] (fun v p wr => ∃ k : Nat, k ≤ 201 ∧ p = .int .i64 k ∧ wr.ownsRow w1.heap.size 42 14 v ((packsU.take k).filterMap (lastK Cs loss kd)).length (((packsU.take k).filterMap (lastK Cs loss kd)).flatMap Pa.vals) ∧ Below w1.heap.size w1 wr) (fun _ p _ => 201 - (intOf p).toNat)
  case atStart => exact ⟨0, Nat.zero_le _, rfl, World.ownsRow_nil _ _ _ _, Below.refl _ _⟩
  case round =>
    obtain ⟨k, hk, rfl, hrow, hB⟩ := hrel
    have HRow := Lib.hid hrow
    have HB := Lib.hid hB
    have HR := Lib.hid (HRd.out.below' hB)
    clear hrow hB
    by_cases hlt : k < 201
    · have hlt' : (k : Int) ≤ 200 := by omega
      obtain ⟨wo, rfl⟩ : ∃ wo : World, wo = wr := ⟨_, rfl⟩
      go_wp2_with fail
      go_loopw [12, 13] (fun v i wr2 => ∃ j : Nat, j ≤ ca ∧ i = .int .i64 j ∧ LastIs Cs j loss kd k v ∧ wr2 = wo) (fun _ i _ => ca - (intOf i).toNat)
      case atStart => exact ⟨0, Nat.zero_le _, rfl, .inl ⟨rfl, rfl⟩, rfl⟩
      case round =>
        obtain ⟨j, hj, rfl, hla, rfl⟩ := hrel
        have HLa := Lib.hid hla
        clear hla
        by_cases hlj : j < ca
        · have hlj' : (j : Int) < (ca : Int) := by omega
          obtain ⟨b, off, y, hpa, hb, hy, c0, c1, c2, c3, c4, c5, c6, c7, c8, c9, c10, c11, c12, c13⟩ := HR.out.pa hlj
          subst hpa
          have Hy := Lib.hid hy
          clear hy
          have HSn := Lib.hid (show lastK (Cs.take (j + 1)) loss kd k = if y.loss = loss ∧ y.kind = kd ∧ y.pack = (k : Int) then some y else lastK (Cs.take j) loss kd k from by rw [take_succ_snoc Hy.out, lastK_snoc])
          have HNo := Lib.hid (show ¬ (y.loss = loss ∧ y.kind = kd ∧ y.pack = (k : Int)) → ∀ v, LastIs Cs j loss kd k v → LastIs Cs (j + 1) loss kd k v from fun hq v hv => by
            have e := HSn.out
            rw [if_neg hq] at e
            rcases hv with ⟨h1, h2⟩ | ⟨m, z, h1, h2, h3⟩
            · exact .inl ⟨h1, e.trans h2⟩
            · exact .inr ⟨m, z, h1, h2, e.trans h3⟩)
          by_cases g1 : y.loss = loss
          case neg =>
            have g1' : (y.loss == loss) = false := by simp [g1]
            have HN := Lib.hid (HNo.out (fun h => g1 h.1) _ HLa.out)
            clear g1
            go_wp2_with fail
            exact ⟨⟨j + 1, by omega, by go_num, HN.out, by first | rfl | trivial⟩, by simp [intOf]; omega⟩
          have g1' : (y.loss == loss) = true := by simp [g1]
          by_cases g2 : y.kind = kd
          case neg =>
            have g2' : (y.kind == kd) = false := by simp [g2]
            have HN := Lib.hid (HNo.out (fun h => g2 h.2.1) _ HLa.out)
            clear g1 g2
            go_wp2_with fail
            exact ⟨⟨j + 1, by omega, by go_num, HN.out, by first | rfl | trivial⟩, by simp [intOf]; omega⟩
          have g2' : (y.kind == kd) = true := by simp [g2]
          by_cases g3 : y.pack = (k : Int)
          case neg =>
            have g3' : (y.pack == (k : Int)) = false := by simp [g3]
            have HN := Lib.hid (HNo.out (fun h => g3 h.2.2) _ HLa.out)
            clear g1 g2 g3
            go_wp2_with fail
            exact ⟨⟨j + 1, by omega, by go_num, HN.out, by first | rfl | trivial⟩, by simp [intOf]; omega⟩
          have g3' : (y.pack == (k : Int)) = true := by simp [g3]
          have HN := Lib.hid (show LastIs Cs (j + 1) loss kd k (.int .i64 j) from .inr ⟨j, y, rfl, Hy.out, by rw [HSn.out, if_pos ⟨g1, g2, g3⟩]⟩)
          clear g1 g2 g3
          go_wp2_with fail
          exact ⟨⟨j + 1, by omega, by go_num, HN.out, by first | rfl | trivial⟩, by simp [intOf]; omega⟩
        · have hltg : ¬ (j : Int) < (ca : Int) := by omega
          have hfl : ((packsU.take k).filterMap (lastK Cs loss kd)).length ≤ 201 := Nat.le_trans (List.length_filterMap_le _ _) (by rw [List.length_take]; omega)
          have ht : Cs.take j = Cs := List.take_of_length_le (by rw [Hn2.out]; omega)
          rcases HLa.out with ⟨rfl, hnone⟩ | ⟨m, y, rfl, hm, hsome⟩
          · rw [ht] at hnone
            have HN := Lib.hid (fm_no hlt hnone)
            clear hnone hlj ht HLa
            go_wp2_with fail
            exact ⟨⟨k + 1, by omega, by go_num, by rw [HN.out]; exact HRow.out, HB.out⟩, by simp [intOf]; omega⟩
          · rw [ht] at hsome
            have HN := Lib.hid (fm_yes hlt hsome)
            have hmlt : m < ca := by have := (List.getElem?_eq_some_iff.1 hm).1; rw [Hn2.out] at this; exact this
            have hmlt' : (m : Int) < (ca : Int) := by omega
            obtain ⟨b, off, y2, hpa, hb, hy, c0, c1, c2, c3, c4, c5, c6, c7, c8, c9, c10, c11, c12, c13⟩ := HR.out.pa hmlt
            subst hpa
            obtain rfl : y = y2 := Option.some.inj (hm.symm.trans hy)
            clear hsome hlj ht HLa hm hy
            go_wp2_with (at_builtin; refine wpList_append_own _ rfl _ _ 22 rfl w1.heap.size 42 i0 _ 14 128 Tryz.underlying22 hi hz0 hz1 hz2 rfl (by decide) _ _ _ rfl (HRow.out.alloc _) ⟨wr.heap.size, 0, none⟩ 1 1 (Pa.vals y) rfl rfl (World.news_of_block (cs := #[.int .i64 y.id, .int .i64 y.known, .int .u8 y.kind, .int .i64 y.loss, .int .i64 y.pack, .int .i64 y.inn, .string ⟨y.mark.toArray⟩, .string ⟨y.goods.toArray⟩, .int .i64 y.low, .int .i64 y.high, .int .i64 y.pieces, .int .i64 y.owner, .int .i64 y.count, .int .i64 y.of]) (t := 42) (fr := (0, 0)) (heap_alloc_new wr _)) (by simp [Pa.vals, Value.oneCell']) (by unfold maxLen; omega) (by omega) (Nat.le_trans HB.out.size (by simp)) ?_; intro v2 w2 hown2 hgrow2 _)
            have HB4 := Lib.hid ((HB.out.alloc HB.out.size (.cells #[.int .i64 y.id, .int .i64 y.known, .int .u8 y.kind, .int .i64 y.loss, .int .i64 y.pack, .int .i64 y.inn, .string ⟨y.mark.toArray⟩, .string ⟨y.goods.toArray⟩, .int .i64 y.low, .int .i64 y.high, .int .i64 y.pieces, .int .i64 y.owner, .int .i64 y.count, .int .i64 y.of] 42)).grown hgrow2 (Nat.le_trans HB.out.size (by simp)) (fun k e => (HRow.out.lt k e).1))
            have HO2 := Lib.hid (own_pa_next hown2)
            clear hgrow2 hown2 c0 c1 c2 c3 c4 c5 c6 c7 c8 c9 c10 c11 c12 c13
            go_wp2_with fail
            exact ⟨⟨k + 1, by omega, by go_num, by rw [HN.out, List.length_append]; exact HO2.out, HB4.out⟩, by simp [intOf]; omega⟩
    · have hltg : ¬ (k : Int) ≤ 200 := by omega
      have HK := Lib.hid (show (packsU.take k).filterMap (lastK Cs loss kd) = lastsR Cs loss kd from by unfold lastsR; rw [List.take_of_length_le (by rw [packsU_length]; omega)])
      clear hlt
      rw [HK.out] at HRow
      go_wp2_with fail
      go_ret
      exact ⟨_, rfl, ownsRow_mono HRow.out HB0.out.size, HB0.out.trans (HB.out.mono HB0.out.size)⟩
theorem packages_r (a : Option Addr) (n cap : Nat) (xs : List Pa) (hs : ∀ x ∈ xs, x.Short) (known loss : Int) (w : World) (h : Rd Pa.vals 14 w a n xs) (hcap : n ≤ cap) (hn : n ≤ 100000) :
    Calls Tryz.prog 115 #[.slice a n cap, .int .i64 known, .int .i64 loss] w (ListPost w (papersO xs known loss)) := by
  have C := Lib.hid (lasts_r a n cap xs hs known loss 1 w h hcap hn)
  rw [show lastsR (countR xs known) loss 1 = papersO xs known loss from packagesR_is xs known loss] at C
  clear h
  go_enter Tryz.func115, Tryz.ntmps115
  go_wp2_with fail
  refine C.out.mono ?_
  rintro e w1 ⟨v, rfl, hrow, hS⟩
  have HP := Lib.hid (And.intro hrow hS)
  clear hrow hS C
  go_wp2_with fail
  go_ret
  exact ⟨_, rfl, HP.out.1, HP.out.2⟩
theorem papersO_len (xs : List Pa) (known loss : Int) : (papersO xs known loss).length ≤ 201 ∧ (totalsO xs known loss).length ≤ 201 := by
  rw [← packagesR_is, ← totalsR_is]
  have h1 : ∀ kd, (lastsR (countR xs known) loss kd).length ≤ 201 := fun kd => Nat.le_trans (List.length_filterMap_le _ _) (by rw [packsU_length]; exact Nat.le_refl _)
  exact ⟨h1 1, Nat.le_trans (List.length_filter_le _ _) (h1 2)⟩
set_option maxRecDepth 100000 in
set_option maxHeartbeats 8000000 in
theorem totals_r (a : Option Addr) (n cap : Nat) (xs : List Pa) (hs : ∀ x ∈ xs, x.Short) (known loss : Int) (w : World) (h : Rd Pa.vals 14 w a n xs) (hcap : n ≤ cap) (hn : n ≤ 100000) :
    Calls Tryz.prog 116 #[.slice a n cap, .int .i64 known, .int .i64 loss] w (ListPost w (totalsO xs known loss)) := by
  obtain ⟨i0, hi, hz0, hz1, hz2⟩ := info_parts info_pa
  have CP := Lib.hid (packages_r a n cap xs hs known loss w h hcap hn)
  have CL := Lib.hid (fun W (hB : Below w.heap.size w W) => lasts_r a n cap xs hs known loss 2 W (h.below' hB) hcap hn)
  have HT := Lib.hid (show totalsO xs known loss = (lastsR (countR xs known) loss 2).filter (isThere (papersO xs known loss)) from by rw [← totalsR_is, totalsR, packagesR_is])
  have hpl := (papersO_len xs known loss).1
  have htl : (lastsR (countR xs known) loss 2).length ≤ 201 := Nat.le_trans (List.length_filterMap_le _ _) (by rw [packsU_length]; exact Nat.le_refl _)
  obtain ⟨PS, hPS⟩ : ∃ P, papersO xs known loss = P := ⟨_, rfl⟩
  obtain ⟨TS, hTS⟩ : ∃ P, lastsR (countR xs known) loss 2 = P := ⟨_, rfl⟩
  rw [hPS] at CP HT hpl
  rw [hTS] at CL HT htl
  clear hPS hTS h
  go_enter Tryz.func116, Tryz.ntmps116
  go_wp2_with fail
  refine CP.out.mono ?_
  rintro e w1 ⟨vP, rfl, hrow, hS⟩
  obtain ⟨pn, hpn⟩ : ∃ m, PS.length = m := ⟨_, rfl⟩
  rw [hpn] at hrow hpl
  obtain ⟨pa, pc, rfl, _, hrp, _⟩ := Rd.of_own hrow Pa.vals_length (by decide) hpn (by unfold maxLen; omega)
  have HRp := Lib.hid hrp
  have HB := Lib.hid hS
  clear hrow hrp hpn hS CP
  go_wp2_with fail
  refine (CL.out _ HB.out).mono ?_
  rintro e w2 ⟨vT, rfl, hrow, hS⟩
  obtain ⟨tn, htn⟩ : ∃ m, TS.length = m := ⟨_, rfl⟩
  rw [htn] at hrow htl
  obtain ⟨ta, tc, rfl, _, hrt, _⟩ := Rd.of_own hrow Pa.vals_length (by decide) htn (by unfold maxLen; omega)
  have HRt := Lib.hid hrt
  have HRp2 := Lib.hid (HRp.out.below' hS)
  have HB0 := Lib.hid (HB.out.trans (hS.mono HB.out.size))
  have Htn := Lib.hid htn
  clear hrow hrt htn hS CL HRp HB
  go_wp2_with fail
  go_loopw [9, 10] (fun v i wr => ∃ k : Nat, k ≤ tn ∧ i = .int .i64 k ∧ wr.ownsRow w2.heap.size 42 14 v ((TS.take k).filter (isThere PS)).length (((TS.take k).filter (isThere PS)).flatMap Pa.vals) ∧ Below w2.heap.size w2 wr) (fun _ i _ => tn - (intOf i).toNat)
  case atStart => exact ⟨0, Nat.zero_le _, rfl, World.ownsRow_nil _ _ _ _, Below.refl _ _⟩
  case round =>
    obtain ⟨k, hk, rfl, hrow, hB⟩ := hrel
    have HRow := Lib.hid hrow
    have HB := Lib.hid hB
    have HR := Lib.hid (HRt.out.below' hB)
    have HP := Lib.hid (HRp2.out.below' hB)
    clear hrow hB
    by_cases hlt : k < tn
    · have hlt' : (k : Int) < (tn : Int) := by omega
      obtain ⟨b, off, x, hpa, hb, hx, c0, c1, c2, c3, c4, c5, c6, c7, c8, c9, c10, c11, c12, c13⟩ := HR.out.pa hlt
      subst hpa
      have Hx := Lib.hid hx
      have CF := Lib.hid (find_r pa pn pc PS x.pack wr HP.out)
      obtain ⟨is, his⟩ : ∃ b, (ofI PS x.pack).isSome = b := ⟨_, rfl⟩
      have HIs := Lib.hid his
      unfold FindPost at CF
      rw [his] at CF
      clear hx his
      go_upto_region 8 with (go_at_call 78; refine CF.out.mono ?_; rintro e w4 ⟨hS0, q, _, rfl⟩)
      have hBq := al' (Below.refl w4.heap.size w4) (.cells #[.int .i64 q.id, .int .i64 q.known, .int .u8 q.kind, .int .i64 q.loss, .int .i64 q.pack, .int .i64 q.inn, .string ⟨q.mark.toArray⟩, .string ⟨q.goods.toArray⟩, .int .i64 q.low, .int .i64 q.high, .int .i64 q.pieces, .int .i64 q.owner, .int .i64 q.count, .int .i64 q.of] 42)
      have hS := hS0.trans (hBq.mono hS0.size)
      have HB3 := Lib.hid (HB.out.trans (hS.mono HB.out.size))
      have HRow3 := Lib.hid (own_later' HRow.out hS)
      have HR3 := Lib.hid (HR.out.below' hS)
      clear c0 c1 c2 c3 c4 c5 c6 c7 c8 c9 c10 c11 c12 c13 hS0 hBq hS CF
      generalize w4.alloc (.cells #[.int .i64 q.id, .int .i64 q.known, .int .u8 q.kind, .int .i64 q.loss, .int .i64 q.pack, .int .i64 q.inn, .string ⟨q.mark.toArray⟩, .string ⟨q.goods.toArray⟩, .int .i64 q.low, .int .i64 q.high, .int .i64 q.pieces, .int .i64 q.owner, .int .i64 q.count, .int .i64 q.of] 42) = w5 at *
      obtain ⟨b2, off2, x2, hpa, hb2, hx, c0, c1, c2, c3, c4, c5, c6, c7, c8, c9, c10, c11, c12, c13⟩ := HR3.out.pa hlt
      obtain ⟨rfl, rfl⟩ : b = b2 ∧ off = off2 := by injection hpa with e; injection e with e1 e2; exact ⟨e1, e2⟩
      obtain rfl : x = x2 := Option.some.inj (Hx.out.symm.trans hx)
      clear hpa hx
      have hfl : ((TS.take k).filter (isThere PS)).length ≤ 201 := Nat.le_trans (List.length_filter_le _ _) (by rw [List.length_take, Htn.out]; omega)
      obtain ⟨zb, hzb⟩ : ∃ b, (x.pack == 0) = b := ⟨_, rfl⟩
      have HF := Lib.hid (show isThere PS x = (zb || is) from by unfold isThere; rw [HIs.out, ← hzb]; congr 1)
      by_cases hth : (zb || is) = true
      · have HN := Lib.hid (filter_yes Hx.out (HF.out.trans hth))
        have hww : ∀ (P : Prop), P → P := fun _ h => h
        clear hww
        cases zb <;> cases is
        case false.false => cases hth
        all_goals
          clear hth
          go_wp2_with (at_builtin; refine wpList_append_own _ rfl _ _ 22 rfl w2.heap.size 42 i0 _ 14 128 Tryz.underlying22 hi hz0 hz1 hz2 rfl (by decide) _ _ _ rfl (HRow3.out.alloc _) ⟨w5.heap.size, 0, none⟩ 1 1 (Pa.vals x) rfl rfl (World.news_of_block (cs := #[.int .i64 x.id, .int .i64 x.known, .int .u8 x.kind, .int .i64 x.loss, .int .i64 x.pack, .int .i64 x.inn, .string ⟨x.mark.toArray⟩, .string ⟨x.goods.toArray⟩, .int .i64 x.low, .int .i64 x.high, .int .i64 x.pieces, .int .i64 x.owner, .int .i64 x.count, .int .i64 x.of]) (t := 42) (fr := (0, 0)) (heap_alloc_new w5 _)) (by simp [Pa.vals, Value.oneCell']) (by unfold maxLen; omega) (by omega) (Nat.le_trans HB3.out.size (by simp)) ?_; intro v2 w2 hown2 hgrow2 _)
          have HB4 := Lib.hid ((HB3.out.alloc HB3.out.size (.cells #[.int .i64 x.id, .int .i64 x.known, .int .u8 x.kind, .int .i64 x.loss, .int .i64 x.pack, .int .i64 x.inn, .string ⟨x.mark.toArray⟩, .string ⟨x.goods.toArray⟩, .int .i64 x.low, .int .i64 x.high, .int .i64 x.pieces, .int .i64 x.owner, .int .i64 x.count, .int .i64 x.of] 42)).grown hgrow2 (Nat.le_trans HB3.out.size (by simp)) (fun k e => (HRow3.out.lt k e).1))
          have HO2 := Lib.hid (own_pa_next hown2)
          clear hgrow2 hown2 c0 c1 c2 c3 c4 c5 c6 c7 c8 c9 c10 c11 c12 c13
          go_wp2_with fail
          exact ⟨⟨k + 1, by omega, by go_num, by rw [HN.out, List.length_append]; exact HO2.out, HB4.out⟩, by simp [intOf]; omega⟩
      · have HN := Lib.hid (filter_no Hx.out (HF.out.trans (by simpa using hth)))
        cases zb <;> cases is
        case false.false =>
          clear hth
          go_wp2_with fail
          exact ⟨⟨k + 1, by omega, by go_num, by rw [HN.out]; exact HRow3.out, HB3.out⟩, by simp [intOf]; omega⟩
        all_goals exact absurd rfl hth
    · have hltg : ¬ (k : Int) < (tn : Int) := by omega
      have HK := Lib.hid (show (TS.take k).filter (isThere PS) = totalsO xs known loss from by rw [HT.out, List.take_of_length_le (by rw [Htn.out]; omega)])
      clear hlt
      rw [HK.out] at HRow
      go_wp2_with fail
      go_ret
      exact ⟨_, rfl, ownsRow_mono HRow.out HB0.out.size, HB0.out.trans (HB.out.mono HB0.out.size)⟩
end Go.Proofs.YtmghbbgnenpcaaaGreatDoor
