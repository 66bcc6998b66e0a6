/- The walks of the package's and the reference's Reached. -/
import Derived.Test.YtmghbbgnenpcaaaGreatDoorCRWeights
import Derived.Test.YtmghbbgnenpcaaaGreatDoorCAppE
set_option linter.unusedSimpArgs false
set_option linter.unusedVariables false
namespace Go.Proofs.YtmghbbgnenpcaaaGreatDoor
open Go.RowKit Go.Shelf

/-! plain -/
def dif4 (p q : Option Pa) : Bool := p.isSome != q.isSome || !((ofV p).low == (ofV q).low && (ofV p).high == (ofV q).high)
def difB (a b : List Pa) (k : Nat) : Bool := dif4 (ofI a k) (ofI b k)
/-- the packages below a number that differ -/
def difL (a b : List Pa) (k : Nat) : List Int := ((List.range k).filter (difB a b)).map Int.ofNat
theorem difL_yes {a b : List Pa} {k : Nat} (h : difB a b k = true) : difL a b (k + 1) = difL a b k ++ [(k : Int)] := by
  unfold difL; rw [List.range_succ, List.filter_append, List.map_append, List.filter_cons, if_pos h]; rfl
theorem difL_no {a b : List Pa} {k : Nat} (h : difB a b k = false) : difL a b (k + 1) = difL a b k := by
  unfold difL; rw [List.range_succ, List.filter_append, List.map_append, List.filter_cons, if_neg (by rw [h]; decide)]; simp
theorem difL_one {a b : List Pa} (h : difB a b 0 = false) : difL a b 1 = [] := by rw [difL_no h]; rfl
theorem difL_len (a b : List Pa) (k : Nat) : (difL a b k).length ≤ k := by
  unfold difL
  rw [List.length_map]
  refine Nat.le_trans (List.length_filter_le _ _) ?_
  rw [List.length_range]; exact Nat.le_refl _
def reachE (xs : List Pa) (x : Pa) (loss : Int) : Int := if appE xs x = 0 then (if weighE xs x.known loss true = 0 then weighE (xs ++ [x]) x.known loss true else weighE xs x.known loss true) else appE xs x
def reachV (xs : List Pa) (x : Pa) (loss : Int) : List Int := if reachE xs x loss = 0 then difL (weightsV xs x.known loss) (weightsV (xs ++ [x]) x.known loss) 201 else []
theorem reach_err (xs : List Pa) (x : Pa) (loss : Int) : (¬ appE xs x = 0 → reachE xs x loss = appE xs x) ∧ (appE xs x = 0 → (¬ weighE xs x.known loss true = 0 → reachE xs x loss = weighE xs x.known loss true) ∧ (weighE xs x.known loss true = 0 → reachE xs x loss = weighE (xs ++ [x]) x.known loss true)) := by
  unfold reachE
  refine ⟨fun h => by rw [if_neg h], fun h => ⟨fun h2 => by rw [if_pos h, if_neg h2], fun h2 => by rw [if_pos h, if_pos h2]⟩⟩
theorem reach_val (xs : List Pa) (x : Pa) (loss : Int) : reachE xs x loss = 0 → reachV xs x loss = difL (weightsV xs x.known loss) (weightsV (xs ++ [x]) x.known loss) 201 := fun h => by unfold reachV; rw [if_pos h]
theorem app_ok {xs : List Pa} {x : Pa} (h : appE xs x = 0) : appR xs x = xs ++ [x] := by
  unfold appE at h
  unfold appR
  split at h
  · rename_i h2; rw [if_pos h2, if_pos h]
  · rename_i h2; exact absurd h h2
theorem weights_len (xs : List Pa) (known loss : Int) : (weightsV xs known loss).length ≤ 201 ∧ ∀ y ∈ weightsV xs known loss, 1 ≤ y.pack := by
  unfold weightsV
  split
  · rename_i h
    obtain ⟨ho, _⟩ := root_open (weigh_root h)
    have hmo := mani_ok (check_good (open_check ho)).1 known loss
    refine ⟨by unfold weightsL; rw [List.length_map]; exact hmo.ln, fun y hy => ?_⟩
    unfold weightsL at hy
    obtain ⟨z, hz, rfl⟩ := List.mem_map.1 hy
    exact (hmo.pp z hz).1.1
  · simp
theorem dif_zero {a b : List Pa} (ha : ∀ y ∈ a, 1 ≤ y.pack) (hb : ∀ y ∈ b, 1 ≤ y.pack) : difB a b 0 = false := by
  have h0 : ∀ l : List Pa, (∀ y ∈ l, 1 ≤ y.pack) → ofI l 0 = none := by
    intro l hl
    cases e : ofI l 0 with
    | none => rfl
    | some z =>
      obtain ⟨h1, h2⟩ := ofI_mem e
      have := hl z h1
      omega
  unfold difB
  rw [show ((0 : Nat) : Int) = 0 from rfl, h0 a ha, h0 b hb]
  rfl
def ReachPost (w : World) (L : List Int) (E : Int) (e : Ending) (w' : World) : Prop := ∃ v, e = .returned (.tuple #[v, .int .i64 E]) ∧ w'.ownsRow w.heap.size 3 1 v L.length (L.flatMap ints) ∧ Below w.heap.size w w'

set_option maxRecDepth 100000 in
set_option maxHeartbeats 8000000 in
theorem reached_any (a : Option Addr) (n cap : Nat) (xs : List Pa) (hs : ∀ y ∈ xs, y.Short) (x : Pa) (hx : x.Short) (loss : Int) (w : World) (h : Rd Pa.vals 14 w a n xs) (hcap : n ≤ cap) (hn : n ≤ 1000) (hz : a = none → cap = 0) :
    Calls Tryz.prog 35 #[.slice a n cap, .agg #[.int .i64 x.id, .int .i64 x.known, .int .u8 x.kind, .int .i64 x.loss, .int .i64 x.pack, .int .i64 x.inn, .string ⟨x.mark.toArray⟩, .string ⟨x.goods.toArray⟩, .int .i64 x.low, .int .i64 x.high, .int .i64 x.pieces, .int .i64 x.owner, .int .i64 x.count, .int .i64 x.of], .int .i64 loss] w (ReachPost w (reachV xs x loss) (reachE xs x loss)) := by
  obtain ⟨j0, hj0, hy0, hy1, hy2⟩ := info_parts info_int
  have hb := BoxG.made w x.vals 42
  have hB := al' (Below.refl w.heap.size w) (.cells x.vals.toArray 42)
  simp only [Pa.vals] at hb hB
  have HX := Lib.hid hb
  have HB := Lib.hid hB
  have CA := Lib.hid (fun W (hW : Below w.heap.size w W) => (append_any a n cap xs hs x hx W (h.below' hW) hcap).mono (fun _ _ h => app_of h))
  have CW := Lib.hid (fun W (hW : Below w.heap.size w W) => weights_any a n cap xs hs x.known loss W (h.below' hW) hcap)
  have CV := Lib.hid (fun (vb : Option Addr) (vn vc : Nat) W (hW : Rd Pa.vals 14 W vb vn (xs ++ [x])) (hc : vn ≤ vc) (hn2 : vn ≤ 1001) => weights_any vb vn vc (xs ++ [x]) (fun y hy => by
      rcases List.mem_append.1 hy with hy | hy
      · exact hs y hy
      · rw [List.mem_singleton.1 hy]; exact hx) x.known loss W hW hc)
  have hEx := reach_err xs x loss
  have HEx := Lib.hid hEx
  have HVe := Lib.hid (show ¬ reachE xs x loss = 0 → reachV xs x loss = [] from fun h => by unfold reachV; rw [if_neg h])
  have HVo := Lib.hid (reach_val xs x loss)
  have HAr := Lib.hid (show appE xs x = 0 → appR xs x = xs ++ [x] from app_ok)
  unfold AppPost at CA
  unfold WeightsPost at CW CV
  have hlen := h.len
  have HL := Lib.hid hlen
  have HW1 := Lib.hid (weights_len xs x.known loss)
  have HW2 := Lib.hid (weights_len (xs ++ [x]) x.known loss)
  clear hb hB h hEx hlen
  obtain ⟨RE, hRE⟩ : ∃ v, reachE xs x loss = v := ⟨_, rfl⟩
  obtain ⟨RV, hRV⟩ : ∃ v, reachV xs x loss = v := ⟨_, rfl⟩
  obtain ⟨AE, hAE⟩ : ∃ v, appE xs x = v := ⟨_, rfl⟩
  obtain ⟨AR, hAR⟩ : ∃ v, appR xs x = v := ⟨_, rfl⟩
  obtain ⟨E1, hE1⟩ : ∃ v, weighE xs x.known loss true = v := ⟨_, rfl⟩
  obtain ⟨E2, hE2⟩ : ∃ v, weighE (xs ++ [x]) x.known loss true = v := ⟨_, rfl⟩
  obtain ⟨L1, hL1⟩ : ∃ v, weightsV xs x.known loss = v := ⟨_, rfl⟩
  obtain ⟨L2, hL2⟩ : ∃ v, weightsV (xs ++ [x]) x.known loss = v := ⟨_, rfl⟩
  rw [hAE, hAR] at CA HAr
  rw [hE1, hL1] at CW
  rw [hE2, hL2] at CV
  rw [hRE, hAE, hE1, hE2] at HEx
  rw [hRE, hRV] at HVe
  rw [hRE, hRV, hL1, hL2] at HVo
  rw [hL1] at HW1
  rw [hL2] at HW2
  rw [hRE, hRV]
  clear hRE hRV hAE hAR hE1 hE2 hL1 hL2
  go_enter Tryz.func35, Tryz.ntmps35
  go_upto_region 1 with (fail)
  generalize w.alloc (.cells #[.int .i64 x.id, .int .i64 x.known, .int .u8 x.kind, .int .i64 x.loss, .int .i64 x.pack, .int .i64 x.inn, .string ⟨x.mark.toArray⟩, .string ⟨x.goods.toArray⟩, .int .i64 x.low, .int .i64 x.high, .int .i64 x.pieces, .int .i64 x.owner, .int .i64 x.count, .int .i64 x.of] 42) = w1 at *
  obtain ⟨X, hXe⟩ : ∃ X, w.heap.size = X := ⟨_, rfl⟩
  have HXe := Lib.hid hXe
  rw [hXe] at HX ⊢
  clear hXe
  have HXv := Lib.hid (show BoxG w1 X x.vals from HX.out)
  obtain ⟨c0, c1, c2, c3, c4, c5, c6, c7, c8, c9, c10, c11, c12, c13⟩ := BoxG.pa HXv.out
  clear HX
  go_upto_region 2 with (go_at_call 23; refine (CA.out _ HB.out).mono ?_; rintro e w2 ⟨va, vn, vc, rfl, hva, hvc, hS⟩)
  have HB2 := Lib.hid (HB.out.trans (hS.mono HB.out.size))
  have HX2 := Lib.hid (HXv.out.below' hS)
  have HV := Lib.hid hva
  clear c0 c1 c2 c3 c4 c5 c6 c7 c8 c9 c10 c11 c12 c13 hS hva CA HB HXv
  by_cases h1 : AE = 0
  case neg =>
    have q1 : (AE != 0) = true := by simp [h1]
    have HR := Lib.hid (HEx.out.1 h1)
    have HRv := Lib.hid (HVe.out (by rw [HEx.out.1 h1]; exact h1))
    clear h1
    go_wp2_with fail
    exact bodyPost_ret (by simp [results, Tryz.results35, go_sem]) rfl (show ReachPost w RV RE (.returned (.tuple #[.slice none 0 0, .int .i64 AE])) w2 from ⟨_, by rw [HR.out], by rw [HRv.out]; exact World.ownsRow_nil _ _ _ _, HB2.out⟩)
  case pos =>
  have q1 : (AE != 0) = false := by simp [h1]
  have HR := Lib.hid (HEx.out.2 h1)
  have hvr : AR = xs ++ [x] := HAr.out h1
  rw [hvr] at HV
  have hvn : vn ≤ 1001 := by have := HV.out.len; rw [List.length_append, HL.out] at this; simp at this; omega
  clear h1 hvr HEx HAr
  obtain ⟨c0, c1, c2, c3, c4, c5, c6, c7, c8, c9, c10, c11, c12, c13⟩ := BoxG.pa HX2.out
  go_upto_region 5 with (go_at_call 19; refine (CW.out _ HB2.out).mono ?_; rintro e w3 ⟨a3, n3, m3, rfl, hr3, hS, _⟩)
  have HB3 := Lib.hid (HB2.out.trans (hS.mono HB2.out.size))
  have HX3 := Lib.hid (HX2.out.below' hS)
  have HV3 := Lib.hid (HV.out.below' hS)
  have H3 := Lib.hid hr3
  clear c0 c1 c2 c3 c4 c5 c6 c7 c8 c9 c10 c11 c12 c13 hS hr3 CW HB2 HX2 HV
  by_cases h1 : E1 = 0
  case neg =>
    have q2 : (E1 != 0) = true := by simp [h1]
    have HR2 := Lib.hid (HR.out.1 h1)
    have HRv := Lib.hid (HVe.out (by rw [HR.out.1 h1]; exact h1))
    clear h1
    go_wp2_with fail
    exact bodyPost_ret (by simp [results, Tryz.results35, go_sem]) rfl (show ReachPost w RV RE (.returned (.tuple #[.slice none 0 0, .int .i64 E1])) w3 from ⟨_, by rw [HR2.out], by rw [HRv.out]; exact World.ownsRow_nil _ _ _ _, HB3.out⟩)
  case pos =>
  have q2 : (E1 != 0) = false := by simp [h1]
  have HR2 := Lib.hid (HR.out.2 h1)
  clear h1 HR
  obtain ⟨c0, c1, c2, c3, c4, c5, c6, c7, c8, c9, c10, c11, c12, c13⟩ := BoxG.pa HX3.out
  go_upto_region 8 with (go_at_call 19; refine (CV.out _ _ _ _ HV3.out hvc hvn).mono ?_; rintro e w4 ⟨a4, n4, m4, rfl, hr4, hS, _⟩)
  have HB4 := Lib.hid (HB3.out.trans (hS.mono HB3.out.size))
  have H34 := Lib.hid (H3.out.below' hS)
  have H4 := Lib.hid hr4
  clear c0 c1 c2 c3 c4 c5 c6 c7 c8 c9 c10 c11 c12 c13 hS hr4 CV HB3 HX3 HV3 H3
  by_cases h1 : E2 = 0
  case neg =>
    have q3 : (E2 != 0) = true := by simp [h1]
    have HR3 := Lib.hid HR2.out
    have HRv := Lib.hid (HVe.out (by rw [HR2.out]; exact h1))
    clear h1
    go_wp2_with fail
    exact bodyPost_ret (by simp [results, Tryz.results35, go_sem]) rfl (show ReachPost w RV RE (.returned (.tuple #[.slice none 0 0, .int .i64 E2])) w4 from ⟨_, by rw [HR3.out], by rw [HRv.out]; exact World.ownsRow_nil _ _ _ _, HB4.out⟩)
  case pos =>
  have q3 : (E2 != 0) = false := by simp [h1]
  have HR3 := Lib.hid (show RE = 0 from by rw [HR2.out, h1])
  have HRV := Lib.hid (HVo.out (by rw [HR2.out, h1]))
  have HD0 := Lib.hid (show difB L1 L2 0 = false from dif_zero HW1.out.2 HW2.out.2)
  clear h1 HR2 HVo HVe
  go_wp2_with fail
  go_loopw [12, 49] (fun v i wr => ∃ k : Nat, 0 ≤ k ∧ k ≤ 201 ∧ i = .int .i64 k ∧ wr.ownsRow w4.heap.size 3 1 v (difL L1 L2 k).length ((difL L1 L2 k).flatMap ints) ∧ Below w4.heap.size w4 wr) (fun _ i _ => 201 - (intOf i).toNat)
  case atStart => exact ⟨0, Nat.le_refl _, by decide, rfl, World.ownsRow_nil _ _ _ _, Below.refl _ _⟩
  case round =>
    obtain ⟨k, hk0, hk, rfl, hrow, hB⟩ := hrel
    have HRow := Lib.hid hrow
    have HBr := Lib.hid hB
    have H3r := Lib.hid (H34.out.below' hB)
    have H4r := Lib.hid (H4.out.below' hB)
    clear hrow hB
    by_cases hlt : k < 201
    · have hlt' : (k : Int) < 201 := by omega
      have C1 := Lib.hid (of_any a3 n3 m3 L1 k wr H3r.out)
      have HSy := Lib.hid (fun h => difL_yes (a := L1) (b := L2) (k := k) h)
      have HSn := Lib.hid (fun h => difL_no (a := L1) (b := L2) (k := k) h)
      have HDf := Lib.hid (show difB L1 L2 k = dif4 (ofI L1 k) (ofI L2 k) from rfl)
      have hlk := difL_len L1 L2 k
      have C2 := Lib.hid (fun W (hW : Below wr.heap.size wr W) => of_any a4 n4 m4 L2 k W (H4r.out.below' hW))
      obtain ⟨o1, ho1⟩ : ∃ o, ofI L1 (k : Int) = o := ⟨_, rfl⟩
      obtain ⟨o2, ho2⟩ : ∃ o, ofI L2 (k : Int) = o := ⟨_, rfl⟩
      have hol : ∀ (l : List Pa) (p : Int), ofL l p = ofI l p := fun _ _ => rfl
      rw [hol, ho1] at C1
      simp only [hol, ho2] at C2
      obtain ⟨p, hp⟩ : ∃ p, ofV o1 = p := ⟨_, rfl⟩
      obtain ⟨q, hq⟩ : ∃ q, ofV o2 = q := ⟨_, rfl⟩
      rw [hp] at C1
      rw [hq] at C2
      clear hol
      rw [ho1, ho2] at HDf
      obtain ⟨NS, hNS⟩ : ∃ N, difL L1 L2 k = N := ⟨_, rfl⟩
      rw [hNS] at HRow HSy HSn hlk
      clear ho1 ho2 hNS
      go_upto_region 15 with (go_at_call 77; refine C1.out.mono ?_; rintro e w5 ⟨rfl, hS⟩)
      have hpb := BoxG.made w5 [.int .i64 p.id, .int .i64 p.known, .int .u8 p.kind, .int .i64 p.loss, .int .i64 p.pack, .int .i64 p.inn, .string ⟨p.mark.toArray⟩, .string ⟨p.goods.toArray⟩, .int .i64 p.low, .int .i64 p.high, .int .i64 p.pieces, .int .i64 p.owner, .int .i64 p.count, .int .i64 p.of] 42
      have hBp := al' (Below.refl w5.heap.size w5) (.cells #[.int .i64 p.id, .int .i64 p.known, .int .u8 p.kind, .int .i64 p.loss, .int .i64 p.pack, .int .i64 p.inn, .string ⟨p.mark.toArray⟩, .string ⟨p.goods.toArray⟩, .int .i64 p.low, .int .i64 p.high, .int .i64 p.pieces, .int .i64 p.owner, .int .i64 p.count, .int .i64 p.of] 42)
      have hS5 := hS.trans (hBp.mono hS.size)
      have HB5 := Lib.hid hS5
      have HP := Lib.hid hpb
      clear hS hBp hS5 hpb C1
      generalize w5.alloc (.cells #[.int .i64 p.id, .int .i64 p.known, .int .u8 p.kind, .int .i64 p.loss, .int .i64 p.pack, .int .i64 p.inn, .string ⟨p.mark.toArray⟩, .string ⟨p.goods.toArray⟩, .int .i64 p.low, .int .i64 p.high, .int .i64 p.pieces, .int .i64 p.owner, .int .i64 p.count, .int .i64 p.of] 42) = w6 at *
      obtain ⟨P, hPe⟩ : ∃ P, w5.heap.size = P := ⟨_, rfl⟩
      rw [hPe] at HP ⊢
      clear hPe
      go_upto_region 16 with (go_at_call 77; refine (C2.out _ HB5.out).mono ?_; rintro e w7 ⟨rfl, hS⟩)
      have hqb := BoxG.made w7 [.int .i64 q.id, .int .i64 q.known, .int .u8 q.kind, .int .i64 q.loss, .int .i64 q.pack, .int .i64 q.inn, .string ⟨q.mark.toArray⟩, .string ⟨q.goods.toArray⟩, .int .i64 q.low, .int .i64 q.high, .int .i64 q.pieces, .int .i64 q.owner, .int .i64 q.count, .int .i64 q.of] 42
      have hBq := al' (Below.refl w7.heap.size w7) (.cells #[.int .i64 q.id, .int .i64 q.known, .int .u8 q.kind, .int .i64 q.loss, .int .i64 q.pack, .int .i64 q.inn, .string ⟨q.mark.toArray⟩, .string ⟨q.goods.toArray⟩, .int .i64 q.low, .int .i64 q.high, .int .i64 q.pieces, .int .i64 q.owner, .int .i64 q.count, .int .i64 q.of] 42)
      have hS7 := hS.trans (hBq.mono hS.size)
      have HB8 := Lib.hid (HBr.out.trans ((HB5.out.trans (hS7.mono HB5.out.size)).mono HBr.out.size))
      have HRow8 := Lib.hid (own_later' HRow.out (HB5.out.trans (hS7.mono HB5.out.size)))
      have HP8 := Lib.hid (HP.out.below' hS7)
      have HQ := Lib.hid hqb
      clear hS hBq hS7 hqb C2 HB5 HP HRow HBr
      generalize w7.alloc (.cells #[.int .i64 q.id, .int .i64 q.known, .int .u8 q.kind, .int .i64 q.loss, .int .i64 q.pack, .int .i64 q.inn, .string ⟨q.mark.toArray⟩, .string ⟨q.goods.toArray⟩, .int .i64 q.low, .int .i64 q.high, .int .i64 q.pieces, .int .i64 q.owner, .int .i64 q.count, .int .i64 q.of] 42) = w8 at *
      obtain ⟨Q, hQe⟩ : ∃ Q, w7.heap.size = Q := ⟨_, rfl⟩
      rw [hQe] at HQ ⊢
      clear hQe
      obtain ⟨d0, d1, d2, d3, d4, d5, d6, d7, d8, d9, d10, d11, d12, d13⟩ := BoxG.pa (x := p) HP8.out
      obtain ⟨e0, e1, e2, e3, e4, e5, e6, e7, e8, e9, e10, e11, e12, e13⟩ := BoxG.pa (x := q) HQ.out
      clear d0 d1 d2 d3 d4 d5 d6 d7 d10 d11 d12 d13 e0 e1 e2 e3 e4 e5 e6 e7 e10 e11 e12 e13
      have HDp := Lib.hid (show difB L1 L2 k = (o1.isSome != o2.isSome || !(p.low == q.low && p.high == q.high)) from by rw [HDf.out, ← hp, ← hq]; rfl)
      have HNo := Lib.hid (show o1 = none → o2 = none → p = q from fun e1 e2 => by rw [← hp, ← hq, e1, e2])
      obtain ⟨i1, hi1⟩ : ∃ b, o1.isSome = b := ⟨_, rfl⟩
      obtain ⟨i2, hi2⟩ : ∃ b, o2.isSome = b := ⟨_, rfl⟩
      obtain ⟨b1, hb1⟩ : ∃ b, (p.low == q.low) = b := ⟨_, rfl⟩
      obtain ⟨b2, hb2⟩ : ∃ b, (p.high == q.high) = b := ⟨_, rfl⟩
      rw [hi1, hi2, hb1, hb2] at HDp
      rw [hi1, hi2]
      have HNn := Lib.hid (show i1 = false → i2 = false → b1 = true ∧ b2 = true from fun e1 e2 => by
        have h1 : o1 = none := by cases o1 with | none => rfl | some z => rw [e1] at hi1; cases hi1
        have h2 : o2 = none := by cases o2 with | none => rfl | some z => rw [e2] at hi2; cases hi2
        have h3 := HNo.out h1 h2
        rw [← hb1, ← hb2, h3]; simp)
      obtain ⟨D, hD⟩ : ∃ b, difB L1 L2 k = b := ⟨_, rfl⟩
      rw [hD] at HDp HSy HSn
      clear hD hp hq hi1 hi2 HNo HDf
      go_cut [73] from 64 to 72 (fun v wx => v = .bool D ∧ wx = w8)
      case first =>
        cases b1 <;> cases b2 <;> cases i1 <;> cases i2
        all_goals go_wp2_with fail
        all_goals go_meet
        all_goals first
          | (refine ⟨?_, rfl⟩; rw [HDp.out]; rfl)
          | (exfalso; have h9 := HNn.out (by trivial) (by trivial); simp at h9)
          | (exfalso; have h9 := HNn.out; simp at h9)
      case rest =>
      obtain ⟨rfl, hwx⟩ := hcut
      obtain rfl : w8 = wc := hwx.symm
      clear hwx
      clear HNn hb1 hb2 d8 d9 e8 e9 HP8 HQ HDp
      cases D with
      | true =>
        have HS := Lib.hid (HSy.out rfl)
        go_wp2_with (at_builtin; go_loud (refine wpList_append_own _ rfl _ _ 32 rfl w4.heap.size 3 j0 _ 1 8 Tryz.underlying32 hj0 hy0 hy1 hy2 rfl (by decide) _ _ _ rfl (HRow8.out.alloc _) ⟨w8.heap.size, 0, none⟩ 1 1 (ints k) rfl rfl (cell_one_new _ _ _) (by simp [ints, Value.oneCell']) (by unfold maxLen; omega) (by omega) (Nat.le_trans HB8.out.size (by simp)) ?_; intro v9 w9 hown9 hgrow9 _))
        have HB9 := Lib.hid ((HB8.out.alloc HB8.out.size (.cells #[.int .i64 k] 3)).grown hgrow9 (Nat.le_trans HB8.out.size (by simp)) (fun j e => (HRow8.out.lt j e).1))
        have HO9 := Lib.hid (own_int_next hown9)
        clear hown9 hgrow9
        go_wp2_with fail
        exact ⟨⟨k + 1, by omega, by omega, by go_num, by rw [HS.out]; exact HO9.out, HB9.out⟩, by simp [intOf]; omega⟩
      | false =>
        have HS := Lib.hid (HSn.out rfl)
        go_wp2_with fail
        exact ⟨⟨k + 1, by omega, by omega, by go_num, by rw [HS.out]; exact HRow8.out, HB8.out⟩, by simp [intOf]; omega⟩
    · have hltg : ¬ (k : Int) < 201 := by omega
      obtain rfl : k = 201 := by omega
      rw [← HRV.out] at HRow
      have HBf := Lib.hid (HB4.out.trans (HBr.out.mono HB4.out.size))
      clear hlt
      go_wp2_with fail
      exact bodyPost_ret (by simp [results, Tryz.results35, go_sem]) rfl (show ReachPost w RV RE (.returned (.tuple #[u12, .int .i64 0])) wr from ⟨_, by rw [HR3.out], ownsRow_mono HRow.out HB4.out.size, HBf.out⟩)

set_option maxRecDepth 100000 in
set_option maxHeartbeats 8000000 in
theorem reached_r (a : Option Addr) (n cap : Nat) (xs : List Pa) (hs : ∀ y ∈ xs, y.Short) (x : Pa) (hx : x.Short) (loss : Int) (w : World) (h : Rd Pa.vals 14 w a n xs) (hcap : n ≤ cap) (hn : n ≤ 1000) (hz : a = none → cap = 0) :
    Calls Tryz.prog 36 #[.slice a n cap, .agg #[.int .i64 x.id, .int .i64 x.known, .int .u8 x.kind, .int .i64 x.loss, .int .i64 x.pack, .int .i64 x.inn, .string ⟨x.mark.toArray⟩, .string ⟨x.goods.toArray⟩, .int .i64 x.low, .int .i64 x.high, .int .i64 x.pieces, .int .i64 x.owner, .int .i64 x.count, .int .i64 x.of], .int .i64 loss] w (ReachPost w (reachV xs x loss) (reachE xs x loss)) := by
  obtain ⟨j0, hj0, hy0, hy1, hy2⟩ := info_parts info_int
  have hb := BoxG.made w x.vals 42
  have hB := al' (Below.refl w.heap.size w) (.cells x.vals.toArray 42)
  simp only [Pa.vals] at hb hB
  have HX := Lib.hid hb
  have HB := Lib.hid hB
  have CA := Lib.hid (fun W (hW : Below w.heap.size w W) => (rappend_any a n cap xs hs x hx W (h.below' hW) hn hcap hz).mono (fun _ _ h => app_of h))
  have CW := Lib.hid (fun W (hW : Below w.heap.size w W) => weights_r a n cap xs hs x.known loss W (h.below' hW) hcap (by omega))
  have CV := Lib.hid (fun (vb : Option Addr) (vn vc : Nat) W (hW : Rd Pa.vals 14 W vb vn (xs ++ [x])) (hc : vn ≤ vc) (hn2 : vn ≤ 1001) => weights_r vb vn vc (xs ++ [x]) (fun y hy => by
      rcases List.mem_append.1 hy with hy | hy
      · exact hs y hy
      · rw [List.mem_singleton.1 hy]; exact hx) x.known loss W hW hc (by omega))
  have hEx := reach_err xs x loss
  have HEx := Lib.hid hEx
  have HVe := Lib.hid (show ¬ reachE xs x loss = 0 → reachV xs x loss = [] from fun h => by unfold reachV; rw [if_neg h])
  have HVo := Lib.hid (reach_val xs x loss)
  have HAr := Lib.hid (show appE xs x = 0 → appR xs x = xs ++ [x] from app_ok)
  unfold AppPost at CA
  unfold WeightsPost at CW CV
  have hlen := h.len
  have HL := Lib.hid hlen
  have HW1 := Lib.hid (weights_len xs x.known loss)
  have HW2 := Lib.hid (weights_len (xs ++ [x]) x.known loss)
  clear hb hB h hEx hlen
  obtain ⟨RE, hRE⟩ : ∃ v, reachE xs x loss = v := ⟨_, rfl⟩
  obtain ⟨RV, hRV⟩ : ∃ v, reachV xs x loss = v := ⟨_, rfl⟩
  obtain ⟨AE, hAE⟩ : ∃ v, appE xs x = v := ⟨_, rfl⟩
  obtain ⟨AR, hAR⟩ : ∃ v, appR xs x = v := ⟨_, rfl⟩
  obtain ⟨E1, hE1⟩ : ∃ v, weighE xs x.known loss true = v := ⟨_, rfl⟩
  obtain ⟨E2, hE2⟩ : ∃ v, weighE (xs ++ [x]) x.known loss true = v := ⟨_, rfl⟩
  obtain ⟨L1, hL1⟩ : ∃ v, weightsV xs x.known loss = v := ⟨_, rfl⟩
  obtain ⟨L2, hL2⟩ : ∃ v, weightsV (xs ++ [x]) x.known loss = v := ⟨_, rfl⟩
  rw [hAE, hAR] at CA HAr
  rw [hE1, hL1] at CW
  rw [hE2, hL2] at CV
  rw [hRE, hAE, hE1, hE2] at HEx
  rw [hRE, hRV] at HVe
  rw [hRE, hRV, hL1, hL2] at HVo
  rw [hL1] at HW1
  rw [hL2] at HW2
  rw [hRE, hRV]
  clear hRE hRV hAE hAR hE1 hE2 hL1 hL2
  go_enter Tryz.func36, Tryz.ntmps36
  go_upto_region 1 with (fail)
  generalize w.alloc (.cells #[.int .i64 x.id, .int .i64 x.known, .int .u8 x.kind, .int .i64 x.loss, .int .i64 x.pack, .int .i64 x.inn, .string ⟨x.mark.toArray⟩, .string ⟨x.goods.toArray⟩, .int .i64 x.low, .int .i64 x.high, .int .i64 x.pieces, .int .i64 x.owner, .int .i64 x.count, .int .i64 x.of] 42) = w1 at *
  obtain ⟨X, hXe⟩ : ∃ X, w.heap.size = X := ⟨_, rfl⟩
  have HXe := Lib.hid hXe
  rw [hXe] at HX ⊢
  clear hXe
  have HXv := Lib.hid (show BoxG w1 X x.vals from HX.out)
  obtain ⟨c0, c1, c2, c3, c4, c5, c6, c7, c8, c9, c10, c11, c12, c13⟩ := BoxG.pa HXv.out
  clear HX
  go_upto_region 2 with (go_at_call 27; refine (CA.out _ HB.out).mono ?_; rintro e w2 ⟨va, vn, vc, rfl, hva, hvc, hS⟩)
  have HB2 := Lib.hid (HB.out.trans (hS.mono HB.out.size))
  have HX2 := Lib.hid (HXv.out.below' hS)
  have HV := Lib.hid hva
  clear c0 c1 c2 c3 c4 c5 c6 c7 c8 c9 c10 c11 c12 c13 hS hva CA HB HXv
  by_cases h1 : AE = 0
  case neg =>
    have q1 : (AE != 0) = true := by simp [h1]
    have HR := Lib.hid (HEx.out.1 h1)
    have HRv := Lib.hid (HVe.out (by rw [HEx.out.1 h1]; exact h1))
    clear h1
    go_wp2_with fail
    exact bodyPost_ret (by simp [results, Tryz.results36, go_sem]) rfl (show ReachPost w RV RE (.returned (.tuple #[.slice none 0 0, .int .i64 AE])) w2 from ⟨_, by rw [HR.out], by rw [HRv.out]; exact World.ownsRow_nil _ _ _ _, HB2.out⟩)
  case pos =>
  have q1 : (AE != 0) = false := by simp [h1]
  have HR := Lib.hid (HEx.out.2 h1)
  have hvr : AR = xs ++ [x] := HAr.out h1
  rw [hvr] at HV
  have hvn : vn ≤ 1001 := by have := HV.out.len; rw [List.length_append, HL.out] at this; simp at this; omega
  clear h1 hvr HEx HAr
  obtain ⟨c0, c1, c2, c3, c4, c5, c6, c7, c8, c9, c10, c11, c12, c13⟩ := BoxG.pa HX2.out
  go_upto_region 5 with (go_at_call 20; refine (CW.out _ HB2.out).mono ?_; rintro e w3 ⟨a3, n3, m3, rfl, hr3, hS, _⟩)
  have HB3 := Lib.hid (HB2.out.trans (hS.mono HB2.out.size))
  have HX3 := Lib.hid (HX2.out.below' hS)
  have HV3 := Lib.hid (HV.out.below' hS)
  have H3 := Lib.hid hr3
  clear c0 c1 c2 c3 c4 c5 c6 c7 c8 c9 c10 c11 c12 c13 hS hr3 CW HB2 HX2 HV
  by_cases h1 : E1 = 0
  case neg =>
    have q2 : (E1 != 0) = true := by simp [h1]
    have HR2 := Lib.hid (HR.out.1 h1)
    have HRv := Lib.hid (HVe.out (by rw [HR.out.1 h1]; exact h1))
    clear h1
    go_wp2_with fail
    exact bodyPost_ret (by simp [results, Tryz.results36, go_sem]) rfl (show ReachPost w RV RE (.returned (.tuple #[.slice none 0 0, .int .i64 E1])) w3 from ⟨_, by rw [HR2.out], by rw [HRv.out]; exact World.ownsRow_nil _ _ _ _, HB3.out⟩)
  case pos =>
  have q2 : (E1 != 0) = false := by simp [h1]
  have HR2 := Lib.hid (HR.out.2 h1)
  clear h1 HR
  obtain ⟨c0, c1, c2, c3, c4, c5, c6, c7, c8, c9, c10, c11, c12, c13⟩ := BoxG.pa HX3.out
  go_upto_region 8 with (go_at_call 20; refine (CV.out _ _ _ _ HV3.out hvc hvn).mono ?_; rintro e w4 ⟨a4, n4, m4, rfl, hr4, hS, _⟩)
  have HB4 := Lib.hid (HB3.out.trans (hS.mono HB3.out.size))
  have H34 := Lib.hid (H3.out.below' hS)
  have H4 := Lib.hid hr4
  clear c0 c1 c2 c3 c4 c5 c6 c7 c8 c9 c10 c11 c12 c13 hS hr4 CV HB3 HX3 HV3 H3
  by_cases h1 : E2 = 0
  case neg =>
    have q3 : (E2 != 0) = true := by simp [h1]
    have HR3 := Lib.hid HR2.out
    have HRv := Lib.hid (HVe.out (by rw [HR2.out]; exact h1))
    clear h1
    go_wp2_with fail
    exact bodyPost_ret (by simp [results, Tryz.results36, go_sem]) rfl (show ReachPost w RV RE (.returned (.tuple #[.slice none 0 0, .int .i64 E2])) w4 from ⟨_, by rw [HR3.out], by rw [HRv.out]; exact World.ownsRow_nil _ _ _ _, HB4.out⟩)
  case pos =>
  have q3 : (E2 != 0) = false := by simp [h1]
  have HR3 := Lib.hid (show RE = 0 from by rw [HR2.out, h1])
  have HRV := Lib.hid (HVo.out (by rw [HR2.out, h1]))
  have HD0 := Lib.hid (show difB L1 L2 0 = false from dif_zero HW1.out.2 HW2.out.2)
  clear h1 HR2 HVo HVe
  go_wp2_with fail
  go_loopw [14, 15] (fun v i wr => ∃ k : Nat, 1 ≤ k ∧ k ≤ 201 ∧ i = .int .i64 k ∧ wr.ownsRow w4.heap.size 3 1 v (difL L1 L2 k).length ((difL L1 L2 k).flatMap ints) ∧ Below w4.heap.size w4 wr) (fun _ i _ => 201 - (intOf i).toNat)
  case atStart => exact ⟨1, Nat.le_refl _, by decide, rfl, by rw [difL_one HD0.out]; exact World.ownsRow_nil _ _ _ _, Below.refl _ _⟩
  case round =>
    obtain ⟨k, hk0, hk, rfl, hrow, hB⟩ := hrel
    have HRow := Lib.hid hrow
    have HBr := Lib.hid hB
    have H3r := Lib.hid (H34.out.below' hB)
    have H4r := Lib.hid (H4.out.below' hB)
    clear hrow hB
    by_cases hlt : k < 201
    · have hlt' : (k : Int) ≤ 200 := by omega
      have C1 := Lib.hid (find_r a3 n3 m3 L1 k wr H3r.out)
      have HSy := Lib.hid (fun h => difL_yes (a := L1) (b := L2) (k := k) h)
      have HSn := Lib.hid (fun h => difL_no (a := L1) (b := L2) (k := k) h)
      have HDf := Lib.hid (show difB L1 L2 k = dif4 (ofI L1 k) (ofI L2 k) from rfl)
      have hlk := difL_len L1 L2 k
      have C2 := Lib.hid (fun W (hW : Below wr.heap.size wr W) => find_r a4 n4 m4 L2 k W (H4r.out.below' hW))
      obtain ⟨o1, ho1⟩ : ∃ o, ofI L1 (k : Int) = o := ⟨_, rfl⟩
      obtain ⟨o2, ho2⟩ : ∃ o, ofI L2 (k : Int) = o := ⟨_, rfl⟩
      unfold FindPost at C1 C2
      rw [ho1] at C1
      rw [ho2] at C2
      rw [ho1, ho2] at HDf
      obtain ⟨NS, hNS⟩ : ∃ N, difL L1 L2 k = N := ⟨_, rfl⟩
      rw [hNS] at HRow HSy HSn hlk
      clear ho1 ho2 hNS
      go_upto_region 15 with (go_at_call 78; refine C1.out.mono ?_; rintro e w5 ⟨hS, p, hp, rfl⟩)
      have hpb := BoxG.made w5 [.int .i64 p.id, .int .i64 p.known, .int .u8 p.kind, .int .i64 p.loss, .int .i64 p.pack, .int .i64 p.inn, .string ⟨p.mark.toArray⟩, .string ⟨p.goods.toArray⟩, .int .i64 p.low, .int .i64 p.high, .int .i64 p.pieces, .int .i64 p.owner, .int .i64 p.count, .int .i64 p.of] 42
      have hBp := al' (Below.refl w5.heap.size w5) (.cells #[.int .i64 p.id, .int .i64 p.known, .int .u8 p.kind, .int .i64 p.loss, .int .i64 p.pack, .int .i64 p.inn, .string ⟨p.mark.toArray⟩, .string ⟨p.goods.toArray⟩, .int .i64 p.low, .int .i64 p.high, .int .i64 p.pieces, .int .i64 p.owner, .int .i64 p.count, .int .i64 p.of] 42)
      have hS5 := hS.trans (hBp.mono hS.size)
      have HB5 := Lib.hid hS5
      have HP := Lib.hid hpb
      clear hS hBp hS5 hpb C1
      generalize w5.alloc (.cells #[.int .i64 p.id, .int .i64 p.known, .int .u8 p.kind, .int .i64 p.loss, .int .i64 p.pack, .int .i64 p.inn, .string ⟨p.mark.toArray⟩, .string ⟨p.goods.toArray⟩, .int .i64 p.low, .int .i64 p.high, .int .i64 p.pieces, .int .i64 p.owner, .int .i64 p.count, .int .i64 p.of] 42) = w6 at *
      obtain ⟨P, hPe⟩ : ∃ P, w5.heap.size = P := ⟨_, rfl⟩
      rw [hPe] at HP ⊢
      clear hPe
      go_upto_region 16 with (go_at_call 78; refine (C2.out _ HB5.out).mono ?_; rintro e w7 ⟨hS, q, hq, rfl⟩)
      have hqb := BoxG.made w7 [.int .i64 q.id, .int .i64 q.known, .int .u8 q.kind, .int .i64 q.loss, .int .i64 q.pack, .int .i64 q.inn, .string ⟨q.mark.toArray⟩, .string ⟨q.goods.toArray⟩, .int .i64 q.low, .int .i64 q.high, .int .i64 q.pieces, .int .i64 q.owner, .int .i64 q.count, .int .i64 q.of] 42
      have hBq := al' (Below.refl w7.heap.size w7) (.cells #[.int .i64 q.id, .int .i64 q.known, .int .u8 q.kind, .int .i64 q.loss, .int .i64 q.pack, .int .i64 q.inn, .string ⟨q.mark.toArray⟩, .string ⟨q.goods.toArray⟩, .int .i64 q.low, .int .i64 q.high, .int .i64 q.pieces, .int .i64 q.owner, .int .i64 q.count, .int .i64 q.of] 42)
      have hS7 := hS.trans (hBq.mono hS.size)
      have HB8 := Lib.hid (HBr.out.trans ((HB5.out.trans (hS7.mono HB5.out.size)).mono HBr.out.size))
      have HRow8 := Lib.hid (own_later' HRow.out (HB5.out.trans (hS7.mono HB5.out.size)))
      have HP8 := Lib.hid (HP.out.below' hS7)
      have HQ := Lib.hid hqb
      clear hS hBq hS7 hqb C2 HB5 HP HRow HBr
      generalize w7.alloc (.cells #[.int .i64 q.id, .int .i64 q.known, .int .u8 q.kind, .int .i64 q.loss, .int .i64 q.pack, .int .i64 q.inn, .string ⟨q.mark.toArray⟩, .string ⟨q.goods.toArray⟩, .int .i64 q.low, .int .i64 q.high, .int .i64 q.pieces, .int .i64 q.owner, .int .i64 q.count, .int .i64 q.of] 42) = w8 at *
      obtain ⟨Q, hQe⟩ : ∃ Q, w7.heap.size = Q := ⟨_, rfl⟩
      rw [hQe] at HQ ⊢
      clear hQe
      obtain ⟨d0, d1, d2, d3, d4, d5, d6, d7, d8, d9, d10, d11, d12, d13⟩ := BoxG.pa (x := p) HP8.out
      obtain ⟨e0, e1, e2, e3, e4, e5, e6, e7, e8, e9, e10, e11, e12, e13⟩ := BoxG.pa (x := q) HQ.out
      clear d0 d1 d2 d3 d4 d5 d6 d7 d10 d11 d12 d13 e0 e1 e2 e3 e4 e5 e6 e7 e10 e11 e12 e13
      have HDp := Lib.hid (show difB L1 L2 k = (o1.isSome != o2.isSome || !(p.low == q.low && p.high == q.high)) from by rw [HDf.out, ← hp, ← hq]; rfl)
      have HNo := Lib.hid (show o1 = none → o2 = none → p = q from fun e1 e2 => by rw [← hp, ← hq, e1, e2])
      obtain ⟨i1, hi1⟩ : ∃ b, o1.isSome = b := ⟨_, rfl⟩
      obtain ⟨i2, hi2⟩ : ∃ b, o2.isSome = b := ⟨_, rfl⟩
      obtain ⟨b1, hb1⟩ : ∃ b, (p.low == q.low) = b := ⟨_, rfl⟩
      obtain ⟨b2, hb2⟩ : ∃ b, (p.high == q.high) = b := ⟨_, rfl⟩
      rw [hi1, hi2, hb1, hb2] at HDp
      rw [hi1, hi2]
      have HNn := Lib.hid (show i1 = false → i2 = false → b1 = true ∧ b2 = true from fun e1 e2 => by
        have h1 : o1 = none := by cases o1 with | none => rfl | some z => rw [e1] at hi1; cases hi1
        have h2 : o2 = none := by cases o2 with | none => rfl | some z => rw [e2] at hi2; cases hi2
        have h3 := HNo.out h1 h2
        rw [← hb1, ← hb2, h3]; simp)
      obtain ⟨D, hD⟩ : ∃ b, difB L1 L2 k = b := ⟨_, rfl⟩
      rw [hD] at HDp HSy HSn
      clear hD hp hq hi1 hi2 HNo HDf
      go_cut [79] from 67 to 78 (fun v wx => v = .bool D ∧ wx = w8)
      case first =>
        cases b1 <;> cases b2 <;> cases i1 <;> cases i2
        all_goals go_wp2_with fail
        all_goals go_meet
        all_goals first
          | (refine ⟨?_, rfl⟩; rw [HDp.out]; rfl)
          | (exfalso; have h9 := HNn.out (by trivial) (by trivial); simp at h9)
          | (exfalso; have h9 := HNn.out; simp at h9)
      case rest =>
      obtain ⟨rfl, hwx⟩ := hcut
      obtain rfl : w8 = wc := hwx.symm
      clear hwx
      clear HNn hb1 hb2 d8 d9 e8 e9 HP8 HQ HDp
      cases D with
      | true =>
        have HS := Lib.hid (HSy.out rfl)
        go_wp2_with (at_builtin; go_loud (refine wpList_append_own _ rfl _ _ 32 rfl w4.heap.size 3 j0 _ 1 8 Tryz.underlying32 hj0 hy0 hy1 hy2 rfl (by decide) _ _ _ rfl (HRow8.out.alloc _) ⟨w8.heap.size, 0, none⟩ 1 1 (ints k) rfl rfl (cell_one_new _ _ _) (by simp [ints, Value.oneCell']) (by unfold maxLen; omega) (by omega) (Nat.le_trans HB8.out.size (by simp)) ?_; intro v9 w9 hown9 hgrow9 _))
        have HB9 := Lib.hid ((HB8.out.alloc HB8.out.size (.cells #[.int .i64 k] 3)).grown hgrow9 (Nat.le_trans HB8.out.size (by simp)) (fun j e => (HRow8.out.lt j e).1))
        have HO9 := Lib.hid (own_int_next hown9)
        clear hown9 hgrow9
        go_wp2_with fail
        exact ⟨⟨k + 1, by omega, by omega, by go_num, by rw [HS.out]; exact HO9.out, HB9.out⟩, by simp [intOf]; omega⟩
      | false =>
        have HS := Lib.hid (HSn.out rfl)
        go_wp2_with fail
        exact ⟨⟨k + 1, by omega, by omega, by go_num, by rw [HS.out]; exact HRow8.out, HB8.out⟩, by simp [intOf]; omega⟩
    · have hltg : ¬ (k : Int) ≤ 200 := by omega
      obtain rfl : k = 201 := by omega
      rw [← HRV.out] at HRow
      have HBf := Lib.hid (HB4.out.trans (HBr.out.mono HB4.out.size))
      clear hlt
      go_wp2_with fail
      exact bodyPost_ret (by simp [results, Tryz.results36, go_sem]) rfl (show ReachPost w RV RE (.returned (.tuple #[u14, .int .i64 0])) wr from ⟨_, by rw [HR3.out], ownsRow_mono HRow.out HB4.out.size, HBf.out⟩)
end Go.Proofs.YtmghbbgnenpcaaaGreatDoor

/- The law CargoReached walked. -/
set_option linter.unusedSimpArgs false
set_option linter.unusedVariables false
namespace Go.Proofs.YtmghbbgnenpcaaaGreatDoor
open Go.RowKit Go.Shelf

theorem reachV_len (xs : List Pa) (x : Pa) (loss : Int) : (reachV xs x loss).length ≤ 1000 := by
  unfold reachV
  split
  · have := difL_len (weightsV xs x.known loss) (weightsV (xs ++ [x]) x.known loss) 201; omega
  · simp
set_option maxRecDepth 100000 in
set_option maxHeartbeats 8000000 in
theorem law_reached (a : Option Addr) (n cap : Nat) (xs : List Pa) (x : Pa) (loss : Int) (w : World) (h : Rd Pa.vals 14 w a n xs) (hz : a = none → cap = 0) (hcap : n ≤ cap) (hw : Laid w) :
    Calls Tryz.prog 10 #[.slice a n cap, .agg #[.int .i64 x.id, .int .i64 x.known, .int .u8 x.kind, .int .i64 x.loss, .int .i64 x.pack, .int .i64 x.inn, .string ⟨x.mark.toArray⟩, .string ⟨x.goods.toArray⟩, .int .i64 x.low, .int .i64 x.high, .int .i64 x.pieces, .int .i64 x.owner, .int .i64 x.count, .int .i64 x.of], .int .i64 loss] w fun e w' => e = .returned (.bool true) ∧ Below w.heap.size w w' := by
  have CA := Lib.hid (show ∀ W, Below w.heap.size w W → Calls Tryz.prog 12 #[] W fun e w' => e = .returned (.bool true) ∧ Below W.heap.size W w' from fun W hB => alive_any W (hw.below hB))
  have hb := BoxG.made w x.vals 42
  have hB := al' (Below.refl w.heap.size w) (.cells x.vals.toArray 42)
  simp only [Pa.vals] at hb hB
  have HX0 := Lib.hid hb
  have HB := Lib.hid hB
  have HR0 := Lib.hid h
  have Hlen := Lib.hid h.len
  have Hz := Lib.hid hz
  clear hb hB h hw hz
  go_enter Tryz.func10, Tryz.ntmps10
  go_upto_region 1 with (fail)
  generalize w.alloc (.cells #[.int .i64 x.id, .int .i64 x.known, .int .u8 x.kind, .int .i64 x.loss, .int .i64 x.pack, .int .i64 x.inn, .string ⟨x.mark.toArray⟩, .string ⟨x.goods.toArray⟩, .int .i64 x.low, .int .i64 x.high, .int .i64 x.pieces, .int .i64 x.owner, .int .i64 x.count, .int .i64 x.of] 42) = w1 at *
  have HX := Lib.hid (show BoxG w1 w.heap.size x.vals from HX0.out)
  clear HX0
  obtain ⟨F1, hF1⟩ : ∃ b, fewB xs 30 = b := ⟨_, rfl⟩
  go_wp2_with fail
  refine (lfew_any a n cap xs _ (HR0.out.below' HB.out)).mono ?_
  rintro e w2 ⟨rfl, rfl⟩
  rw [hF1]
  cases F1 with
  | false =>
    clear hF1
    go_wp2_with fail
    refine (CA.out _ HB.out).mono ?_
    rintro e w3 ⟨rfl, hS⟩
    have HB' := Lib.hid (below_on HB.out hS (Nat.le_refl _))
    clear hS
    go_wp2_with fail
    go_ret
    exact ⟨rfl, HB'.out⟩
  | true =>
  have HF1 := Lib.hid (few_short hF1)
  clear hF1
  obtain ⟨c0, c1, c2, c3, c4, c5, c6, c7, c8, c9, c10, c11, c12, c13⟩ := HX.out.pa
  have HP := Lib.hid (rd_pa w2 x 42)
  have hS := al' (Below.refl w2.heap.size w2) (.cells #[.int .i64 x.id, .int .i64 x.known, .int .u8 x.kind, .int .i64 x.loss, .int .i64 x.pack, .int .i64 x.inn, .string ⟨x.mark.toArray⟩, .string ⟨x.goods.toArray⟩, .int .i64 x.low, .int .i64 x.high, .int .i64 x.pieces, .int .i64 x.owner, .int .i64 x.count, .int .i64 x.of] 42)
  have HX' := Lib.hid (HX.out.below' hS)
  have HB' := Lib.hid (below_on HB.out hS (Nat.le_refl _))
  clear hS
  obtain ⟨F2, hF2⟩ : ∃ b, fewB [x] 1 = b := ⟨_, rfl⟩
  go_wp2_with fail
  generalize w2.alloc (.cells #[.int .i64 x.id, .int .i64 x.known, .int .u8 x.kind, .int .i64 x.loss, .int .i64 x.pack, .int .i64 x.inn, .string ⟨x.mark.toArray⟩, .string ⟨x.goods.toArray⟩, .int .i64 x.low, .int .i64 x.high, .int .i64 x.pieces, .int .i64 x.owner, .int .i64 x.count, .int .i64 x.of] 42) = w3 at *
  refine (rfew_any _ 1 1 [x] 1 _ HP.out).mono ?_
  rintro e w4 ⟨rfl, rfl⟩
  rw [hF2]
  clear HX HB HP c0 c1 c2 c3 c4 c5 c6 c7 c8 c9 c10 c11 c12 c13
  have HX := Lib.hid HX'.out
  have HB := Lib.hid HB'.out
  clear HX' HB'
  cases F2 with
  | false =>
    clear hF2
    go_wp2_with fail
    refine (CA.out _ HB.out).mono ?_
    rintro e w3 ⟨rfl, hS⟩
    have HB' := Lib.hid (below_on HB.out hS (Nat.le_refl _))
    clear hS
    go_wp2_with fail
    go_ret
    exact ⟨rfl, HB'.out⟩
  | true =>
  have HS := Lib.hid (show ∀ y ∈ xs, y.Short from fun y hy => by have := HF1.out.2 y hy; exact ⟨by omega, by omega⟩)
  have HSx := Lib.hid (show x.Short from by have := (few_short hF2).2 x (by simp); exact ⟨by omega, by omega⟩)
  have hn : n ≤ 30 := by have h1 := HF1.out.1; rw [Hlen.out] at h1; omega
  clear hF2 HF1
  have C1 := Lib.hid (fun W (hW : Below w.heap.size w W) => reached_any a n cap xs HS.out x HSx.out loss W (HR0.out.below' hW) hcap (by omega) Hz.out)
  have C2 := Lib.hid (fun W (hW : Below w.heap.size w W) => reached_r a n cap xs HS.out x HSx.out loss W (HR0.out.below' hW) hcap (by omega) Hz.out)
  have hvl := reachV_len xs x loss
  unfold ReachPost at C1 C2
  obtain ⟨RE, hRE⟩ : ∃ v, reachE xs x loss = v := ⟨_, rfl⟩
  obtain ⟨RV, hRV⟩ : ∃ v, reachV xs x loss = v := ⟨_, rfl⟩
  rw [hRE, hRV] at C1 C2
  rw [hRV] at hvl
  have hEE : (RE == RE) = true := by simp
  clear hRE hRV
  obtain ⟨c0, c1, c2, c3, c4, c5, c6, c7, c8, c9, c10, c11, c12, c13⟩ := HX.out.pa
  go_upto_region 4 with (go_at_call 35; refine (C1.out _ HB.out).mono ?_; rintro e w5 ⟨v1, rfl, ho, hS⟩)
  obtain ⟨a3, n3, m3, rfl, hr3⟩ := rd_own ho hvl
  have HB5 := Lib.hid (HB.out.trans (hS.mono HB.out.size))
  have HX5 := Lib.hid (HX.out.below' hS)
  have H3 := Lib.hid hr3
  clear hS ho hr3 C1 HX HB c0 c1 c2 c3 c4 c5 c6 c7 c8 c9 c10 c11 c12 c13
  obtain ⟨c0, c1, c2, c3, c4, c5, c6, c7, c8, c9, c10, c11, c12, c13⟩ := HX5.out.pa
  go_upto_region 5 with (go_at_call 36; refine (C2.out _ HB5.out).mono ?_; rintro e w6 ⟨v2, rfl, ho, hS⟩)
  obtain ⟨a4, n4, m4, rfl, hr4⟩ := rd_own ho hvl
  have HB6 := Lib.hid (HB5.out.trans (hS.mono HB5.out.size))
  have H3' := Lib.hid (H3.out.below' hS)
  have H4 := Lib.hid hr4
  clear hS ho hr4 C2 HX5 HB5 c0 c1 c2 c3 c4 c5 c6 c7 c8 c9 c10 c11 c12 c13 H3
  go_wp2_with fail
  refine (CA.out _ HB6.out).mono ?_
  rintro e w7 ⟨rfl, hS⟩
  have HB7 := Lib.hid (HB6.out.trans (hS.mono HB6.out.size))
  have CQ := Lib.hid (equalI_any a3 a4 n3 m3 n4 m4 RV RV w7 (H3'.out.below' hS) (H4.out.below' hS))
  rw [decide_eq_true rfl] at CQ
  clear hS H3' H4 HB6
  go_wp2_with fail
  refine CQ.out.mono ?_
  rintro e w8 ⟨rfl, hS⟩
  have HBf := Lib.hid (HB7.out.trans (hS.mono HB7.out.size))
  clear hS CQ HB7
  go_wp2_with fail
  go_ret
  exact ⟨rfl, HBf.out⟩
end Go.Proofs.YtmghbbgnenpcaaaGreatDoor
