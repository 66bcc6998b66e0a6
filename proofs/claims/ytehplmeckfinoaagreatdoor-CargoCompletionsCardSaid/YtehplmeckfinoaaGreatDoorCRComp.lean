/- The walks of the reference's fits and CheckCompletion. -/
import Derived.Test.YtehplmeckfinoaaGreatDoorCRRight
import Derived.Test.YtehplmeckfinoaaGreatDoorCComp
import Derived.Test.YtehplmeckfinoaaGreatDoorLater
import Derived.Test.YtehplmeckfinoaaGreatDoorCCompl
set_option linter.unusedSimpArgs false
set_option linter.unusedVariables false
namespace Go.Proofs.YtehplmeckfinoaaGreatDoor
open Go.RowKit Go.Shelf
def sumIn : List Pa → List (Int × Int) → Int → Int
 | x :: r, c :: q, p => (if x.inn = p then c.2 else 0) + sumIn r q p
 | _, _, _ => 0
theorem sumIn_step : ∀ {ps : List Pa} {cs : List (Int × Int)} {k : Nat} {x : Pa} {c : Int × Int} (p : Int), ps[k]? = some x → cs[k]? = some c → sumIn (ps.take (k + 1)) (cs.take (k + 1)) p = sumIn (ps.take k) (cs.take k) p + (if x.inn = p then c.2 else 0)
 | [], _, k, x, c, p, h, _ => by simp at h
 | y :: r, [], k, x, c, p, _, h => by simp at h
 | y :: r, d :: q, 0, x, c, p, h1, h2 => by
   simp at h1 h2
   subst h1 h2
   simp [sumIn]
 | y :: r, d :: q, k + 1, x, c, p, h1, h2 => by
   have := sumIn_step p (ps := r) (cs := q) (k := k) (x := x) (c := c) (by simpa using h1) (by simpa using h2)
   simp only [List.take_succ_cons, sumIn] at this ⊢
   rw [this]
   omega
def fitsR (ps ts : List Pa) (pack most : Int) (cs : List (Int × Int)) : Bool := match ofI ts pack with
 | none => decide (sumIn ps cs pack + missR ps ts pack ≤ min most (sumIn ps cs pack + missR ps ts pack * 100000))
 | some t => decide (max (sumIn ps cs pack + missR ps ts pack) t.low ≤ min most (min (sumIn ps cs pack + missR ps ts pack * 100000) t.high))
set_option maxRecDepth 100000 in
set_option maxHeartbeats 8000000 in
theorem fits_r (pa : Option Addr) (pn pc : Nat) (ta : Option Addr) (tn tc : Nat) (PS TS : List Pa) (hmo : ManiOk PS TS) (pack most : Int) (ca : Option Addr) (cc : Nat) (cs : List (Int × Int)) (hcs : ∀ c ∈ cs, 0 ≤ c.2 ∧ c.2 ≤ 100000) (w : World) (hp : Rd Pa.vals 14 w pa pn PS) (ht : Rd Pa.vals 14 w ta tn TS) (hc : Rd weiV 2 w ca pn cs) :
 Calls Tryz.prog 31 #[.agg #[.slice pa pn pc, .slice ta tn tc], .int .i64 pack, .int .i64 most, .slice ca pn cc] w fun e w' => e = .returned (.bool (fitsR PS TS pack most cs)) ∧ Below w.heap.size w w' := by
 have hM := ManR.box pc tc hp ht 70
 have hB := al' (Below.refl w.heap.size w) (.cells #[.slice pa pn pc, .slice ta tn tc] 70)
 have HM := Hd hM
 have HB1 := Hd hB
 have HC1 := Hd (hc.below' hB)
 have hpn : pn ≤ 201 := by rw [← hp.len]; exact hmo.ln
 have HPl := Hd hp.len
 have HCl := Hd hc.len
 have HCs := Hd hcs
 have hm1 := missR_hi hmo pack
 have hm0 : -1000 ≤ missR PS TS pack := by
  unfold missR
  cases e : ofI TS pack with
  | none => simp
  | some x =>
    have h1 := (hmo.tt x (ofI_mem e).1).1
    have h2 : (insideI PS pack).length ≤ 201 := by unfold insideI; rw [List.length_map]; exact Nat.le_trans (List.length_filter_le _ _) hmo.ln
    simp only
    omega
 have HTt := Hd (fun t (e : ofI TS pack = some t) => (hmo.tt t (ofI_mem e).1).2.1)
 have CMi := Hd (fun W (h1 : Rd Pa.vals 14 W pa pn PS) (h2 : Rd Pa.vals 14 W ta tn TS) => missing_r pa pn pc ta tn tc PS TS pack W h1 h2 (by omega) (fun t ht => by have := (hmo.tt t ht).1; omega))
 have CFi := Hd (fun W (h2 : Rd Pa.vals 14 W ta tn TS) => find_r ta tn tc TS pack W h2)
 unfold FindPost at CFi
 obtain ⟨V, hV⟩ : ∃ v, fitsR PS TS pack most cs = v := ⟨_, rfl⟩
 rw [hV]
 have HV := Hd hV
 unfold fitsR at HV
 obtain ⟨ms, hms⟩ : ∃ v, missR PS TS pack = v := ⟨_, rfl⟩
 rw [hms] at CMi HV hm1 hm0
 obtain ⟨oq, hoq⟩ : ∃ v, ofI TS pack = v := ⟨_, rfl⟩
 rw [hoq] at CFi HV HTt
 clear hM hB hp ht hc hV hms hoq hcs hmo
 go_enter Tryz.func31, Tryz.ntmps31
 go_upto_region 1 with (fail)
 generalize w.alloc (.cells #[.slice pa pn pc, .slice ta tn tc] 70) = w1 at *
 obtain ⟨M, hMe⟩ : ∃ M, w.heap.size = M := ⟨_, rfl⟩
 have HMe := Hd hMe
 rw [hMe] at HM ⊢
 clear hMe
 go_upto_region 3 with (fail)
 go_loopw [9, 10] (fun s i wr => ∃ (k : Nat) (S : Int), k ≤ pn ∧ i = .int .i64 k ∧ s = .int .i64 S ∧ S = sumIn (PS.take k) (cs.take k) pack ∧ 0 ≤ S ∧ S ≤ (k : Int) * 100000 ∧ Below w1.heap.size w1 wr) (fun _ i _ => pn - (intOf i).toNat)
 case atStart => exact ⟨0, 0, Nat.zero_le _, rfl, rfl, by simp [sumIn], Int.le_refl _, Int.le_refl _, Below.refl _ _⟩
 case round =>
  obtain ⟨k, S, hk, rfl, rfl, hS, hS0, hS1, hB⟩ := hrel
  have HS := Hd hS
  have HBr := Hd hB
  have HMr := Hd (HM.out.below' hB)
  have HCr := Hd (HC1.out.below' hB)
  clear hS hB
  by_cases hlt : k < pn
  case pos =>
   have hlt' : (k : Int) < (pn : Int) := by omega
   have m0 := HMr.out.c0
   obtain ⟨b, off, x, rfl, _, hx, c0, c1, c2, c3, c4, c5, c6, c7, c8, c9, c10, c11, c12, c13⟩ := HMr.out.rp.pa hlt
   obtain ⟨cb, cf, c, rfl, _, hc, d0, d1⟩ := HCr.out.wei hlt
   have HSt := Hd (sumIn_step pack hx hc)
   have hcb := HCs.out c (List.mem_of_getElem? hc)
   clear c0 c1 c2 c3 c4 c6 c7 c8 c9 c10 c11 c12 c13 hx hc d0
   have e1 : ((k + 1 : Nat) : Int) * 100000 = (k : Int) * 100000 + 100000 := by push_cast; omega
   have HE1 := Hd e1
   clear e1
   by_cases hin : x.inn = pack
   · have q : (x.inn == pack) = true := by simpa using hin
     have HN := Hd (show S + c.2 = sumIn (PS.take (k + 1)) (cs.take (k + 1)) pack from by rw [HSt.out, if_pos hin, HS.out])
     have gw : IntKind.i64.wrap (S + c.2) = S + c.2 := by rw [IntKind.wrap_i64]; omega
     clear hin
     go_wp2_with fail
     exact ⟨⟨k + 1, _, by omega, by go_num, rfl, HN.out, by omega, by rw [HE1.out]; omega, HBr.out⟩, by simp [intOf]; omega⟩
   · have q : (x.inn == pack) = false := by simpa using hin
     have HN := Hd (show S = sumIn (PS.take (k + 1)) (cs.take (k + 1)) pack from by rw [HSt.out, if_neg hin, Int.add_zero, HS.out])
     clear hin
     go_wp2_with fail
     exact ⟨⟨k + 1, _, by omega, by go_num, rfl, HN.out, by omega, by rw [HE1.out]; omega, HBr.out⟩, by simp [intOf]; omega⟩
  have hltg : ¬ (k : Int) < (pn : Int) := by omega
  have HSf := Hd (show sumIn PS cs pack = S from by
   have h1 := HS.out
   rw [List.take_of_length_le (by rw [HPl.out]; omega), List.take_of_length_le (by rw [HCl.out]; omega)] at h1
   exact h1.symm)
  rw [HSf.out] at HV
  have hSb : 0 ≤ S ∧ S ≤ 100000000 := by omega
  have m0 := HMr.out.c0
  have m1 := HMr.out.c1
  have C1 := Hd (CMi.out wr HMr.out.rp HMr.out.rt)
  have w1' : IntKind.i64.wrap (S + ms) = S + ms := by rw [IntKind.wrap_i64]; omega
  have w2' : IntKind.i64.wrap (ms * 100000) = ms * 100000 := by rw [IntKind.wrap_i64]; omega
  have w3' : IntKind.i64.wrap (S + ms * 100000) = S + ms * 100000 := by rw [IntKind.wrap_i64]; omega
  clear hlt hS0 hS1
  go_upto_region 8 with (go_at_call 66; refine C1.out.mono ?_; rintro e w2 ⟨rfl, hB2⟩; have m02 := cell_stays m0 hB2; have m12 := cell_stays m1 hB2)
  have C2 := Hd (CFi.out w2 (HMr.out.rt.below' hB2))
  have HB2 := Hd (HB1.out.trans ((HBr.out.trans (hB2.mono HBr.out.size)).mono HB1.out.size))
  clear hB2 m0 m1 C1
  go_upto_region 11 with (go_at_call 67; refine C2.out.mono ?_; rintro e w3 ⟨hS0, q, hq, rfl⟩)
  have hBq := al' (Below.refl w3.heap.size w3) (.cells #[.int .i64 q.id, .int .i64 q.known, .int .u8 q.kind, .int .i64 q.loss, .int .i64 q.pack, .int .i64 q.inn, .string ⟨q.mark.toArray⟩, .string ⟨q.goods.toArray⟩, .int .i64 q.low, .int .i64 q.high, .int .i64 q.pieces, .int .i64 q.owner, .int .i64 q.count, .int .i64 q.of] 42)
  have hbx := BoxG.made w3 q.vals 42
  simp only [Pa.vals] at hbx
  have HB3 := Hd (HB2.out.trans ((hS0.trans (hBq.mono hS0.size)).mono HB2.out.size))
  clear hBq hS0 C2
  generalize w3.alloc (.cells #[.int .i64 q.id, .int .i64 q.known, .int .u8 q.kind, .int .i64 q.loss, .int .i64 q.pack, .int .i64 q.inn, .string ⟨q.mark.toArray⟩, .string ⟨q.goods.toArray⟩, .int .i64 q.low, .int .i64 q.high, .int .i64 q.pieces, .int .i64 q.owner, .int .i64 q.count, .int .i64 q.of] 42) = w4 at *
  obtain ⟨Q, hQe⟩ : ∃ Q, w3.heap.size = Q := ⟨_, rfl⟩
  rw [hQe] at hbx ⊢
  clear hQe m02 m12
  obtain ⟨c0, c1, c2, c3, c4, c5, c6, c7, c8, c9, c10, c11, c12, c13⟩ := BoxG.pa (x := q) hbx
  clear hbx c0 c1 c2 c3 c4 c5 c6 c7 c10 c11 c12 c13
  cases oq with
  | none =>
    have HF := Hd (show V = decide (S + ms ≤ min most (S + ms * 100000)) from HV.out.symm)
    clear hq
    go_wp2_with fail
    go_ret
    exact ⟨by rw [HF.out] <;> rfl, HB3.out⟩
  | some t =>
    obtain rfl : t = q := hq
    have HF := Hd (show V = decide (max (S + ms) t.low ≤ min most (min (S + ms * 100000) t.high)) from HV.out.symm)
    go_wp2_with fail
    go_ret
    exact ⟨by rw [HF.out] <;> rfl, HB3.out⟩
def okC (q : Pa × (Int × Int)) : Bool := decide (q.2.1 = q.1.pack) && within q.2.2 q.1.low q.1.high
def refB (xs : List Pa) (known loss : Int) (cs : List (Int × Int)) : Bool :=
 decide (rootE xs known loss true = 0) && (decide (cs.length = (papersO xs known loss).length) && (((papersO xs known loss).zip cs).all okC && (fitsR (papersO xs known loss) (totalsO xs known loss) 0 100000000 cs && cs.all (fun c => fitsR (papersO xs known loss) (totalsO xs known loss) c.1 c.2 cs))))
theorem zip_atC : ∀ {ps : List Pa} {cs : List (Int × Int)} {k : Nat} {x : Pa} {c : Int × Int}, ps[k]? = some x → cs[k]? = some c → (ps.zip cs)[k]? = some (x, c)
 | [], _, k, x, c, h, _ => by simp at h
 | y :: r, [], k, x, c, _, h => by simp at h
 | y :: r, d :: q, 0, x, c, h1, h2 => by simp at h1 h2 ⊢; exact ⟨h1, h2⟩
 | y :: r, d :: q, k + 1, x, c, h1, h2 => by
   simp only [List.zip_cons_cons, List.getElem?_cons_succ] at h1 h2 ⊢
   exact zip_atC h1 h2
theorem all_step {α : Type} {l : List α} {k : Nat} {x : α} (f : α → Bool) (h : l[k]? = some x) : (l.take (k + 1)).all f = ((l.take k).all f && f x) := by rw [take_succ_snoc h, List.all_append]; simp
theorem all_bad {α : Type} {l : List α} {k : Nat} {x : α} (f : α → Bool) (h : l[k]? = some x) (hf : f x = false) : l.all f = false := by
 rw [Bool.eq_false_iff]
 intro e
 rw [List.all_eq_true.1 e x (List.mem_of_getElem? h)] at hf
 cases hf
set_option maxRecDepth 100000 in
set_option maxHeartbeats 8000000 in
theorem checkCompletion_r (a : Option Addr) (n cap : Nat) (xs : List Pa) (hs : ∀ x ∈ xs, x.Short) (known loss : Int) (ca : Option Addr) (cn cc : Nat) (cs : List (Int × Int)) (w : World) (h : Rd Pa.vals 14 w a n xs) (hcap : n ≤ cap) (hn : n ≤ 1000) (hc : Rd weiV 2 w ca cn cs) :
 Calls Tryz.prog 8 #[.slice a n cap, .int .i64 known, .int .i64 loss, .slice ca cn cc] w (CkPost w (refB xs known loss cs) (rootE xs known loss true)) := by
 have CR := Hd (right_r a n cap xs hs known loss 0 w h hcap (by omega))
 rw [right0_E] at CR
 unfold RightPost at CR
 have HMo := Hd (show rootE xs known loss true = 0 → ManiOk (papersO xs known loss) (totalsO xs known loss) from fun h => by
  obtain ⟨h0, _, _⟩ := rootE_zero h
  rw [(open_some (known := known) h0).1, (open_some (known := known) h0).2]
  exact mani_ok (check_good (open_check h0)).1 known loss)
 have HC := Hd hc
 obtain ⟨V, hVe⟩ : ∃ v, refB xs known loss cs = v := ⟨_, rfl⟩
 rw [hVe]
 have HV := Hd hVe
 unfold refB at HV
 obtain ⟨PS, hPS⟩ : ∃ P, papersO xs known loss = P := ⟨_, rfl⟩
 obtain ⟨TS, hTS⟩ : ∃ P, totalsO xs known loss = P := ⟨_, rfl⟩
 obtain ⟨E, hE⟩ : ∃ P, rootE xs known loss true = P := ⟨_, rfl⟩
 rw [hPS, hTS] at CR HMo HV
 rw [hE] at CR HMo HV ⊢
 clear h hc hVe hPS hTS hE
 go_enter Tryz.func8, Tryz.ntmps8
 go_upto_region 2 with (go_at_call 29; refine CR.out.mono ?_; rintro e w2 ⟨pa, pn, pc, ta, tn, tc, rfl, hS, hok⟩)
 have hM := BoxG.made w2 [.slice pa pn pc, .slice ta tn tc] 70
 have hBm := al' (Below.refl w2.heap.size w2) (.cells #[.slice pa pn pc, .slice ta tn tc] 70)
 have hB3 := hS.trans (hBm.mono hS.size)
 have HB3 := Hd hB3
 have HC3 := Hd (HC.out.below' hB3)
 have HOk := Hd (show E = 0 → pn ≤ 201 ∧ tn ≤ 201 ∧ Rd Pa.vals 14 (w2.alloc (.cells #[.slice pa pn pc, .slice ta tn tc] 70)) pa pn PS ∧ Rd Pa.vals 14 (w2.alloc (.cells #[.slice pa pn pc, .slice ta tn tc] 70)) ta tn TS from fun e => by
  obtain ⟨h1, h2, h3, h4, _, _⟩ := hok e
  exact ⟨h1, h2, h3.below' hBm, h4.below' hBm⟩)
 clear hok hS hBm CR hB3
 generalize w2.alloc (.cells #[.slice pa pn pc, .slice ta tn tc] 70) = w3 at *
 obtain ⟨M, hMe⟩ : ∃ M, w2.heap.size = M := ⟨_, rfl⟩
 rw [hMe] at hM ⊢
 clear hMe
 obtain ⟨m0, m1, _, _⟩ := pair_facts hM
 by_cases h0 : E = 0
 case neg =>
  have h1 : (E != 0) = true := by simp [h0]
  have HF := Hd (show V = false from by rw [← HV.out, decide_eq_false h0, Bool.false_and])
  clear h0 hM
  go_wp2_with fail
  exact bodyPost_ret (by simp [results, Tryz.results8, go_sem]) rfl (show CkPost w V E (.returned (.tuple #[.bool false, .int .i64 E])) w3 from ⟨by rw [HF.out], HB3.out⟩)
 case pos =>
 subst h0
 obtain ⟨hpn, htn, hrp, hrt⟩ := HOk.out rfl
 have hmo := HMo.out rfl
 have HV2 := Hd (show V = (decide (cs.length = PS.length) && ((PS.zip cs).all okC && (fitsR PS TS 0 100000000 cs && cs.all (fun c => fitsR PS TS c.1 c.2 cs)))) from by rw [← HV.out]; simp)
 have HM3 := Hd (show ManR w3 M pa pn pc ta tn tc PS TS from ⟨m0, m1, hrp, hrt⟩)
 have HPl := Hd hrp.len
 have HCl := Hd HC.out.len
 have hcl := HC.out.cap
 unfold maxLen at hcl
 clear hrp hrt hM HOk HMo HV
 by_cases hln : cn = pn
 case neg =>
  have g1 : ((cn : Int) != (pn : Int)) = true := by simp; omega
  have HF := Hd (show V = false from by rw [HV2.out, decide_eq_false (by rw [HPl.out, HCl.out]; exact hln), Bool.false_and])
  clear hln hmo
  go_wp2_with fail
  exact bodyPost_ret (by simp [results, Tryz.results8, go_sem]) rfl (show CkPost w V 0 (.returned (.tuple #[.bool false, .int .i64 0])) w3 from ⟨by rw [HF.out], HB3.out⟩)
 subst hln
 have g1 : ((cn : Int) != (cn : Int)) = false := by simp
 have HV3 := Hd (show V = ((PS.zip cs).all okC && (fitsR PS TS 0 100000000 cs && cs.all (fun c => fitsR PS TS c.1 c.2 cs))) from by rw [HV2.out, decide_eq_true (by rw [HPl.out, HCl.out]), Bool.true_and])
 have HMo2 := Hd hmo
 clear hmo HV2
 go_upto_region 7 with (fail)
 clear m0 m1
 go_loopw [12] (fun i wr => ∃ k : Nat, k ≤ cn ∧ i = .int .i64 k ∧ ((PS.zip cs).take k).all okC = true ∧ Below w3.heap.size w3 wr) (fun i _ => cn - (intOf i).toNat)
 case atStart => exact ⟨0, Nat.zero_le _, rfl, rfl, Below.refl _ _⟩
 case round =>
  obtain ⟨k, hk, rfl, hall, hB⟩ := hrel
  have HAll := Hd hall
  have HBr := Hd hB
  have HMr := Hd (HM3.out.below' hB)
  have HCr := Hd (HC3.out.below' hB)
  clear hall hB
  by_cases hlt : k < cn
  case pos =>
   have hlt' : (k : Int) < (cn : Int) := by omega
   have m0 := HMr.out.c0
   obtain ⟨pb, pf, x, rfl, _, hx, e0, e1, e2, e3, e4, e5, e6, e7, e8, e9, e10, e11, e12, e13⟩ := HMr.out.rp.pa hlt
   obtain ⟨cb, cf, c, rfl, _, hc, d0, d1⟩ := HCr.out.wei hlt
   have HZ := Hd (zip_atC hx hc)
   have HD := Hd (show wr.cell? ⟨cb, cf + k * 2, none⟩ = some (.int .i64 c.1) ∧ wr.cell? ⟨cb, cf + k * 2 + 1, none⟩ = some (.int .i64 c.2) from ⟨d0, d1⟩)
   clear hx hc d0 d1
   go_upto_region 10 with (fail)
   have hbx := BoxG.made wr x.vals 42
   have hBx := al' (Below.refl wr.heap.size wr) (.cells #[.int .i64 x.id, .int .i64 x.known, .int .u8 x.kind, .int .i64 x.loss, .int .i64 x.pack, .int .i64 x.inn, .string ⟨x.mark.toArray⟩, .string ⟨x.goods.toArray⟩, .int .i64 x.low, .int .i64 x.high, .int .i64 x.pieces, .int .i64 x.owner, .int .i64 x.count, .int .i64 x.of] 42)
   simp only [Pa.vals] at hbx
   have hd0 := cell_stays HD.out.1 hBx
   have hd1 := cell_stays HD.out.2 hBx
   have HB4 := Hd (HBr.out.trans (hBx.mono HBr.out.size))
   clear e0 e1 e2 e3 e4 e5 e6 e7 e8 e9 e10 e11 e12 e13 hBx HD m0
   generalize wr.alloc (.cells #[.int .i64 x.id, .int .i64 x.known, .int .u8 x.kind, .int .i64 x.loss, .int .i64 x.pack, .int .i64 x.inn, .string ⟨x.mark.toArray⟩, .string ⟨x.goods.toArray⟩, .int .i64 x.low, .int .i64 x.high, .int .i64 x.pieces, .int .i64 x.owner, .int .i64 x.count, .int .i64 x.of] 42) = w4 at *
   obtain ⟨X, hXe⟩ : ∃ B, wr.heap.size = B := ⟨_, rfl⟩
   rw [hXe] at hbx ⊢
   clear hXe
   obtain ⟨c0, c1, c2, c3, c4, c5, c6, c7, c8, c9, c10, c11, c12, c13⟩ := BoxG.pa (x := x) hbx
   have k4 : ∀ z : Later w4, z.w.cell? ⟨X, 4, none⟩ = some (.int .i64 x.pack) := fun z => z.cell c4
   have k8 : ∀ z : Later w4, z.w.cell? ⟨X, 8, none⟩ = some (.int .i64 x.low) := fun z => z.cell c8
   have k9 : ∀ z : Later w4, z.w.cell? ⟨X, 9, none⟩ = some (.int .i64 x.high) := fun z => z.cell c9
   have kd0 : ∀ z : Later w4, z.w.cell? ⟨cb, cf + k * 2, none⟩ = some (.int .i64 c.1) := fun z => z.cell hd0
   have kd1 : ∀ z : Later w4, z.w.cell? ⟨cb, cf + k * 2 + 1, none⟩ = some (.int .i64 c.2) := fun z => z.cell hd1
   have C1 := Hd (show ∀ z : Later w4, Calls Tryz.prog 30 #[.int .i64 c.2, .int .i64 x.low, .int .i64 x.high] z.w fun e w' => e = .returned (.bool (within c.2 x.low x.high)) ∧ Below z.w.heap.size z.w w' from fun z => (rwithin_any c.2 x.low x.high z.w).mono (by rintro e w' ⟨h1, rfl⟩; exact ⟨h1, Below.refl _ _⟩))
   obtain ⟨wb, hwb⟩ : ∃ b, within c.2 x.low x.high = b := ⟨_, rfl⟩
   rw [hwb] at C1
   have HWb := Hd hwb
   clear hbx c0 c1 c2 c3 c4 c5 c6 c7 c8 c9 c10 c11 c12 c13 hd0 hd1 hwb
   by_cases hpk : c.1 = x.pack
   case neg =>
    have q : (c.1 != x.pack) = true := by simpa using hpk
    have HF := Hd (show V = false from by rw [HV3.out, all_bad okC HZ.out (by unfold okC; rw [decide_eq_false hpk, Bool.false_and]), Bool.false_and])
    clear hpk
    refine wp_region_later (by kernel_rfl) (by kernel_rfl) ?_
    repeat (go_big_quiet_step ((go_at_call 30; exact Calls.later_of (C1.out _))))
    refine wpQuiet_nil ?_
    intro wz hw'
    obtain ⟨⟨W, hW⟩, hw2⟩ := hw'
    obtain rfl : W = wz := hw2.symm
    clear hw2 k4 k8 k9 kd0 kd1
    have hbf := HB4.out.trans (hW.mono HB4.out.size)
    go_wp2_with fail
    exact bodyPost_ret (by simp [results, Tryz.results8, go_sem]) rfl (show CkPost w V 0 (.returned (.tuple #[.bool false, .int .i64 0])) W from ⟨by rw [HF.out], HB3.out.trans (hbf.mono HB3.out.size)⟩)
   have q : (c.1 != x.pack) = false := by simpa using hpk
   have HPk := Hd hpk
   clear hpk
   cases wb with
   | false =>
     have HF := Hd (show V = false from by rw [HV3.out, all_bad okC HZ.out (by unfold okC; rw [HWb.out, Bool.and_false]), Bool.false_and])
     refine wp_region_later (by kernel_rfl) (by kernel_rfl) ?_
     repeat (go_big_quiet_step ((go_at_call 30; exact Calls.later_of (C1.out _))))
     refine wpQuiet_nil ?_
     intro wz hw'
     obtain ⟨⟨W, hW⟩, hw2⟩ := hw'
     obtain rfl : W = wz := hw2.symm
     clear hw2 k4 k8 k9 kd0 kd1
     have hbf := HB4.out.trans (hW.mono HB4.out.size)
     go_wp2_with fail
     exact bodyPost_ret (by simp [results, Tryz.results8, go_sem]) rfl (show CkPost w V 0 (.returned (.tuple #[.bool false, .int .i64 0])) W from ⟨by rw [HF.out], HB3.out.trans (hbf.mono HB3.out.size)⟩)
   | true =>
     have HN := Hd (show ((PS.zip cs).take (k + 1)).all okC = true from by rw [all_step okC HZ.out, HAll.out, Bool.true_and]; unfold okC; rw [decide_eq_true HPk.out, HWb.out]; rfl)
     refine wp_region_later (by kernel_rfl) (by kernel_rfl) ?_
     repeat (go_big_quiet_step ((go_at_call 30; exact Calls.later_of (C1.out _))))
     refine wpQuiet_nil ?_
     intro wz hw'
     obtain ⟨⟨W, hW⟩, hw2⟩ := hw'
     obtain rfl : W = wz := hw2.symm
     clear hw2 k4 k8 k9 kd0 kd1
     have HBf := Hd (HB4.out.trans (hW.mono HB4.out.size))
     clear hW
     go_wp2_with fail
     exact ⟨⟨k + 1, by omega, by go_num, HN.out, HBf.out⟩, by simp [intOf]; omega⟩
  have hltg : ¬ (k : Int) < (cn : Int) := by omega
  have hall := HAll.out
  have hlz : (PS.zip cs).length = cn := by rw [List.length_zip, HPl.out, HCl.out]; omega
  rw [List.take_of_length_le (by rw [hlz]; omega)] at hall
  have hcs : ∀ c ∈ cs, 0 ≤ c.2 ∧ c.2 ≤ 100000 := by
   intro c hc
   obtain ⟨i, hi⟩ := List.getElem?_of_mem hc
   have hil := (List.getElem?_eq_some_iff.1 hi).1
   obtain ⟨x, hx⟩ : ∃ x, PS[i]? = some x := ⟨_, List.getElem?_eq_getElem (by rw [HPl.out, ← HCl.out]; exact hil)⟩
   have h1 := List.all_eq_true.1 hall _ (List.mem_of_getElem? (zip_atC hx hi))
   unfold okC within at h1
   simp only [Bool.and_eq_true, decide_eq_true_eq] at h1
   have h2 := (HMo2.out.pp x (List.mem_of_getElem? hx)).2.2.1
   omega
  have HV4 := Hd (show V = (fitsR PS TS 0 100000000 cs && cs.all (fun c => fitsR PS TS c.1 c.2 cs)) from by rw [HV3.out, hall, Bool.true_and])
  have CFt := Hd (fun pack most W (hW : Below wr.heap.size wr W) => fits_r pa cn pc ta tn tc PS TS HMo2.out pack most ca cc cs hcs W (HMr.out.rp.below' hW) (HMr.out.rt.below' hW) (HCr.out.below' hW))
  clear hlt hall hlz hcs HAll
  obtain ⟨w5, rfl⟩ : ∃ w5 : World, w5 = wr := ⟨_, rfl⟩
  go_upto_region 13 with (fail)
  go_loopw [14] (fun i wr => ∃ (m : Nat) (p : Int), m ≤ cn + 1 ∧ p = (m : Int) - 1 ∧ i = .int .i64 p ∧ (0 < m → fitsR PS TS 0 100000000 cs = true) ∧ (cs.take (m - 1)).all (fun c => fitsR PS TS c.1 c.2 cs) = true ∧ Below w5.heap.size w5 wr) (fun i _ => (cn + 1) - (intOf i + 1).toNat)
  case atStart => exact ⟨0, -1, Nat.zero_le _, rfl, rfl, fun h => absurd h (by omega), rfl, Below.refl _ _⟩
  case round =>
   obtain ⟨m, p, hm, hp, rfl, hf0, hfa, hB⟩ := hrel
   have HF0 := Hd hf0
   have HFa := Hd hfa
   have HB := Hd hB
   have HMr2 := Hd (HMr.out.below' hB)
   have HCr2 := Hd (HCr.out.below' hB)
   have HBw := Hd (HB3.out.trans ((HBr.out.trans (hB.mono HBr.out.size)).mono HB3.out.size))
   clear hf0 hfa hB
   by_cases hlt : p < (cn : Int)
   case neg =>
    have hme : m = cn + 1 := by omega
    have HF := Hd (show V = true from by
     have h1 := HF0.out (by omega)
     have h2 := HFa.out
     rw [List.take_of_length_le (by rw [HCl.out]; omega)] at h2
     rw [HV4.out, h1, h2]; rfl)
    clear hp hme
    go_wp2_with fail
    exact bodyPost_ret (by simp [results, Tryz.results8, go_sem]) rfl (show CkPost w V 0 (.returned (.tuple #[.bool true, .int .i64 0])) wr from ⟨by rw [HF.out], HBw.out⟩)
   have m0 := HMr2.out.c0
   have m1 := HMr2.out.c1
   cases m with
   | zero =>
     have g0 : ¬ (0 : Int) ≤ p := by omega
     have gp : p + 1 = 0 := by omega
     have gw : IntKind.i64.wrap (p + 1) = p + 1 := by rw [IntKind.wrap_i64]; omega
     have C1 := Hd (CFt.out 0 100000000 wr HB.out)
     obtain ⟨fb, hfb⟩ : ∃ b, fitsR PS TS 0 100000000 cs = b := ⟨_, rfl⟩
     rw [hfb] at C1
     have HFb := Hd hfb
     have HP := Hd gp
     clear hp hfb gp
     cases fb with
     | false =>
       have HF := Hd (show V = false from by rw [HV4.out, HFb.out, Bool.false_and])
       go_wp2_with (go_at_call 31; refine C1.out.mono ?_; rintro e w6 ⟨rfl, hB6⟩)
       exact bodyPost_ret (by simp [results, Tryz.results8, go_sem]) rfl (show CkPost w V 0 (.returned (.tuple #[.bool false, .int .i64 0])) w6 from ⟨by rw [HF.out], HBw.out.trans (hB6.mono HBw.out.size)⟩)
     | true =>
       go_wp2_with (go_at_call 31; refine C1.out.mono ?_; rintro e w6 ⟨rfl, hB6⟩)
       exact ⟨⟨1, p + 1, by omega, by have := HP.out; omega, rfl, fun _ => HFb.out, rfl, HB.out.trans (hB6.mono HB.out.size)⟩, by have := HP.out; simp [intOf]; omega⟩
   | succ q =>
     obtain rfl : p = (q : Int) := by omega
     have hqc : q < cn := by omega
     have g0 : (0 : Int) ≤ (q : Int) := by omega
     obtain ⟨cb, cf, c, rfl, _, hc, d0, d1⟩ := HCr2.out.wei hqc
     have C1 := Hd (CFt.out c.1 c.2 wr HB.out)
     obtain ⟨fb, hfb⟩ : ∃ b, fitsR PS TS c.1 c.2 cs = b := ⟨_, rfl⟩
     rw [hfb] at C1
     have HFb := Hd hfb
     have Hc := Hd hc
     clear hp hfb hc
     cases fb with
     | false =>
       have HF := Hd (show V = false from by rw [HV4.out, all_bad (fun c => fitsR PS TS c.1 c.2 cs) Hc.out HFb.out, Bool.and_false])
       go_wp2_with (go_at_call 31; refine C1.out.mono ?_; rintro e w6 ⟨rfl, hB6⟩)
       exact bodyPost_ret (by simp [results, Tryz.results8, go_sem]) rfl (show CkPost w V 0 (.returned (.tuple #[.bool false, .int .i64 0])) w6 from ⟨by rw [HF.out], HBw.out.trans (hB6.mono HBw.out.size)⟩)
     | true =>
       have HN := Hd (show (cs.take (q + 1)).all (fun c => fitsR PS TS c.1 c.2 cs) = true from by
        have h1 := HFa.out
        rw [all_step (fun c => fitsR PS TS c.1 c.2 cs) Hc.out]
        simp only [Nat.add_sub_cancel] at h1
        rw [h1, HFb.out]; rfl)
       go_wp2_with (go_at_call 31; refine C1.out.mono ?_; rintro e w6 ⟨rfl, hB6⟩)
       exact ⟨⟨q + 2, (q : Int) + 1, by omega, by omega, by go_num, fun _ => HF0.out (by omega), HN.out, HB.out.trans (hB6.mono HB.out.size)⟩, by simp [intOf]; omega⟩
theorem sumIn_is (given : Int → Int) (p : Int) : ∀ (ps : List Pa) (cs : List (Int × Int)), cs.map (·.1) = ps.map (·.pack) → (∀ c ∈ cs, given c.1 = c.2) → sumIn ps cs p = ((insideI ps p).map given).sum
 | [], [], _, _ => rfl
 | [], c :: q, h, _ => by simp at h
 | x :: r, [], h, _ => by simp at h
 | x :: r, c :: q, h, hg => by
   rw [List.map_cons, List.map_cons, List.cons.injEq] at h
   have ih := sumIn_is given p r q h.2 (fun d hd => hg d (List.mem_cons_of_mem _ hd))
   have hc := hg c (by simp)
   unfold insideI at ih ⊢
   simp only [sumIn, ih]
   by_cases e : x.inn = p
   · rw [if_pos e, List.filter_cons, if_pos (by simpa using e), List.map_cons, List.map_cons, List.sum_cons, ← h.1, hc]
   · rw [if_neg e, List.filter_cons, if_neg (by simpa using e)]; omega
theorem sumIn_bd (p : Int) : ∀ (ps : List Pa) (cs : List (Int × Int)), (∀ c ∈ cs, 0 ≤ c.2 ∧ c.2 ≤ 100000) → 0 ≤ sumIn ps cs p ∧ sumIn ps cs p ≤ (ps.length : Int) * 100000
 | [], cs, _ => by cases cs <;> simp [sumIn]
 | x :: r, [], _ => by simp [sumIn]; omega
 | x :: r, c :: q, h => by
   have ih := sumIn_bd p r q (fun d hd => h d (List.mem_cons_of_mem _ hd))
   have hc := h c (by simp)
   simp only [sumIn, List.length_cons]
   have : ((r.length + 1 : Nat) : Int) * 100000 = (r.length : Int) * 100000 + 100000 := by push_cast; omega
   split <;> omega
theorem fit_is {ps ts : List Pa} (hmo : ManiOk ps ts) {t : Tr} (hg : Grown ps ts (fun _ => true) t) {cs : List (Int × Int)} (hA : cs.map (·.1) = ps.map (·.pack)) (hG : ∀ c ∈ cs, givM (compM cs) c.1 = c.2) (hW : ∀ c ∈ cs, 0 ≤ c.2 ∧ c.2 ≤ 100000) (w m : Int) (hm : m = w ∨ (100000000 ≤ m ∧ 100000000 ≤ w)) :
 fitN (givM (compM cs)) t w ↔ fitsR ps ts t.f.pack m cs = true := by
 have h1 : givenL (givM (compM cs)) t.ks = sumIn ps cs t.f.pack := by
  rw [givenL_sum, hg.pk, sumIn_is (givM (compM cs)) t.f.pack ps cs hA hG]
 obtain ⟨b0, b1⟩ := sumIn_bd t.f.pack ps cs hW
 have hl := hmo.ln
 have hms := hg.miss
 have hmh := missR_hi hmo t.f.pack
 have hsu := hg.sums
 unfold fitN fitsR
 rw [h1, hms.1]
 rw [hms.1] at hms
 obtain ⟨S, hS⟩ : ∃ v, sumIn ps cs t.f.pack = v := ⟨_, rfl⟩
 obtain ⟨M, hM⟩ : ∃ v, missR ps ts t.f.pack = v := ⟨_, rfl⟩
 rw [hS] at b0 b1 ⊢
 rw [hM] at hms hmh ⊢
 have b2 : S ≤ 20100000 := by omega
 cases e : ofI ts t.f.pack with
 | none =>
   rw [e] at hsu
   simp only [sumsOf, Prod.mk.injEq] at hsu
   rw [hsu.1, hsu.2]
   simp only [decide_eq_true_eq]
   omega
 | some y =>
   rw [e] at hsu
   have hb := (hmo.tt y (ofI_mem e).1).2.1
   simp only [sumsOf, if_true, Prod.mk.injEq] at hsu
   rw [hsu.1, hsu.2]
   simp only [decide_eq_true_eq]
   omega
theorem comp_is (xs : List Pa) (known loss : Int) (cs : List (Int × Int)) : compB xs known loss cs = refB xs known loss cs := by
 unfold compB refB
 by_cases hr : rootE xs known loss true = 0
 case neg => rw [decide_eq_false hr, Bool.false_and, Bool.false_and]
 rw [decide_eq_true hr, Bool.true_and, Bool.true_and]
 obtain ⟨h0, _, t, ht⟩ := rootE_zero hr
 obtain ⟨p1, p2⟩ := open_some (known := known) h0
 have hmo := mani_ok (check_good (open_check h0)).1 known loss
 have ht' : treeT (papersL xs known loss) (totalsL xs known loss) (fun _ => true) = some t := ht
 rw [p1, p2, ht]
 simp only
 generalize papersL xs known loss = PS at *
 generalize totalsL xs known loss = TS at *
 obtain ⟨hg, hgp, _, _⟩ := tree_grown ht'
 by_cases hA : cs.map (·.1) = PS.map (·.pack)
 case neg =>
  rw [decide_eq_false hA, Bool.false_and]
  symm
  rw [Bool.eq_false_iff]
  intro hq
  simp only [Bool.and_eq_true, decide_eq_true_eq] at hq
  refine hA (List.ext_getElem? fun i => ?_)
  rw [List.getElem?_map, List.getElem?_map]
  cases hx : PS[i]? with
  | none =>
    have h1 := List.getElem?_eq_none_iff.1 hx
    rw [List.getElem?_eq_none (by rw [hq.1]; exact h1)]; rfl
  | some x =>
    have h1 := (List.getElem?_eq_some_iff.1 hx).1
    obtain ⟨c, hc⟩ : ∃ c, cs[i]? = some c := ⟨_, List.getElem?_eq_getElem (by rw [hq.1]; exact h1)⟩
    have h2 := List.all_eq_true.1 hq.2.1 _ (List.mem_of_getElem? (zip_atC hx hc))
    unfold okC at h2
    simp only [Bool.and_eq_true, decide_eq_true_eq] at h2
    rw [hc]
    simp [h2.1]
 rw [decide_eq_true hA, Bool.true_and]
 have hlen : cs.length = PS.length := by have := congrArg List.length hA; simpa using this
 rw [decide_eq_true hlen, Bool.true_and]
 have hnd : (cs.map (·.1)).Nodup := by rw [hA]; exact hmo.packs.nodup
 have hG := giv_of hnd
 have hat : ∀ (i : Nat) (x : Pa), PS[i]? = some x → ∃ c, cs[i]? = some c ∧ c.1 = x.pack ∧ givM (compM cs) x.pack = c.2 := by
  intro i x hx
  have h1 := (List.getElem?_eq_some_iff.1 hx).1
  obtain ⟨c, hc⟩ : ∃ c, cs[i]? = some c := ⟨_, List.getElem?_eq_getElem (by rw [hlen]; exact h1)⟩
  have h2 : (cs.map (·.1))[i]? = (PS.map (·.pack))[i]? := by rw [hA]
  rw [List.getElem?_map, List.getElem?_map, hx, hc] at h2
  have h3 : c.1 = x.pack := Option.some.inj h2
  exact ⟨c, hc, h3, by rw [← h3]; exact hG c (List.mem_of_getElem? hc)⟩
 have hown : ∀ k ∈ t.pre, ∀ x ∈ PS, x.pack = k.f.pack → k.f.ownL = x.low ∧ k.f.ownH = x.high := by
  intro k hk x hx e
  have h1 := (grown_pre t hg k hk).2
  have hf : ofI PS k.f.pack = some x := by rw [← e]; exact hmo.packs.find hx
  rw [hf] at h1
  simp only [Option.getD_some, ownOf, if_true, Prod.mk.injEq] at h1
  exact h1
 have hback : ∀ x ∈ PS, ∃ k ∈ t.pre, k.f.pack = x.pack := by
  intro x hx
  have h1 := tree_has hmo.packs ht' (pack := x.pack) (by
   have : ofI PS x.pack = some x := hmo.packs.find hx
   rw [this]; rfl)
  obtain ⟨k, h2, h3⟩ := List.mem_map.1 h1
  exact ⟨k, h2, h3⟩
 rw [Bool.eq_iff_iff, holds_iff]
 simp only [Bool.and_eq_true]
 have hWr : (∀ k ∈ t.pre, k.f.ownL ≤ givM (compM cs) k.f.pack ∧ givM (compM cs) k.f.pack ≤ k.f.ownH) ↔ (PS.zip cs).all okC = true := by
  rw [List.all_eq_true]
  constructor
  · intro h q hq
    obtain ⟨i, hi⟩ := List.getElem?_of_mem hq
    rw [List.getElem?_zip_eq_some] at hi
    obtain ⟨c, hc, h1, h2⟩ := hat i q.1 hi.1
    obtain rfl : q.2 = c := Option.some.inj (hi.2.symm.trans hc)
    obtain ⟨k, hk, hkp⟩ := hback q.1 (List.mem_of_getElem? hi.1)
    have h3 := h k hk
    have h4 := hown k hk q.1 (List.mem_of_getElem? hi.1) hkp.symm
    rw [hkp, h2, h4.1, h4.2] at h3
    unfold okC within
    rw [decide_eq_true h1, decide_eq_true h3]
    rfl
  · intro h k hk
    obtain ⟨x, hx, hxp⟩ := pre_in hmo ht' k hk
    obtain ⟨i, hi⟩ := List.getElem?_of_mem hx
    obtain ⟨c, hc, h1, h2⟩ := hat i x hi
    have h3 := h (x, c) (List.mem_of_getElem? (zip_atC hi hc))
    unfold okC within at h3
    simp only [Bool.and_eq_true, decide_eq_true_eq] at h3
    have h4 := hown k hk x hx hxp
    rw [h4.1, h4.2, ← hxp, h2]
    exact h3.2
 by_cases hW : (PS.zip cs).all okC = true
 case neg =>
  constructor
  · rintro ⟨_, h⟩
    exact absurd (hWr.1 (fun k hk => (h k hk).1)) hW
  · rintro ⟨h, _⟩
    exact absurd h hW
 have hcs : ∀ c ∈ cs, 0 ≤ c.2 ∧ c.2 ≤ 100000 := by
  intro c hc
  obtain ⟨i, hi⟩ := List.getElem?_of_mem hc
  have hil := (List.getElem?_eq_some_iff.1 hi).1
  obtain ⟨x, hx⟩ : ∃ x, PS[i]? = some x := ⟨_, List.getElem?_eq_getElem (by rw [← hlen]; exact hil)⟩
  have h1 := List.all_eq_true.1 hW _ (List.mem_of_getElem? (zip_atC hx hi))
  unfold okC within at h1
  simp only [Bool.and_eq_true, decide_eq_true_eq] at h1
  have h2 := (hmo.pp x (List.mem_of_getElem? hx)).2.2.1
  omega
 have hroot := fit_is hmo hg hA hG hcs 1099511627776 100000000 (.inr ⟨by decide, by decide⟩)
 rw [hgp] at hroot
 have hkid : (∀ k ∈ t.pre, fitN (givM (compM cs)) k (givM (compM cs) k.f.pack)) ↔ cs.all (fun c => fitsR PS TS c.1 c.2 cs) = true := by
  rw [List.all_eq_true]
  constructor
  · intro h c hc
    obtain ⟨i, hi⟩ := List.getElem?_of_mem hc
    have hil := (List.getElem?_eq_some_iff.1 hi).1
    obtain ⟨x, hx⟩ : ∃ x, PS[i]? = some x := ⟨_, List.getElem?_eq_getElem (by rw [← hlen]; exact hil)⟩
    obtain ⟨c', hc', h1, h2⟩ := hat i x hx
    obtain rfl : c = c' := Option.some.inj (hi.symm.trans hc')
    obtain ⟨k, hk, hkp⟩ := hback x (List.mem_of_getElem? hx)
    have h3 := (fit_is hmo (grown_pre t hg k hk).1 hA hG hcs _ _ (.inl rfl)).1 (h k hk)
    rw [hkp, h2, ← h1] at h3
    exact h3
  · intro h k hk
    obtain ⟨x, hx, hxp⟩ := pre_in hmo ht' k hk
    obtain ⟨i, hi⟩ := List.getElem?_of_mem hx
    obtain ⟨c, hc, h1, h2⟩ := hat i x hi
    refine (fit_is hmo (grown_pre t hg k hk).1 hA hG hcs _ _ (.inl rfl)).2 ?_
    rw [← hxp, h2, ← h1]
    exact h c (List.mem_of_getElem? hc)
 rw [← hWr, ← hkid, ← hroot]
 constructor
 · rintro ⟨h1, h2⟩
   exact ⟨fun k hk => (h2 k hk).1, h1, fun k hk => (h2 k hk).2⟩
 · rintro ⟨h1, h2, h3⟩
   exact ⟨h2, fun k hk => ⟨h1 k hk, h3 k hk⟩⟩
end Go.Proofs.YtehplmeckfinoaaGreatDoor
