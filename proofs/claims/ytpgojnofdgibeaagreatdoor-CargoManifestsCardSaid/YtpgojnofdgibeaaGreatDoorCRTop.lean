/- The walks of the reference's Path, Missing, Leaves. -/
import Derived.Test.YtpgojnofdgibeaaGreatDoorCROf
set_option linter.unusedSimpArgs false
set_option linter.unusedVariables false
namespace Go.Proofs.YtpgojnofdgibeaaGreatDoor
open Go.RowKit Go.Shelf

def treeE (e : Int) (PS TS : List Pa) : Int := if e = 0 then (if treeRB PS TS then 0 else 11) else e
def pathRV (l : List Pa) (known loss pack : Int) : List Int :=
  if treeE (paperE l known loss pack) (papersO l known loss) (totalsO l known loss) = 0 then (wayR (papersO l known loss) 201 pack []).getD [] else []
def PathRPost (w : World) (L : List Int) (E : Int) (e : Ending) (w' : World) : Prop :=
  ∃ a n c, e = .returned (.tuple #[.slice a n c, .int .i64 E]) ∧ Rd ints 1 w' a n L ∧ Below w.heap.size w w'
theorem counts_ok {l : List Pa} {known loss : Int} : ∀ t ∈ totalsO l known loss, 0 ≤ t.count ∧ t.count ≤ 1000 := by
  intro t ht
  have := (papersO_ok (l := l) (known := known) (loss := loss)).tt t ht
  omega
set_option maxRecDepth 100000 in
set_option maxHeartbeats 8000000 in
theorem paths_r (a : Option Addr) (n cap : Nat) (xs : List Pa) (hs : ∀ x ∈ xs, x.Short) (known loss : Int) (pack : Int) (w : World) (h : Rd Pa.vals 14 w a n xs) (hcap : n ≤ cap) (hn : n ≤ 100000) :
    Calls Tryz.prog 27 #[.slice a n cap, .int .i64 known, .int .i64 loss, .int .i64 pack] w (PathRPost w (pathRV xs known loss pack) (treeE (paperE xs known loss pack) (papersO xs known loss) (totalsO xs known loss))) := by
  have CP := Lib.hid (paperOf_r a n cap xs hs known loss pack w h hcap hn)
  have CO := Lib.hid (fun W (hW : Below w.heap.size w W) => of_r a n cap xs hs known loss W (h.below' hW) hcap hn)
  have HCt := Lib.hid (counts_ok (l := xs) (known := known) (loss := loss))
  unfold pathRV
  unfold PaperOfPost at CP
  clear h
  obtain ⟨PS, hPS⟩ : ∃ P, papersO xs known loss = P := ⟨_, rfl⟩
  obtain ⟨TS, hTS⟩ : ∃ P, totalsO xs known loss = P := ⟨_, rfl⟩
  obtain ⟨PE, hPE⟩ : ∃ P, paperE xs known loss pack = P := ⟨_, rfl⟩
  rw [hPS] at CO CP ⊢
  rw [hTS] at CO HCt ⊢
  rw [hPE] at CP ⊢
  clear hPS hTS hPE
  obtain ⟨TE, hTE⟩ : ∃ P, treeE PE PS TS = P := ⟨_, rfl⟩
  rw [hTE]
  obtain ⟨L, hL⟩ : ∃ P : List Int, (if TE = 0 then (wayR PS 201 pack []).getD [] else []) = P := ⟨_, rfl⟩
  rw [hL]
  have HTE := Lib.hid hTE
  have HL := Lib.hid hL
  clear hTE hL
  go_enter Tryz.func27, Tryz.ntmps27
  go_upto_region 2 with (go_at_call 36; refine CP.out.mono ?_; rintro e w2 ⟨hS0, q, _, rfl⟩)
  have hBq := al' (Below.refl w2.heap.size w2) (.cells #[.int .i64 q.id, .int .i64 q.known, .int .u8 q.kind, .int .i64 q.loss, .int .i64 q.pack, .int .i64 q.inn, .string ⟨q.mark.toArray⟩, .string ⟨q.goods.toArray⟩, .int .i64 q.low, .int .i64 q.high, .int .i64 q.pieces, .int .i64 q.owner, .int .i64 q.count, .int .i64 q.of] 28)
  have HBt := Lib.hid (hS0.trans (hBq.mono hS0.size))
  clear hBq hS0 CP
  generalize w2.alloc (.cells #[.int .i64 q.id, .int .i64 q.known, .int .u8 q.kind, .int .i64 q.loss, .int .i64 q.pack, .int .i64 q.inn, .string ⟨q.mark.toArray⟩, .string ⟨q.goods.toArray⟩, .int .i64 q.low, .int .i64 q.high, .int .i64 q.pieces, .int .i64 q.owner, .int .i64 q.count, .int .i64 q.of] 28) = w3 at *
  by_cases h0 : PE = 0
  case neg =>
    have h1 : (PE != 0) = true := by simp [h0]
    have HE := Lib.hid (show PE = TE ∧ ([] : List Int) = L from by
      have : PE = TE := by rw [← HTE.out]; unfold treeE; rw [if_neg h0]
      refine ⟨this, ?_⟩
      rw [← HL.out, if_neg (by rw [← this]; exact h0)])
    clear h0
    go_wp2_with fail
    go_ret2
    exact ⟨none, 0, 0, by rw [HE.out.1] <;> rfl, by rw [← HE.out.2]; exact Rd.empty _ _, HBt.out⟩
  case pos =>
    subst h0
    go_upto_region 5 with (go_at_call 71; refine (CO.out _ HBt.out).mono ?_; rintro e w4 ⟨pa, pn, pc, ta, tn, tc, rfl, hpn, htn, hrp, hrt, hB4⟩)
    have hM := ManR.box pc tc hrp hrt 90
    have hBm := al' (Below.refl w4.heap.size w4) (.cells #[.slice pa pn pc, .slice ta tn tc] 90)
    have hS4 := hB4.trans (hBm.mono hB4.size)
    have HB5 := Lib.hid (HBt.out.trans (hS4.mono HBt.out.size))
    have HM := Lib.hid hM
    clear hrp hrt hB4 hBm hM hS4
    generalize w4.alloc (.cells #[.slice pa pn pc, .slice ta tn tc] 90) = w5 at *
    obtain ⟨M, hM⟩ : ∃ M, w4.heap.size = M := ⟨_, rfl⟩
    rw [hM] at HM ⊢
    clear hM
    have m0 := HM.out.c0
    have m1 := HM.out.c1
    have CT := Lib.hid (tree_r pa pn pc ta tn tc PS TS w5 HM.out.rp HM.out.rt (by omega) (by omega) HCt.out)
    obtain ⟨tb, htb⟩ : ∃ b, treeRB PS TS = b := ⟨_, rfl⟩
    rw [htb] at CT
    have HTb := Lib.hid htb
    clear htb
    go_wp2_with fail
    refine CT.out.mono ?_
    rintro e w6 ⟨rfl, hB6⟩
    have HB6 := Lib.hid (HB5.out.trans (hB6.mono HB5.out.size))
    have HM6 := Lib.hid (HM.out.below' hB6)
    clear m0 m1 hB6 CT
    cases tb with
    | false =>
      have HE := Lib.hid (show TE = 11 ∧ ([] : List Int) = L from by
        have : TE = 11 := by rw [← HTE.out]; unfold treeE; rw [if_pos rfl, HTb.out]; rfl
        refine ⟨this, ?_⟩
        rw [← HL.out, if_neg (by rw [this]; decide)])
      go_wp2_with fail
      go_ret2
      exact ⟨none, 0, 0, by rw [HE.out.1] <;> rfl, by rw [← HE.out.2]; exact Rd.empty _ _, HB6.out⟩
    | true =>
      have HE := Lib.hid (show TE = 0 ∧ (wayR PS 201 pack []).getD [] = L from by
        have : TE = 0 := by rw [← HTE.out]; unfold treeE; rw [if_pos rfl, HTb.out]; rfl
        refine ⟨this, ?_⟩
        rw [← HL.out, if_pos this])
      have m0 := HM6.out.c0
      have m1 := HM6.out.c1
      have CW := Lib.hid (path_r pa pn pc ta tn tc PS TS pack w6 HM6.out.rp HM6.out.rt (by omega))
      unfold WayPost at CW
      rw [HE.out.2] at CW
      obtain ⟨is, his⟩ : ∃ b, (wayR PS 201 pack []).isSome = b := ⟨_, rfl⟩
      rw [his] at CW
      clear his
      go_wp2_with fail
      refine CW.out.mono ?_
      rintro e w7 ⟨ia, il, ic, rfl, hri, _, hB7⟩
      have HB7 := Lib.hid (HB6.out.trans (hB7.mono HB6.out.size))
      have HRi := Lib.hid hri
      clear hB7 hri CW m0 m1
      go_wp2_with fail
      go_ret2
      exact ⟨ia, il, ic, by rw [HE.out.1] <;> rfl, HRi.out, HB7.out⟩
def missE (l : List Pa) (known loss pack : Int) : Int := if pack = 0 then openE l loss else paperE l known loss pack
def missRV (l : List Pa) (known loss pack : Int) : Int :=
  if treeE (missE l known loss pack) (papersO l known loss) (totalsO l known loss) = 0 then missR (papersO l known loss) (totalsO l known loss) pack else 0
theorem paperE_bad {l : List Pa} {known loss pack : Int} (h : ¬ openE l loss = 0) : paperE l known loss pack = openE l loss := by unfold paperE; rw [if_neg h]
set_option maxRecDepth 100000 in
set_option maxHeartbeats 8000000 in
theorem missings_r (a : Option Addr) (n cap : Nat) (xs : List Pa) (hs : ∀ x ∈ xs, x.Short) (known loss : Int) (pack : Int) (w : World) (h : Rd Pa.vals 14 w a n xs) (hcap : n ≤ cap) (hn : n ≤ 100000) :
    Calls Tryz.prog 29 #[.slice a n cap, .int .i64 known, .int .i64 loss, .int .i64 pack] w fun e w' => e = .returned (.tuple #[.int .i64 (missRV xs known loss pack), .int .i64 (treeE (missE xs known loss pack) (papersO xs known loss) (totalsO xs known loss))]) ∧ Below w.heap.size w w' := by
  have CA := Lib.hid (asked_any a n cap xs hs loss w h hcap)
  have CP := Lib.hid (fun W (hW : Below w.heap.size w W) => paperOf_r a n cap xs hs known loss pack W (h.below' hW) hcap hn)
  have CO := Lib.hid (fun W (hW : Below w.heap.size w W) => of_r a n cap xs hs known loss W (h.below' hW) hcap hn)
  have HCt := Lib.hid (counts_ok (l := xs) (known := known) (loss := loss))
  have hpb := paperE_bad (l := xs) (known := known) (loss := loss) (pack := pack)
  unfold missRV missE
  unfold PaperOfPost at CP
  clear h
  obtain ⟨PS, hPS⟩ : ∃ P, papersO xs known loss = P := ⟨_, rfl⟩
  obtain ⟨TS, hTS⟩ : ∃ P, totalsO xs known loss = P := ⟨_, rfl⟩
  obtain ⟨PE, hPE⟩ : ∃ P, paperE xs known loss pack = P := ⟨_, rfl⟩
  obtain ⟨OE, hOE⟩ : ∃ P, openE xs loss = P := ⟨_, rfl⟩
  rw [hPS] at CO CP ⊢
  rw [hTS] at CO HCt ⊢
  rw [hPE] at CP hpb ⊢
  rw [hOE] at CA hpb ⊢
  clear hPS hTS hPE hOE
  obtain ⟨TE, hTE⟩ : ∃ P, treeE (if pack = 0 then OE else PE) PS TS = P := ⟨_, rfl⟩
  rw [hTE]
  obtain ⟨MV, hMV⟩ : ∃ P : Int, (if TE = 0 then missR PS TS pack else 0) = P := ⟨_, rfl⟩
  rw [hMV]
  have HVB : Hid (∀ E, (if pack = 0 then OE else PE) = E → ¬ E = 0 → TE = E ∧ MV = 0) := Lib.hid (fun E h1 h2 => by
    have : TE = E := by rw [← hTE, h1]; unfold treeE; rw [if_neg h2]
    exact ⟨this, by rw [← hMV, if_neg (by rw [this]; exact h2)]⟩)
  have HVF1 : Hid ((if pack = 0 then OE else PE) = 0 → treeRB PS TS = false → MV = 0 ∧ TE = 11) := Lib.hid (fun h1 h2 => by
    have : TE = 11 := by rw [← hTE, h1]; unfold treeE; rw [if_pos rfl, h2]; rfl
    exact ⟨by rw [← hMV, if_neg (by rw [this]; decide)], this⟩)
  have HVT1 : Hid ((if pack = 0 then OE else PE) = 0 → treeRB PS TS = true → MV = missR PS TS pack ∧ TE = 0) := Lib.hid (fun h1 h2 => by
    have : TE = 0 := by rw [← hTE, h1]; unfold treeE; rw [if_pos rfl, h2]; rfl
    exact ⟨by rw [← hMV, if_pos this], this⟩)
  have HPb := Lib.hid hpb
  clear hTE hMV hpb
  go_enter Tryz.func29, Tryz.ntmps29
  go_wp2_with fail
  refine CA.out.mono ?_
  rintro e w2 ⟨rfl, hB2⟩
  have HB2 := Lib.hid hB2
  clear hB2 CA
  by_cases h0 : OE = 0
  case neg =>
    have h1 : (OE == 0) = false := by simp [h0]
    have h2 : (OE != 0) = true := by simp [h0]
    have HV := Lib.hid (HVB.out OE (by split <;> first | rfl | exact HPb.out h0) h0)
    clear h0
    go_wp2_with fail
    go_ret2
    exact ⟨by rw [HV.out.1, HV.out.2] <;> rfl, HB2.out⟩
  case pos =>
    subst h0
    by_cases hp : pack = 0
    · have hp1 : (pack != 0) = false := by simp [hp]
      have HVF := Lib.hid (HVF1.out (by rw [if_pos hp]))
      have HVT := Lib.hid (HVT1.out (by rw [if_pos hp]))
      have HBt := HB2
      clear hp
      go_upto_region 7 with (go_at_call 71; refine (CO.out _ HBt.out).mono ?_; rintro e w4 ⟨pa, pn, pc, ta, tn, tc, rfl, hpn, htn, hrp, hrt, hB4⟩)
      have hM := ManR.box pc tc hrp hrt 90
      have hBm := al' (Below.refl w4.heap.size w4) (.cells #[.slice pa pn pc, .slice ta tn tc] 90)
      have hS4 := hB4.trans (hBm.mono hB4.size)
      have HB5 := Lib.hid (HBt.out.trans (hS4.mono HBt.out.size))
      have HM := Lib.hid hM
      clear hrp hrt hB4 hBm hM hS4
      generalize w4.alloc (.cells #[.slice pa pn pc, .slice ta tn tc] 90) = w5 at *
      obtain ⟨M, hM⟩ : ∃ M, w4.heap.size = M := ⟨_, rfl⟩
      rw [hM] at HM ⊢
      clear hM
      have m0 := HM.out.c0
      have m1 := HM.out.c1
      have CT := Lib.hid (tree_r pa pn pc ta tn tc PS TS w5 HM.out.rp HM.out.rt (by omega) (by omega) HCt.out)
      obtain ⟨tb, htb⟩ : ∃ b, treeRB PS TS = b := ⟨_, rfl⟩
      rw [htb] at CT
      have HTb := Lib.hid htb
      clear htb
      go_wp2_with fail
      refine CT.out.mono ?_
      rintro e w6 ⟨rfl, hB6⟩
      have HB6 := Lib.hid (HB5.out.trans (hB6.mono HB5.out.size))
      have HM6 := Lib.hid (HM.out.below' hB6)
      clear m0 m1 hB6 CT

      cases tb with
      | false =>
        have HV := Lib.hid (HVF.out HTb.out)
        go_wp2_with fail
        go_ret2
        exact ⟨by rw [HV.out.1, HV.out.2] <;> rfl, HB6.out⟩
      | true =>
        have HV := Lib.hid (HVT.out HTb.out)
        have m0 := HM6.out.c0
        have m1 := HM6.out.c1
        have CM := Lib.hid (missing_r pa pn pc ta tn tc PS TS pack w6 HM6.out.rp HM6.out.rt (by omega) HCt.out)
        obtain ⟨mv, hmv⟩ : ∃ b, missR PS TS pack = b := ⟨_, rfl⟩
        rw [hmv] at CM
        have HMv := Lib.hid hmv
        clear hmv
        go_wp2_with fail
        refine CM.out.mono ?_
        rintro e w7 ⟨rfl, hB7⟩
        have HB7 := Lib.hid (HB6.out.trans (hB7.mono HB6.out.size))
        clear hB7 CM m0 m1
        go_wp2_with fail
        go_ret2
        exact ⟨by rw [HV.out.1, HV.out.2, HMv.out] <;> rfl, HB7.out⟩
    · have hp1 : (pack != 0) = true := by simp [hp]
      have Hp := Lib.hid hp
      clear hp
      go_wp2_with fail
      refine (CP.out _ HB2.out).mono ?_
      rintro e w3 ⟨hS0, q, _, rfl⟩
      have HBt := Lib.hid (HB2.out.trans (hS0.mono HB2.out.size))
      clear hS0 CP
      by_cases h0 : PE = 0
      case neg =>
        have h1 : (PE != 0) = true := by simp [h0]
        have HV := Lib.hid (HVB.out PE (by rw [if_neg Hp.out]) h0)
        clear h0
        go_wp2_with fail
        go_ret2
        exact ⟨by rw [HV.out.1, HV.out.2] <;> rfl, HBt.out⟩
      case pos =>
        subst h0
        have HVF := Lib.hid (HVF1.out (by rw [if_neg Hp.out]))
        have HVT := Lib.hid (HVT1.out (by rw [if_neg Hp.out]))
        go_upto_region 7 with (go_at_call 71; refine (CO.out _ HBt.out).mono ?_; rintro e w4 ⟨pa, pn, pc, ta, tn, tc, rfl, hpn, htn, hrp, hrt, hB4⟩)
        have hM := ManR.box pc tc hrp hrt 90
        have hBm := al' (Below.refl w4.heap.size w4) (.cells #[.slice pa pn pc, .slice ta tn tc] 90)
        have hS4 := hB4.trans (hBm.mono hB4.size)
        have HB5 := Lib.hid (HBt.out.trans (hS4.mono HBt.out.size))
        have HM := Lib.hid hM
        clear hrp hrt hB4 hBm hM hS4
        generalize w4.alloc (.cells #[.slice pa pn pc, .slice ta tn tc] 90) = w5 at *
        obtain ⟨M, hM⟩ : ∃ M, w4.heap.size = M := ⟨_, rfl⟩
        rw [hM] at HM ⊢
        clear hM
        have m0 := HM.out.c0
        have m1 := HM.out.c1
        have CT := Lib.hid (tree_r pa pn pc ta tn tc PS TS w5 HM.out.rp HM.out.rt (by omega) (by omega) HCt.out)
        obtain ⟨tb, htb⟩ : ∃ b, treeRB PS TS = b := ⟨_, rfl⟩
        rw [htb] at CT
        have HTb := Lib.hid htb
        clear htb
        go_wp2_with fail
        refine CT.out.mono ?_
        rintro e w6 ⟨rfl, hB6⟩
        have HB6 := Lib.hid (HB5.out.trans (hB6.mono HB5.out.size))
        have HM6 := Lib.hid (HM.out.below' hB6)
        clear m0 m1 hB6 CT

        cases tb with
        | false =>
          have HV := Lib.hid (HVF.out HTb.out)
          go_wp2_with fail
          go_ret2
          exact ⟨by rw [HV.out.1, HV.out.2] <;> rfl, HB6.out⟩
        | true =>
          have HV := Lib.hid (HVT.out HTb.out)
          have m0 := HM6.out.c0
          have m1 := HM6.out.c1
          have CM := Lib.hid (missing_r pa pn pc ta tn tc PS TS pack w6 HM6.out.rp HM6.out.rt (by omega) HCt.out)
          obtain ⟨mv, hmv⟩ : ∃ b, missR PS TS pack = b := ⟨_, rfl⟩
          rw [hmv] at CM
          have HMv := Lib.hid hmv
          clear hmv
          go_wp2_with fail
          refine CM.out.mono ?_
          rintro e w7 ⟨rfl, hB7⟩
          have HB7 := Lib.hid (HB6.out.trans (hB7.mono HB6.out.size))
          clear hB7 CM m0 m1
          go_wp2_with fail
          go_ret2
          exact ⟨by rw [HV.out.1, HV.out.2, HMv.out] <;> rfl, HB7.out⟩

end Go.Proofs.YtpgojnofdgibeaaGreatDoor
