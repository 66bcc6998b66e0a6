/- The walk of Weigh. -/
import Derived.Test.YtehplmeckfinoaaGreatDoorCThere
set_option linter.unusedSimpArgs false
set_option linter.unusedVariables false
namespace Go.Proofs.YtehplmeckfinoaaGreatDoor
open Go.RowKit Go.Shelf
def weighV (xs : List Pa) (known loss pack : Int) : Int × Int := if weighE xs known loss (hasP xs known loss pack) = 0 then weighP xs known loss pack else (0, 0)
theorem weigh_at {w' : World} {n1 : Nat} {pa ta tp : Option Addr} {xs : List Pa} {known loss pack : Int} (h : WeighAt w' n1 pa ta tp ((rootT xs known loss).bind solveT)) (h0 : weighE xs known loss (hasP xs known loss pack) = 0) :
 ∃ t k a n cap, tp = some ⟨t.b, 0, none⟩ ∧ TreeAt t.bs w' t ∧ Bd t ∧ findT t pack = some k ∧ NodeAt w' k.b k.f a n cap ∧ weighP xs known loss pack = (k.f.endL, k.f.endH) := by
 obtain ⟨t, ht, htp, hta, htn, htb, htf, hpa, hta2⟩ := h
 obtain ⟨ho, hh⟩ := root_open (weigh_root h0)
 have hm := weigh_find ho hh ht
 rw [pre_packs_sh] at hm
 obtain ⟨k, hk, hkm, hkp⟩ := find_of_pack hm
 obtain ⟨a, cap, hn, _, _⟩ := (hta.preMem k hkm).at
 refine ⟨t, k, a, _, cap, htp, hta, htb, hk, hn, ?_⟩
 unfold weighP
 rw [ht]
 simp only [findT_sh, hk, Option.map_some, nodeF, sh_f]
theorem root_at {w' : World} {n1 : Nat} {pa ta tp : Option Addr} {xs : List Pa} {known loss pack : Int} (h : RootAt w' n1 pa ta tp (rootT xs known loss)) (ho : openE xs loss = 0) (hh : hasP xs known loss pack = true) :
 ∃ t k a n cap, tp = some ⟨t.b, 0, none⟩ ∧ TreeAt t.bs w' t ∧ Bd t ∧ findT t pack = some k ∧ NodeAt w' k.b k.f a n cap ∧ rootT xs known loss = some t.sh := by
 obtain ⟨t, ht, htp, hta, htn, htb, htf, hpa, hta2⟩ := h
 have hm := root_find ho hh ht
 rw [pre_packs_sh] at hm
 obtain ⟨k, hk, hkm, hkp⟩ := find_of_pack hm
 have hta' := hta [] (by simp)
 obtain ⟨a, cap, hn, _, _⟩ := (hta'.preMem k hkm).at
 exact ⟨t, k, a, _, cap, htp, hta', htb, hk, hn, ht⟩
theorem NodeAt.below' {w w' : World} {b : Nat} {f : Nf} {a : Option Addr} {n cap : Nat} (h : NodeAt w b f a n cap) (hB : Below w.heap.size w w') : NodeAt w' b f a n cap := h.keeps (S := []) (Keeps.of_below hB) (by simp)
def WeighedPost (w : World) (xs : List Pa) (known loss pack : Int) (e : Ending) (w' : World) : Prop :=
 e = .returned (.tuple #[.agg #[.int .i64 (weighV xs known loss pack).1, .int .i64 (weighV xs known loss pack).2], .int .i64 (weighE xs known loss (hasP xs known loss pack))]) ∧ Below w.heap.size w w'
set_option maxRecDepth 100000 in
set_option maxHeartbeats 4000000 in
theorem weigh_any (a : Option Addr) (n cap : Nat) (xs : List Pa) (hsh : ∀ x ∈ xs, x.Short) (known loss pack : Int) (w : World) (h : Rd Pa.vals 14 w a n xs) (hcap : n ≤ cap) :
 Calls Tryz.prog 15 #[.slice a n cap, .int .i64 known, .int .i64 loss, .int .i64 pack] w (WeighedPost w xs known loss pack) := by
 have hB0 := al' (al' (Below.refl w.heap.size w) (.cells #[.int .i64 0, .int .i64 0] 32)) (.cells #[.int .i64 pack] 3)
 have hb0 := (BoxG.made w [.int .i64 0, .int .i64 0] 32).below' (al' (Below.refl _ _) (.cells #[.int .i64 pack] 3))
 have HR := Hd (h.below' hB0)
 have hz1 : (w.alloc (.cells #[.int .i64 0, .int .i64 0] 32)).heap.size = w.heap.size + 1 := by simp
 have hsz : ((w.alloc (.cells #[.int .i64 0, .int .i64 0] 32)).alloc (.cells #[.int .i64 pack] 3)).heap.size = w.heap.size + 2 := by simp
 have hcp : ((w.alloc (.cells #[.int .i64 0, .int .i64 0] 32)).alloc (.cells #[.int .i64 pack] 3)).cell? ⟨w.heap.size + 1, 0, none⟩ = some (.int .i64 pack) := by
  have h2 := heap_alloc_new (w.alloc (.cells #[.int .i64 0, .int .i64 0] 32)) (.cells #[.int .i64 pack] 3)
  rw [hz1] at h2
  rw [cell_of_row _ _ _ _ _ (0, 0) h2]; rfl
 have CH := Hd (has_any pack (w.alloc (.cells #[.int .i64 0, .int .i64 0] 32)))
 rw [hz1] at CH
 have CW := Hd (show ∀ W, W = (w.alloc (.cells #[.int .i64 0, .int .i64 0] 32)).alloc (.cells #[.int .i64 pack] 3) → Calls Tryz.prog 32 _ W (WeighPost W xs known loss (hasP xs known loss pack)) from fun W hW => by
  subst hW
  exact weighed_any a n cap xs hsh known loss 68 #[.pointer (some ⟨w.heap.size + 1, 0, none⟩)] (fun _ _ => rfl) (hasP xs known loss pack) _ HR.out hcap (there_has hcp))
 have HF := Hd (show ∀ W, W = (w.alloc (.cells #[.int .i64 0, .int .i64 0] 32)).alloc (.cells #[.int .i64 pack] 3) → Below w.heap.size w W ∧ BoxG W w.heap.size [.int .i64 0, .int .i64 0] ∧ W.heap.size = w.heap.size + 2 from fun W hW => by subst hW; exact ⟨hB0, hb0, hsz⟩)
 clear h hcp hB0 hb0 hsz HR hz1
 go_enter Tryz.func15, Tryz.ntmps15
 go_upto_region 1 with (fail)
 generalize w.alloc (.cells #[.int .i64 0, .int .i64 0] 32) = w1 at *
 go_upto_region 2 with (first
  | (go_at_call 33; refine CH.out.mono ?_; rintro e w2 ⟨rfl, rfl⟩)
  | (go_at_call 32; refine (CW.out _ rfl).mono ?_; rintro e w3 ⟨pa, pn, pc, ta, tn, tc, tp, rfl, hrp, hrt, hB2, htree⟩))
 obtain ⟨hB0, hb0, hsz⟩ := HF.out _ rfl
 generalize w1.alloc (.cells #[.int .i64 pack] 3) = w2 at *
 have hBa := al' (Below.refl w3.heap.size w3) (.cells #[.slice pa pn pc, .slice ta tn tc] 62)
 have hbr := (hb0.below' hB2).below' hBa
 have hB3 := hB0.trans ((hB2.trans (hBa.mono hB2.size)).mono hB0.size)
 have HAt := Hd (show weighE xs known loss (hasP xs known loss pack) = 0 → ∃ t k a n cap, tp = some ⟨t.b, 0, none⟩ ∧ TreeAt t.bs (w3.alloc (.cells #[.slice pa pn pc, .slice ta tn tc] 62)) t ∧ Bd t ∧ findT t pack = some k ∧ NodeAt (w3.alloc (.cells #[.slice pa pn pc, .slice ta tn tc] 62)) k.b k.f a n cap ∧ weighP xs known loss pack = (k.f.endL, k.f.endH) from fun h0 => by
  obtain ⟨n1, _, hn1⟩ := htree h0
  obtain ⟨t, k, a, n, cap, h1, h2, h3, h4, h5, h6⟩ := weigh_at hn1 h0
  exact ⟨t, k, a, n, cap, h1, h2.below' hBa, h3, h4, h5.below' hBa, h6⟩)
 clear hrp hrt hB2 htree hb0 hB0 CW CH HF hBa
 generalize w3.alloc (.cells #[.slice pa pn pc, .slice ta tn tc] 62) = w4 at *
 have Hbr := Hd hbr
 have HB3 := Hd hB3
 obtain ⟨r0, r1, rf, rl⟩ := pair_facts hbr
 clear hbr hB3 hsz
 have HFin := Hd (show ∀ (W : World) (lo hi c : Int), Below w4.heap.size w4 W → weighE xs known loss (hasP xs known loss pack) = c → weighV xs known loss pack = (lo, hi) →
  ∃ wf, (W.setCell ⟨w.heap.size, 0, none⟩ (.int .i64 lo)).setCell ⟨w.heap.size, 1, none⟩ (.int .i64 hi) = wf ∧ wf.cell? ⟨w.heap.size, 0, none⟩ = some (.int .i64 lo) ∧ wf.cell? ⟨w.heap.size, 1, none⟩ = some (.int .i64 hi) ∧ w.heap.size < wf.heap.size ∧
   WeighedPost w xs known loss pack (.returned (.tuple #[.agg #[.int .i64 lo, .int .i64 hi], .int .i64 c])) wf from fun W lo hi c hW hc hv => by
  obtain ⟨s0, s1, sl, sk⟩ := two_set (u := .int .i64 lo) (v := .int .i64 hi) (Hbr.out.below' hW)
  refine ⟨_, rfl, s0, s1, sl, by rw [hc, hv], ?_⟩
  exact sk.below_then (HB3.out.trans (hW.mono HB3.out.size)) (fun x hx => by have := List.mem_singleton.1 hx; omega) (Nat.le_refl _))
 by_cases h0 : weighE xs known loss (hasP xs known loss pack) = 0
 case neg =>
  obtain ⟨oe, hoe⟩ : ∃ c, weighE xs known loss (hasP xs known loss pack) = c := ⟨_, rfl⟩
  have HV := Hd (show weighV xs known loss pack = (0, 0) from by unfold weighV; rw [if_neg h0])
  have HE := Hd hoe
  rw [hoe] at h0 ⊢
  have h1 : (oe != 0) = true := by simp [h0]
  clear h0 hoe HAt
  go_wp2_with fail
  obtain ⟨wf, hwf, s0, s1, sl, hp⟩ := HFin.out w4 0 0 oe (Below.refl _ _) HE.out HV.out
  rw [hwf]
  exact bodyPost_ret (by simp [results, Tryz.results15, go_sem, s0, s1, sl]) rfl hp
 obtain ⟨t, k, ka, kn, kc, rfl, ht, hbd, hk, hn, hv⟩ := HAt.out h0
 have HV := Hd (show weighV xs known loss pack = (k.f.endL, k.f.endH) from by unfold weighV; rw [if_pos h0, hv])
 have HE := Hd h0
 have CF := Hd (find_all t.bs t pack w4 ht hbd)
 rw [hk] at CF
 have HN := Hd hn
 rw [h0]
 clear h0 HAt ht hbd hk hn hv
 go_wp2_with (go_at_call 34; refine CF.out.mono ?_; rintro e w5 ⟨rfl, hB5⟩; obtain ⟨r0', r1', rf', rl'⟩ := pair_facts (Hbr.out.below' hB5); have hn5 := HN.out.below' hB5; have c23 := hn5.c23; have c24 := hn5.c24; have nl := hn5.lt; simp only [Option.map_some])
 obtain ⟨wf, hwf, s0, s1, sl, hp⟩ := HFin.out w5 k.f.endL k.f.endH 0 hB5 HE.out HV.out
 rw [hwf]
 exact bodyPost_ret (by simp [results, Tryz.results15, go_sem, s0, s1, sl]) rfl hp
def missB (xs : List Pa) (known loss pack : Int) : Bool := decide (pack = 0) || hasP xs known loss pack
def missP (xs : List Pa) (known loss pack : Int) : Int := match rootT xs known loss with
 | some t => if pack = 0 then t.f.missing else (nodeF (findT t pack)).missing
 | none => 0
def missV (xs : List Pa) (known loss pack : Int) : Int := if rootE xs known loss (missB xs known loss pack) = 0 then missP xs known loss pack else 0
def MissPost (w : World) (xs : List Pa) (known loss pack : Int) (e : Ending) (w' : World) : Prop :=
 e = .returned (.tuple #[.int .i64 (missV xs known loss pack), .int .i64 (rootE xs known loss (missB xs known loss pack))]) ∧ Below w.heap.size w w'
theorem ship_at {w' : World} {n1 : Nat} {pa ta tp : Option Addr} {t0 : Option Tr} (h : RootAt w' n1 pa ta tp t0) :
 ∃ (t : Tr) (a : Option Addr) (n cap : Nat), tp = some ⟨t.b, 0, none⟩ ∧ NodeAt w' t.b t.f a n cap ∧ t0 = some t.sh := by
 obtain ⟨t, ht, htp, hta, htn, htb, htf, hpa, hta2⟩ := h
 obtain ⟨a, cap, hn, _, _⟩ := (hta [] (by simp)).at
 exact ⟨t, a, _, cap, htp, hn, ht⟩
set_option maxRecDepth 100000 in
set_option maxHeartbeats 4000000 in
theorem missing_any (a : Option Addr) (n cap : Nat) (xs : List Pa) (hsh : ∀ x ∈ xs, x.Short) (known loss pack : Int) (w : World) (h : Rd Pa.vals 14 w a n xs) (hcap : n ≤ cap) :
 Calls Tryz.prog 17 #[.slice a n cap, .int .i64 known, .int .i64 loss, .int .i64 pack] w (MissPost w xs known loss pack) := by
 have hmf : ∀ (fn : Fn) (first cap : Array Value) (w : World), (Instr.makeFunc fn first cap).run Tryz.prog w = .ok (.func fn first cap) w := fun _ _ _ _ => rfl
 have hB0 := al' (Below.refl w.heap.size w) (.cells #[.int .i64 pack] 3)
 have HR := Hd (h.below' hB0)
 have hcp : (w.alloc (.cells #[.int .i64 pack] 3)).cell? ⟨w.heap.size, 0, none⟩ = some (.int .i64 pack) := by rw [cell_of_row _ _ _ _ _ (0, 0) (heap_alloc_new w _)]; rfl
 have CW := Hd (rooted_any a n cap xs hsh known loss 47 #[.pointer (some ⟨w.heap.size, 0, none⟩)] (fun _ _ => rfl) (missB xs known loss pack) _ HR.out hcap (there_missing hcp))
 have HB0 := Hd hB0
 have Hcp := Hd hcp
 clear h hcp hB0 HR
 go_enter Tryz.func17, Tryz.ntmps17
 go_upto_region 1 with (fail)
 generalize w.alloc (.cells #[.int .i64 pack] 3) = w1 at *
 go_upto_region 2 with (go_at_call 26; refine CW.out.mono ?_; rintro e w3 ⟨pa, pn, pc, ta, tn, tc, tp, rfl, hrp, hrt, hB2, htree⟩)
 have hBa := al' (Below.refl w3.heap.size w3) (.cells #[.slice pa pn pc, .slice ta tn tc] 62)
 have hB1 := HB0.out
 have hB3 := hB1.trans ((hB2.trans (hBa.mono hB2.size)).mono hB1.size)
 have hc4 := cell_stays (cell_stays Hcp.out hB2) hBa
 have HAt := Hd (show ∀ hz : pack ≠ 0, rootE xs known loss (missB xs known loss pack) = 0 → ∃ t k a n cap, tp = some ⟨t.b, 0, none⟩ ∧ TreeAt t.bs (w3.alloc (.cells #[.slice pa pn pc, .slice ta tn tc] 62)) t ∧ Bd t ∧ findT t pack = some k ∧ NodeAt (w3.alloc (.cells #[.slice pa pn pc, .slice ta tn tc] 62)) k.b k.f a n cap ∧ missP xs known loss pack = k.f.missing from fun hz h0 => by
  obtain ⟨n1, _, hn1⟩ := htree h0
  obtain ⟨ho, hh⟩ := root_open h0
  unfold missB at hh
  simp only [Bool.or_eq_true, decide_eq_true_eq] at hh
  rcases hh with hh | hh
  · exact absurd hh hz
  obtain ⟨t, k, a, n, cap, h1, h2, h3, h4, h5, h6⟩ := root_at hn1 ho hh
  refine ⟨t, k, a, n, cap, h1, h2.below' hBa, h3, h4, h5.below' hBa, ?_⟩
  unfold missP
  rw [h6]
  simp only [if_neg hz, findT_sh, h4, Option.map_some, nodeF, sh_f])
 have HAt0 := Hd (show ∀ hz : pack = 0, rootE xs known loss (missB xs known loss pack) = 0 → ∃ (t : Tr) (a : Option Addr) (n cap : Nat), tp = some ⟨t.b, 0, none⟩ ∧ NodeAt (w3.alloc (.cells #[.slice pa pn pc, .slice ta tn tc] 62)) t.b t.f a n cap ∧ missP xs known loss pack = t.f.missing from fun hz h0 => by
  obtain ⟨n1, _, hn1⟩ := htree h0
  obtain ⟨t, a, n, cap, h1, h2, h3⟩ := ship_at hn1
  refine ⟨t, a, n, cap, h1, h2.below' hBa, ?_⟩
  unfold missP
  rw [h3]
  simp only [if_pos hz, sh_f])
 clear hrp hrt hB2 htree hB1 CW hBa
 generalize w3.alloc (.cells #[.slice pa pn pc, .slice ta tn tc] 62) = w4 at *
 have HB3 := Hd hB3
 have Hc4 := Hd hc4
 clear hB3
 have HFin := Hd (show ∀ (W : World) (v c : Int), Below w4.heap.size w4 W → rootE xs known loss (missB xs known loss pack) = c → missV xs known loss pack = v →
  MissPost w xs known loss pack (.returned (.tuple #[.int .i64 v, .int .i64 c])) W from fun W v c hW hc hv => by
  refine ⟨by rw [hc, hv], ?_⟩
  exact HB3.out.trans (hW.mono HB3.out.size))
 by_cases h0 : rootE xs known loss (missB xs known loss pack) = 0
 case neg =>
  obtain ⟨oe, hoe⟩ : ∃ c, rootE xs known loss (missB xs known loss pack) = c := ⟨_, rfl⟩
  have HV := Hd (show missV xs known loss pack = 0 from by unfold missV; rw [if_neg h0])
  have HE := Hd hoe
  rw [hoe] at h0 ⊢
  have h1 : (oe != 0) = true := by simp [h0]
  clear h0 hoe HAt HAt0
  go_wp2_with fail
  exact bodyPost_ret (by simp [results, Tryz.results17, go_sem]) rfl (HFin.out w4 0 oe (Below.refl _ _) HE.out HV.out)
 have HE := Hd h0
 by_cases hz : pack = 0
 · obtain ⟨t, ka, kn, kc, rfl, hn, hv⟩ := HAt0.out hz h0
   have HV := Hd (show missV xs known loss pack = t.f.missing from by unfold missV; rw [if_pos h0, hv])
   have hz' : (pack == 0) = true := by simp [hz]
   rw [h0]
   have c21 := hn.c21
   have nl := hn.lt
   clear h0 HAt HAt0 hz hn hv
   go_wp2_with fail
   exact bodyPost_ret (by simp [results, Tryz.results17, go_sem]) rfl (HFin.out _ _ _ (Below.refl _ _) HE.out HV.out)
 obtain ⟨t, k, ka, kn, kc, rfl, ht, hbd, hk, hn, hv⟩ := HAt.out hz h0
 have HV := Hd (show missV xs known loss pack = k.f.missing from by unfold missV; rw [if_pos h0, hv])
 have CF := Hd (find_all t.bs t pack w4 ht hbd)
 rw [hk] at CF
 have HN := Hd hn
 have hz' : (pack == 0) = false := by simp [hz]
 rw [h0]
 clear h0 HAt HAt0 hz ht hbd hk hn hv
 go_wp2_with (go_at_call 34; refine CF.out.mono ?_; rintro e w5 ⟨rfl, hB5⟩; have hn5 := HN.out.below' hB5; have c21 := hn5.c21; have nl := hn5.lt; simp only [Option.map_some])
 exact bodyPost_ret (by simp [results, Tryz.results17, go_sem]) rfl (HFin.out _ _ _ hB5 HE.out HV.out)
end Go.Proofs.YtehplmeckfinoaaGreatDoor
