/- PurseSettled returns true: where all is caused and nothing covered, all is settled. -/
import Derived.Test.YtehedodogkhmgaaGreatSettledP
import Derived.Test.YtehedodogkhmgaaGreatFew
import Derived.Test.YtehedodogkhmgaaGreatHolders
import Derived.Test.YtehedodogkhmgaaGreatRefG
set_option linter.unusedSimpArgs false
set_option linter.unusedVariables false
namespace Go.Proofs.YtehedodogkhmgaaGreat
open Go.RowKit Go.Shelf

theorem rd_of_own {w : World} {base : Nat} {v : Value} {n : Nat} {ys : List Po} (h : w.ownsRow base 63 8 v n (ys.flatMap Po.vals)) (hn : ys.length = n) (hm : n ≤ maxLen) : ∃ a cap, v = .slice a n cap ∧ Rd Po.vals 8 w a n ys ∧ (a = none → cap = 0) := by
  have h0 := h
  rcases h.2 with ⟨rfl, rfl⟩ | ⟨g, cap, cur, rfl, hb, hg, hc, _, hs, ht⟩
  · exact ⟨none, 0, rfl, ⟨hn, hm, fun i hi => absurd hi (by omega)⟩, fun _ => rfl⟩
  · obtain ⟨a, c, he, hcap, hrd, _⟩ := Rd.of_own h0 po_vals_length (by decide) hn hm
    cases he
    exact ⟨_, _, rfl, hrd, fun e => by cases e⟩
theorem Rd.ca' {w : World} {a : Option Addr} {n : Nat} {xs : List Ca} (h : Rd Ca.vals 3 w a n xs) {i : Nat} (hi : i < n) : ∃ b off p, a = some ⟨b, off, none⟩ ∧ b < w.heap.size ∧ xs[i]? = some p ∧ w.cell? ⟨b, off + i * 3, none⟩ = some (.int .i64 p.parcel) ∧ w.cell? ⟨b, off + i * 3 + 2, none⟩ = some (.int .i64 p.known) := by
  obtain ⟨b, off, p, h1, h2, h3, h4, _, h5⟩ := h.ca hi
  exact ⟨b, off, p, h1, h2, h3, h4, h5⟩

set_option maxRecDepth 100000 in
set_option maxHeartbeats 4000000 in
theorem caused_any (a : Option Addr) (n cap : Nat) (xs : List Po) (a'' : Option Addr) (n'' cap'' : Nat) (c : List Ca) (k hour : Int) (w : World) (h : Rd Po.vals 8 w a n xs) (h'' : Rd Ca.vals 3 w a'' n'' c) :
    Calls Tryz.prog 43 #[.slice a n cap, .slice a'' n'' cap'', .int .i64 k, .int .i64 hour] w fun e w' => e = .returned (.bool (causedB xs c k hour)) ∧ Below w.heap.size w w' := by
  have H := Lib.hid h
  have H'' := Lib.hid h''
  have Hl := Lib.hid h.len
  have Hl'' := Lib.hid h''.len
  have hm := h.cap
  have hm'' := h''.cap
  unfold maxLen at hm hm''
  clear h h''
  go_enter Tryz.func43, Tryz.ntmps43
  go_wp2_with fail
  go_loopw [9, 10] (fun f i wr => ∃ q : Nat, q ≤ n'' ∧ i = .int .i64 q ∧ f = .bool ((c.take q).foldl (foundStep k hour) false) ∧ (c.take q).any (badC xs k) = false ∧ Below w.heap.size w wr) (fun _ i _ => n'' - (intOf i).toNat)
  case atStart => exact ⟨0, Nat.zero_le _, rfl, rfl, rfl, Below.refl _ _⟩
  case round =>
    obtain ⟨q, hq, rfl, rfl, hbad, hB⟩ := hrel
    have HB := Lib.hid hB
    have Hbad := Lib.hid hbad
    obtain ⟨f0, hf0⟩ : ∃ f, (c.take q).foldl (foundStep k hour) false = f := ⟨_, rfl⟩
    rw [hf0]
    have Hf0 := Lib.hid hf0
    have h2 := H''.out.below' hB
    clear hB hbad hf0
    by_cases hlt : q < n''
    · have hlt' : (q : Int) < (n'' : Int) := by omega
      obtain ⟨b, off, y, rfl, hb, hy, y0, y2⟩ := h2.ca' hlt
      have Hy := Lib.hid hy
      have HS := Lib.hid (show (c.take (q + 1)).foldl (foundStep k hour) false = foundStep k hour f0 y by rw [take_succ_snoc hy, List.foldl_append, Hf0.out]; rfl)
      have HA := Lib.hid (show (c.take (q + 1)).any (badC xs k) = badC xs k y by rw [any_take_snoc hy, Hbad.out]; rfl)
      clear hy h2
      by_cases q1 : y.parcel = k
      case neg =>
        have e1 : (y.parcel != k) = true := by simp [q1]
        have HE := Lib.hid (show foundStep k hour f0 y = f0 by unfold foundStep; rw [if_neg q1])
        have HF := Lib.hid (show badC xs k y = false by unfold badC; rw [decide_eq_false q1]; rfl)
        clear q1
        go_wp2_with fail
        exact ⟨⟨q + 1, by omega, by go_num, by rw [HS.out, HE.out], by rw [HA.out, HF.out], HB.out⟩, by simp [intOf]; omega⟩
      have e1 : (y.parcel != k) = false := by simp [q1]
      have HE := Lib.hid (show foundStep k hour f0 y = decide (y.known ≤ hour) by unfold foundStep; rw [if_pos q1])
      have Q1 := Lib.hid q1
      clear q1
      go_upto_region 7 with (fail)
      go_wp2_with fail
      go_loopw [11] (fun j wi => ∃ m : Nat, m ≤ n ∧ j = .int .i64 m ∧ (xs.take m).any (badAt xs k y) = false ∧ Below w.heap.size w wi) (fun j _ => n - (intOf j).toNat)
      case atStart => exact ⟨0, Nat.zero_le _, rfl, rfl, HB.out⟩
      case round =>
        obtain ⟨m, hm1, rfl, hno, hB⟩ := hrel
        have HBi := Lib.hid hB
        have Hno := Lib.hid hno
        have h1 := H.out.below' hB
        have h3 := H''.out.below' hB
        clear hB hno y0 y2
        obtain ⟨b', off', y', hae, hb', hy', z0, z2⟩ := h3.ca' hlt
        cases hae
        obtain rfl : y = y' := Option.some.inj (Hy.out.symm.trans hy')
        by_cases hlt2 : m < n
        · have hlt2' : (m : Int) < (n : Int) := by omega
          obtain ⟨bp, offp, p, rfl, hbp, hp, x0, x1, x2, x3, x4, x5, x6, x7⟩ := h1.po hlt2
          have Hp := Lib.hid hp
          have HAn := Lib.hid (show (xs.take (m + 1)).any (badAt xs k y) = badAt xs k y p by rw [any_take_snoc hp, Hno.out]; rfl)
          clear hp hy' h1 h3
          have Hend := Lib.hid (show badAt xs k y p = true → causedB xs c k hour = false from fun hb => by
            have h1 : badC xs k y = true := by
              unfold badC
              rw [Bool.and_eq_true]
              exact ⟨decide_eq_true Q1.out, List.any_eq_true.2 ⟨p, List.mem_of_getElem? Hp.out, hb⟩⟩
            have h2 : c.any (badC xs k) = true := List.any_eq_true.2 ⟨y, List.mem_of_getElem? Hy.out, h1⟩
            unfold causedB
            rw [h2]; rfl)
          by_cases t1 : p.kind = 2
          case neg =>
            have g1 : (p.kind == 2) = false := by simp [t1]
            have HG := Lib.hid (show badAt xs k y p = false by unfold badAt; exact decide_eq_false (fun e => t1 e.1))
            clear t1
            go_upto_region 10 with (fail)
            go_quiet (fail)
            go_wp2_with fail
            exact ⟨⟨m + 1, by omega, by go_num, by rw [HAn.out, HG.out], below_drewN HBi.out _⟩, by simp [intOf]; omega⟩
          have g1 : (p.kind == 2) = true := by simp [t1]
          by_cases t2 : p.parcel = k
          case neg =>
            have g2 : (p.parcel == k) = false := by simp [t2]
            have HG := Lib.hid (show badAt xs k y p = false by unfold badAt; exact decide_eq_false (fun e => t2 e.2.1))
            clear t1 t2
            go_upto_region 10 with (fail)
            go_quiet (fail)
            go_wp2_with fail
            exact ⟨⟨m + 1, by omega, by go_num, by rw [HAn.out, HG.out], below_drewN HBi.out _⟩, by simp [intOf]; omega⟩
          have g2 : (p.parcel == k) = true := by simp [t2]
          by_cases t3 : y.known ≤ p.known
          case neg =>
            have g3 : decide (y.known ≤ p.known) = false := decide_eq_false t3
            have HG := Lib.hid (show badAt xs k y p = false by unfold badAt; exact decide_eq_false (fun e => t3 e.2.2))
            clear t1 t2 t3
            go_upto_region 10 with (fail)
            go_quiet (fail)
            go_wp2_with fail
            exact ⟨⟨m + 1, by omega, by go_num, by rw [HAn.out, HG.out], below_drewN HBi.out _⟩, by simp [intOf]; omega⟩
          have g3 : decide (y.known ≤ p.known) = true := decide_eq_true t3
          have HG := Lib.hid (Hend.out (by unfold badAt; exact decide_eq_true ⟨t1, t2, t3⟩))
          clear t1 t2 t3
          go_upto_region 10 with (fail)
          go_quiet (fail)
          go_wp2_with fail
          go_ret
          exact ⟨ret_bool HG.out.symm, below_drewN HBi.out _⟩
        · have hlt2' : ¬ (m : Int) < (n : Int) := by omega
          have HF := Lib.hid (show badC xs k y = false by
            have h9 := Hno.out
            rw [List.take_of_length_le (by rw [Hl.out]; omega)] at h9
            unfold badC
            rw [h9, Bool.and_false])
          clear hy' h1 h3
          go_wp2_with fail
          exact ⟨⟨q + 1, by omega, by go_num, by rw [HS.out, HE.out], by rw [HA.out, HF.out], HBi.out⟩, by simp [intOf]; omega⟩
    · have hlt' : ¬ (q : Int) < (n'' : Int) := by omega
      have HE := Lib.hid (show causedB xs c k hour = f0 by
        have e1 := Hbad.out
        have e2 := Hf0.out
        rw [List.take_of_length_le (by rw [Hl''.out]; omega)] at e1 e2
        unfold causedB foundC
        rw [e1, e2]; rfl)
      go_wp2_with fail
      go_ret
      exact ⟨ret_bool HE.out.symm, HB.out⟩
theorem okPo_wf' {p : Po} (h : okPo p) : p.Wf := by
  unfold okPo at h
  constructor <;> first | (unfold I64; omega) | omega

/-- what the law's walk asks of the postings -/
theorem settle_row {xs : List Po} {d : List Du} {c : List Ca} {h : Int} {out : List Po} (ho : (settleSt xs d c h).out = out) (hs : Settled xs d c h out) {i : Nat} {p : Po} (hi : out[i]? = some p) :
    (checkL (xs ++ out.take i)).2 = 0 ∧ refusedL (xs ++ out.take i) p = 0 ∧ p.hour = h ∧ p.Wf := by
  subst ho
  obtain ⟨h1, h2⟩ := settle_fails hs hi
  exact ⟨h1, h2, hs.hours p (List.mem_of_getElem? hi), okPo_wf' (refusedL_ok h2)⟩

theorem SettlePost.pair {w w' : World} {xs : List Po} {d : List Du} {c : List Ca} {h : Int} {e : Ending} (hp : SettlePost w xs d c h e w') :
    Below w.heap.size w w' ∧ ∃ a n cap, e = .returned (.tuple #[.slice a n cap, .int .i64 (settleE xs d c h)]) ∧ Rd Po.vals 8 w' a n (if settleE xs d c h = 0 then (settleSt xs d c h).out else []) ∧ (a = none → cap = 0) := by
  obtain ⟨hB, ⟨hc, rfl⟩ | ⟨hc, v, rfl, hrow⟩⟩ := hp
  · exact ⟨hB, none, 0, 0, rfl, by rw [if_neg hc]; exact Rd.empty _ _, fun _ => rfl⟩
  · have hl : (settleSt xs d c h).out.length ≤ 400 := by
      have := (settleE_zero hc).2.1
      omega
    obtain ⟨a, cap, rfl, hrd, hz⟩ := rd_of_own hrow rfl (by unfold maxLen; omega)
    exact ⟨hB, a, _, cap, by rw [hc], by rw [if_pos hc]; exact hrd, hz⟩
def OutC (w : World) (l : List Int) (c : Int) (e : Ending) (w' : World) : Prop := ∃ a n k, e = .returned (.tuple #[.slice a n k, .int .i64 c]) ∧ Rd ints 1 w' a n l ∧ Below w.heap.size w w'
theorem CovPost.outC {w w' : World} {xs : List Po} {d : List Du} {e : Ending} (hp : CovPost w xs d e w') (hl : d.length ≤ 1000) : OutC w (if cmpE xs d = 0 then covR xs d else []) (cmpE xs d) e w' := by
  obtain ⟨hB, ⟨hc, rfl⟩ | ⟨hc, v, rfl, hrow⟩⟩ := hp
  · exact ⟨none, 0, 0, rfl, by rw [if_neg hc]; exact Rd.empty _ _, hB⟩
  · have hlen : (covR xs d).length ≤ d.length := by have := covFold_len xs d d []; simpa [covR] using this
    obtain ⟨a, cap, rfl, _, hrd, _⟩ := Rd.of_own hrow ints_length (by decide) rfl (by unfold maxLen; omega)
    exact ⟨a, _, cap, by rw [hc], by rw [if_pos hc]; exact hrd, hB⟩
theorem holders_some {xs : List Po} {k : Int} (hc : (checkL xs).2 = 0) (hk : k ∈ parcelsL xs) (h : ∃ who, 0 ≤ who ∧ who ≤ 40 ∧ hasL xs who k ≠ 0) : holdersR xs k ≠ [] := by
  obtain ⟨who, h1, h2, h3⟩ := h
  obtain ⟨p, hp, hpk⟩ := (parcelsL_mem xs k).1 hk
  have hok := checkL_okl hc
  have hpo := hok p hp
  unfold okPo at hpo
  have ha : askE xs k 0 = 0 := by
    unfold askE
    rw [if_pos hc, if_pos (by unfold okAsk; omega)]
  unfold holdersR holdersL
  rw [if_pos ha]
  intro e
  have hm : (⟨who, k, hasL xs who k⟩ : Du) ∈ (accL xs).filterMap (holdStep xs k) := List.mem_filterMap.2 ⟨(k, who), (accL_mem hok (k, who)).2 h3, by unfold holdStep; rw [if_pos rfl]⟩
  rw [e] at hm
  simp at hm
theorem holdersR_len {xs : List Po} (hn : xs.length ≤ 1000) (k : Int) : (holdersR xs k).length ≤ 1000 := by
  unfold holdersR
  split
  · rename_i ha
    unfold holdersL
    have hok := checkL_okl (askE_0 ha).1
    refine Nat.le_trans (List.length_filterMap_le _ _) (Nat.le_trans ?_ hn)
    have h1 : (accL xs).Nodup := (accL_sorted xs).imp fun {a b} hab e => by subst e; exact accLt_irrefl a hab
    have h2 : (accL xs).length ≤ (xs.map (fun p => (p.parcel, p.party))).length := h1.length_le_of_subset fun a ha => by
      have hne := (accL_mem hok a).1 ha
      have : ∃ p ∈ xs, p.party = a.2 ∧ p.parcel = a.1 := Classical.byContradiction fun hc => hne (hasL_zero fun p hp e => hc ⟨p, hp, e⟩)
      obtain ⟨p, hp, e1, e2⟩ := this
      exact List.mem_map.2 ⟨p, hp, by rw [e1, e2]⟩
    rwa [List.length_map] at h2
  · simp

set_option maxRecDepth 100000 in
set_option maxHeartbeats 8000000 in
theorem law_settled (a : Option Addr) (n cap : Nat) (xs : List Po) (a' : Option Addr) (n' cap' : Nat) (d : List Du) (a'' : Option Addr) (n'' cap'' : Nat) (c : List Ca) (hour : Int) (w : World)
    (h : Rd Po.vals 8 w a n xs) (hw : ∀ p ∈ xs, p.Wf) (hcap : n ≤ cap) (hz : a = none → cap = 0) (h' : Rd Du.vals 3 w a' n' d) (_ : n' ≤ cap') (_ : a' = none → cap' = 0) (h'' : Rd Ca.vals 3 w a'' n'' c) (_ : n'' ≤ cap'') (_ : a'' = none → cap'' = 0) (_ : I64 hour) :
    Calls Tryz.prog 7 #[.slice a n cap, .slice a' n' cap', .slice a'' n'' cap'', .int .i64 hour] w fun e w' => e = .returned (.bool true) ∧ Below w.heap.size w w' := by
  obtain ⟨i0, hi0, hz0, hz1, hz2⟩ := info_parts info_po
  have H0 := Lib.hid (And.intro h (And.intro h' h''))
  have Hw := Lib.hid hw
  have Hz := Lib.hid hz
  have Hl := Lib.hid h.len
  have Hl' := Lib.hid h'.len
  clear h h' h'' hw hz
  go_enter Tryz.func7, Tryz.ntmps7
  go_wp2_with fail
  refine (few_any a n cap a' n' cap' a'' n'' cap'' _).mono ?_
  rintro e wf ⟨rfl, rfl⟩
  by_cases hf : fewB n n' n''
  case neg =>
    have hd : decide (fewB n n' n'') = false := by simp [hf]
    rw [hd]
    clear hd hf
    go_wp2_with fail
    refine (purses_any _).mono ?_
    rintro e w1 ⟨rfl, hB⟩
    have HB := Lib.hid hB
    clear hB
    go_wp2_with fail
    go_ret
    exact ⟨rfl, HB.out⟩
  have hd : decide (fewB n n' n'') = true := by simp [hf]
  rw [hd]
  obtain ⟨f1, f2, f3⟩ := hf
  clear hd f3
  have hxl : xs.length ≤ 24 := by rw [Hl.out]; omega
  have hdl : d.length ≤ 1000 := by rw [Hl'.out]; omega
  have hn4 : n ≤ 24 := f1
  have hn5 : n' ≤ 405 := by omega
  clear f1 f2
  obtain ⟨E, hE⟩ : ∃ E, settleE xs d c hour = E := ⟨_, rfl⟩
  obtain ⟨L, hL⟩ : ∃ L, (if settleE xs d c hour = 0 then (settleSt xs d c hour).out else []) = L := ⟨_, rfl⟩
  obtain ⟨F, hF⟩ : ∃ F, cmpE xs d = F := ⟨_, rfl⟩
  obtain ⟨M, hM⟩ : ∃ M, (if cmpE xs d = 0 then covR xs d else []) = M := ⟨_, rfl⟩
  have HE := Lib.hid hE
  have HL := Lib.hid hL
  have HF := Lib.hid hF
  have HM := Lib.hid hM
  have Hxl := Lib.hid hxl
  go_wp2_with fail
  refine (settle_any a n cap xs a' n' cap' d a'' n'' cap'' c hour _ H0.out.1 Hw.out H0.out.2.1 H0.out.2.2).mono ?_
  rintro e w1 hp
  obtain ⟨hB, sa, sn, sc, rfl, hsr, hsz⟩ := hp.pair
  rw [hL] at hsr
  rw [hE]
  have HSr := Lib.hid hsr
  have HSz := Lib.hid hsz
  have H1 := Lib.hid (And.intro (H0.out.1.below' hB) (And.intro (H0.out.2.1.below' hB) (H0.out.2.2.below' hB)))
  have HB1 := Lib.hid hB
  clear hp hB hsr hsz hE hL H0
  go_wp2_with fail
  refine (covered_all a n cap xs a' n' cap' d _ H1.out.1 Hw.out H1.out.2.1).mono ?_
  rintro e w2 hp
  obtain ⟨ma, mn, mk, rfl, hmr, hB⟩ := hp.outC hdl
  rw [hM] at hmr
  rw [hF]
  have HMl := Lib.hid hmr.len
  have HSr2 := Lib.hid (HSr.out.below' hB)
  have H2 := Lib.hid (And.intro (H1.out.1.below' hB) (And.intro (H1.out.2.1.below' hB) (H1.out.2.2.below' hB)))
  have HB2 := Lib.hid (below_then HB1.out hB (Nat.le_refl _))
  clear hp hB hmr hF hM H1 HB1 HSr hdl hxl
  by_cases e0 : E = 0
  case neg =>
    have e1 : (E != 0) = true := by simp [e0]
    clear e0
    go_wp2_with fail
    refine (purses_any _).mono ?_
    rintro e w3 ⟨rfl, hB⟩
    have HB3 := Lib.hid (below_then HB2.out hB (Nat.le_refl _))
    clear hB
    go_wp2_with fail
    go_ret
    exact ⟨rfl, HB3.out⟩
  subst e0
  obtain ⟨⟨hck, hhr, hcd, hcc, _⟩, hlim⟩ := settleE_zero HE.out
  have hF0 : F = 0 := by rw [← HF.out]; unfold cmpE; rw [if_pos hck]; exact hcd
  subst hF0
  have HCk := Lib.hid hck
  have Hlim := Lib.hid hlim
  clear hck hhr hcd hcc hlim
  by_cases m0 : mn = 0
  case neg =>
    have e1 : (0 : Int) < (mn : Int) := by omega
    go_wp2_with fail
    refine (purses_any _).mono ?_
    rintro e w3 ⟨rfl, hB⟩
    have HB3 := Lib.hid (below_then HB2.out hB (Nat.le_refl _))
    clear hB
    go_wp2_with fail
    go_ret
    exact ⟨rfl, HB3.out⟩
  subst m0
  have HCov := Lib.hid (show covR xs d = [] by
    have h1 := HM.out
    rw [if_pos HF.out] at h1
    rw [h1]; exact List.eq_nil_of_length_eq_zero HMl.out)
  clear HM HMl
  go_upto_region 7 with (fail)
  go_wp2_with fail
  go_loopw [13] (fun i wr => ∃ k : Nat, k ≤ n' ∧ i = .int .i64 k ∧ (∀ x ∈ d.take k, 0 < x.amount → causedB xs c x.parcel hour = true) ∧ Below w2.heap.size w2 wr) (fun i _ => n' - (intOf i).toNat)
  case atStart => exact ⟨0, Nat.zero_le _, rfl, by simp, Below.refl _ _⟩
  case round =>
    obtain ⟨k, hk, rfl, hall, hB⟩ := hrel
    have HBr := Lib.hid hB
    have Hall := Lib.hid hall
    have H3 := Lib.hid (And.intro (H2.out.1.below' hB) (And.intro (H2.out.2.1.below' hB) (H2.out.2.2.below' hB)))
    clear hB hall
    by_cases hlt : k < n'
    · have hlt' : (k : Int) < (n' : Int) := by omega
      obtain ⟨b, off, x, rfl, hb, hx, x0, x1, x2⟩ := H3.out.2.1.du hlt
      have Hx := Lib.hid hx
      clear hx
      by_cases q1 : 0 < x.amount
      case neg =>
        have HA := Lib.hid (show ∀ z ∈ d.take (k + 1), 0 < z.amount → causedB xs c z.parcel hour = true from fun z hz => by
          rw [take_succ_snoc Hx.out] at hz
          rcases List.mem_append.1 hz with hz | hz
          · exact Hall.out z hz
          · rw [List.mem_singleton.1 hz]; exact fun e => absurd e q1)
        go_wp2_with fail
        exact ⟨⟨k + 1, by omega, by go_num, HA.out, HBr.out⟩, by simp [intOf]; omega⟩
      obtain ⟨B, hBe⟩ : ∃ B, causedB xs c x.parcel hour = B := ⟨_, rfl⟩
      have HBe := Lib.hid hBe
      go_wp2_with fail
      refine (caused_any a n cap xs a'' n'' cap'' c x.parcel hour _ H3.out.1 H3.out.2.2).mono ?_
      rintro e w4 ⟨rfl, hB⟩
      rw [hBe]
      have HB4 := Lib.hid (below_then HBr.out hB (Nat.le_refl _))
      clear hB hBe
      cases B with
      | true =>
        have HA := Lib.hid (show ∀ z ∈ d.take (k + 1), 0 < z.amount → causedB xs c z.parcel hour = true from fun z hz => by
          rw [take_succ_snoc Hx.out] at hz
          rcases List.mem_append.1 hz with hz | hz
          · exact Hall.out z hz
          · rw [List.mem_singleton.1 hz]; exact fun _ => HBe.out)
        go_wp2_with fail
        exact ⟨⟨k + 1, by omega, by go_num, HA.out, HB4.out⟩, by simp [intOf]; omega⟩
      | false =>
        go_wp2_with fail
        refine (purses_any _).mono ?_
        rintro e w5 ⟨rfl, hB⟩
        have HB5 := Lib.hid (below_then (below_then HB2.out HB4.out (Nat.le_refl _)) hB (Nat.le_refl _))
        clear hB
        go_wp2_with fail
        go_ret
        exact ⟨rfl, HB5.out⟩
    · have hlt' : ¬ (k : Int) < (n' : Int) := by omega
      have HD := Lib.hid (show ∀ z ∈ d, 0 < z.amount → causedB xs c z.parcel hour = true from fun z hz => Hall.out z (by rw [List.take_of_length_le (by rw [Hl'.out]; omega)]; exact hz))
      have HSr3 := Lib.hid (HSr2.out.below' HBr.out)
      have HB3 := Lib.hid (below_then HB2.out HBr.out (Nat.le_refl _))
      clear Hall HBr hlt hk
      go_wp2_with fail
      refine (parcels_all a n cap xs _ H3.out.1 Hw.out).mono ?_
      rintro e w4 ⟨v4, rfl, hrow, hB⟩
      rw [if_pos HCk.out] at hrow
      have hpl : (parcelsL xs).length ≤ 24 := Nat.le_trans (parcelsL_len xs) Hxl.out
      obtain ⟨pa, pc, rfl, _, hpr, _⟩ := Rd.of_own hrow ints_length (by decide) rfl (by unfold maxLen; omega)
      obtain ⟨pn, hpn⟩ : ∃ pn, (parcelsL xs).length = pn := ⟨_, rfl⟩
      rw [hpn] at hpr hpl ⊢
      have Hpn := Lib.hid hpn
      have HPr := Lib.hid hpr
      have H4 := Lib.hid (And.intro (H3.out.1.below' hB) (And.intro (H3.out.2.1.below' hB) (H3.out.2.2.below' hB)))
      have HSr4 := Lib.hid (HSr3.out.below' hB)
      have HB4 := Lib.hid (below_then HB3.out hB (Nat.le_refl _))
      clear hB hrow hpr hpn H3 HB3 HSr3
      clear hlt'
      go_wp2_with fail
      go_loopw [15] (fun i wr => ∃ k : Nat, k ≤ pn ∧ i = .int .i64 k ∧ (∀ y ∈ (parcelsL xs).take k, (∃ who, 0 ≤ who ∧ who ≤ 40 ∧ hasL xs who y ≠ 0) → causedB xs c y hour = true) ∧ Below w4.heap.size w4 wr) (fun i _ => pn - (intOf i).toNat)
      case atStart => exact ⟨0, Nat.zero_le _, rfl, by simp, Below.refl _ _⟩
      case round =>
        obtain ⟨k, hk, rfl, hall, hB⟩ := hrel
        have HBr := Lib.hid hB
        have Hall := Lib.hid hall
        have hpr := HPr.out.below' hB
        have H5 := Lib.hid (And.intro (H4.out.1.below' hB) (And.intro (H4.out.2.1.below' hB) (H4.out.2.2.below' hB)))
        clear hB hall
        by_cases hlt : k < pn
        · have hlt' : (k : Int) < (pn : Int) := by omega
          obtain ⟨b, off, y, rfl, hb, hy, y0⟩ := hpr.int hlt
          have Hy := Lib.hid hy
          have hym := List.mem_of_getElem? hy
          have hyi : I64 y := by
            obtain ⟨p, hp, e⟩ := (parcelsL_mem xs y).1 hym
            have := checkL_okl HCk.out p hp
            unfold okPo at this
            unfold I64
            omega
          have Hym := Lib.hid hym
          clear hy hpr hym
          go_wp2_with fail
          refine (holders_any a n cap xs y _ H5.out.1 Hw.out hyi).mono ?_
          rintro e w6 ⟨v6, rfl, hrow, hB⟩
          obtain ⟨R, hR⟩ : ∃ R, holdersR xs y = R := ⟨_, rfl⟩
          have hRl := holdersR_len (xs := xs) (Nat.le_trans Hxl.out (by omega)) y
          rw [hR] at hrow hRl
          obtain ⟨ha, hc, rfl, _, hhr, _⟩ := Rd.of_own hrow du_vals_length (by decide) rfl (by unfold maxLen; omega)
          obtain ⟨hn, hhn⟩ : ∃ hn, R.length = hn := ⟨_, rfl⟩
          rw [hhn]
          have HRn := Lib.hid hhn
          have HRe := Lib.hid hR
          have y0' := cell_keep y0 hB
          have hb' : b < w6.heap.size := Nat.lt_of_lt_of_le hb hB.size
          have H6 := Lib.hid (And.intro (H5.out.1.below' hB) (And.intro (H5.out.2.1.below' hB) (H5.out.2.2.below' hB)))
          have HB6 := Lib.hid (below_then HBr.out hB (Nat.le_refl _))
          have hhn2 : hn ≤ 1000 := by rw [← hhn]; exact hRl
          clear hB hrow hhr hhn hR hRl y0 hb H5 HBr hyi
          by_cases q1 : hn = 0
          · subst q1
            have HA := Lib.hid (show ∀ z ∈ (parcelsL xs).take (k + 1), (∃ who, 0 ≤ who ∧ who ≤ 40 ∧ hasL xs who z ≠ 0) → causedB xs c z hour = true from fun z hz => by
              rw [take_succ_snoc Hy.out] at hz
              rcases List.mem_append.1 hz with hz | hz
              · exact Hall.out z hz
              · rw [List.mem_singleton.1 hz]
                intro hw
                exact absurd (HRe.out.trans (List.eq_nil_of_length_eq_zero HRn.out)) (holders_some HCk.out Hym.out hw))
            go_wp2_with fail
            exact ⟨⟨k + 1, by omega, by go_num, HA.out, HB6.out⟩, by simp [intOf]; omega⟩
          have q1' : (0 : Int) < (hn : Int) := by omega
          obtain ⟨B, hBe⟩ : ∃ B, causedB xs c y hour = B := ⟨_, rfl⟩
          have HBe := Lib.hid hBe
          clear q1
          go_wp2_with fail
          refine (caused_any a n cap xs a'' n'' cap'' c y hour _ H6.out.1 H6.out.2.2).mono ?_
          rintro e w7 ⟨rfl, hB⟩
          rw [hBe]
          have HB7 := Lib.hid (below_then HB6.out hB (Nat.le_refl _))
          clear hB hBe
          cases B with
          | true =>
            have HA := Lib.hid (show ∀ z ∈ (parcelsL xs).take (k + 1), (∃ who, 0 ≤ who ∧ who ≤ 40 ∧ hasL xs who z ≠ 0) → causedB xs c z hour = true from fun z hz => by
              rw [take_succ_snoc Hy.out] at hz
              rcases List.mem_append.1 hz with hz | hz
              · exact Hall.out z hz
              · rw [List.mem_singleton.1 hz]; exact fun _ => HBe.out)
            go_wp2_with fail
            exact ⟨⟨k + 1, by omega, by go_num, HA.out, HB7.out⟩, by simp [intOf]; omega⟩
          | false =>
            go_wp2_with fail
            refine (purses_any _).mono ?_
            rintro e w8 ⟨rfl, hB⟩
            have HB8 := Lib.hid (below_then (below_then HB4.out HB7.out (Nat.le_refl _)) hB (Nat.le_refl _))
            clear hB
            go_wp2_with fail
            go_ret
            exact ⟨rfl, HB8.out⟩
        · have hlt' : ¬ (k : Int) < (pn : Int) := by omega
          have HAll := Lib.hid (show ∀ z ∈ parcelsL xs, (∃ who, 0 ≤ who ∧ who ≤ 40 ∧ hasL xs who z ≠ 0) → causedB xs c z hour = true from fun z hz => Hall.out z (by rw [List.take_of_length_le (by rw [Hpn.out]; omega)]; exact hz))
          have HSet := Lib.hid (settled_behind HE.out HCov.out HD.out HAll.out)
          have HBk := Lib.hid (settled_law HE.out).bk
          have hLe : L = (settleSt xs d c hour).out := by rw [← HL.out, if_pos HE.out]
          have HLe := Lib.hid hLe
          have HSr5 := Lib.hid (HSr4.out.below' HBr.out)
          have HB5 := Lib.hid (below_then HB4.out HBr.out (Nat.le_refl _))
          have HLl := Lib.hid HSr4.out.len
          have hsn : sn ≤ 400 := by have h1 := HLl.out; have h2 := Hlim.out.1; rw [← hLe] at h2; omega
          clear Hall HBr hLe hpr hlt hk
          obtain ⟨w5, rfl⟩ : ∃ w5 : World, w5 = wr := ⟨_, rfl⟩
          go_upto_region 18 with (fail)
          clear hlt'
          have hz9 := HSz.out
          go_upto_region 19 with (first
            | (at_builtin; refine wpList_append_rd po_vals_length po_one (by decide) _ rfl _ _ 22 rfl w5.heap.size 63 i0 _ 64 Tryz.underlying22 hi0 hz0 hz1 hz2 rfl (.slice (some ⟨w5.heap.size, 0, none⟩) 0 0) 0 [] rfl (mk_row w5 (Nat.le_refl _) rfl) a n cap xs rfl (H5.out.1.below' ((Below.refl _ w5).alloc (Nat.le_refl _) _)) Hz.out (by omega) (by omega) (by simp) ?_; intro v6 w6 hown6 hgrow6; have hB6 := ((Below.refl w5.heap.size w5).alloc (Nat.le_refl _) (.cells #[] 63)).grown hgrow6 (by simp) (fun k e => by simp [Value.ownBlock] at e; omega))
            | (at_builtin; refine wpList_append_rd po_vals_length po_one (by decide) _ rfl _ _ 22 rfl w5.heap.size 63 i0 _ 64 Tryz.underlying22 hi0 hz0 hz1 hz2 rfl _ _ _ rfl hown6 sa sn sc L rfl (HSr5.out.below' hB6) hz9 (by omega) (by omega) hB6.size ?_; intro v7 w7 hown7 hgrow7))
          have hlt6 := hown6.lt
          have hB7 := hB6.grown hgrow7 hB6.size (fun k e => (hlt6 k e).1)
          have hown8 : w7.ownsRow w5.heap.size 63 8 v7 (n + sn) ((xs ++ L).flatMap Po.vals) := by simpa using hown7
          have hlen8 : (xs ++ L).length = n + sn := by rw [List.length_append, Hl.out, HLl.out]
          obtain ⟨na, nc, rfl, hr8, hz8⟩ := rd_of_own hown8 hlen8 (by unfold maxLen; omega)
          have HR8 := Lib.hid hr8
          have H7 := Lib.hid (H5.out.2.1.below' hB7)
          have HB7 := Lib.hid (below_then HB5.out hB7 (Nat.le_refl _))
          have Hwf := Lib.hid (show ∀ p ∈ xs ++ L, p.Wf from fun p hp => okPo_wf' (checkL_okl HBk.out p (by rw [← HLe.out]; exact hp)))
          clear hown6 hown7 hgrow6 hgrow7 hB6 hB7 hown8 hlen8 hr8 hz8 hz9 hlt6 HB5 H5
          go_wp2_with fail
          refine (settled_all na (n + sn) nc (xs ++ L) a' n' cap' d _ HR8.out Hwf.out H7.out).mono ?_
          rintro e w8 ⟨hB, rfl⟩
          have he1 : cmpE (xs ++ L) d = 0 := by rw [HLe.out]; exact HSet.out.1
          have he2 : decide (cmpE (xs ++ L) d = 0 ∧ openL (xs ++ L) d = [] ∧ overM (xs ++ L) d = []) = true := by rw [HLe.out]; exact decide_eq_true HSet.out
          rw [he2, he1]
          have HB8 := Lib.hid (below_then HB7.out hB (Nat.le_refl _))
          clear hB he1 he2
          go_wp2_with fail
          refine (purses_any _).mono ?_
          rintro e w9 ⟨rfl, hB⟩
          have HB9 := Lib.hid (below_then HB8.out hB (Nat.le_refl _))
          clear hB
          go_wp2_with fail
          go_ret
          exact ⟨rfl, HB9.out⟩
end Go.Proofs.YtehedodogkhmgaaGreat
