/- Papers of other losses, and those that are known later, change nothing: the plain law (no dump). -/
import Derived.Test.YtehplmeckfinoaaGreatDoorCPathP
import Derived.Test.YtehplmeckfinoaaGreatDoorCTreeE
import Derived.Test.YtehplmeckfinoaaGreatDoorCLeftP
set_option linter.unusedSimpArgs false
set_option linter.unusedVariables false
namespace Go.Proofs.YtehplmeckfinoaaGreatDoor
open Go.RowKit Go.Shelf
theorem checkFrom_good {l : List Pa} : ∀ (m i : Nat), (∀ k, i ≤ k → k < i + m → ∀ x, l[k]? = some x → followsL (l.take k) x = 0) → checkFrom l m i = (0, 0)
 | 0, i, _ => rfl
 | m + 1, i, h => by
   simp only [checkFrom]
   cases e : l[i]? with
   | none => rfl
   | some y =>
     simp only
     rw [if_pos (h i (by omega) (by omega) y e)]
     exact checkFrom_good m (i + 1) (fun k h1 h2 => h k (by omega) (by omega))
theorem check_snoc {l : List Pa} {x : Pa} (h : (checkC l).2 = 0) (hf : followsL l x = 0) : (checkC (l ++ [x])).2 = 0 := by
 have ha := checkFrom_all l.length 0 h
 unfold checkC
 rw [checkFrom_good]
 intro k _ hk y hy
 rw [List.length_append, List.length_singleton] at hk
 by_cases hl : k < l.length
 · rw [List.getElem?_append_left hl] at hy
   rw [List.take_append_of_le_length (by omega)]
   exact ha k (by omega) (by omega) y hy
 · have hkl : k = l.length := by omega
   subst hkl
   rw [List.getElem?_append_right (Nat.le_refl _), Nat.sub_self] at hy
   rw [List.take_left']
   · simp at hy; subst hy; exact hf
   · rfl
theorem ids_unique {l : List Pa} (h : (checkC l).2 = 0) {y z : Pa} (hy : y ∈ l) (hz : z ∈ l) (e : y.id = z.id) : y = z := by
 obtain ⟨i, hi⟩ := List.getElem?_of_mem hy
 obtain ⟨j, hj⟩ := List.getElem?_of_mem hz
 rcases Nat.lt_trichotomy i j with h1 | h1 | h1
 · exact absurd e (ids_differ h hi hj h1)
 · subst h1; rw [hi] at hj; exact Option.some.inj hj
 · exact absurd e.symm (ids_differ h hj hi h1)
def ofStep (x : Pa) (o : Int) (y : Pa) : Int := if x.kind = 3 ∧ y.id = x.of then y.loss else o
def ofO (x : Pa) (l : List Pa) : Int := l.foldl (ofStep x) x.loss
theorem of_mem {x : Pa} (h3 : x.kind = 3) : ∀ (l : List Pa) (o : Int), (∃ y ∈ l, y.id = x.of) → ∃ z ∈ l, z.id = x.of ∧ l.foldl (ofStep x) o = z.loss
 | [], _, h => by obtain ⟨y, hy, _⟩ := h; simp at hy
 | y :: r, o, h => by
   by_cases hr : ∃ y ∈ r, y.id = x.of
   · obtain ⟨z, hz, h1, h2⟩ := of_mem h3 r (ofStep x o y) hr
     exact ⟨z, List.mem_cons_of_mem _ hz, h1, h2⟩
   · obtain ⟨q, hq, he⟩ := h
     rcases List.mem_cons.1 hq with rfl | hq
     · refine ⟨q, by simp, he, ?_⟩
       have : ∀ (l : List Pa) (o : Int), (¬ ∃ y ∈ l, y.id = x.of) → l.foldl (ofStep x) o = o := by
        intro l
        induction l with
        | nil => intro o _; rfl
        | cons a b ih =>
          intro o hn
          rw [List.foldl_cons, ih _ (fun ⟨y, h1, h2⟩ => hn ⟨y, List.mem_cons_of_mem _ h1, h2⟩)]
          unfold ofStep
          rw [if_neg (fun e => hn ⟨a, by simp, e.2⟩)]
       rw [List.foldl_cons, this _ _ hr]
       unfold ofStep
       rw [if_pos ⟨h3, he⟩]
     · exact absurd ⟨q, hq, he⟩ hr
theorem ofO_is {l : List Pa} (h : (checkC l).2 = 0) {x y : Pa} (h3 : x.kind = 3) (hy : y ∈ l) (e : y.id = x.of) : ofO x l = y.loss := by
 obtain ⟨z, hz, h1, h2⟩ := of_mem h3 l x.loss ⟨y, hy, e⟩
 unfold ofO
 rw [h2, ids_unique h hz hy (by omega)]
theorem ofO_own {l : List Pa} {x : Pa} (h3 : x.kind ≠ 3) : ofO x l = x.loss := by
 unfold ofO
 have : ∀ (l : List Pa) (o : Int), l.foldl (ofStep x) o = o := by
  intro l
  induction l with
  | nil => intro o; rfl
  | cons a b ih => intro o; rw [List.foldl_cons, ih]; unfold ofStep; rw [if_neg (fun e => h3 e.1)]
 exact this _ _
theorem last_same {l : List Pa} {x : Pa} {known loss : Int} (h : (checkC l).2 = 0) (hf : followsL l x = 0) (ho : known < x.known ∨ ofO x l ≠ loss) (t : Bool) (p : Int) :
 lastOf (countL (l ++ [x]) known) loss t p = lastOf (countL l known) loss t p := by
 unfold lastOf countL
 rw [List.filter_append, List.filter_append]
 have e1 : (([x].filter (fun z => decide (z.kind ≠ 3 ∧ z.known ≤ known) && !voided (l ++ [x]) known z.id)).filter (fun z => decide (z.loss = loss) && decide (z.kind = 2) == t && decide (z.pack = p))) = [] := by
  rw [List.filter_filter, List.filter_eq_nil_iff]
  intro z hz
  rw [List.mem_singleton] at hz
  subst hz
  intro hc
  simp only [Bool.and_eq_true, decide_eq_true_eq] at hc
  obtain ⟨⟨⟨hl, _⟩, _⟩, ⟨hk, hkn⟩, _⟩ := hc
  rcases ho with ho | ho
  · omega
  · rw [ofO_own hk] at ho; exact ho hl
 rw [e1, List.append_nil]
 congr 1
 rw [List.filter_filter, List.filter_filter]
 refine List.filter_congr fun z hz => ?_
 rw [Bool.eq_iff_iff]
 simp only [Bool.and_eq_true, decide_eq_true_eq, Bool.not_eq_true']
 have hv : voided (l ++ [x]) known z.id = (voided l known z.id || decide (x.kind = 3 ∧ x.known ≤ known ∧ x.of = z.id)) := by
  unfold voided; rw [List.any_append]; simp
 rw [hv]
 constructor
 · rintro ⟨h1, h2, h3⟩
   rw [Bool.or_eq_false_iff] at h3
   exact ⟨h1, h2, h3.1⟩
 · rintro ⟨h1, h2, h3⟩
   refine ⟨h1, h2, ?_⟩
   rw [Bool.or_eq_false_iff]
   refine ⟨h3, decide_eq_false ?_⟩
   rintro ⟨k1, k2, k3⟩
   rcases ho with ho | ho
   · omega
   · rw [ofO_is h k1 hz k3.symm] at ho
     exact ho h1.1.1
theorem others_same {l : List Pa} {x : Pa} {known loss : Int} (h : (checkC l).2 = 0) (hf : followsL l x = 0) (ho : known < x.known ∨ ofO x l ≠ loss) :
 papersL (l ++ [x]) known loss = papersL l known loss ∧ totalsL (l ++ [x]) known loss = totalsL l known loss ∧ openE (l ++ [x]) loss = openE l loss := by
 have hl := last_same h hf ho
 refine ⟨?_, ?_, ?_⟩
 · unfold papersL papersC
   congr 1
   funext p; exact hl false p
 · unfold totalsL totalsC
   congr 1
   funext p; rw [hl false p, hl true p]
 · unfold openE; rw [check_snoc h hf, h]
theorem ids_same {l : List Pa} {x : Pa} {known loss : Int} (h : (checkC l).2 = 0) (hf : followsL l x = 0) : idsM (papersL l known loss) (totalsL l known loss) (l ++ [x]) = idsM (papersL l known loss) (totalsL l known loss) l := by
 have hg := (check_good h).1
 have hin : ∀ y ∈ papersL l known loss ++ totalsL l known loss, y ∈ l := by
  intro y hy
  rcases List.mem_append.1 hy with hy | hy
  · unfold papersL papersC at hy
    obtain ⟨p, _, e⟩ := List.mem_filterMap.1 hy
    exact (lastOf_good hg e).1
  · unfold totalsL totalsC at hy
    obtain ⟨p, _, e⟩ := List.mem_filterMap.1 hy
    split at e
    · exact (lastOf_good hg e).1
    · cases e
 unfold idsM
 rw [List.filter_append]
 have e1 : [x].filter (fun x => (papersL l known loss ++ totalsL l known loss).any (fun y => decide (y.id = x.id))) = [] := by
  rw [List.filter_eq_nil_iff]
  intro z hz
  rw [List.mem_singleton] at hz
  subst hz
  intro hc
  obtain ⟨y, hy, e⟩ := List.any_eq_true.1 hc
  exact follows_fresh hf y (hin y hy) (of_decide_eq_true e)
 rw [e1, List.append_nil]
def weightsL (l : List Pa) (known loss : Int) : List Pa := (papersL l known loss).map (fun x => { x with low := (weighP l known loss x.pack).1, high := (weighP l known loss x.pack).2 })
def weightsV (l : List Pa) (known loss : Int) : List Pa := if weighE l known loss true = 0 then weightsL l known loss else []
theorem others_all {l : List Pa} {x : Pa} {known loss : Int} (h : (checkC l).2 = 0) (hf : followsL l x = 0) (ho : known < x.known ∨ ofO x l ≠ loss) :
 weightsV (l ++ [x]) known loss = weightsV l known loss ∧ weighE (l ++ [x]) known loss true = weighE l known loss true ∧ rootE (l ++ [x]) known loss true = rootE l known loss true ∧
 doubtIs (l ++ [x]) known loss = doubtIs l known loss ∧ doubtV (l ++ [x]) known loss = doubtV l known loss := by
 obtain ⟨h1, h2, h3⟩ := others_same (known := known) (loss := loss) h hf ho
 have hi := ids_same (known := known) (loss := loss) h hf
 have hr : rootE (l ++ [x]) known loss true = rootE l known loss true := by unfold rootE; rw [h1, h2, h3]
 have hT : rootT (l ++ [x]) known loss = rootT l known loss := by unfold rootT; rw [h1, h2]
 have hw : weighE (l ++ [x]) known loss true = weighE l known loss true := by unfold weighE; rw [hr, hT]
 have hd : doubtIs (l ++ [x]) known loss = doubtIs l known loss := by unfold doubtIs; rw [hr, hT]
 have hp : ∀ q, weighP (l ++ [x]) known loss q = weighP l known loss q := fun q => by unfold weighP; rw [hT]
 refine ⟨?_, hw, hr, hd, ?_⟩
 · unfold weightsV weightsL
   rw [hw, h1]
   simp only [hp]
 · unfold doubtV doubtP
   rw [hd, h1, h2, hi]
theorem map_step {f : Pa → Pa} : ∀ {l : List Pa} {k : Nat} {x : Pa}, l[k]? = some x → ((l.take k).map f ++ l.drop k)[k]? = some x ∧ ((l.take k).map f ++ l.drop k).set k (f x) = (l.take (k + 1)).map f ++ l.drop (k + 1)
 | [], k, x, h => by simp at h
 | y :: r, 0, x, h => by
   simp at h; subst h
   simp
 | y :: r, k + 1, x, h => by
   obtain ⟨h1, h2⟩ := map_step (f := f) (l := r) (k := k) (x := x) (by simpa using h)
   refine ⟨by simpa using h1, ?_⟩
   simp only [List.take_succ_cons, List.map_cons, List.drop_succ_cons, List.cons_append, List.set_cons_succ]
   rw [h2]
def withEnds (x : Pa) (p : Int × Int) : Pa := { x with low := p.1, high := p.2 }
theorem Rd.set_ends {w : World} {b off n : Nat} {xs : List Pa} (h : Rd Pa.vals 14 w (some ⟨b, off, none⟩) n xs) {i : Nat} {x : Pa} (hi : xs[i]? = some x) (lo hi' : Int) :
 Rd Pa.vals 14 ((w.setCell ⟨b, off + i * 14 + 8, none⟩ (.int .i64 lo)).setCell ⟨b, off + i * 14 + 9, none⟩ (.int .i64 hi')) (some ⟨b, off, none⟩) n (xs.set i (withEnds x (lo, hi'))) := by
 have hin : i < n := by rw [← h.len]; exact (List.getElem?_eq_some_iff.1 hi).1
 refine ⟨by rw [List.length_set]; exact h.len, h.cap, fun j hj => ?_⟩
 obtain ⟨b', off', y, he, hlt, hy, hc⟩ := h.read j hj
 injection he with he
 injection he with e1 e2
 subst e1 e2
 have hsz : b < ((w.setCell ⟨b, off + i * 14 + 8, none⟩ (.int .i64 lo)).setCell ⟨b, off + i * 14 + 9, none⟩ (.int .i64 hi')).heap.size := by simpa [World.setCell] using hlt
 by_cases hji : j = i
 · subst hji
   rw [hi] at hy
   obtain rfl := Option.some.inj hy
   refine ⟨b, off, withEnds x (lo, hi'), rfl, hsz, by rw [List.getElem?_set_self (by rw [h.len]; exact hj)], fun q hq => ?_⟩
   have hq0 := hc q hq
   by_cases h9 : q = 9
   · subst h9
     exact World.cell?_setCell_same' _ _ _ (by rw [cell_off' (hc 9 (by decide)) (by omega)]; rfl)
   · rw [World.cell?_setCell_other _ _ _ _ (by first | (simp; done) | (simp; omega))]
     by_cases h8 : q = 8
     · subst h8
       exact World.cell?_setCell_same' _ _ _ (by rw [hc 8 (by decide)]; rfl)
     · rw [World.cell?_setCell_other _ _ _ _ (by first | (simp; done) | (simp; omega)), hq0]
       match q, hq, h8, h9 with
       | 0, _, _, _ => rfl
       | 1, _, _, _ => rfl
       | 2, _, _, _ => rfl
       | 3, _, _, _ => rfl
       | 4, _, _, _ => rfl
       | 5, _, _, _ => rfl
       | 6, _, _, _ => rfl
       | 7, _, _, _ => rfl
       | 8, _, h, _ => exact absurd rfl h
       | 9, _, _, h => exact absurd rfl h
       | 10, _, _, _ => rfl
       | 11, _, _, _ => rfl
       | 12, _, _, _ => rfl
       | 13, _, _, _ => rfl
       | q + 14, h, _, _ => exact absurd h (by omega)
 · refine ⟨b, off, y, rfl, hsz, by rw [List.getElem?_set_ne (by omega)]; exact hy, fun q hq => ?_⟩
   rw [World.cell?_setCell_other _ _ _ _ (by first | (simp; done) | (simp; omega)), World.cell?_setCell_other _ _ _ _ (by first | (simp; done) | (simp; omega))]
   exact hc q hq
theorem Rd.two {w : World} {b off n : Nat} {xs : List Pa} (h : Rd Pa.vals 14 w (some ⟨b, off, none⟩) n xs) {i : Nat} {x : Pa} (hi : xs[i]? = some x) : w.cell? ⟨b, off + i * 14 + 8, none⟩ = some (.int .i64 x.low) ∧ w.cell? ⟨b, off + i * 14 + 8 + 1, none⟩ = some (.int .i64 x.high) := by
 have hin : i < n := by rw [← h.len]; exact (List.getElem?_eq_some_iff.1 hi).1
 obtain ⟨b', off', y, he, hlt, hy, hc⟩ := h.read i hin
 injection he with he
 injection he with e1 e2
 subst e1 e2
 rw [hi] at hy
 obtain rfl := Option.some.inj hy
 exact ⟨hc 8 (by decide), hc 9 (by decide)⟩
def WeightsPost (w : World) (L : List Pa) (E : Int) (e : Ending) (w' : World) : Prop :=
 ∃ a n c, e = .returned (.tuple #[.slice a n c, .int .i64 E]) ∧ Rd Pa.vals 14 w' a n L ∧ Below w.heap.size w w' ∧ ∀ p, a = some p → w.heap.size ≤ p.block ∧ p.block < w'.heap.size ∧ ∀ j, w'.frozen? ⟨p.block, j, none⟩ = false
theorem weigh_all {w' : World} {n1 : Nat} {pa ta tp : Option Addr} {xs : List Pa} {known loss : Int} (h : WeighAt w' n1 pa ta tp ((rootT xs known loss).bind solveT)) (h0 : weighE xs known loss true = 0) :
 ∃ t, tp = some ⟨t.b, 0, none⟩ ∧ TreeAt t.bs w' t ∧ Bd t ∧ (∀ x ∈ t.bs, n1 ≤ x) ∧ ∀ y ∈ papersL xs known loss, ∃ k, findT t y.pack = some k ∧ (∃ a n cap, NodeAt w' k.b k.f a n cap) ∧ k.b ∈ t.bs ∧ weighP xs known loss y.pack = (k.f.endL, k.f.endH) := by
 obtain ⟨t, ht, htp, hta, htn, htb, htf, hpa, hta2⟩ := h
 obtain ⟨ho, _⟩ := root_open (weigh_root h0)
 have hmo := mani_ok (check_good (open_check ho)).1 known loss
 refine ⟨t, htp, hta, htb, htf, fun y hy => ?_⟩
 have hh : hasP xs known loss y.pack = true := by unfold hasP; rw [hmo.packs.find hy]; rfl
 have hm := weigh_find ho hh ht
 rw [pre_packs_sh] at hm
 obtain ⟨k, hk, hkm, hkp⟩ := find_of_pack hm
 have hkt := hta.preMem k hkm
 obtain ⟨a, cap, hn, _, _⟩ := hkt.at
 refine ⟨k, hk, ⟨a, _, cap, hn⟩, hkt.mem, ?_⟩
 unfold weighP
 rw [ht]
 simp only [findT_sh, hk, Option.map_some, nodeF, sh_f]
set_option maxRecDepth 100000 in
set_option maxHeartbeats 8000000 in
theorem weights_any (a : Option Addr) (n cap : Nat) (xs : List Pa) (hsh : ∀ x ∈ xs, x.Short) (known loss : Int) (w : World) (h : Rd Pa.vals 14 w a n xs) (hcap : n ≤ cap) :
 Calls Tryz.prog 12 #[.slice a n cap, .int .i64 known, .int .i64 loss] w (WeightsPost w (weightsV xs known loss) (weighE xs known loss true)) := by
 have CW := Hd (weighed_any a n cap xs hsh known loss 27 #[] (fun _ _ => rfl) true w h hcap there_always)
 clear h
 unfold WeighPost at CW
 have hpl := (papersO_len xs known loss).1
 obtain ⟨E, hE⟩ : ∃ c, weighE xs known loss true = c := ⟨_, rfl⟩
 obtain ⟨WV, hWV⟩ : ∃ c, weightsV xs known loss = c := ⟨_, rfl⟩
 have HE := Hd hE
 have HWV := Hd hWV
 rw [hE] at CW ⊢
 rw [hWV]
 clear hE hWV
 go_enter Tryz.func12, Tryz.ntmps12
 go_upto_region 2 with (go_at_call 32; refine CW.out.mono ?_; rintro e w3 ⟨pa, pn, pc, ta, tn, tc, tp, rfl, hrp, hrt, hB2, htree⟩)
 have hBa := al' (Below.refl w3.heap.size w3) (.cells #[.slice pa pn pc, .slice ta tn tc] 62)
 have HBw := Hd (hB2.trans (hBa.mono hB2.size))
 by_cases h0 : E = 0
 case neg =>
  have h1 : (E != 0) = true := by simp [h0]
  have HV := Hd (show WV = [] from by rw [← HWV.out]; unfold weightsV; rw [HE.out, if_neg h0])
  generalize w3.alloc (.cells #[.slice pa pn pc, .slice ta tn tc] 62) = w4 at *
  clear h0 hrp hrt htree hBa hB2 CW
  go_wp2_with fail
  exact bodyPost_ret (by simp [results, Tryz.results12, go_sem]) rfl (show WeightsPost w WV E (.returned (.tuple #[.slice none 0 0, .int .i64 E])) w4 from ⟨none, 0, 0, rfl, by rw [HV.out]; exact Rd.empty _ _, HBw.out, fun p e => by cases e⟩)
 case pos =>
 subst h0
 obtain ⟨n1, hn1, hat⟩ := htree rfl
 obtain ⟨t, rfl, hta, htb, htf, hfind⟩ := weigh_all hat HE.out
 have ho := (root_open (weigh_root HE.out)).1
 have hpo := (open_some (known := known) ho).1
 have hWV2 : WV = (papersO xs known loss).map (fun x => withEnds x (weighP xs known loss x.pack)) := by
  rw [← HWV.out, hpo]; unfold weightsV; rw [if_pos HE.out]; rfl
 rw [← hpo] at hfind
 obtain ⟨PS, hPS⟩ : ∃ c, papersO xs known loss = c := ⟨_, rfl⟩
 rw [hPS] at hrp hpl hWV2 hfind
 obtain ⟨_, _, e1, hrd, _⟩ := own_open hrp rfl (by unfold maxLen; omega)
 injection e1 with e1 e2 e3
 subst e1 e2 e3
 have hb0 := BoxG.made w3 [.slice pa PS.length pc, .slice ta tn tc] 62
 have HTa := Hd (hta.below' hBa)
 have HTb := Hd htb
 have HTl := Hd (fun x hx => Nat.lt_of_lt_of_le (hta.bs_lt x hx) hBa.size)
 have HFd := Hd (show ∀ y ∈ PS, ∃ k, findT t y.pack = some k ∧ (∃ a n cap, NodeAt (w3.alloc (.cells #[.slice pa PS.length pc, .slice ta tn tc] 62)) k.b k.f a n cap) ∧ k.b ∈ t.bs ∧ weighP xs known loss y.pack = (k.f.endL, k.f.endH) from fun y hy => by
  obtain ⟨k, h1, ⟨a, n, c, h2⟩, h3, h4⟩ := hfind y hy
  exact ⟨k, h1, ⟨a, n, c, h2.below' hBa⟩, h3, h4⟩)
 have HRp := Hd (hrd.below' hBa)
 have HWm := Hd hWV2
 obtain ⟨m0, _, _, _⟩ := pair_facts hb0
 clear hrp hrt hat htree hBa hB2 CW hta htb htf hfind ho hpo hrd hn1 hb0 hPS hWV2
 generalize w3.alloc (.cells #[.slice pa PS.length pc, .slice ta tn tc] 62) = w4 at *
 obtain ⟨pn, hpn⟩ : ∃ c, PS.length = c := ⟨_, rfl⟩
 rw [hpn] at HRp hpl m0 ⊢
 have HPn := Hd hpn
 clear hpn
 obtain ⟨M, hM⟩ : ∃ M, w3.heap.size = M := ⟨_, rfl⟩
 rw [hM] at m0 ⊢
 clear hM
 have CC := Hd (clonePa_any pa pn pc PS w4 HRp.out (by omega))
 go_upto_region 5 with (go_at_call 42; refine CC.out.mono ?_; rintro e w5 ⟨v, rfl, hrow, hB5⟩)
 obtain ⟨oa, oc, rfl, hro, hob⟩ := own_open hrow HPn.out (by unfold maxLen; omega)
 obtain ⟨G, hG⟩ : ∃ G, (oa.map Addr.block).getD w4.heap.size = G := ⟨_, rfl⟩
 have hGa : ∀ p, oa = some p → p.block = G := fun p e => by rw [← hG, e]; rfl
 have hGw : w4.heap.size ≤ G := by
  rw [← hG]
  cases oa with
  | none => exact Nat.le_refl _
  | some p => exact (hob p rfl).1
 have hGt : ∀ x ∈ t.bs, x ≠ G := fun x hx => by have := HTl.out x hx; omega
 have HT5 := Hd ((show TreeAt (G :: t.bs) w4 t from HTa.out.wide (fun x hx => List.mem_cons_of_mem _ hx) (fun x hx hlt hm => by
  rcases List.mem_cons.1 hm with e | hm
  · omega
  · exact hx hm)).below' hB5)
 have HF5 := Hd (show ∀ y ∈ PS, ∃ k, findT t y.pack = some k ∧ (∃ a n cap, NodeAt w5 k.b k.f a n cap) ∧ k.b ≠ G ∧ weighP xs known loss y.pack = (k.f.endL, k.f.endH) from fun y hy => by
  obtain ⟨k, h1, ⟨a, n, c, h2⟩, h3, h4⟩ := HFd.out y hy
  exact ⟨k, h1, ⟨a, n, c, h2.below' hB5⟩, hGt _ h3, h4⟩)
 have HB5 := Hd (HBw.out.trans (hB5.mono HBw.out.size))
 have HGa := Hd hGa
 have HGt := Hd hGt
 have HGw := Hd (show w.heap.size ≤ G from Nat.le_trans HBw.out.size hGw)
 have HRo := Hd hro
 have HOb := Hd (show ∀ p, oa = some p → ∀ j, w5.frozen? ⟨p.block, j, none⟩ = false from fun p e => (hob p e).2.2)
 have HOl := Hd (show ∀ p, oa = some p → p.block < w5.heap.size from fun p e => (hob p e).2.1)
 clear hrow hro hob hG hGa hGw hGt hB5 CC HTa HTl HFd HRp HBw m0
 go_wp2_with fail
 go_loopw [29] (fun i wr => ∃ k : Nat, k ≤ pn ∧ i = .int .i64 k ∧ Rd Pa.vals 14 wr oa pn ((PS.take k).map (fun x => withEnds x (weighP xs known loss x.pack)) ++ PS.drop k) ∧ (∀ p, oa = some p → ∀ j, wr.frozen? ⟨p.block, j, none⟩ = false) ∧ Keeps [G] w5 wr) (fun i _ => pn - (intOf i).toNat)
 case atStart => exact ⟨0, Nat.zero_le _, rfl, by simpa using HRo.out, HOb.out, Keeps.refl _ _⟩
 case round =>
  obtain ⟨k, hk, rfl, hrd, hfz, hkp⟩ := hrel
  have HRd := Hd hrd
  have HFz := Hd hfz
  have HK := Hd hkp
  clear hrd hfz hkp
  by_cases hlt : k < pn
  · have hlt' : (k : Int) < (pn : Int) := by omega
    obtain ⟨x, hx⟩ : ∃ x, PS[k]? = some x := ⟨_, List.getElem?_eq_getElem (by rw [HPn.out]; exact hlt)⟩
    obtain ⟨hx1, hx2⟩ := map_step (f := fun x => withEnds x (weighP xs known loss x.pack)) hx
    obtain ⟨b, off, y, rfl, hb, hy, c0, c1, c2, c3, c4, c5, c6, c7, c8, c9, c10, c11, c12, c13⟩ := HRd.out.pa hlt
    rw [hx1] at hy
    obtain rfl := Option.some.inj hy
    have hbG : b = G := HGa.out _ rfl
    obtain ⟨kn, hf1, ⟨na, nn, nc, hf2⟩, hf3, hf4⟩ := HF5.out x (List.mem_of_getElem? hx)
    have HNd := Hd (hf2.keeps HK.out (by simpa using hf3))
    have CF := Hd (find_all (G :: t.bs) t x.pack wr (HT5.out.keeps HK.out (fun z hz => by rw [List.mem_singleton.1 hz]; simp) (fun z hz hm => HGt.out z hz (List.mem_singleton.1 hm))) HTb.out)
    rw [hf1] at CF
    simp only [Option.map_some] at CF
    have HStep := Hd (show Rd Pa.vals 14 wr (some ⟨b, off, none⟩) pn ((PS.take k).map (fun x => withEnds x (weighP xs known loss x.pack)) ++ PS.drop k) from HRd.out)
    have HX1 := Hd hx1
    have HX2 := Hd hx2
    have HV := Hd hf4
    have HbG := Hd hbG
    clear hx hx1 hx2 hy hbG hf1 hf2 hf3 hf4 c0 c1 c2 c3 c5 c6 c7 c8 c9 c10 c11 c12 c13 HRd
    go_upto_region 8 with (fail)
    go_wp2_with (go_at_call 34; refine CF.out.mono ?_; rintro e w7 ⟨rfl, hB7⟩; have hn7 := HNd.out.below' hB7; have c23 := hn7.c23; have c24 := hn7.c24; have nl := hn7.lt; obtain ⟨d8, d9⟩ := (HStep.out.below' hB7).two HX1.out; have gl := World.block_lt_of_cell? _ _ d8; have gf : ∀ j, w7.frozen? ⟨b, j, none⟩ = false := fun j => (hB7.frozen (p := ⟨b, j, none⟩) hb).trans (HFz.out _ rfl j); have gf8 := gf (off + k * 14 + 8); have gf9 := gf (off + k * 14 + 8 + 1))
    have hr9 := (HStep.out.below' hB7).set_ends HX1.out kn.f.endL kn.f.endH
    rw [← HV.out, HX2.out] at hr9
    exact ⟨⟨k + 1, by omega, by go_num, hr9, fun p e j => by
     rw [World.frozen?_setCell, World.frozen?_setCell]
     injection e with e
     subst e
     exact gf j, ((HK.out.then_below hB7).then_set ⟨b, _, none⟩ _ (.inl (by rw [HbG.out]; simp))).then_set ⟨b, _, none⟩ _ (.inl (by rw [HbG.out]; simp))⟩, by simp [intOf]; omega⟩
  · have hltg : ¬ (k : Int) < (pn : Int) := by omega
    have HFin := Hd (show Rd Pa.vals 14 wr oa pn WV from by
     have h1 := HRd.out
     rw [List.take_of_length_le (by rw [HPn.out]; omega), List.drop_of_length_le (by rw [HPn.out]; omega), List.append_nil, ← HWm.out] at h1
     exact h1)
    have HBf := Hd (HK.out.below_then HB5.out (fun y hy => by rw [List.mem_singleton.1 hy]; exact HGw.out) (Nat.le_refl _))
    have HLs := Hd (fun p e => Nat.lt_of_lt_of_le (HOl.out p e) HK.out.size)
    clear hlt HRd
    go_wp2_with fail
    exact bodyPost_ret (by simp [results, Tryz.results12, go_sem]) rfl (show WeightsPost w WV 0 (.returned (.tuple #[.slice oa pn oc, .int .i64 0])) wr from ⟨oa, pn, oc, rfl, HFin.out, HBf.out, fun p e => ⟨by rw [HGa.out p e]; exact HGw.out, HLs.out p e, HFz.out p e⟩⟩)
end Go.Proofs.YtehplmeckfinoaaGreatDoor
