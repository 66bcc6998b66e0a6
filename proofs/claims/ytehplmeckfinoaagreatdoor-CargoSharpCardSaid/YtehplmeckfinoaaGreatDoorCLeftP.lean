/- Wider weights make wider ends: the plain law (no dump). -/
import Derived.Test.YtehplmeckfinoaaGreatDoorCEndsS
import Derived.Test.YtehplmeckfinoaaGreatDoorCGood
import Derived.Test.YtehplmeckfinoaaGreatDoorCPathP
import Derived.Test.YtehplmeckfinoaaGreatDoorCTreeE
set_option linter.unusedSimpArgs false
set_option linter.unusedVariables false
namespace Go.Proofs.YtehplmeckfinoaaGreatDoor
theorem own_open {w : World} {base n : Nat} {v : Value} {xs : List Pa} (h : w.ownsRow base 42 14 v n (xs.flatMap Pa.vals)) (hn : xs.length = n) (hm : n ≤ maxLen) :
 ∃ a cap, v = .slice a n cap ∧ Rd Pa.vals 14 w a n xs ∧ ∀ p, a = some p → base ≤ p.block ∧ p.block < w.heap.size ∧ ∀ j, w.frozen? ⟨p.block, j, none⟩ = false := by
 obtain ⟨a, cap, rfl, _, hr, hb⟩ := Rd.of_own h Pa.vals_length (by decide) hn hm
 refine ⟨a, cap, rfl, hr, fun p e => ⟨(hb p e).1, (hb p e).2, fun j => ?_⟩⟩
 rcases h.2 with ⟨h1, _⟩ | ⟨g, c, cur, h1, _, hg, _⟩
 · injection h1 with h1
   rw [h1] at e
   cases e
 · injection h1 with h1
   rw [h1] at e
   injection e with e
   subst e
   exact frz0 hg j
theorem follows_fresh {l : List Pa} {x : Pa} (h : followsL l x = 0) : ∀ y ∈ l, y.id ≠ x.id := by
 intro y hy e
 have ha : l.any (fun y => decide (y.id = x.id)) = true := List.any_eq_true.2 ⟨y, hy, decide_eq_true e⟩
 unfold followsL at h
 split at h
 · cases h
 · split at h
   · cases h
   · first | omega | (rw [if_pos ha] at h; omega)
theorem ids_differ {l : List Pa} (h : (checkC l).2 = 0) {i j : Nat} {y z : Pa} (hy : l[i]? = some y) (hz : l[j]? = some z) (hij : i < j) : y.id ≠ z.id := by
 have hj := (List.getElem?_eq_some_iff.1 hz).1
 have hf := checkFrom_all l.length 0 h j (by omega) (by omega) z hz
 refine follows_fresh hf y ?_
 exact List.mem_of_getElem? (show (l.take j)[i]? = some y from by rw [List.getElem?_take, if_pos hij]; exact hy)
mutual
inductive Wid : Tr → Tr → Prop
 | node {b b' : Nat} {f f' : Nf} {ks ks' : List Tr} (hp : f'.pack = f.pack) (hm : f'.missing = f.missing) (h1 : f'.ownL ≤ f.ownL) (h2 : f.ownH ≤ f'.ownH) (h3 : f'.sumL ≤ f.sumL) (h4 : f.sumH ≤ f'.sumH) (hk : WidL ks ks') : Wid (.node b f ks) (.node b' f' ks')
inductive WidL : List Tr → List Tr → Prop
 | nil : WidL [] []
 | cons {x x' : Tr} {r r' : List Tr} (h : Wid x x') (hl : x'.f.low ≤ x.f.low) (hr : WidL r r') : WidL (x :: r) (x' :: r')
end
theorem Wid.fs {t t' : Tr} (h : Wid t t') : t'.f.pack = t.f.pack ∧ t'.f.ownL ≤ t.f.ownL ∧ t.f.ownH ≤ t'.f.ownH := by
 cases h with
 | node hp hm h1 h2 h3 h4 hk => exact ⟨hp, h1, h2⟩
theorem WidL.own : ∀ {ks ks' : List Tr}, WidL ks ks' → sumOwn ks ≤ sumOwn ks' ∧ sumLow ks' ≤ sumLow ks
 | [], _, h => by cases h; exact ⟨Int.le_refl _, Int.le_refl _⟩
 | x :: r, _, h => by
   cases h with
   | cons h hl hr =>
     obtain ⟨h1, h2⟩ := WidL.own hr
     have h3 := h.fs.2.2
     simp only [sumOwn_cons, sumLow_cons]
     omega
mutual
theorem wid_rise : ∀ (t t' u : Tr), Wid t t' → riseT t = some u → ∃ u', riseT t' = some u' ∧ Wid u u' ∧ u'.f.low ≤ u.f.low
 | .node b f ks, t', u, h, e => by
   cases h with
   | @node _ b' _ f' _ ks' hp hm h1 h2 h3 h4 hk =>
     unfold riseT at e
     cases er : riseL ks with
     | none => rw [er] at e; simp at e
     | some us =>
       rw [er] at e
       simp only at e
       split at e
       · cases e
       · rename_i hn
         cases e
         obtain ⟨us', e', hw⟩ := wid_riseL ks ks' us hk er
         obtain ⟨g1, g2⟩ := hw.own
         have hn' : ¬ (min (f'.missing * 100000 + sumOwn us') f'.sumH < max (f'.missing + sumLow us') f'.sumL ∨ f'.ownH < max (f'.missing + sumLow us') f'.sumL) := by
          rw [hm]; omega
         refine ⟨.node b' { f' with low := max f'.ownL (max (f'.missing + sumLow us') f'.sumL) } us', ?_, .node hp hm h1 h2 h3 h4 hw, ?_⟩
         · unfold riseT
           rw [e']
           simp only
           rw [if_neg hn']
         · show max f'.ownL (max (f'.missing + sumLow us') f'.sumL) ≤ max f.ownL (max (f.missing + sumLow us) f.sumL)
           rw [hm]; omega
theorem wid_riseL : ∀ (ks ks' us : List Tr), WidL ks ks' → riseL ks = some us → ∃ us', riseL ks' = some us' ∧ WidL us us'
 | [], ks', us, h, e => by
   cases h
   unfold riseL at e
   cases e
   exact ⟨[], rfl, .nil⟩
 | x :: r, ks', us, h, e => by
   cases h with
   | @cons _ x' _ r' hx hl hr =>
     unfold riseL at e
     cases e1 : riseT x with
     | none => rw [e1] at e; simp at e
     | some y =>
       rw [e1] at e
       simp only at e
       cases e2 : riseL r with
       | none => rw [e2] at e; simp at e
       | some ys =>
         rw [e2] at e
         cases e
         obtain ⟨y', a1, a2, a3⟩ := wid_rise x x' y hx e1
         obtain ⟨ys', b1, b2⟩ := wid_riseL r r' ys hr e2
         exact ⟨y' :: ys', by unfold riseL; rw [a1]; simp only; rw [b1], .cons a2 a3 b2⟩
end
inductive WE : List Tr → List Tr → Prop
 | nil : WE [] []
 | cons {x x' : Tr} {r r' : List Tr} (hp : x'.f.pack = x.f.pack) (hl : x'.f.endL ≤ x.f.endL) (hh : x.f.endH ≤ x'.f.endH) (hr : WE r r') : WE (x :: r) (x' :: r')
theorem WE.append : ∀ {a a' b b' : List Tr}, WE a a' → WE b b' → WE (a ++ b) (a' ++ b')
 | [], _, _, _, h, h2 => by cases h; exact h2
 | x :: r, _, _, _, h, h2 => by
   cases h with
   | cons hp hl hh hr => exact .cons hp hl hh (hr.append h2)
theorem WE.find : ∀ {a a' : List Tr} {p : Int} {k : Tr}, WE a a' → a.find? (fun k => decide (k.f.pack = p)) = some k → ∃ k', a'.find? (fun k => decide (k.f.pack = p)) = some k' ∧ k'.f.endL ≤ k.f.endL ∧ k.f.endH ≤ k'.f.endH
 | [], _, _, _, _, e => by simp at e
 | x :: r, _, p, k, h, e => by
   cases h with
   | @cons _ x' _ r' hp hl hh hr =>
     by_cases hx : x.f.pack = p
     · rw [List.find?_cons_of_pos (by simpa using hx)] at e
       cases e
       exact ⟨x', List.find?_cons_of_pos (by simpa using hp.trans hx), hl, hh⟩
     · rw [List.find?_cons_of_neg (by simpa using hx)] at e
       obtain ⟨k', h1, h2⟩ := hr.find e
       exact ⟨k', by rw [List.find?_cons_of_neg (by simpa using fun e => hx (hp.symm.trans e))]; exact h1, h2⟩
mutual
theorem wid_sink : ∀ (u u' : Tr) (lo hi lo' hi' : Int), Wid u u' → lo' ≤ lo → hi ≤ hi' → WE (sinkT lo hi u).pre (sinkT lo' hi' u').pre
 | .node b f ks, u', lo, hi, lo', hi', h, h1, h2 => by
   cases h with
   | @node _ b' _ f' _ ks' hp hm g1 g2 g3 g4 hk =>
     obtain ⟨o1, o2⟩ := hk.own
     unfold sinkT
     simp only [Tr.pre]
     exact wid_sinkL ks ks' _ _ _ _ _ _ _ _ hk (by omega) g3 (by rw [hm]; omega) (by rw [hm]; omega)
theorem wid_sinkL : ∀ (ks ks' : List Tr) (top sl a c top' sl' a' c' : Int), WidL ks ks' → top ≤ top' → sl' ≤ sl → (a' ≤ a ∧ sumLow ks - sumLow ks' ≤ a - a') → (c ≤ c' ∧ sumOwn ks' - sumOwn ks ≤ c' - c) → WE (preL (sinkL top sl a c ks)) (preL (sinkL top' sl' a' c' ks'))
 | [], ks', _, _, _, _, _, _, _, _, h, _, _, _, _ => by cases h; simp only [sinkL, preL]; exact .nil
 | x :: r, ks', top, sl, a, c, top', sl', a', c', h, h1, h2, h3, h4 => by
   cases h with
   | @cons _ x' _ r' hx hl hr =>
     obtain ⟨o1, o2⟩ := hr.own
     obtain ⟨q1, q2, q3⟩ := hx.fs
     simp only [sumLow_cons, sumOwn_cons] at h3 h4
     have e1 := sinkT_ends (max x.f.low (sl - (c - x.f.ownH))) (min x.f.ownH (top - (a - x.f.low))) x
     have e2 := sinkT_ends (max x'.f.low (sl' - (c' - x'.f.ownH))) (min x'.f.ownH (top' - (a' - x'.f.low))) x'
     have p1 : ∀ (lo hi : Int) (t : Tr), (sinkT lo hi t).f.pack = t.f.pack := fun lo hi t => by cases t; rfl
     have hlo : max x'.f.low (sl' - (c' - x'.f.ownH)) ≤ max x.f.low (sl - (c - x.f.ownH)) := by omega
     have hhi : min x.f.ownH (top - (a - x.f.low)) ≤ min x'.f.ownH (top' - (a' - x'.f.low)) := by omega
     simp only [sinkL, preL]
     refine .cons (by rw [p1, p1, q1]) (by rw [e1.1, e2.1]; exact hlo) (by rw [e1.2, e2.2]; exact hhi) (WE.append ?_ ?_)
     · exact wid_sink x x' _ _ _ _ hx hlo hhi
     · exact wid_sinkL r r' _ _ _ _ _ _ _ _ hr h1 h2 (by omega) (by omega)
end
theorem wid_solve {t t' s : Tr} (h : Wid t t') (e : solveT t = some s) : ∃ s', solveT t' = some s' ∧ WE s.pre s'.pre := by
 unfold solveT at e
 split at e
 · cases e
 · rename_i u hu
   cases e
   obtain ⟨u', e', hw, _⟩ := wid_rise t t' u h hu
   have hf := hw.fs
   exact ⟨sinkT u'.f.ownL u'.f.ownH u', by unfold solveT; rw [e'], wid_sink u u' _ _ _ _ hw hf.2.1 hf.2.2⟩
theorem mapO_wid {g g' : Int → Option Tr} : ∀ {l : List Int} {ys : List Tr}, (∀ x ∈ l, ∀ y, g x = some y → ∃ y', g' x = some y' ∧ Wid y y' ∧ y'.f.low ≤ y.f.low) → mapO g l = some ys → ∃ ys', mapO g' l = some ys' ∧ WidL ys ys'
 | [], ys, _, e => by simp only [mapO] at e; cases e; exact ⟨[], rfl, .nil⟩
 | x :: r, ys, h, e => by
   simp only [mapO] at e
   cases e1 : g x with
   | none => rw [e1] at e; simp at e
   | some y =>
     rw [e1] at e
     simp only at e
     cases e2 : mapO g r with
     | none => rw [e2] at e; simp at e
     | some q =>
       rw [e2] at e
       cases e
       obtain ⟨y', a1, a2, a3⟩ := h x (by simp) y e1
       obtain ⟨q', b1, b2⟩ := mapO_wid (fun z hz => h z (List.mem_cons_of_mem _ hz)) e2
       exact ⟨y' :: q', by simp only [mapO, a1, b1], .cons a2 a3 b2⟩
theorem WidL.len : ∀ {ks ks' : List Tr}, WidL ks ks' → ks'.length = ks.length
 | [], _, h => by cases h; rfl
 | x :: r, _, h => by cases h with | cons h hl hr => simp only [List.length_cons, hr.len]
theorem grow_wid {ps ts : List Pa} (hmo : ManiOk ps ts) {has has' : Int → Bool} (hh : ∀ i, has' i = true → has i = true) : ∀ (d : Nat) (pack oL oH oL' oH' : Int) (t : Tr), oL' ≤ oL → oH ≤ oH' → growT ps ts has d pack oL oH = some t → ∃ t', growT ps ts has' d pack oL' oH' = some t' ∧ Wid t t' ∧ t'.f.low ≤ t.f.low
 | 0, pack, oL, oH, oL', oH', t, _, _, e => by simp only [growT] at e; cases e
 | d + 1, pack, oL, oH, oL', oH', t, h1, h2, e => by
   simp only [growT] at e
   split at e
   · cases e
   · rename_i ks hks
     split at e
     · cases e
     · rename_i hm
       cases e
       obtain ⟨ks', e', hw⟩ := mapO_wid (g' := fun p => growT ps ts has' d p (ownOf has' ((ofI ps p).getD pa0)).1 (ownOf has' ((ofI ps p).getD pa0)).2) (fun p hp y hy => by
        obtain ⟨x, hx, _, hxp⟩ := inside_mem hp
        have hf := hmo.packs.find hx
        rw [hxp] at hf
        rw [hf] at hy ⊢
        have hb := (hmo.pp x hx).2.2.1
        have hi := hh x.id
        refine grow_wid hmo hh d p _ _ _ _ y ?_ ?_ hy
        · simp only [Option.getD_some, ownOf]
          cases e1 : has' x.id <;> cases e2 : has x.id <;> simp_all <;> omega
        · simp only [Option.getD_some, ownOf]
          cases e1 : has' x.id <;> cases e2 : has x.id <;> simp_all <;> omega) hks
       have hl := hw.len
       have hg : growT ps ts has' (d + 1) pack oL' oH' = some (.node 0 ⟨pack, oL', oH', (sumsOf has' (ofI ts pack)).1, (sumsOf has' (ofI ts pack)).2, missOf (ofI ts pack) ks'.length, 0, 0, 0⟩ ks') := by
        simp only [growT]; rw [e']; simp only; rw [if_neg (by rw [hl]; exact hm)]
       refine ⟨_, hg, .node rfl (by simp only; rw [hl]) h1 h2 ?_ ?_ hw, Int.le_refl _⟩
       · simp only
         cases e3 : ofI ts pack with
         | none => simp [sumsOf]
         | some x =>
           have hb := (hmo.tt x (ofI_mem e3).1).2.1
           have hi := hh x.id
           simp only [sumsOf]
           cases e1 : has' x.id <;> cases e2 : has x.id <;> simp_all <;> omega
       · simp only
         cases e3 : ofI ts pack with
         | none => simp [sumsOf]
         | some x =>
           have hb := (hmo.tt x (ofI_mem e3).1).2.1
           have hi := hh x.id
           simp only [sumsOf]
           cases e1 : has' x.id <;> cases e2 : has x.id <;> simp_all <;> omega
mutual
theorem wid_pre : ∀ (t t' : Tr), Wid t t' → t'.pre.length = t.pre.length
 | .node b f ks, t', h => by
   cases h with
   | node hp hm h1 h2 h3 h4 hk => simp only [Tr.pre]; exact widL_pre ks _ hk
theorem widL_pre : ∀ (ks ks' : List Tr), WidL ks ks' → (preL ks').length = (preL ks).length
 | [], ks', h => by cases h; rfl
 | x :: r, ks', h => by
   cases h with
   | @cons _ x' _ r' hx hl hr =>
     simp only [preL, List.length_cons, List.length_append, wid_pre x x' hx, widL_pre r r' hr]
end
theorem tree_wid {ps ts : List Pa} (hmo : ManiOk ps ts) {has has' : Int → Bool} (hh : ∀ i, has' i = true → has i = true) {t : Tr} (e : treeT ps ts has = some t) : ∃ t', treeT ps ts has' = some t' ∧ Wid t t' := by
 unfold treeT at e
 split at e
 · cases e
 · rename_i q hq
   split at e
   · rename_i hl
     cases e
     obtain ⟨q', h1, h2, _⟩ := grow_wid hmo hh _ _ _ _ _ _ t (Int.le_refl _) (Int.le_refl _) hq
     refine ⟨q', ?_, h2⟩
     unfold treeT
     rw [h1]
     simp only
     rw [if_pos (by rw [wid_pre t q' h2]; exact hl)]
   · cases e
open Go.RowKit Go.Shelf
def refL (still : List Int → Bool) : Nat → List Int → List Int
 | 0, kept => kept
 | i + 1, kept => refL still i (if still (kept.eraseIdx i) then kept.eraseIdx i else kept)
theorem refL_left (still : List Int → Bool) : ∀ (pre suf : List Int), (pre ++ suf).Nodup → refL still pre.length (pre ++ suf) = leftR still pre.reverse (pre ++ suf) :=
 foldl_snoc_ind (β := Unit) (P := fun pre => ∀ suf, (pre ++ suf).Nodup → refL still pre.length (pre ++ suf) = leftR still pre.reverse (pre ++ suf)) (fun suf _ => rfl) (fun q x ih suf hn => by
  have e1 : (q ++ [x] ++ suf).eraseIdx q.length = q ++ suf := by
   rw [List.append_assoc, List.eraseIdx_append_of_length_le (Nat.le_refl _), Nat.sub_self]
   rfl
  have hn2 : (q ++ ([x] ++ suf)).Nodup := by rw [← List.append_assoc]; exact hn
  have hx : ∀ y ∈ q ++ suf, y ≠ x := by
   intro y hy e
   subst e
   rw [List.nodup_append] at hn2
   obtain ⟨_, h2, h3⟩ := hn2
   rcases List.mem_append.1 hy with hy | hy
   · exact h3 y hy y (by simp) rfl
   · rw [List.singleton_append, List.nodup_cons] at h2
     exact h2.1 hy
  have e2 : (q ++ [x] ++ suf).filter (fun y => !decide (y = x)) = q ++ suf := by
   rw [List.append_assoc, List.filter_append, List.filter_append, List.filter_cons, if_neg (by simp), List.filter_nil, List.nil_append]
   rw [List.filter_eq_self.2 (fun y hy => by simpa using hx y (List.mem_append_left _ hy)), List.filter_eq_self.2 (fun y hy => by simpa using hx y (List.mem_append_right _ hy))]
  have hn3 : (q ++ suf).Nodup := by
   rw [← e2]; exact hn.sublist List.filter_sublist
  rw [List.length_append, List.length_singleton]
  simp only [refL]
  rw [e1, List.reverse_append, List.reverse_singleton, List.singleton_append]
  simp only [leftR]
  rw [e2]
  by_cases hs : still (q ++ suf) = true
  · rw [if_pos hs]; exact ih suf hn3
  · rw [if_neg hs, List.append_assoc]; exact ih ([x] ++ suf) hn2)
def insA (x : Int) : List Int → List Int
 | [] => [x]
 | y :: r => if y < x then y :: insA x r else x :: y :: r
def ascR (l : List Int) : List Int := l.foldl (fun o x => insA x o) []
theorem insA_at {x : Int} : ∀ (out : List Int) (k : Nat), k ≤ out.length → (∀ y ∈ out.take k, y < x) → (∀ y, out[k]? = some y → ¬ y < x) → insA x out = out.take k ++ x :: out.drop k
 | [], k, hk, _, _ => by
   simp at hk; subst hk; rfl
 | y :: r, 0, _, _, h => by
   have := h y rfl
   simp only [insA, if_neg this, List.take_zero, List.nil_append, List.drop_zero]
 | y :: r, k + 1, hk, h1, h2 => by
   have hy := h1 y (by simp)
   simp only [insA, if_pos hy, List.take_succ_cons, List.drop_succ_cons, List.cons_append]
   rw [insA_at r k (by simpa using hk) (fun z hz => h1 z (by simp [hz])) (fun z hz => h2 z (by simpa using hz))]
theorem insA_perm (x : Int) : ∀ l : List Int, (insA x l).Perm (x :: l)
 | [] => List.Perm.refl _
 | y :: r => by
   simp only [insA]
   split
   · exact ((insA_perm x r).cons y).trans (List.Perm.swap x y r)
   · exact List.Perm.refl _
theorem insA_asc (x : Int) : ∀ l : List Int, l.Pairwise (· ≤ ·) → (insA x l).Pairwise (· ≤ ·)
 | [], _ => by simp [insA]
 | y :: r, h => by
   rw [List.pairwise_cons] at h
   simp only [insA]
   split
   · rename_i hy
     rw [List.pairwise_cons]
     refine ⟨fun z hz => ?_, insA_asc x r h.2⟩
     rcases List.mem_cons.1 ((insA_perm x r).mem_iff.1 hz) with rfl | hz
     · omega
     · exact h.1 z hz
   · rename_i hy
     rw [List.pairwise_cons, List.pairwise_cons]
     refine ⟨fun z hz => ?_, h⟩
     rcases List.mem_cons.1 hz with rfl | hz
     · omega
     · have := h.1 z hz; omega
theorem ascR_snoc (l : List Int) (x : Int) : ascR (l ++ [x]) = insA x (ascR l) := by unfold ascR; rw [List.foldl_append]; rfl
theorem ascR_facts : ∀ l : List Int, (ascR l).Pairwise (· ≤ ·) ∧ (ascR l).Perm l :=
 foldl_snoc_ind (β := Unit) (P := fun l => (ascR l).Pairwise (· ≤ ·) ∧ (ascR l).Perm l) ⟨List.Pairwise.nil, List.Perm.refl _⟩ (fun l x ih => by
  rw [ascR_snoc]
  refine ⟨insA_asc x _ ih.1, (insA_perm x _).trans ((ih.2.cons x).trans ?_)⟩
  exact (List.perm_append_singleton x l).symm)
theorem asc_one : ∀ {l m : List Int}, l.Pairwise (· ≤ ·) → m.Pairwise (· ≤ ·) → l.Perm m → l = m
 | [], m, _, _, h => h.nil_eq
 | x :: r, m, h1, h2, h => by
   cases m with
   | nil => exact absurd h.length_eq (by simp)
   | cons y q =>
     rw [List.pairwise_cons] at h1 h2
     have hx : x ∈ y :: q := h.mem_iff.1 (by simp)
     have hy : y ∈ x :: r := h.mem_iff.2 (by simp)
     have e : x = y := by
      rcases List.mem_cons.1 hx with e | hx
      · exact e
      · rcases List.mem_cons.1 hy with e | hy
        · exact e.symm
        · have := h1.1 y hy
          have := h2.1 x hx
          omega
     subst e
     rw [asc_one h1.2 h2.2 h.cons_inv]
theorem ascR_sort (l : List Int) : ascR l = l.mergeSort (fun x y => decide (x ≤ y)) := by
 obtain ⟨h1, h2⟩ := ascR_facts l
 have h3 := List.pairwise_mergeSort (le := fun x y : Int => decide (x ≤ y)) (fun a b c => by simp; omega) (fun a b => by simp; omega) l
 refine asc_one h1 (h3.imp (fun {a b} h => by simpa using h)) (h2.trans (List.mergeSort_perm l _).symm)
theorem left_ref (still : List Int → Bool) {ids : List Int} (h : ids.Nodup) : ascR (refL still ids.length ids) = leftL still ids := by
 have := refL_left still ids [] (by rw [List.append_nil]; exact h)
 rw [List.append_nil] at this
 unfold leftL
 rw [ascR_sort, this]
theorem mani_in {l : List Pa} {known loss : Int} (h : (checkC l).2 = 0) : ∀ y ∈ papersL l known loss ++ totalsL l known loss, y ∈ l := by
 intro y hy
 have hg := (check_good h).1
 rcases List.mem_append.1 hy with hy | hy
 · unfold papersL papersC at hy
   obtain ⟨p, _, e⟩ := List.mem_filterMap.1 hy
   exact (lastOf_good hg e).1
 · unfold totalsL totalsC at hy
   obtain ⟨p, _, e⟩ := List.mem_filterMap.1 hy
   split at e
   · exact (lastOf_good hg e).1
   · cases e
theorem ids_all {l : List Pa} {known loss : Int} (h : (checkC l).2 = 0) : ∀ y ∈ papersL l known loss ++ totalsL l known loss, y.id ∈ idsM (papersL l known loss) (totalsL l known loss) l := by
 intro y hy
 unfold idsM
 exact List.mem_map.2 ⟨y, List.mem_filter.2 ⟨mani_in h y hy, List.any_eq_true.2 ⟨y, hy, by simp⟩⟩, rfl⟩
theorem ids_pairwise {l : List Pa} (h : (checkC l).2 = 0) : (l.map (·.id)).Nodup := by
 unfold List.Nodup
 rw [List.pairwise_map, List.pairwise_iff_getElem]
 intro i j hi hj hij
 exact ids_differ h (List.getElem?_eq_getElem hi) (List.getElem?_eq_getElem hj) hij
theorem ids_nodup {l : List Pa} (h : (checkC l).2 = 0) (ps ts : List Pa) : (idsM ps ts l).Nodup := by
 unfold idsM
 exact (ids_pairwise h).sublist (List.filter_sublist.map _)
theorem tree_cong {ps ts : List Pa} {h1 h2 : Int → Bool} (h : ∀ x ∈ ps ++ ts, h1 x.id = h2 x.id) : treeT ps ts h1 = treeT ps ts h2 := by
 rw [← tree_lift ps ts h1, ← tree_lift ps ts h2]
 congr 1
 · exact List.map_congr_left fun x hx => by unfold liftP; rw [h x (List.mem_append_left _ hx)]
 · exact List.map_congr_left fun x hx => by unfold liftT; rw [h x (List.mem_append_right _ hx)]
def liftPs (ps : List Pa) (ids : List Int) : List Pa := ps.map (liftP (fun i => ids.contains i))
def liftTs (ts : List Pa) (ids : List Int) : List Pa := ts.map (liftT (fun i => ids.contains i))
def sideR (x : Int × Int) (upper : Bool) : Int := if upper then x.2 else x.1
theorem path_lift (ps : List Pa) (has : Int → Bool) : ∀ (d : Nat) (p : Int) (acc : List Int), pathP (ps.map (liftP has)) d p acc = pathP ps d p acc
 | 0, _, _ => rfl
 | d + 1, p, acc => by
   simp only [pathP]
   rw [path_lift ps has d, ofI_liftP]
   cases ofI ps p with
   | none => rfl
   | some x => simp only [Option.map_some, Option.getD_some, (liftP_same has x).2.1]
def endsI (ps ts : List Pa) (ids : List Int) (pack : Int) : Int × Int := endsW (liftPs ps ids) (liftTs ts ids) 300 (pathP ps 300 pack [])
def wholeI (ps ts : List Pa) (ids : List Int) : Bool := completeR (liftPs ps ids) (liftTs ts ids) 300
theorem whole_is {ps ts : List Pa} (hmo : ManiOk ps ts) (hT : (treeT ps ts (fun _ => true)).isSome = true) (ids : List Int) : doubtB ps ts ids = !wholeI ps ts ids := by
 obtain ⟨t, ht⟩ := Option.isSome_iff_exists.1 (tree_same (fun _ => true) (fun i => ids.contains i) hT)
 unfold doubtB wholeI liftPs liftTs
 rw [ht, ← complete_iff (lift_mani hmo _) ((tree_lift ps ts _).trans ht)]
 simp only [Option.bind_some]
 cases solveT t <;> rfl
theorem end_is {ps ts : List Pa} (hmo : ManiOk ps ts) (hT : (treeT ps ts (fun _ => true)).isSome = true) {pack : Int} (hk : (ofI ps pack).isSome = true) (ids : List Int) (upper : Bool) :
 endM ps ts ids pack upper = if wholeI ps ts ids then some (sideR (endsI ps ts ids pack) upper) else none := by
 obtain ⟨t, ht⟩ := Option.isSome_iff_exists.1 (tree_same (fun _ => true) (fun i => ids.contains i) hT)
 have hw := whole_is hmo hT ids
 unfold doubtB at hw
 unfold endM
 rw [ht] at hw ⊢
 simp only [Option.bind_some] at hw ⊢
 cases e : solveT t with
 | none => rw [e] at hw; simp at hw; rw [if_neg (by simp [hw])]
 | some s =>
   rw [e] at hw
   simp at hw
   rw [if_pos hw]
   have := ends_is (lift_mani hmo (fun i => ids.contains i)) ((tree_lift ps ts (fun i => ids.contains i)).trans ht) e (pack := pack) (by rw [ofI_liftP, Option.isSome_map]; exact hk)
   unfold endsI liftPs liftTs
   rw [path_lift] at this
   rw [this]
   rfl
theorem whole_less {ps ts : List Pa} (hmo : ManiOk ps ts) {t s : Tr} (ht : treeT ps ts (fun _ => true) = some t) (hs : solveT t = some s) (ids : List Int) : wholeI ps ts ids = true := by
 obtain ⟨t', h1, h2⟩ := tree_wid hmo (has' := fun i => ids.contains i) (fun _ _ => rfl) ht
 obtain ⟨s', h3, _⟩ := wid_solve h2 hs
 have := whole_is hmo (by rw [ht]; rfl) ids
 unfold doubtB at this
 rw [h1] at this
 simp only [Option.bind_some, h3, Option.isNone_some] at this
 cases hw : wholeI ps ts ids with
 | true => rfl
 | false => rw [hw] at this; cases this
def lineR (l : List Pa) (ps ts : List Pa) (pack : Int) (upper : Bool) (x : Int × Int) : List Int := ascR (refL (fun less => decide (sideR (endsI ps ts less pack) upper = sideR x upper)) (idsM ps ts l).length (idsM ps ts l))
theorem refL_cong {f g : List Int → Bool} (h : ∀ l, f l = g l) (i : Nat) (l : List Int) : refL f i l = refL g i l := by
 have : f = g := funext h
 rw [this]
theorem lineage_is {l : List Pa} {known loss pack : Int} {upper : Bool} (h : weighE l known loss (hasP l known loss pack) = 0) :
 lineageP (papersL l known loss) (totalsL l known loss) l pack upper = lineR l (papersL l known loss) (totalsL l known loss) pack upper (weighP l known loss pack) := by
 have hr := weigh_root h
 obtain ⟨h0, hh, t, ht⟩ := rootE_zero hr
 have hc := open_check h0
 have hmo := mani_ok (check_good hc).1 known loss
 have ht' : treeT (papersL l known loss) (totalsL l known loss) (fun _ => true) = some t := ht
 have hT : (treeT (papersL l known loss) (totalsL l known loss) (fun _ => true)).isSome = true := by rw [ht']; rfl
 have hs := weigh_some h
 rw [ht] at hs
 simp only [Option.bind_some] at hs
 obtain ⟨s, hs⟩ := Option.isSome_iff_exists.1 hs
 have hwp : weighP l known loss pack = ((nodeF (findT s pack)).endL, (nodeF (findT s pack)).endH) := by
  unfold weighP; rw [ht]; simp only [Option.bind_some, hs]
 have hwant : endM (papersL l known loss) (totalsL l known loss) (idsM (papersL l known loss) (totalsL l known loss) l) pack upper = some (sideR (weighP l known loss pack) upper) := by
  unfold endM
  rw [tree_cong (h2 := fun _ => true) (fun x hx => by
   have := ids_all hc x hx
   simpa using this), ht']
  simp only [Option.bind_some, hs]
  rw [hwp]; rfl
 unfold lineageP lineR
 rw [hwant, ← left_ref _ (ids_nodup hc _ _)]
 congr 1
 refine refL_cong (fun less => ?_) _ _
 unfold restsB
 rw [end_is hmo hT hh, whole_less hmo ht' hs less, if_pos rfl, Option.getD_some]
 rw [Bool.eq_iff_iff]
 simp
def doubtR (l : List Pa) (ps ts : List Pa) : List Int := ascR (refL (fun less => !wholeI ps ts less) (idsM ps ts l).length (idsM ps ts l))
theorem doubt_is {l : List Pa} {known loss : Int} (h : rootE l known loss true = 0) :
 doubtP (papersL l known loss) (totalsL l known loss) l = doubtR l (papersL l known loss) (totalsL l known loss) := by
 obtain ⟨h0, _, t, ht⟩ := rootE_zero h
 have hc := open_check h0
 have hmo := mani_ok (check_good hc).1 known loss
 have hT : (treeT (papersL l known loss) (totalsL l known loss) (fun _ => true)).isSome = true := by
  have : treeT (papersL l known loss) (totalsL l known loss) (fun _ => true) = some t := ht
  rw [this]; rfl
 unfold doubtP doubtR
 rw [← left_ref _ (ids_nodup hc _ _)]
 congr 1
 exact refL_cong (fun less => whole_is hmo hT less) _ _
end Go.Proofs.YtehplmeckfinoaaGreatDoor
