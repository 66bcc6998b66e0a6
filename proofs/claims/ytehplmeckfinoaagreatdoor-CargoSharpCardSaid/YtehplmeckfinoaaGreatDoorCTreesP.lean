/- The reference's manifests against the package's: the plain law (no dump). -/
import Derived.Test.YtehplmeckfinoaaGreatDoorCGood
import Derived.Test.YtehplmeckfinoaaGreatDoorCPathP
import Derived.Test.YtehplmeckfinoaaGreatDoorCMissing
set_option linter.unusedSimpArgs false
set_option linter.unusedVariables false
namespace Go.Proofs.YtehplmeckfinoaaGreatDoor
open Go.RowKit Go.Shelf
def countR (l : List Pa) (known : Int) : List Pa := if (checkC l).2 = 0 then countL l known else []
def lastK (c : List Pa) (loss kind pack : Int) : Option Pa := (c.filter (fun x => decide (x.loss = loss ∧ x.kind = kind ∧ x.pack = pack))).getLast?
def lastsR (c : List Pa) (loss kind : Int) : List Pa := packsU.filterMap (lastK c loss kind)
def packagesR (l : List Pa) (known loss : Int) : List Pa := lastsR (countR l known) loss 1
def isThere (ps : List Pa) (x : Pa) : Bool := decide (x.pack = 0) || (ofI ps x.pack).isSome
def totalsR (l : List Pa) (known loss : Int) : List Pa := (lastsR (countR l known) loss 2).filter (isThere (packagesR l known loss))
theorem count_good {l : List Pa} (h : (checkC l).2 = 0) (known : Int) : ∀ x ∈ countL l known, formedP x ∧ x.kind ≠ 3 := by
 intro x hx
 unfold countL at hx
 rw [List.mem_filter] at hx
 simp only [Bool.and_eq_true, decide_eq_true_eq] at hx
 exact ⟨(check_good h).1 x hx.1, hx.2.1.1⟩
theorem formed_kind {x : Pa} (h : formedP x) (h3 : x.kind ≠ 3) : (x.kind = 1 ∨ x.kind = 2) ∧ 1 ≤ x.loss ∧ x.loss ≤ 20 := by
 unfold formedP at h
 obtain ⟨h1, h2, h4 | h4 | h4⟩ := h
 · omega
 · omega
 · exact absurd h4.1 h3
theorem lastK_is {c : List Pa} (hc : ∀ x ∈ c, formedP x ∧ x.kind ≠ 3) (loss : Int) (t : Bool) (p : Int) : lastK c loss (if t then 2 else 1) p = lastOf c loss t p := by
 unfold lastK lastOf
 congr 1
 refine List.filter_congr fun x hx => ?_
 have hk := (formed_kind (hc x hx).1 (hc x hx).2).1
 rw [Bool.eq_iff_iff]
 simp only [Bool.and_eq_true, decide_eq_true_eq, beq_iff_eq]
 cases t with
 | true =>
   simp only [if_true, decide_eq_true_eq]
   constructor
   · rintro ⟨a, b, c⟩; exact ⟨⟨a, b⟩, c⟩
   · rintro ⟨⟨a, b⟩, c⟩; exact ⟨a, b, c⟩
 | false =>
   simp only [decide_eq_false_iff_not]
   constructor
   · rintro ⟨a, b, c⟩; exact ⟨⟨a, by simp at b; omega⟩, c⟩
   · rintro ⟨⟨a, b⟩, c⟩; exact ⟨a, by simp; omega, c⟩
theorem filterMap_eq {α β : Type} {f g : α → Option β} : ∀ {l : List α}, (∀ x ∈ l, f x = g x) → l.filterMap f = l.filterMap g
 | [], _ => rfl
 | x :: r, h => by
   rw [List.filterMap_cons, List.filterMap_cons, h x (by simp), filterMap_eq (fun y hy => h y (List.mem_cons_of_mem _ hy))]
theorem ofI_filterMap {f : Int → Option Pa} (hf : ∀ p x, f p = some x → x.pack = p) : ∀ (l : List Int) (p : Int), ofI (l.filterMap f) p = if p ∈ l then f p else none
 | [], p => by simp [ofI]
 | q :: r, p => by
   have ih := ofI_filterMap hf r p
   rw [List.filterMap_cons]
   by_cases hq : p = q
   · subst hq
     rw [if_pos (by simp)]
     cases e : f p with
     | none =>
       simp only
       rw [ih]
       split
       · exact e
       · rfl
     | some x =>
       simp only
       unfold ofI
       rw [List.find?_cons_of_pos (by simp [hf p x e])]
   · have hm : (p ∈ q :: r) ↔ p ∈ r := by simp [hq]
     simp only [hm]
     cases e : f q with
     | none => simp only; exact ih
     | some x =>
       simp only
       unfold ofI at ih ⊢
       rw [List.find?_cons_of_neg (by simp [hf q x e]; exact fun h => hq h.symm)]
       exact ih
theorem papersL_empty {l : List Pa} (h : (checkC l).2 = 0) {known loss : Int} (hl : within loss 1 20 = false) (t : Bool) (p : Int) : lastOf (countL l known) loss t p = none := by
 cases e : lastOf (countL l known) loss t p with
 | none => rfl
 | some x =>
   obtain ⟨h1, h2, _, _⟩ := lastOf_mem e
   have := (formed_kind (count_good h known x h1).1 (count_good h known x h1).2).2
   unfold within at hl
   simp only [decide_eq_false_iff_not] at hl
   omega
theorem packagesR_is (l : List Pa) (known loss : Int) : packagesR l known loss = papersO l known loss := by
 unfold packagesR papersO lastsR countR openE
 by_cases h : (checkC l).2 = 0
 · simp only [if_pos h]
   have hk := lastK_is (count_good h known) loss false
   have e : packsU.filterMap (lastK (countL l known) loss 1) = papersL l known loss := by
    unfold papersL papersC
    congr 1
    funext p
    exact hk p
   rw [e]
   cases hw : within loss 1 20 with
   | true => simp
   | false =>
     simp only [Bool.false_eq_true, if_false]
     rw [if_neg (by decide)]
     unfold papersL papersC
     rw [List.filterMap_eq_nil_iff]
     exact fun p _ => papersL_empty h hw false p
 · rw [if_neg h, if_neg h, if_neg h]
   rw [List.filterMap_eq_nil_iff]
   exact fun p _ => rfl
theorem totalsR_is (l : List Pa) (known loss : Int) : totalsR l known loss = totalsO l known loss := by
 unfold totalsR
 rw [packagesR_is]
 unfold totalsO papersO lastsR countR openE
 by_cases h : (checkC l).2 = 0
 · simp only [if_pos h]
   have hk := lastK_is (count_good h known) loss true
   have e : packsU.filterMap (lastK (countL l known) loss 2) = packsU.filterMap (lastOf (countL l known) loss true) := by
    congr 1
    funext p
    exact hk p
   rw [e]
   cases hw : within loss 1 20 with
   | true =>
     simp only [if_true]
     rw [List.filter_filterMap]
     unfold totalsL totalsC
     refine filterMap_eq fun p hp => ?_
     cases e2 : lastOf (countL l known) loss true p with
     | none => simp
     | some x =>
       have hx := (lastOf_mem e2).2.2.2
       have ho : ofI (papersL l known loss) p = lastOf (countL l known) loss false p := by
        unfold papersL papersC
        rw [ofI_filterMap (fun p x hx => (lastOf_mem hx).2.2.2), if_pos hp]
       by_cases hc : p = 0 ∨ (lastOf (countL l known) loss false p).isSome = true
       · rw [if_pos hc, Option.filter_some_pos]
         unfold isThere
         rw [hx, ho]
         simpa using hc
       · rw [if_neg hc, Option.filter_some_neg]
         unfold isThere
         rw [hx, ho]
         simpa using hc
   | false =>
     simp only [Bool.false_eq_true, if_false]
     rw [if_neg (by decide), if_neg (by decide)]
     rw [List.filterMap_eq_nil_iff.2 (fun p _ => papersL_empty h hw true p)]
     rfl
 · simp only [if_neg h]
   rw [show packsU.filterMap (lastK [] loss 2) = [] from List.filterMap_eq_nil_iff.2 (fun p _ => rfl)]
   rfl
theorem totals_in {l : List Pa} {known loss : Int} : ∀ s ∈ totalsL l known loss, s.pack = 0 ∨ (ofI (papersL l known loss) s.pack).isSome = true := by
 intro s hs
 unfold totalsL totalsC at hs
 obtain ⟨p, hp, he⟩ := List.mem_filterMap.1 hs
 split at he
 · rename_i hc
   have hx := (lastOf_mem he).2.2.2
   rw [hx]
   rcases hc with h0 | h0
   · exact .inl h0
   · right
     unfold papersL papersC
     rw [ofI_filterMap (fun p x hx => (lastOf_mem hx).2.2.2), if_pos hp]
     exact h0
 · cases he
def wayR (ps : List Pa) : Nat → Int → List Int → Option (List Int)
 | 0, p, acc => if p = 0 then some acc else none
 | d + 1, p, acc => if p = 0 then some acc else match ofI ps p with
   | none => none
   | some x => wayR ps d x.inn (p :: acc)
theorem way_chain {ps : List Pa} : ∀ (d : Nat) (p : Int) (acc r : List Int), wayR ps d p acc = some r → ∃ c, Chain ps (p :: c)
 | 0, p, acc, r, h => by
   simp only [wayR] at h
   split at h
   · rename_i h0; subst h0; exact ⟨[], .root⟩
   · cases h
 | d + 1, p, acc, r, h => by
   simp only [wayR] at h
   split at h
   · rename_i h0; subst h0; exact ⟨[], .root⟩
   · cases e : ofI ps p with
     | none => rw [e] at h; cases h
     | some x =>
       rw [e] at h
       obtain ⟨c, hc⟩ := way_chain d x.inn (p :: acc) r h
       obtain ⟨h1, h2⟩ := ofI_mem e
       exact ⟨x.inn :: c, by rw [← h2]; exact .step h1 hc⟩
theorem chain_way {ps : List Pa} (hp : Packs ps) : ∀ (d e : Nat) (p : Int) (c acc : List Int), Chain ps (p :: c) → c.length ≤ d → c.length < e → wayR ps d p acc = some (pathP ps e p acc)
 | 0, e, p, c, acc, h, hd, he => by
   have h0 : p = 0 := by
    refine Classical.byContradiction fun h0 => ?_
    obtain ⟨x, c', _, _, rfl, _⟩ := chain_step hp h h0
    simp at hd
   subst h0
   rw [path_end]; exact if_pos rfl
 | d + 1, e, p, c, acc, h, hd, he => by
   obtain ⟨e, rfl⟩ : ∃ k, e = k + 1 := ⟨e - 1, by omega⟩
   simp only [wayR]
   by_cases h0 : p = 0
   · rw [if_pos h0, pathP, if_pos h0]
   · rw [if_neg h0]
     obtain ⟨x, c', h1, h2, rfl, h3⟩ := chain_step hp h h0
     rw [h1, path_step h0 h1]
     simp only [List.length_cons] at hd he
     exact chain_way hp d e x.inn c' _ h3 (by omega) (by omega)
def missR (ps ts : List Pa) (pack : Int) : Int := match ofI ts pack with
 | none => 0
 | some t => t.count - ((insideI ps pack).length : Int)
theorem missR_is (ps ts : List Pa) (pack : Int) : missR ps ts pack = missOf (ofI ts pack) (insideI ps pack).length := by
 unfold missR missOf; cases ofI ts pack <;> rfl
def treeRB (ps ts : List Pa) : Bool := ps.all (fun x => (wayR ps 201 x.pack []).isSome) && ts.all (fun t => decide (0 ≤ missR ps ts t.pack))
inductive Grown (ps ts : List Pa) (has : Int → Bool) : Tr → Prop
 | node {b : Nat} {f : Nf} {ks : List Tr} (hpk : ks.map (fun k => k.f.pack) = insideI ps f.pack) (hs : (f.sumL, f.sumH) = sumsOf has (ofI ts f.pack)) (hm : f.missing = missR ps ts f.pack) (h0 : 0 ≤ f.missing)
   (ho : ∀ k ∈ ks, (k.f.ownL, k.f.ownH) = ownOf has ((ofI ps k.f.pack).getD pa0)) (hk : ∀ k ∈ ks, Grown ps ts has k) : Grown ps ts has (.node b f ks)
theorem Grown.pk {ps ts : List Pa} {has : Int → Bool} {t : Tr} (h : Grown ps ts has t) : t.ks.map (fun k => k.f.pack) = insideI ps t.f.pack := by cases h; assumption
theorem Grown.sums {ps ts : List Pa} {has : Int → Bool} {t : Tr} (h : Grown ps ts has t) : (t.f.sumL, t.f.sumH) = sumsOf has (ofI ts t.f.pack) := by cases h; assumption
theorem Grown.miss {ps ts : List Pa} {has : Int → Bool} {t : Tr} (h : Grown ps ts has t) : t.f.missing = missR ps ts t.f.pack ∧ 0 ≤ t.f.missing := by cases h; exact ⟨by assumption, by assumption⟩
theorem Grown.kids {ps ts : List Pa} {has : Int → Bool} {t : Tr} (h : Grown ps ts has t) : ∀ k ∈ t.ks, Grown ps ts has k ∧ (k.f.ownL, k.f.ownH) = ownOf has ((ofI ps k.f.pack).getD pa0) := by
 cases h with
 | node hpk hs hm h0 ho hk => exact fun k hk' => ⟨hk k hk', ho k hk'⟩
theorem mapO_map {α β γ : Type} {g : α → Option β} {u : β → γ} {v : α → γ} (hg : ∀ x y, g x = some y → u y = v x) : ∀ {l : List α} {ys : List β}, mapO g l = some ys → ys.map u = l.map v
 | [], ys, h => by simp only [mapO] at h; cases h; rfl
 | z :: r, ys, h => by
   simp only [mapO] at h
   cases e : g z with
   | none => rw [e] at h; simp at h
   | some z' =>
     rw [e] at h
     simp only at h
     cases e2 : mapO g r with
     | none => rw [e2] at h; simp at h
     | some r' =>
       rw [e2] at h
       cases h
       rw [List.map_cons, List.map_cons, hg z z' e, mapO_map hg e2]
theorem mapO_all {α β : Type} {g : α → Option β} : ∀ {l : List α}, (∀ x ∈ l, ∃ y, g x = some y) → ∃ ys, mapO g l = some ys
 | [], _ => ⟨[], rfl⟩
 | z :: r, h => by
   obtain ⟨y, hy⟩ := h z (by simp)
   obtain ⟨ys, hys⟩ := mapO_all (fun x hx => h x (List.mem_cons_of_mem _ hx))
   exact ⟨y :: ys, by simp only [mapO, hy, hys]⟩
theorem grow_grown {ps ts : List Pa} {has : Int → Bool} : ∀ (d : Nat) (pack oL oH : Int) (t : Tr), growT ps ts has d pack oL oH = some t → Grown ps ts has t ∧ t.f.pack = pack ∧ t.f.ownL = oL ∧ t.f.ownH = oH
 | 0, pack, oL, oH, t, h => by simp only [growT] at h; cases h
 | d + 1, pack, oL, oH, t, h => by
   simp only [growT] at h
   split at h
   · cases h
   · rename_i ks hks
     split at h
     · cases h
     · rename_i hm
       have h' := Option.some.inj h
       subst h'
       obtain ⟨hl, hmem⟩ := mapO_mem hks
       have hpk : ks.map (fun k => k.f.pack) = insideI ps pack := by
        rw [mapO_map (u := fun k : Tr => k.f.pack) (v := fun p => p) (fun x y e => growT_pack e) hks, List.map_id']
       refine ⟨.node hpk rfl ?_ ?_ ?_ ?_, rfl, rfl, rfl⟩
       · simp only; rw [missR_is, hl]
       · simp only; omega
       · intro k hk
         obtain ⟨p, _, hg⟩ := hmem k hk
         obtain ⟨_, h2, h3, h4⟩ := grow_grown d p _ _ k hg
         rw [h2, h3, h4]
       · intro k hk
         obtain ⟨p, _, hg⟩ := hmem k hk
         exact (grow_grown d p _ _ k hg).1
theorem kids_preL : ∀ {ks : List Tr} {k : Tr}, k ∈ ks → k ∈ preL ks
 | [], k, h => by simp at h
 | x :: r, k, h => by
   simp only [preL, List.mem_cons, List.mem_append]
   rcases List.mem_cons.1 h with rfl | h
   · exact .inl rfl
   · exact .inr (.inr (kids_preL h))
theorem kids_pre {t k : Tr} (h : k ∈ t.ks) : k ∈ t.pre := by cases t; simp only [Tr.pre]; exact kids_preL h
mutual
theorem pre_kids : ∀ (t : Tr) {k q : Tr}, k ∈ t.pre → q ∈ k.ks → q ∈ t.pre
 | .node b f ks, k, q, h, hq => by simp only [Tr.pre] at h ⊢; exact preL_kids ks h hq
theorem preL_kids : ∀ (l : List Tr) {k q : Tr}, k ∈ preL l → q ∈ k.ks → q ∈ preL l
 | [], k, q, h, hq => by simp [preL] at h
 | x :: r, k, q, h, hq => by
   simp only [preL, List.mem_cons, List.mem_append] at h ⊢
   rcases h with rfl | h | h
   · exact .inr (.inl (kids_pre hq))
   · exact .inr (.inl (pre_kids x h hq))
   · exact .inr (.inr (preL_kids r h hq))
end
mutual
theorem grown_pre {ps ts : List Pa} {has : Int → Bool} : ∀ (t : Tr), Grown ps ts has t → ∀ k ∈ t.pre, Grown ps ts has k ∧ (k.f.ownL, k.f.ownH) = ownOf has ((ofI ps k.f.pack).getD pa0)
 | .node b f ks, h, k, hk => by simp only [Tr.pre] at hk; exact grown_preL ks h.kids k hk
theorem grown_preL {ps ts : List Pa} {has : Int → Bool} : ∀ (l : List Tr), (∀ k ∈ l, Grown ps ts has k ∧ (k.f.ownL, k.f.ownH) = ownOf has ((ofI ps k.f.pack).getD pa0)) → ∀ k ∈ preL l, Grown ps ts has k ∧ (k.f.ownL, k.f.ownH) = ownOf has ((ofI ps k.f.pack).getD pa0)
 | [], h, k, hk => by simp [preL] at hk
 | x :: r, h, k, hk => by
   simp only [preL, List.mem_cons, List.mem_append] at hk
   rcases hk with rfl | hk | hk
   · exact h _ (by simp)
   · exact grown_pre x (h x (by simp)).1 k hk
   · exact grown_preL r (fun y hy => h y (List.mem_cons_of_mem _ hy)) k hk
end
theorem grow_fits {ps ts : List Pa} {has : Int → Bool} (hp : Packs ps) (hm : ∀ s ∈ ts, 0 ≤ missR ps ts s.pack) : ∀ (d : Nat) (pack oL oH : Int) (c : List Int), Chain ps (pack :: c) → ps.length + 1 ≤ d + c.length → ∃ t, growT ps ts has d pack oL oH = some t
 | 0, pack, oL, oH, c, h, hd => by
   have := h.len hp
   simp only [List.length_cons] at this
   omega
 | d + 1, pack, oL, oH, c, h, hd => by
   obtain ⟨ks, hks⟩ : ∃ ks, mapO (fun p => growT ps ts has d p (ownOf has ((ofI ps p).getD pa0)).1 (ownOf has ((ofI ps p).getD pa0)).2) (insideI ps pack) = some ks := mapO_all (fun p hpm => by
    obtain ⟨x, hx, hxi, hxp⟩ := inside_mem hpm
    have hch : Chain ps (p :: pack :: c) := by
     rw [← hxp, ← hxi]; rw [← hxi] at h; exact .step hx h
    exact grow_fits hp hm d p _ _ (pack :: c) hch (by simp only [List.length_cons]; omega))
   simp only [growT]
   rw [hks]
   simp only
   rw [if_neg (by
    rw [(mapO_mem hks).1, ← missR_is]
    unfold missR
    cases e : ofI ts pack with
    | none => simp
    | some s =>
      obtain ⟨h1, h2⟩ := ofI_mem e
      have := hm s h1
      unfold missR at this
      rw [h2, e] at this
      simp only at this ⊢
      omega)]
   exact ⟨_, rfl⟩
theorem chain_in {ps ts : List Pa} {has : Int → Bool} {t : Tr} (hg : Grown ps ts has t) (h0 : t.f.pack = 0) : ∀ (c : List Int) (p : Int), Chain ps (p :: c) → p = 0 ∨ p ∈ t.pre.map (fun k => k.f.pack)
 | [], p, h => by
   cases h with
   | root => exact .inl rfl
 | q :: c, p, h => by
   cases h with
   | @step x c' hx h =>
     have hin : x.pack ∈ insideI ps x.inn := by
      unfold insideI
      exact List.mem_map.2 ⟨x, List.mem_filter.2 ⟨hx, by simp⟩, rfl⟩
     rcases chain_in hg h0 c x.inn h with h1 | h1
     · have := hg.pk
       rw [h0, ← h1] at this
       rw [← this] at hin
       obtain ⟨k, hk, he⟩ := List.mem_map.1 hin
       exact .inr (List.mem_map.2 ⟨k, kids_pre hk, he⟩)
     · obtain ⟨k, hk, he⟩ := List.mem_map.1 h1
       have := (grown_pre t hg k hk).1.pk
       rw [he] at this
       rw [← this] at hin
       obtain ⟨q, hq, he2⟩ := List.mem_map.1 hin
       exact .inr (List.mem_map.2 ⟨q, pre_kids t hk hq, he2⟩)
theorem tree_iff {ps ts : List Pa} (hmo : ManiOk ps ts) (hin : ∀ s ∈ ts, s.pack = 0 ∨ (ofI ps s.pack).isSome = true) (has : Int → Bool) : (treeT ps ts has).isSome = treeRB ps ts := by
 have hp := hmo.packs
 rw [Bool.eq_iff_iff]
 constructor
 · intro h
   obtain ⟨t, ht⟩ := Option.isSome_iff_exists.1 h
   have hg : Grown ps ts has t ∧ t.f.pack = 0 := by
    have h2 := ht
    unfold treeT at h2
    split at h2
    · cases h2
    · rename_i t' ht'
      split at h2
      · cases h2
        have := grow_grown _ _ _ _ _ ht'
        exact ⟨this.1, this.2.1⟩
      · cases h2
   unfold treeRB
   rw [Bool.and_eq_true, List.all_eq_true, List.all_eq_true]
   refine ⟨fun x hx => ?_, fun s hs => decide_eq_true ?_⟩
   · have hm := tree_has hp ht (pack := x.pack) (by rw [hp.find hx]; rfl)
     obtain ⟨c, hc⟩ := tree_chain hp ht hm
     have hl := hc.len hp
     simp only [List.length_cons] at hl
     have := hmo.ln
     rw [chain_way hp 201 300 x.pack c [] hc (by omega) (by omega)]
     rfl
   · rcases hin s hs with h0 | h0
     · have := hg.1.miss
       rw [hg.2] at this
       rw [h0]
       have e := this.1
       omega
     · have hm := tree_has hp ht h0
       obtain ⟨k, hk, he⟩ := List.mem_map.1 hm
       have := (grown_pre t hg.1 k hk).1.miss
       rw [he] at this
       have e := this.1
       omega
 · intro h
   unfold treeRB at h
   rw [Bool.and_eq_true, List.all_eq_true, List.all_eq_true] at h
   obtain ⟨h1, h2⟩ := h
   have hch : ∀ x ∈ ps, ∃ c, Chain ps (x.pack :: c) := fun x hx => by
    obtain ⟨r, hr⟩ := Option.isSome_iff_exists.1 (h1 x hx)
    exact way_chain _ _ _ _ hr
   obtain ⟨t, ht⟩ := grow_fits (has := has) hp (fun s hs => of_decide_eq_true (h2 s hs)) (ps.length + 1) 0 0 1099511627776 [] .root (by simp)
   have hg := grow_grown _ _ _ _ _ ht
   have hle := grow_count hp ht
   have hge : ps.length ≤ t.pre.length := by
    have := hp.nodup.length_le_of_subset (l₂ := t.pre.map (fun k => k.f.pack)) (fun y hy => by
     obtain ⟨x, hx, rfl⟩ := List.mem_map.1 hy
     obtain ⟨c, hc⟩ := hch x hx
     rcases chain_in hg.1 hg.2.1 c _ hc with e | e
     · exact absurd e (hp.pos x hx)
     · exact e)
    simpa using this
   unfold treeT
   rw [ht]
   simp only
   rw [if_pos (by omega)]
   rfl
theorem tree_grown {ps ts : List Pa} {has : Int → Bool} {t : Tr} (ht : treeT ps ts has = some t) : Grown ps ts has t ∧ t.f.pack = 0 ∧ t.f.ownL = 0 ∧ t.f.ownH = 1099511627776 := by
 unfold treeT at ht
 split at ht
 · cases ht
 · rename_i t' ht'
   split at ht
   · cases ht
     exact grow_grown _ _ _ _ _ ht'
   · cases ht
end Go.Proofs.YtehplmeckfinoaaGreatDoor
