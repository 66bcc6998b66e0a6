/- The plain law of growing a tree: its depth, its bounds (no dump). -/
import Derived.Test.YtehplmeckfinoaaGreatDoorCModel
import Derived.Test.YtehplmeckfinoaaGreatDoorCNode
set_option linter.unusedSimpArgs false
set_option linter.unusedVariables false
namespace Go.Proofs.YtehplmeckfinoaaGreatDoor
open Go.RowKit
mutual
def Tr.sh : Tr → Tr
 | .node _ f ks => .node 0 f (shL ks)
def shL : List Tr → List Tr
 | [] => []
 | k :: r => k.sh :: shL r
end
theorem shL_map (l : List Tr) : shL l = l.map Tr.sh := by
 induction l with
 | nil => rfl
 | cons k r ih => simp only [shL, List.map_cons, ih]
theorem sh_f (t : Tr) : t.sh.f = t.f := by cases t; simp only [Tr.sh, f_node]
theorem sh_ks (t : Tr) : t.sh.ks = t.ks.map Tr.sh := by cases t; simp only [Tr.sh, ks_node, shL_map]
theorem sumLow_sh (l : List Tr) : sumLow (shL l) = sumLow l := by
 induction l with
 | nil => rfl
 | cons k r ih => simp only [shL, sumLow_cons, ih, sh_f]
theorem sumOwn_sh (l : List Tr) : sumOwn (shL l) = sumOwn l := by
 induction l with
 | nil => rfl
 | cons k r ih => simp only [shL, sumOwn_cons, ih, sh_f]
mutual
theorem riseT_sh : ∀ t : Tr, riseT t.sh = (riseT t).map Tr.sh
 | .node b f ks => by
   simp only [Tr.sh]
   unfold riseT
   rw [riseL_sh ks]
   cases riseL ks with
   | none => rfl
   | some ks' =>
     simp only [Option.map_some, sumLow_sh, sumOwn_sh]
     split
     · rfl
     · simp only [Option.map_some, Tr.sh]
theorem riseL_sh : ∀ l : List Tr, riseL (shL l) = (riseL l).map shL
 | [] => rfl
 | k :: r => by
   simp only [shL]
   unfold riseL
   rw [riseT_sh k]
   cases riseT k with
   | none => rfl
   | some k' =>
     simp only [Option.map_some]
     rw [riseL_sh r]
     cases riseL r with
     | none => rfl
     | some r' => simp only [Option.map_some, shL]
end
mutual
theorem sinkT_sh (lo hi : Int) : ∀ t : Tr, (sinkT lo hi t).sh = sinkT lo hi t.sh
 | .node b f ks => by simp only [sinkT, Tr.sh, sinkL_sh, sumLow_sh, sumOwn_sh]
theorem sinkL_sh (top sl low high : Int) : ∀ l : List Tr, shL (sinkL top sl low high l) = sinkL top sl low high (shL l)
 | [] => rfl
 | k :: r => by simp only [sinkL, shL, sinkT_sh, sinkL_sh top sl low high r, sh_f]
end
theorem solveT_sh (t : Tr) : solveT t.sh = (solveT t).map Tr.sh := by
 unfold solveT
 rw [riseT_sh]
 cases riseT t with
 | none => rfl
 | some t' => simp only [Option.map_some, sinkT_sh, sh_f]
mutual
theorem pre_sh : ∀ t : Tr, t.sh.pre = t.pre.map Tr.sh
 | .node b f ks => by simp only [Tr.sh, Tr.pre, preL_sh]
theorem preL_sh : ∀ l : List Tr, preL (shL l) = (preL l).map Tr.sh
 | [] => rfl
 | k :: r => by simp only [shL, preL, List.map_cons, List.map_append, pre_sh k, preL_sh r]
end
theorem findT_sh (t : Tr) (pack : Int) : findT t.sh pack = (findT t pack).map Tr.sh := by
 unfold findT
 rw [pre_sh, List.find?_map]
 congr 1
 congr 1
 funext k
 simp only [Function.comp, sh_f]
mutual
theorem Bd_sh : ∀ t : Tr, Bd t.sh → Bd t
 | .node b f ks, h => by
   have h1 := h.fb
   have h2 := h.len
   have h3 := h.kids
   simp only [Tr.sh, f_node, ks_node, shL_map, List.length_map] at h1 h2 h3
   exact .node h1 h2 (BdL_sh ks (by rw [shL_map]; exact h3))
theorem BdL_sh : ∀ l : List Tr, (∀ k ∈ shL l, Bd k) → ∀ k ∈ l, Bd k
 | [], _, k, hk => by simp at hk
 | x :: r, h, k, hk => by
   rcases List.mem_cons.1 hk with e | hk
   · rw [e]; exact Bd_sh x (h _ (by simp [shL]))
   · exact BdL_sh r (fun y hy => h y (by simp [shL, hy])) k hk
end
theorem mapO_snoc {α β : Type} {g : α → Option β} : ∀ {l : List α} {ys : List β} {x : α} {y : β}, mapO g l = some ys → g x = some y → mapO g (l ++ [x]) = some (ys ++ [y])
 | [], ys, x, y, h, h2 => by
   simp only [mapO] at h; cases h
   simp only [List.nil_append, mapO, h2]
 | z :: r, ys, x, y, h, h2 => by
   simp only [mapO] at h
   cases e : g z with
   | none => rw [e] at h; simp at h
   | some z' =>
     rw [e] at h
     simp only at h
     cases e2 : mapO g r with
     | none => rw [e2] at h; simp at h
     | some r' =>
       rw [e2] at h
       cases h
       simp only [List.cons_append, mapO, e, mapO_snoc e2 h2]
theorem mapO_bad {α β : Type} {g : α → Option β} : ∀ {l : List α} {ys : List β} {x : α} (r : List α), mapO g l = some ys → g x = none → mapO g (l ++ x :: r) = none
 | [], ys, x, r, h, h2 => by simp only [List.nil_append, mapO, h2]
 | z :: q, ys, x, r, h, h2 => by
   simp only [mapO] at h
   cases e : g z with
   | none => rw [e] at h; simp at h
   | some z' =>
     rw [e] at h
     simp only at h
     cases e2 : mapO g q with
     | none => rw [e2] at h; simp at h
     | some r' => simp only [List.cons_append, mapO, e, mapO_bad r e2 h2]
theorem mapO_mem {α β : Type} {g : α → Option β} : ∀ {l : List α} {ys : List β}, mapO g l = some ys → ys.length = l.length ∧ ∀ y ∈ ys, ∃ x ∈ l, g x = some y
 | [], ys, h => by simp only [mapO] at h; cases h; simp
 | z :: r, ys, h => by
   simp only [mapO] at h
   cases e : g z with
   | none => rw [e] at h; simp at h
   | some z' =>
     rw [e] at h
     simp only at h
     cases e2 : mapO g r with
     | none => rw [e2] at h; simp at h
     | some r' =>
       rw [e2] at h
       cases h
       obtain ⟨h1, h2⟩ := mapO_mem e2
       refine ⟨by simp [h1], fun y hy => ?_⟩
       rcases List.mem_cons.1 hy with rfl | hy
       · exact ⟨z, by simp, e⟩
       · obtain ⟨x, hx, hg⟩ := h2 y hy
         exact ⟨x, List.mem_cons_of_mem _ hx, hg⟩
structure Packs (ps : List Pa) : Prop where
 nodup : (ps.map (·.pack)).Nodup
 pos : ∀ x ∈ ps, x.pack ≠ 0
theorem Packs.uniq {ps : List Pa} (h : Packs ps) {x y : Pa} (hx : x ∈ ps) (hy : y ∈ ps) (e : x.pack = y.pack) : x = y := by
 have h1 := h.nodup
 clear h
 induction ps with
 | nil => simp at hx
 | cons z r ih =>
   simp only [List.map_cons, List.nodup_cons] at h1
   rcases List.mem_cons.1 hx with e1 | hx2
   · rcases List.mem_cons.1 hy with e2 | hy2
     · rw [e1, e2]
     · exact absurd (show z.pack ∈ r.map (·.pack) from List.mem_map.2 ⟨y, hy2, by rw [← e, e1]⟩) h1.1
   · rcases List.mem_cons.1 hy with e2 | hy2
     · exact absurd (show z.pack ∈ r.map (·.pack) from List.mem_map.2 ⟨x, hx2, by rw [e, e2]⟩) h1.1
     · exact ih hx2 hy2 h1.2
theorem Packs.find {ps : List Pa} (h : Packs ps) {x : Pa} (hx : x ∈ ps) : ofI ps x.pack = some x := by
 unfold ofI
 cases e : ps.find? (fun y => decide (y.pack = x.pack)) with
 | none =>
   rw [List.find?_eq_none] at e
   exact (e x hx (by simp)).elim
 | some y =>
   have h1 := List.find?_some e
   simp only [decide_eq_true_eq] at h1
   rw [h.uniq (List.mem_of_find?_eq_some e) hx h1]
inductive Chain (ps : List Pa) : List Int → Prop
 | root : Chain ps [0]
 | step {x : Pa} {c : List Int} (hx : x ∈ ps) (h : Chain ps (x.inn :: c)) : Chain ps (x.pack :: x.inn :: c)
theorem Chain.inv {ps : List Pa} {l : List Int} (h : Chain ps l) : ∀ {a b : Int} {r : List Int}, l = a :: b :: r → ∃ x ∈ ps, x.pack = a ∧ x.inn = b := by
 cases h with
 | root => intro a b r e; simp at e
 | @step x c hx h => intro a b r e; injection e with e1 e2; injection e2 with e2 e3; exact ⟨x, hx, e1, e2⟩
theorem Chain.next {ps : List Pa} (hp : Packs ps) : ∀ {l : List Int}, Chain ps l → ∀ {q : Int} {c : List Int}, l = q :: c → ∀ x ∈ ps, x.pack ∈ l → x.inn ∈ c := by
 intro l h
 induction h with
 | root =>
   intro q c _ x hx hm
   exact absurd (List.mem_singleton.1 hm) (hp.pos x hx)
 | @step y c' hy h ih =>
   intro q c e x hx hm
   cases e
   rcases List.mem_cons.1 hm with e2 | hm
   · rw [hp.uniq hx hy e2]; simp
   · exact List.mem_cons_of_mem _ (ih rfl x hx hm)
theorem Chain.nodup {ps : List Pa} (hp : Packs ps) {l : List Int} (h : Chain ps l) : l.Nodup := by
 induction h with
 | root => simp
 | @step x c hx h ih =>
   rw [List.nodup_cons]
   refine ⟨fun hm => ?_, ih⟩
   have := h.next hp rfl x hx hm
   exact (List.nodup_cons.1 ih).1 this
theorem Chain.len {ps : List Pa} (hp : Packs ps) {l : List Int} (h : Chain ps l) : l.length ≤ ps.length + 1 := by
 have h1 : ∀ y ∈ l, y ∈ 0 :: ps.map (·.pack) := by
  clear hp
  induction h with
  | root => intro y hy; rw [List.mem_singleton.1 hy]; simp
  | @step x c hx h ih =>
    intro y hy
    rcases List.mem_cons.1 hy with rfl | hy
    · exact List.mem_cons_of_mem _ (List.mem_map.2 ⟨x, hx, rfl⟩)
    · exact ih y hy
 have := (h.nodup hp).length_le_of_subset h1
 simpa using this
theorem Chain.det {ps : List Pa} (hp : Packs ps) : ∀ {l : List Int}, Chain ps l → ∀ {m : List Int}, Chain ps m → l.head? = m.head? → l = m := by
 intro l h
 induction h with
 | root =>
   intro m hm e
   cases hm with
   | root => rfl
   | @step y c hy h => simp at e; exact absurd e.symm (hp.pos y hy)
 | @step x c hx h ih =>
   intro m hm e
   cases hm with
   | root => simp at e; exact absurd e (hp.pos x hx)
   | @step y c2 hy h2 =>
     simp at e
     have := hp.uniq hx hy e
     subst this
     rw [ih h2 rfl]
theorem inside_mem {ps : List Pa} {pack p : Int} (h : p ∈ insideI ps pack) : ∃ x ∈ ps, x.inn = pack ∧ x.pack = p := by
 unfold insideI at h
 obtain ⟨x, hx, rfl⟩ := List.mem_map.1 h
 rw [List.mem_filter] at hx
 exact ⟨x, hx.1, by simpa using hx.2, rfl⟩
theorem inside_nodup {ps : List Pa} (hp : Packs ps) (pack : Int) : (insideI ps pack).Nodup := by
 unfold insideI
 exact hp.nodup.sublist (List.Sublist.map _ List.filter_sublist)
theorem growT_pack {ps ts : List Pa} {has : Int → Bool} {d : Nat} {pack oL oH : Int} {t : Tr} (h : growT ps ts has d pack oL oH = some t) : t.f.pack = pack := by
 cases d with
 | zero => simp only [growT] at h; cases h
 | succ d =>
   simp only [growT] at h
   split at h
   · cases h
   · split at h
     · cases h
     · cases h; rfl
theorem grow_chain {ps ts : List Pa} {has : Int → Bool} (hp : Packs ps) : ∀ (d : Nat) (pack oL oH : Int) (t : Tr) (c : List Int), growT ps ts has d pack oL oH = some t → Chain ps (pack :: c) →
 (t.pre.map (fun k => k.f.pack)).Nodup ∧ ∀ k ∈ t.pre, ∃ l, l ≠ [] ∧ Chain ps (l ++ pack :: c) ∧ l.head? = some k.f.pack
 | 0, pack, oL, oH, t, c, h, _ => by simp only [growT] at h; cases h
 | d + 1, pack, oL, oH, t, c, h, hc => by
   simp only [growT] at h
   split at h
   · cases h
   · rename_i ks hks
     split at h
     · cases h
     · have h' := Option.some.inj h
       subst h'
       have hsub : ∀ (l : List Int) (qs : List Tr), (∀ p ∈ l, p ∈ insideI ps pack) → l.Nodup → mapO (fun p => growT ps ts has d p (ownOf has ((ofI ps p).getD pa0)).1 (ownOf has ((ofI ps p).getD pa0)).2) l = some qs →
        ((preL qs).map (fun k => k.f.pack)).Nodup ∧ ∀ k ∈ preL qs, ∃ l', l' ≠ [] ∧ Chain ps (l' ++ pack :: c) ∧ l'.head? = some k.f.pack ∧ ∃ p ∈ l, l'.getLast? = some p := by
        intro l
        induction l with
        | nil => intro qs _ _ h; simp only [mapO] at h; cases h; simp [preL]
        | cons p r ih =>
          intro qs hin hnd h
          simp only [mapO] at h
          cases e : growT ps ts has d p (ownOf has ((ofI ps p).getD pa0)).1 (ownOf has ((ofI ps p).getD pa0)).2 with
          | none => rw [e] at h; simp at h
          | some q =>
            rw [e] at h
            simp only at h
            cases e2 : mapO (fun p => growT ps ts has d p (ownOf has ((ofI ps p).getD pa0)).1 (ownOf has ((ofI ps p).getD pa0)).2) r with
            | none => rw [e2] at h; simp at h
            | some qs' =>
              rw [e2] at h
              have h' := Option.some.inj h
              subst h'
              obtain ⟨a1, a2⟩ := ih qs' (fun y hy => hin y (List.mem_cons_of_mem _ hy)) (List.nodup_cons.1 hnd).2 e2
              obtain ⟨x, hx, hxi, hxp⟩ := inside_mem (hin p (by simp))
              have hch : Chain ps (p :: pack :: c) := by
               rw [← hxp, ← hxi]; rw [← hxi] at hc; exact .step hx hc
              obtain ⟨b1, b2⟩ := grow_chain hp d p _ _ q (pack :: c) e hch
              have hq := growT_pack e
              -- every node of q has a way whose last step into pack is p
              have b3 : ∀ k ∈ q :: q.pre, ∃ l', l' ≠ [] ∧ Chain ps (l' ++ pack :: c) ∧ l'.head? = some k.f.pack ∧ l'.getLast? = some p := by
               intro k hk
               rcases List.mem_cons.1 hk with rfl | hk
               · exact ⟨[p], by simp, hch, by simp [hq], by simp⟩
               · obtain ⟨l', h1, h2, h3⟩ := b2 k hk
                 refine ⟨l' ++ [p], by simp, by simpa using h2, ?_, by simp⟩
                 rw [List.head?_append, h3]; rfl
              have hlast : ∀ (l1 l2 : List Int) (p1 p2 : Int), Chain ps (l1 ++ pack :: c) → Chain ps (l2 ++ pack :: c) → l1.head? = l2.head? → l1 ≠ [] → l2 ≠ [] → l1.getLast? = some p1 → l2.getLast? = some p2 → p1 = p2 := by
               intro l1 l2 p1 p2 c1 c2 he n1 n2 g1 g2
               have := c1.det hp c2 (by
                cases l1 with
                | nil => exact absurd rfl n1
                | cons a r1 => cases l2 with
                  | nil => exact absurd rfl n2
                  | cons b r2 => simpa using he)
               have := List.append_cancel_right this
               rw [this, g2] at g1
               exact (Option.some.inj g1).symm
              refine ⟨?_, ?_⟩
              · simp only [preL, List.map_cons, List.map_append]
                rw [← List.cons_append, List.nodup_append]
                refine ⟨?_, a1, ?_⟩
                · rw [List.nodup_cons]
                  refine ⟨fun hm => ?_, b1⟩
                  obtain ⟨k, hk, he⟩ := List.mem_map.1 hm
                  obtain ⟨l', h1, h2, h3⟩ := b2 k hk
                  rw [he, hq] at h3
                  -- a way from p to p
                  have h5 := h2.nodup hp
                  cases l' with
                  | nil => exact h1 rfl
                  | cons z l'' =>
                    simp at h3
                    subst h3
                    rw [List.cons_append, List.nodup_cons] at h5
                    exact h5.1 (by simp)
                · intro y hy z hz hyz
                  subst hyz
                  have hy2 : y ∈ (q :: q.pre).map (fun k => k.f.pack) := by simpa using hy
                  obtain ⟨k1, hk1, he1⟩ := List.mem_map.1 hy2
                  obtain ⟨k2, hk2, he2⟩ := List.mem_map.1 hz
                  obtain ⟨l1, n1, c1, hh1, g1⟩ := b3 k1 hk1
                  obtain ⟨l2, n2, c2, hh2, p2, hp2, g2⟩ := a2 k2 hk2
                  have := hlast l1 l2 p p2 c1 c2 (by rw [hh1, hh2, he1, he2]) n1 n2 g1 g2
                  rw [← this] at hp2
                  exact (List.nodup_cons.1 hnd).1 hp2
              · intro k hk
                simp only [preL, List.mem_cons, List.mem_append] at hk
                rcases hk with rfl | hk | hk
                · obtain ⟨l', h1, h2, h3, h4⟩ := b3 _ (List.mem_cons_self)
                  exact ⟨l', h1, h2, h3, p, by simp, h4⟩
                · obtain ⟨l', h1, h2, h3, h4⟩ := b3 k (List.mem_cons_of_mem _ hk)
                  exact ⟨l', h1, h2, h3, p, by simp, h4⟩
                · obtain ⟨l', h1, h2, h3, p2, hp2, h4⟩ := a2 k hk
                  exact ⟨l', h1, h2, h3, p2, List.mem_cons_of_mem _ hp2, h4⟩
       obtain ⟨r1, r2⟩ := hsub (insideI ps pack) ks (fun _ h => h) (inside_nodup hp pack) hks
       refine ⟨r1, fun k hk => ?_⟩
       obtain ⟨l', h1, h2, h3, _⟩ := r2 k hk
       exact ⟨l', h1, h2, h3⟩
theorem grow_count {ps ts : List Pa} {has : Int → Bool} (hp : Packs ps) {t : Tr} {oL oH : Int} {d : Nat} (h : growT ps ts has d 0 oL oH = some t) : t.pre.length ≤ ps.length := by
 obtain ⟨h1, h2⟩ := grow_chain hp d 0 oL oH t [] h .root
 have h3 : ∀ y ∈ t.pre.map (fun k => k.f.pack), y ∈ ps.map (·.pack) := by
  intro y hy
  obtain ⟨k, hk, rfl⟩ := List.mem_map.1 hy
  obtain ⟨l, n, c, hh⟩ := h2 k hk
  cases l with
  | nil => exact absurd rfl n
  | cons a r =>
    simp at hh
    subst hh
    cases r with
    | nil =>
      obtain ⟨x, hx, h1, _⟩ := c.inv rfl
      exact List.mem_map.2 ⟨x, hx, h1⟩
    | cons b r' =>
      obtain ⟨x, hx, h1, _⟩ := c.inv rfl
      exact List.mem_map.2 ⟨x, hx, h1⟩
 have := h1.length_le_of_subset h3
 simpa using this
end Go.Proofs.YtehplmeckfinoaaGreatDoor
